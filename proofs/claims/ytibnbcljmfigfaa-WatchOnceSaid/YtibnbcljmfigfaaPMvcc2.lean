/- Stores that may be, and what comes of them. Pure. -/
import Derived.Test.YtibnbcljmfigfaaPMvcc1
namespace Go.Proofs.Ytibnbcljmfigfaa
open Go Go.AM Go.Proofs
set_option linter.unusedSimpArgs false
set_option linter.unusedVariables false
set_option linter.defProp false
theorem oneOk_iff {x : KV} : oneOk x = true ↔ keyOk x.key = true ∧ x.value.length ≤ 20 ∧ (1 ≤ x.create ∧ x.create ≤ 1099511627775) ∧ (x.create ≤ x.mod ∧ x.mod ≤ 1099511627775) ∧ 1 ≤ x.version ∧ x.version ≤ x.mod - x.create + 1 ∧ (0 ≤ x.lease ∧ x.lease ≤ 1099511627775) := by
  unfold oneOk numL
  simp only [Bool.and_eq_true, decide_eq_true_eq]
structure GoodK (l : List KV) (b : Int) : Prop where
  one : ∀ x ∈ l, oneOk x = true ∧ x.mod ≤ b
  srt : Srt l
theorem logOk_cons {srev last : Int} {l : List KV} {e : Ev} {log : List Ev} : logOk srev l last (e :: log) = true ↔ last ≤ e.rev ∧ e.rev ≤ srev ∧ rightP l e = true ∧ (actP l e).length ≤ 30 ∧ logOk srev (actP l e) e.rev log = true := by
  rw [show logOk srev l last (e :: log) = (okE srev l last e && logOk srev (stepP e.rev l e) e.rev log) from rfl, stepP_le (Int.le_refl _)]
  unfold okE
  rw [stepP_le (Int.le_refl _)]
  simp only [Bool.and_eq_true, Bool.not_eq_true', Bool.or_eq_false_iff, decide_eq_false_iff_not, decide_eq_true_eq]
  constructor
  · rintro ⟨⟨⟨⟨h1, h2⟩, h3⟩, h4⟩, h5⟩; exact ⟨by omega, by omega, h3, h4, h5⟩
  · rintro ⟨h1, h2, h3, h4, h5⟩; exact ⟨⟨⟨⟨by omega, by omega⟩, h3⟩, h4⟩, h5⟩
theorem nextP_mod (l : List KV) (m : Mut) (rev : Int) : (nextP l m rev).mod = rev := by unfold nextP; split <;> rfl
theorem right_good {l : List KV} {b : Int} {e : Ev} (hg : GoodK l b) (hb : b ≤ e.rev) (hr : rightP l e = true) : GoodK (actP l e) e.rev := by
  refine ⟨fun y hy => ?_, actP_srt e hg.srt⟩
  rcases mem_actP hy with hy | ⟨hn, rfl⟩
  · exact ⟨(hg.one y hy).1, by have := (hg.one y hy).2; omega⟩
  · unfold rightP at hr
    rw [if_neg (by rw [hn]; exact Bool.false_ne_true)] at hr
    rw [Bool.and_eq_true, kvEq_iff] at hr
    refine ⟨hr.2, ?_⟩
    have := congrArg KV.mod hr.1
    rw [nextP_mod] at this
    omega
theorem logOk_good {srev : Int} : ∀ {log : List Ev} {l : List KV} {last b : Int}, GoodK l b → b ≤ last → logOk srev l last log = true → ∀ B, b ≤ B → (∀ e ∈ log, e.rev ≤ B) → GoodK (log.foldl actP l) B
  | [], l, last, b, hg, _, _, B, hB, _ => ⟨fun x hx => ⟨(hg.one x hx).1, by have := (hg.one x hx).2; omega⟩, hg.srt⟩
  | e :: log, l, last, b, hg, hb, h, B, hB, hE => by
    obtain ⟨h1, h2, h3, h4, h5⟩ := logOk_cons.1 h
    rw [List.foldl_cons]
    exact logOk_good (right_good hg (by omega) h3) (Int.le_refl _) h5 B (hE e List.mem_cons_self) fun x hx => hE x (List.mem_cons_of_mem _ hx)
theorem logOk_all {srev : Int} : ∀ {log : List Ev} {l : List KV} {last : Int}, logOk srev l last log = true → ∀ e ∈ log, last ≤ e.rev ∧ e.rev ≤ srev
  | [], _, _, _, e, he => by cases he
  | e :: log, l, last, h, x, hx => by
    obtain ⟨h1, h2, h3, h4, h5⟩ := logOk_cons.1 h
    rcases List.mem_cons.1 hx with rfl | hx
    · exact ⟨h1, h2⟩
    · have := logOk_all h5 x hx; exact ⟨by omega, this.2⟩
theorem logOk_len {srev : Int} : ∀ {log : List Ev} {l : List KV} {last : Int}, l.length ≤ 30 → logOk srev l last log = true → (log.foldl actP l).length ≤ 30
  | [], _, _, hl, _ => hl
  | e :: log, l, last, hl, h => by
    obtain ⟨h1, h2, h3, h4, h5⟩ := logOk_cons.1 h
    rw [List.foldl_cons]; exact logOk_len h4 h5
theorem logOk_last {srev last last' : Int} {l : List KV} {log : List Ev} (h : logOk srev l last log = true) (h' : ∀ e ∈ log, last' ≤ e.rev) : logOk srev l last' log = true := by
  cases log with
  | nil => rfl
  | cons e log =>
    obtain ⟨h1, h2⟩ := logOk_cons.1 h
    exact logOk_cons.2 ⟨h' e List.mem_cons_self, h2⟩
theorem logOk_srev {srev srev' : Int} (hs : srev ≤ srev') : ∀ {log : List Ev} {l : List KV} {last : Int}, logOk srev l last log = true → logOk srev' l last log = true
  | [], _, _, _ => rfl
  | e :: log, l, last, h => by
    obtain ⟨h1, h2, h3, h4, h5⟩ := logOk_cons.1 h
    exact logOk_cons.2 ⟨h1, by omega, h3, h4, logOk_srev hs h5⟩
theorem logOk_app {srev : Int} : ∀ {a b : List Ev} {l : List KV} {last : Int}, logOk srev l last (a ++ b) = true → logOk srev l last a = true ∧ ∃ last', logOk srev (a.foldl actP l) last' b = true
  | [], b, l, last, h => ⟨rfl, last, h⟩
  | e :: a, b, l, last, h => by
    obtain ⟨h1, h2, h3, h4, h5⟩ := logOk_cons.1 h
    obtain ⟨k1, k2⟩ := logOk_app h5
    exact ⟨logOk_cons.2 ⟨h1, h2, h3, h4, k1⟩, k2⟩
theorem logOk_join {srev : Int} {b : List Ev} : ∀ {a : List Ev} {l : List KV} {last : Int}, logOk srev l last a = true → (∀ last' : Int, (∀ e ∈ a, e.rev ≤ srev) → last' ≤ srev → logOk srev (a.foldl actP l) last' b = true) → last ≤ srev → logOk srev l last (a ++ b) = true
  | [], l, last, _, hb, hl => hb last (fun _ h => by cases h) hl
  | e :: a, l, last, h, hb, hl => by
    obtain ⟨h1, h2, h3, h4, h5⟩ := logOk_cons.1 h
    exact logOk_cons.2 ⟨h1, h2, h3, h4, logOk_join h5 (fun last' ha hl' => hb last' (fun x hx => by rcases List.mem_cons.1 hx with rfl | hx; exact h2; exact ha x hx) hl') h2⟩
theorem logOk_split {srev : Int} (to : Int) : ∀ {log : List Ev} {l : List KV} {last : Int}, logOk srev l last log = true → ∃ a b, log = a ++ b ∧ (∀ e ∈ a, e.rev ≤ to) ∧ (∀ e ∈ b, to < e.rev)
  | [], _, _, _ => ⟨[], [], rfl, (fun _ h => nomatch h), (fun _ h => nomatch h)⟩
  | e :: log, l, last, h => by
    obtain ⟨h1, h2, h3, h4, h5⟩ := logOk_cons.1 h
    by_cases ht : e.rev ≤ to
    · obtain ⟨a, b, k1, k2, k3⟩ := logOk_split to h5
      exact ⟨e :: a, b, by rw [k1]; rfl, fun x hx => by rcases List.mem_cons.1 hx with rfl | hx; exact ht; exact k2 x hx, k3⟩
    · refine ⟨[], e :: log, rfl, (fun _ h => nomatch h), fun x hx => ?_⟩
      rcases List.mem_cons.1 hx with rfl | hx
      · omega
      · have := (logOk_all h5 x hx).1; omega
structure SOk (s : Store) : Prop where
  low0 : 0 ≤ s.low
  lowr : s.low ≤ s.rev
  revM : s.rev ≤ 1099511627774
  bl : s.base.l.length ≤ 30
  ll : s.log.l.length ≤ 60
  good : GoodK s.base.l s.low
  log : logOk s.rev s.base.l (s.low + 1) s.log.l = true
theorem storeOk_iff {s : Store} : storeOk s = true ↔ SOk s := by
  unfold storeOk headOk baseOk
  simp only [Bool.and_eq_true, Bool.not_eq_true', Bool.or_eq_false_iff, decide_eq_false_iff_not, Bool.not_eq_false', List.any_eq_false, decide_eq_true_eq, mayL_iff]
  constructor
  · rintro ⟨⟨h1, h2, h3, h4, h5, h6, h7⟩, h8, h9⟩
    exact ⟨by omega, by omega, by omega, by omega, by omega, ⟨fun x hx => ⟨h6 x hx, by have := h8 x hx; omega⟩, h7⟩, h9⟩
  · rintro ⟨h1, h2, h3, h4, h5, h6, h7⟩
    exact ⟨⟨by omega, by omega, by omega, by omega, by omega, fun x hx => (h6.one x hx).1, h6.srt⟩, fun x hx => by have := (h6.one x hx).2; omega, h7⟩
theorem SOk.all {s : Store} (h : SOk s) : ∀ e ∈ s.log.l, s.low < e.rev ∧ e.rev ≤ s.rev := fun e he => by
  have := logOk_all h.log e he; exact ⟨by omega, this.2⟩
def nowP (s : Store) : List KV := foldP s.base.l s.log.l s.rev
theorem SOk.now {s : Store} (h : SOk s) : nowP s = s.log.l.foldl actP s.base.l := foldP_le fun e he => (h.all e he).2
theorem SOk.nowGood {s : Store} (h : SOk s) : GoodK (nowP s) s.rev := by
  rw [h.now]
  exact logOk_good h.good (by omega) h.log s.rev (by have := h.lowr; omega) fun e he => (h.all e he).2
theorem SOk.nowLen {s : Store} (h : SOk s) : (nowP s).length ≤ 30 := by rw [h.now]; exact logOk_len h.bl h.log
/-! ### What is done -/
def nextK (o : Option KV) (m : Mut) (rev : Int) : KV :=
  match o with
  | some x => ⟨m.key, m.value, x.create, rev, IntKind.i64.wrap (x.version + 1), m.lease⟩
  | none => ⟨m.key, m.value, rev, rev, 1, m.lease⟩
theorem nextP_K (l : List KV) (m : Mut) (rev : Int) : nextP l m rev = nextK (getK l m.key) m rev := by
  unfold nextP nextK
  rw [findB_get, findX_get]
  cases getK l m.key <;> rfl
def mutK : List Mut → Bs → Option Mut
  | [], _ => none
  | m :: ms, k => if m.key = k then some m else mutK ms k
def outK (rev : Int) (l : List KV) (ms : List Mut) (k : Bs) : Option KV :=
  match mutK ms k with
  | none => getK l k
  | some m => if m.gone = true then none else some (nextK (getK l k) m rev)
def doesP (l : List KV) (m : Mut) : Bool := !(m.gone && (getK l m.key).isNone)
def actsN (l : List KV) (ms : List Mut) : Nat := (ms.filter (doesP l)).length
theorem mayMG_all : ∀ {ms : List Mut} {met : List Bs}, mayMG met ms = true → ∀ x ∈ ms, met.contains x.key = false ∧ mutOkM x = true
  | [], _, _, x, hx => by cases hx
  | m :: ms, met, h, x, hx => by
    unfold mayMG at h
    simp only [Bool.and_eq_true, Bool.not_eq_true'] at h
    rcases List.mem_cons.1 hx with rfl | hx
    · exact h.1
    · obtain ⟨k1, k2⟩ := mayMG_all h.2 x hx
      rw [List.contains_eq_any_beq, List.any_append, Bool.or_eq_false_iff] at k1
      rw [List.contains_eq_any_beq]
      exact ⟨k1.1, k2⟩
theorem mutK_none {k : Bs} : ∀ {ms : List Mut}, (∀ x ∈ ms, x.key ≠ k) → mutK ms k = none
  | [], _ => rfl
  | m :: ms, h => by unfold mutK; rw [if_neg (h m List.mem_cons_self)]; exact mutK_none fun x hx => h x (List.mem_cons_of_mem _ hx)
theorem mutOk_iff {m : Mut} : mutOkM m = true ↔ keyOk m.key = true ∧ m.value.length ≤ 20 ∧ 0 ≤ m.lease ∧ m.lease ≤ 1099511627775 := by
  unfold mutOkM
  simp only [Bool.and_eq_true, Bool.not_eq_true', Bool.or_eq_false_iff, decide_eq_false_iff_not]
  constructor
  · rintro ⟨h1, h2, h3, h4⟩; exact ⟨h1, by omega, by omega, by omega⟩
  · rintro ⟨h1, h2, h3, h4⟩; exact ⟨h1, by omega, by omega, by omega⟩
structure InvM (l : List KV) (met : List Bs) (rev : Int) : Prop where
  srt : Srt l
  one : ∀ x ∈ l, oneOk x = true ∧ x.mod ≤ rev ∧ (met.contains x.key = false → x.mod < rev)
theorem nextK_ok {l : List KV} {met : List Bs} {rev : Int} {m : Mut} (hi : InvM l met rev) (h1 : 1 ≤ rev) (h2 : rev ≤ 1099511627775) (hm : met.contains m.key = false) (hok : mutOkM m = true) : oneOk (nextK (getK l m.key) m rev) = true := by
  obtain ⟨o1, o2, o3, o4⟩ := mutOk_iff.1 hok
  cases hg : getK l m.key with
  | none => exact oneOk_iff.2 ⟨o1, o2, ⟨h1, h2⟩, ⟨Int.le_refl _, h2⟩, Int.le_refl _, by simp only [nextK]; omega, o3, o4⟩
  | some x =>
    obtain ⟨hx, hk⟩ := getK_some hg
    obtain ⟨i1, i2, i3⟩ := hi.one x hx
    have i3 := i3 (by rw [hk]; exact hm)
    obtain ⟨p1, p2, ⟨p3, p4⟩, ⟨p5, p6⟩, p7, p8, p9⟩ := oneOk_iff.1 i1
    have hw : IntKind.i64.wrap (x.version + 1) = x.version + 1 := wrap_i64 (by omega) (by omega)
    refine oneOk_iff.2 ⟨o1, o2, ⟨p3, p4⟩, ⟨?_, h2⟩, ?_, ?_, o3, o4⟩
    · show x.create ≤ rev; omega
    · show 1 ≤ IntKind.i64.wrap (x.version + 1); omega
    · show IntKind.i64.wrap (x.version + 1) ≤ rev - x.create + 1; omega
theorem evOf_key {rev : Int} {l : List KV} {m : Mut} (h : ¬ (m.gone && !findB l m.key) = true) : (evOf rev l m).kv.key = m.key := by
  unfold evOf
  split
  · rename_i hg
    rw [hg, Bool.true_and, Bool.not_eq_true', Bool.not_eq_false, findB_get] at h
    show (findX l m.key).key = m.key
    rw [findX_get]
    cases hq : getK l m.key with
    | none => rw [hq] at h; cases h
    | some x => exact (getK_some hq).2
  · show (nextP l m rev).key = m.key
    unfold nextP; split <;> rfl
theorem evOf_right {rev : Int} {l : List KV} {m : Mut} (h : ¬ (m.gone && !findB l m.key) = true) (ho : m.gone = false → oneOk (nextP l m rev) = true) : rightP l (evOf rev l m) = true := by
  have hk := evOf_key (rev := rev) h
  unfold rightP
  rw [hk]
  by_cases hg : m.gone = true
  · have e1 : (evOf rev l m).gone = true := hg
    have e2 : (evOf rev l m).kv = findX l m.key := by unfold evOf; rw [if_pos hg]
    rw [if_pos e1, e2]
    rw [hg, Bool.true_and, Bool.not_eq_true', Bool.not_eq_false] at h
    rw [h, Bool.true_and, kvEq_iff]
  · have hg' := Bool.eq_false_iff.2 hg
    have e1 : ¬ (evOf rev l m).gone = true := hg
    have e2 : (evOf rev l m).kv = nextP l m rev := by unfold evOf; rw [if_neg hg]
    rw [if_neg e1, e2, ho hg', Bool.and_true, kvEq_iff]
    unfold nextP
    by_cases hb : findB l m.key = true
    · simp only [if_pos hb]; rfl
    · simp only [if_neg hb]; rfl
theorem apply_ind {rev : Int} (h1 : 1 ≤ rev) (h2 : rev ≤ 1099511627775) : ∀ (ms : List Mut) (met : List Bs) (es : List Ev) (l : List KV) (f : Bool), InvM l met rev → mayMG met ms = true →
    ∃ E b, ms.foldl (evP rev) (es, l, f) = (es ++ E, E.foldl actP l, b) ∧ (∀ e ∈ E, e.rev = rev) ∧ E.length = actsN l ms ∧ (∀ k, getK (E.foldl actP l) k = outK rev l ms k) ∧ Srt (E.foldl actP l) ∧
      (b = false → f = false ∧ ∀ last, last ≤ rev → logOk rev l last E = true) := by
  intro ms
  induction ms with
  | nil => intro met es l f hi hm; exact ⟨[], f, by simp, (fun _ h => nomatch h), rfl, fun k => rfl, hi.srt, fun h => ⟨h, fun _ _ => rfl⟩⟩
  | cons m ms ih =>
    intro met es l f hi hm
    have hall := mayMG_all hm
    unfold mayMG at hm
    simp only [Bool.and_eq_true, Bool.not_eq_true'] at hm
    obtain ⟨⟨hnm, hok⟩, hrest⟩ := hm
    have hne : ∀ x ∈ ms, x.key ≠ m.key := fun x hx e => by
      have := (mayMG_all hrest x hx).1
      rw [e] at this; simp at this
    have hmk := mutK_none hne
    rw [List.foldl_cons]
    by_cases hs : (m.gone && !findB l m.key) = true
    · have e1 : evP rev (es, l, f) m = (es, l, f) := by unfold evP; rw [if_pos hs]
      obtain ⟨E, b, k1, k2, k3, k4, k5, k6⟩ := ih (met ++ [m.key]) es l f ⟨hi.srt, fun x hx => ⟨(hi.one x hx).1, (hi.one x hx).2.1, fun hc => (hi.one x hx).2.2 (by
        rw [List.contains_eq_any_beq, List.any_append, Bool.or_eq_false_iff] at hc
        rw [List.contains_eq_any_beq]; exact hc.1)⟩⟩ hrest
      rw [Bool.and_eq_true, Bool.not_eq_true', findB_get] at hs
      have hn : getK l m.key = none := by cases hq : getK l m.key with
        | none => rfl
        | some x => rw [hq] at hs; cases hs.2
      refine ⟨E, b, by rw [e1, k1], k2, ?_, fun k => ?_, k5, k6⟩
      · rw [k3]; unfold actsN
        rw [List.filter_cons, if_neg (by unfold doesP; rw [hs.1, hn]; simp)]
      · rw [k4]
        unfold outK
        rw [show mutK (m :: ms) k = if m.key = k then some m else mutK ms k from rfl]
        by_cases hk : m.key = k
        · subst hk; rw [if_pos rfl, hmk]; simp only [hs.1, if_true, hn]
        · rw [if_neg hk]
    · have hk := evOf_key (rev := rev) hs
      have hrev : (evOf rev l m).rev = rev := rfl
      have e1 : evP rev (es, l, f) m = (es ++ [evOf rev l m], actP l (evOf rev l m), f || decide (30 < (actP l (evOf rev l m)).length)) := by
        unfold evP; rw [if_neg hs]; simp only [stepP_le (show (evOf rev l m).rev ≤ rev by rw [hrev]; exact Int.le_refl _)]
      have hno : m.gone = false → (evOf rev l m).kv = nextK (getK l m.key) m rev := fun hg => by
        rw [← nextP_K]; unfold evOf; rw [if_neg (by rw [hg]; exact Bool.false_ne_true)]
      have hone := nextK_ok hi h1 h2 hnm hok
      have hr := evOf_right (rev := rev) hs (fun _ => by rw [nextP_K]; exact hone)
      have hget := fun k => actP_get (evOf rev l m) k hi.srt
      rw [hk] at hget
      have hgone : (evOf rev l m).gone = m.gone := rfl
      rw [hgone] at hget
      generalize hev : evOf rev l m = e at e1 hk hrev hr hget hno hgone
      obtain ⟨E, b, k1, k2, k3, k4, k5, k6⟩ := ih (met ++ [m.key]) (es ++ [e]) (actP l e) (f || decide (30 < (actP l e).length)) ⟨actP_srt e hi.srt, fun y hy => by
        rcases mem_actP hy with hy | ⟨hg, rfl⟩
        · refine ⟨(hi.one y hy).1, (hi.one y hy).2.1, fun hc => (hi.one y hy).2.2 ?_⟩
          rw [List.contains_eq_any_beq, List.any_append, Bool.or_eq_false_iff] at hc
          rw [List.contains_eq_any_beq]; exact hc.1
        · rw [hgone] at hg
          rw [hno hg]
          refine ⟨hone, ?_, fun hc => ?_⟩
          · have : (nextK (getK l m.key) m rev).mod = rev := by unfold nextK; split <;> rfl
            omega
          · have : (nextK (getK l m.key) m rev).key = m.key := by unfold nextK; split <;> rfl
            rw [this] at hc; simp at hc⟩ hrest
      refine ⟨e :: E, b, by rw [e1, k1]; simp, fun x hx => ?_, ?_, fun k => ?_, k5, fun hb => ?_⟩
      · rcases List.mem_cons.1 hx with rfl | hx
        · exact hrev
        · exact k2 x hx
      · rw [List.length_cons, k3]; unfold actsN
        rw [List.filter_cons, if_pos (by unfold doesP; rw [Bool.not_eq_true', Bool.eq_false_iff]; intro hh; apply hs; rw [Bool.and_eq_true] at hh ⊢; refine ⟨hh.1, ?_⟩; rw [findB_get]; cases hq : getK l m.key <;> simp [hq] at hh ⊢)]
        rw [List.length_cons]
        congr 1
        congr 1
        refine List.filter_congr fun x hx => ?_
        unfold doesP
        rw [hget, if_neg (hne x hx)]
      · rw [List.foldl_cons, k4]
        unfold outK
        rw [show mutK (m :: ms) k = if m.key = k then some m else mutK ms k from rfl]
        by_cases hq : m.key = k
        · subst hq
          rw [if_pos rfl, hmk]
          simp only [hget, if_true]
          by_cases hg : m.gone = true
          · rw [if_pos hg, if_pos hg]
          · rw [if_neg hg, if_neg hg, hno (Bool.eq_false_iff.2 hg)]
        · rw [if_neg hq, hget, if_neg (fun e => hq e.symm)]
      · obtain ⟨j1, j2⟩ := k6 hb
        rw [Bool.or_eq_false_iff, decide_eq_false_iff_not] at j1
        refine ⟨j1.1, fun last hl => logOk_cons.2 ⟨by rw [hrev]; exact hl, by rw [hrev]; exact Int.le_refl _, hr, by omega, ?_⟩⟩
        rw [hrev]; exact j2 rev (Int.le_refl _)
end Go.Proofs.Ytibnbcljmfigfaa
