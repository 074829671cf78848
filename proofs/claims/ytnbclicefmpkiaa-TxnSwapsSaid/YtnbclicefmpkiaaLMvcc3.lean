/- The law MvccMay. -/
import Derived.Test.YtnbclicefmpkiaaLMvcc2
import Derived.Test.YtnbclicefmpkiaaPMvcc3
namespace Go.Proofs.Ytnbclicefmpkiaa
open Go Go.AM Go.Proofs
set_option maxRecDepth 20000
set_option maxHeartbeats 4000000
set_option linter.unusedSimpArgs false
set_option linter.unusedVariables false
theorem keyOk_len {k : Bs} (h : keyOk k = true) : k.length ≤ 40 := by
  unfold keyOk at h
  simp only [Bool.and_eq_true, decide_eq_true_eq] at h
  exact h.1.2
theorem oneOk_wf {x : KV} (h : oneOk x = true) : x.wf := by
  obtain ⟨p1, p2, ⟨p3, p4⟩, ⟨p5, p6⟩, p7, p8, p9, p10⟩ := oneOk_iff.1 h
  have := keyOk_len p1
  unfold KV.wf I64 S64
  refine ⟨by omega, by omega, by omega, by omega, by omega, by omega⟩
theorem right_one {l : List KV} {b : Int} {e : Ev} (hg : GoodK l b) (hr : rightP l e = true) : oneOk e.kv = true := by
  unfold rightP at hr
  split at hr
  · rw [Bool.and_eq_true, kvEq_iff, findB_get, findX_get] at hr
    cases hq : getK l e.kv.key with
    | none => rw [hq] at hr; cases hr.1
    | some x =>
      rw [hq] at hr
      have : x = e.kv := hr.2
      rw [← this]
      exact (hg.one x (getK_some hq).1).1
  · rw [Bool.and_eq_true] at hr; exact hr.2
theorem logOk_one {srev : Int} : ∀ {log : List Ev} {l : List KV} {last b : Int}, GoodK l b → b ≤ last → logOk srev l last log = true → ∀ e ∈ log, oneOk e.kv = true
  | [], _, _, _, _, _, _, e, he => by cases he
  | e :: log, l, last, b, hg, hb, h, x, hx => by
    obtain ⟨h1, h2, h3, h4, h5⟩ := logOk_cons.1 h
    rcases List.mem_cons.1 hx with rfl | hx
    · exact right_one hg h3
    · exact logOk_one (right_good hg (by omega) h3) (Int.le_refl _) h5 x hx
theorem SOk.wf {s : Store} (h : SOk s) : s.wf := by
  have h1 := h.low0
  have h2 := h.lowr
  have h3 := h.revM
  have h4 := h.bl
  have h5 := h.ll
  unfold Store.wf
  refine ⟨by unfold I64; omega, by unfold I64; omega, ⟨fun x hx => oneOk_wf (h.good.one x hx).1, by omega⟩, ⟨fun e he => ?_, by omega⟩⟩
  have := h.all e he
  exact ⟨by unfold I64; omega, oneOk_wf (logOk_one h.good (by omega) h.log e he)⟩
theorem SOk.small {s : Store} (h : SOk s) : smallS s := by
  have h4 := h.bl
  have h5 := h.ll
  unfold smallS; omega
theorem now_l {s : Store} : (foldR s.base s.log.l s.rev).l = nowP s := foldR_l ..
theorem at_l (s : Store) (rev : Int) : (atR s rev).l = if atE s rev = 0 then foldP s.base.l s.log.l (atV s rev) else [] := by
  unfold atR; split
  · exact foldR_l ..
  · rfl
theorem at_len (s : Store) (rev : Int) : (atR s rev).l.length ≤ s.base.l.length + s.log.l.length := by
  rw [at_l]; split
  · exact foldP_len ..
  · simp
theorem at_old {s : Store} (h : SOk s) {ms : List Mut} (hN : applyN s ms = true) {rev : Int} (h0 : rev ≠ 0) (hr : rev ≤ s.rev) : atE (applyS s ms) rev = atE s rev ∧ (atR (applyS s ms) rev).l = (atR s rev).l := by
  have e : atE (applyS s ms) rev = atE s rev := by
    rw [(applyN_true hN).1]
    unfold atE
    rw [if_neg h0, if_neg h0]
    by_cases h1 : rev < 0
    · rw [if_pos (.inl h1), if_pos (.inl h1)]
    · have a1 : ¬ (rev < 0 ∨ s.rev < rev) := by omega
      have a2 : ¬ (rev < 0 ∨ s.rev + 1 < rev) := by omega
      rw [if_neg a1]
      simp only [if_neg a2]
  refine ⟨e, ?_⟩
  rw [at_l, at_l, e]
  have hv : ∀ s' : Store, atV s' rev = rev := fun s' => by unfold atV; rw [if_neg h0]
  rw [hv, hv, fold_old h hN hr]
theorem at_now {s : Store} (h : SOk s) : atE s s.rev = 0 ∧ (atR s s.rev).l = nowP s := by
  have h1 := h.low0
  have h2 := h.lowr
  have e : atE s s.rev = 0 := by
    unfold atE
    by_cases h0 : s.rev = 0
    · rw [if_pos h0]
    · rw [if_neg h0, if_neg (by omega), if_neg (by omega)]
  refine ⟨e, ?_⟩
  rw [at_l, if_pos e]
  unfold nowP atV
  split <;> rfl
theorem MvccMay_law (x0 : Store) (x1 : Sl Mut) (x2 : Int) (w0 : x0.wf) (w1 : (∀ y ∈ x1.l, y.wf) ∧ x1.l.length ≤ 9223372036854775807) (w2 : I64 x2) : EvF tab 8 [A x0.c, .g (Muts.g x1), I x2] [] = some ⟨.g (.bool true), [], []⟩ := by
  have m0 := fun H => FewS_ev x0 w0 H
  have m1 := fun H => May_ev x0 w0 H
  have m2 := fun H => short5_ev x1 w1.2 H
  have hk : ∀ m ∈ x1.l, m.key.length ≤ 9223372036854775807 := fun m hm => (w1.1 m hm).1
  refine EvF_walk t8 (by simp) ?_
  by_cases hg : fewS x0 = true ∧ storeOk x0 = true ∧ x1.l.length ≤ 40 ∧ allP shortM x1.l = true
  · obtain ⟨g1, g2, g3, g4⟩ := hg
    rw [g1] at m0
    rw [g2] at m1
    rw [g4] at m2
    have hs := storeOk_iff.1 g2
    have hr := storeOk_rev g2
    have hsm := fewS_smallS g1
    have m3 := fun H => Apply_ev x0 x1 hsm (by omega) hk (by omega) H
    have n1 : ¬ (40 : Int) < (x1.l.length : Int) := by omega
    obtain ⟨a1, a2, a3, a4, ha⟩ := store4 x0
    cases hN : applyN x0 x1.l
    · rw [(applyN_false hN).1, (applyN_false hN).2] at m3
      have m4 := fun H => SameS_ev x0 x0 ⟨rfl, rfl, rfl, rfl⟩ hsm H
      rw [ha] at m0 m1 m3 m4 ⊢
      generalize applyE x0 x1.l = e1 at m3
      simp only [A, List.map_cons, List.map_nil, Evs.g, Sl.g_nil] at m0 m1 m3 m4 ⊢
      by_cases he : e1 = 0
      · subst he
        simp -implicitDefEqProofs [live05, m0, m1, m2, m3, m4, n1]
      · simp -implicitDefEqProofs [live05, m0, m1, m2, m3, m4, n1, he]
    · obtain ⟨e1, e2⟩ := applyN_iff.1 hN
      have hts := apply_SOk hs x1.l
      have m5 := fun H => May_ev (applyS x0 x1.l) hts.wf H
      rw [storeOk_iff.2 hts] at m5
      have m6 := fun H => At_ev x0 x2 hsm H
      have m7 := fun H => At_ev (applyS x0 x1.l) x2 hts.small H
      have m8 := fun H => At_ev (applyS x0 x1.l) (applyS x0 x1.l).rev hts.small H
      have m9 := fun H => Now_ev (applyS x0 x1.l) hts.small H
      have q1 := at_now hts
      have q2 := at_len x0 x2
      have q3 := hts.nowLen
      have m10 := fun H => KVs_ev (atR (applyS x0 x1.l) (applyS x0 x1.l).rev) (foldR (applyS x0 x1.l).base (applyS x0 x1.l).log.l (applyS x0 x1.l).rev) (by rw [q1.2, now_l]) (by rw [now_l]; omega) H
      have q4 := fun h0 hr => at_old hs hN (rev := x2) h0 hr
      have m11 := fun h0 hr H => KVs_ev (atR x0 x2) (atR (applyS x0 x1.l) x2) (q4 h0 hr).2.symm (by rw [(q4 h0 hr).2]; omega) H
      rw [q1.1] at m8
      generalize atR (applyS x0 x1.l) (applyS x0 x1.l).rev = r1 at m8 m10
      generalize foldR (applyS x0 x1.l).base (applyS x0 x1.l).log.l (applyS x0 x1.l).rev = r2 at m9 m10
      generalize atR x0 x2 = r3 at m6 m11
      generalize atR (applyS x0 x1.l) x2 = r4 at m7 m11
      have q5 := fun h0 hr => (q4 h0 hr).1
      generalize atE (applyS x0 x1.l) x2 = e3 at m7 q5
      generalize atE x0 x2 = e4 at m6 q5
      have hll := hts.ll
      rw [(applyN_true hN).1] at m3 m5 m7 m8 m9 hll
      rw [(applyN_true hN).2, e1] at m3
      simp only [Sl.l_of, List.length_append] at hll
      generalize (moreP x0 x1.l).1 = E1 at m3 m5 m7 m8 m9 e2 hll
      obtain ⟨srev, slow, sbase, slog⟩ := x0
      simp only at hr hll m11 q5 m3 m5 m7 m8 m9
      have wq1 : IntKind.i64.wrap (srev + 1) = srev + 1 := wrap_i64 (by omega) (by omega)
      have wq2 : IntKind.i64.wrap ((slog.l.length : Int) + (E1.length : Int)) = (slog.l.length : Int) + (E1.length : Int) := wrap_i64 (by omega) (by omega)
      have e2' : ¬ E1.length = 0 := by simpa using e2
      generalize hG : KVs.g sbase = G at *
      simp only [A, Store.c, hG, Evs.g, Sl.g_of, List.map_cons, List.map_nil, List.map_append] at m0 m1 m3 m5 m6 m7 m8 m9 ⊢
      by_cases h0 : x2 = 0
      · subst h0
        simp -implicitDefEqProofs [live05, m0, m1, m2, m3, m5, m6, m7, m8, m9, m10, n1, wq1, wq2, e2, e2']
      · by_cases h3 : x2 ≤ srev
        · have m11 := m11 h0 h3
          have q5 := q5 h0 h3
          subst q5
          simp -implicitDefEqProofs [live05, m0, m1, m2, m3, m5, m6, m7, m8, m9, m10, m11, n1, wq1, wq2, e2, e2', h0, h3]
        · simp -implicitDefEqProofs [live05, m0, m1, m2, m3, m5, m6, m7, m8, m9, m10, n1, wq1, wq2, e2, e2', h0, h3]
  · obtain ⟨a1, a2, a3, a4, ha⟩ := store4 x0
    rw [ha] at m0 m1 ⊢
    simp only [A, List.map_cons, List.map_nil] at m0 m1 ⊢
    cases g1 : fewS x0
    · rw [g1] at m0
      simp -implicitDefEqProofs [live05, m0]
    · rw [g1] at m0
      cases g2 : storeOk x0
      · rw [g2] at m1
        simp -implicitDefEqProofs [live05, m0, m1]
      · rw [g2] at m1
        by_cases n1 : (40 : Int) < (x1.l.length : Int)
        · simp -implicitDefEqProofs [live05, m0, m1, n1]
        · cases g4 : allP shortM x1.l
          · rw [g4] at m2
            simp -implicitDefEqProofs [live05, m0, m1, m2, n1]
          · exact absurd ⟨g1, g2, by omega, g4⟩ hg
end Go.Proofs.Ytnbclicefmpkiaa
