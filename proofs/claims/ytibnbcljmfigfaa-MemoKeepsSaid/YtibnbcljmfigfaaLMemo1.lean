/- The law MemoMay. -/
import Derived.Test.YtibnbcljmfigfaaSMemoS
namespace Go.Proofs.Ytibnbcljmfigfaa
open Go Go.AM Go.Proofs
set_option maxRecDepth 20000
set_option maxHeartbeats 8000000
set_option linter.unusedSimpArgs false
set_option linter.unusedVariables false
theorem Memos.inv {gs : List GV} (h : HasTy (.p (.sl 11 (.p (.i .i64) (.p (.i .i64) (.p (.p (.i .i64) (.p (.i .i64) (.p (.i .i64) (.p (.i .i64) (.p (.i .i64) (.p (.i .i64) (.p .b (.p (.sl 6 tKV) (.p (.sl 8 tEv) .u))))))))) .u)))) (.p (.sl 2 (.p (.i .i64) (.p (.i .i64) .u))) .u)) gs) : ∃ x : Memos, x.wf ∧ gs = x.c := by
  obtain ⟨_, _, rfl, ha, _, _, rfl, hb, rfl⟩ := h
  obtain ⟨a, a1, a2, rfl⟩ := ha.sl_inv (fun _ => Memo.inv)
  obtain ⟨b, b1, b2, rfl⟩ := hb.sl_inv (fun _ => Floor.inv)
  exact ⟨⟨a, b⟩, ⟨⟨a1, a2⟩, ⟨b1, b2⟩⟩, rfl⟩
theorem look_kept {m k : Memos} {w q : Int} {r : Reply} (hk : KeptOk m.l.l m.old.l w q) (h : KeepOk m k w q r) : ((lookP k.l.l k.old.l w q).2.1 = true → (lookP k.l.l k.old.l w q).1 = r) ∧ ((lookP k.l.l k.old.l w q).2.1 = false → (lookP k.l.l k.old.l w q).2.2 = 7) := by
  unfold lookP
  cases hq : lookF k.l.l w q with
  | some x =>
    refine ⟨fun _ => ?_, fun h => by cases h⟩
    rcases h.found q x hq with ⟨_, h2⟩ | h2
    · exact h2
    · rw [hk.no] at h2; cases h2
  | none =>
    rcases h.lost q hq with ⟨_, h2⟩ | ⟨_, h2⟩
    · exact absurd rfl h2
    · simp [h2]
theorem look_same {m k : Memos} {w q b : Int} {r : Reply} (h : KeepOk m k w q r) : (lookP k.l.l k.old.l w b).2.1 = true → b = q ∨ ((lookP m.l.l m.old.l w b).2.1 = true ∧ (lookP m.l.l m.old.l w b).1 = (lookP k.l.l k.old.l w b).1) := by
  unfold lookP
  cases hq : lookF k.l.l w b with
  | some x =>
    intro _
    rcases h.found b x hq with ⟨h1, _⟩ | h2
    · exact .inl h1
    · rw [h2]; exact .inr ⟨rfl, rfl⟩
  | none =>
    simp only
    intro hh
    exfalso
    split at hh
    · cases hh
    · split at hh <;> cases hh
theorem look_other {m k : Memos} {w q a b : Int} {r : Reply} (h : KeepOk m k w q r) (ha : a ≠ w) : (lookP m.l.l m.old.l a b).1 = (lookP k.l.l k.old.l a b).1 ∧ (lookP m.l.l m.old.l a b).2.1 = (lookP k.l.l k.old.l a b).2.1 ∧
    ((lookP m.l.l m.old.l a b).2.2 = (lookP k.l.l k.old.l a b).2.2 ∨ ((lookP m.l.l m.old.l a b).2.2 = 0 ∧ (lookP k.l.l k.old.l a b).2.2 = 4)) := by
  unfold lookP
  rw [h.other a b ha, (h.fo a ha).1]
  cases lookF m.l.l a b with
  | some x => exact ⟨rfl, rfl, .inl rfl⟩
  | none =>
    simp only
    by_cases c1 : b ≤ floorP m.old.l a
    · rw [if_pos c1, if_pos c1]; exact ⟨rfl, rfl, .inl rfl⟩
    · rw [if_neg c1, if_neg c1]
      have hin : a ∈ whosP k.l.l k.old.l ↔ a ∈ whosP m.l.l m.old.l := by
        rw [h.who]; exact ⟨fun h => h.elim (fun e => absurd e ha) id, .inr⟩
      have hlen := nodup_sub_len (whosP_nodup m.l.l m.old.l) (b := whosP k.l.l k.old.l) (fun x hx => (h.who x).2 (.inr hx))
      by_cases c2 : 8 ≤ (whosP m.l.l m.old.l).length ∧ a ∉ whosP m.l.l m.old.l
      · have c3 : 8 ≤ (whosP k.l.l k.old.l).length ∧ a ∉ whosP k.l.l k.old.l := ⟨by omega, fun hh => c2.2 (hin.1 hh)⟩
        rw [if_pos c2, if_pos c3]; exact ⟨rfl, rfl, .inl rfl⟩
      · rw [if_neg c2]
        split
        · exact ⟨rfl, rfl, .inr ⟨rfl, rfl⟩⟩
        · exact ⟨rfl, rfl, .inl rfl⟩
def rr77 : Reply := ⟨0, 0, 0, 77, 0, 0, true, .nil, .nil⟩
theorem rr77_wf : rr77.wf := by simp [Reply.wf, rr77, I64]
theorem keepE_ok {m : Memos} {w q : Int} : keepE m w q = 0 ↔ (lookP m.l.l m.old.l w q).2.1 = false ∧ (lookP m.l.l m.old.l w q).2.2 = 0 := by
  unfold keepE
  cases (lookP m.l.l m.old.l w q).2.1 <;> simp
theorem lookP_wf {m : Memos} (wm : m.wf) (w q : Int) : (lookP m.l.l m.old.l w q).1.wf := by
  unfold lookP
  cases h : lookF m.l.l w q with
  | some x =>
    rw [lookF_eq] at h
    exact (wm.1.1 x (List.mem_of_find?_eq_some h)).2.2
  | none =>
    simp only
    have : rep0.wf := by simp [Reply.wf, rep0, I64]
    split
    · exact this
    · split <;> exact this
theorem MemoMay_law (x0 : Memos) (x1 : Int × Int) (x2 : Int × Int) (w0 : x0.wf) (w1 : I64 x1.1 ∧ I64 x1.2) (w2 : I64 x2.1 ∧ I64 x2.2) : EvF tab 10 [A x0.c, A (I2.c x1), A (I2.c x2)] [] = some ⟨.g (.bool true), [], []⟩ := by
  have m0 := fun H => FewM_ev x0 w0 H
  refine EvF_walk t10 (by simp) ?_
  obtain ⟨n0, n1⟩ := x1
  obtain ⟨o0, o1⟩ := x2
  cases hf : fewM x0
  · rw [hf] at m0
    simp only [A, Memos.c, List.map_cons, List.map_nil] at m0 ⊢
    generalize MemoL.g x0.l = G1 at m0 ⊢
    generalize Floors.g x0.old = G2 at m0 ⊢
    simp -implicitDefEqProofs [live09, m0, I2.c]
  rw [hf] at m0
  obtain ⟨hl1, hl2⟩ := fewM_small hf
  have m1 := fun H => MMay_ev x0 w0 (by omega) H
  cases hm : mayMe x0.l.l x0.old.l
  · rw [hm] at m1
    simp only [A, Memos.c, List.map_cons, List.map_nil] at m0 m1 ⊢
    generalize MemoL.g x0.l = G1 at m0 m1 ⊢
    generalize Floors.g x0.old = G2 at m0 m1 ⊢
    simp -implicitDefEqProofs [live09, m0, m1, I2.c]
  rw [hm] at m1
  have hmo := mayMe_iff.1 hm
  have m2 := fun H => Keep_ev x0 n0 n1 rr77 w0 (by omega) H
  have m3 := fun H => Look_ev x0 n0 n1 w0 (by omega) H
  by_cases he : keepE x0 n0 n1 = 0
  · obtain ⟨e1, e2⟩ := keepE_ok.1 he
    have hko := kept_ok e1 e2
    have hkk := keep_KeepOk rr77 e1 e2 hmo.keys
    have hmk := mayMe_iff.2 (keep_MayOk rr77 e1 e2 hmo)
    have hkl := keepM_len x0 n0 n1 rr77
    have hkw := keepM_wf (q := n1) w0 (by omega) w1.1 w1.2 rr77_wf
    have m4 := fun H => Look_ev (keepM x0 n0 n1 rr77) n0 n1 hkw (by omega) H
    have m5 := fun H => MMay_ev (keepM x0 n0 n1 rr77) hkw (by omega) H
    have m6 := fun H => AlikeS_ev rr77 rr77_wf H
    have m7 := fun H => Look_ev x0 o0 o1 w0 (by omega) H
    have m8 := fun H => Look_ev (keepM x0 n0 n1 rr77) o0 o1 hkw (by omega) H
    have m9 := fun H => AlikeS_ev _ (lookP_wf hkw o0 o1) H
    obtain ⟨v1, v2⟩ := look_kept hko hkk
    have v3 : o0 = n0 → (lookP (keepM x0 n0 n1 rr77).l.l (keepM x0 n0 n1 rr77).old.l o0 o1).2.1 = true → o1 = n1 ∨ ((lookP x0.l.l x0.old.l o0 o1).2.1 = true ∧ (lookP x0.l.l x0.old.l o0 o1).1 = (lookP (keepM x0 n0 n1 rr77).l.l (keepM x0 n0 n1 rr77).old.l o0 o1).1) := fun e => by subst e; exact look_same hkk
    have v4 := fun h => look_other (a := o0) (b := o1) hkk h
    rw [he] at m2
    rw [hmk] at m5
    generalize keepM x0 n0 n1 rr77 = k at m2 m4 m5 m8 m9 v1 v2 v3 v4
    obtain ⟨⟨xr, xi, xf⟩, hx⟩ : ∃ v, lookP k.l.l k.old.l n0 n1 = v := ⟨_, rfl⟩
    obtain ⟨⟨ar, ai, ac⟩, ha⟩ : ∃ v, lookP x0.l.l x0.old.l o0 o1 = v := ⟨_, rfl⟩
    obtain ⟨⟨pr, pi, pc⟩, hp⟩ : ∃ v, lookP k.l.l k.old.l o0 o1 = v := ⟨_, rfl⟩
    rw [hx] at m4 v1 v2
    rw [ha] at m7 v3 v4
    rw [hp] at m8 m9 v3 v4
    simp only at m4 v1 v2 m7 m8 m9 v3 v4
    clear hx ha hp
    obtain ⟨a1, a2, a3, a4, a5, a6, a7, a8, a9⟩ := ar
    obtain ⟨p1, p2, p3, p4, p5, p6, p7, p8, p9⟩ := pr
    obtain ⟨q1, q2, q3, q4, q5, q6, q7, q8, q9⟩ := xr
    have hxi : (xi = true ∧ (⟨q1, q2, q3, q4, q5, q6, q7, q8, q9⟩ : Reply) = rr77) ∨ (xi = false ∧ xf = 7) := by
      cases xi
      · exact .inr ⟨rfl, v2 rfl⟩
      · exact .inl ⟨rfl, v1 rfl⟩
    clear v1 v2
    generalize hK : k.c = kc at m2 m4 m5 m8
    have hkc : ∃ b1 b2, kc = [b1, b2] := by subst hK; exact ⟨_, _, rfl⟩
    obtain ⟨b1, b2, rfl⟩ := hkc
    by_cases ho : o0 = n0
    · have v3' := v3 ho
      clear v3 v4
      subst ho
      by_cases h1 : o1 = n1
      · subst h1
        rcases hxi with ⟨rfl, hr⟩ | ⟨rfl, rfl⟩
        · cases hr
          simp only [A, Memos.c, Reply.c, rr77, List.map_cons, List.map_nil, Sl.g_nil, KVs.g, Evs.g] at m0 m1 m2 m3 m4 m5 m6 m7 m8 m9 ⊢
          generalize MemoL.g x0.l = G1 at m0 m1 m2 m3 m7 ⊢
          generalize Floors.g x0.old = G2 at m0 m1 m2 m3 m7 ⊢
          cases pi <;> simp -implicitDefEqProofs [live09, m0, m1, m2, m3, m4, m5, m6, m7, m8, m9, I2.c]
        · simp only [A, Memos.c, Reply.c, rr77, List.map_cons, List.map_nil, Sl.g_nil, KVs.g, Evs.g] at m0 m1 m2 m3 m4 m5 m6 m7 m8 m9 ⊢
          generalize MemoL.g x0.l = G1 at m0 m1 m2 m3 m7 ⊢
          generalize Floors.g x0.old = G2 at m0 m1 m2 m3 m7 ⊢
          cases pi <;> simp -implicitDefEqProofs [live09, m0, m1, m2, m3, m4, m5, m6, m7, m8, m9, I2.c]
      · have hpi : pi = false ∨ (pi = true ∧ ai = true ∧ (⟨a1, a2, a3, a4, a5, a6, a7, a8, a9⟩ : Reply) = ⟨p1, p2, p3, p4, p5, p6, p7, p8, p9⟩) := by
          cases pi
          · exact .inl rfl
          · rcases v3' rfl with h | ⟨h2, h3⟩
            · exact absurd h h1
            · exact .inr ⟨rfl, h2, h3⟩
        rcases hxi with ⟨rfl, hr⟩ | ⟨rfl, rfl⟩
        · cases hr
          rcases hpi with rfl | ⟨rfl, rfl, hr⟩
          · simp only [A, Memos.c, Reply.c, rr77, List.map_cons, List.map_nil, Sl.g_nil, KVs.g, Evs.g] at m0 m1 m2 m3 m4 m5 m6 m7 m8 m9 ⊢
            generalize MemoL.g x0.l = G1 at m0 m1 m2 m3 m7 ⊢
            generalize Floors.g x0.old = G2 at m0 m1 m2 m3 m7 ⊢
            simp -implicitDefEqProofs [live09, m0, m1, m2, m3, m4, m5, m6, m7, m8, m9, I2.c, h1]
          · cases hr
            simp only [A, Memos.c, Reply.c, rr77, List.map_cons, List.map_nil, Sl.g_nil, KVs.g, Evs.g] at m0 m1 m2 m3 m4 m5 m6 m7 m8 m9 ⊢
            generalize MemoL.g x0.l = G1 at m0 m1 m2 m3 m7 ⊢
            generalize Floors.g x0.old = G2 at m0 m1 m2 m3 m7 ⊢
            simp -implicitDefEqProofs [live09, m0, m1, m2, m3, m4, m5, m6, m7, m8, m9, I2.c, h1]
        · rcases hpi with rfl | ⟨rfl, rfl, hr⟩
          · simp only [A, Memos.c, Reply.c, rr77, List.map_cons, List.map_nil, Sl.g_nil, KVs.g, Evs.g] at m0 m1 m2 m3 m4 m5 m6 m7 m8 m9 ⊢
            generalize MemoL.g x0.l = G1 at m0 m1 m2 m3 m7 ⊢
            generalize Floors.g x0.old = G2 at m0 m1 m2 m3 m7 ⊢
            simp -implicitDefEqProofs [live09, m0, m1, m2, m3, m4, m5, m6, m7, m8, m9, I2.c, h1]
          · cases hr
            simp only [A, Memos.c, Reply.c, rr77, List.map_cons, List.map_nil, Sl.g_nil, KVs.g, Evs.g] at m0 m1 m2 m3 m4 m5 m6 m7 m8 m9 ⊢
            generalize MemoL.g x0.l = G1 at m0 m1 m2 m3 m7 ⊢
            generalize Floors.g x0.old = G2 at m0 m1 m2 m3 m7 ⊢
            simp -implicitDefEqProofs [live09, m0, m1, m2, m3, m4, m5, m6, m7, m8, m9, I2.c, h1]
    · obtain ⟨hr, rfl, hc⟩ := v4 ho
      cases hr
      clear v3 v4
      have hc2 : ac = pc ∨ (¬ ac = pc ∧ ac = 0 ∧ pc = 4) := by
        by_cases h : ac = pc
        · exact .inl h
        · exact .inr ⟨h, hc.elim (fun e => absurd e h) id⟩
      rcases hxi with ⟨rfl, hr⟩ | ⟨rfl, rfl⟩
      · cases hr
        simp only [A, Memos.c, Reply.c, rr77, List.map_cons, List.map_nil, Sl.g_nil, KVs.g, Evs.g] at m0 m1 m2 m3 m4 m5 m6 m7 m8 m9 ⊢
        generalize MemoL.g x0.l = G1 at m0 m1 m2 m3 m7 ⊢
        generalize Floors.g x0.old = G2 at m0 m1 m2 m3 m7 ⊢
        rcases hc2 with rfl | ⟨h, rfl, rfl⟩
        · simp -implicitDefEqProofs [live09, m0, m1, m2, m3, m4, m5, m6, m7, m8, m9, I2.c, ho]
        · simp -implicitDefEqProofs [live09, m0, m1, m2, m3, m4, m5, m6, m7, m8, m9, I2.c, ho]
      · simp only [A, Memos.c, Reply.c, rr77, List.map_cons, List.map_nil, Sl.g_nil, KVs.g, Evs.g] at m0 m1 m2 m3 m4 m5 m6 m7 m8 m9 ⊢
        generalize MemoL.g x0.l = G1 at m0 m1 m2 m3 m7 ⊢
        generalize Floors.g x0.old = G2 at m0 m1 m2 m3 m7 ⊢
        rcases hc2 with rfl | ⟨h, rfl, rfl⟩
        · simp -implicitDefEqProofs [live09, m0, m1, m2, m3, m4, m5, m6, m7, m8, m9, I2.c, ho]
        · simp -implicitDefEqProofs [live09, m0, m1, m2, m3, m4, m5, m6, m7, m8, m9, I2.c, ho]
  · have hor : (lookP x0.l.l x0.old.l n0 n1).2.1 = true ∨ (lookP x0.l.l x0.old.l n0 n1).2.2 ≠ 0 := by
      cases h : (lookP x0.l.l x0.old.l n0 n1).2.1
      · exact .inr fun h2 => he (keepE_ok.2 ⟨h, h2⟩)
      · exact .inl rfl
    rw [keep_err hor] at m2
    have m4 := fun H => SameM_ev x0 x0 rfl rfl w0 H
    obtain ⟨⟨lr, li, le⟩, hl⟩ : ∃ v, lookP x0.l.l x0.old.l n0 n1 = v := ⟨_, rfl⟩
    unfold keepE at m2 he
    rw [hl] at m2 m3 he
    simp only at m2 m3 he
    obtain ⟨p1, p2, p3, p4, p5, p6, p7, p8, p9⟩ := lr
    simp only [A, Memos.c, Reply.c, rr77, List.map_cons, List.map_nil, Sl.g_nil, KVs.g, Evs.g] at m0 m1 m2 m3 m4 ⊢
    generalize MemoL.g x0.l = G1 at m0 m1 m2 m3 m4 ⊢
    generalize Floors.g x0.old = G2 at m0 m1 m2 m3 m4 ⊢
    cases li
    · simp only [Bool.false_eq_true, if_false] at m2 he
      simp -implicitDefEqProofs [live09, m0, m1, m2, m3, m4, I2.c, he]
    · simp only [if_true] at m2
      simp -implicitDefEqProofs [live09, m0, m1, m2, m3, m4, I2.c]
end Go.Proofs.Ytibnbcljmfigfaa
