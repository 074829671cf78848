/- The law MemoKeeps. -/
import Derived.Test.YtibnbcljmfigfaaSMemoL
import Derived.Test.YtibnbcljmfigfaaLMemo1
namespace Go.Proofs.Ytibnbcljmfigfaa
open Go Go.AM Go.Proofs
set_option maxRecDepth 20000
set_option maxHeartbeats 2000000
set_option linter.unusedSimpArgs false
set_option linter.unusedVariables false
theorem MemoKeeps_law (x0 : Memos) (x1 : Int × Int) (x2 : Reply) (w0 : x0.wf) (w1 : I64 x1.1 ∧ I64 x1.2) (w2 : x2.wf) : EvF tab 9 [A x0.c, A (I2.c x1), A x2.c] [] = some ⟨.g (.bool true), [], []⟩ := by
  have m0 := fun H => FewM_ev x0 w0 H
  have k1 := fun H => Few_ev x2.kvs w2.2.2.2.2.2.2.1.2 40 H
  have k2 := fun H => FewEvents_ev x2.events w2.2.2.2.2.2.2.2.2 40 H
  refine EvF_walk t9 (by simp) ?_
  obtain ⟨n0, n1⟩ := x1
  obtain ⟨b1, hb1⟩ : ∃ b, (decide ((x2.kvs.l.length : Int) ≤ 40) && allP shortKV x2.kvs.l) = b := ⟨_, rfl⟩
  obtain ⟨b2, hb2⟩ : ∃ b, (decide ((x2.events.l.length : Int) ≤ 40) && allP shortEv x2.events.l) = b := ⟨_, rfl⟩
  rw [hb1] at k1
  rw [hb2] at k2
  cases hf : fewM x0
  · rw [hf] at m0
    clear hb1 hb2
    obtain ⟨r1, r2, r3, r4, r5, r6, r7, r8, r9⟩ := x2
    simp only [A, Memos.c, Reply.c, List.map_cons, List.map_nil] at m0 k1 k2 ⊢
    generalize MemoL.g x0.l = G1 at m0 ⊢
    generalize Floors.g x0.old = G2 at m0 ⊢
    generalize KVs.g r8 = G3 at k1 ⊢
    generalize Evs.g r9 = G4 at k2 ⊢
    cases b1 <;> cases b2 <;> simp -implicitDefEqProofs [live09, m0, k1, k2, I2.c]
  rw [hf] at m0
  obtain ⟨hl1, hl2⟩ := fewM_small hf
  have m1 := fun H => Look_ev x0 n0 n1 w0 (by omega) H
  have m2 := fun H => Look2_ev x0 n0 n1 (by omega) H
  have m3 := fun H => Keep_ev x0 n0 n1 x2 w0 (by omega) H
  have m4 := fun H => Keep2_ev x0 n0 n1 x2 (by omega) H
  obtain ⟨e1, e2⟩ := keepM2_l x0 n0 n1 x2
  have hkw := keepM_wf (q := n1) w0 (by omega) w1.1 w1.2 w2
  have hkw2 : (keepM2 x0 n0 n1 x2).wf := by unfold Memos.wf; rw [← e1, ← e2]; exact hkw
  have m5 := fun H => SameM_ev _ _ e1 e2 hkw2 H
  have m6 := fun H => AlikeS_ev _ (lookP_wf w0 n0 n1) H
  clear hb1 hb2
  generalize keepM x0 n0 n1 x2 = k at m3 m5
  generalize keepM2 x0 n0 n1 x2 = l at m4 m5
  generalize keepE x0 n0 n1 = e at m3 m4
  obtain ⟨⟨xr, xi, xf⟩, hx⟩ : ∃ v, lookP x0.l.l x0.old.l n0 n1 = v := ⟨_, rfl⟩
  rw [hx] at m1 m2 m6
  simp only at m1 m2 m6
  clear hx e1 e2 hkw hkw2
  obtain ⟨r1, r2, r3, r4, r5, r6, r7, r8, r9⟩ := x2
  obtain ⟨q1, q2, q3, q4, q5, q6, q7, q8, q9⟩ := xr
  simp only [A, Memos.c, Reply.c, List.map_cons, List.map_nil] at m0 m1 m2 m3 m4 m5 m6 k1 k2 ⊢
  generalize MemoL.g x0.l = G1 at m0 m1 m2 m3 m4 ⊢
  generalize Floors.g x0.old = G2 at m0 m1 m2 m3 m4 ⊢
  generalize KVs.g r8 = G3 at k1 m3 m4 ⊢
  generalize Evs.g r9 = G4 at k2 m3 m4 ⊢
  generalize KVs.g q8 = G5 at m1 m2 m6 ⊢
  generalize Evs.g q9 = G6 at m1 m2 m6 ⊢
  cases b1 <;> cases b2 <;> simp -implicitDefEqProofs [live09, m0, m1, m2, m3, m4, m5, m6, k1, k2, I2.c]
end Go.Proofs.Ytibnbcljmfigfaa
