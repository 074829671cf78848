/- The laws WatchTells and WatchAll. -/
import Derived.Test.YtibnbcljmfigfaaLLive07
namespace Go.Proofs.Ytibnbcljmfigfaa
open Go Go.AM Go.Proofs
set_option maxRecDepth 20000
set_option maxHeartbeats 4000000
set_option linter.unusedSimpArgs false
set_option linter.unusedVariables false
theorem WatchTells_law (x0 : Store) (x1 : Bs) (x2 : Int × Int) (w0 : x0.wf) (w1 : S64 x1) (w2 : I64 x2.1 ∧ I64 x2.2) : EvF tab 3 [A x0.c, T x1, A (I2.c x2)] [] = some ⟨.g (.bool true), [], []⟩ := by
  have m0 := fun H => few7_ev x0 x1 w0 H
  refine EvF_walk t3 (by simp) ?_
  cases hf : few7 x0 x1
  · rw [hf] at m0
    generalize hc : x0.c = c at m0
    have hcl : ∃ a1 a2 a3 a4, c = [a1, a2, a3, a4] := by subst hc; exact ⟨_, _, _, _, rfl⟩
    obtain ⟨a1, a2, a3, a4, rfl⟩ := hcl
    simp only [A, List.map_cons, List.map_nil] at m0 ⊢
    simp -implicitDefEqProofs [live07, m0, I2.c]
  · rw [hf] at m0
    obtain ⟨hok, hsm, _⟩ := few7_ok hf
    have hb1 : 0 ≤ x0.rev := by have := hok.low0; have := hok.lowr; omega
    have hb2 := hok.revM
    have m1 := fun H => Since_ev x0 x1 x2.1 x2.2 hsm hb1 (by omega) hok.srt H
    have m2 := fun H => Since2_ev x0 x1 x2.1 x2.2 hsm hb1 (by omega) H
    have m3 := fun H => Events_ev (slOf (sinP x0 x1 x2.1 x2.2).1) (slOf (sinP x0 x1 x2.1 x2.2).1) rfl (by rw [slOf_l]; have := sinP_len x0 x1 x2.1 x2.2; have := hok.ll; omega) H
    generalize Evs.g (slOf (sinP x0 x1 x2.1 x2.2).1) = G at m1 m2 m3
    generalize hc : x0.c = c at m0 m1 m2
    have hcl : ∃ a1 a2 a3 a4, c = [a1, a2, a3, a4] := by subst hc; exact ⟨_, _, _, _, rfl⟩
    obtain ⟨a1, a2, a3, a4, rfl⟩ := hcl
    simp only [A, List.map_cons, List.map_nil] at m0 m1 m2 ⊢
    simp -implicitDefEqProofs [live07, m0, m1, m2, m3, I2.c]
theorem WatchAll_law (x0 : Store) (x1 : Sl KV) (x2 : Int × Int) (w0 : x0.wf) (w1 : (∀ y ∈ x1.l, y.wf) ∧ x1.l.length ≤ 9223372036854775807) (w2 : I64 x2.1 ∧ I64 x2.2) : EvF tab 4 [A x0.c, .g (KVs.g x1), A (I2.c x2)] [] = some ⟨.g (.bool true), [], []⟩ := by
  have m0 := fun H => few7_ev x0 [] w0 H
  have m9 := fun H => Few_ev x1 w1.2 40 H
  refine EvF_walk t4 (by simp) ?_
  cases hf : few7 x0 []
  · rw [hf] at m0
    generalize hc : x0.c = c at m0
    have hcl : ∃ a1 a2 a3 a4, c = [a1, a2, a3, a4] := by subst hc; exact ⟨_, _, _, _, rfl⟩
    obtain ⟨a1, a2, a3, a4, rfl⟩ := hcl
    simp only [A, List.map_cons, List.map_nil] at m0 ⊢
    simp -implicitDefEqProofs [live07, m0, I2.c]
  · rw [hf] at m0
    obtain ⟨hok, hsm, hl1, hl2⟩ := few7_ok hf
    cases hg : (decide ((x1.l.length : Int) ≤ 40) && allP shortKV x1.l)
    · rw [hg] at m9
      generalize hc : x0.c = c at m0
      have hcl : ∃ a1 a2 a3 a4, c = [a1, a2, a3, a4] := by subst hc; exact ⟨_, _, _, _, rfl⟩
      obtain ⟨a1, a2, a3, a4, rfl⟩ := hcl
      generalize KVs.g x1 = GX at m9 ⊢
      simp only [A, List.map_cons, List.map_nil] at m0 ⊢
      simp -implicitDefEqProofs [live07, m0, m9, I2.c]
    · rw [hg] at m9
      simp only [Bool.and_eq_true, decide_eq_true_eq] at hg
      have m3 := fun P H => Events_ev (slOf (allW x0 P x2.1 x2.2).1) (slOf (allW x0 P x2.1 x2.2).1) rfl (by rw [slOf_l]; have := allW_len x0 P x2.1 x2.2; omega) H
      have m4 := fun H => View_ev x1 x0.log (by omega) H
      have m5 := fun H => View2_ev x1 x0.log (by omega) H
      have m6 := fun H => KVs_ev (viewR x1 x0.log.l) (viewR2 x1 x0.log.l) (by rw [viewR_l, viewR2_l]) (by
        rw [viewR2_l]
        have : ∀ (e : List Ev) (l : List KV), (e.foldl actP l).length ≤ l.length + e.length := by
          intro e
          induction e with
          | nil => intro l; simp
          | cons x e ih =>
            intro l
            rw [List.foldl_cons]
            have h1 := ih (actP l x)
            have h2 := stepP_len x.rev l x
            rw [stepP_le (Int.le_refl _)] at h2
            simp only [List.length_cons]; omega
        have := this x0.log.l x1.l
        omega) H
      generalize KVs.g (viewR x1 x0.log.l) = V1 at m4 m6
      generalize KVs.g (viewR2 x1 x0.log.l) = V2 at m5 m6
      have key : ∀ P, (∀ H, EvF tab 20 [A x0.c, T P, I x2.1, I x2.2] H = some ⟨.tup [.g (Evs.g (slOf (allW x0 P x2.1 x2.2).1)), I (allW x0 P x2.1 x2.2).2], [], []⟩) ∧ (∀ H, EvF tab 21 [A x0.c, T P, I x2.1, I x2.2] H = some ⟨.tup [.g (Evs.g (slOf (allW x0 P x2.1 x2.2).1)), I (allW x0 P x2.1 x2.2).2], [], []⟩) := fun P => ⟨fun H => All_ev hok P x2.1 x2.2 H, fun H => All2_ev hok P x2.1 x2.2 H⟩
      rcases x1 with _ | l
      · obtain ⟨m1, m2⟩ := key []
        have m7 := m3 []
        generalize Evs.g (slOf (allW x0 [] x2.1 x2.2).1) = G at m1 m2 m7
        obtain ⟨a1, a2, a3, a4⟩ := x0
        simp only [A, Store.c, List.map_cons, List.map_nil, Sl.g_nil, KVs.g] at m0 m1 m2 m4 m5 m9 ⊢
        generalize hg4 : Evs.g a4 = G4 at m0 m1 m2 m4 m5 ⊢
        generalize hg3 : Sl.g 6 KV.c a3 = G3 at m0 m1 m2 ⊢
        simp -implicitDefEqProofs [live07, m0, m1, m2, m7, m4, m5, m6, m9, I2.c]
      · rcases l with _ | ⟨k, l⟩
        · obtain ⟨m1, m2⟩ := key []
          have m7 := m3 []
          generalize Evs.g (slOf (allW x0 [] x2.1 x2.2).1) = G at m1 m2 m7
          obtain ⟨a1, a2, a3, a4⟩ := x0
          simp only [A, Store.c, List.map_cons, List.map_nil, Sl.g_of, KVs.g] at m0 m1 m2 m4 m5 m9 ⊢
          generalize hg4 : Evs.g a4 = G4 at m0 m1 m2 m4 m5 ⊢
          generalize hg3 : Sl.g 6 KV.c a3 = G3 at m0 m1 m2 ⊢
          simp -implicitDefEqProofs [live07, m0, m1, m2, m7, m4, m5, m6, m9, I2.c]
        · obtain ⟨m1, m2⟩ := key k.key
          have m7 := m3 k.key
          generalize Evs.g (slOf (allW x0 k.key x2.1 x2.2).1) = G at m1 m2 m7
          obtain ⟨a1, a2, a3, a4⟩ := x0
          simp only [A, Store.c, List.map_cons, List.map_nil, Sl.g_of, KVs.g] at m0 m1 m2 m4 m5 m9 ⊢
          generalize hg4 : Evs.g a4 = G4 at m0 m1 m2 m4 m5 ⊢
          generalize hg3 : Sl.g 6 KV.c a3 = G3 at m0 m1 m2 ⊢
          simp only [KV.c] at m4 m5 m9
          simp -implicitDefEqProofs [live07, m0, m1, m2, m7, m4, m5, m6, m9, I2.c, KV.c]
end Go.Proofs.Ytibnbcljmfigfaa
