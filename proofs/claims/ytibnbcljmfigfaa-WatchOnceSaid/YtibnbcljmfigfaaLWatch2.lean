/- The laws WatchGone and WatchMore. -/
import Derived.Test.YtibnbcljmfigfaaSWatch8
namespace Go.Proofs.Ytibnbcljmfigfaa
open Go Go.AM Go.Proofs
set_option maxRecDepth 20000
set_option maxHeartbeats 4000000
set_option linter.unusedSimpArgs false
set_option linter.unusedVariables false
theorem shrS_val {s : Store} {to : Int} (hz : shrE s to = 0) : shrS s to = ⟨s.rev, to, foldR s.base s.log.l to, keepR to s.log⟩ := by unfold shrS; rw [if_pos hz]
theorem keepR_l (to : Int) (s : Sl Ev) : (keepR to s).l = keepL to s.l := by cases s <;> rfl
theorem ofP_keep (l : List Ev) (p : Bs) {to rev : Int} (h : to < rev) : ofP (keepL to l) p rev = ofP l p rev := by
  unfold ofP keepL
  rw [List.filter_filter]
  apply List.filter_congr
  intro x _
  unfold inP
  by_cases h1 : rev ≤ x.rev
  · have : ¬ x.rev ≤ to := by omega
    simp [h1, this]
  · simp [h1]
theorem sinP_gone {s : Store} {to : Int} (hz : shrE s to = 0) (p : Bs) {rev most : Int} (h : to < rev) : sinP (shrS s to) p rev most = sinP s p rev most := by
  obtain ⟨z1, z2, z3⟩ := shrE_zero.1 hz
  rw [shrS_val hz]
  have e : sinE ⟨s.rev, to, foldR s.base s.log.l to, keepR to s.log⟩ rev most = sinE s rev most := by
    unfold sinE
    simp only
    rw [if_neg (show ¬ rev ≤ to by omega), if_neg (show ¬ rev ≤ s.low by omega)]
  unfold sinP
  rw [e]
  simp only [keepR_l]
  rw [ofP_keep _ _ h]
theorem WatchGone_law (x0 : Store) (x1 : Bs) (x2 : Int × Int × Int) (w0 : x0.wf) (w1 : S64 x1) (w2 : I64 x2.1 ∧ I64 x2.2.1 ∧ I64 x2.2.2) : EvF tab 7 [A x0.c, T x1, A (I3.c x2)] [] = some ⟨.g (.bool true), [], []⟩ := by
  have m0 := fun H => few7_ev x0 x1 w0 H
  refine EvF_walk t7 (by simp) ?_
  obtain ⟨to, n1, n2⟩ := x2
  cases hf : few7 x0 x1
  · rw [hf] at m0
    generalize hc : x0.c = c at m0
    have hcl : ∃ a1 a2 a3 a4, c = [a1, a2, a3, a4] := by subst hc; exact ⟨_, _, _, _, rfl⟩
    obtain ⟨a1, a2, a3, a4, rfl⟩ := hcl
    simp only [A, List.map_cons, List.map_nil] at m0 ⊢
    simp -implicitDefEqProofs [live07, m0, I3.c]
  · rw [hf] at m0
    obtain ⟨hok, hsm, hl1, hl2⟩ := few7_ok hf
    have hkk := shr_SOk hok to
    have hksm : smallS (shrS x0 to) := by have := hkk.bl; have := hkk.ll; unfold smallS; omega
    have hb1 : 0 ≤ x0.rev := by have := hok.low0; have := hok.lowr; omega
    have hb2 := hok.revM
    have hk1 : 0 ≤ (shrS x0 to).rev := by have := hkk.low0; have := hkk.lowr; omega
    have hk2 := hkk.revM
    have m1 := fun H => Shrink_ev x0 to hsm H
    have m2 := fun H => Since_ev x0 x1 n1 n2 hsm hb1 (by omega) hok.srt H
    have m3 := fun H => Since_ev (shrS x0 to) x1 n1 n2 hksm hk1 (by omega) hkk.srt H
    have m4 := fun H => Events_ev (slOf (sinP x0 x1 n1 n2).1) (slOf (sinP x0 x1 n1 n2).1) rfl (by rw [slOf_l]; have := sinP_len x0 x1 n1 n2; omega) H
    by_cases hz : shrE x0 to = 0
    · obtain ⟨z1, z2, z3⟩ := shrE_zero.1 hz
      by_cases hlt : to < n1
      · rw [sinP_gone hz x1 hlt] at m3
        rw [hz] at m1
        generalize Evs.g (slOf (sinP x0 x1 n1 n2).1) = G at m2 m3 m4
        generalize (sinP x0 x1 n1 n2).2.1 = i1 at m2 m3
        generalize (sinP x0 x1 n1 n2).2.2 = i2 at m2 m3
        generalize hc2 : (shrS x0 to).c = c2 at m1 m3
        have hcl2 : ∃ a1 a2 a3 a4, c2 = [a1, a2, a3, a4] := by subst hc2; exact ⟨_, _, _, _, rfl⟩
        obtain ⟨b1, b2, b3, b4, rfl⟩ := hcl2
        generalize hc : x0.c = c at m0 m1 m2
        have hcl : ∃ a1 a2 a3 a4, c = [a1, a2, a3, a4] := by subst hc; exact ⟨_, _, _, _, rfl⟩
        obtain ⟨a1, a2, a3, a4, rfl⟩ := hcl
        simp only [A, List.map_cons, List.map_nil] at m0 m1 m2 m3 ⊢
        simp -implicitDefEqProofs [live07, m0, m1, m2, m3, m4, I3.c, hlt]
      · by_cases hd : sinE x0 n1 n2 = 1 ∨ sinE x0 n1 n2 = 8
        · have hs : sinP x0 x1 n1 n2 = ([], 0, sinE x0 n1 n2) := by unfold sinP; rw [if_neg (by omega)]
          have hs2 : sinP (shrS x0 to) x1 n1 n2 = ([], 0, sinE x0 n1 n2) := by
            have e : sinE (shrS x0 to) n1 n2 = sinE x0 n1 n2 := by
              rw [shrS_val hz]
              unfold sinE at hd ⊢
              simp only
              by_cases c1 : n2 < 1 ∨ 30 < n2
              · rw [if_pos c1, if_pos c1]
              · rw [if_neg c1] at hd ⊢
                rw [if_neg c1]
                by_cases c2 : n1 < 1 ∨ x0.rev + 1 < n1
                · rw [if_pos c2, if_pos c2]
                · rw [if_neg c2] at hd
                  exfalso; split at hd <;> omega
            unfold sinP; rw [e, if_neg (by omega)]
          rw [hs] at m2 m4
          rw [hs2] at m3
          rw [hz] at m1
          generalize sinE x0 n1 n2 = i2 at m2 m3 hd
          generalize Evs.g (slOf []) = G at m2 m3 m4
          generalize hc2 : (shrS x0 to).c = c2 at m1 m3
          have hcl2 : ∃ a1 a2 a3 a4, c2 = [a1, a2, a3, a4] := by subst hc2; exact ⟨_, _, _, _, rfl⟩
          obtain ⟨b1, b2, b3, b4, rfl⟩ := hcl2
          generalize hc : x0.c = c at m0 m1 m2
          have hcl : ∃ a1 a2 a3 a4, c = [a1, a2, a3, a4] := by subst hc; exact ⟨_, _, _, _, rfl⟩
          obtain ⟨a1, a2, a3, a4, rfl⟩ := hcl
          simp only [A, List.map_cons, List.map_nil] at m0 m1 m2 m3 ⊢
          rcases hd with rfl | rfl
          · simp -implicitDefEqProofs [live07, m0, m1, m2, m3, m4, I3.c, hlt]
          · simp -implicitDefEqProofs [live07, m0, m1, m2, m3, m4, I3.c, hlt]
        · have hs2 : sinP (shrS x0 to) x1 n1 n2 = ([], 0, 9) := by
            have e : sinE (shrS x0 to) n1 n2 = 9 := by
              rw [shrS_val hz]
              unfold sinE at hd ⊢
              simp only
              by_cases c1 : n2 < 1 ∨ 30 < n2
              · rw [if_pos c1] at hd; omega
              · rw [if_neg c1] at hd ⊢
                by_cases c2 : n1 < 1 ∨ x0.rev + 1 < n1
                · rw [if_pos c2] at hd; omega
                · rw [if_neg c2, if_pos (by omega)]
            unfold sinP; rw [e, if_neg (by omega)]
          have hd1 : ¬ (sinP x0 x1 n1 n2).2.2 = 1 := by
            unfold sinP
            split
            · unfold cutP; split
              · simp
              · split <;> simp
            · exact fun h => hd (.inl h)
          have hd2 : ¬ (sinP x0 x1 n1 n2).2.2 = 8 := by
            unfold sinP
            split
            · unfold cutP; split
              · simp
              · split <;> simp
            · exact fun h => hd (.inr h)
          rw [hs2] at m3
          rw [hz] at m1
          generalize (sinP x0 x1 n1 n2).2.2 = i2 at m2 hd1 hd2
          generalize (sinP x0 x1 n1 n2).2.1 = i1 at m2
          generalize Evs.g (slOf (sinP x0 x1 n1 n2).1) = G at m2
          generalize hc2 : (shrS x0 to).c = c2 at m1 m3
          have hcl2 : ∃ a1 a2 a3 a4, c2 = [a1, a2, a3, a4] := by subst hc2; exact ⟨_, _, _, _, rfl⟩
          obtain ⟨b1, b2, b3, b4, rfl⟩ := hcl2
          generalize hc : x0.c = c at m0 m1 m2
          have hcl : ∃ a1 a2 a3 a4, c = [a1, a2, a3, a4] := by subst hc; exact ⟨_, _, _, _, rfl⟩
          obtain ⟨a1, a2, a3, a4, rfl⟩ := hcl
          simp only [A, List.map_cons, List.map_nil, slOf, if_true, Sl.g_nil, Evs.g] at m0 m1 m2 m3 ⊢
          simp -implicitDefEqProofs [live07, m0, m1, m2, m3, I3.c, hlt, hd1, hd2]
    · generalize shrE x0 to = e at m1 hz
      generalize hc2 : (shrS x0 to).c = c2 at m1
      have hcl2 : ∃ a1 a2 a3 a4, c2 = [a1, a2, a3, a4] := by subst hc2; exact ⟨_, _, _, _, rfl⟩
      obtain ⟨b1, b2, b3, b4, rfl⟩ := hcl2
      generalize hc : x0.c = c at m0 m1
      have hcl : ∃ a1 a2 a3 a4, c = [a1, a2, a3, a4] := by subst hc; exact ⟨_, _, _, _, rfl⟩
      obtain ⟨a1, a2, a3, a4, rfl⟩ := hcl
      simp only [A, List.map_cons, List.map_nil] at m0 m1 ⊢
      simp -implicitDefEqProofs [live07, m0, m1, I3.c, hz]
end Go.Proofs.Ytibnbcljmfigfaa
