/- The law MvccApplies. -/
import Derived.Test.YtnbclicefmpkiaaLMvcc1
namespace Go.Proofs.Ytnbclicefmpkiaa
open Go Go.AM Go.Proofs
set_option maxRecDepth 20000
set_option maxHeartbeats 4000000
set_option linter.unusedSimpArgs false
set_option linter.unusedVariables false
theorem keepR_l (to : Int) (s : Sl Ev) : (keepR to s).l = keepL to s.l := by cases s <;> rfl
theorem keepL_len (to : Int) (l : List Ev) : (keepL to l).length ≤ l.length := List.length_filter_le _ _
theorem shrS_same (s : Store) (to : Int) : sameS (shrS s to) (shrS2 s to) := by
  unfold shrS shrS2 sameS
  split
  · exact ⟨rfl, rfl, by simp only [foldR_l, foldR2_l], by simp only [keepR_l, slOf_l]⟩
  · exact ⟨rfl, rfl, rfl, rfl⟩
theorem shrS2_small (s : Store) (to : Int) : (shrS2 s to).base.l.length + (shrS2 s to).log.l.length ≤ s.base.l.length + s.log.l.length + s.log.l.length := by
  unfold shrS2
  split
  · have h1 := foldP_len to s.log.l s.base.l
    have h2 := keepL_len to s.log.l
    simp only [foldR2_l, slOf_l]
    omega
  · omega
theorem shrS_small (s : Store) (to : Int) : (shrS s to).base.l.length + (shrS s to).log.l.length ≤ s.base.l.length + s.log.l.length + s.log.l.length := by
  have h := shrS_same s to
  have h2 := shrS2_small s to
  rw [h.2.2.1, h.2.2.2]; exact h2
theorem moreP_len (s : Store) (ms : List Mut) : (moreP s ms).1.length ≤ ms.length := by
  have := evP_len (s.rev + 1) ms ([], foldP s.base.l s.log.l s.rev, false)
  simpa [moreP] using this
theorem applyS_small (s : Store) (ms : List Mut) : (applyS s ms).base.l.length + (applyS s ms).log.l.length ≤ s.base.l.length + s.log.l.length + ms.length := by
  have := moreP_len s ms
  unfold applyS
  split
  · simp only [Sl.l_of, List.length_append]; omega
  · omega
theorem applyV_len (s : Store) (ms : List Mut) : (applyV s ms).l.length ≤ ms.length := by
  have := moreP_len s ms
  unfold applyV
  split
  · simpa using this
  · simp
theorem storeOk_rev {s : Store} (h : storeOk s = true) : 0 ≤ s.low ∧ s.low ≤ s.rev ∧ s.rev ≤ 1099511627774 ∧ s.base.l.length ≤ 30 ∧ s.log.l.length ≤ 60 := by
  unfold storeOk headOk at h
  simp only [Bool.and_eq_true, Bool.not_eq_true', Bool.or_eq_false_iff, decide_eq_false_iff_not] at h
  omega
theorem store4 (s : Store) : ∃ a1 a2 a3 a4, s.c = [a1, a2, a3, a4] := ⟨_, _, _, _, rfl⟩
theorem MvccApplies_law (x0 : Store) (x1 : Sl Mut) (x2 : Int) (w0 : x0.wf) (w1 : (∀ y ∈ x1.l, y.wf) ∧ x1.l.length ≤ 9223372036854775807) (w2 : I64 x2) : EvF tab 7 [A x0.c, .g (Muts.g x1), I x2] [] = some ⟨.g (.bool true), [], []⟩ := by
  have m0 := fun H => FewS_ev x0 w0 H
  have m1 := fun H => May_ev x0 w0 H
  have m2 := fun H => short5_ev x1 w1.2 H
  have hk : ∀ m ∈ x1.l, m.key.length ≤ 9223372036854775807 := fun m hm => (w1.1 m hm).1
  refine EvF_walk t7 (by simp) ?_
  by_cases hg : fewS x0 = true ∧ storeOk x0 = true ∧ x1.l.length ≤ 40 ∧ allP shortM x1.l = true
  · obtain ⟨g1, g2, g3, g4⟩ := hg
    rw [g1] at m0
    rw [g2] at m1
    rw [g4] at m2
    have hr := storeOk_rev g2
    have hsm := fewS_smallS g1
    have m3 := fun H => Apply_ev x0 x1 hsm (by omega) hk (by omega) H
    have m4 := fun H => Apply2_ev x0 x1 hsm (by omega) hk (by omega) H
    have m5 := fun H => Shrink_ev x0 x2 hsm H
    have m6 := fun H => Shrink2_ev x0 x2 hsm H
    have l1 := applyS_small x0 x1.l
    have l2 := applyV_len x0 x1.l
    have l3 := shrS2_small x0 x2
    have m7 := fun H => SameS_ev (applyS x0 x1.l) (applyS x0 x1.l) ⟨rfl, rfl, rfl, rfl⟩ (by unfold smallS; omega) H
    have m8 := fun H => Events_ev (applyV x0 x1.l) (applyV x0 x1.l) rfl (by omega) H
    have m9 := fun H => SameS_ev (shrS x0 x2) (shrS2 x0 x2) (shrS_same x0 x2) (by unfold smallS; omega) H
    obtain ⟨a1, a2, a3, a4, ha⟩ := store4 x0
    obtain ⟨b1, b2, b3, b4, hb⟩ := store4 (applyS x0 x1.l)
    obtain ⟨c1, c2, c3, c4, hc⟩ := store4 (shrS x0 x2)
    obtain ⟨d1, d2, d3, d4, hd⟩ := store4 (shrS2 x0 x2)
    rw [ha] at m0 m1 m3 m4 m5 m6 ⊢
    rw [hb] at m3 m4 m7
    rw [hc] at m5 m9
    rw [hd] at m6 m9
    generalize applyE x0 x1.l = e1 at m3 m4
    generalize shrE x0 x2 = e2 at m5 m6
    have n1 : ¬ (40 : Int) < (x1.l.length : Int) := by omega
    generalize hv : Evs.g (applyV x0 x1.l) = ev at m3 m4 m8
    simp only [A, List.map_cons, List.map_nil] at m0 m1 m3 m4 m5 m6 m7 m9 ⊢
    simp -implicitDefEqProofs [live05, m0, m1, m2, m3, m4, m5, m6, m7, m8, m9, n1]
  · obtain ⟨a1, a2, a3, a4, ha⟩ := store4 x0
    rw [ha] at m0 m1 ⊢
    simp only [A, List.map_cons, List.map_nil] at m0 m1 ⊢
    cases g1 : fewS x0
    · rw [g1] at m0
      simp -implicitDefEqProofs [live05, m0]
    · rw [g1] at m0
      cases g2 : storeOk x0
      · rw [g2] at m1
        simp -implicitDefEqProofs [live05, m0, m1]
      · rw [g2] at m1
        by_cases n1 : (40 : Int) < (x1.l.length : Int)
        · simp -implicitDefEqProofs [live05, m0, m1, n1]
        · cases g4 : allP shortM x1.l
          · rw [g4] at m2
            simp -implicitDefEqProofs [live05, m0, m1, m2, n1]
          · exact absurd ⟨g1, g2, by omega, g4⟩ hg
end Go.Proofs.Ytnbclicefmpkiaa
