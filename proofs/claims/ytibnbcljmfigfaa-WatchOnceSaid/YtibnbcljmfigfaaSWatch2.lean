/- The events of a store, few at a time: by the reference. -/
import Derived.Test.YtibnbcljmfigfaaSWatch1
namespace Go.Proofs.Ytibnbcljmfigfaa
open Go Go.AM Go.Proofs
set_option maxRecDepth 20000
set_option maxHeartbeats 2000000
set_option linter.unusedSimpArgs false
set_option linter.unusedVariables false
theorem Since2_ev (s : Store) (p : Bs) (rev most : Int) (hs : smallS s) (h0 : 0 ≤ s.rev) (h1 : s.rev ≤ 1099511627775) (H : List Blk) :
    EvF tab 17 [A s.c, T p, I rev, I most] H = some ⟨.tup [.g (Evs.g (slOf (sinP s p rev most).1)), I (sinP s p rev most).2.1, I (sinP s p rev most).2.2], [], []⟩ := by
  have hsl : s.log.l.length ≤ 1000000 := by unfold smallS at hs; omega
  have hw := fun p1 H => since2_loop s p rev most hsl p1 p1 p1 H
  have hlen := ofP_len s.log.l p rev
  have e0 : IntKind.i64.wrap (s.rev + 1) = s.rev + 1 := wrap_i64 (by omega) (by omega)
  refine EvF_walk t17 (by simp) ?_
  unfold sinP
  obtain ⟨a1, a2, a3, a4⟩ := s
  simp only at hlen hw hsl h0 h1 e0 ⊢
  obtain ⟨all, hall⟩ : ∃ all, ofP a4.l p rev = all := ⟨_, rfl⟩
  rw [hall] at hw hlen ⊢
  simp only [Store.c, List.map_cons, List.map_nil] at hw
  generalize hg1 : KVs.g a3 = G1 at hw
  generalize hg2 : Evs.g a4 = G2 at hw
  unfold sinE
  by_cases c1 : most < 1
  · simp -implicitDefEqProofs [A, Store.c, hg1, hg2, c1, slOf]
  by_cases c2 : 30 < most
  · simp -implicitDefEqProofs [A, Store.c, hg1, hg2, c1, c2, slOf]
  by_cases c3 : rev < 1
  · simp -implicitDefEqProofs [A, Store.c, hg1, hg2, c1, c2, c3, slOf]
  by_cases c4 : a1 + 1 < rev
  · simp -implicitDefEqProofs [A, Store.c, hg1, hg2, c1, c2, c3, c4, e0, slOf]
  by_cases c5 : rev ≤ a2
  · simp -implicitDefEqProofs [A, Store.c, hg1, hg2, c1, c2, c3, c4, c5, e0, slOf]
  unfold cutP
  by_cases c6 : (all.length : Int) ≤ most
  · rw [if_pos c6]
    cases all with
    | nil => simp only [List.length_nil] at hw c6; simp -implicitDefEqProofs [A, Store.c, hg1, hg2, c1, c2, c3, c4, c5, show (0 : Int) ≤ most by omega, e0, hw, slOf]
    | cons y r =>
      have e1 : List.take r.length (List.map Ev.c r) = List.map Ev.c r := List.take_of_length_le (by simp)
      simp only [List.length_cons] at hw c6
      simp -implicitDefEqProofs [A, Store.c, hg1, hg2, c1, c2, c3, c4, c5, show (r.length : Int) + 1 ≤ most by omega, e0, hw, slOf, e1]
  · have hm : most.toNat < all.length := by omega
    have hm0 : 0 < all.length := by omega
    obtain ⟨x, hx⟩ : ∃ x, all[most.toNat] = x := ⟨_, rfl⟩
    obtain ⟨y, hy⟩ : ∃ y, all[0] = y := ⟨_, rfl⟩
    have r1 : revAt all most.toNat = x.rev := by unfold revAt; rw [List.getElem?_eq_getElem hm, hx]
    have r2 : revAt all 0 = y.rev := by unfold revAt; rw [List.getElem?_eq_getElem hm0, hy]
    have m0 : (0 : Int) ≤ most := by omega
    have m1 : most < (all.length : Int) := by omega
    have m2 : ((most.toNat : Nat) : Int) = most := by omega
    rw [r1, r2]
    by_cases c7 : x.rev = y.rev
    · simp -implicitDefEqProofs [A, Store.c, hg1, hg2, c1, c2, c3, c4, c5, c6, e0, hw, slOf, hm, hx, hy, hm0, Ev.c, c7, m0, m1, m2]
    · have hw2 := fun p1 p2 H => since2_tw all x.rev (all.length + 1) (by omega) p1 p2 H
      obtain ⟨tw, htw⟩ : ∃ tw, (all.takeWhile fun e => decide (e.rev < x.rev)) = tw := ⟨_, rfl⟩
      rw [htw] at hw2 ⊢
      cases tw with
      | nil => simp only [List.length_nil] at hw2; simp -implicitDefEqProofs [A, Store.c, hg1, hg2, c1, c2, c3, c4, c5, c6, e0, hw, slOf, hm, hx, hy, hm0, Ev.c, c7, m0, m1, m2, hw2]
      | cons z r =>
        have e1 : List.take r.length (List.map Ev.c r) = List.map Ev.c r := List.take_of_length_le (by simp)
        simp only [List.length_cons] at hw2
        simp -implicitDefEqProofs [A, Store.c, hg1, hg2, c1, c2, c3, c4, c5, c6, e0, hw, slOf, hm, hx, hy, hm0, Ev.c, c7, m0, m1, m2, hw2, e1]
end Go.Proofs.Ytibnbcljmfigfaa
