/- The events of a store, few at a time: by the program. -/
import Derived.Test.YtibnbcljmfigfaaSWatch4
namespace Go.Proofs.Ytibnbcljmfigfaa
open Go Go.AM Go.Proofs
set_option maxRecDepth 20000
set_option maxHeartbeats 2000000
set_option linter.unusedSimpArgs false
set_option linter.unusedVariables false
theorem setAll_own {H L0 : List Blk} : ∀ {m : List (Nat × Blk)}, (∀ p ∈ m, H.length ≤ p.1) → ∃ L, (∀ t, setAll H ⟨t, [], L0⟩ m = ⟨t, [], L⟩) ∧ applyM (H ++ L0) m = H ++ L
  | [], _ => ⟨L0, fun _ => by simp, by simp⟩
  | (i, b) :: m, h => by
    obtain ⟨L, h1, h2⟩ := setAll_own (m := m) (fun p hp => h p (by simp [hp]))
    have hi : H.length ≤ i := h (i, b) (by simp)
    refine ⟨L.set (i - H.length) b, fun t => ?_, ?_⟩
    · rw [setAll_cons, h1]; unfold setB; rw [if_neg (by omega)]
    · simp only [applyM]; rw [h2, List.set_append_right _ _ hi]
theorem rev1_ev (s : Store) (most srev : Int) (all : List Ev) (hs : SrtE all) (h1 : 1 ≤ most) (hl : all.length ≤ 100000) (H : List Blk) :
    ∃ m L, (∀ t, setAll H ⟨t, [], tenB H.length s most (res0 H.length) 0 0 1 [] (Evs.g (slOf all)) none⟩ m = ⟨t, [], L⟩) ∧ EndB H.length s most srev all L ∧
      EvF tab 77 [.yv (H.length + 9), .ptr (H.length + 8) 0] (H ++ tenB H.length s most (res0 H.length) 0 0 1 [] (Evs.g (slOf all)) none) = some ⟨.tup [], m, []⟩ := by
  obtain ⟨h, hh⟩ : ∃ h, H ++ tenB H.length s most (res0 H.length) 0 0 1 [] (Evs.g (slOf all)) none = h := ⟨_, rfl⟩
  obtain ⟨m, e, t, k1, ⟨L, k2, k3⟩, k4, k5⟩ := rounds_loop s most srev all hs h1 hl H h (by rw [← hh]; simp [tenB]) ([], 1, [], slOf all) ⟨by simp, by rw [← hh]; rfl, by rw [slOf_l]; rfl, by simp; omega, by simp, by simp, by simp⟩
  obtain ⟨L', j1, j2⟩ := setAll_own (H := H) (L0 := tenB H.length s most (res0 H.length) 0 0 1 [] (Evs.g (slOf all)) none) (fun p hp => (k1 p hp).1)
  rw [hh, k2] at j2
  have hL := List.append_cancel_left j2
  subst hL
  refine ⟨m, L, j1, k3, ?_⟩
  rw [hh]
  refine EvF_walk t77 (by simp) ?_
  have hlen : h.length = H.length + 10 := by rw [← hh]; simp [tenB]
  rcases k4 with rfl | rfl <;> simp -implicitDefEqProofs [k5] <;> exact fun a b hab => by rw [hlen]; exact (k1 (a, b) hab).2

theorem Since_ev (s : Store) (p : Bs) (rev most : Int) (hs : smallS s) (h0 : 0 ≤ s.rev) (h1 : s.rev ≤ 1099511627775) (hsrt : SrtE s.log.l) (H : List Blk) :
    EvF tab 16 [A s.c, T p, I rev, I most] H = some ⟨.tup [.g (Evs.g (slOf (sinP s p rev most).1)), I (sinP s p rev most).2.1, I (sinP s p rev most).2.2], [], []⟩ := by
  have hsl : s.log.l.length ≤ 100000 := by unfold smallS at hs; omega
  have hlen := ofP_len s.log.l p rev
  have e0 : IntKind.i64.wrap (s.rev + 1) = s.rev + 1 := wrap_i64 (by omega) (by omega)
  have hof := fun H => of_ev s.log p rev (by omega) H
  have hall0 := ofP_srt hsrt p rev
  refine EvF_walk t16 (by simp) ?_
  unfold sinP
  obtain ⟨all, hall⟩ : ∃ all, ofP s.log.l p rev = all := ⟨_, rfl⟩
  rw [hall] at hof hlen hall0 ⊢
  unfold sinE
  by_cases c1 : most < 1
  · obtain ⟨a1, a2, a3, a4⟩ := s
    simp -implicitDefEqProofs [A, Store.c, c1, slOf]
  by_cases c2 : 30 < most
  · obtain ⟨a1, a2, a3, a4⟩ := s
    simp -implicitDefEqProofs [A, Store.c, c1, c2, slOf]
  by_cases c3 : rev < 1
  · obtain ⟨a1, a2, a3, a4⟩ := s
    simp -implicitDefEqProofs [A, Store.c, c1, c2, c3, slOf]
  by_cases c4 : s.rev + 1 < rev
  · obtain ⟨a1, a2, a3, a4⟩ := s
    simp only at c4 e0
    simp -implicitDefEqProofs [A, Store.c, c1, c2, c3, c4, e0, slOf]
  by_cases c5 : rev ≤ s.low
  · obtain ⟨a1, a2, a3, a4⟩ := s
    simp only at c4 c5 e0
    simp -implicitDefEqProofs [A, Store.c, c1, c2, c3, c4, c5, e0, slOf]
  simp only [show (if most < 1 ∨ 30 < most then (1 : Int) else if rev < 1 ∨ s.rev + 1 < rev then 8 else if rev ≤ s.low then 9 else 0) = 0 from sinE_zero.2 ⟨⟨by omega, by omega⟩, ⟨by omega, by omega⟩, by omega⟩, if_true]
  obtain ⟨m, L, k1, k2, k3⟩ := rev1_ev s most s.rev all hall0 (by omega) (by omega) H
  obtain ⟨a1, a2, a3, a4⟩ := s
  simp only at c4 c5 e0 k2 hof
  have hrv := fun G H => revisions_ev G H
  generalize hg0 : Evs.g (slOf all) = G0 at hof k1 k3
  unfold tenB at k1 k3
  simp only [Store.c, List.map_cons, List.map_nil, List.length_nil, res0, lpT] at k1 k3
  generalize hg1 : KVs.g a3 = G1 at k1 k3
  generalize hg2 : Evs.g a4 = G2 at k1 k3 hof
  obtain ⟨g, G, ⟨z1, z2, z3, rfl⟩ | ⟨z1, rfl⟩ | ⟨out, nx, z1, z2, z3, z4, rfl⟩⟩ := k2
  · rw [cut_fits z2]
    unfold tenB at k1
    simp only [Store.c, List.map_cons, List.map_nil, lpT, res0] at k1
    simp -implicitDefEqProofs [A, Store.c, hg1, hg2, c1, c2, c3, c4, c5, e0, hof, hrv, rfV_fv, k3, k1, endRf]
    by_cases hall2 : all = []
    · rw [if_pos (z3.2 hall2), hall2]; rfl
    · rw [if_neg (fun h => hall2 (z3.1 h)), List.take_of_length_le (by simp)]
      unfold slOf; rw [if_neg hall2]; rfl
  · rw [z1]
    unfold tenB at k1
    simp only [Store.c, List.map_cons, List.map_nil, lpT, res0] at k1
    simp -implicitDefEqProofs [A, Store.c, hg1, hg2, c1, c2, c3, c4, c5, e0, hof, hrv, rfV_fv, k3, k1, endRf, slOf]
  · rw [z1]
    unfold tenB at k1
    simp only [Store.c, List.map_cons, List.map_nil, lpT, res0] at k1
    have e1 : List.take out.length (List.map Ev.c out) = List.map Ev.c out := List.take_of_length_le (by simp)
    simp -implicitDefEqProofs [A, Store.c, hg1, hg2, c1, c2, c3, c4, c5, e0, hof, hrv, rfV_fv, k3, k1, endRf, slOf, z3, z4, e1]
end Go.Proofs.Ytibnbcljmfigfaa
