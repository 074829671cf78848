/- The laws ShiftBytes, ShiftSigns, ShiftReads. -/
import Derived.Test.YtahjgmldkbbpaaaSVar
namespace Go.Proofs.Ytahjgmldkbbpaaa
open Go Go.AM Go.Proofs
set_option maxRecDepth 4000
set_option linter.unusedSimpArgs false
set_option linter.unusedVariables false
theorem live01_r : rF tab 200 20 31 [] [] = some ⟨.g (.bool true), [], []⟩ := by kernel_rfl
theorem live01 : EvF tab 31 [] [] = some ⟨.g (.bool true), [], []⟩ := EvF_run live01_r
theorem ShiftBytes_law (n w : Int) (s : Bs) (hn : 0 ≤ n ∧ n ≤ 18446744073709551615) (_ : I64 w) (hs : S64 s) : EvF tab 7 [U n, I w, T s] [] = some ⟨.g (.bool true), [], []⟩ := by
  refine EvF_walk t7 (by simp) ?_
  obtain ⟨N, rfl⟩ := Int.eq_ofNat_of_zero_le hn.1
  have w1 := fun H => Wide_ev N w (by omega) H
  have w2 := fun H => Wide2_ev N w (by omega) H
  have n1 := fun H => Narrow_ev s H
  have n2 := fun H => Narrow2_ev s H
  by_cases h : 40 < s.length
  · simp -implicitDefEqProofs [show (40 : Int) < s.length by omega, live01]
  · by_cases h8 : s.length ≤ 8
    · simp only [h8, if_true] at n1 n2
      simp -implicitDefEqProofs [show ¬ (40 : Int) < s.length by omega, live01, w1, w2, n1, n2]
    · simp only [h8, if_false] at n1 n2
      simp -implicitDefEqProofs [show ¬ (40 : Int) < s.length by omega, live01, w1, w2, n1, n2]
theorem ShiftSigns_law (n u k : Int) (hn : I64 n) (hu : 0 ≤ u ∧ u ≤ 18446744073709551615) (_ : I64 k) : EvF tab 8 [I n, U u, I k] [] = some ⟨.g (.bool true), [], []⟩ := by
  refine EvF_walk t8 (by simp) ?_
  obtain ⟨N, rfl⟩ := Int.eq_ofNat_of_zero_le hu.1
  have a1 := fun H => Zig_ev n hn H
  have a2 := fun H => Zig2_ev n hn H
  have b1 := fun H => Zag_ev N (by omega) H
  have b2 := fun H => Zag2_ev N (by omega) H
  have c1 := fun H => Low_ev N k (by omega) H
  have c2 := fun H => Low2_ev N k (by omega) H
  have d1 := fun H => Sign_ev N k (by omega) H
  have d2 := fun H => Sign2_ev N k (by omega) H
  simp -implicitDefEqProofs [live01, a1, a2, b1, b2, c1, c2, d1, d2]
theorem ShiftReads_law (n : Int) (s : Bs) (at_ : Int) (hn : 0 ≤ n ∧ n ≤ 18446744073709551615) (hs : S64 s) (_ : I64 at_) : EvF tab 9 [U n, T s, I at_] [] = some ⟨.g (.bool true), [], []⟩ := by
  refine EvF_walk t9 (by simp) ?_
  obtain ⟨N, rfl⟩ := Int.eq_ofNat_of_zero_le hn.1
  have a1 := fun H => Var_ev N (by omega) H
  have a2 := fun H => Var2_ev N (by omega) H
  have b1 := fun H => Read_ev s at_ hs H
  have b2 := fun H => Read2_ev s at_ hs H
  by_cases h : 60 < s.length
  · simp -implicitDefEqProofs [show (60 : Int) < s.length by omega, live01]
  · simp -implicitDefEqProofs [show ¬ (60 : Int) < s.length by omega, live01, a1, a2, b1, b2]
end Go.Proofs.Ytahjgmldkbbpaaa
