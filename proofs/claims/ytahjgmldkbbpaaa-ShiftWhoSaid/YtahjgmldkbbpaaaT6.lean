/- Part of the proof: T6. No conditions. -/
import Derived.Test.YtahjgmldkbbpaaaTabA
import Derived.Test.YtahjgmldkbbpaaaAMWrap
import Derived.KernelRfl
namespace Go.Proofs.Ytahjgmldkbbpaaa
open Go Go.AM Go.Proofs
set_option maxRecDepth 4000
theorem live31_r : rF tab 200 20 31 [] [] = some ⟨.g (.bool true), [], []⟩ := by kernel_rfl
theorem live31 : EvF tab 31 [] [] = some ⟨.g (.bool true), [], []⟩ := EvF_run live31_r
def whose (w : Int) : Int × Int := if 0 ≤ w ∧ w ≤ 1099511627775 then (w % 16, w / 16) else (-1, -1)
def who (n l : Int) : Int := if 0 ≤ n ∧ n ≤ 15 ∧ 0 ≤ l ∧ l ≤ 68719476735 then 16 * l + n else -1
theorem and15 (w : Int) (h0 : 0 ≤ w) (h1 : w ≤ 1099511627775) : IntKind.i64.wrap ↑((w % 18446744073709551616).toNat &&& 15) = w % 16 := by
  have : (w % 18446744073709551616).toNat &&& 15 = (w % 18446744073709551616).toNat % 16 := Nat.and_two_pow_sub_one_eq_mod _ 4
  rw [this, wrap_i64 (by omega) (by omega)]
  omega
theorem or4 (n l : Int) (h0 : 0 ≤ n) (h1 : n ≤ 15) (h2 : 0 ≤ l) (h3 : l ≤ 68719476735) :
    IntKind.i64.wrap ↑((IntKind.i64.wrap (l * 16) % 18446744073709551616).toNat ||| (n % 18446744073709551616).toNat) = 16 * l + n := by
  rw [wrap_i64 (n := l * 16) (by omega) (by omega)]
  have e1 : (l * 16 % 18446744073709551616).toNat = l.toNat <<< 4 := by rw [Nat.shiftLeft_eq]; omega
  have e2 : (n % 18446744073709551616).toNat = n.toNat := by omega
  rw [e1, e2, ← Nat.shiftLeft_add_eq_or_of_lt (by omega), Nat.shiftLeft_eq, wrap_i64 (by omega) (by omega)]
  omega
theorem Whose_ev (w : Int) (H : List Blk) : EvF tab 48 [.g (.int .i64 w)] H = some ⟨.tup [.g (.int .i64 (whose w).1), .g (.int .i64 (whose w).2)], [], []⟩ := by
  refine EvF_walk t48 (by simp) ?_
  by_cases h0 : 0 ≤ w
  · by_cases h1 : w ≤ 1099511627775
    · simp [h0, h1, show ¬ 1099511627775 < w by omega, whose, and15 w h0 h1, Int.fdiv_eq_ediv_of_nonneg]
    · simp [h0, h1, show 1099511627775 < w by omega, whose]
  · simp [h0, whose]
theorem Whose2_ev (w : Int) (H : List Blk) : EvF tab 49 [.g (.int .i64 w)] H = some ⟨.tup [.g (.int .i64 (whose w).1), .g (.int .i64 (whose w).2)], [], []⟩ := by
  refine EvF_walk t49 (by simp) ?_
  by_cases h0 : 0 ≤ w
  · by_cases h1 : w ≤ 1099511627775
    · have e : IntKind.i64.wrap (w / 16) = w / 16 := wrap_i64 (by omega) (by omega)
      simp [h0, h1, show ¬ 1099511627775 < w by omega, whose, Int.tdiv_eq_ediv_of_nonneg, Int.tmod_eq_emod_of_nonneg, e]
    · simp [h0, h1, show 1099511627775 < w by omega, whose]
  · simp [h0, whose]
theorem Who_ev (n w : Int) (H : List Blk) : EvF tab 50 [.g (.int .i64 n), .g (.int .i64 w)] H = some ⟨.g (.int .i64 (who n w)), [], []⟩ := by
  refine EvF_walk t50 (by simp) ?_
  by_cases h0 : 0 ≤ n
  · by_cases h1 : n ≤ 15
    · by_cases h2 : 0 ≤ w
      · by_cases h3 : w ≤ 68719476735
        · simp [h0, h1, h2, h3, show ¬ 68719476735 < w by omega, who, or4 n w h0 h1 h2 h3]
        · simp [h0, h1, h2, h3, show 68719476735 < w by omega, who]
      · simp [h0, h1, h2, who]
    · simp [h0, h1, who]
  · simp [h0, who]
theorem Who2_ev (n w : Int) (H : List Blk) : EvF tab 51 [.g (.int .i64 n), .g (.int .i64 w)] H = some ⟨.g (.int .i64 (who n w)), [], []⟩ := by
  refine EvF_walk t51 (by simp) ?_
  by_cases h0 : 0 ≤ n
  · by_cases h1 : n ≤ 15
    · by_cases h2 : 0 ≤ w
      · by_cases h3 : w ≤ 68719476735
        · have e : IntKind.i64.wrap (IntKind.i64.wrap (16 * w) + n) = 16 * w + n := by rw [wrap_i64 (n := 16 * w) (by omega) (by omega), wrap_i64 (by omega) (by omega)]
          simp [h0, h1, h2, h3, show ¬ 68719476735 < w by omega, who, e]
        · simp [h0, h1, h2, h3, show 68719476735 < w by omega, who]
      · simp [h0, h1, h2, who]
    · simp [h0, h1, who]
  · simp [h0, who]
theorem Law_ev (a b c : Int) : EvF tab 12 [.g (.int .i64 a), .g (.int .i64 b), .g (.int .i64 c)] [] = some ⟨.g (.bool true), [], []⟩ := by
  refine EvF_walk t12 (by simp) ?_
  simp [Whose_ev, Whose2_ev, Who_ev, Who2_ev, full, applyM, live31]
  unfold who
  split
  · rename_i h
    obtain ⟨h0, h1, h2, h3⟩ := h
    have e1 : (16 * b + a) % 16 = a := by omega
    have e2 : (16 * b + a) / 16 = b := by omega
    have e3 : 16 * b + a ≤ 1099511627775 := by omega
    have e4 : ¬ 16 * b + a < 0 := by omega
    have e5 : 0 ≤ 16 * b + a := by omega
    simp [whose, e1, e2, e3, e4, e5]
  · simp
/-- The row of the law ShiftWho. -/
theorem ShiftWho_spec : ∀ gss, TypAll Try.prog 6 [3, 3, 3] gss → EvF tab 12 (avs Try.prog [3, 3, 3] gss) [] = some ⟨.g (.bool true), [], []⟩ := by
  intro gss h
  have u : Try.prog.underlying 3 = some (.int .i64) := by kernel_rfl
  obtain ⟨g0, gs, rfl, h0, h⟩ := h.cons_inv
  obtain ⟨g1, gs, rfl, h1, h⟩ := h.cons_inv
  obtain ⟨g2, gs, rfl, h2, h⟩ := h.cons_inv
  obtain ⟨a, _, _, _, e0⟩ := h0.int_inv u
  obtain ⟨b, _, _, _, e1⟩ := h1.int_inv u
  obtain ⟨c, _, _, _, e2⟩ := h2.int_inv u
  simp only [avs, e0, e1, e2]
  exact Law_ev a b c
end Go.Proofs.Ytahjgmldkbbpaaa
