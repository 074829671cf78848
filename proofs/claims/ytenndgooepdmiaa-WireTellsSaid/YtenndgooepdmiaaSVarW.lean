/- Numbers in sevens of bits: what Var answers, the program's and the reference's. -/
import Derived.Test.YtenndgooepdmiaaTabA
import Derived.Test.YtenndgooepdmiaaAMJ3
import Derived.KernelRfl
namespace Go.Proofs.Ytenndgooepdmiaa
open Go Go.AM Go.Proofs
set_option maxRecDepth 4000
set_option linter.unusedSimpArgs false
set_option linter.unusedVariables false
def varI (n : Nat) : Bs := if n < 128 then [] else UInt8.ofNat (n % 128 + 128) :: varI (n / 128)
termination_by n
decreasing_by omega
def varL (n : Nat) : Nat := if n < 128 then n else varL (n / 128)
termination_by n
decreasing_by omega
def varB (n : Nat) : Bs := varI n ++ [UInt8.ofNat (varL n)]
theorem varL_lt (n : Nat) : varL n < 128 := by
  induction n using Nat.strongRecOn with
  | _ n ih => rw [varL]; split; assumption; exact ih _ (by omega)
theorem varI_len (n k : Nat) (h : n < 128 ^ (k + 1)) : (varI n).length ≤ k := by
  induction k generalizing n with
  | zero => rw [varI, if_pos (by omega)]; simp
  | succ k ih =>
    rw [varI]
    split
    · simp
    · have : n / 128 < 128 ^ (k + 1) := by rw [Nat.pow_succ] at h; omega
      have := ih _ this
      simp only [List.length_cons]; omega
theorem Var_loop (n : Nat) (hn : n < 18446744073709551616) (H : List Blk) :
    loopE (EvF tab) H L73_0 [0, 3] ⟨[(0, U n), (3, .ms H.length 1 1 0 0)], [], [.rows 1 1 []]⟩ =
      some (.exit 0, ⟨[(0, U (varL n)), (3, .ms H.length ((varI n).length + 1) 1 0 (varI n).length), (5, B false)], [], [.rows 1 ((varI n).length + 1) (bytesG (varI n))]⟩) := by
  have hw := loop_meas (E := EvF tab) (h := H) (c := L73_0) (lv := [0, 3]) (β := Nat × Bs) (fun b => b.1) (fun b => b.2.length ≤ 9 ∧ b.1 < 128 ^ (10 - b.2.length))
    (fun b => ⟨[(0, U b.1), (3, .ms H.length (b.2.length + 1) 1 0 b.2.length)], [], [.rows 1 (b.2.length + 1) (bytesG b.2)]⟩)
    (fun b => (.exit 0, ⟨[(0, U (varL b.1)), (3, .ms H.length ((b.2 ++ varI b.1).length + 1) 1 0 (b.2 ++ varI b.1).length), (5, B false)], [], [.rows 1 ((b.2 ++ varI b.1).length + 1) (bytesG (b.2 ++ varI b.1))]⟩))
    (fun b hi => ?_) n (n, []) (Nat.le_refl _) ⟨by simp, by simp; omega⟩
  · simpa using hw
  · obtain ⟨m, l⟩ := b
    simp only at hi ⊢
    obtain ⟨h1, h2⟩ := hi
    by_cases hm : m < 128
    · right
      refine ⟨by simp, ?_⟩
      delta L73_0
      rw [varI, varL, if_pos hm, if_pos hm]
      simp -implicitDefEqProofs [hm, show ¬ (128 : Int) ≤ m by omega]
    · left
      have h3 : l.length ≤ 8 := by
        rcases Nat.lt_or_ge l.length 9 with h | h
        · omega
        · have : l.length = 9 := by omega
          rw [this] at h2; omega
      have hbig : m < 128 ^ 10 := Nat.lt_of_lt_of_le h2 (Nat.pow_le_pow_right (by omega) (by omega))
      obtain ⟨c, hc⟩ : ∃ c, UInt8.ofNat (m % 128 + 128) = c := ⟨_, rfl⟩
      refine ⟨(m / 128, l ++ [c]), by simp only; omega, ⟨by simp; omega, ?_⟩, ?_, ?_⟩
      · simp only [List.length_append, List.length_cons, List.length_nil]
        rw [show 10 - l.length = (10 - (l.length + (0 + 1))) + 1 by omega, Nat.pow_succ] at h2
        omega
      · simp only
        rw [varI, varL, if_neg hm, if_neg hm, hc]
        simp
      · delta L73_0
        have e1 : IntKind.u8.wrap (m : Int) = ((m % 256 : Nat) : Int) := by rw [wrap_u8]; omega
        have e2 := or_u8_128 (a := m % 256) (by omega)
        rw [show m % 256 % 128 = m % 128 by omega, ← e1] at e2
        have e4 : bytesG [UInt8.ofNat (m % 128 + 128)] = [[.int .u8 (orI .u8 (IntKind.u8.wrap (m : Int)) 128)]] := by rw [bytesG_one _ (by omega), e2]
        rw [hc] at e4
        have e5 : List.take l.length (bytesG l) = bytesG l := List.take_of_length_le (by rw [bytesG_len]; omega)
        simp -implicitDefEqProofs [hm, show (128 : Int) ≤ m by omega, chunk, appV, room, Nat.not_succ_le_self, bytesG_len, bytesG_append, e4, e5, show l.length + 1 ≤ 140737488355328 by omega, Int.fdiv_eq_ediv_of_nonneg]
theorem Var2_loop (n : Nat) (hn : n < 18446744073709551616) (H : List Blk) :
    loopE (EvF tab) H L74_0 [0, 3] ⟨[(0, U n), (3, .ms H.length 1 1 0 0)], [], [.rows 1 1 []]⟩ =
      some (.exit 0, ⟨[(0, U (varL n)), (3, .ms H.length ((varI n).length + 1) 1 0 (varI n).length), (5, B false)], [], [.rows 1 ((varI n).length + 1) (bytesG (varI n))]⟩) := by
  have hw := loop_meas (E := EvF tab) (h := H) (c := L74_0) (lv := [0, 3]) (β := Nat × Bs) (fun b => b.1) (fun b => b.2.length ≤ 9 ∧ b.1 < 128 ^ (10 - b.2.length) ∧ b.1 < 18446744073709551616)
    (fun b => ⟨[(0, U b.1), (3, .ms H.length (b.2.length + 1) 1 0 b.2.length)], [], [.rows 1 (b.2.length + 1) (bytesG b.2)]⟩)
    (fun b => (.exit 0, ⟨[(0, U (varL b.1)), (3, .ms H.length ((b.2 ++ varI b.1).length + 1) 1 0 (b.2 ++ varI b.1).length), (5, B false)], [], [.rows 1 ((b.2 ++ varI b.1).length + 1) (bytesG (b.2 ++ varI b.1))]⟩))
    (fun b hi => ?_) n (n, []) (Nat.le_refl _) ⟨by simp, by simp; omega, hn⟩
  · simpa using hw
  · obtain ⟨m, l⟩ := b
    simp only at hi ⊢
    obtain ⟨h1, h2, h64⟩ := hi
    by_cases hm : m < 128
    · right
      refine ⟨by simp, ?_⟩
      delta L74_0
      rw [varI, varL, if_pos hm, if_pos hm]
      simp -implicitDefEqProofs [hm, show ¬ (128 : Int) ≤ m by omega]
    · left
      have h3 : l.length ≤ 8 := by
        rcases Nat.lt_or_ge l.length 9 with h | h
        · omega
        · have : l.length = 9 := by omega
          rw [this] at h2; omega
      obtain ⟨c, hc⟩ : ∃ c, UInt8.ofNat (m % 128 + 128) = c := ⟨_, rfl⟩
      refine ⟨(m / 128, l ++ [c]), by simp only; omega, ⟨by simp; omega, ?_, by simp only; omega⟩, ?_, ?_⟩
      · simp only [List.length_append, List.length_cons, List.length_nil]
        rw [show 10 - l.length = (10 - (l.length + (0 + 1))) + 1 by omega, Nat.pow_succ] at h2
        omega
      · simp only
        rw [varI, varL, if_neg hm, if_neg hm, hc]
        simp
      · delta L74_0
        have e1 : IntKind.u64.wrap ((m : Int) % 128 + 128) = (m : Int) % 128 + 128 := by rw [wrap_u64_mod]; omega
        have e3 : IntKind.u8.wrap ((m : Int) % 128 + 128) = (m : Int) % 128 + 128 := wrap_u8n (by omega) (by omega)
        have e6 : IntKind.u64.wrap ((m : Int) / 128) = (m : Int) / 128 := wrap_u64 (by omega) (by omega)
        have e4 : bytesG [UInt8.ofNat (m % 128 + 128)] = [[.int .u8 ((m : Int) % 128 + 128)]] := by rw [bytesG_one _ (by omega)]; simp
        rw [hc] at e4
        have e5 : List.take l.length (bytesG l) = bytesG l := List.take_of_length_le (by rw [bytesG_len]; omega)
        simp -implicitDefEqProofs [hm, show (128 : Int) ≤ m by omega, chunk, appV, room, Nat.not_succ_le_self, bytesG_len, bytesG_append, e1, e3, e4, e5, e6, show l.length + 1 ≤ 140737488355328 by omega, Int.tdiv_eq_ediv_of_nonneg, Int.tmod_eq_emod_of_nonneg]
theorem Var_ev (n : Nat) (hn : n < 18446744073709551616) (H : List Blk) : EvF tab 73 [U n] H = some ⟨T (varB n), [], []⟩ := by
  refine EvF_walk t73 (by simp) ?_
  have hw := Var_loop n hn H
  have h1 := varL_lt n
  have h2 := varI_len n 9 (by omega)
  have e3 : IntKind.u8.wrap (varL n : Int) = (varL n : Int) := wrap_u8n (by omega) (by omega)
  have e4 : bytesG [UInt8.ofNat (varL n)] = [[.int .u8 (varL n : Int)]] := bytesG_one _ (by omega)
  have e5 : List.take (varI n).length (bytesG (varI n)) = bytesG (varI n) := List.take_of_length_le (by rw [bytesG_len]; omega)
  have e6 : evI.bytesOfG (bytesG (varI n) ++ bytesG [UInt8.ofNat (varL n)]) = some (varB n) := by rw [← bytesG_append]; exact bytesOf_bytesG _
  have e7 : List.take ((varI n).length + 1) (bytesG (varI n) ++ [[.int .u8 (varL n : Int)]]) = bytesG (varI n) ++ [[.int .u8 (varL n : Int)]] := List.take_of_length_le (by simp [bytesG_len])
  rw [e4] at e6
  simp -implicitDefEqProofs [hw, chunk, appV, room, Nat.not_succ_le_self, bytesG_len, e3, e5, e6, e7, show (varI n).length + 1 ≤ 140737488355328 by omega]
theorem Var2_ev (n : Nat) (hn : n < 18446744073709551616) (H : List Blk) : EvF tab 74 [U n] H = some ⟨T (varB n), [], []⟩ := by
  refine EvF_walk t74 (by simp) ?_
  have hw := Var2_loop n hn H
  have h1 := varL_lt n
  have h2 := varI_len n 9 (by omega)
  have e3 : IntKind.u8.wrap (varL n : Int) = (varL n : Int) := wrap_u8n (by omega) (by omega)
  have e4 : bytesG [UInt8.ofNat (varL n)] = [[.int .u8 (varL n : Int)]] := bytesG_one _ (by omega)
  have e5 : List.take (varI n).length (bytesG (varI n)) = bytesG (varI n) := List.take_of_length_le (by rw [bytesG_len]; omega)
  have e6 : evI.bytesOfG (bytesG (varI n) ++ bytesG [UInt8.ofNat (varL n)]) = some (varB n) := by rw [← bytesG_append]; exact bytesOf_bytesG _
  have e7 : List.take ((varI n).length + 1) (bytesG (varI n) ++ [[.int .u8 (varL n : Int)]]) = bytesG (varI n) ++ [[.int .u8 (varL n : Int)]] := List.take_of_length_le (by simp [bytesG_len])
  rw [e4] at e6
  simp -implicitDefEqProofs [hw, chunk, appV, room, Nat.not_succ_le_self, bytesG_len, e3, e5, e6, e7, show (varI n).length + 1 ≤ 140737488355328 by omega]
/-! ### Read -/
end Go.Proofs.Ytenndgooepdmiaa
