/- Numbers in sevens of bits: what is written is read, and there is one way to write it. -/
import Derived.Test.YtenndgooepdmiaaSVarR
namespace Go.Proofs.Ytenndgooepdmiaa
open Go Go.AM Go.Proofs
set_option maxRecDepth 4000
set_option linter.unusedSimpArgs false
set_option linter.unusedVariables false
theorem varB_small {n : Nat} (h : n < 128) : varB n = [UInt8.ofNat n] := by unfold varB; rw [varI, varL, if_pos h, if_pos h]; rfl
theorem varB_big {n : Nat} (h : ¬ n < 128) : varB n = UInt8.ofNat (n % 128 + 128) :: varB (n / 128) := by unfold varB; rw [varI, varL, if_neg h, if_neg h]; rfl
theorem toNat8 {n : Nat} (h : n < 256) : (UInt8.ofNat n).toNat = n := by simp; omega
theorem read_var (at_ : Int) (s : Bs) : ∀ (n k a : Nat), n * 128 ^ k < 18446744073709551616 → k ≤ 9 → (0 < k → n ≠ 0) → readG at_ k a (varB n ++ s) = (a + n * 128 ^ k, at_ + k + (varB n).length, 0) := by
  intro n
  induction n using Nat.strongRecOn with
  | _ n ih =>
    intro k a h1 h2 h3
    by_cases hn : n < 128
    · rw [varB_small hn]
      have hb : badB k (UInt8.ofNat n) = false := by
        simp only [badB, toNat8 (show n < 256 by omega)]
        by_cases h9 : k = 9
        · subst h9
          have : n ≠ 0 := h3 (by omega)
          simp; omega
        · by_cases h0 : 0 < k
          · have := h3 h0; simp [h9, this]
          · simp [h9, h0]
      simp only [List.cons_append, List.nil_append, readG, hb, Bool.false_eq_true, if_false, toNat8 (show n < 256 by omega), hn, if_true, Nat.mod_eq_of_lt hn]
      simp
    · rw [varB_big hn]
      have hk : k ≤ 8 := by
        rcases Nat.lt_or_ge k 9 with h | h
        · omega
        · have : k = 9 := by omega
          subst this; omega
      have ht := toNat8 (show n % 128 + 128 < 256 by omega)
      have hb : badB k (UInt8.ofNat (n % 128 + 128)) = false := by
        simp only [badB, ht]
        simp; omega
      have e1 : (n % 128 + 128) % 128 = n % 128 := by omega
      have e2 : n / 128 * 128 ^ (k + 1) + n % 128 * 128 ^ k = n * 128 ^ k := by
        rw [Nat.pow_succ, Nat.mul_comm (128 ^ k) 128, ← Nat.mul_assoc, ← Nat.add_mul]
        congr 1; omega
      have := ih (n / 128) (by omega) (k + 1) (a + n % 128 * 128 ^ k) (by omega) (by omega) (by omega)
      simp only [List.cons_append, readG, hb, Bool.false_eq_true, if_false, ht, show ¬ n % 128 + 128 < 128 by omega, e1, this, List.length_cons]
      refine Prod.ext (by simp only; omega) (Prod.ext (by simp only; omega) rfl)
theorem read_inv (at_ : Int) : ∀ (l : Bs) (k a : Nat), k ≤ 9 → a < 128 ^ k → ((readG at_ k a l).2.2 ≠ 0 ∧ (readG at_ k a l).1 = 0 ∧ (readG at_ k a l).2.1 = 0) ∨
    ∃ m r, l = varB m ++ r ∧ readG at_ k a l = (a + m * 128 ^ k, at_ + k + (varB m).length, 0) ∧ a + m * 128 ^ k < 18446744073709551616 ∧ (0 < k → m ≠ 0) := by
  intro l
  induction l with
  | nil => intro k a _ _; left; simp [readG]
  | cons b l ih =>
    intro k a hk ha
    cases hb : badB k b
    · by_cases h : b.toNat < 128
      · right
        have hs := sum_lt hk ha hb
        refine ⟨b.toNat, l, ?_, ?_, ?_, ?_⟩
        · rw [varB_small h]; simp
        · rw [varB_small h]
          simp only [readG, hb, Bool.false_eq_true, if_false, h, if_true, Nat.mod_eq_of_lt h]
          simp
        · rw [Nat.mod_eq_of_lt h] at hs; exact hs
        · intro h0 h1; simp [badB, h1, h0] at hb
      · have hs := stepOk hk ha hb h
        have hlt := b.toNat_lt
        simp only [readG, hb, Bool.false_eq_true, if_false, h]
        rcases ih (k + 1) _ (by omega) hs.2 with h1 | ⟨m, r, h1, h2, h3, h4⟩
        · exact .inl h1
        · right
          have hm : m ≠ 0 := h4 (by omega)
          have e2 : b.toNat % 128 * 128 ^ k + m * 128 ^ (k + 1) = (b.toNat % 128 + 128 * m) * 128 ^ k := by
            rw [Nat.pow_succ, Nat.add_mul, Nat.mul_comm 128 m, Nat.mul_assoc, Nat.mul_comm 128 (128 ^ k)]
          have e3 : varB (b.toNat % 128 + 128 * m) = b :: varB m := by
            rw [varB_big (by omega), show (b.toNat % 128 + 128 * m) % 128 + 128 = b.toNat by omega, show (b.toNat % 128 + 128 * m) / 128 = m by omega]
            simp
          refine ⟨b.toNat % 128 + 128 * m, r, ?_, ?_, ?_, ?_⟩
          · rw [e3, h1]; rfl
          · rw [h2, e3]
            refine Prod.ext (by simp only; omega) (Prod.ext (by simp only [List.length_cons]; omega) rfl)
          · omega
          · intro _; omega
    · left; simp [readG, hb]
end Go.Proofs.Ytenndgooepdmiaa
