/- The order of texts. -/
import Derived.Test.YtibnbcljmfigfaaTabA
import Derived.Test.YtibnbcljmfigfaaAMJ4
namespace Go.Proofs.Ytibnbcljmfigfaa
open Go Go.AM Go.Proofs
set_option linter.unusedSimpArgs false
set_option linter.unusedVariables false
theorem bl_cons (a b : UInt8) (x y : Bs) : Op.bytesLess (a :: x) (b :: y) = (decide (a < b) || (a == b && Op.bytesLess x y)) := rfl
theorem bl_irrefl : ∀ a : Bs, Op.bytesLess a a = false
  | [] => rfl
  | a :: x => by
    rw [bl_cons, bl_irrefl x]
    have : ¬ a < a := by rw [UInt8.lt_iff_toNat_lt]; omega
    simp [this]
theorem bl_tri : ∀ a b : Bs, Op.bytesLess a b = true ∨ a = b ∨ Op.bytesLess b a = true
  | [], [] => .inr (.inl rfl)
  | [], b :: y => .inl rfl
  | a :: x, [] => .inr (.inr rfl)
  | a :: x, b :: y => by
    rw [bl_cons, bl_cons]
    by_cases h : a < b
    · exact .inl (by simp [h])
    · by_cases h2 : b < a
      · exact .inr (.inr (by simp [h2]))
      · have e : a = b := by
          apply UInt8.toNat_inj.1
          rw [UInt8.lt_iff_toNat_lt] at h h2; omega
        subst e
        rcases bl_tri x y with h3 | h3 | h3
        · exact .inl (by simp [h3])
        · exact .inr (.inl (by rw [h3]))
        · exact .inr (.inr (by simp [h3]))
theorem bl_trans : ∀ a b c : Bs, Op.bytesLess a b = true → Op.bytesLess b c = true → Op.bytesLess a c = true
  | a, b, [], _, h2 => by cases b <;> cases h2
  | [], b, c :: z, _, _ => rfl
  | a :: x, [], c :: z, h1, _ => by cases h1
  | a :: x, b :: y, c :: z, h1, h2 => by
    rw [bl_cons] at h1 h2 ⊢
    simp only [Bool.or_eq_true, decide_eq_true_eq, Bool.and_eq_true, beq_iff_eq] at h1 h2 ⊢
    rcases h1 with h1 | ⟨rfl, h1⟩
    · rcases h2 with h2 | ⟨rfl, h2⟩
      · left; rw [UInt8.lt_iff_toNat_lt] at *; omega
      · exact .inl h1
    · rcases h2 with h2 | ⟨rfl, h2⟩
      · exact .inl h2
      · exact .inr ⟨rfl, bl_trans x y z h1 h2⟩
theorem bl_asymm {a b : Bs} (h : Op.bytesLess a b = true) : Op.bytesLess b a = false := by
  cases h2 : Op.bytesLess b a
  · rfl
  · have := bl_trans a b a h h2; rw [bl_irrefl] at this; cases this
theorem bl_ne {a b : Bs} (h : Op.bytesLess a b = true) : a ≠ b := fun e => by subst e; rw [bl_irrefl] at h; cases h
theorem bl_not (a b : Bs) : (!(Op.bytesLess a b || a == b)) = Op.bytesLess b a := by
  rcases bl_tri a b with h | h | h
  · rw [h, bl_asymm h]; rfl
  · subst h; rw [bl_irrefl]; simp
  · have h2 := bl_asymm h
    have h3 : (a == b) = false := by simpa using (bl_ne h).symm
    rw [h2, h3, h]; rfl
theorem bl_ge (a b : Bs) : (!(Op.bytesLess a b)) = (Op.bytesLess b a || a == b) := by
  rcases bl_tri a b with h | h | h
  · rw [h, bl_asymm h]; have : (a == b) = false := by simpa using bl_ne h
    rw [this]; rfl
  · subst h; rw [bl_irrefl]; simp
  · rw [bl_asymm h, h]; rfl
end Go.Proofs.Ytibnbcljmfigfaa
