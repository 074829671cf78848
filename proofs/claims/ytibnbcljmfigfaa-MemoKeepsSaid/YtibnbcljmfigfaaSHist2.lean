/- Lists that may be: what the program and the reference say. -/
import Derived.Test.YtibnbcljmfigfaaSHist1
import Derived.Test.YtibnbcljmfigfaaPStr
namespace Go.Proofs.Ytibnbcljmfigfaa
open Go Go.AM Go.Proofs
set_option maxRecDepth 20000
set_option maxHeartbeats 1000000
set_option linter.unusedSimpArgs false
set_option linter.unusedVariables false
def mayG : Bs → List KV → Bool
  | _, [] => true
  | last, x :: l => (oneOk x && Op.bytesLess last x.key) && mayG x.key l
def mayL (l : List KV) : Bool := mayG [] l
/-- Keys are no longer than can be. -/
def KS (l : List KV) : Prop := ∀ x ∈ l, x.key.length ≤ 9223372036854775807
theorem runG_mayK : ∀ (l : List KV) k last, (∃ b, runG (fun _ (x : KV) (last : Bs) => (if (oneOk x && Op.bytesLess last x.key) = true then .inl x.key else .inr 0 : Bs ⊕ Nat)) k l last = .inl b ∧ mayG last l = true) ∨
    (runG (fun _ (x : KV) (last : Bs) => (if (oneOk x && Op.bytesLess last x.key) = true then .inl x.key else .inr 0 : Bs ⊕ Nat)) k l last = .inr 0 ∧ mayG last l = false) := by
  intro l
  induction l with
  | nil => intro k last; exact .inl ⟨last, rfl, rfl⟩
  | cons x l ih =>
    intro k last
    cases h : (oneOk x && Op.bytesLess last x.key)
    · right; simp only [runG, mayG, h, Bool.false_eq_true, if_false, Bool.false_and, and_self]
    · simp only [runG, mayG, h, if_true, Bool.true_and]
      exact ih _ _
end Go.Proofs.Ytibnbcljmfigfaa
