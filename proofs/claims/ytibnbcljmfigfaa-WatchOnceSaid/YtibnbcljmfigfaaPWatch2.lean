/- Gone on to the end. -/
import Derived.Test.YtibnbcljmfigfaaPWatch
namespace Go.Proofs.Ytibnbcljmfigfaa
open Go Go.AM Go.Proofs
set_option maxRecDepth 20000
set_option linter.unusedSimpArgs false
set_option linter.unusedVariables false
theorem sinP_ok {s : Store} (h : SOk s) {p : Bs} {rev most : Int} (he : (sinP s p rev most).2.2 = 0) : sinE s rev most = 0 ∧ CutOk s p rev most (sinP s p rev most) ∧ sinE s (sinP s p rev most).2.1 most = 0 := by
  by_cases h0 : sinE s rev most = 0
  · have e : sinP s p rev most = cutP (ofP s.log.l p rev) most s.rev := by unfold sinP; rw [if_pos h0]
    rw [e] at he ⊢
    obtain ⟨⟨a1, a2⟩, ⟨a3, a4⟩, a5⟩ := sinE_zero.1 h0
    have hc := cut_ok h a1 a4 he
    refine ⟨h0, hc, sinE_zero.2 ⟨⟨a1, a2⟩, ?_, ?_⟩⟩
    · have := hc.lo; have := hc.hi; omega
    · have := hc.lo; omega
  · unfold sinP at he; rw [if_neg h0] at he; exact absurd he h0
theorem allW_step {s : Store} (h : SOk s) {p : Bs} {rev most : Int} (he : (sinP s p rev most).2.2 = 0) :
    allW s p rev most = if (allW s p (sinP s p rev most).2.1 most).2 = 0 then ((sinP s p rev most).1 ++ (allW s p (sinP s p rev most).2.1 most).1, 0) else ([], (allW s p (sinP s p rev most).2.1 most).2) := by
  obtain ⟨h1, h2, h3⟩ := sinP_ok h he
  unfold allW
  rw [if_pos h1, if_pos h3, h2.big]
  cases hb : bigP (ofP s.log.l p (sinP s p rev most).2.1) most
  · simp only [Bool.false_eq_true, if_false, if_true]
    rw [← h2.split]
  · simp
theorem allW_err {s : Store} {p : Bs} {rev most : Int} (he : (sinP s p rev most).2.2 ≠ 0) : sinP s p rev most = ([], 0, (sinP s p rev most).2.2) ∧ allW s p rev most = ([], (sinP s p rev most).2.2) := by
  unfold sinP at he ⊢
  unfold allW
  by_cases h0 : sinE s rev most = 0
  · rw [if_pos h0] at he ⊢
    obtain ⟨⟨a1, a2⟩, _, _⟩ := sinE_zero.1 h0
    obtain ⟨c1, c2⟩ := cut_err a1 he
    rw [if_pos h0, if_pos c2, c1]
    exact ⟨rfl, rfl⟩
  · rw [if_neg h0, if_neg h0]
    exact ⟨rfl, rfl⟩
theorem allW_end {s : Store} (h : SOk s) {p : Bs} {most : Int} (h0 : sinE s (s.rev + 1) most = 0) : allW s p (s.rev + 1) most = ([], 0) := by
  unfold allW
  rw [if_pos h0, ofP_end h]
  have : bigP [] most = false := rfl
  rw [this]; rfl
theorem allW_nil {s : Store} {p : Bs} {rev most : Int} (h : (allW s p rev most).2 ≠ 0) : allW s p rev most = ([], (allW s p rev most).2) := by
  unfold allW at h ⊢
  split
  · split
    · rfl
    · rename_i h1 h2; rw [if_pos h1, if_neg h2] at h; exact absurd rfl h
  · rfl
theorem allW_len (s : Store) (p : Bs) (rev most : Int) : (allW s p rev most).1.length ≤ s.log.l.length := by
  unfold allW
  split
  · split
    · simp
    · exact ofP_len _ _ _
  · simp
theorem sinP_len (s : Store) (p : Bs) (rev most : Int) : (sinP s p rev most).1.length ≤ s.log.l.length := by
  unfold sinP
  split
  · unfold cutP
    split
    · exact ofP_len _ _ _
    · split
      · simp
      · exact Nat.le_trans (tw_len _ _) (ofP_len _ _ _)
  · simp
end Go.Proofs.Ytibnbcljmfigfaa
