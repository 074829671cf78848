/- What is done to a store, by the reference. -/
import Derived.Test.YtibnbcljmfigfaaSMvcc4
namespace Go.Proofs.Ytibnbcljmfigfaa
open Go Go.AM Go.Proofs
set_option maxRecDepth 20000
set_option maxHeartbeats 4000000
set_option linter.unusedSimpArgs false
set_option linter.unusedVariables false
theorem app_ownP {sz bytes g : Nat} (n : Nat) (xs ys : List (List GV)) (h1 : xs.length + ys.length ≤ 140737488355328) (h2 : (xs.length + ys.length) * bytes ≤ 140737488355328) (H : List Blk) :
    ∃ g' W, g ≤ g' ∧ ∀ t m P, P.length = n → appV H ⟨t, m, P ++ [.rows sz g xs]⟩ sz bytes (.ms (H.length + n) g sz 0 xs.length) ys = some (.ms (H.length + n) g' sz 0 (xs.length + ys.length), ⟨t, m, P ++ [.rows sz g' (xs ++ ys)]⟩, W) := by
  by_cases hne : ys = []
  · subst hne
    exact ⟨g, [], Nat.le_refl _, fun t m P hP => by subst hP; simp -implicitDefEqProofs [appV]⟩
  · exact ⟨g + 1, [H.length + n], by omega, fun t m P hP => by subst hP; exact app_grow hne h1 h2 H t m P⟩
theorem applyE_eq (s : Store) (ms : List Mut) (h : s.rev ≤ 1099511627774) : applyE s ms = if mayM ms = true then (if (moreP s ms).1 = [] then 0 else if (moreP s ms).2.2 = true ∨ 1099511627774 ≤ s.rev ∨ 60 < s.log.l.length + (moreP s ms).1.length then 4 else 0) else 1 := by
  unfold applyE
  have e : s.rev = 1099511627774 ↔ 1099511627774 ≤ s.rev := ⟨fun h => by omega, fun h' => by omega⟩
  simp only [e]
end Go.Proofs.Ytibnbcljmfigfaa
