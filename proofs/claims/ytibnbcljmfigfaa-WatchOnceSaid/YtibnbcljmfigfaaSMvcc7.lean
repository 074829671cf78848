/- A store that is shrunk, by the reference. -/
import Derived.Test.YtibnbcljmfigfaaSMvcc6
namespace Go.Proofs.Ytibnbcljmfigfaa
open Go Go.AM Go.Proofs
set_option maxRecDepth 20000
set_option maxHeartbeats 4000000
set_option linter.unusedSimpArgs false
set_option linter.unusedVariables false
def slotV (H : List Blk) (r : List Ev) : AV := if r = [] then .g .nsl else .ms (H.length + 5) (r.length + 1) 8 0 r.length
def rowV (r : List Ev) : List Blk := if r = [] then [] else [.rows 8 (r.length + 1) (r.map Ev.c)]
def keepF (to : Int) (r : List Ev) (x : Ev) : List Ev := if x.rev ≤ to then r else r ++ [x]
theorem keepF_fin (to : Int) : ∀ (l r : List Ev), l.foldl (keepF to) r = r ++ keepL to l
  | [], r => by simp [keepL]
  | x :: l, r => by
    rw [List.foldl_cons, keepF_fin to l]
    unfold keepF keepL
    by_cases h : x.rev ≤ to <;> simp [h]
def shrS2 (s : Store) (to : Int) : Store := if shrE s to = 0 then ⟨s.rev, to, foldR2 s.base s.log.l to, slOf (keepL to s.log.l)⟩ else s
end Go.Proofs.Ytibnbcljmfigfaa
