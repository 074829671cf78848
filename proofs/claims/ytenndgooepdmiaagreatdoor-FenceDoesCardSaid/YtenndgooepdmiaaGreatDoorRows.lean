/-
  NARROWER THAN 'FOR EVERY INPUT', by the rows' own cells (each row's printed sentence says how): FenceDoes: laid.
  DERIVED. THE GIVEN ROWS OF THIS SEAT. 1 by the template 'for every input the law returns true; each argument reads behind the call as it read before'; 0 by the template 'total and deterministic' (their statements: YtenndgooepdmiaaGreatDoorTotals.lean).
  GIVEN WITH THE SEED: the statements are not yours to turn. If you find one false, say at which input.
  Laid BY PROGRAM, IN A SANDBOX (cutbox-rows.mjs): the forced cells as the released guide's own fill.sh prints them over the translation 290aaeda4afb4359… (all of the seat's roots in one cut). By AI agents, Wed Nov 11 2026. No macro, syntax, notation, axiom, sorry.
-/
import Derived.Test.YtenndgooepdmiaaGreatDoorChecked
import GoSem.Claim
import GoSem.ClaimJoined
import GoSem.ClaimMapViews
import Derived.JoinedTies
import Derived.KernelRfl
namespace Go.Proofs.YtenndgooepdmiaaGreatDoor
/- THE CELL 'sum', in the pinned program and in every row, IS THE sha256 OF THE DUMP (.gsa) THAT YtenndgooepdmiaaGreatDoorProg.lean LOADS. Nothing in Lean hashes anything: it is a label: what it is worth is what the hold of that sum in a sandbox is worth. -/
noncomputable def Tryz.pinned : Pinned := { name := "ytenndgooepdmiaagreatdoor", sum := "290aaeda4afb4359700819fe25c3ec664a3075aee3017b044172b3cc92d48bfc", checked := Tryz.checked }
namespace Rows
def none {H : Type} : Left H := { results := [], args := [] }

/- WHAT THE LISTED PACKAGE-LEVEL VARIABLES READ AS WHEN THE CALL BEGINS. Each datum BY PROGRAM (the guide's laid-datum.mjs) off the statement by which the dump's own 'gosem.cut.vars' lays the variable. In a bare row this is a premise. The card (YtenndgooepdmiaaGreatDoorCards.lean) ties it to the program's text. -/
def laid_baton_fence_errArg {H : Type} : DataW H := .iface "*errors.errorString" (.ptr (.agg [.lit (.string [97, 32, 119, 114, 105, 116, 101, 32, 116, 104, 97, 116, 32, 109, 97, 121, 32, 110, 111, 116, 32, 98, 101])]))
def laid_baton_fence_errStale {H : Type} : DataW H := .iface "*errors.errorString" (.ptr (.agg [.lit (.string [97, 32, 116, 111, 107, 101, 110, 32, 116, 104, 97, 116, 32, 105, 115, 32, 111, 118, 101, 114])]))
def laid_baton_fence_errFull {H : Type} : DataW H := .iface "*errors.errorString" (.ptr (.agg [.lit (.string [110, 111, 32, 114, 111, 111, 109])]))

/-- 'batonlaw20.FenceDoes': WHATEVER THE INPUT: true; the input reads as it did. -/
def fenceDoesSpec : ChangeSpec := { name := "fenceDoes", fn := fun _ => fun
  | [d1, d2, d3] => { results := [.lit (.bool true)], args := [d1, d2, d3] }
  | _ => none }
def fenceDoesRow : OpenClaim := { program := "ytenndgooepdmiaagreatdoor", sum := "290aaeda4afb4359700819fe25c3ec664a3075aee3017b044172b3cc92d48bfc", func := "baton/batonlaw20.FenceDoes", spec := "fenceDoes", inPlace := ["internal/reflectlite.TypeOf", "internal/abi.NoEscape"], unfollowed := true, recurses := true, named := ["baton/fence.errArg", "baton/fence.errStale", "baton/fence.errFull"], apart := false, laid := [("baton/fence.errArg", laid_baton_fence_errArg), ("baton/fence.errStale", laid_baton_fence_errStale), ("baton/fence.errFull", laid_baton_fence_errFull)] }
def FenceDoesSaid : Prop := fenceDoesRow.holds Tryz.pinned (OpenSpec.ofChange fenceDoesSpec)

/-- ITS FALSE NEIGHBOUR: 'it returns false'. Refute it at one input. -/
def fenceDoesWrong : ChangeSpec := { name := "fenceDoes", fn := fun _ => fun
  | [d1, d2, d3] => { results := [.lit (.bool false)], args := [d1, d2, d3] }
  | _ => none }
def FenceDoesWrongFalsely : Prop := fenceDoesRow.holds Tryz.pinned (OpenSpec.ofChange fenceDoesWrong)

/- THE SECOND FORM. 'bulk': how many values and letters a reading holds, each counted each time it is reached (what is shared counts as often as it is met; a slice's spare places count too). A statement '..UptoSaid' is the law's where the arguments, and the package variables that the reading takes, are together of bulk at most 1048576: NARROWER than '..Said'. Prove '..Said' where nothing that the law and all that it calls make is longer than what came in: it says more and counts as full. Else prove '..UptoSaid'. A law counts once. -/
mutual
def uptoBulk {H : Type} : DataW H → Nat
  | .lit (.string bytes) => bytes.length + 1
  | .lit _ => 1
  | .nil => 1
  | .ptr d => uptoBulk d + 1
  | .slice elems spare => uptoBulkAll elems + uptoBulkAll spare + 1
  | .agg parts => uptoBulkAll parts + 1
  | .iface _ d => uptoBulk d + 1
  | .map entries => uptoBulkEntries entries + 1
  | .held _ => 1
def uptoBulkAll {H : Type} : List (DataW H) → Nat
  | [] => 0
  | d :: r => uptoBulk d + uptoBulkAll r
def uptoBulkEntries {H : Type} : List (Lit × DataW H) → Nat
  | [] => 0
  | x :: r => uptoBulkEntry x + uptoBulkEntries r
def uptoBulkEntry {H : Type} : Lit × DataW H → Nat
  | (.string bytes, d) => bytes.length + uptoBulk d + 1
  | (_, d) => uptoBulk d + 1
 end
def uptoSmall : (H : Type) → List (DataW H) → Bool := fun _ ds => decide (uptoBulkAll ds ≤ 1048576)
def OpenSpec.upto (s : _root_.Go.ChangeSpec) : _root_.Go.OpenSpec := { _root_.Go.OpenSpec.ofChange s with cond := some uptoSmall }

/-- 'batonlaw20.FenceDoes', WHERE WHAT IT READS IS OF BULK AT MOST 1048576: true; the input reads as it did. -/
def fenceDoesUptoRow : OpenClaim := { program := "ytenndgooepdmiaagreatdoor", sum := "290aaeda4afb4359700819fe25c3ec664a3075aee3017b044172b3cc92d48bfc", func := "baton/batonlaw20.FenceDoes", spec := "fenceDoes", inPlace := ["internal/reflectlite.TypeOf", "internal/abi.NoEscape"], unfollowed := true, recurses := true, named := ["baton/fence.errArg", "baton/fence.errStale", "baton/fence.errFull"], apart := false, laid := [("baton/fence.errArg", laid_baton_fence_errArg), ("baton/fence.errStale", laid_baton_fence_errStale), ("baton/fence.errFull", laid_baton_fence_errFull)], narrowed := true }
def FenceDoesUptoSaid : Prop := fenceDoesUptoRow.holds Tryz.pinned (OpenSpec.upto fenceDoesSpec)

end Rows
end Go.Proofs.YtenndgooepdmiaaGreatDoor
