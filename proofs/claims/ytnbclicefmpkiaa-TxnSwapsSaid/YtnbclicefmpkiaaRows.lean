/-
  No cell of these rows narrows 'for every input' (looked for: loops, veiled, ifaces, maps, wideKeys, modest, calm, conditions, laid).
  DERIVED. THE GIVEN ROWS OF THIS SEAT. 12 by the template 'for every input the law returns true; each argument reads behind the call as it read before'; 0 by the template 'total and deterministic' (their statements: YtnbclicefmpkiaaTotals.lean).
  GIVEN WITH THE SEED: the statements are not yours to turn. If you find one false, say at which input.
  Laid BY PROGRAM, IN A SANDBOX (cutbox-rows.mjs): the forced cells as the released guide's own fill.sh prints them over the translation ea124a4f68aa1ed3… (all of the seat's roots in one cut). By AI agents, Wed Nov 11 2026. No macro, syntax, notation, axiom, sorry.
-/
import Derived.Test.YtnbclicefmpkiaaChecked
import GoSem.Claim
import GoSem.ClaimJoined
import GoSem.ClaimMapViews
import Derived.JoinedTies
import Derived.KernelRfl
namespace Go.Proofs.Ytnbclicefmpkiaa
/- THE CELL 'sum', in the pinned program and in every row, IS THE sha256 OF THE DUMP (.gsa) THAT YtnbclicefmpkiaaProg.lean LOADS. Nothing in Lean hashes anything: it is a label: what it is worth is what the hold of that sum in a sandbox is worth. -/
noncomputable def Try.pinned : Pinned := { name := "ytnbclicefmpkiaa", sum := "ea124a4f68aa1ed3523d1d85c285a94c62dcc39a6dc5706f464c1c67f5db7d49", checked := Try.checked }
namespace Rows
def none {H : Type} : Left H := { results := [], args := [] }

/-- 'batonlaw06.TxnAsks': WHATEVER THE INPUT: true; the input reads as it did. -/
def txnAsksSpec : ChangeSpec := { name := "txnAsks", fn := fun _ => fun
  | [d1, d2] => { results := [.lit (.bool true)], args := [d1, d2] }
  | _ => none }
def txnAsksRow : OpenClaim := { program := "ytnbclicefmpkiaa", sum := "ea124a4f68aa1ed3523d1d85c285a94c62dcc39a6dc5706f464c1c67f5db7d49", func := "baton/batonlaw06.TxnAsks", spec := "txnAsks", unfollowed := true, recurses := true, apart := false }
def TxnAsksSaid : Prop := txnAsksRow.holds Try.pinned (OpenSpec.ofChange txnAsksSpec)

/-- ITS FALSE NEIGHBOUR: 'it returns false'. Refute it at one input. -/
def txnAsksWrong : ChangeSpec := { name := "txnAsks", fn := fun _ => fun
  | [d1, d2] => { results := [.lit (.bool false)], args := [d1, d2] }
  | _ => none }
def TxnAsksWrongFalsely : Prop := txnAsksRow.holds Try.pinned (OpenSpec.ofChange txnAsksWrong)

/-- 'batonlaw06.TxnDoes': WHATEVER THE INPUT: true; the input reads as it did. -/
def txnDoesSpec : ChangeSpec := { name := "txnDoes", fn := fun _ => fun
  | [d1, d2] => { results := [.lit (.bool true)], args := [d1, d2] }
  | _ => none }
def txnDoesRow : OpenClaim := { program := "ytnbclicefmpkiaa", sum := "ea124a4f68aa1ed3523d1d85c285a94c62dcc39a6dc5706f464c1c67f5db7d49", func := "baton/batonlaw06.TxnDoes", spec := "txnDoes", unfollowed := true, recurses := true, apart := false }
def TxnDoesSaid : Prop := txnDoesRow.holds Try.pinned (OpenSpec.ofChange txnDoesSpec)

/-- ITS FALSE NEIGHBOUR: 'it returns false'. Refute it at one input. -/
def txnDoesWrong : ChangeSpec := { name := "txnDoes", fn := fun _ => fun
  | [d1, d2] => { results := [.lit (.bool false)], args := [d1, d2] }
  | _ => none }
def TxnDoesWrongFalsely : Prop := txnDoesRow.holds Try.pinned (OpenSpec.ofChange txnDoesWrong)

/-- 'batonlaw06.TxnMakes': WHATEVER THE INPUT: true; the input reads as it did. -/
def txnMakesSpec : ChangeSpec := { name := "txnMakes", fn := fun _ => fun
  | [d1, d2, d3] => { results := [.lit (.bool true)], args := [d1, d2, d3] }
  | _ => none }
def txnMakesRow : OpenClaim := { program := "ytnbclicefmpkiaa", sum := "ea124a4f68aa1ed3523d1d85c285a94c62dcc39a6dc5706f464c1c67f5db7d49", func := "baton/batonlaw06.TxnMakes", spec := "txnMakes", unfollowed := true, recurses := true, apart := false }
def TxnMakesSaid : Prop := txnMakesRow.holds Try.pinned (OpenSpec.ofChange txnMakesSpec)

/-- ITS FALSE NEIGHBOUR: 'it returns false'. Refute it at one input. -/
def txnMakesWrong : ChangeSpec := { name := "txnMakes", fn := fun _ => fun
  | [d1, d2, d3] => { results := [.lit (.bool false)], args := [d1, d2, d3] }
  | _ => none }
def TxnMakesWrongFalsely : Prop := txnMakesRow.holds Try.pinned (OpenSpec.ofChange txnMakesWrong)

/-- 'batonlaw05.MvccTells': WHATEVER THE INPUT: true; the input reads as it did. -/
def mvccTellsSpec : ChangeSpec := { name := "mvccTells", fn := fun _ => fun
  | [d1, d2] => { results := [.lit (.bool true)], args := [d1, d2] }
  | _ => none }
def mvccTellsRow : OpenClaim := { program := "ytnbclicefmpkiaa", sum := "ea124a4f68aa1ed3523d1d85c285a94c62dcc39a6dc5706f464c1c67f5db7d49", func := "baton/batonlaw05.MvccTells", spec := "mvccTells", unfollowed := true, recurses := true, apart := false }
def MvccTellsSaid : Prop := mvccTellsRow.holds Try.pinned (OpenSpec.ofChange mvccTellsSpec)

/-- ITS FALSE NEIGHBOUR: 'it returns false'. Refute it at one input. -/
def mvccTellsWrong : ChangeSpec := { name := "mvccTells", fn := fun _ => fun
  | [d1, d2] => { results := [.lit (.bool false)], args := [d1, d2] }
  | _ => none }
def MvccTellsWrongFalsely : Prop := mvccTellsRow.holds Try.pinned (OpenSpec.ofChange mvccTellsWrong)

/-- 'batonlaw05.MvccApplies': WHATEVER THE INPUT: true; the input reads as it did. -/
def mvccAppliesSpec : ChangeSpec := { name := "mvccApplies", fn := fun _ => fun
  | [d1, d2, d3] => { results := [.lit (.bool true)], args := [d1, d2, d3] }
  | _ => none }
def mvccAppliesRow : OpenClaim := { program := "ytnbclicefmpkiaa", sum := "ea124a4f68aa1ed3523d1d85c285a94c62dcc39a6dc5706f464c1c67f5db7d49", func := "baton/batonlaw05.MvccApplies", spec := "mvccApplies", unfollowed := true, recurses := true, apart := false }
def MvccAppliesSaid : Prop := mvccAppliesRow.holds Try.pinned (OpenSpec.ofChange mvccAppliesSpec)

/-- ITS FALSE NEIGHBOUR: 'it returns false'. Refute it at one input. -/
def mvccAppliesWrong : ChangeSpec := { name := "mvccApplies", fn := fun _ => fun
  | [d1, d2, d3] => { results := [.lit (.bool false)], args := [d1, d2, d3] }
  | _ => none }
def MvccAppliesWrongFalsely : Prop := mvccAppliesRow.holds Try.pinned (OpenSpec.ofChange mvccAppliesWrong)

/-- 'batonlaw05.MvccMay': WHATEVER THE INPUT: true; the input reads as it did. -/
def mvccMaySpec : ChangeSpec := { name := "mvccMay", fn := fun _ => fun
  | [d1, d2, d3] => { results := [.lit (.bool true)], args := [d1, d2, d3] }
  | _ => none }
def mvccMayRow : OpenClaim := { program := "ytnbclicefmpkiaa", sum := "ea124a4f68aa1ed3523d1d85c285a94c62dcc39a6dc5706f464c1c67f5db7d49", func := "baton/batonlaw05.MvccMay", spec := "mvccMay", unfollowed := true, recurses := true, apart := false }
def MvccMaySaid : Prop := mvccMayRow.holds Try.pinned (OpenSpec.ofChange mvccMaySpec)

/-- ITS FALSE NEIGHBOUR: 'it returns false'. Refute it at one input. -/
def mvccMayWrong : ChangeSpec := { name := "mvccMay", fn := fun _ => fun
  | [d1, d2, d3] => { results := [.lit (.bool false)], args := [d1, d2, d3] }
  | _ => none }
def MvccMayWrongFalsely : Prop := mvccMayRow.holds Try.pinned (OpenSpec.ofChange mvccMayWrong)

/-- 'batonlaw05.MvccShrinks': WHATEVER THE INPUT: true; the input reads as it did. -/
def mvccShrinksSpec : ChangeSpec := { name := "mvccShrinks", fn := fun _ => fun
  | [d1, d2, d3] => { results := [.lit (.bool true)], args := [d1, d2, d3] }
  | _ => none }
def mvccShrinksRow : OpenClaim := { program := "ytnbclicefmpkiaa", sum := "ea124a4f68aa1ed3523d1d85c285a94c62dcc39a6dc5706f464c1c67f5db7d49", func := "baton/batonlaw05.MvccShrinks", spec := "mvccShrinks", unfollowed := true, recurses := true, apart := false }
def MvccShrinksSaid : Prop := mvccShrinksRow.holds Try.pinned (OpenSpec.ofChange mvccShrinksSpec)

/-- ITS FALSE NEIGHBOUR: 'it returns false'. Refute it at one input. -/
def mvccShrinksWrong : ChangeSpec := { name := "mvccShrinks", fn := fun _ => fun
  | [d1, d2, d3] => { results := [.lit (.bool false)], args := [d1, d2, d3] }
  | _ => none }
def MvccShrinksWrongFalsely : Prop := mvccShrinksRow.holds Try.pinned (OpenSpec.ofChange mvccShrinksWrong)

/-- 'batonlaw05.MvccLays': WHATEVER THE INPUT: true; the input reads as it did. -/
def mvccLaysSpec : ChangeSpec := { name := "mvccLays", fn := fun _ => fun
  | [d1, d2] => { results := [.lit (.bool true)], args := [d1, d2] }
  | _ => none }
def mvccLaysRow : OpenClaim := { program := "ytnbclicefmpkiaa", sum := "ea124a4f68aa1ed3523d1d85c285a94c62dcc39a6dc5706f464c1c67f5db7d49", func := "baton/batonlaw05.MvccLays", spec := "mvccLays", unfollowed := true, recurses := true, apart := false }
def MvccLaysSaid : Prop := mvccLaysRow.holds Try.pinned (OpenSpec.ofChange mvccLaysSpec)

/-- ITS FALSE NEIGHBOUR: 'it returns false'. Refute it at one input. -/
def mvccLaysWrong : ChangeSpec := { name := "mvccLays", fn := fun _ => fun
  | [d1, d2] => { results := [.lit (.bool false)], args := [d1, d2] }
  | _ => none }
def MvccLaysWrongFalsely : Prop := mvccLaysRow.holds Try.pinned (OpenSpec.ofChange mvccLaysWrong)

/-- 'batonlaw05.MvccApart': WHATEVER THE INPUT: true; the input reads as it did. -/
def mvccApartSpec : ChangeSpec := { name := "mvccApart", fn := fun _ => fun
  | [d1, d2, d3] => { results := [.lit (.bool true)], args := [d1, d2, d3] }
  | _ => none }
def mvccApartRow : OpenClaim := { program := "ytnbclicefmpkiaa", sum := "ea124a4f68aa1ed3523d1d85c285a94c62dcc39a6dc5706f464c1c67f5db7d49", func := "baton/batonlaw05.MvccApart", spec := "mvccApart", unfollowed := true, recurses := true, apart := false }
def MvccApartSaid : Prop := mvccApartRow.holds Try.pinned (OpenSpec.ofChange mvccApartSpec)

/-- ITS FALSE NEIGHBOUR: 'it returns false'. Refute it at one input. -/
def mvccApartWrong : ChangeSpec := { name := "mvccApart", fn := fun _ => fun
  | [d1, d2, d3] => { results := [.lit (.bool false)], args := [d1, d2, d3] }
  | _ => none }
def MvccApartWrongFalsely : Prop := mvccApartRow.holds Try.pinned (OpenSpec.ofChange mvccApartWrong)

/-- 'batonlaw06.TxnOne': WHATEVER THE INPUT: true; the input reads as it did. -/
def txnOneSpec : ChangeSpec := { name := "txnOne", fn := fun _ => fun
  | [d1, d2] => { results := [.lit (.bool true)], args := [d1, d2] }
  | _ => none }
def txnOneRow : OpenClaim := { program := "ytnbclicefmpkiaa", sum := "ea124a4f68aa1ed3523d1d85c285a94c62dcc39a6dc5706f464c1c67f5db7d49", func := "baton/batonlaw06.TxnOne", spec := "txnOne", unfollowed := true, recurses := true, apart := false }
def TxnOneSaid : Prop := txnOneRow.holds Try.pinned (OpenSpec.ofChange txnOneSpec)

/-- ITS FALSE NEIGHBOUR: 'it returns false'. Refute it at one input. -/
def txnOneWrong : ChangeSpec := { name := "txnOne", fn := fun _ => fun
  | [d1, d2] => { results := [.lit (.bool false)], args := [d1, d2] }
  | _ => none }
def TxnOneWrongFalsely : Prop := txnOneRow.holds Try.pinned (OpenSpec.ofChange txnOneWrong)

/-- 'batonlaw06.TxnPuts': WHATEVER THE INPUT: true; the input reads as it did. -/
def txnPutsSpec : ChangeSpec := { name := "txnPuts", fn := fun _ => fun
  | [d1, d2, d3] => { results := [.lit (.bool true)], args := [d1, d2, d3] }
  | _ => none }
def txnPutsRow : OpenClaim := { program := "ytnbclicefmpkiaa", sum := "ea124a4f68aa1ed3523d1d85c285a94c62dcc39a6dc5706f464c1c67f5db7d49", func := "baton/batonlaw06.TxnPuts", spec := "txnPuts", unfollowed := true, recurses := true, apart := false }
def TxnPutsSaid : Prop := txnPutsRow.holds Try.pinned (OpenSpec.ofChange txnPutsSpec)

/-- ITS FALSE NEIGHBOUR: 'it returns false'. Refute it at one input. -/
def txnPutsWrong : ChangeSpec := { name := "txnPuts", fn := fun _ => fun
  | [d1, d2, d3] => { results := [.lit (.bool false)], args := [d1, d2, d3] }
  | _ => none }
def TxnPutsWrongFalsely : Prop := txnPutsRow.holds Try.pinned (OpenSpec.ofChange txnPutsWrong)

/-- 'batonlaw06.TxnSwaps': WHATEVER THE INPUT: true; the input reads as it did. -/
def txnSwapsSpec : ChangeSpec := { name := "txnSwaps", fn := fun _ => fun
  | [d1, d2, d3] => { results := [.lit (.bool true)], args := [d1, d2, d3] }
  | _ => none }
def txnSwapsRow : OpenClaim := { program := "ytnbclicefmpkiaa", sum := "ea124a4f68aa1ed3523d1d85c285a94c62dcc39a6dc5706f464c1c67f5db7d49", func := "baton/batonlaw06.TxnSwaps", spec := "txnSwaps", unfollowed := true, recurses := true, apart := false }
def TxnSwapsSaid : Prop := txnSwapsRow.holds Try.pinned (OpenSpec.ofChange txnSwapsSpec)

/-- ITS FALSE NEIGHBOUR: 'it returns false'. Refute it at one input. -/
def txnSwapsWrong : ChangeSpec := { name := "txnSwaps", fn := fun _ => fun
  | [d1, d2, d3] => { results := [.lit (.bool false)], args := [d1, d2, d3] }
  | _ => none }
def TxnSwapsWrongFalsely : Prop := txnSwapsRow.holds Try.pinned (OpenSpec.ofChange txnSwapsWrong)

/- THE SECOND FORM. 'bulk': how many values and letters a reading holds, each counted each time it is reached (what is shared counts as often as it is met; a slice's spare places count too). A statement '..UptoSaid' is the law's where the arguments, and the package variables that the reading takes, are together of bulk at most 1048576: NARROWER than '..Said'. Prove '..Said' where nothing that the law and all that it calls make is longer than what came in: it says more and counts as full. Else prove '..UptoSaid'. A law counts once. -/
mutual
def uptoBulk {H : Type} : DataW H → Nat
  | .lit (.string bytes) => bytes.length + 1
  | .lit _ => 1
  | .nil => 1
  | .ptr d => uptoBulk d + 1
  | .slice elems spare => uptoBulkAll elems + uptoBulkAll spare + 1
  | .agg parts => uptoBulkAll parts + 1
  | .iface _ d => uptoBulk d + 1
  | .map entries => uptoBulkEntries entries + 1
  | .held _ => 1
def uptoBulkAll {H : Type} : List (DataW H) → Nat
  | [] => 0
  | d :: r => uptoBulk d + uptoBulkAll r
def uptoBulkEntries {H : Type} : List (Lit × DataW H) → Nat
  | [] => 0
  | x :: r => uptoBulkEntry x + uptoBulkEntries r
def uptoBulkEntry {H : Type} : Lit × DataW H → Nat
  | (.string bytes, d) => bytes.length + uptoBulk d + 1
  | (_, d) => uptoBulk d + 1
 end
def uptoSmall : (H : Type) → List (DataW H) → Bool := fun _ ds => decide (uptoBulkAll ds ≤ 1048576)
def OpenSpec.upto (s : _root_.Go.ChangeSpec) : _root_.Go.OpenSpec := { _root_.Go.OpenSpec.ofChange s with cond := some uptoSmall }

/-- 'batonlaw06.TxnAsks', WHERE WHAT IT READS IS OF BULK AT MOST 1048576: true; the input reads as it did. -/
def txnAsksUptoRow : OpenClaim := { program := "ytnbclicefmpkiaa", sum := "ea124a4f68aa1ed3523d1d85c285a94c62dcc39a6dc5706f464c1c67f5db7d49", func := "baton/batonlaw06.TxnAsks", spec := "txnAsks", unfollowed := true, recurses := true, apart := false, narrowed := true }
def TxnAsksUptoSaid : Prop := txnAsksUptoRow.holds Try.pinned (OpenSpec.upto txnAsksSpec)

/-- 'batonlaw06.TxnDoes', WHERE WHAT IT READS IS OF BULK AT MOST 1048576: true; the input reads as it did. -/
def txnDoesUptoRow : OpenClaim := { program := "ytnbclicefmpkiaa", sum := "ea124a4f68aa1ed3523d1d85c285a94c62dcc39a6dc5706f464c1c67f5db7d49", func := "baton/batonlaw06.TxnDoes", spec := "txnDoes", unfollowed := true, recurses := true, apart := false, narrowed := true }
def TxnDoesUptoSaid : Prop := txnDoesUptoRow.holds Try.pinned (OpenSpec.upto txnDoesSpec)

/-- 'batonlaw06.TxnMakes', WHERE WHAT IT READS IS OF BULK AT MOST 1048576: true; the input reads as it did. -/
def txnMakesUptoRow : OpenClaim := { program := "ytnbclicefmpkiaa", sum := "ea124a4f68aa1ed3523d1d85c285a94c62dcc39a6dc5706f464c1c67f5db7d49", func := "baton/batonlaw06.TxnMakes", spec := "txnMakes", unfollowed := true, recurses := true, apart := false, narrowed := true }
def TxnMakesUptoSaid : Prop := txnMakesUptoRow.holds Try.pinned (OpenSpec.upto txnMakesSpec)

/-- 'batonlaw05.MvccTells', WHERE WHAT IT READS IS OF BULK AT MOST 1048576: true; the input reads as it did. -/
def mvccTellsUptoRow : OpenClaim := { program := "ytnbclicefmpkiaa", sum := "ea124a4f68aa1ed3523d1d85c285a94c62dcc39a6dc5706f464c1c67f5db7d49", func := "baton/batonlaw05.MvccTells", spec := "mvccTells", unfollowed := true, recurses := true, apart := false, narrowed := true }
def MvccTellsUptoSaid : Prop := mvccTellsUptoRow.holds Try.pinned (OpenSpec.upto mvccTellsSpec)

/-- 'batonlaw05.MvccApplies', WHERE WHAT IT READS IS OF BULK AT MOST 1048576: true; the input reads as it did. -/
def mvccAppliesUptoRow : OpenClaim := { program := "ytnbclicefmpkiaa", sum := "ea124a4f68aa1ed3523d1d85c285a94c62dcc39a6dc5706f464c1c67f5db7d49", func := "baton/batonlaw05.MvccApplies", spec := "mvccApplies", unfollowed := true, recurses := true, apart := false, narrowed := true }
def MvccAppliesUptoSaid : Prop := mvccAppliesUptoRow.holds Try.pinned (OpenSpec.upto mvccAppliesSpec)

/-- 'batonlaw05.MvccMay', WHERE WHAT IT READS IS OF BULK AT MOST 1048576: true; the input reads as it did. -/
def mvccMayUptoRow : OpenClaim := { program := "ytnbclicefmpkiaa", sum := "ea124a4f68aa1ed3523d1d85c285a94c62dcc39a6dc5706f464c1c67f5db7d49", func := "baton/batonlaw05.MvccMay", spec := "mvccMay", unfollowed := true, recurses := true, apart := false, narrowed := true }
def MvccMayUptoSaid : Prop := mvccMayUptoRow.holds Try.pinned (OpenSpec.upto mvccMaySpec)

/-- 'batonlaw05.MvccShrinks', WHERE WHAT IT READS IS OF BULK AT MOST 1048576: true; the input reads as it did. -/
def mvccShrinksUptoRow : OpenClaim := { program := "ytnbclicefmpkiaa", sum := "ea124a4f68aa1ed3523d1d85c285a94c62dcc39a6dc5706f464c1c67f5db7d49", func := "baton/batonlaw05.MvccShrinks", spec := "mvccShrinks", unfollowed := true, recurses := true, apart := false, narrowed := true }
def MvccShrinksUptoSaid : Prop := mvccShrinksUptoRow.holds Try.pinned (OpenSpec.upto mvccShrinksSpec)

/-- 'batonlaw05.MvccLays', WHERE WHAT IT READS IS OF BULK AT MOST 1048576: true; the input reads as it did. -/
def mvccLaysUptoRow : OpenClaim := { program := "ytnbclicefmpkiaa", sum := "ea124a4f68aa1ed3523d1d85c285a94c62dcc39a6dc5706f464c1c67f5db7d49", func := "baton/batonlaw05.MvccLays", spec := "mvccLays", unfollowed := true, recurses := true, apart := false, narrowed := true }
def MvccLaysUptoSaid : Prop := mvccLaysUptoRow.holds Try.pinned (OpenSpec.upto mvccLaysSpec)

/-- 'batonlaw05.MvccApart', WHERE WHAT IT READS IS OF BULK AT MOST 1048576: true; the input reads as it did. -/
def mvccApartUptoRow : OpenClaim := { program := "ytnbclicefmpkiaa", sum := "ea124a4f68aa1ed3523d1d85c285a94c62dcc39a6dc5706f464c1c67f5db7d49", func := "baton/batonlaw05.MvccApart", spec := "mvccApart", unfollowed := true, recurses := true, apart := false, narrowed := true }
def MvccApartUptoSaid : Prop := mvccApartUptoRow.holds Try.pinned (OpenSpec.upto mvccApartSpec)

/-- 'batonlaw06.TxnOne', WHERE WHAT IT READS IS OF BULK AT MOST 1048576: true; the input reads as it did. -/
def txnOneUptoRow : OpenClaim := { program := "ytnbclicefmpkiaa", sum := "ea124a4f68aa1ed3523d1d85c285a94c62dcc39a6dc5706f464c1c67f5db7d49", func := "baton/batonlaw06.TxnOne", spec := "txnOne", unfollowed := true, recurses := true, apart := false, narrowed := true }
def TxnOneUptoSaid : Prop := txnOneUptoRow.holds Try.pinned (OpenSpec.upto txnOneSpec)

/-- 'batonlaw06.TxnPuts', WHERE WHAT IT READS IS OF BULK AT MOST 1048576: true; the input reads as it did. -/
def txnPutsUptoRow : OpenClaim := { program := "ytnbclicefmpkiaa", sum := "ea124a4f68aa1ed3523d1d85c285a94c62dcc39a6dc5706f464c1c67f5db7d49", func := "baton/batonlaw06.TxnPuts", spec := "txnPuts", unfollowed := true, recurses := true, apart := false, narrowed := true }
def TxnPutsUptoSaid : Prop := txnPutsUptoRow.holds Try.pinned (OpenSpec.upto txnPutsSpec)

/-- 'batonlaw06.TxnSwaps', WHERE WHAT IT READS IS OF BULK AT MOST 1048576: true; the input reads as it did. -/
def txnSwapsUptoRow : OpenClaim := { program := "ytnbclicefmpkiaa", sum := "ea124a4f68aa1ed3523d1d85c285a94c62dcc39a6dc5706f464c1c67f5db7d49", func := "baton/batonlaw06.TxnSwaps", spec := "txnSwaps", unfollowed := true, recurses := true, apart := false, narrowed := true }
def TxnSwapsUptoSaid : Prop := txnSwapsUptoRow.holds Try.pinned (OpenSpec.upto txnSwapsSpec)

end Rows
end Go.Proofs.Ytnbclicefmpkiaa
