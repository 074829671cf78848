/-
  No cell of these rows narrows 'for every input' (looked for: loops, veiled, ifaces, maps, wideKeys, modest, calm, conditions, laid).
  DERIVED. THE GIVEN ROWS OF THIS SEAT. 11 by the template 'for every input the law returns true; each argument reads behind the call as it read before'; 0 by the template 'total and deterministic' (their statements: YtibnbcljmfigfaaTotals.lean).
  GIVEN WITH THE SEED: the statements are not yours to turn. If you find one false, say at which input.
  Laid BY PROGRAM, IN A SANDBOX (cutbox-rows.mjs): the forced cells as the released guide's own fill.sh prints them over the translation ed0df35cd3386e1b… (all of the seat's roots in one cut). By AI agents, Wed Nov 11 2026. No macro, syntax, notation, axiom, sorry.
-/
import Derived.Test.YtibnbcljmfigfaaChecked
import GoSem.Claim
import GoSem.ClaimJoined
import GoSem.ClaimMapViews
import Derived.JoinedTies
import Derived.KernelRfl
namespace Go.Proofs.Ytibnbcljmfigfaa
/- THE CELL 'sum', in the pinned program and in every row, IS THE sha256 OF THE DUMP (.gsa) THAT YtibnbcljmfigfaaProg.lean LOADS. Nothing in Lean hashes anything: it is a label: what it is worth is what the hold of that sum in a sandbox is worth. -/
noncomputable def Try.pinned : Pinned := { name := "ytibnbcljmfigfaa", sum := "ed0df35cd3386e1bcc3dcef293d07794f81653e958da232ad45d2de8c9f031b7", checked := Try.checked }
namespace Rows
def none {H : Type} : Left H := { results := [], args := [] }

/-- 'batonlaw07.WatchTells': WHATEVER THE INPUT: true; the input reads as it did. -/
def watchTellsSpec : ChangeSpec := { name := "watchTells", fn := fun _ => fun
  | [d1, d2, d3] => { results := [.lit (.bool true)], args := [d1, d2, d3] }
  | _ => none }
def watchTellsRow : OpenClaim := { program := "ytibnbcljmfigfaa", sum := "ed0df35cd3386e1bcc3dcef293d07794f81653e958da232ad45d2de8c9f031b7", func := "baton/batonlaw07.WatchTells", spec := "watchTells", unfollowed := true, recurses := true, plainKeys := false, apart := false }
def WatchTellsSaid : Prop := watchTellsRow.holds Try.pinned (OpenSpec.ofChange watchTellsSpec)

/-- ITS FALSE NEIGHBOUR: 'it returns false'. Refute it at one input. -/
def watchTellsWrong : ChangeSpec := { name := "watchTells", fn := fun _ => fun
  | [d1, d2, d3] => { results := [.lit (.bool false)], args := [d1, d2, d3] }
  | _ => none }
def WatchTellsWrongFalsely : Prop := watchTellsRow.holds Try.pinned (OpenSpec.ofChange watchTellsWrong)

/-- 'batonlaw07.WatchAll': WHATEVER THE INPUT: true; the input reads as it did. -/
def watchAllSpec : ChangeSpec := { name := "watchAll", fn := fun _ => fun
  | [d1, d2, d3] => { results := [.lit (.bool true)], args := [d1, d2, d3] }
  | _ => none }
def watchAllRow : OpenClaim := { program := "ytibnbcljmfigfaa", sum := "ed0df35cd3386e1bcc3dcef293d07794f81653e958da232ad45d2de8c9f031b7", func := "baton/batonlaw07.WatchAll", spec := "watchAll", unfollowed := true, recurses := true, plainKeys := false, apart := false }
def WatchAllSaid : Prop := watchAllRow.holds Try.pinned (OpenSpec.ofChange watchAllSpec)

/-- ITS FALSE NEIGHBOUR: 'it returns false'. Refute it at one input. -/
def watchAllWrong : ChangeSpec := { name := "watchAll", fn := fun _ => fun
  | [d1, d2, d3] => { results := [.lit (.bool false)], args := [d1, d2, d3] }
  | _ => none }
def WatchAllWrongFalsely : Prop := watchAllRow.holds Try.pinned (OpenSpec.ofChange watchAllWrong)

/-- 'batonlaw07.WatchOnce': WHATEVER THE INPUT: true; the input reads as it did. -/
def watchOnceSpec : ChangeSpec := { name := "watchOnce", fn := fun _ => fun
  | [d1, d2, d3] => { results := [.lit (.bool true)], args := [d1, d2, d3] }
  | _ => none }
def watchOnceRow : OpenClaim := { program := "ytibnbcljmfigfaa", sum := "ed0df35cd3386e1bcc3dcef293d07794f81653e958da232ad45d2de8c9f031b7", func := "baton/batonlaw07.WatchOnce", spec := "watchOnce", unfollowed := true, recurses := true, plainKeys := false, apart := false }
def WatchOnceSaid : Prop := watchOnceRow.holds Try.pinned (OpenSpec.ofChange watchOnceSpec)

/-- ITS FALSE NEIGHBOUR: 'it returns false'. Refute it at one input. -/
def watchOnceWrong : ChangeSpec := { name := "watchOnce", fn := fun _ => fun
  | [d1, d2, d3] => { results := [.lit (.bool false)], args := [d1, d2, d3] }
  | _ => none }
def WatchOnceWrongFalsely : Prop := watchOnceRow.holds Try.pinned (OpenSpec.ofChange watchOnceWrong)

/-- 'batonlaw07.WatchMore': WHATEVER THE INPUT: true; the input reads as it did. -/
def watchMoreSpec : ChangeSpec := { name := "watchMore", fn := fun _ => fun
  | [d1, d2, d3] => { results := [.lit (.bool true)], args := [d1, d2, d3] }
  | _ => none }
def watchMoreRow : OpenClaim := { program := "ytibnbcljmfigfaa", sum := "ed0df35cd3386e1bcc3dcef293d07794f81653e958da232ad45d2de8c9f031b7", func := "baton/batonlaw07.WatchMore", spec := "watchMore", unfollowed := true, recurses := true, plainKeys := false, apart := false }
def WatchMoreSaid : Prop := watchMoreRow.holds Try.pinned (OpenSpec.ofChange watchMoreSpec)

/-- ITS FALSE NEIGHBOUR: 'it returns false'. Refute it at one input. -/
def watchMoreWrong : ChangeSpec := { name := "watchMore", fn := fun _ => fun
  | [d1, d2, d3] => { results := [.lit (.bool false)], args := [d1, d2, d3] }
  | _ => none }
def WatchMoreWrongFalsely : Prop := watchMoreRow.holds Try.pinned (OpenSpec.ofChange watchMoreWrong)

/-- 'batonlaw07.WatchGone': WHATEVER THE INPUT: true; the input reads as it did. -/
def watchGoneSpec : ChangeSpec := { name := "watchGone", fn := fun _ => fun
  | [d1, d2, d3] => { results := [.lit (.bool true)], args := [d1, d2, d3] }
  | _ => none }
def watchGoneRow : OpenClaim := { program := "ytibnbcljmfigfaa", sum := "ed0df35cd3386e1bcc3dcef293d07794f81653e958da232ad45d2de8c9f031b7", func := "baton/batonlaw07.WatchGone", spec := "watchGone", unfollowed := true, recurses := true, plainKeys := false, apart := false }
def WatchGoneSaid : Prop := watchGoneRow.holds Try.pinned (OpenSpec.ofChange watchGoneSpec)

/-- ITS FALSE NEIGHBOUR: 'it returns false'. Refute it at one input. -/
def watchGoneWrong : ChangeSpec := { name := "watchGone", fn := fun _ => fun
  | [d1, d2, d3] => { results := [.lit (.bool false)], args := [d1, d2, d3] }
  | _ => none }
def WatchGoneWrongFalsely : Prop := watchGoneRow.holds Try.pinned (OpenSpec.ofChange watchGoneWrong)

/-- 'batonlaw07.WatchViews': WHATEVER THE INPUT: true; the input reads as it did. -/
def watchViewsSpec : ChangeSpec := { name := "watchViews", fn := fun _ => fun
  | [d1, d2, d3] => { results := [.lit (.bool true)], args := [d1, d2, d3] }
  | _ => none }
def watchViewsRow : OpenClaim := { program := "ytibnbcljmfigfaa", sum := "ed0df35cd3386e1bcc3dcef293d07794f81653e958da232ad45d2de8c9f031b7", func := "baton/batonlaw07.WatchViews", spec := "watchViews", unfollowed := true, recurses := true, plainKeys := false, apart := false }
def WatchViewsSaid : Prop := watchViewsRow.holds Try.pinned (OpenSpec.ofChange watchViewsSpec)

/-- ITS FALSE NEIGHBOUR: 'it returns false'. Refute it at one input. -/
def watchViewsWrong : ChangeSpec := { name := "watchViews", fn := fun _ => fun
  | [d1, d2, d3] => { results := [.lit (.bool false)], args := [d1, d2, d3] }
  | _ => none }
def WatchViewsWrongFalsely : Prop := watchViewsRow.holds Try.pinned (OpenSpec.ofChange watchViewsWrong)

/-- 'batonlaw09.MemoKeeps': WHATEVER THE INPUT: true; the input reads as it did. -/
def memoKeepsSpec : ChangeSpec := { name := "memoKeeps", fn := fun _ => fun
  | [d1, d2, d3] => { results := [.lit (.bool true)], args := [d1, d2, d3] }
  | _ => none }
def memoKeepsRow : OpenClaim := { program := "ytibnbcljmfigfaa", sum := "ed0df35cd3386e1bcc3dcef293d07794f81653e958da232ad45d2de8c9f031b7", func := "baton/batonlaw09.MemoKeeps", spec := "memoKeeps", unfollowed := true, recurses := true, plainKeys := false, apart := false }
def MemoKeepsSaid : Prop := memoKeepsRow.holds Try.pinned (OpenSpec.ofChange memoKeepsSpec)

/-- ITS FALSE NEIGHBOUR: 'it returns false'. Refute it at one input. -/
def memoKeepsWrong : ChangeSpec := { name := "memoKeeps", fn := fun _ => fun
  | [d1, d2, d3] => { results := [.lit (.bool false)], args := [d1, d2, d3] }
  | _ => none }
def MemoKeepsWrongFalsely : Prop := memoKeepsRow.holds Try.pinned (OpenSpec.ofChange memoKeepsWrong)

/-- 'batonlaw09.MemoMay': WHATEVER THE INPUT: true; the input reads as it did. -/
def memoMaySpec : ChangeSpec := { name := "memoMay", fn := fun _ => fun
  | [d1, d2, d3] => { results := [.lit (.bool true)], args := [d1, d2, d3] }
  | _ => none }
def memoMayRow : OpenClaim := { program := "ytibnbcljmfigfaa", sum := "ed0df35cd3386e1bcc3dcef293d07794f81653e958da232ad45d2de8c9f031b7", func := "baton/batonlaw09.MemoMay", spec := "memoMay", unfollowed := true, recurses := true, plainKeys := false, apart := false }
def MemoMaySaid : Prop := memoMayRow.holds Try.pinned (OpenSpec.ofChange memoMaySpec)

/-- ITS FALSE NEIGHBOUR: 'it returns false'. Refute it at one input. -/
def memoMayWrong : ChangeSpec := { name := "memoMay", fn := fun _ => fun
  | [d1, d2, d3] => { results := [.lit (.bool false)], args := [d1, d2, d3] }
  | _ => none }
def MemoMayWrongFalsely : Prop := memoMayRow.holds Try.pinned (OpenSpec.ofChange memoMayWrong)

/-- 'batonlaw09.MemoOnce': WHATEVER THE INPUT: true; the input reads as it did. -/
def memoOnceSpec : ChangeSpec := { name := "memoOnce", fn := fun _ => fun
  | [d1, d2, d3] => { results := [.lit (.bool true)], args := [d1, d2, d3] }
  | _ => none }
def memoOnceRow : OpenClaim := { program := "ytibnbcljmfigfaa", sum := "ed0df35cd3386e1bcc3dcef293d07794f81653e958da232ad45d2de8c9f031b7", func := "baton/batonlaw09.MemoOnce", spec := "memoOnce", unfollowed := true, recurses := true, plainKeys := false, apart := false }
def MemoOnceSaid : Prop := memoOnceRow.holds Try.pinned (OpenSpec.ofChange memoOnceSpec)

/-- ITS FALSE NEIGHBOUR: 'it returns false'. Refute it at one input. -/
def memoOnceWrong : ChangeSpec := { name := "memoOnce", fn := fun _ => fun
  | [d1, d2, d3] => { results := [.lit (.bool false)], args := [d1, d2, d3] }
  | _ => none }
def MemoOnceWrongFalsely : Prop := memoOnceRow.holds Try.pinned (OpenSpec.ofChange memoOnceWrong)

/-- 'batonlaw09.MemoWindow': WHATEVER THE INPUT: true; the input reads as it did. -/
def memoWindowSpec : ChangeSpec := { name := "memoWindow", fn := fun _ => fun
  | [d1, d2] => { results := [.lit (.bool true)], args := [d1, d2] }
  | _ => none }
def memoWindowRow : OpenClaim := { program := "ytibnbcljmfigfaa", sum := "ed0df35cd3386e1bcc3dcef293d07794f81653e958da232ad45d2de8c9f031b7", func := "baton/batonlaw09.MemoWindow", spec := "memoWindow", unfollowed := true, recurses := true, plainKeys := false, apart := false }
def MemoWindowSaid : Prop := memoWindowRow.holds Try.pinned (OpenSpec.ofChange memoWindowSpec)

/-- ITS FALSE NEIGHBOUR: 'it returns false'. Refute it at one input. -/
def memoWindowWrong : ChangeSpec := { name := "memoWindow", fn := fun _ => fun
  | [d1, d2] => { results := [.lit (.bool false)], args := [d1, d2] }
  | _ => none }
def MemoWindowWrongFalsely : Prop := memoWindowRow.holds Try.pinned (OpenSpec.ofChange memoWindowWrong)

/-- 'batonlaw09.MemoFloors': WHATEVER THE INPUT: true; the input reads as it did. -/
def memoFloorsSpec : ChangeSpec := { name := "memoFloors", fn := fun _ => fun
  | [d] => { results := [.lit (.bool true)], args := [d] }
  | _ => none }
def memoFloorsRow : OpenClaim := { program := "ytibnbcljmfigfaa", sum := "ed0df35cd3386e1bcc3dcef293d07794f81653e958da232ad45d2de8c9f031b7", func := "baton/batonlaw09.MemoFloors", spec := "memoFloors", unfollowed := true, recurses := true, plainKeys := false, apart := false }
def MemoFloorsSaid : Prop := memoFloorsRow.holds Try.pinned (OpenSpec.ofChange memoFloorsSpec)

/-- ITS FALSE NEIGHBOUR: 'it returns false'. Refute it at one input. -/
def memoFloorsWrong : ChangeSpec := { name := "memoFloors", fn := fun _ => fun
  | [d] => { results := [.lit (.bool false)], args := [d] }
  | _ => none }
def MemoFloorsWrongFalsely : Prop := memoFloorsRow.holds Try.pinned (OpenSpec.ofChange memoFloorsWrong)

/- THE SECOND FORM. 'bulk': how many values and letters a reading holds, each counted each time it is reached (what is shared counts as often as it is met; a slice's spare places count too). A statement '..UptoSaid' is the law's where the arguments, and the package variables that the reading takes, are together of bulk at most 1048576: NARROWER than '..Said'. Prove '..Said' where nothing that the law and all that it calls make is longer than what came in: it says more and counts as full. Else prove '..UptoSaid'. A law counts once. -/
mutual
def uptoBulk {H : Type} : DataW H → Nat
  | .lit (.string bytes) => bytes.length + 1
  | .lit _ => 1
  | .nil => 1
  | .ptr d => uptoBulk d + 1
  | .slice elems spare => uptoBulkAll elems + uptoBulkAll spare + 1
  | .agg parts => uptoBulkAll parts + 1
  | .iface _ d => uptoBulk d + 1
  | .map entries => uptoBulkEntries entries + 1
  | .held _ => 1
def uptoBulkAll {H : Type} : List (DataW H) → Nat
  | [] => 0
  | d :: r => uptoBulk d + uptoBulkAll r
def uptoBulkEntries {H : Type} : List (Lit × DataW H) → Nat
  | [] => 0
  | x :: r => uptoBulkEntry x + uptoBulkEntries r
def uptoBulkEntry {H : Type} : Lit × DataW H → Nat
  | (.string bytes, d) => bytes.length + uptoBulk d + 1
  | (_, d) => uptoBulk d + 1
 end
def uptoSmall : (H : Type) → List (DataW H) → Bool := fun _ ds => decide (uptoBulkAll ds ≤ 1048576)
def OpenSpec.upto (s : _root_.Go.ChangeSpec) : _root_.Go.OpenSpec := { _root_.Go.OpenSpec.ofChange s with cond := some uptoSmall }

/-- 'batonlaw07.WatchTells', WHERE WHAT IT READS IS OF BULK AT MOST 1048576: true; the input reads as it did. -/
def watchTellsUptoRow : OpenClaim := { program := "ytibnbcljmfigfaa", sum := "ed0df35cd3386e1bcc3dcef293d07794f81653e958da232ad45d2de8c9f031b7", func := "baton/batonlaw07.WatchTells", spec := "watchTells", unfollowed := true, recurses := true, plainKeys := false, apart := false, narrowed := true }
def WatchTellsUptoSaid : Prop := watchTellsUptoRow.holds Try.pinned (OpenSpec.upto watchTellsSpec)

/-- 'batonlaw07.WatchAll', WHERE WHAT IT READS IS OF BULK AT MOST 1048576: true; the input reads as it did. -/
def watchAllUptoRow : OpenClaim := { program := "ytibnbcljmfigfaa", sum := "ed0df35cd3386e1bcc3dcef293d07794f81653e958da232ad45d2de8c9f031b7", func := "baton/batonlaw07.WatchAll", spec := "watchAll", unfollowed := true, recurses := true, plainKeys := false, apart := false, narrowed := true }
def WatchAllUptoSaid : Prop := watchAllUptoRow.holds Try.pinned (OpenSpec.upto watchAllSpec)

/-- 'batonlaw07.WatchOnce', WHERE WHAT IT READS IS OF BULK AT MOST 1048576: true; the input reads as it did. -/
def watchOnceUptoRow : OpenClaim := { program := "ytibnbcljmfigfaa", sum := "ed0df35cd3386e1bcc3dcef293d07794f81653e958da232ad45d2de8c9f031b7", func := "baton/batonlaw07.WatchOnce", spec := "watchOnce", unfollowed := true, recurses := true, plainKeys := false, apart := false, narrowed := true }
def WatchOnceUptoSaid : Prop := watchOnceUptoRow.holds Try.pinned (OpenSpec.upto watchOnceSpec)

/-- 'batonlaw07.WatchMore', WHERE WHAT IT READS IS OF BULK AT MOST 1048576: true; the input reads as it did. -/
def watchMoreUptoRow : OpenClaim := { program := "ytibnbcljmfigfaa", sum := "ed0df35cd3386e1bcc3dcef293d07794f81653e958da232ad45d2de8c9f031b7", func := "baton/batonlaw07.WatchMore", spec := "watchMore", unfollowed := true, recurses := true, plainKeys := false, apart := false, narrowed := true }
def WatchMoreUptoSaid : Prop := watchMoreUptoRow.holds Try.pinned (OpenSpec.upto watchMoreSpec)

/-- 'batonlaw07.WatchGone', WHERE WHAT IT READS IS OF BULK AT MOST 1048576: true; the input reads as it did. -/
def watchGoneUptoRow : OpenClaim := { program := "ytibnbcljmfigfaa", sum := "ed0df35cd3386e1bcc3dcef293d07794f81653e958da232ad45d2de8c9f031b7", func := "baton/batonlaw07.WatchGone", spec := "watchGone", unfollowed := true, recurses := true, plainKeys := false, apart := false, narrowed := true }
def WatchGoneUptoSaid : Prop := watchGoneUptoRow.holds Try.pinned (OpenSpec.upto watchGoneSpec)

/-- 'batonlaw07.WatchViews', WHERE WHAT IT READS IS OF BULK AT MOST 1048576: true; the input reads as it did. -/
def watchViewsUptoRow : OpenClaim := { program := "ytibnbcljmfigfaa", sum := "ed0df35cd3386e1bcc3dcef293d07794f81653e958da232ad45d2de8c9f031b7", func := "baton/batonlaw07.WatchViews", spec := "watchViews", unfollowed := true, recurses := true, plainKeys := false, apart := false, narrowed := true }
def WatchViewsUptoSaid : Prop := watchViewsUptoRow.holds Try.pinned (OpenSpec.upto watchViewsSpec)

/-- 'batonlaw09.MemoKeeps', WHERE WHAT IT READS IS OF BULK AT MOST 1048576: true; the input reads as it did. -/
def memoKeepsUptoRow : OpenClaim := { program := "ytibnbcljmfigfaa", sum := "ed0df35cd3386e1bcc3dcef293d07794f81653e958da232ad45d2de8c9f031b7", func := "baton/batonlaw09.MemoKeeps", spec := "memoKeeps", unfollowed := true, recurses := true, plainKeys := false, apart := false, narrowed := true }
def MemoKeepsUptoSaid : Prop := memoKeepsUptoRow.holds Try.pinned (OpenSpec.upto memoKeepsSpec)

/-- 'batonlaw09.MemoMay', WHERE WHAT IT READS IS OF BULK AT MOST 1048576: true; the input reads as it did. -/
def memoMayUptoRow : OpenClaim := { program := "ytibnbcljmfigfaa", sum := "ed0df35cd3386e1bcc3dcef293d07794f81653e958da232ad45d2de8c9f031b7", func := "baton/batonlaw09.MemoMay", spec := "memoMay", unfollowed := true, recurses := true, plainKeys := false, apart := false, narrowed := true }
def MemoMayUptoSaid : Prop := memoMayUptoRow.holds Try.pinned (OpenSpec.upto memoMaySpec)

/-- 'batonlaw09.MemoOnce', WHERE WHAT IT READS IS OF BULK AT MOST 1048576: true; the input reads as it did. -/
def memoOnceUptoRow : OpenClaim := { program := "ytibnbcljmfigfaa", sum := "ed0df35cd3386e1bcc3dcef293d07794f81653e958da232ad45d2de8c9f031b7", func := "baton/batonlaw09.MemoOnce", spec := "memoOnce", unfollowed := true, recurses := true, plainKeys := false, apart := false, narrowed := true }
def MemoOnceUptoSaid : Prop := memoOnceUptoRow.holds Try.pinned (OpenSpec.upto memoOnceSpec)

/-- 'batonlaw09.MemoWindow', WHERE WHAT IT READS IS OF BULK AT MOST 1048576: true; the input reads as it did. -/
def memoWindowUptoRow : OpenClaim := { program := "ytibnbcljmfigfaa", sum := "ed0df35cd3386e1bcc3dcef293d07794f81653e958da232ad45d2de8c9f031b7", func := "baton/batonlaw09.MemoWindow", spec := "memoWindow", unfollowed := true, recurses := true, plainKeys := false, apart := false, narrowed := true }
def MemoWindowUptoSaid : Prop := memoWindowUptoRow.holds Try.pinned (OpenSpec.upto memoWindowSpec)

/-- 'batonlaw09.MemoFloors', WHERE WHAT IT READS IS OF BULK AT MOST 1048576: true; the input reads as it did. -/
def memoFloorsUptoRow : OpenClaim := { program := "ytibnbcljmfigfaa", sum := "ed0df35cd3386e1bcc3dcef293d07794f81653e958da232ad45d2de8c9f031b7", func := "baton/batonlaw09.MemoFloors", spec := "memoFloors", unfollowed := true, recurses := true, plainKeys := false, apart := false, narrowed := true }
def MemoFloorsUptoSaid : Prop := memoFloorsUptoRow.holds Try.pinned (OpenSpec.upto memoFloorsSpec)

end Rows
end Go.Proofs.Ytibnbcljmfigfaa
