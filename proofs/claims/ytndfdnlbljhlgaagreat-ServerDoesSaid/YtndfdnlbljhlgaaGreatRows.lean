/-
  No cell of these rows narrows 'for every input' (looked for: loops, veiled, ifaces, maps, wideKeys, modest, calm, conditions, laid).
  DERIVED. THE GIVEN ROWS OF THIS SEAT. 7 by the template 'for every input the law returns true; each argument reads behind the call as it read before'; 0 by the template 'total and deterministic' (their statements: YtndfdnlbljhlgaaGreatTotals.lean).
  GIVEN WITH THE SEED: the statements are not yours to turn. If you find one false, say at which input.
  Laid BY PROGRAM, IN A SANDBOX (cutbox-rows.mjs): the forced cells as the released guide's own fill.sh prints them over the translation 444e17335e5fb51e… (all of the seat's roots in one cut). By AI agents, Wed Nov 11 2026. No macro, syntax, notation, axiom, sorry.
-/
import Derived.Test.YtndfdnlbljhlgaaGreatChecked
import GoSem.Claim
import GoSem.ClaimJoined
import GoSem.ClaimMapViews
import Derived.JoinedTies
import Derived.KernelRfl
namespace Go.Proofs.YtndfdnlbljhlgaaGreat
/- THE CELL 'sum', in the pinned program and in every row, IS THE sha256 OF THE DUMP (.gsa) THAT YtndfdnlbljhlgaaGreatProg.lean LOADS. Nothing in Lean hashes anything: it is a label: what it is worth is what the hold of that sum in a sandbox is worth. -/
noncomputable def Tryz.pinned : Pinned := { name := "ytndfdnlbljhlgaagreat", sum := "444e17335e5fb51e4ad52812976648eab6def71a6cc6ef6a98bd2427786d1aa4", checked := Tryz.checked }
namespace Rows
def none {H : Type} : Left H := { results := [], args := [] }

/-- 'batonlaw10.ServerSwept': WHATEVER THE INPUT: true; the input reads as it did. -/
def serverSweptSpec : ChangeSpec := { name := "serverSwept", fn := fun _ => fun
  | [d1, d2] => { results := [.lit (.bool true)], args := [d1, d2] }
  | _ => none }
def serverSweptRow : OpenClaim := { program := "ytndfdnlbljhlgaagreat", sum := "444e17335e5fb51e4ad52812976648eab6def71a6cc6ef6a98bd2427786d1aa4", func := "baton/batonlaw10.ServerSwept", spec := "serverSwept", unfollowed := true, recurses := true, plainKeys := false, apart := false }
def ServerSweptSaid : Prop := serverSweptRow.holds Tryz.pinned (OpenSpec.ofChange serverSweptSpec)

/-- ITS FALSE NEIGHBOUR: 'it returns false'. Refute it at one input. -/
def serverSweptWrong : ChangeSpec := { name := "serverSwept", fn := fun _ => fun
  | [d1, d2] => { results := [.lit (.bool false)], args := [d1, d2] }
  | _ => none }
def ServerSweptWrongFalsely : Prop := serverSweptRow.holds Tryz.pinned (OpenSpec.ofChange serverSweptWrong)

/-- 'batonlaw10.ServerGrants': WHATEVER THE INPUT: true; the input reads as it did. -/
def serverGrantsSpec : ChangeSpec := { name := "serverGrants", fn := fun _ => fun
  | [d1, d2, d3] => { results := [.lit (.bool true)], args := [d1, d2, d3] }
  | _ => none }
def serverGrantsRow : OpenClaim := { program := "ytndfdnlbljhlgaagreat", sum := "444e17335e5fb51e4ad52812976648eab6def71a6cc6ef6a98bd2427786d1aa4", func := "baton/batonlaw10.ServerGrants", spec := "serverGrants", unfollowed := true, recurses := true, plainKeys := false, apart := false }
def ServerGrantsSaid : Prop := serverGrantsRow.holds Tryz.pinned (OpenSpec.ofChange serverGrantsSpec)

/-- ITS FALSE NEIGHBOUR: 'it returns false'. Refute it at one input. -/
def serverGrantsWrong : ChangeSpec := { name := "serverGrants", fn := fun _ => fun
  | [d1, d2, d3] => { results := [.lit (.bool false)], args := [d1, d2, d3] }
  | _ => none }
def ServerGrantsWrongFalsely : Prop := serverGrantsRow.holds Tryz.pinned (OpenSpec.ofChange serverGrantsWrong)

/-- 'batonlaw10.ServerDoes': WHATEVER THE INPUT: true; the input reads as it did. -/
def serverDoesSpec : ChangeSpec := { name := "serverDoes", fn := fun _ => fun
  | [d1, d2] => { results := [.lit (.bool true)], args := [d1, d2] }
  | _ => none }
def serverDoesRow : OpenClaim := { program := "ytndfdnlbljhlgaagreat", sum := "444e17335e5fb51e4ad52812976648eab6def71a6cc6ef6a98bd2427786d1aa4", func := "baton/batonlaw10.ServerDoes", spec := "serverDoes", unfollowed := true, recurses := true, plainKeys := false, apart := false }
def ServerDoesSaid : Prop := serverDoesRow.holds Tryz.pinned (OpenSpec.ofChange serverDoesSpec)

/-- ITS FALSE NEIGHBOUR: 'it returns false'. Refute it at one input. -/
def serverDoesWrong : ChangeSpec := { name := "serverDoes", fn := fun _ => fun
  | [d1, d2] => { results := [.lit (.bool false)], args := [d1, d2] }
  | _ => none }
def ServerDoesWrongFalsely : Prop := serverDoesRow.holds Tryz.pinned (OpenSpec.ofChange serverDoesWrong)

/-- 'batonlaw10.ServerTicks': WHATEVER THE INPUT: true; the input reads as it did. -/
def serverTicksSpec : ChangeSpec := { name := "serverTicks", fn := fun _ => fun
  | [d1, d2, d3] => { results := [.lit (.bool true)], args := [d1, d2, d3] }
  | _ => none }
def serverTicksRow : OpenClaim := { program := "ytndfdnlbljhlgaagreat", sum := "444e17335e5fb51e4ad52812976648eab6def71a6cc6ef6a98bd2427786d1aa4", func := "baton/batonlaw10.ServerTicks", spec := "serverTicks", unfollowed := true, recurses := true, plainKeys := false, apart := false }
def ServerTicksSaid : Prop := serverTicksRow.holds Tryz.pinned (OpenSpec.ofChange serverTicksSpec)

/-- ITS FALSE NEIGHBOUR: 'it returns false'. Refute it at one input. -/
def serverTicksWrong : ChangeSpec := { name := "serverTicks", fn := fun _ => fun
  | [d1, d2, d3] => { results := [.lit (.bool false)], args := [d1, d2, d3] }
  | _ => none }
def ServerTicksWrongFalsely : Prop := serverTicksRow.holds Tryz.pinned (OpenSpec.ofChange serverTicksWrong)

/-- 'batonlaw10.ServerMay': WHATEVER THE INPUT: true; the input reads as it did. -/
def serverMaySpec : ChangeSpec := { name := "serverMay", fn := fun _ => fun
  | [d1, d2, d3] => { results := [.lit (.bool true)], args := [d1, d2, d3] }
  | _ => none }
def serverMayRow : OpenClaim := { program := "ytndfdnlbljhlgaagreat", sum := "444e17335e5fb51e4ad52812976648eab6def71a6cc6ef6a98bd2427786d1aa4", func := "baton/batonlaw10.ServerMay", spec := "serverMay", unfollowed := true, recurses := true, plainKeys := false, apart := false }
def ServerMaySaid : Prop := serverMayRow.holds Tryz.pinned (OpenSpec.ofChange serverMaySpec)

/-- ITS FALSE NEIGHBOUR: 'it returns false'. Refute it at one input. -/
def serverMayWrong : ChangeSpec := { name := "serverMay", fn := fun _ => fun
  | [d1, d2, d3] => { results := [.lit (.bool false)], args := [d1, d2, d3] }
  | _ => none }
def ServerMayWrongFalsely : Prop := serverMayRow.holds Tryz.pinned (OpenSpec.ofChange serverMayWrong)

/-- 'batonlaw10.ServerOnce': WHATEVER THE INPUT: true; the input reads as it did. -/
def serverOnceSpec : ChangeSpec := { name := "serverOnce", fn := fun _ => fun
  | [d1, d2, d3] => { results := [.lit (.bool true)], args := [d1, d2, d3] }
  | _ => none }
def serverOnceRow : OpenClaim := { program := "ytndfdnlbljhlgaagreat", sum := "444e17335e5fb51e4ad52812976648eab6def71a6cc6ef6a98bd2427786d1aa4", func := "baton/batonlaw10.ServerOnce", spec := "serverOnce", unfollowed := true, recurses := true, plainKeys := false, apart := false }
def ServerOnceSaid : Prop := serverOnceRow.holds Tryz.pinned (OpenSpec.ofChange serverOnceSpec)

/-- ITS FALSE NEIGHBOUR: 'it returns false'. Refute it at one input. -/
def serverOnceWrong : ChangeSpec := { name := "serverOnce", fn := fun _ => fun
  | [d1, d2, d3] => { results := [.lit (.bool false)], args := [d1, d2, d3] }
  | _ => none }
def ServerOnceWrongFalsely : Prop := serverOnceRow.holds Tryz.pinned (OpenSpec.ofChange serverOnceWrong)

/-- 'batonlaw10.ServerReads': WHATEVER THE INPUT: true; the input reads as it did. -/
def serverReadsSpec : ChangeSpec := { name := "serverReads", fn := fun _ => fun
  | [d1, d2] => { results := [.lit (.bool true)], args := [d1, d2] }
  | _ => none }
def serverReadsRow : OpenClaim := { program := "ytndfdnlbljhlgaagreat", sum := "444e17335e5fb51e4ad52812976648eab6def71a6cc6ef6a98bd2427786d1aa4", func := "baton/batonlaw10.ServerReads", spec := "serverReads", unfollowed := true, recurses := true, plainKeys := false, apart := false }
def ServerReadsSaid : Prop := serverReadsRow.holds Tryz.pinned (OpenSpec.ofChange serverReadsSpec)

/-- ITS FALSE NEIGHBOUR: 'it returns false'. Refute it at one input. -/
def serverReadsWrong : ChangeSpec := { name := "serverReads", fn := fun _ => fun
  | [d1, d2] => { results := [.lit (.bool false)], args := [d1, d2] }
  | _ => none }
def ServerReadsWrongFalsely : Prop := serverReadsRow.holds Tryz.pinned (OpenSpec.ofChange serverReadsWrong)

/- THE SECOND FORM. 'bulk': how many values and letters a reading holds, each counted each time it is reached (what is shared counts as often as it is met; a slice's spare places count too). A statement '..UptoSaid' is the law's where the arguments, and the package variables that the reading takes, are together of bulk at most 1048576: NARROWER than '..Said'. Prove '..Said' where nothing that the law and all that it calls make is longer than what came in: it says more and counts as full. Else prove '..UptoSaid'. A law counts once. -/
mutual
def uptoBulk {H : Type} : DataW H → Nat
  | .lit (.string bytes) => bytes.length + 1
  | .lit _ => 1
  | .nil => 1
  | .ptr d => uptoBulk d + 1
  | .slice elems spare => uptoBulkAll elems + uptoBulkAll spare + 1
  | .agg parts => uptoBulkAll parts + 1
  | .iface _ d => uptoBulk d + 1
  | .map entries => uptoBulkEntries entries + 1
  | .held _ => 1
def uptoBulkAll {H : Type} : List (DataW H) → Nat
  | [] => 0
  | d :: r => uptoBulk d + uptoBulkAll r
def uptoBulkEntries {H : Type} : List (Lit × DataW H) → Nat
  | [] => 0
  | x :: r => uptoBulkEntry x + uptoBulkEntries r
def uptoBulkEntry {H : Type} : Lit × DataW H → Nat
  | (.string bytes, d) => bytes.length + uptoBulk d + 1
  | (_, d) => uptoBulk d + 1
 end
def uptoSmall : (H : Type) → List (DataW H) → Bool := fun _ ds => decide (uptoBulkAll ds ≤ 1048576)
def OpenSpec.upto (s : _root_.Go.ChangeSpec) : _root_.Go.OpenSpec := { _root_.Go.OpenSpec.ofChange s with cond := some uptoSmall }

/-- 'batonlaw10.ServerSwept', WHERE WHAT IT READS IS OF BULK AT MOST 1048576: true; the input reads as it did. -/
def serverSweptUptoRow : OpenClaim := { program := "ytndfdnlbljhlgaagreat", sum := "444e17335e5fb51e4ad52812976648eab6def71a6cc6ef6a98bd2427786d1aa4", func := "baton/batonlaw10.ServerSwept", spec := "serverSwept", unfollowed := true, recurses := true, plainKeys := false, apart := false, narrowed := true }
def ServerSweptUptoSaid : Prop := serverSweptUptoRow.holds Tryz.pinned (OpenSpec.upto serverSweptSpec)

/-- 'batonlaw10.ServerGrants', WHERE WHAT IT READS IS OF BULK AT MOST 1048576: true; the input reads as it did. -/
def serverGrantsUptoRow : OpenClaim := { program := "ytndfdnlbljhlgaagreat", sum := "444e17335e5fb51e4ad52812976648eab6def71a6cc6ef6a98bd2427786d1aa4", func := "baton/batonlaw10.ServerGrants", spec := "serverGrants", unfollowed := true, recurses := true, plainKeys := false, apart := false, narrowed := true }
def ServerGrantsUptoSaid : Prop := serverGrantsUptoRow.holds Tryz.pinned (OpenSpec.upto serverGrantsSpec)

/-- 'batonlaw10.ServerDoes', WHERE WHAT IT READS IS OF BULK AT MOST 1048576: true; the input reads as it did. -/
def serverDoesUptoRow : OpenClaim := { program := "ytndfdnlbljhlgaagreat", sum := "444e17335e5fb51e4ad52812976648eab6def71a6cc6ef6a98bd2427786d1aa4", func := "baton/batonlaw10.ServerDoes", spec := "serverDoes", unfollowed := true, recurses := true, plainKeys := false, apart := false, narrowed := true }
def ServerDoesUptoSaid : Prop := serverDoesUptoRow.holds Tryz.pinned (OpenSpec.upto serverDoesSpec)

/-- 'batonlaw10.ServerTicks', WHERE WHAT IT READS IS OF BULK AT MOST 1048576: true; the input reads as it did. -/
def serverTicksUptoRow : OpenClaim := { program := "ytndfdnlbljhlgaagreat", sum := "444e17335e5fb51e4ad52812976648eab6def71a6cc6ef6a98bd2427786d1aa4", func := "baton/batonlaw10.ServerTicks", spec := "serverTicks", unfollowed := true, recurses := true, plainKeys := false, apart := false, narrowed := true }
def ServerTicksUptoSaid : Prop := serverTicksUptoRow.holds Tryz.pinned (OpenSpec.upto serverTicksSpec)

/-- 'batonlaw10.ServerMay', WHERE WHAT IT READS IS OF BULK AT MOST 1048576: true; the input reads as it did. -/
def serverMayUptoRow : OpenClaim := { program := "ytndfdnlbljhlgaagreat", sum := "444e17335e5fb51e4ad52812976648eab6def71a6cc6ef6a98bd2427786d1aa4", func := "baton/batonlaw10.ServerMay", spec := "serverMay", unfollowed := true, recurses := true, plainKeys := false, apart := false, narrowed := true }
def ServerMayUptoSaid : Prop := serverMayUptoRow.holds Tryz.pinned (OpenSpec.upto serverMaySpec)

/-- 'batonlaw10.ServerOnce', WHERE WHAT IT READS IS OF BULK AT MOST 1048576: true; the input reads as it did. -/
def serverOnceUptoRow : OpenClaim := { program := "ytndfdnlbljhlgaagreat", sum := "444e17335e5fb51e4ad52812976648eab6def71a6cc6ef6a98bd2427786d1aa4", func := "baton/batonlaw10.ServerOnce", spec := "serverOnce", unfollowed := true, recurses := true, plainKeys := false, apart := false, narrowed := true }
def ServerOnceUptoSaid : Prop := serverOnceUptoRow.holds Tryz.pinned (OpenSpec.upto serverOnceSpec)

/-- 'batonlaw10.ServerReads', WHERE WHAT IT READS IS OF BULK AT MOST 1048576: true; the input reads as it did. -/
def serverReadsUptoRow : OpenClaim := { program := "ytndfdnlbljhlgaagreat", sum := "444e17335e5fb51e4ad52812976648eab6def71a6cc6ef6a98bd2427786d1aa4", func := "baton/batonlaw10.ServerReads", spec := "serverReads", unfollowed := true, recurses := true, plainKeys := false, apart := false, narrowed := true }
def ServerReadsUptoSaid : Prop := serverReadsUptoRow.holds Tryz.pinned (OpenSpec.upto serverReadsSpec)

end Rows
end Go.Proofs.YtndfdnlbljhlgaaGreat
