/-
  No cell of these rows narrows 'for every input' (looked for: loops, veiled, ifaces, maps, wideKeys, modest, calm, conditions, laid).
  DERIVED. THE GIVEN ROWS OF THIS SEAT. 12 by the template 'for every input the law returns true; each argument reads behind the call as it read before'; 0 by the template 'total and deterministic' (their statements: YtlcjocciianphaaTotals.lean).
  GIVEN WITH THE SEED: the statements are not yours to turn. If you find one false, say at which input.
  Laid BY PROGRAM, IN A SANDBOX (cutbox-rows.mjs): the forced cells as the released guide's own fill.sh prints them over the translation c1e5a811a6f3ea56… (all of the seat's roots in one cut). By AI agents, Wed Nov 11 2026. No macro, syntax, notation, axiom, sorry.
-/
import Derived.Test.YtlcjocciianphaaChecked
import GoSem.Claim
import GoSem.ClaimJoined
import GoSem.ClaimMapViews
import Derived.JoinedTies
import Derived.KernelRfl
namespace Go.Proofs.Ytlcjocciianphaa
/- THE CELL 'sum', in the pinned program and in every row, IS THE sha256 OF THE DUMP (.gsa) THAT YtlcjocciianphaaProg.lean LOADS. Nothing in Lean hashes anything: it is a label: what it is worth is what the hold of that sum in a sandbox is worth. -/
noncomputable def Try.pinned : Pinned := { name := "ytlcjocciianphaa", sum := "c1e5a811a6f3ea560efe5c8b180bcdcecf3a4f1cf175728563003baaf337cf14", checked := Try.checked }
namespace Rows
def none {H : Type} : Left H := { results := [], args := [] }

/-- 'batonlaw08.LeaseGrants': WHATEVER THE INPUT: true; the input reads as it did. -/
def leaseGrantsSpec : ChangeSpec := { name := "leaseGrants", fn := fun _ => fun
  | [d1, d2, d3] => { results := [.lit (.bool true)], args := [d1, d2, d3] }
  | _ => none }
def leaseGrantsRow : OpenClaim := { program := "ytlcjocciianphaa", sum := "c1e5a811a6f3ea560efe5c8b180bcdcecf3a4f1cf175728563003baaf337cf14", func := "baton/batonlaw08.LeaseGrants", spec := "leaseGrants", apart := false }
def LeaseGrantsSaid : Prop := leaseGrantsRow.holds Try.pinned (OpenSpec.ofChange leaseGrantsSpec)

/-- ITS FALSE NEIGHBOUR: 'it returns false'. Refute it at one input. -/
def leaseGrantsWrong : ChangeSpec := { name := "leaseGrants", fn := fun _ => fun
  | [d1, d2, d3] => { results := [.lit (.bool false)], args := [d1, d2, d3] }
  | _ => none }
def LeaseGrantsWrongFalsely : Prop := leaseGrantsRow.holds Try.pinned (OpenSpec.ofChange leaseGrantsWrong)

/-- 'batonlaw08.LeaseEnds': WHATEVER THE INPUT: true; the input reads as it did. -/
def leaseEndsSpec : ChangeSpec := { name := "leaseEnds", fn := fun _ => fun
  | [d1, d2, d3] => { results := [.lit (.bool true)], args := [d1, d2, d3] }
  | _ => none }
def leaseEndsRow : OpenClaim := { program := "ytlcjocciianphaa", sum := "c1e5a811a6f3ea560efe5c8b180bcdcecf3a4f1cf175728563003baaf337cf14", func := "baton/batonlaw08.LeaseEnds", spec := "leaseEnds", apart := false }
def LeaseEndsSaid : Prop := leaseEndsRow.holds Try.pinned (OpenSpec.ofChange leaseEndsSpec)

/-- ITS FALSE NEIGHBOUR: 'it returns false'. Refute it at one input. -/
def leaseEndsWrong : ChangeSpec := { name := "leaseEnds", fn := fun _ => fun
  | [d1, d2, d3] => { results := [.lit (.bool false)], args := [d1, d2, d3] }
  | _ => none }
def LeaseEndsWrongFalsely : Prop := leaseEndsRow.holds Try.pinned (OpenSpec.ofChange leaseEndsWrong)

/-- 'batonlaw08.LeaseMay': WHATEVER THE INPUT: true; the input reads as it did. -/
def leaseMaySpec : ChangeSpec := { name := "leaseMay", fn := fun _ => fun
  | [d1, d2, d3] => { results := [.lit (.bool true)], args := [d1, d2, d3] }
  | _ => none }
def leaseMayRow : OpenClaim := { program := "ytlcjocciianphaa", sum := "c1e5a811a6f3ea560efe5c8b180bcdcecf3a4f1cf175728563003baaf337cf14", func := "baton/batonlaw08.LeaseMay", spec := "leaseMay", apart := false }
def LeaseMaySaid : Prop := leaseMayRow.holds Try.pinned (OpenSpec.ofChange leaseMaySpec)

/-- ITS FALSE NEIGHBOUR: 'it returns false'. Refute it at one input. -/
def leaseMayWrong : ChangeSpec := { name := "leaseMay", fn := fun _ => fun
  | [d1, d2, d3] => { results := [.lit (.bool false)], args := [d1, d2, d3] }
  | _ => none }
def LeaseMayWrongFalsely : Prop := leaseMayRow.holds Try.pinned (OpenSpec.ofChange leaseMayWrong)

/-- 'batonlaw08.LeaseStays': WHATEVER THE INPUT: true; the input reads as it did. -/
def leaseStaysSpec : ChangeSpec := { name := "leaseStays", fn := fun _ => fun
  | [d1, d2, d3] => { results := [.lit (.bool true)], args := [d1, d2, d3] }
  | _ => none }
def leaseStaysRow : OpenClaim := { program := "ytlcjocciianphaa", sum := "c1e5a811a6f3ea560efe5c8b180bcdcecf3a4f1cf175728563003baaf337cf14", func := "baton/batonlaw08.LeaseStays", spec := "leaseStays", apart := false }
def LeaseStaysSaid : Prop := leaseStaysRow.holds Try.pinned (OpenSpec.ofChange leaseStaysSpec)

/-- ITS FALSE NEIGHBOUR: 'it returns false'. Refute it at one input. -/
def leaseStaysWrong : ChangeSpec := { name := "leaseStays", fn := fun _ => fun
  | [d1, d2, d3] => { results := [.lit (.bool false)], args := [d1, d2, d3] }
  | _ => none }
def LeaseStaysWrongFalsely : Prop := leaseStaysRow.holds Try.pinned (OpenSpec.ofChange leaseStaysWrong)

/-- 'batonlaw08.LeaseOnce': WHATEVER THE INPUT: true; the input reads as it did. -/
def leaseOnceSpec : ChangeSpec := { name := "leaseOnce", fn := fun _ => fun
  | [d1, d2, d3] => { results := [.lit (.bool true)], args := [d1, d2, d3] }
  | _ => none }
def leaseOnceRow : OpenClaim := { program := "ytlcjocciianphaa", sum := "c1e5a811a6f3ea560efe5c8b180bcdcecf3a4f1cf175728563003baaf337cf14", func := "baton/batonlaw08.LeaseOnce", spec := "leaseOnce", apart := false }
def LeaseOnceSaid : Prop := leaseOnceRow.holds Try.pinned (OpenSpec.ofChange leaseOnceSpec)

/-- ITS FALSE NEIGHBOUR: 'it returns false'. Refute it at one input. -/
def leaseOnceWrong : ChangeSpec := { name := "leaseOnce", fn := fun _ => fun
  | [d1, d2, d3] => { results := [.lit (.bool false)], args := [d1, d2, d3] }
  | _ => none }
def LeaseOnceWrongFalsely : Prop := leaseOnceRow.holds Try.pinned (OpenSpec.ofChange leaseOnceWrong)

/-- 'batonlaw08.LeaseDrops': WHATEVER THE INPUT: true; the input reads as it did. -/
def leaseDropsSpec : ChangeSpec := { name := "leaseDrops", fn := fun _ => fun
  | [d1, d2, d3] => { results := [.lit (.bool true)], args := [d1, d2, d3] }
  | _ => none }
def leaseDropsRow : OpenClaim := { program := "ytlcjocciianphaa", sum := "c1e5a811a6f3ea560efe5c8b180bcdcecf3a4f1cf175728563003baaf337cf14", func := "baton/batonlaw08.LeaseDrops", spec := "leaseDrops", apart := false }
def LeaseDropsSaid : Prop := leaseDropsRow.holds Try.pinned (OpenSpec.ofChange leaseDropsSpec)

/-- ITS FALSE NEIGHBOUR: 'it returns false'. Refute it at one input. -/
def leaseDropsWrong : ChangeSpec := { name := "leaseDrops", fn := fun _ => fun
  | [d1, d2, d3] => { results := [.lit (.bool false)], args := [d1, d2, d3] }
  | _ => none }
def LeaseDropsWrongFalsely : Prop := leaseDropsRow.holds Try.pinned (OpenSpec.ofChange leaseDropsWrong)

/-- 'batonlaw13.CallTells': WHATEVER THE INPUT: true; the input reads as it did. -/
def callTellsSpec : ChangeSpec := { name := "callTells", fn := fun _ => fun
  | [d1, d2, d3] => { results := [.lit (.bool true)], args := [d1, d2, d3] }
  | _ => none }
def callTellsRow : OpenClaim := { program := "ytlcjocciianphaa", sum := "c1e5a811a6f3ea560efe5c8b180bcdcecf3a4f1cf175728563003baaf337cf14", func := "baton/batonlaw13.CallTells", spec := "callTells", inPlace := ["internal/abi.NoEscape"], unfollowed := true, recurses := true, apart := false }
def CallTellsSaid : Prop := callTellsRow.holds Try.pinned (OpenSpec.ofChange callTellsSpec)

/-- ITS FALSE NEIGHBOUR: 'it returns false'. Refute it at one input. -/
def callTellsWrong : ChangeSpec := { name := "callTells", fn := fun _ => fun
  | [d1, d2, d3] => { results := [.lit (.bool false)], args := [d1, d2, d3] }
  | _ => none }
def CallTellsWrongFalsely : Prop := callTellsRow.holds Try.pinned (OpenSpec.ofChange callTellsWrong)

/-- 'batonlaw13.CallSends': WHATEVER THE INPUT: true; the input reads as it did. -/
def callSendsSpec : ChangeSpec := { name := "callSends", fn := fun _ => fun
  | [d1, d2, d3] => { results := [.lit (.bool true)], args := [d1, d2, d3] }
  | _ => none }
def callSendsRow : OpenClaim := { program := "ytlcjocciianphaa", sum := "c1e5a811a6f3ea560efe5c8b180bcdcecf3a4f1cf175728563003baaf337cf14", func := "baton/batonlaw13.CallSends", spec := "callSends", inPlace := ["internal/abi.NoEscape"], unfollowed := true, recurses := true, apart := false }
def CallSendsSaid : Prop := callSendsRow.holds Try.pinned (OpenSpec.ofChange callSendsSpec)

/-- ITS FALSE NEIGHBOUR: 'it returns false'. Refute it at one input. -/
def callSendsWrong : ChangeSpec := { name := "callSends", fn := fun _ => fun
  | [d1, d2, d3] => { results := [.lit (.bool false)], args := [d1, d2, d3] }
  | _ => none }
def CallSendsWrongFalsely : Prop := callSendsRow.holds Try.pinned (OpenSpec.ofChange callSendsWrong)

/-- 'batonlaw13.CallRetries': WHATEVER THE INPUT: true; the input reads as it did. -/
def callRetriesSpec : ChangeSpec := { name := "callRetries", fn := fun _ => fun
  | [d1, d2, d3] => { results := [.lit (.bool true)], args := [d1, d2, d3] }
  | _ => none }
def callRetriesRow : OpenClaim := { program := "ytlcjocciianphaa", sum := "c1e5a811a6f3ea560efe5c8b180bcdcecf3a4f1cf175728563003baaf337cf14", func := "baton/batonlaw13.CallRetries", spec := "callRetries", inPlace := ["internal/abi.NoEscape"], unfollowed := true, recurses := true, apart := false }
def CallRetriesSaid : Prop := callRetriesRow.holds Try.pinned (OpenSpec.ofChange callRetriesSpec)

/-- ITS FALSE NEIGHBOUR: 'it returns false'. Refute it at one input. -/
def callRetriesWrong : ChangeSpec := { name := "callRetries", fn := fun _ => fun
  | [d1, d2, d3] => { results := [.lit (.bool false)], args := [d1, d2, d3] }
  | _ => none }
def CallRetriesWrongFalsely : Prop := callRetriesRow.holds Try.pinned (OpenSpec.ofChange callRetriesWrong)

/-- 'batonlaw13.CallTold': WHATEVER THE INPUT: true; the input reads as it did. -/
def callToldSpec : ChangeSpec := { name := "callTold", fn := fun _ => fun
  | [d1, d2, d3] => { results := [.lit (.bool true)], args := [d1, d2, d3] }
  | _ => none }
def callToldRow : OpenClaim := { program := "ytlcjocciianphaa", sum := "c1e5a811a6f3ea560efe5c8b180bcdcecf3a4f1cf175728563003baaf337cf14", func := "baton/batonlaw13.CallTold", spec := "callTold", inPlace := ["internal/abi.NoEscape"], unfollowed := true, recurses := true, apart := false }
def CallToldSaid : Prop := callToldRow.holds Try.pinned (OpenSpec.ofChange callToldSpec)

/-- ITS FALSE NEIGHBOUR: 'it returns false'. Refute it at one input. -/
def callToldWrong : ChangeSpec := { name := "callTold", fn := fun _ => fun
  | [d1, d2, d3] => { results := [.lit (.bool false)], args := [d1, d2, d3] }
  | _ => none }
def CallToldWrongFalsely : Prop := callToldRow.holds Try.pinned (OpenSpec.ofChange callToldWrong)

/-- 'batonlaw13.CallPauses': WHATEVER THE INPUT: true; the input reads as it did. -/
def callPausesSpec : ChangeSpec := { name := "callPauses", fn := fun _ => fun
  | [d] => { results := [.lit (.bool true)], args := [d] }
  | _ => none }
def callPausesRow : OpenClaim := { program := "ytlcjocciianphaa", sum := "c1e5a811a6f3ea560efe5c8b180bcdcecf3a4f1cf175728563003baaf337cf14", func := "baton/batonlaw13.CallPauses", spec := "callPauses", inPlace := ["internal/abi.NoEscape"], unfollowed := true, recurses := true, apart := false }
def CallPausesSaid : Prop := callPausesRow.holds Try.pinned (OpenSpec.ofChange callPausesSpec)

/-- ITS FALSE NEIGHBOUR: 'it returns false'. Refute it at one input. -/
def callPausesWrong : ChangeSpec := { name := "callPauses", fn := fun _ => fun
  | [d] => { results := [.lit (.bool false)], args := [d] }
  | _ => none }
def CallPausesWrongFalsely : Prop := callPausesRow.holds Try.pinned (OpenSpec.ofChange callPausesWrong)

/-- 'batonlaw14.SessSafe': WHATEVER THE INPUT: true; the input reads as it did. -/
def sessSafeSpec : ChangeSpec := { name := "sessSafe", fn := fun _ => fun
  | [d1, d2, d3] => { results := [.lit (.bool true)], args := [d1, d2, d3] }
  | _ => none }
def sessSafeRow : OpenClaim := { program := "ytlcjocciianphaa", sum := "c1e5a811a6f3ea560efe5c8b180bcdcecf3a4f1cf175728563003baaf337cf14", func := "baton/batonlaw14.SessSafe", spec := "sessSafe", apart := false }
def SessSafeSaid : Prop := sessSafeRow.holds Try.pinned (OpenSpec.ofChange sessSafeSpec)

/-- ITS FALSE NEIGHBOUR: 'it returns false'. Refute it at one input. -/
def sessSafeWrong : ChangeSpec := { name := "sessSafe", fn := fun _ => fun
  | [d1, d2, d3] => { results := [.lit (.bool false)], args := [d1, d2, d3] }
  | _ => none }
def SessSafeWrongFalsely : Prop := sessSafeRow.holds Try.pinned (OpenSpec.ofChange sessSafeWrong)

/- THE SECOND FORM. 'bulk': how many values and letters a reading holds, each counted each time it is reached (what is shared counts as often as it is met; a slice's spare places count too). A statement '..UptoSaid' is the law's where the arguments, and the package variables that the reading takes, are together of bulk at most 1048576: NARROWER than '..Said'. Prove '..Said' where nothing that the law and all that it calls make is longer than what came in: it says more and counts as full. Else prove '..UptoSaid'. A law counts once. -/
mutual
def uptoBulk {H : Type} : DataW H → Nat
  | .lit (.string bytes) => bytes.length + 1
  | .lit _ => 1
  | .nil => 1
  | .ptr d => uptoBulk d + 1
  | .slice elems spare => uptoBulkAll elems + uptoBulkAll spare + 1
  | .agg parts => uptoBulkAll parts + 1
  | .iface _ d => uptoBulk d + 1
  | .map entries => uptoBulkEntries entries + 1
  | .held _ => 1
def uptoBulkAll {H : Type} : List (DataW H) → Nat
  | [] => 0
  | d :: r => uptoBulk d + uptoBulkAll r
def uptoBulkEntries {H : Type} : List (Lit × DataW H) → Nat
  | [] => 0
  | x :: r => uptoBulkEntry x + uptoBulkEntries r
def uptoBulkEntry {H : Type} : Lit × DataW H → Nat
  | (.string bytes, d) => bytes.length + uptoBulk d + 1
  | (_, d) => uptoBulk d + 1
 end
def uptoSmall : (H : Type) → List (DataW H) → Bool := fun _ ds => decide (uptoBulkAll ds ≤ 1048576)
def OpenSpec.upto (s : _root_.Go.ChangeSpec) : _root_.Go.OpenSpec := { _root_.Go.OpenSpec.ofChange s with cond := some uptoSmall }

/-- 'batonlaw08.LeaseGrants', WHERE WHAT IT READS IS OF BULK AT MOST 1048576: true; the input reads as it did. -/
def leaseGrantsUptoRow : OpenClaim := { program := "ytlcjocciianphaa", sum := "c1e5a811a6f3ea560efe5c8b180bcdcecf3a4f1cf175728563003baaf337cf14", func := "baton/batonlaw08.LeaseGrants", spec := "leaseGrants", apart := false, narrowed := true }
def LeaseGrantsUptoSaid : Prop := leaseGrantsUptoRow.holds Try.pinned (OpenSpec.upto leaseGrantsSpec)

/-- 'batonlaw08.LeaseEnds', WHERE WHAT IT READS IS OF BULK AT MOST 1048576: true; the input reads as it did. -/
def leaseEndsUptoRow : OpenClaim := { program := "ytlcjocciianphaa", sum := "c1e5a811a6f3ea560efe5c8b180bcdcecf3a4f1cf175728563003baaf337cf14", func := "baton/batonlaw08.LeaseEnds", spec := "leaseEnds", apart := false, narrowed := true }
def LeaseEndsUptoSaid : Prop := leaseEndsUptoRow.holds Try.pinned (OpenSpec.upto leaseEndsSpec)

/-- 'batonlaw08.LeaseMay', WHERE WHAT IT READS IS OF BULK AT MOST 1048576: true; the input reads as it did. -/
def leaseMayUptoRow : OpenClaim := { program := "ytlcjocciianphaa", sum := "c1e5a811a6f3ea560efe5c8b180bcdcecf3a4f1cf175728563003baaf337cf14", func := "baton/batonlaw08.LeaseMay", spec := "leaseMay", apart := false, narrowed := true }
def LeaseMayUptoSaid : Prop := leaseMayUptoRow.holds Try.pinned (OpenSpec.upto leaseMaySpec)

/-- 'batonlaw08.LeaseStays', WHERE WHAT IT READS IS OF BULK AT MOST 1048576: true; the input reads as it did. -/
def leaseStaysUptoRow : OpenClaim := { program := "ytlcjocciianphaa", sum := "c1e5a811a6f3ea560efe5c8b180bcdcecf3a4f1cf175728563003baaf337cf14", func := "baton/batonlaw08.LeaseStays", spec := "leaseStays", apart := false, narrowed := true }
def LeaseStaysUptoSaid : Prop := leaseStaysUptoRow.holds Try.pinned (OpenSpec.upto leaseStaysSpec)

/-- 'batonlaw08.LeaseOnce', WHERE WHAT IT READS IS OF BULK AT MOST 1048576: true; the input reads as it did. -/
def leaseOnceUptoRow : OpenClaim := { program := "ytlcjocciianphaa", sum := "c1e5a811a6f3ea560efe5c8b180bcdcecf3a4f1cf175728563003baaf337cf14", func := "baton/batonlaw08.LeaseOnce", spec := "leaseOnce", apart := false, narrowed := true }
def LeaseOnceUptoSaid : Prop := leaseOnceUptoRow.holds Try.pinned (OpenSpec.upto leaseOnceSpec)

/-- 'batonlaw08.LeaseDrops', WHERE WHAT IT READS IS OF BULK AT MOST 1048576: true; the input reads as it did. -/
def leaseDropsUptoRow : OpenClaim := { program := "ytlcjocciianphaa", sum := "c1e5a811a6f3ea560efe5c8b180bcdcecf3a4f1cf175728563003baaf337cf14", func := "baton/batonlaw08.LeaseDrops", spec := "leaseDrops", apart := false, narrowed := true }
def LeaseDropsUptoSaid : Prop := leaseDropsUptoRow.holds Try.pinned (OpenSpec.upto leaseDropsSpec)

/-- 'batonlaw13.CallTells', WHERE WHAT IT READS IS OF BULK AT MOST 1048576: true; the input reads as it did. -/
def callTellsUptoRow : OpenClaim := { program := "ytlcjocciianphaa", sum := "c1e5a811a6f3ea560efe5c8b180bcdcecf3a4f1cf175728563003baaf337cf14", func := "baton/batonlaw13.CallTells", spec := "callTells", inPlace := ["internal/abi.NoEscape"], unfollowed := true, recurses := true, apart := false, narrowed := true }
def CallTellsUptoSaid : Prop := callTellsUptoRow.holds Try.pinned (OpenSpec.upto callTellsSpec)

/-- 'batonlaw13.CallSends', WHERE WHAT IT READS IS OF BULK AT MOST 1048576: true; the input reads as it did. -/
def callSendsUptoRow : OpenClaim := { program := "ytlcjocciianphaa", sum := "c1e5a811a6f3ea560efe5c8b180bcdcecf3a4f1cf175728563003baaf337cf14", func := "baton/batonlaw13.CallSends", spec := "callSends", inPlace := ["internal/abi.NoEscape"], unfollowed := true, recurses := true, apart := false, narrowed := true }
def CallSendsUptoSaid : Prop := callSendsUptoRow.holds Try.pinned (OpenSpec.upto callSendsSpec)

/-- 'batonlaw13.CallRetries', WHERE WHAT IT READS IS OF BULK AT MOST 1048576: true; the input reads as it did. -/
def callRetriesUptoRow : OpenClaim := { program := "ytlcjocciianphaa", sum := "c1e5a811a6f3ea560efe5c8b180bcdcecf3a4f1cf175728563003baaf337cf14", func := "baton/batonlaw13.CallRetries", spec := "callRetries", inPlace := ["internal/abi.NoEscape"], unfollowed := true, recurses := true, apart := false, narrowed := true }
def CallRetriesUptoSaid : Prop := callRetriesUptoRow.holds Try.pinned (OpenSpec.upto callRetriesSpec)

/-- 'batonlaw13.CallTold', WHERE WHAT IT READS IS OF BULK AT MOST 1048576: true; the input reads as it did. -/
def callToldUptoRow : OpenClaim := { program := "ytlcjocciianphaa", sum := "c1e5a811a6f3ea560efe5c8b180bcdcecf3a4f1cf175728563003baaf337cf14", func := "baton/batonlaw13.CallTold", spec := "callTold", inPlace := ["internal/abi.NoEscape"], unfollowed := true, recurses := true, apart := false, narrowed := true }
def CallToldUptoSaid : Prop := callToldUptoRow.holds Try.pinned (OpenSpec.upto callToldSpec)

/-- 'batonlaw13.CallPauses', WHERE WHAT IT READS IS OF BULK AT MOST 1048576: true; the input reads as it did. -/
def callPausesUptoRow : OpenClaim := { program := "ytlcjocciianphaa", sum := "c1e5a811a6f3ea560efe5c8b180bcdcecf3a4f1cf175728563003baaf337cf14", func := "baton/batonlaw13.CallPauses", spec := "callPauses", inPlace := ["internal/abi.NoEscape"], unfollowed := true, recurses := true, apart := false, narrowed := true }
def CallPausesUptoSaid : Prop := callPausesUptoRow.holds Try.pinned (OpenSpec.upto callPausesSpec)

/-- 'batonlaw14.SessSafe', WHERE WHAT IT READS IS OF BULK AT MOST 1048576: true; the input reads as it did. -/
def sessSafeUptoRow : OpenClaim := { program := "ytlcjocciianphaa", sum := "c1e5a811a6f3ea560efe5c8b180bcdcecf3a4f1cf175728563003baaf337cf14", func := "baton/batonlaw14.SessSafe", spec := "sessSafe", apart := false, narrowed := true }
def SessSafeUptoSaid : Prop := sessSafeUptoRow.holds Try.pinned (OpenSpec.upto sessSafeSpec)

end Rows
end Go.Proofs.Ytlcjocciianphaa
