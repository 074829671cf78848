/-
  No cell of these rows narrows 'for every input' (looked for: loops, veiled, ifaces, maps, wideKeys, modest, calm, conditions, laid).
  DERIVED. THE GIVEN ROWS OF THIS SEAT. 11 by the template 'for every input the law returns true; each argument reads behind the call as it read before'; 0 by the template 'total and deterministic' (their statements: YtahjgmldkbbpaaaTotals.lean).
  GIVEN WITH THE SEED: the statements are not yours to turn. If you find one false, say at which input.
  Laid BY PROGRAM, IN A SANDBOX (cutbox-rows.mjs): the forced cells as the released guide's own fill.sh prints them over the translation a58406d9ca75f437… (all of the seat's roots in one cut). By AI agents, Wed Nov 11 2026. No macro, syntax, notation, axiom, sorry.
-/
import Derived.Test.YtahjgmldkbbpaaaChecked
import GoSem.Claim
import GoSem.ClaimJoined
import GoSem.ClaimMapViews
import Derived.JoinedTies
import Derived.KernelRfl
namespace Go.Proofs.Ytahjgmldkbbpaaa
/- THE CELL 'sum', in the pinned program and in every row, IS THE sha256 OF THE DUMP (.gsa) THAT YtahjgmldkbbpaaaProg.lean LOADS. Nothing in Lean hashes anything: it is a label: what it is worth is what the hold of that sum in a sandbox is worth. -/
noncomputable def Try.pinned : Pinned := { name := "ytahjgmldkbbpaaa", sum := "a58406d9ca75f437d4167592fb6f15095e6430b56e20d520091fd59512da0dca", checked := Try.checked }
namespace Rows
def none {H : Type} : Left H := { results := [], args := [] }

/-- 'batonlaw14.SessTells': WHATEVER THE INPUT: true; the input reads as it did. -/
def sessTellsSpec : ChangeSpec := { name := "sessTells", fn := fun _ => fun
  | [d1, d2, d3] => { results := [.lit (.bool true)], args := [d1, d2, d3] }
  | _ => none }
def sessTellsRow : OpenClaim := { program := "ytahjgmldkbbpaaa", sum := "a58406d9ca75f437d4167592fb6f15095e6430b56e20d520091fd59512da0dca", func := "baton/batonlaw14.SessTells", spec := "sessTells", apart := false }
def SessTellsSaid : Prop := sessTellsRow.holds Try.pinned (OpenSpec.ofChange sessTellsSpec)

/-- ITS FALSE NEIGHBOUR: 'it returns false'. Refute it at one input. -/
def sessTellsWrong : ChangeSpec := { name := "sessTells", fn := fun _ => fun
  | [d1, d2, d3] => { results := [.lit (.bool false)], args := [d1, d2, d3] }
  | _ => none }
def SessTellsWrongFalsely : Prop := sessTellsRow.holds Try.pinned (OpenSpec.ofChange sessTellsWrong)

/-- 'batonlaw14.SessKeeps': WHATEVER THE INPUT: true; the input reads as it did. -/
def sessKeepsSpec : ChangeSpec := { name := "sessKeeps", fn := fun _ => fun
  | [d1, d2, d3] => { results := [.lit (.bool true)], args := [d1, d2, d3] }
  | _ => none }
def sessKeepsRow : OpenClaim := { program := "ytahjgmldkbbpaaa", sum := "a58406d9ca75f437d4167592fb6f15095e6430b56e20d520091fd59512da0dca", func := "baton/batonlaw14.SessKeeps", spec := "sessKeeps", apart := false }
def SessKeepsSaid : Prop := sessKeepsRow.holds Try.pinned (OpenSpec.ofChange sessKeepsSpec)

/-- ITS FALSE NEIGHBOUR: 'it returns false'. Refute it at one input. -/
def sessKeepsWrong : ChangeSpec := { name := "sessKeeps", fn := fun _ => fun
  | [d1, d2, d3] => { results := [.lit (.bool false)], args := [d1, d2, d3] }
  | _ => none }
def SessKeepsWrongFalsely : Prop := sessKeepsRow.holds Try.pinned (OpenSpec.ofChange sessKeepsWrong)

/-- 'batonlaw14.SessLasts': WHATEVER THE INPUT: true; the input reads as it did. -/
def sessLastsSpec : ChangeSpec := { name := "sessLasts", fn := fun _ => fun
  | [d1, d2, d3] => { results := [.lit (.bool true)], args := [d1, d2, d3] }
  | _ => none }
def sessLastsRow : OpenClaim := { program := "ytahjgmldkbbpaaa", sum := "a58406d9ca75f437d4167592fb6f15095e6430b56e20d520091fd59512da0dca", func := "baton/batonlaw14.SessLasts", spec := "sessLasts", apart := false }
def SessLastsSaid : Prop := sessLastsRow.holds Try.pinned (OpenSpec.ofChange sessLastsSpec)

/-- ITS FALSE NEIGHBOUR: 'it returns false'. Refute it at one input. -/
def sessLastsWrong : ChangeSpec := { name := "sessLasts", fn := fun _ => fun
  | [d1, d2, d3] => { results := [.lit (.bool false)], args := [d1, d2, d3] }
  | _ => none }
def SessLastsWrongFalsely : Prop := sessLastsRow.holds Try.pinned (OpenSpec.ofChange sessLastsWrong)

/-- 'batonlaw14.SessBegins': WHATEVER THE INPUT: true; the input reads as it did. -/
def sessBeginsSpec : ChangeSpec := { name := "sessBegins", fn := fun _ => fun
  | [d1, d2, d3] => { results := [.lit (.bool true)], args := [d1, d2, d3] }
  | _ => none }
def sessBeginsRow : OpenClaim := { program := "ytahjgmldkbbpaaa", sum := "a58406d9ca75f437d4167592fb6f15095e6430b56e20d520091fd59512da0dca", func := "baton/batonlaw14.SessBegins", spec := "sessBegins", apart := false }
def SessBeginsSaid : Prop := sessBeginsRow.holds Try.pinned (OpenSpec.ofChange sessBeginsSpec)

/-- ITS FALSE NEIGHBOUR: 'it returns false'. Refute it at one input. -/
def sessBeginsWrong : ChangeSpec := { name := "sessBegins", fn := fun _ => fun
  | [d1, d2, d3] => { results := [.lit (.bool false)], args := [d1, d2, d3] }
  | _ => none }
def SessBeginsWrongFalsely : Prop := sessBeginsRow.holds Try.pinned (OpenSpec.ofChange sessBeginsWrong)

/-- 'batonlaw01.ShiftBytes': WHATEVER THE INPUT: true; the input reads as it did. -/
def shiftBytesSpec : ChangeSpec := { name := "shiftBytes", fn := fun _ => fun
  | [d1, d2, d3] => { results := [.lit (.bool true)], args := [d1, d2, d3] }
  | _ => none }
def shiftBytesRow : OpenClaim := { program := "ytahjgmldkbbpaaa", sum := "a58406d9ca75f437d4167592fb6f15095e6430b56e20d520091fd59512da0dca", func := "baton/batonlaw01.ShiftBytes", spec := "shiftBytes", apart := false }
def ShiftBytesSaid : Prop := shiftBytesRow.holds Try.pinned (OpenSpec.ofChange shiftBytesSpec)

/-- ITS FALSE NEIGHBOUR: 'it returns false'. Refute it at one input. -/
def shiftBytesWrong : ChangeSpec := { name := "shiftBytes", fn := fun _ => fun
  | [d1, d2, d3] => { results := [.lit (.bool false)], args := [d1, d2, d3] }
  | _ => none }
def ShiftBytesWrongFalsely : Prop := shiftBytesRow.holds Try.pinned (OpenSpec.ofChange shiftBytesWrong)

/-- 'batonlaw01.ShiftSigns': WHATEVER THE INPUT: true; the input reads as it did. -/
def shiftSignsSpec : ChangeSpec := { name := "shiftSigns", fn := fun _ => fun
  | [d1, d2, d3] => { results := [.lit (.bool true)], args := [d1, d2, d3] }
  | _ => none }
def shiftSignsRow : OpenClaim := { program := "ytahjgmldkbbpaaa", sum := "a58406d9ca75f437d4167592fb6f15095e6430b56e20d520091fd59512da0dca", func := "baton/batonlaw01.ShiftSigns", spec := "shiftSigns", apart := false }
def ShiftSignsSaid : Prop := shiftSignsRow.holds Try.pinned (OpenSpec.ofChange shiftSignsSpec)

/-- ITS FALSE NEIGHBOUR: 'it returns false'. Refute it at one input. -/
def shiftSignsWrong : ChangeSpec := { name := "shiftSigns", fn := fun _ => fun
  | [d1, d2, d3] => { results := [.lit (.bool false)], args := [d1, d2, d3] }
  | _ => none }
def ShiftSignsWrongFalsely : Prop := shiftSignsRow.holds Try.pinned (OpenSpec.ofChange shiftSignsWrong)

/-- 'batonlaw01.ShiftReads': WHATEVER THE INPUT: true; the input reads as it did. -/
def shiftReadsSpec : ChangeSpec := { name := "shiftReads", fn := fun _ => fun
  | [d1, d2, d3] => { results := [.lit (.bool true)], args := [d1, d2, d3] }
  | _ => none }
def shiftReadsRow : OpenClaim := { program := "ytahjgmldkbbpaaa", sum := "a58406d9ca75f437d4167592fb6f15095e6430b56e20d520091fd59512da0dca", func := "baton/batonlaw01.ShiftReads", spec := "shiftReads", apart := false }
def ShiftReadsSaid : Prop := shiftReadsRow.holds Try.pinned (OpenSpec.ofChange shiftReadsSpec)

/-- ITS FALSE NEIGHBOUR: 'it returns false'. Refute it at one input. -/
def shiftReadsWrong : ChangeSpec := { name := "shiftReads", fn := fun _ => fun
  | [d1, d2, d3] => { results := [.lit (.bool false)], args := [d1, d2, d3] }
  | _ => none }
def ShiftReadsWrongFalsely : Prop := shiftReadsRow.holds Try.pinned (OpenSpec.ofChange shiftReadsWrong)

/-- 'batonlaw01.ShiftBack': WHATEVER THE INPUT: true; the input reads as it did. -/
def shiftBackSpec : ChangeSpec := { name := "shiftBack", fn := fun _ => fun
  | [d1, d2, d3] => { results := [.lit (.bool true)], args := [d1, d2, d3] }
  | _ => none }
def shiftBackRow : OpenClaim := { program := "ytahjgmldkbbpaaa", sum := "a58406d9ca75f437d4167592fb6f15095e6430b56e20d520091fd59512da0dca", func := "baton/batonlaw01.ShiftBack", spec := "shiftBack", apart := false }
def ShiftBackSaid : Prop := shiftBackRow.holds Try.pinned (OpenSpec.ofChange shiftBackSpec)

/-- ITS FALSE NEIGHBOUR: 'it returns false'. Refute it at one input. -/
def shiftBackWrong : ChangeSpec := { name := "shiftBack", fn := fun _ => fun
  | [d1, d2, d3] => { results := [.lit (.bool false)], args := [d1, d2, d3] }
  | _ => none }
def ShiftBackWrongFalsely : Prop := shiftBackRow.holds Try.pinned (OpenSpec.ofChange shiftBackWrong)

/-- 'batonlaw01.ShiftTurns': WHATEVER THE INPUT: true; the input reads as it did. -/
def shiftTurnsSpec : ChangeSpec := { name := "shiftTurns", fn := fun _ => fun
  | [d1, d2] => { results := [.lit (.bool true)], args := [d1, d2] }
  | _ => none }
def shiftTurnsRow : OpenClaim := { program := "ytahjgmldkbbpaaa", sum := "a58406d9ca75f437d4167592fb6f15095e6430b56e20d520091fd59512da0dca", func := "baton/batonlaw01.ShiftTurns", spec := "shiftTurns", apart := false }
def ShiftTurnsSaid : Prop := shiftTurnsRow.holds Try.pinned (OpenSpec.ofChange shiftTurnsSpec)

/-- ITS FALSE NEIGHBOUR: 'it returns false'. Refute it at one input. -/
def shiftTurnsWrong : ChangeSpec := { name := "shiftTurns", fn := fun _ => fun
  | [d1, d2] => { results := [.lit (.bool false)], args := [d1, d2] }
  | _ => none }
def ShiftTurnsWrongFalsely : Prop := shiftTurnsRow.holds Try.pinned (OpenSpec.ofChange shiftTurnsWrong)

/-- 'batonlaw01.ShiftWho': WHATEVER THE INPUT: true; the input reads as it did. -/
def shiftWhoSpec : ChangeSpec := { name := "shiftWho", fn := fun _ => fun
  | [d1, d2, d3] => { results := [.lit (.bool true)], args := [d1, d2, d3] }
  | _ => none }
def shiftWhoRow : OpenClaim := { program := "ytahjgmldkbbpaaa", sum := "a58406d9ca75f437d4167592fb6f15095e6430b56e20d520091fd59512da0dca", func := "baton/batonlaw01.ShiftWho", spec := "shiftWho", apart := false }
def ShiftWhoSaid : Prop := shiftWhoRow.holds Try.pinned (OpenSpec.ofChange shiftWhoSpec)

/-- ITS FALSE NEIGHBOUR: 'it returns false'. Refute it at one input. -/
def shiftWhoWrong : ChangeSpec := { name := "shiftWho", fn := fun _ => fun
  | [d1, d2, d3] => { results := [.lit (.bool false)], args := [d1, d2, d3] }
  | _ => none }
def ShiftWhoWrongFalsely : Prop := shiftWhoRow.holds Try.pinned (OpenSpec.ofChange shiftWhoWrong)

/-- 'batonlaw01.ShiftOrder': WHATEVER THE INPUT: true; the input reads as it did. -/
def shiftOrderSpec : ChangeSpec := { name := "shiftOrder", fn := fun _ => fun
  | [d1, d2, d3] => { results := [.lit (.bool true)], args := [d1, d2, d3] }
  | _ => none }
def shiftOrderRow : OpenClaim := { program := "ytahjgmldkbbpaaa", sum := "a58406d9ca75f437d4167592fb6f15095e6430b56e20d520091fd59512da0dca", func := "baton/batonlaw01.ShiftOrder", spec := "shiftOrder", apart := false }
def ShiftOrderSaid : Prop := shiftOrderRow.holds Try.pinned (OpenSpec.ofChange shiftOrderSpec)

/-- ITS FALSE NEIGHBOUR: 'it returns false'. Refute it at one input. -/
def shiftOrderWrong : ChangeSpec := { name := "shiftOrder", fn := fun _ => fun
  | [d1, d2, d3] => { results := [.lit (.bool false)], args := [d1, d2, d3] }
  | _ => none }
def ShiftOrderWrongFalsely : Prop := shiftOrderRow.holds Try.pinned (OpenSpec.ofChange shiftOrderWrong)

/- THE SECOND FORM. 'bulk': how many values and letters a reading holds, each counted each time it is reached (what is shared counts as often as it is met; a slice's spare places count too). A statement '..UptoSaid' is the law's where the arguments, and the package variables that the reading takes, are together of bulk at most 1048576: NARROWER than '..Said'. Prove '..Said' where nothing that the law and all that it calls make is longer than what came in: it says more and counts as full. Else prove '..UptoSaid'. A law counts once. -/
mutual
def uptoBulk {H : Type} : DataW H → Nat
  | .lit (.string bytes) => bytes.length + 1
  | .lit _ => 1
  | .nil => 1
  | .ptr d => uptoBulk d + 1
  | .slice elems spare => uptoBulkAll elems + uptoBulkAll spare + 1
  | .agg parts => uptoBulkAll parts + 1
  | .iface _ d => uptoBulk d + 1
  | .map entries => uptoBulkEntries entries + 1
  | .held _ => 1
def uptoBulkAll {H : Type} : List (DataW H) → Nat
  | [] => 0
  | d :: r => uptoBulk d + uptoBulkAll r
def uptoBulkEntries {H : Type} : List (Lit × DataW H) → Nat
  | [] => 0
  | x :: r => uptoBulkEntry x + uptoBulkEntries r
def uptoBulkEntry {H : Type} : Lit × DataW H → Nat
  | (.string bytes, d) => bytes.length + uptoBulk d + 1
  | (_, d) => uptoBulk d + 1
 end
def uptoSmall : (H : Type) → List (DataW H) → Bool := fun _ ds => decide (uptoBulkAll ds ≤ 1048576)
def OpenSpec.upto (s : _root_.Go.ChangeSpec) : _root_.Go.OpenSpec := { _root_.Go.OpenSpec.ofChange s with cond := some uptoSmall }

/-- 'batonlaw14.SessTells', WHERE WHAT IT READS IS OF BULK AT MOST 1048576: true; the input reads as it did. -/
def sessTellsUptoRow : OpenClaim := { program := "ytahjgmldkbbpaaa", sum := "a58406d9ca75f437d4167592fb6f15095e6430b56e20d520091fd59512da0dca", func := "baton/batonlaw14.SessTells", spec := "sessTells", apart := false, narrowed := true }
def SessTellsUptoSaid : Prop := sessTellsUptoRow.holds Try.pinned (OpenSpec.upto sessTellsSpec)

/-- 'batonlaw14.SessKeeps', WHERE WHAT IT READS IS OF BULK AT MOST 1048576: true; the input reads as it did. -/
def sessKeepsUptoRow : OpenClaim := { program := "ytahjgmldkbbpaaa", sum := "a58406d9ca75f437d4167592fb6f15095e6430b56e20d520091fd59512da0dca", func := "baton/batonlaw14.SessKeeps", spec := "sessKeeps", apart := false, narrowed := true }
def SessKeepsUptoSaid : Prop := sessKeepsUptoRow.holds Try.pinned (OpenSpec.upto sessKeepsSpec)

/-- 'batonlaw14.SessLasts', WHERE WHAT IT READS IS OF BULK AT MOST 1048576: true; the input reads as it did. -/
def sessLastsUptoRow : OpenClaim := { program := "ytahjgmldkbbpaaa", sum := "a58406d9ca75f437d4167592fb6f15095e6430b56e20d520091fd59512da0dca", func := "baton/batonlaw14.SessLasts", spec := "sessLasts", apart := false, narrowed := true }
def SessLastsUptoSaid : Prop := sessLastsUptoRow.holds Try.pinned (OpenSpec.upto sessLastsSpec)

/-- 'batonlaw14.SessBegins', WHERE WHAT IT READS IS OF BULK AT MOST 1048576: true; the input reads as it did. -/
def sessBeginsUptoRow : OpenClaim := { program := "ytahjgmldkbbpaaa", sum := "a58406d9ca75f437d4167592fb6f15095e6430b56e20d520091fd59512da0dca", func := "baton/batonlaw14.SessBegins", spec := "sessBegins", apart := false, narrowed := true }
def SessBeginsUptoSaid : Prop := sessBeginsUptoRow.holds Try.pinned (OpenSpec.upto sessBeginsSpec)

/-- 'batonlaw01.ShiftBytes', WHERE WHAT IT READS IS OF BULK AT MOST 1048576: true; the input reads as it did. -/
def shiftBytesUptoRow : OpenClaim := { program := "ytahjgmldkbbpaaa", sum := "a58406d9ca75f437d4167592fb6f15095e6430b56e20d520091fd59512da0dca", func := "baton/batonlaw01.ShiftBytes", spec := "shiftBytes", apart := false, narrowed := true }
def ShiftBytesUptoSaid : Prop := shiftBytesUptoRow.holds Try.pinned (OpenSpec.upto shiftBytesSpec)

/-- 'batonlaw01.ShiftSigns', WHERE WHAT IT READS IS OF BULK AT MOST 1048576: true; the input reads as it did. -/
def shiftSignsUptoRow : OpenClaim := { program := "ytahjgmldkbbpaaa", sum := "a58406d9ca75f437d4167592fb6f15095e6430b56e20d520091fd59512da0dca", func := "baton/batonlaw01.ShiftSigns", spec := "shiftSigns", apart := false, narrowed := true }
def ShiftSignsUptoSaid : Prop := shiftSignsUptoRow.holds Try.pinned (OpenSpec.upto shiftSignsSpec)

/-- 'batonlaw01.ShiftReads', WHERE WHAT IT READS IS OF BULK AT MOST 1048576: true; the input reads as it did. -/
def shiftReadsUptoRow : OpenClaim := { program := "ytahjgmldkbbpaaa", sum := "a58406d9ca75f437d4167592fb6f15095e6430b56e20d520091fd59512da0dca", func := "baton/batonlaw01.ShiftReads", spec := "shiftReads", apart := false, narrowed := true }
def ShiftReadsUptoSaid : Prop := shiftReadsUptoRow.holds Try.pinned (OpenSpec.upto shiftReadsSpec)

/-- 'batonlaw01.ShiftBack', WHERE WHAT IT READS IS OF BULK AT MOST 1048576: true; the input reads as it did. -/
def shiftBackUptoRow : OpenClaim := { program := "ytahjgmldkbbpaaa", sum := "a58406d9ca75f437d4167592fb6f15095e6430b56e20d520091fd59512da0dca", func := "baton/batonlaw01.ShiftBack", spec := "shiftBack", apart := false, narrowed := true }
def ShiftBackUptoSaid : Prop := shiftBackUptoRow.holds Try.pinned (OpenSpec.upto shiftBackSpec)

/-- 'batonlaw01.ShiftTurns', WHERE WHAT IT READS IS OF BULK AT MOST 1048576: true; the input reads as it did. -/
def shiftTurnsUptoRow : OpenClaim := { program := "ytahjgmldkbbpaaa", sum := "a58406d9ca75f437d4167592fb6f15095e6430b56e20d520091fd59512da0dca", func := "baton/batonlaw01.ShiftTurns", spec := "shiftTurns", apart := false, narrowed := true }
def ShiftTurnsUptoSaid : Prop := shiftTurnsUptoRow.holds Try.pinned (OpenSpec.upto shiftTurnsSpec)

/-- 'batonlaw01.ShiftWho', WHERE WHAT IT READS IS OF BULK AT MOST 1048576: true; the input reads as it did. -/
def shiftWhoUptoRow : OpenClaim := { program := "ytahjgmldkbbpaaa", sum := "a58406d9ca75f437d4167592fb6f15095e6430b56e20d520091fd59512da0dca", func := "baton/batonlaw01.ShiftWho", spec := "shiftWho", apart := false, narrowed := true }
def ShiftWhoUptoSaid : Prop := shiftWhoUptoRow.holds Try.pinned (OpenSpec.upto shiftWhoSpec)

/-- 'batonlaw01.ShiftOrder', WHERE WHAT IT READS IS OF BULK AT MOST 1048576: true; the input reads as it did. -/
def shiftOrderUptoRow : OpenClaim := { program := "ytahjgmldkbbpaaa", sum := "a58406d9ca75f437d4167592fb6f15095e6430b56e20d520091fd59512da0dca", func := "baton/batonlaw01.ShiftOrder", spec := "shiftOrder", apart := false, narrowed := true }
def ShiftOrderUptoSaid : Prop := shiftOrderUptoRow.holds Try.pinned (OpenSpec.upto shiftOrderSpec)

end Rows
end Go.Proofs.Ytahjgmldkbbpaaa
