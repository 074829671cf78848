/-
  DERIVED. GIVEN WITH THE SEED: THE CARDS: each row of YtenndgooepdmiaaGreatDoorRows.lean that lists a variable, with what it lists TIED to the program's text (the seventh form; the later family's looks); each row that meets fmt, with fmt's text TOLD by the authors' own Lean function (tested against real Go, not proved from fmt's source: count such statements apart). THE CARD IS WHAT COUNTS. Prove the row's statement (the work); the ties are given (YtenndgooepdmiaaGreatDoorTie.lean); close each card by the builder's one call (the guide's Derived/Test/ToyasCard.lean, 'card_holds'). Laid BY PROGRAM, IN A SANDBOX (cutbox-door.mjs). By AI agents, Wed Nov 11 2026. No macro, syntax, notation, axiom, sorry.
-/
import Derived.Test.YtenndgooepdmiaaGreatDoorRows
import GoSem.ClaimSeven
namespace Go.Proofs.YtenndgooepdmiaaGreatDoor
namespace Rows

/-- THE TIED CARD OF 'batonlaw20.FenceDoes'. -/
def fenceDoesCard : Claim7 := { stood := { row := fenceDoesRow, standIns := [], harness := (true, "43cc5679d7efd2ce97624d0b3e449128b9cad3ff9479f14fa7805b1771c5628e"), looks := true }, kinds := [], alts := [], laidByText := true, laidKinds := [.sentinel, .sentinel, .sentinel], laidTests := true, laidLooks := .later }
def FenceDoesCardSaid : Prop := Claim7.holds Tryz.pinned (.plain (OpenSpec.ofChange fenceDoesSpec)) fenceDoesCard

/-- THE SECOND FORM's CARD OF 'batonlaw20.FenceDoes'. -/
def fenceDoesUptoCard : Claim7 := { stood := { row := fenceDoesUptoRow, standIns := [], harness := (true, "43cc5679d7efd2ce97624d0b3e449128b9cad3ff9479f14fa7805b1771c5628e"), looks := true }, kinds := [], alts := [], laidByText := true, laidKinds := [.sentinel, .sentinel, .sentinel], laidTests := true, laidLooks := .later }
def FenceDoesUptoCardSaid : Prop := Claim7.holds Tryz.pinned (.plain (OpenSpec.upto fenceDoesSpec)) fenceDoesUptoCard
end Rows
end Go.Proofs.YtenndgooepdmiaaGreatDoor
