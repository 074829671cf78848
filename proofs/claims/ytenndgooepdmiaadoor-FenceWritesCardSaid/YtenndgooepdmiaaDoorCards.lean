/-
  DERIVED. GIVEN WITH THE SEED: THE CARDS: each row of YtenndgooepdmiaaDoorRows.lean that lists a variable, with what it lists TIED to the program's text (the seventh form; the later family's looks); each row that meets fmt, with fmt's text TOLD by the authors' own Lean function (tested against real Go, not proved from fmt's source: count such statements apart). THE CARD IS WHAT COUNTS. Prove the row's statement (the work); the ties are given (YtenndgooepdmiaaDoorTie.lean); close each card by the builder's one call (the guide's Derived/Test/ToyasCard.lean, 'card_holds'). Laid BY PROGRAM, IN A SANDBOX (cutbox-door.mjs). By AI agents, Wed Nov 11 2026. No macro, syntax, notation, axiom, sorry.
-/
import Derived.Test.YtenndgooepdmiaaDoorRows
import GoSem.ClaimSeven
namespace Go.Proofs.YtenndgooepdmiaaDoor
namespace Rows

/-- THE TIED CARD OF 'batonlaw20.FenceWrites'. -/
def fenceWritesCard : Claim7 := { stood := { row := fenceWritesRow, standIns := [], harness := (true, "e23953358a6c22df34b770fa376943f246b837e06039f350ddfe444b9ecaadaa"), looks := true }, kinds := [], alts := [], laidByText := true, laidKinds := [.sentinel, .sentinel, .sentinel], laidTests := true, laidLooks := .later }
def FenceWritesCardSaid : Prop := Claim7.holds Tryd.pinned (.plain (OpenSpec.ofChange fenceWritesSpec)) fenceWritesCard

/-- THE TIED CARD OF 'batonlaw20.FenceRises'. -/
def fenceRisesCard : Claim7 := { stood := { row := fenceRisesRow, standIns := [], harness := (true, "e23953358a6c22df34b770fa376943f246b837e06039f350ddfe444b9ecaadaa"), looks := true }, kinds := [], alts := [], laidByText := true, laidKinds := [.sentinel, .sentinel, .sentinel], laidTests := true, laidLooks := .later }
def FenceRisesCardSaid : Prop := Claim7.holds Tryd.pinned (.plain (OpenSpec.ofChange fenceRisesSpec)) fenceRisesCard

/-- THE TIED CARD OF 'batonlaw20.FenceBytes'. -/
def fenceBytesCard : Claim7 := { stood := { row := fenceBytesRow, standIns := [], harness := (true, "e23953358a6c22df34b770fa376943f246b837e06039f350ddfe444b9ecaadaa"), looks := true }, kinds := [], alts := [], laidByText := true, laidKinds := [.sentinel, .sentinel, .sentinel], laidTests := true, laidLooks := .later }
def FenceBytesCardSaid : Prop := Claim7.holds Tryd.pinned (.plain (OpenSpec.ofChange fenceBytesSpec)) fenceBytesCard

/-- THE TIED CARD OF 'batonlaw20.FenceOwners'. -/
def fenceOwnersCard : Claim7 := { stood := { row := fenceOwnersRow, standIns := [], harness := (true, "e23953358a6c22df34b770fa376943f246b837e06039f350ddfe444b9ecaadaa"), looks := true }, kinds := [], alts := [], laidByText := true, laidKinds := [.sentinel, .sentinel, .sentinel], laidTests := true, laidLooks := .later }
def FenceOwnersCardSaid : Prop := Claim7.holds Tryd.pinned (.plain (OpenSpec.ofChange fenceOwnersSpec)) fenceOwnersCard

/-- THE SECOND FORM's CARD OF 'batonlaw20.FenceWrites'. -/
def fenceWritesUptoCard : Claim7 := { stood := { row := fenceWritesUptoRow, standIns := [], harness := (true, "e23953358a6c22df34b770fa376943f246b837e06039f350ddfe444b9ecaadaa"), looks := true }, kinds := [], alts := [], laidByText := true, laidKinds := [.sentinel, .sentinel, .sentinel], laidTests := true, laidLooks := .later }
def FenceWritesUptoCardSaid : Prop := Claim7.holds Tryd.pinned (.plain (OpenSpec.upto fenceWritesSpec)) fenceWritesUptoCard

/-- THE SECOND FORM's CARD OF 'batonlaw20.FenceRises'. -/
def fenceRisesUptoCard : Claim7 := { stood := { row := fenceRisesUptoRow, standIns := [], harness := (true, "e23953358a6c22df34b770fa376943f246b837e06039f350ddfe444b9ecaadaa"), looks := true }, kinds := [], alts := [], laidByText := true, laidKinds := [.sentinel, .sentinel, .sentinel], laidTests := true, laidLooks := .later }
def FenceRisesUptoCardSaid : Prop := Claim7.holds Tryd.pinned (.plain (OpenSpec.upto fenceRisesSpec)) fenceRisesUptoCard

/-- THE SECOND FORM's CARD OF 'batonlaw20.FenceBytes'. -/
def fenceBytesUptoCard : Claim7 := { stood := { row := fenceBytesUptoRow, standIns := [], harness := (true, "e23953358a6c22df34b770fa376943f246b837e06039f350ddfe444b9ecaadaa"), looks := true }, kinds := [], alts := [], laidByText := true, laidKinds := [.sentinel, .sentinel, .sentinel], laidTests := true, laidLooks := .later }
def FenceBytesUptoCardSaid : Prop := Claim7.holds Tryd.pinned (.plain (OpenSpec.upto fenceBytesSpec)) fenceBytesUptoCard

/-- THE SECOND FORM's CARD OF 'batonlaw20.FenceOwners'. -/
def fenceOwnersUptoCard : Claim7 := { stood := { row := fenceOwnersUptoRow, standIns := [], harness := (true, "e23953358a6c22df34b770fa376943f246b837e06039f350ddfe444b9ecaadaa"), looks := true }, kinds := [], alts := [], laidByText := true, laidKinds := [.sentinel, .sentinel, .sentinel], laidTests := true, laidLooks := .later }
def FenceOwnersUptoCardSaid : Prop := Claim7.holds Tryd.pinned (.plain (OpenSpec.upto fenceOwnersSpec)) fenceOwnersUptoCard
end Rows
end Go.Proofs.YtenndgooepdmiaaDoor
