/-
  DERIVED. GIVEN WITH THE SEED: THE CARDS: each row of YtabmgmflgfoleaaGreatDoorRows.lean that lists a variable, with what it lists TIED to the program's text (the seventh form; the later family's looks); each row that meets fmt, with fmt's text TOLD by the authors' own Lean function (tested against real Go, not proved from fmt's source: count such statements apart). THE CARD IS WHAT COUNTS. Prove the row's statement (the work); the ties are given (YtabmgmflgfoleaaGreatDoorTie.lean); close each card by the builder's one call (the guide's Derived/Test/ToyasCard.lean, 'card_holds'). Laid BY PROGRAM, IN A SANDBOX (cutbox-door.mjs). By AI agents, Wed Nov 11 2026. No macro, syntax, notation, axiom, sorry.
-/
import Derived.Test.YtabmgmflgfoleaaGreatDoorRows
import GoSem.ClaimSeven
namespace Go.Proofs.YtabmgmflgfoleaaGreatDoor
namespace Rows

/-- THE TIED CARD OF 'kingpostlaw26.SpacingEven'. -/
def spacingEvenCard : Claim7 := { stood := { row := spacingEvenRow, standIns := [], harness := (true, "751946d7ff8f0f47b1c7538b5d4e0e8ddab61aca99c4d98464757a3b113f8775"), looks := true }, kinds := [], alts := [], laidByText := true, laidKinds := [.data, .data, .data, .data, .sentinel, .sentinel, .pinned], laidTests := true, laidLooks := .later }
def SpacingEvenCardSaid : Prop := Claim7.holds Tryz.pinned (.plain (OpenSpec.ofChange spacingEvenSpec)) spacingEvenCard

/-- THE TIED CARD OF 'kingpostlaw26.SpacingPositions'. -/
def spacingPositionsCard : Claim7 := { stood := { row := spacingPositionsRow, standIns := [], harness := (true, "751946d7ff8f0f47b1c7538b5d4e0e8ddab61aca99c4d98464757a3b113f8775"), looks := true }, kinds := [], alts := [], laidByText := true, laidKinds := [.data, .data, .data, .data, .sentinel, .sentinel, .pinned], laidTests := true, laidLooks := .later }
def SpacingPositionsCardSaid : Prop := Claim7.holds Tryz.pinned (.plain (OpenSpec.ofChange spacingPositionsSpec)) spacingPositionsCard

/-- THE TIED CARD OF 'kingpostlaw26.SpacingNear'. -/
def spacingNearCard : Claim7 := { stood := { row := spacingNearRow, standIns := [], harness := (true, "751946d7ff8f0f47b1c7538b5d4e0e8ddab61aca99c4d98464757a3b113f8775"), looks := true }, kinds := [], alts := [], laidByText := true, laidKinds := [.data, .data, .data, .data, .sentinel, .sentinel, .pinned], laidTests := true, laidLooks := .later }
def SpacingNearCardSaid : Prop := Claim7.holds Tryz.pinned (.plain (OpenSpec.ofChange spacingNearSpec)) spacingNearCard

/-- THE TIED CARD OF 'kingpostlaw26.SpacingGaps'. -/
def spacingGapsCard : Claim7 := { stood := { row := spacingGapsRow, standIns := [], harness := (true, "751946d7ff8f0f47b1c7538b5d4e0e8ddab61aca99c4d98464757a3b113f8775"), looks := true }, kinds := [], alts := [], laidByText := true, laidKinds := [.data, .data, .data, .data, .sentinel, .sentinel, .pinned], laidTests := true, laidLooks := .later }
def SpacingGapsCardSaid : Prop := Claim7.holds Tryz.pinned (.plain (OpenSpec.ofChange spacingGapsSpec)) spacingGapsCard

/-- THE TIED CARD OF 'kingpostlaw26.SpacingMerged'. -/
def spacingMergedCard : Claim7 := { stood := { row := spacingMergedRow, standIns := [], harness := (true, "751946d7ff8f0f47b1c7538b5d4e0e8ddab61aca99c4d98464757a3b113f8775"), looks := true }, kinds := [], alts := [], laidByText := true, laidKinds := [.data, .data, .data, .data, .sentinel, .sentinel, .pinned], laidTests := true, laidLooks := .later }
def SpacingMergedCardSaid : Prop := Claim7.holds Tryz.pinned (.plain (OpenSpec.ofChange spacingMergedSpec)) spacingMergedCard

/-- THE TIED CARD OF 'kingpostlaw26.SpacingWithin'. -/
def spacingWithinCard : Claim7 := { stood := { row := spacingWithinRow, standIns := [], harness := (true, "751946d7ff8f0f47b1c7538b5d4e0e8ddab61aca99c4d98464757a3b113f8775"), looks := true }, kinds := [], alts := [], laidByText := true, laidKinds := [.data, .data, .data, .data, .sentinel, .sentinel, .pinned], laidTests := true, laidLooks := .later }
def SpacingWithinCardSaid : Prop := Claim7.holds Tryz.pinned (.plain (OpenSpec.ofChange spacingWithinSpec)) spacingWithinCard

/-- THE TIED CARD OF 'kingpostlaw26.SpacingLists'. -/
def spacingListsCard : Claim7 := { stood := { row := spacingListsRow, standIns := [], harness := (true, "751946d7ff8f0f47b1c7538b5d4e0e8ddab61aca99c4d98464757a3b113f8775"), looks := true }, kinds := [], alts := [], laidByText := true, laidKinds := [.data, .data, .data, .data, .sentinel, .sentinel, .pinned], laidTests := true, laidLooks := .later }
def SpacingListsCardSaid : Prop := Claim7.holds Tryz.pinned (.plain (OpenSpec.ofChange spacingListsSpec)) spacingListsCard

/-- THE TIED CARD OF 'kingpostlaw44.NestboundCosts'. -/
def nestboundCostsCard : Claim7 := { stood := { row := nestboundCostsRow, standIns := [], harness := (true, "751946d7ff8f0f47b1c7538b5d4e0e8ddab61aca99c4d98464757a3b113f8775"), looks := true }, kinds := [], alts := [], laidByText := true, laidKinds := [.data, .data, .data, .data, .sentinel, .sentinel, .pinned], laidTests := true, laidLooks := .later }
def NestboundCostsCardSaid : Prop := Claim7.holds Tryz.pinned (.plain (OpenSpec.ofChange nestboundCostsSpec)) nestboundCostsCard

/-- THE TIED CARD OF 'kingpostlaw44.NestboundDuals'. -/
def nestboundDualsCard : Claim7 := { stood := { row := nestboundDualsRow, standIns := [], harness := (true, "751946d7ff8f0f47b1c7538b5d4e0e8ddab61aca99c4d98464757a3b113f8775"), looks := true }, kinds := [], alts := [], laidByText := true, laidKinds := [.data, .data, .data, .data, .sentinel, .sentinel, .pinned], laidTests := true, laidLooks := .later }
def NestboundDualsCardSaid : Prop := Claim7.holds Tryz.pinned (.plain (OpenSpec.ofChange nestboundDualsSpec)) nestboundDualsCard

/-- THE SECOND FORM's CARD OF 'kingpostlaw26.SpacingEven'. -/
def spacingEvenUptoCard : Claim7 := { stood := { row := spacingEvenUptoRow, standIns := [], harness := (true, "751946d7ff8f0f47b1c7538b5d4e0e8ddab61aca99c4d98464757a3b113f8775"), looks := true }, kinds := [], alts := [], laidByText := true, laidKinds := [.data, .data, .data, .data, .sentinel, .sentinel, .pinned], laidTests := true, laidLooks := .later }
def SpacingEvenUptoCardSaid : Prop := Claim7.holds Tryz.pinned (.plain (OpenSpec.upto spacingEvenSpec)) spacingEvenUptoCard

/-- THE SECOND FORM's CARD OF 'kingpostlaw26.SpacingPositions'. -/
def spacingPositionsUptoCard : Claim7 := { stood := { row := spacingPositionsUptoRow, standIns := [], harness := (true, "751946d7ff8f0f47b1c7538b5d4e0e8ddab61aca99c4d98464757a3b113f8775"), looks := true }, kinds := [], alts := [], laidByText := true, laidKinds := [.data, .data, .data, .data, .sentinel, .sentinel, .pinned], laidTests := true, laidLooks := .later }
def SpacingPositionsUptoCardSaid : Prop := Claim7.holds Tryz.pinned (.plain (OpenSpec.upto spacingPositionsSpec)) spacingPositionsUptoCard

/-- THE SECOND FORM's CARD OF 'kingpostlaw26.SpacingNear'. -/
def spacingNearUptoCard : Claim7 := { stood := { row := spacingNearUptoRow, standIns := [], harness := (true, "751946d7ff8f0f47b1c7538b5d4e0e8ddab61aca99c4d98464757a3b113f8775"), looks := true }, kinds := [], alts := [], laidByText := true, laidKinds := [.data, .data, .data, .data, .sentinel, .sentinel, .pinned], laidTests := true, laidLooks := .later }
def SpacingNearUptoCardSaid : Prop := Claim7.holds Tryz.pinned (.plain (OpenSpec.upto spacingNearSpec)) spacingNearUptoCard

/-- THE SECOND FORM's CARD OF 'kingpostlaw26.SpacingGaps'. -/
def spacingGapsUptoCard : Claim7 := { stood := { row := spacingGapsUptoRow, standIns := [], harness := (true, "751946d7ff8f0f47b1c7538b5d4e0e8ddab61aca99c4d98464757a3b113f8775"), looks := true }, kinds := [], alts := [], laidByText := true, laidKinds := [.data, .data, .data, .data, .sentinel, .sentinel, .pinned], laidTests := true, laidLooks := .later }
def SpacingGapsUptoCardSaid : Prop := Claim7.holds Tryz.pinned (.plain (OpenSpec.upto spacingGapsSpec)) spacingGapsUptoCard

/-- THE SECOND FORM's CARD OF 'kingpostlaw26.SpacingMerged'. -/
def spacingMergedUptoCard : Claim7 := { stood := { row := spacingMergedUptoRow, standIns := [], harness := (true, "751946d7ff8f0f47b1c7538b5d4e0e8ddab61aca99c4d98464757a3b113f8775"), looks := true }, kinds := [], alts := [], laidByText := true, laidKinds := [.data, .data, .data, .data, .sentinel, .sentinel, .pinned], laidTests := true, laidLooks := .later }
def SpacingMergedUptoCardSaid : Prop := Claim7.holds Tryz.pinned (.plain (OpenSpec.upto spacingMergedSpec)) spacingMergedUptoCard

/-- THE SECOND FORM's CARD OF 'kingpostlaw26.SpacingWithin'. -/
def spacingWithinUptoCard : Claim7 := { stood := { row := spacingWithinUptoRow, standIns := [], harness := (true, "751946d7ff8f0f47b1c7538b5d4e0e8ddab61aca99c4d98464757a3b113f8775"), looks := true }, kinds := [], alts := [], laidByText := true, laidKinds := [.data, .data, .data, .data, .sentinel, .sentinel, .pinned], laidTests := true, laidLooks := .later }
def SpacingWithinUptoCardSaid : Prop := Claim7.holds Tryz.pinned (.plain (OpenSpec.upto spacingWithinSpec)) spacingWithinUptoCard

/-- THE SECOND FORM's CARD OF 'kingpostlaw26.SpacingLists'. -/
def spacingListsUptoCard : Claim7 := { stood := { row := spacingListsUptoRow, standIns := [], harness := (true, "751946d7ff8f0f47b1c7538b5d4e0e8ddab61aca99c4d98464757a3b113f8775"), looks := true }, kinds := [], alts := [], laidByText := true, laidKinds := [.data, .data, .data, .data, .sentinel, .sentinel, .pinned], laidTests := true, laidLooks := .later }
def SpacingListsUptoCardSaid : Prop := Claim7.holds Tryz.pinned (.plain (OpenSpec.upto spacingListsSpec)) spacingListsUptoCard

/-- THE SECOND FORM's CARD OF 'kingpostlaw44.NestboundCosts'. -/
def nestboundCostsUptoCard : Claim7 := { stood := { row := nestboundCostsUptoRow, standIns := [], harness := (true, "751946d7ff8f0f47b1c7538b5d4e0e8ddab61aca99c4d98464757a3b113f8775"), looks := true }, kinds := [], alts := [], laidByText := true, laidKinds := [.data, .data, .data, .data, .sentinel, .sentinel, .pinned], laidTests := true, laidLooks := .later }
def NestboundCostsUptoCardSaid : Prop := Claim7.holds Tryz.pinned (.plain (OpenSpec.upto nestboundCostsSpec)) nestboundCostsUptoCard

/-- THE SECOND FORM's CARD OF 'kingpostlaw44.NestboundDuals'. -/
def nestboundDualsUptoCard : Claim7 := { stood := { row := nestboundDualsUptoRow, standIns := [], harness := (true, "751946d7ff8f0f47b1c7538b5d4e0e8ddab61aca99c4d98464757a3b113f8775"), looks := true }, kinds := [], alts := [], laidByText := true, laidKinds := [.data, .data, .data, .data, .sentinel, .sentinel, .pinned], laidTests := true, laidLooks := .later }
def NestboundDualsUptoCardSaid : Prop := Claim7.holds Tryz.pinned (.plain (OpenSpec.upto nestboundDualsSpec)) nestboundDualsUptoCard
end Rows
end Go.Proofs.YtabmgmflgfoleaaGreatDoor
