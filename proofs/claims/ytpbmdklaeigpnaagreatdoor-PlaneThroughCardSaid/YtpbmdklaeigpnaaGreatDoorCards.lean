/-
  DERIVED. GIVEN WITH THE SEED: THE CARDS: each row of YtpbmdklaeigpnaaGreatDoorRows.lean that lists a variable, with what it lists TIED to the program's text (the seventh form; the later family's looks); each row that meets fmt, with fmt's text TOLD by the authors' own Lean function (tested against real Go, not proved from fmt's source: count such statements apart). THE CARD IS WHAT COUNTS. Prove the row's statement (the work); the ties are given (YtpbmdklaeigpnaaGreatDoorTie.lean); close each card by the builder's one call (the guide's Derived/Test/ToyasCard.lean, 'card_holds'). Laid BY PROGRAM, IN A SANDBOX (cutbox-door.mjs). By AI agents, Wed Nov 11 2026. No macro, syntax, notation, axiom, sorry.
-/
import Derived.Test.YtpbmdklaeigpnaaGreatDoorRows
import GoSem.ClaimSeven
namespace Go.Proofs.YtpbmdklaeigpnaaGreatDoor
namespace Rows

/-- THE TIED CARD OF 'kingpostlaw14.PlaneOthers'. -/
def planeOthersCard : Claim7 := { stood := { row := planeOthersRow, standIns := [], harness := (true, "f3aa7d8f10e7ff322f6f92c4613dfe4dba1ba287d285122c1f05685d026fa2e8"), looks := true }, kinds := [], alts := [], laidByText := true, laidKinds := [.data, .data, .data, .data, .sentinel, .sentinel, .pinned], laidTests := true, laidLooks := .later }
def PlaneOthersCardSaid : Prop := Claim7.holds Tryz.pinned (.plain (OpenSpec.ofChange planeOthersSpec)) planeOthersCard

/-- THE TIED CARD OF 'kingpostlaw14.PlaneThrough'. -/
def planeThroughCard : Claim7 := { stood := { row := planeThroughRow, standIns := [], harness := (true, "f3aa7d8f10e7ff322f6f92c4613dfe4dba1ba287d285122c1f05685d026fa2e8"), looks := true }, kinds := [], alts := [], laidByText := true, laidKinds := [.data, .data, .data, .data, .sentinel, .sentinel, .pinned], laidTests := true, laidLooks := .later }
def PlaneThroughCardSaid : Prop := Claim7.holds Tryz.pinned (.plain (OpenSpec.ofChange planeThroughSpec)) planeThroughCard

/-- THE TIED CARD OF 'kingpostlaw14.PlaneStraight'. -/
def planeStraightCard : Claim7 := { stood := { row := planeStraightRow, standIns := [], harness := (true, "f3aa7d8f10e7ff322f6f92c4613dfe4dba1ba287d285122c1f05685d026fa2e8"), looks := true }, kinds := [], alts := [], laidByText := true, laidKinds := [.data, .data, .data, .data, .sentinel, .sentinel, .pinned], laidTests := true, laidLooks := .later }
def PlaneStraightCardSaid : Prop := Claim7.holds Tryz.pinned (.plain (OpenSpec.ofChange planeStraightSpec)) planeStraightCard

/-- THE TIED CARD OF 'kingpostlaw14.PlaneNormals'. -/
def planeNormalsCard : Claim7 := { stood := { row := planeNormalsRow, standIns := [], harness := (true, "f3aa7d8f10e7ff322f6f92c4613dfe4dba1ba287d285122c1f05685d026fa2e8"), looks := true }, kinds := [], alts := [], laidByText := true, laidKinds := [.data, .data, .data, .data, .sentinel, .sentinel, .pinned], laidTests := true, laidLooks := .later }
def PlaneNormalsCardSaid : Prop := Claim7.holds Tryz.pinned (.plain (OpenSpec.ofChange planeNormalsSpec)) planeNormalsCard

/-- THE TIED CARD OF 'kingpostlaw14.PlaneMeet'. -/
def planeMeetCard : Claim7 := { stood := { row := planeMeetRow, standIns := [], harness := (true, "f3aa7d8f10e7ff322f6f92c4613dfe4dba1ba287d285122c1f05685d026fa2e8"), looks := true }, kinds := [], alts := [], laidByText := true, laidKinds := [.data, .data, .data, .data, .sentinel, .sentinel, .pinned], laidTests := true, laidLooks := .later }
def PlaneMeetCardSaid : Prop := Claim7.holds Tryz.pinned (.plain (OpenSpec.ofChange planeMeetSpec)) planeMeetCard

/-- THE TIED CARD OF 'kingpostlaw14.PlaneAbove'. -/
def planeAboveCard : Claim7 := { stood := { row := planeAboveRow, standIns := [], harness := (true, "f3aa7d8f10e7ff322f6f92c4613dfe4dba1ba287d285122c1f05685d026fa2e8"), looks := true }, kinds := [], alts := [], laidByText := true, laidKinds := [.data, .data, .data, .data, .sentinel, .sentinel, .pinned], laidTests := true, laidLooks := .later }
def PlaneAboveCardSaid : Prop := Claim7.holds Tryz.pinned (.plain (OpenSpec.ofChange planeAboveSpec)) planeAboveCard

/-- THE TIED CARD OF 'kingpostlaw14.PlaneSlope'. -/
def planeSlopeCard : Claim7 := { stood := { row := planeSlopeRow, standIns := [], harness := (true, "f3aa7d8f10e7ff322f6f92c4613dfe4dba1ba287d285122c1f05685d026fa2e8"), looks := true }, kinds := [], alts := [], laidByText := true, laidKinds := [.data, .data, .data, .data, .sentinel, .sentinel, .pinned], laidTests := true, laidLooks := .later }
def PlaneSlopeCardSaid : Prop := Claim7.holds Tryz.pinned (.plain (OpenSpec.ofChange planeSlopeSpec)) planeSlopeCard

/-- THE TIED CARD OF 'kingpostlaw14.PlaneResults'. -/
def planeResultsCard : Claim7 := { stood := { row := planeResultsRow, standIns := [], harness := (true, "f3aa7d8f10e7ff322f6f92c4613dfe4dba1ba287d285122c1f05685d026fa2e8"), looks := true }, kinds := [], alts := [], laidByText := true, laidKinds := [.data, .data, .data, .data, .sentinel, .sentinel, .pinned], laidTests := true, laidLooks := .later }
def PlaneResultsCardSaid : Prop := Claim7.holds Tryz.pinned (.plain (OpenSpec.ofChange planeResultsSpec)) planeResultsCard

/-- THE SECOND FORM's CARD OF 'kingpostlaw14.PlaneOthers'. -/
def planeOthersUptoCard : Claim7 := { stood := { row := planeOthersUptoRow, standIns := [], harness := (true, "f3aa7d8f10e7ff322f6f92c4613dfe4dba1ba287d285122c1f05685d026fa2e8"), looks := true }, kinds := [], alts := [], laidByText := true, laidKinds := [.data, .data, .data, .data, .sentinel, .sentinel, .pinned], laidTests := true, laidLooks := .later }
def PlaneOthersUptoCardSaid : Prop := Claim7.holds Tryz.pinned (.plain (OpenSpec.upto planeOthersSpec)) planeOthersUptoCard

/-- THE SECOND FORM's CARD OF 'kingpostlaw14.PlaneThrough'. -/
def planeThroughUptoCard : Claim7 := { stood := { row := planeThroughUptoRow, standIns := [], harness := (true, "f3aa7d8f10e7ff322f6f92c4613dfe4dba1ba287d285122c1f05685d026fa2e8"), looks := true }, kinds := [], alts := [], laidByText := true, laidKinds := [.data, .data, .data, .data, .sentinel, .sentinel, .pinned], laidTests := true, laidLooks := .later }
def PlaneThroughUptoCardSaid : Prop := Claim7.holds Tryz.pinned (.plain (OpenSpec.upto planeThroughSpec)) planeThroughUptoCard

/-- THE SECOND FORM's CARD OF 'kingpostlaw14.PlaneStraight'. -/
def planeStraightUptoCard : Claim7 := { stood := { row := planeStraightUptoRow, standIns := [], harness := (true, "f3aa7d8f10e7ff322f6f92c4613dfe4dba1ba287d285122c1f05685d026fa2e8"), looks := true }, kinds := [], alts := [], laidByText := true, laidKinds := [.data, .data, .data, .data, .sentinel, .sentinel, .pinned], laidTests := true, laidLooks := .later }
def PlaneStraightUptoCardSaid : Prop := Claim7.holds Tryz.pinned (.plain (OpenSpec.upto planeStraightSpec)) planeStraightUptoCard

/-- THE SECOND FORM's CARD OF 'kingpostlaw14.PlaneNormals'. -/
def planeNormalsUptoCard : Claim7 := { stood := { row := planeNormalsUptoRow, standIns := [], harness := (true, "f3aa7d8f10e7ff322f6f92c4613dfe4dba1ba287d285122c1f05685d026fa2e8"), looks := true }, kinds := [], alts := [], laidByText := true, laidKinds := [.data, .data, .data, .data, .sentinel, .sentinel, .pinned], laidTests := true, laidLooks := .later }
def PlaneNormalsUptoCardSaid : Prop := Claim7.holds Tryz.pinned (.plain (OpenSpec.upto planeNormalsSpec)) planeNormalsUptoCard

/-- THE SECOND FORM's CARD OF 'kingpostlaw14.PlaneMeet'. -/
def planeMeetUptoCard : Claim7 := { stood := { row := planeMeetUptoRow, standIns := [], harness := (true, "f3aa7d8f10e7ff322f6f92c4613dfe4dba1ba287d285122c1f05685d026fa2e8"), looks := true }, kinds := [], alts := [], laidByText := true, laidKinds := [.data, .data, .data, .data, .sentinel, .sentinel, .pinned], laidTests := true, laidLooks := .later }
def PlaneMeetUptoCardSaid : Prop := Claim7.holds Tryz.pinned (.plain (OpenSpec.upto planeMeetSpec)) planeMeetUptoCard

/-- THE SECOND FORM's CARD OF 'kingpostlaw14.PlaneAbove'. -/
def planeAboveUptoCard : Claim7 := { stood := { row := planeAboveUptoRow, standIns := [], harness := (true, "f3aa7d8f10e7ff322f6f92c4613dfe4dba1ba287d285122c1f05685d026fa2e8"), looks := true }, kinds := [], alts := [], laidByText := true, laidKinds := [.data, .data, .data, .data, .sentinel, .sentinel, .pinned], laidTests := true, laidLooks := .later }
def PlaneAboveUptoCardSaid : Prop := Claim7.holds Tryz.pinned (.plain (OpenSpec.upto planeAboveSpec)) planeAboveUptoCard

/-- THE SECOND FORM's CARD OF 'kingpostlaw14.PlaneSlope'. -/
def planeSlopeUptoCard : Claim7 := { stood := { row := planeSlopeUptoRow, standIns := [], harness := (true, "f3aa7d8f10e7ff322f6f92c4613dfe4dba1ba287d285122c1f05685d026fa2e8"), looks := true }, kinds := [], alts := [], laidByText := true, laidKinds := [.data, .data, .data, .data, .sentinel, .sentinel, .pinned], laidTests := true, laidLooks := .later }
def PlaneSlopeUptoCardSaid : Prop := Claim7.holds Tryz.pinned (.plain (OpenSpec.upto planeSlopeSpec)) planeSlopeUptoCard

/-- THE SECOND FORM's CARD OF 'kingpostlaw14.PlaneResults'. -/
def planeResultsUptoCard : Claim7 := { stood := { row := planeResultsUptoRow, standIns := [], harness := (true, "f3aa7d8f10e7ff322f6f92c4613dfe4dba1ba287d285122c1f05685d026fa2e8"), looks := true }, kinds := [], alts := [], laidByText := true, laidKinds := [.data, .data, .data, .data, .sentinel, .sentinel, .pinned], laidTests := true, laidLooks := .later }
def PlaneResultsUptoCardSaid : Prop := Claim7.holds Tryz.pinned (.plain (OpenSpec.upto planeResultsSpec)) planeResultsUptoCard
end Rows
end Go.Proofs.YtpbmdklaeigpnaaGreatDoor
