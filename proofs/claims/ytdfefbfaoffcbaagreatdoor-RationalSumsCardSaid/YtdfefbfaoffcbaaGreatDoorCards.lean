/-
  DERIVED. GIVEN WITH THE SEED: THE CARDS: each row of YtdfefbfaoffcbaaGreatDoorRows.lean that lists a variable, with what it lists TIED to the program's text (the seventh form; the later family's looks); each row that meets fmt, with fmt's text TOLD by the authors' own Lean function (tested against real Go, not proved from fmt's source: count such statements apart). THE CARD IS WHAT COUNTS. Prove the row's statement (the work); the ties are given (YtdfefbfaoffcbaaGreatDoorTie.lean); close each card by the builder's one call (the guide's Derived/Test/ToyasCard.lean, 'card_holds'). Laid BY PROGRAM, IN A SANDBOX (cutbox-door.mjs). By AI agents, Wed Nov 11 2026. No macro, syntax, notation, axiom, sorry.
-/
import Derived.Test.YtdfefbfaoffcbaaGreatDoorRows
import GoSem.ClaimSeven
namespace Go.Proofs.YtdfefbfaoffcbaaGreatDoor
namespace Rows

/-- THE TIED CARD OF 'kingpostlaw02.RationalParts'. -/
def rationalPartsCard : Claim7 := { stood := { row := rationalPartsRow, standIns := [], harness := (true, "021339cfd4585dac286b40e721911c478dff670225573b6887c81769395ecb35"), looks := true }, kinds := [], alts := [], laidByText := true, laidKinds := [.data, .data, .data, .data, .sentinel, .sentinel, .pinned], laidTests := true, laidLooks := .later }
def RationalPartsCardSaid : Prop := Claim7.holds Tryz.pinned (.plain (OpenSpec.ofChange rationalPartsSpec)) rationalPartsCard

/-- THE TIED CARD OF 'kingpostlaw02.RationalField'. -/
def rationalFieldCard : Claim7 := { stood := { row := rationalFieldRow, standIns := [], harness := (true, "021339cfd4585dac286b40e721911c478dff670225573b6887c81769395ecb35"), looks := true }, kinds := [], alts := [], laidByText := true, laidKinds := [.data, .data, .data, .data, .sentinel, .sentinel, .pinned], laidTests := true, laidLooks := .later }
def RationalFieldCardSaid : Prop := Claim7.holds Tryz.pinned (.plain (OpenSpec.ofChange rationalFieldSpec)) rationalFieldCard

/-- THE TIED CARD OF 'kingpostlaw02.RationalLowest'. -/
def rationalLowestCard : Claim7 := { stood := { row := rationalLowestRow, standIns := [], harness := (true, "021339cfd4585dac286b40e721911c478dff670225573b6887c81769395ecb35"), looks := true }, kinds := [], alts := [], laidByText := true, laidKinds := [.data, .data, .data, .data, .sentinel, .sentinel, .pinned], laidTests := true, laidLooks := .later }
def RationalLowestCardSaid : Prop := Claim7.holds Tryz.pinned (.plain (OpenSpec.ofChange rationalLowestSpec)) rationalLowestCard

/-- THE TIED CARD OF 'kingpostlaw02.RationalOthers'. -/
def rationalOthersCard : Claim7 := { stood := { row := rationalOthersRow, standIns := [], harness := (true, "021339cfd4585dac286b40e721911c478dff670225573b6887c81769395ecb35"), looks := true }, kinds := [], alts := [], laidByText := true, laidKinds := [.data, .data, .data, .data, .sentinel, .sentinel, .pinned], laidTests := true, laidLooks := .later }
def RationalOthersCardSaid : Prop := Claim7.holds Tryz.pinned (.plain (OpenSpec.ofChange rationalOthersSpec)) rationalOthersCard

/-- THE TIED CARD OF 'kingpostlaw02.RationalSums'. -/
def rationalSumsCard : Claim7 := { stood := { row := rationalSumsRow, standIns := [], harness := (true, "021339cfd4585dac286b40e721911c478dff670225573b6887c81769395ecb35"), looks := true }, kinds := [], alts := [], laidByText := true, laidKinds := [.data, .data, .data, .data, .sentinel, .sentinel, .pinned], laidTests := true, laidLooks := .later }
def RationalSumsCardSaid : Prop := Claim7.holds Tryz.pinned (.plain (OpenSpec.ofChange rationalSumsSpec)) rationalSumsCard

/-- THE TIED CARD OF 'kingpostlaw02.RationalOrder'. -/
def rationalOrderCard : Claim7 := { stood := { row := rationalOrderRow, standIns := [], harness := (true, "021339cfd4585dac286b40e721911c478dff670225573b6887c81769395ecb35"), looks := true }, kinds := [], alts := [], laidByText := true, laidKinds := [.data, .data, .data, .data, .sentinel, .sentinel, .pinned], laidTests := true, laidLooks := .later }
def RationalOrderCardSaid : Prop := Claim7.holds Tryz.pinned (.plain (OpenSpec.ofChange rationalOrderSpec)) rationalOrderCard

/-- THE TIED CARD OF 'kingpostlaw02.RationalResults'. -/
def rationalResultsCard : Claim7 := { stood := { row := rationalResultsRow, standIns := [], harness := (true, "021339cfd4585dac286b40e721911c478dff670225573b6887c81769395ecb35"), looks := true }, kinds := [], alts := [], laidByText := true, laidKinds := [.data, .data, .data, .data, .sentinel, .sentinel, .pinned], laidTests := true, laidLooks := .later }
def RationalResultsCardSaid : Prop := Claim7.holds Tryz.pinned (.plain (OpenSpec.ofChange rationalResultsSpec)) rationalResultsCard

/-- THE TIED CARD OF 'kingpostlaw02.RationalFloor'. -/
def rationalFloorCard : Claim7 := { stood := { row := rationalFloorRow, standIns := [], harness := (true, "021339cfd4585dac286b40e721911c478dff670225573b6887c81769395ecb35"), looks := true }, kinds := [], alts := [], laidByText := true, laidKinds := [.data, .data, .data, .data, .sentinel, .sentinel, .pinned], laidTests := true, laidLooks := .later }
def RationalFloorCardSaid : Prop := Claim7.holds Tryz.pinned (.plain (OpenSpec.ofChange rationalFloorSpec)) rationalFloorCard

/-- THE SECOND FORM's CARD OF 'kingpostlaw02.RationalParts'. -/
def rationalPartsUptoCard : Claim7 := { stood := { row := rationalPartsUptoRow, standIns := [], harness := (true, "021339cfd4585dac286b40e721911c478dff670225573b6887c81769395ecb35"), looks := true }, kinds := [], alts := [], laidByText := true, laidKinds := [.data, .data, .data, .data, .sentinel, .sentinel, .pinned], laidTests := true, laidLooks := .later }
def RationalPartsUptoCardSaid : Prop := Claim7.holds Tryz.pinned (.plain (OpenSpec.upto rationalPartsSpec)) rationalPartsUptoCard

/-- THE SECOND FORM's CARD OF 'kingpostlaw02.RationalField'. -/
def rationalFieldUptoCard : Claim7 := { stood := { row := rationalFieldUptoRow, standIns := [], harness := (true, "021339cfd4585dac286b40e721911c478dff670225573b6887c81769395ecb35"), looks := true }, kinds := [], alts := [], laidByText := true, laidKinds := [.data, .data, .data, .data, .sentinel, .sentinel, .pinned], laidTests := true, laidLooks := .later }
def RationalFieldUptoCardSaid : Prop := Claim7.holds Tryz.pinned (.plain (OpenSpec.upto rationalFieldSpec)) rationalFieldUptoCard

/-- THE SECOND FORM's CARD OF 'kingpostlaw02.RationalLowest'. -/
def rationalLowestUptoCard : Claim7 := { stood := { row := rationalLowestUptoRow, standIns := [], harness := (true, "021339cfd4585dac286b40e721911c478dff670225573b6887c81769395ecb35"), looks := true }, kinds := [], alts := [], laidByText := true, laidKinds := [.data, .data, .data, .data, .sentinel, .sentinel, .pinned], laidTests := true, laidLooks := .later }
def RationalLowestUptoCardSaid : Prop := Claim7.holds Tryz.pinned (.plain (OpenSpec.upto rationalLowestSpec)) rationalLowestUptoCard

/-- THE SECOND FORM's CARD OF 'kingpostlaw02.RationalOthers'. -/
def rationalOthersUptoCard : Claim7 := { stood := { row := rationalOthersUptoRow, standIns := [], harness := (true, "021339cfd4585dac286b40e721911c478dff670225573b6887c81769395ecb35"), looks := true }, kinds := [], alts := [], laidByText := true, laidKinds := [.data, .data, .data, .data, .sentinel, .sentinel, .pinned], laidTests := true, laidLooks := .later }
def RationalOthersUptoCardSaid : Prop := Claim7.holds Tryz.pinned (.plain (OpenSpec.upto rationalOthersSpec)) rationalOthersUptoCard

/-- THE SECOND FORM's CARD OF 'kingpostlaw02.RationalSums'. -/
def rationalSumsUptoCard : Claim7 := { stood := { row := rationalSumsUptoRow, standIns := [], harness := (true, "021339cfd4585dac286b40e721911c478dff670225573b6887c81769395ecb35"), looks := true }, kinds := [], alts := [], laidByText := true, laidKinds := [.data, .data, .data, .data, .sentinel, .sentinel, .pinned], laidTests := true, laidLooks := .later }
def RationalSumsUptoCardSaid : Prop := Claim7.holds Tryz.pinned (.plain (OpenSpec.upto rationalSumsSpec)) rationalSumsUptoCard

/-- THE SECOND FORM's CARD OF 'kingpostlaw02.RationalOrder'. -/
def rationalOrderUptoCard : Claim7 := { stood := { row := rationalOrderUptoRow, standIns := [], harness := (true, "021339cfd4585dac286b40e721911c478dff670225573b6887c81769395ecb35"), looks := true }, kinds := [], alts := [], laidByText := true, laidKinds := [.data, .data, .data, .data, .sentinel, .sentinel, .pinned], laidTests := true, laidLooks := .later }
def RationalOrderUptoCardSaid : Prop := Claim7.holds Tryz.pinned (.plain (OpenSpec.upto rationalOrderSpec)) rationalOrderUptoCard

/-- THE SECOND FORM's CARD OF 'kingpostlaw02.RationalResults'. -/
def rationalResultsUptoCard : Claim7 := { stood := { row := rationalResultsUptoRow, standIns := [], harness := (true, "021339cfd4585dac286b40e721911c478dff670225573b6887c81769395ecb35"), looks := true }, kinds := [], alts := [], laidByText := true, laidKinds := [.data, .data, .data, .data, .sentinel, .sentinel, .pinned], laidTests := true, laidLooks := .later }
def RationalResultsUptoCardSaid : Prop := Claim7.holds Tryz.pinned (.plain (OpenSpec.upto rationalResultsSpec)) rationalResultsUptoCard

/-- THE SECOND FORM's CARD OF 'kingpostlaw02.RationalFloor'. -/
def rationalFloorUptoCard : Claim7 := { stood := { row := rationalFloorUptoRow, standIns := [], harness := (true, "021339cfd4585dac286b40e721911c478dff670225573b6887c81769395ecb35"), looks := true }, kinds := [], alts := [], laidByText := true, laidKinds := [.data, .data, .data, .data, .sentinel, .sentinel, .pinned], laidTests := true, laidLooks := .later }
def RationalFloorUptoCardSaid : Prop := Claim7.holds Tryz.pinned (.plain (OpenSpec.upto rationalFloorSpec)) rationalFloorUptoCard
end Rows
end Go.Proofs.YtdfefbfaoffcbaaGreatDoor
