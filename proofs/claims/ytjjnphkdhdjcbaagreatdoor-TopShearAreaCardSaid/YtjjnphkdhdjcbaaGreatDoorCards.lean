/-
  DERIVED. GIVEN WITH THE SEED: THE CARDS: each row of YtjjnphkdhdjcbaaGreatDoorRows.lean that lists a variable, with what it lists TIED to the program's text (the seventh form; the later family's looks); each row that meets fmt, with fmt's text TOLD by the authors' own Lean function (tested against real Go, not proved from fmt's source: count such statements apart). THE CARD IS WHAT COUNTS. Prove the row's statement (the work); the ties are given (YtjjnphkdhdjcbaaGreatDoorTie.lean); close each card by the builder's one call (the guide's Derived/Test/ToyasCard.lean, 'card_holds'). Laid BY PROGRAM, IN A SANDBOX (cutbox-door.mjs). By AI agents, Wed Nov 11 2026. No macro, syntax, notation, axiom, sorry.
-/
import Derived.Test.YtjjnphkdhdjcbaaGreatDoorRows
import GoSem.ClaimSeven
namespace Go.Proofs.YtjjnphkdhdjcbaaGreatDoor
namespace Rows

/-- THE TIED CARD OF 'kingposttop.TopOutlets'. -/
def topOutletsCard : Claim7 := { stood := { row := topOutletsRow, standIns := [], harness := (true, "f27feb9de796c72f329db1d07efa1bb554471599f035ab501fb2a9da6aaa4f91"), looks := true }, kinds := [], alts := [], laidByText := true, laidKinds := [.data, .data, .data, .data, .sentinel, .sentinel, .pinned], laidTests := true, laidLooks := .later }
def TopOutletsCardSaid : Prop := Claim7.holds Tryz.pinned (.plain (OpenSpec.ofChange topOutletsSpec)) topOutletsCard

/-- THE TIED CARD OF 'kingposttop.TopShearArea'. -/
def topShearAreaCard : Claim7 := { stood := { row := topShearAreaRow, standIns := [], harness := (true, "f27feb9de796c72f329db1d07efa1bb554471599f035ab501fb2a9da6aaa4f91"), looks := true }, kinds := [], alts := [], laidByText := true, laidKinds := [.data, .data, .data, .data, .sentinel, .sentinel, .pinned], laidTests := true, laidLooks := .later }
def TopShearAreaCardSaid : Prop := Claim7.holds Tryz.pinned (.plain (OpenSpec.ofChange topShearAreaSpec)) topShearAreaCard

/-- THE SECOND FORM's CARD OF 'kingposttop.TopOutlets'. -/
def topOutletsUptoCard : Claim7 := { stood := { row := topOutletsUptoRow, standIns := [], harness := (true, "f27feb9de796c72f329db1d07efa1bb554471599f035ab501fb2a9da6aaa4f91"), looks := true }, kinds := [], alts := [], laidByText := true, laidKinds := [.data, .data, .data, .data, .sentinel, .sentinel, .pinned], laidTests := true, laidLooks := .later }
def TopOutletsUptoCardSaid : Prop := Claim7.holds Tryz.pinned (.plain (OpenSpec.upto topOutletsSpec)) topOutletsUptoCard

/-- THE SECOND FORM's CARD OF 'kingposttop.TopShearArea'. -/
def topShearAreaUptoCard : Claim7 := { stood := { row := topShearAreaUptoRow, standIns := [], harness := (true, "f27feb9de796c72f329db1d07efa1bb554471599f035ab501fb2a9da6aaa4f91"), looks := true }, kinds := [], alts := [], laidByText := true, laidKinds := [.data, .data, .data, .data, .sentinel, .sentinel, .pinned], laidTests := true, laidLooks := .later }
def TopShearAreaUptoCardSaid : Prop := Claim7.holds Tryz.pinned (.plain (OpenSpec.upto topShearAreaSpec)) topShearAreaUptoCard
end Rows
end Go.Proofs.YtjjnphkdhdjcbaaGreatDoor
