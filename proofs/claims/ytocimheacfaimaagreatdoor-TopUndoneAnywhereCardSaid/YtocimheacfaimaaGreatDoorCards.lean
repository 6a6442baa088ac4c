/-
  DERIVED. GIVEN WITH THE SEED: THE CARDS: each row of YtocimheacfaimaaGreatDoorRows.lean that lists a variable, with what it lists TIED to the program's text (the seventh form; the later family's looks); each row that meets fmt, with fmt's text TOLD by the authors' own Lean function (tested against real Go, not proved from fmt's source: count such statements apart). THE CARD IS WHAT COUNTS. Prove the row's statement (the work); the ties are given (YtocimheacfaimaaGreatDoorTie.lean); close each card by the builder's one call (the guide's Derived/Test/ToyasCard.lean, 'card_holds'). Laid BY PROGRAM, IN A SANDBOX (cutbox-door.mjs). By AI agents, Wed Nov 11 2026. No macro, syntax, notation, axiom, sorry.
-/
import Derived.Test.YtocimheacfaimaaGreatDoorRows
import GoSem.ClaimSeven
namespace Go.Proofs.YtocimheacfaimaaGreatDoor
namespace Rows

/-- THE TIED CARD OF 'kingposttop.TopUndoneAnywhere'. -/
def topUndoneAnywhereCard : Claim7 := { stood := { row := topUndoneAnywhereRow, standIns := [], harness := (true, "d97102dac6430c6d29fa802336d3ed1420e7e5fb29538d5171c77ab63eda931f"), looks := true }, kinds := [], alts := [], laidByText := true, laidKinds := [.data, .data, .data, .data, .sentinel, .sentinel, .pinned], laidTests := true, laidLooks := .later }
def TopUndoneAnywhereCardSaid : Prop := Claim7.holds Tryz.pinned (.plain (OpenSpec.ofChange topUndoneAnywhereSpec)) topUndoneAnywhereCard

/-- THE SECOND FORM's CARD OF 'kingposttop.TopUndoneAnywhere'. -/
def topUndoneAnywhereUptoCard : Claim7 := { stood := { row := topUndoneAnywhereUptoRow, standIns := [], harness := (true, "d97102dac6430c6d29fa802336d3ed1420e7e5fb29538d5171c77ab63eda931f"), looks := true }, kinds := [], alts := [], laidByText := true, laidKinds := [.data, .data, .data, .data, .sentinel, .sentinel, .pinned], laidTests := true, laidLooks := .later }
def TopUndoneAnywhereUptoCardSaid : Prop := Claim7.holds Tryz.pinned (.plain (OpenSpec.upto topUndoneAnywhereSpec)) topUndoneAnywhereUptoCard
end Rows
end Go.Proofs.YtocimheacfaimaaGreatDoor
