/-
  DERIVED. GIVEN WITH THE SEED: THE CARDS: each row of YtenkehnacommfaaGreatDoorRows.lean that lists a variable, with what it lists TIED to the program's text (the seventh form; the later family's looks); each row that meets fmt, with fmt's text TOLD by the authors' own Lean function (tested against real Go, not proved from fmt's source: count such statements apart). THE CARD IS WHAT COUNTS. Prove the row's statement (the work); the ties are given (YtenkehnacommfaaGreatDoorTie.lean); close each card by the builder's one call (the guide's Derived/Test/ToyasCard.lean, 'card_holds'). Laid BY PROGRAM, IN A SANDBOX (cutbox-door.mjs). By AI agents, Wed Nov 11 2026. No macro, syntax, notation, axiom, sorry.
-/
import Derived.Test.YtenkehnacommfaaGreatDoorRows
import GoSem.ClaimSeven
namespace Go.Proofs.YtenkehnacommfaaGreatDoor
namespace Rows

/-- THE TIED CARD OF 'kingpostlaw54.SupportOf'. -/
def supportOfCard : Claim7 := { stood := { row := supportOfRow, standIns := [], harness := (true, "9598054536bf552908352beddacb61b21ed547c975e24f272b30263f598553ef"), looks := true }, kinds := [], alts := [], laidByText := true, laidKinds := [.data, .data, .data, .data, .sentinel, .sentinel, .pinned], laidTests := true, laidLooks := .later }
def SupportOfCardSaid : Prop := Claim7.holds Tryz.pinned (.plain (OpenSpec.ofChange supportOfSpec)) supportOfCard

/-- THE TIED CARD OF 'kingpostlaw54.SupportRanks'. -/
def supportRanksCard : Claim7 := { stood := { row := supportRanksRow, standIns := [], harness := (true, "9598054536bf552908352beddacb61b21ed547c975e24f272b30263f598553ef"), looks := true }, kinds := [], alts := [], laidByText := true, laidKinds := [.data, .data, .data, .data, .sentinel, .sentinel, .pinned], laidTests := true, laidLooks := .later }
def SupportRanksCardSaid : Prop := Claim7.holds Tryz.pinned (.plain (OpenSpec.ofChange supportRanksSpec)) supportRanksCard

/-- THE TIED CARD OF 'kingpostlaw54.SupportOrder'. -/
def supportOrderCard : Claim7 := { stood := { row := supportOrderRow, standIns := [], harness := (true, "9598054536bf552908352beddacb61b21ed547c975e24f272b30263f598553ef"), looks := true }, kinds := [], alts := [], laidByText := true, laidKinds := [.data, .data, .data, .data, .sentinel, .sentinel, .pinned], laidTests := true, laidLooks := .later }
def SupportOrderCardSaid : Prop := Claim7.holds Tryz.pinned (.plain (OpenSpec.ofChange supportOrderSpec)) supportOrderCard

/-- THE TIED CARD OF 'kingpostlaw54.SupportLoose'. -/
def supportLooseCard : Claim7 := { stood := { row := supportLooseRow, standIns := [], harness := (true, "9598054536bf552908352beddacb61b21ed547c975e24f272b30263f598553ef"), looks := true }, kinds := [], alts := [], laidByText := true, laidKinds := [.data, .data, .data, .data, .sentinel, .sentinel, .pinned], laidTests := true, laidLooks := .later }
def SupportLooseCardSaid : Prop := Claim7.holds Tryz.pinned (.plain (OpenSpec.ofChange supportLooseSpec)) supportLooseCard

/-- THE TIED CARD OF 'kingpostlaw54.SupportAcyclic'. -/
def supportAcyclicCard : Claim7 := { stood := { row := supportAcyclicRow, standIns := [], harness := (true, "9598054536bf552908352beddacb61b21ed547c975e24f272b30263f598553ef"), looks := true }, kinds := [], alts := [], laidByText := true, laidKinds := [.data, .data, .data, .data, .sentinel, .sentinel, .pinned], laidTests := true, laidLooks := .later }
def SupportAcyclicCardSaid : Prop := Claim7.holds Tryz.pinned (.plain (OpenSpec.ofChange supportAcyclicSpec)) supportAcyclicCard

/-- THE TIED CARD OF 'kingpostlaw54.SupportCycles'. -/
def supportCyclesCard : Claim7 := { stood := { row := supportCyclesRow, standIns := [], harness := (true, "9598054536bf552908352beddacb61b21ed547c975e24f272b30263f598553ef"), looks := true }, kinds := [], alts := [], laidByText := true, laidKinds := [.data, .data, .data, .data, .sentinel, .sentinel, .pinned], laidTests := true, laidLooks := .later }
def SupportCyclesCardSaid : Prop := Claim7.holds Tryz.pinned (.plain (OpenSpec.ofChange supportCyclesSpec)) supportCyclesCard

/-- THE TIED CARD OF 'kingpostlaw54.SupportLists'. -/
def supportListsCard : Claim7 := { stood := { row := supportListsRow, standIns := [], harness := (true, "9598054536bf552908352beddacb61b21ed547c975e24f272b30263f598553ef"), looks := true }, kinds := [], alts := [], laidByText := true, laidKinds := [.data, .data, .data, .data, .sentinel, .sentinel, .pinned], laidTests := true, laidLooks := .later }
def SupportListsCardSaid : Prop := Claim7.holds Tryz.pinned (.plain (OpenSpec.ofChange supportListsSpec)) supportListsCard

/-- THE TIED CARD OF 'kingpostlaw54.SupportBelow'. -/
def supportBelowCard : Claim7 := { stood := { row := supportBelowRow, standIns := [], harness := (true, "9598054536bf552908352beddacb61b21ed547c975e24f272b30263f598553ef"), looks := true }, kinds := [], alts := [], laidByText := true, laidKinds := [.data, .data, .data, .data, .sentinel, .sentinel, .pinned], laidTests := true, laidLooks := .later }
def SupportBelowCardSaid : Prop := Claim7.holds Tryz.pinned (.plain (OpenSpec.ofChange supportBelowSpec)) supportBelowCard

/-- THE SECOND FORM's CARD OF 'kingpostlaw54.SupportOf'. -/
def supportOfUptoCard : Claim7 := { stood := { row := supportOfUptoRow, standIns := [], harness := (true, "9598054536bf552908352beddacb61b21ed547c975e24f272b30263f598553ef"), looks := true }, kinds := [], alts := [], laidByText := true, laidKinds := [.data, .data, .data, .data, .sentinel, .sentinel, .pinned], laidTests := true, laidLooks := .later }
def SupportOfUptoCardSaid : Prop := Claim7.holds Tryz.pinned (.plain (OpenSpec.upto supportOfSpec)) supportOfUptoCard

/-- THE SECOND FORM's CARD OF 'kingpostlaw54.SupportRanks'. -/
def supportRanksUptoCard : Claim7 := { stood := { row := supportRanksUptoRow, standIns := [], harness := (true, "9598054536bf552908352beddacb61b21ed547c975e24f272b30263f598553ef"), looks := true }, kinds := [], alts := [], laidByText := true, laidKinds := [.data, .data, .data, .data, .sentinel, .sentinel, .pinned], laidTests := true, laidLooks := .later }
def SupportRanksUptoCardSaid : Prop := Claim7.holds Tryz.pinned (.plain (OpenSpec.upto supportRanksSpec)) supportRanksUptoCard

/-- THE SECOND FORM's CARD OF 'kingpostlaw54.SupportOrder'. -/
def supportOrderUptoCard : Claim7 := { stood := { row := supportOrderUptoRow, standIns := [], harness := (true, "9598054536bf552908352beddacb61b21ed547c975e24f272b30263f598553ef"), looks := true }, kinds := [], alts := [], laidByText := true, laidKinds := [.data, .data, .data, .data, .sentinel, .sentinel, .pinned], laidTests := true, laidLooks := .later }
def SupportOrderUptoCardSaid : Prop := Claim7.holds Tryz.pinned (.plain (OpenSpec.upto supportOrderSpec)) supportOrderUptoCard

/-- THE SECOND FORM's CARD OF 'kingpostlaw54.SupportLoose'. -/
def supportLooseUptoCard : Claim7 := { stood := { row := supportLooseUptoRow, standIns := [], harness := (true, "9598054536bf552908352beddacb61b21ed547c975e24f272b30263f598553ef"), looks := true }, kinds := [], alts := [], laidByText := true, laidKinds := [.data, .data, .data, .data, .sentinel, .sentinel, .pinned], laidTests := true, laidLooks := .later }
def SupportLooseUptoCardSaid : Prop := Claim7.holds Tryz.pinned (.plain (OpenSpec.upto supportLooseSpec)) supportLooseUptoCard

/-- THE SECOND FORM's CARD OF 'kingpostlaw54.SupportAcyclic'. -/
def supportAcyclicUptoCard : Claim7 := { stood := { row := supportAcyclicUptoRow, standIns := [], harness := (true, "9598054536bf552908352beddacb61b21ed547c975e24f272b30263f598553ef"), looks := true }, kinds := [], alts := [], laidByText := true, laidKinds := [.data, .data, .data, .data, .sentinel, .sentinel, .pinned], laidTests := true, laidLooks := .later }
def SupportAcyclicUptoCardSaid : Prop := Claim7.holds Tryz.pinned (.plain (OpenSpec.upto supportAcyclicSpec)) supportAcyclicUptoCard

/-- THE SECOND FORM's CARD OF 'kingpostlaw54.SupportCycles'. -/
def supportCyclesUptoCard : Claim7 := { stood := { row := supportCyclesUptoRow, standIns := [], harness := (true, "9598054536bf552908352beddacb61b21ed547c975e24f272b30263f598553ef"), looks := true }, kinds := [], alts := [], laidByText := true, laidKinds := [.data, .data, .data, .data, .sentinel, .sentinel, .pinned], laidTests := true, laidLooks := .later }
def SupportCyclesUptoCardSaid : Prop := Claim7.holds Tryz.pinned (.plain (OpenSpec.upto supportCyclesSpec)) supportCyclesUptoCard

/-- THE SECOND FORM's CARD OF 'kingpostlaw54.SupportLists'. -/
def supportListsUptoCard : Claim7 := { stood := { row := supportListsUptoRow, standIns := [], harness := (true, "9598054536bf552908352beddacb61b21ed547c975e24f272b30263f598553ef"), looks := true }, kinds := [], alts := [], laidByText := true, laidKinds := [.data, .data, .data, .data, .sentinel, .sentinel, .pinned], laidTests := true, laidLooks := .later }
def SupportListsUptoCardSaid : Prop := Claim7.holds Tryz.pinned (.plain (OpenSpec.upto supportListsSpec)) supportListsUptoCard

/-- THE SECOND FORM's CARD OF 'kingpostlaw54.SupportBelow'. -/
def supportBelowUptoCard : Claim7 := { stood := { row := supportBelowUptoRow, standIns := [], harness := (true, "9598054536bf552908352beddacb61b21ed547c975e24f272b30263f598553ef"), looks := true }, kinds := [], alts := [], laidByText := true, laidKinds := [.data, .data, .data, .data, .sentinel, .sentinel, .pinned], laidTests := true, laidLooks := .later }
def SupportBelowUptoCardSaid : Prop := Claim7.holds Tryz.pinned (.plain (OpenSpec.upto supportBelowSpec)) supportBelowUptoCard
end Rows
end Go.Proofs.YtenkehnacommfaaGreatDoor
