/-
  DERIVED. GIVEN WITH THE SEED: THE CARDS: each row of YthpdkdmbfdmamaaGreatDoorRows.lean that lists a variable, with what it lists TIED to the program's text (the seventh form; the later family's looks); each row that meets fmt, with fmt's text TOLD by the authors' own Lean function (tested against real Go, not proved from fmt's source: count such statements apart). THE CARD IS WHAT COUNTS. Prove the row's statement (the work); the ties are given (YthpdkdmbfdmamaaGreatDoorTie.lean); close each card by the builder's one call (the guide's Derived/Test/ToyasCard.lean, 'card_holds'). Laid BY PROGRAM, IN A SANDBOX (cutbox-door.mjs). By AI agents, Wed Nov 11 2026. No macro, syntax, notation, axiom, sorry.
-/
import Derived.Test.YthpdkdmbfdmamaaGreatDoorRows
import GoSem.ClaimSeven
namespace Go.Proofs.YthpdkdmbfdmamaaGreatDoor
namespace Rows

/-- THE TIED CARD OF 'sennetlaw01.FactsCheck'. -/
def factsCheckCard : Claim7 := { stood := { row := factsCheckRow, standIns := [], harness := (true, "90231ac143f8e78b13cdf5f697d564996a6a4bcbd09154860a07ee69756a5480"), looks := true }, kinds := [], alts := [], laidByText := true, laidKinds := [.data, .data, .data, .sentinel, .sentinel], laidTests := true, laidLooks := .later }
def FactsCheckCardSaid : Prop := Claim7.holds Tryz.pinned (.plain (OpenSpec.ofChange factsCheckSpec)) factsCheckCard

/-- THE TIED CARD OF 'sennetlaw01.FactsLimit'. -/
def factsLimitCard : Claim7 := { stood := { row := factsLimitRow, standIns := [], harness := (true, "90231ac143f8e78b13cdf5f697d564996a6a4bcbd09154860a07ee69756a5480"), looks := true }, kinds := [], alts := [], laidByText := true, laidKinds := [.data, .data, .data, .sentinel, .sentinel], laidTests := true, laidLooks := .later }
def FactsLimitCardSaid : Prop := Claim7.holds Tryz.pinned (.plain (OpenSpec.ofChange factsLimitSpec)) factsLimitCard

/-- THE TIED CARD OF 'sennetlaw01.FactsAppends'. -/
def factsAppendsCard : Claim7 := { stood := { row := factsAppendsRow, standIns := [], harness := (true, "90231ac143f8e78b13cdf5f697d564996a6a4bcbd09154860a07ee69756a5480"), looks := true }, kinds := [], alts := [], laidByText := true, laidKinds := [.data, .data, .data, .sentinel, .sentinel], laidTests := true, laidLooks := .later }
def FactsAppendsCardSaid : Prop := Claim7.holds Tryz.pinned (.plain (OpenSpec.ofChange factsAppendsSpec)) factsAppendsCard

/-- THE TIED CARD OF 'sennetlaw01.FactsKnown'. -/
def factsKnownCard : Claim7 := { stood := { row := factsKnownRow, standIns := [], harness := (true, "90231ac143f8e78b13cdf5f697d564996a6a4bcbd09154860a07ee69756a5480"), looks := true }, kinds := [], alts := [], laidByText := true, laidKinds := [.data, .data, .data, .sentinel, .sentinel], laidTests := true, laidLooks := .later }
def FactsKnownCardSaid : Prop := Claim7.holds Tryz.pinned (.plain (OpenSpec.ofChange factsKnownSpec)) factsKnownCard

/-- THE TIED CARD OF 'sennetlaw01.FactsLines'. -/
def factsLinesCard : Claim7 := { stood := { row := factsLinesRow, standIns := [], harness := (true, "90231ac143f8e78b13cdf5f697d564996a6a4bcbd09154860a07ee69756a5480"), looks := true }, kinds := [], alts := [], laidByText := true, laidKinds := [.data, .data, .data, .sentinel, .sentinel], laidTests := true, laidLooks := .later }
def FactsLinesCardSaid : Prop := Claim7.holds Tryz.pinned (.plain (OpenSpec.ofChange factsLinesSpec)) factsLinesCard

/-- THE TIED CARD OF 'sennetlaw01.FactsAt'. -/
def factsAtCard : Claim7 := { stood := { row := factsAtRow, standIns := [], harness := (true, "90231ac143f8e78b13cdf5f697d564996a6a4bcbd09154860a07ee69756a5480"), looks := true }, kinds := [], alts := [], laidByText := true, laidKinds := [.data, .data, .data, .sentinel, .sentinel], laidTests := true, laidLooks := .later }
def FactsAtCardSaid : Prop := Claim7.holds Tryz.pinned (.plain (OpenSpec.ofChange factsAtSpec)) factsAtCard

/-- THE TIED CARD OF 'sennetlaw01.FactsTurns'. -/
def factsTurnsCard : Claim7 := { stood := { row := factsTurnsRow, standIns := [], harness := (true, "90231ac143f8e78b13cdf5f697d564996a6a4bcbd09154860a07ee69756a5480"), looks := true }, kinds := [], alts := [], laidByText := true, laidKinds := [.data, .data, .data, .sentinel, .sentinel], laidTests := true, laidLooks := .later }
def FactsTurnsCardSaid : Prop := Claim7.holds Tryz.pinned (.plain (OpenSpec.ofChange factsTurnsSpec)) factsTurnsCard

/-- THE TIED CARD OF 'sennetlaw01.FactsVoids'. -/
def factsVoidsCard : Claim7 := { stood := { row := factsVoidsRow, standIns := [], harness := (true, "90231ac143f8e78b13cdf5f697d564996a6a4bcbd09154860a07ee69756a5480"), looks := true }, kinds := [], alts := [], laidByText := true, laidKinds := [.data, .data, .data, .sentinel, .sentinel], laidTests := true, laidLooks := .later }
def FactsVoidsCardSaid : Prop := Claim7.holds Tryz.pinned (.plain (OpenSpec.ofChange factsVoidsSpec)) factsVoidsCard

/-- THE TIED CARD OF 'sennetlaw01.FactsCorrects'. -/
def factsCorrectsCard : Claim7 := { stood := { row := factsCorrectsRow, standIns := [], harness := (true, "90231ac143f8e78b13cdf5f697d564996a6a4bcbd09154860a07ee69756a5480"), looks := true }, kinds := [], alts := [], laidByText := true, laidKinds := [.data, .data, .data, .sentinel, .sentinel], laidTests := true, laidLooks := .later }
def FactsCorrectsCardSaid : Prop := Claim7.holds Tryz.pinned (.plain (OpenSpec.ofChange factsCorrectsSpec)) factsCorrectsCard

/-- THE TIED CARD OF 'sennetlaw01.FactsStates'. -/
def factsStatesCard : Claim7 := { stood := { row := factsStatesRow, standIns := [], harness := (true, "90231ac143f8e78b13cdf5f697d564996a6a4bcbd09154860a07ee69756a5480"), looks := true }, kinds := [], alts := [], laidByText := true, laidKinds := [.data, .data, .data, .sentinel, .sentinel], laidTests := true, laidLooks := .later }
def FactsStatesCardSaid : Prop := Claim7.holds Tryz.pinned (.plain (OpenSpec.ofChange factsStatesSpec)) factsStatesCard

/-- THE TIED CARD OF 'sennetlaw01.FactsPairs'. -/
def factsPairsCard : Claim7 := { stood := { row := factsPairsRow, standIns := [], harness := (true, "90231ac143f8e78b13cdf5f697d564996a6a4bcbd09154860a07ee69756a5480"), looks := true }, kinds := [], alts := [], laidByText := true, laidKinds := [.data, .data, .data, .sentinel, .sentinel], laidTests := true, laidLooks := .later }
def FactsPairsCardSaid : Prop := Claim7.holds Tryz.pinned (.plain (OpenSpec.ofChange factsPairsSpec)) factsPairsCard

/-- THE TIED CARD OF 'sennetlaw01.FactsOffices'. -/
def factsOfficesCard : Claim7 := { stood := { row := factsOfficesRow, standIns := [], harness := (true, "90231ac143f8e78b13cdf5f697d564996a6a4bcbd09154860a07ee69756a5480"), looks := true }, kinds := [], alts := [], laidByText := true, laidKinds := [.data, .data, .data, .sentinel, .sentinel], laidTests := true, laidLooks := .later }
def FactsOfficesCardSaid : Prop := Claim7.holds Tryz.pinned (.plain (OpenSpec.ofChange factsOfficesSpec)) factsOfficesCard

/-- THE TIED CARD OF 'sennetlaw01.FactsClasses'. -/
def factsClassesCard : Claim7 := { stood := { row := factsClassesRow, standIns := [], harness := (true, "90231ac143f8e78b13cdf5f697d564996a6a4bcbd09154860a07ee69756a5480"), looks := true }, kinds := [], alts := [], laidByText := true, laidKinds := [.data, .data, .data, .sentinel, .sentinel], laidTests := true, laidLooks := .later }
def FactsClassesCardSaid : Prop := Claim7.holds Tryz.pinned (.plain (OpenSpec.ofChange factsClassesSpec)) factsClassesCard

/-- THE TIED CARD OF 'sennetlaw01.FactsPersons'. -/
def factsPersonsCard : Claim7 := { stood := { row := factsPersonsRow, standIns := [], harness := (true, "90231ac143f8e78b13cdf5f697d564996a6a4bcbd09154860a07ee69756a5480"), looks := true }, kinds := [], alts := [], laidByText := true, laidKinds := [.data, .data, .data, .sentinel, .sentinel], laidTests := true, laidLooks := .later }
def FactsPersonsCardSaid : Prop := Claim7.holds Tryz.pinned (.plain (OpenSpec.ofChange factsPersonsSpec)) factsPersonsCard

/-- THE TIED CARD OF 'sennetlaw01.FactsClocks'. -/
def factsClocksCard : Claim7 := { stood := { row := factsClocksRow, standIns := [], harness := (true, "90231ac143f8e78b13cdf5f697d564996a6a4bcbd09154860a07ee69756a5480"), looks := true }, kinds := [], alts := [], laidByText := true, laidKinds := [.data, .data, .data, .sentinel, .sentinel], laidTests := true, laidLooks := .later }
def FactsClocksCardSaid : Prop := Claim7.holds Tryz.pinned (.plain (OpenSpec.ofChange factsClocksSpec)) factsClocksCard

/-- THE TIED CARD OF 'sennetlaw01.FactsStill'. -/
def factsStillCard : Claim7 := { stood := { row := factsStillRow, standIns := [], harness := (true, "90231ac143f8e78b13cdf5f697d564996a6a4bcbd09154860a07ee69756a5480"), looks := true }, kinds := [], alts := [], laidByText := true, laidKinds := [.data, .data, .data, .sentinel, .sentinel], laidTests := true, laidLooks := .later }
def FactsStillCardSaid : Prop := Claim7.holds Tryz.pinned (.plain (OpenSpec.ofChange factsStillSpec)) factsStillCard

/-- THE TIED CARD OF 'sennetlaw01.FactsMemory'. -/
def factsMemoryCard : Claim7 := { stood := { row := factsMemoryRow, standIns := [], harness := (true, "90231ac143f8e78b13cdf5f697d564996a6a4bcbd09154860a07ee69756a5480"), looks := true }, kinds := [], alts := [], laidByText := true, laidKinds := [.data, .data, .data, .sentinel, .sentinel], laidTests := true, laidLooks := .later }
def FactsMemoryCardSaid : Prop := Claim7.holds Tryz.pinned (.plain (OpenSpec.ofChange factsMemorySpec)) factsMemoryCard

/-- THE SECOND FORM's CARD OF 'sennetlaw01.FactsCheck'. -/
def factsCheckUptoCard : Claim7 := { stood := { row := factsCheckUptoRow, standIns := [], harness := (true, "90231ac143f8e78b13cdf5f697d564996a6a4bcbd09154860a07ee69756a5480"), looks := true }, kinds := [], alts := [], laidByText := true, laidKinds := [.data, .data, .data, .sentinel, .sentinel], laidTests := true, laidLooks := .later }
def FactsCheckUptoCardSaid : Prop := Claim7.holds Tryz.pinned (.plain (OpenSpec.upto factsCheckSpec)) factsCheckUptoCard

/-- THE SECOND FORM's CARD OF 'sennetlaw01.FactsLimit'. -/
def factsLimitUptoCard : Claim7 := { stood := { row := factsLimitUptoRow, standIns := [], harness := (true, "90231ac143f8e78b13cdf5f697d564996a6a4bcbd09154860a07ee69756a5480"), looks := true }, kinds := [], alts := [], laidByText := true, laidKinds := [.data, .data, .data, .sentinel, .sentinel], laidTests := true, laidLooks := .later }
def FactsLimitUptoCardSaid : Prop := Claim7.holds Tryz.pinned (.plain (OpenSpec.upto factsLimitSpec)) factsLimitUptoCard

/-- THE SECOND FORM's CARD OF 'sennetlaw01.FactsAppends'. -/
def factsAppendsUptoCard : Claim7 := { stood := { row := factsAppendsUptoRow, standIns := [], harness := (true, "90231ac143f8e78b13cdf5f697d564996a6a4bcbd09154860a07ee69756a5480"), looks := true }, kinds := [], alts := [], laidByText := true, laidKinds := [.data, .data, .data, .sentinel, .sentinel], laidTests := true, laidLooks := .later }
def FactsAppendsUptoCardSaid : Prop := Claim7.holds Tryz.pinned (.plain (OpenSpec.upto factsAppendsSpec)) factsAppendsUptoCard

/-- THE SECOND FORM's CARD OF 'sennetlaw01.FactsKnown'. -/
def factsKnownUptoCard : Claim7 := { stood := { row := factsKnownUptoRow, standIns := [], harness := (true, "90231ac143f8e78b13cdf5f697d564996a6a4bcbd09154860a07ee69756a5480"), looks := true }, kinds := [], alts := [], laidByText := true, laidKinds := [.data, .data, .data, .sentinel, .sentinel], laidTests := true, laidLooks := .later }
def FactsKnownUptoCardSaid : Prop := Claim7.holds Tryz.pinned (.plain (OpenSpec.upto factsKnownSpec)) factsKnownUptoCard

/-- THE SECOND FORM's CARD OF 'sennetlaw01.FactsLines'. -/
def factsLinesUptoCard : Claim7 := { stood := { row := factsLinesUptoRow, standIns := [], harness := (true, "90231ac143f8e78b13cdf5f697d564996a6a4bcbd09154860a07ee69756a5480"), looks := true }, kinds := [], alts := [], laidByText := true, laidKinds := [.data, .data, .data, .sentinel, .sentinel], laidTests := true, laidLooks := .later }
def FactsLinesUptoCardSaid : Prop := Claim7.holds Tryz.pinned (.plain (OpenSpec.upto factsLinesSpec)) factsLinesUptoCard

/-- THE SECOND FORM's CARD OF 'sennetlaw01.FactsAt'. -/
def factsAtUptoCard : Claim7 := { stood := { row := factsAtUptoRow, standIns := [], harness := (true, "90231ac143f8e78b13cdf5f697d564996a6a4bcbd09154860a07ee69756a5480"), looks := true }, kinds := [], alts := [], laidByText := true, laidKinds := [.data, .data, .data, .sentinel, .sentinel], laidTests := true, laidLooks := .later }
def FactsAtUptoCardSaid : Prop := Claim7.holds Tryz.pinned (.plain (OpenSpec.upto factsAtSpec)) factsAtUptoCard

/-- THE SECOND FORM's CARD OF 'sennetlaw01.FactsTurns'. -/
def factsTurnsUptoCard : Claim7 := { stood := { row := factsTurnsUptoRow, standIns := [], harness := (true, "90231ac143f8e78b13cdf5f697d564996a6a4bcbd09154860a07ee69756a5480"), looks := true }, kinds := [], alts := [], laidByText := true, laidKinds := [.data, .data, .data, .sentinel, .sentinel], laidTests := true, laidLooks := .later }
def FactsTurnsUptoCardSaid : Prop := Claim7.holds Tryz.pinned (.plain (OpenSpec.upto factsTurnsSpec)) factsTurnsUptoCard

/-- THE SECOND FORM's CARD OF 'sennetlaw01.FactsVoids'. -/
def factsVoidsUptoCard : Claim7 := { stood := { row := factsVoidsUptoRow, standIns := [], harness := (true, "90231ac143f8e78b13cdf5f697d564996a6a4bcbd09154860a07ee69756a5480"), looks := true }, kinds := [], alts := [], laidByText := true, laidKinds := [.data, .data, .data, .sentinel, .sentinel], laidTests := true, laidLooks := .later }
def FactsVoidsUptoCardSaid : Prop := Claim7.holds Tryz.pinned (.plain (OpenSpec.upto factsVoidsSpec)) factsVoidsUptoCard

/-- THE SECOND FORM's CARD OF 'sennetlaw01.FactsCorrects'. -/
def factsCorrectsUptoCard : Claim7 := { stood := { row := factsCorrectsUptoRow, standIns := [], harness := (true, "90231ac143f8e78b13cdf5f697d564996a6a4bcbd09154860a07ee69756a5480"), looks := true }, kinds := [], alts := [], laidByText := true, laidKinds := [.data, .data, .data, .sentinel, .sentinel], laidTests := true, laidLooks := .later }
def FactsCorrectsUptoCardSaid : Prop := Claim7.holds Tryz.pinned (.plain (OpenSpec.upto factsCorrectsSpec)) factsCorrectsUptoCard

/-- THE SECOND FORM's CARD OF 'sennetlaw01.FactsStates'. -/
def factsStatesUptoCard : Claim7 := { stood := { row := factsStatesUptoRow, standIns := [], harness := (true, "90231ac143f8e78b13cdf5f697d564996a6a4bcbd09154860a07ee69756a5480"), looks := true }, kinds := [], alts := [], laidByText := true, laidKinds := [.data, .data, .data, .sentinel, .sentinel], laidTests := true, laidLooks := .later }
def FactsStatesUptoCardSaid : Prop := Claim7.holds Tryz.pinned (.plain (OpenSpec.upto factsStatesSpec)) factsStatesUptoCard

/-- THE SECOND FORM's CARD OF 'sennetlaw01.FactsPairs'. -/
def factsPairsUptoCard : Claim7 := { stood := { row := factsPairsUptoRow, standIns := [], harness := (true, "90231ac143f8e78b13cdf5f697d564996a6a4bcbd09154860a07ee69756a5480"), looks := true }, kinds := [], alts := [], laidByText := true, laidKinds := [.data, .data, .data, .sentinel, .sentinel], laidTests := true, laidLooks := .later }
def FactsPairsUptoCardSaid : Prop := Claim7.holds Tryz.pinned (.plain (OpenSpec.upto factsPairsSpec)) factsPairsUptoCard

/-- THE SECOND FORM's CARD OF 'sennetlaw01.FactsOffices'. -/
def factsOfficesUptoCard : Claim7 := { stood := { row := factsOfficesUptoRow, standIns := [], harness := (true, "90231ac143f8e78b13cdf5f697d564996a6a4bcbd09154860a07ee69756a5480"), looks := true }, kinds := [], alts := [], laidByText := true, laidKinds := [.data, .data, .data, .sentinel, .sentinel], laidTests := true, laidLooks := .later }
def FactsOfficesUptoCardSaid : Prop := Claim7.holds Tryz.pinned (.plain (OpenSpec.upto factsOfficesSpec)) factsOfficesUptoCard

/-- THE SECOND FORM's CARD OF 'sennetlaw01.FactsClasses'. -/
def factsClassesUptoCard : Claim7 := { stood := { row := factsClassesUptoRow, standIns := [], harness := (true, "90231ac143f8e78b13cdf5f697d564996a6a4bcbd09154860a07ee69756a5480"), looks := true }, kinds := [], alts := [], laidByText := true, laidKinds := [.data, .data, .data, .sentinel, .sentinel], laidTests := true, laidLooks := .later }
def FactsClassesUptoCardSaid : Prop := Claim7.holds Tryz.pinned (.plain (OpenSpec.upto factsClassesSpec)) factsClassesUptoCard

/-- THE SECOND FORM's CARD OF 'sennetlaw01.FactsPersons'. -/
def factsPersonsUptoCard : Claim7 := { stood := { row := factsPersonsUptoRow, standIns := [], harness := (true, "90231ac143f8e78b13cdf5f697d564996a6a4bcbd09154860a07ee69756a5480"), looks := true }, kinds := [], alts := [], laidByText := true, laidKinds := [.data, .data, .data, .sentinel, .sentinel], laidTests := true, laidLooks := .later }
def FactsPersonsUptoCardSaid : Prop := Claim7.holds Tryz.pinned (.plain (OpenSpec.upto factsPersonsSpec)) factsPersonsUptoCard

/-- THE SECOND FORM's CARD OF 'sennetlaw01.FactsClocks'. -/
def factsClocksUptoCard : Claim7 := { stood := { row := factsClocksUptoRow, standIns := [], harness := (true, "90231ac143f8e78b13cdf5f697d564996a6a4bcbd09154860a07ee69756a5480"), looks := true }, kinds := [], alts := [], laidByText := true, laidKinds := [.data, .data, .data, .sentinel, .sentinel], laidTests := true, laidLooks := .later }
def FactsClocksUptoCardSaid : Prop := Claim7.holds Tryz.pinned (.plain (OpenSpec.upto factsClocksSpec)) factsClocksUptoCard

/-- THE SECOND FORM's CARD OF 'sennetlaw01.FactsStill'. -/
def factsStillUptoCard : Claim7 := { stood := { row := factsStillUptoRow, standIns := [], harness := (true, "90231ac143f8e78b13cdf5f697d564996a6a4bcbd09154860a07ee69756a5480"), looks := true }, kinds := [], alts := [], laidByText := true, laidKinds := [.data, .data, .data, .sentinel, .sentinel], laidTests := true, laidLooks := .later }
def FactsStillUptoCardSaid : Prop := Claim7.holds Tryz.pinned (.plain (OpenSpec.upto factsStillSpec)) factsStillUptoCard

/-- THE SECOND FORM's CARD OF 'sennetlaw01.FactsMemory'. -/
def factsMemoryUptoCard : Claim7 := { stood := { row := factsMemoryUptoRow, standIns := [], harness := (true, "90231ac143f8e78b13cdf5f697d564996a6a4bcbd09154860a07ee69756a5480"), looks := true }, kinds := [], alts := [], laidByText := true, laidKinds := [.data, .data, .data, .sentinel, .sentinel], laidTests := true, laidLooks := .later }
def FactsMemoryUptoCardSaid : Prop := Claim7.holds Tryz.pinned (.plain (OpenSpec.upto factsMemorySpec)) factsMemoryUptoCard
end Rows
end Go.Proofs.YthpdkdmbfdmamaaGreatDoor
