/-
  DERIVED. GIVEN WITH THE SEED: THE CARDS: each row of YtahgjidcaeieaaaGreatDoorRows.lean that lists a variable, with what it lists TIED to the program's text (the seventh form; the later family's looks); each row that meets fmt, with fmt's text TOLD by the authors' own Lean function (tested against real Go, not proved from fmt's source: count such statements apart). THE CARD IS WHAT COUNTS. Prove the row's statement (the work); the ties are given (YtahgjidcaeieaaaGreatDoorTie.lean); close each card by the builder's one call (the guide's Derived/Test/ToyasCard.lean, 'card_holds'). Laid BY PROGRAM, IN A SANDBOX (cutbox-door.mjs). By AI agents, Wed Nov 11 2026. No macro, syntax, notation, axiom, sorry.
-/
import Derived.Test.YtahgjidcaeieaaaGreatDoorRows
import GoSem.ClaimSeven
namespace Go.Proofs.YtahgjidcaeieaaaGreatDoor
namespace Rows

/-- THE TIED CARD OF 'sennetlaw06.DuesLines'. -/
def duesLinesCard : Claim7 := { stood := { row := duesLinesRow, standIns := [], harness := (true, "fed0e60545708993075b8b7c540a1995fa6fa6c3519239fb34442a3c0c19b296"), looks := true }, kinds := [], alts := [], laidByText := true, laidKinds := [.data, .data, .data, .sentinel, .sentinel], laidTests := true, laidLooks := .later }
def DuesLinesCardSaid : Prop := Claim7.holds Tryz.pinned (.plain (OpenSpec.ofChange duesLinesSpec)) duesLinesCard

/-- THE SECOND FORM's CARD OF 'sennetlaw06.DuesLines'. -/
def duesLinesUptoCard : Claim7 := { stood := { row := duesLinesUptoRow, standIns := [], harness := (true, "fed0e60545708993075b8b7c540a1995fa6fa6c3519239fb34442a3c0c19b296"), looks := true }, kinds := [], alts := [], laidByText := true, laidKinds := [.data, .data, .data, .sentinel, .sentinel], laidTests := true, laidLooks := .later }
def DuesLinesUptoCardSaid : Prop := Claim7.holds Tryz.pinned (.plain (OpenSpec.upto duesLinesSpec)) duesLinesUptoCard
end Rows
end Go.Proofs.YtahgjidcaeieaaaGreatDoor
