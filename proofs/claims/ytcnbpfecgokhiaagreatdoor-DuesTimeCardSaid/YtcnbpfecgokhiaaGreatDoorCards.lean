/-
  DERIVED. GIVEN WITH THE SEED: THE CARDS: each row of YtcnbpfecgokhiaaGreatDoorRows.lean that lists a variable, with what it lists TIED to the program's text (the seventh form; the later family's looks); each row that meets fmt, with fmt's text TOLD by the authors' own Lean function (tested against real Go, not proved from fmt's source: count such statements apart). THE CARD IS WHAT COUNTS. Prove the row's statement (the work); the ties are given (YtcnbpfecgokhiaaGreatDoorTie.lean); close each card by the builder's one call (the guide's Derived/Test/ToyasCard.lean, 'card_holds'). Laid BY PROGRAM, IN A SANDBOX (cutbox-door.mjs). By AI agents, Wed Nov 11 2026. No macro, syntax, notation, axiom, sorry.
-/
import Derived.Test.YtcnbpfecgokhiaaGreatDoorRows
import GoSem.ClaimSeven
namespace Go.Proofs.YtcnbpfecgokhiaaGreatDoor
namespace Rows

/-- THE TIED CARD OF 'sennetlaw06.DuesRuns'. -/
def duesRunsCard : Claim7 := { stood := { row := duesRunsRow, standIns := [], harness := (true, "1358598984c50f75a184f53338f3e1732b2c70335c50b60da716b816d3180758"), looks := true }, kinds := [], alts := [], laidByText := true, laidKinds := [.data, .data, .data], laidTests := true, laidLooks := .later }
def DuesRunsCardSaid : Prop := Claim7.holds Tryz.pinned (.plain (OpenSpec.ofChange duesRunsSpec)) duesRunsCard

/-- THE TIED CARD OF 'sennetlaw06.DuesReplays'. -/
def duesReplaysCard : Claim7 := { stood := { row := duesReplaysRow, standIns := [], harness := (true, "1358598984c50f75a184f53338f3e1732b2c70335c50b60da716b816d3180758"), looks := true }, kinds := [], alts := [], laidByText := true, laidKinds := [.data, .data, .data], laidTests := true, laidLooks := .later }
def DuesReplaysCardSaid : Prop := Claim7.holds Tryz.pinned (.plain (OpenSpec.ofChange duesReplaysSpec)) duesReplaysCard

/-- THE TIED CARD OF 'sennetlaw06.DuesEnds'. -/
def duesEndsCard : Claim7 := { stood := { row := duesEndsRow, standIns := [], harness := (true, "1358598984c50f75a184f53338f3e1732b2c70335c50b60da716b816d3180758"), looks := true }, kinds := [], alts := [], laidByText := true, laidKinds := [.data, .data, .data], laidTests := true, laidLooks := .later }
def DuesEndsCardSaid : Prop := Claim7.holds Tryz.pinned (.plain (OpenSpec.ofChange duesEndsSpec)) duesEndsCard

/-- THE TIED CARD OF 'sennetlaw06.DuesDebts'. -/
def duesDebtsCard : Claim7 := { stood := { row := duesDebtsRow, standIns := [], harness := (true, "1358598984c50f75a184f53338f3e1732b2c70335c50b60da716b816d3180758"), looks := true }, kinds := [], alts := [], laidByText := true, laidKinds := [.data, .data, .data], laidTests := true, laidLooks := .later }
def DuesDebtsCardSaid : Prop := Claim7.holds Tryz.pinned (.plain (OpenSpec.ofChange duesDebtsSpec)) duesDebtsCard

/-- THE TIED CARD OF 'sennetlaw06.DuesCovers'. -/
def duesCoversCard : Claim7 := { stood := { row := duesCoversRow, standIns := [], harness := (true, "1358598984c50f75a184f53338f3e1732b2c70335c50b60da716b816d3180758"), looks := true }, kinds := [], alts := [], laidByText := true, laidKinds := [.data, .data, .data], laidTests := true, laidLooks := .later }
def DuesCoversCardSaid : Prop := Claim7.holds Tryz.pinned (.plain (OpenSpec.ofChange duesCoversSpec)) duesCoversCard

/-- THE TIED CARD OF 'sennetlaw06.DuesReturns'. -/
def duesReturnsCard : Claim7 := { stood := { row := duesReturnsRow, standIns := [], harness := (true, "1358598984c50f75a184f53338f3e1732b2c70335c50b60da716b816d3180758"), looks := true }, kinds := [], alts := [], laidByText := true, laidKinds := [.data, .data, .data], laidTests := true, laidLooks := .later }
def DuesReturnsCardSaid : Prop := Claim7.holds Tryz.pinned (.plain (OpenSpec.ofChange duesReturnsSpec)) duesReturnsCard

/-- THE TIED CARD OF 'sennetlaw06.DuesPower'. -/
def duesPowerCard : Claim7 := { stood := { row := duesPowerRow, standIns := [], harness := (true, "1358598984c50f75a184f53338f3e1732b2c70335c50b60da716b816d3180758"), looks := true }, kinds := [], alts := [], laidByText := true, laidKinds := [.data, .data, .data], laidTests := true, laidLooks := .later }
def DuesPowerCardSaid : Prop := Claim7.holds Tryz.pinned (.plain (OpenSpec.ofChange duesPowerSpec)) duesPowerCard

/-- THE TIED CARD OF 'sennetlaw06.DuesSecret'. -/
def duesSecretCard : Claim7 := { stood := { row := duesSecretRow, standIns := [], harness := (true, "1358598984c50f75a184f53338f3e1732b2c70335c50b60da716b816d3180758"), looks := true }, kinds := [], alts := [], laidByText := true, laidKinds := [.data, .data, .data], laidTests := true, laidLooks := .later }
def DuesSecretCardSaid : Prop := Claim7.holds Tryz.pinned (.plain (OpenSpec.ofChange duesSecretSpec)) duesSecretCard

/-- THE TIED CARD OF 'sennetlaw06.DuesTime'. -/
def duesTimeCard : Claim7 := { stood := { row := duesTimeRow, standIns := [], harness := (true, "1358598984c50f75a184f53338f3e1732b2c70335c50b60da716b816d3180758"), looks := true }, kinds := [], alts := [], laidByText := true, laidKinds := [.data, .data, .data], laidTests := true, laidLooks := .later }
def DuesTimeCardSaid : Prop := Claim7.holds Tryz.pinned (.plain (OpenSpec.ofChange duesTimeSpec)) duesTimeCard

/-- THE TIED CARD OF 'sennetlaw06.DuesAsks'. -/
def duesAsksCard : Claim7 := { stood := { row := duesAsksRow, standIns := [], harness := (true, "1358598984c50f75a184f53338f3e1732b2c70335c50b60da716b816d3180758"), looks := true }, kinds := [], alts := [], laidByText := true, laidKinds := [.data, .data, .data], laidTests := true, laidLooks := .later }
def DuesAsksCardSaid : Prop := Claim7.holds Tryz.pinned (.plain (OpenSpec.ofChange duesAsksSpec)) duesAsksCard

/-- THE TIED CARD OF 'sennetlaw06.DuesNil'. -/
def duesNilCard : Claim7 := { stood := { row := duesNilRow, standIns := [], harness := (true, "1358598984c50f75a184f53338f3e1732b2c70335c50b60da716b816d3180758"), looks := true }, kinds := [], alts := [], laidByText := true, laidKinds := [.data, .data, .data], laidTests := true, laidLooks := .later }
def DuesNilCardSaid : Prop := Claim7.holds Tryz.pinned (.plain (OpenSpec.ofChange duesNilSpec)) duesNilCard

/-- THE TIED CARD OF 'sennetlaw06.DuesLines'. -/
def duesLinesCard : Claim7 := { stood := { row := duesLinesRow, standIns := [], harness := (true, "1358598984c50f75a184f53338f3e1732b2c70335c50b60da716b816d3180758"), looks := true }, kinds := [], alts := [], laidByText := true, laidKinds := [.data, .data, .data, .sentinel, .sentinel], laidTests := true, laidLooks := .later }
def DuesLinesCardSaid : Prop := Claim7.holds Tryz.pinned (.plain (OpenSpec.ofChange duesLinesSpec)) duesLinesCard

/-- THE SECOND FORM's CARD OF 'sennetlaw06.DuesRuns'. -/
def duesRunsUptoCard : Claim7 := { stood := { row := duesRunsUptoRow, standIns := [], harness := (true, "1358598984c50f75a184f53338f3e1732b2c70335c50b60da716b816d3180758"), looks := true }, kinds := [], alts := [], laidByText := true, laidKinds := [.data, .data, .data], laidTests := true, laidLooks := .later }
def DuesRunsUptoCardSaid : Prop := Claim7.holds Tryz.pinned (.plain (OpenSpec.upto duesRunsSpec)) duesRunsUptoCard

/-- THE SECOND FORM's CARD OF 'sennetlaw06.DuesReplays'. -/
def duesReplaysUptoCard : Claim7 := { stood := { row := duesReplaysUptoRow, standIns := [], harness := (true, "1358598984c50f75a184f53338f3e1732b2c70335c50b60da716b816d3180758"), looks := true }, kinds := [], alts := [], laidByText := true, laidKinds := [.data, .data, .data], laidTests := true, laidLooks := .later }
def DuesReplaysUptoCardSaid : Prop := Claim7.holds Tryz.pinned (.plain (OpenSpec.upto duesReplaysSpec)) duesReplaysUptoCard

/-- THE SECOND FORM's CARD OF 'sennetlaw06.DuesEnds'. -/
def duesEndsUptoCard : Claim7 := { stood := { row := duesEndsUptoRow, standIns := [], harness := (true, "1358598984c50f75a184f53338f3e1732b2c70335c50b60da716b816d3180758"), looks := true }, kinds := [], alts := [], laidByText := true, laidKinds := [.data, .data, .data], laidTests := true, laidLooks := .later }
def DuesEndsUptoCardSaid : Prop := Claim7.holds Tryz.pinned (.plain (OpenSpec.upto duesEndsSpec)) duesEndsUptoCard

/-- THE SECOND FORM's CARD OF 'sennetlaw06.DuesDebts'. -/
def duesDebtsUptoCard : Claim7 := { stood := { row := duesDebtsUptoRow, standIns := [], harness := (true, "1358598984c50f75a184f53338f3e1732b2c70335c50b60da716b816d3180758"), looks := true }, kinds := [], alts := [], laidByText := true, laidKinds := [.data, .data, .data], laidTests := true, laidLooks := .later }
def DuesDebtsUptoCardSaid : Prop := Claim7.holds Tryz.pinned (.plain (OpenSpec.upto duesDebtsSpec)) duesDebtsUptoCard

/-- THE SECOND FORM's CARD OF 'sennetlaw06.DuesCovers'. -/
def duesCoversUptoCard : Claim7 := { stood := { row := duesCoversUptoRow, standIns := [], harness := (true, "1358598984c50f75a184f53338f3e1732b2c70335c50b60da716b816d3180758"), looks := true }, kinds := [], alts := [], laidByText := true, laidKinds := [.data, .data, .data], laidTests := true, laidLooks := .later }
def DuesCoversUptoCardSaid : Prop := Claim7.holds Tryz.pinned (.plain (OpenSpec.upto duesCoversSpec)) duesCoversUptoCard

/-- THE SECOND FORM's CARD OF 'sennetlaw06.DuesReturns'. -/
def duesReturnsUptoCard : Claim7 := { stood := { row := duesReturnsUptoRow, standIns := [], harness := (true, "1358598984c50f75a184f53338f3e1732b2c70335c50b60da716b816d3180758"), looks := true }, kinds := [], alts := [], laidByText := true, laidKinds := [.data, .data, .data], laidTests := true, laidLooks := .later }
def DuesReturnsUptoCardSaid : Prop := Claim7.holds Tryz.pinned (.plain (OpenSpec.upto duesReturnsSpec)) duesReturnsUptoCard

/-- THE SECOND FORM's CARD OF 'sennetlaw06.DuesPower'. -/
def duesPowerUptoCard : Claim7 := { stood := { row := duesPowerUptoRow, standIns := [], harness := (true, "1358598984c50f75a184f53338f3e1732b2c70335c50b60da716b816d3180758"), looks := true }, kinds := [], alts := [], laidByText := true, laidKinds := [.data, .data, .data], laidTests := true, laidLooks := .later }
def DuesPowerUptoCardSaid : Prop := Claim7.holds Tryz.pinned (.plain (OpenSpec.upto duesPowerSpec)) duesPowerUptoCard

/-- THE SECOND FORM's CARD OF 'sennetlaw06.DuesSecret'. -/
def duesSecretUptoCard : Claim7 := { stood := { row := duesSecretUptoRow, standIns := [], harness := (true, "1358598984c50f75a184f53338f3e1732b2c70335c50b60da716b816d3180758"), looks := true }, kinds := [], alts := [], laidByText := true, laidKinds := [.data, .data, .data], laidTests := true, laidLooks := .later }
def DuesSecretUptoCardSaid : Prop := Claim7.holds Tryz.pinned (.plain (OpenSpec.upto duesSecretSpec)) duesSecretUptoCard

/-- THE SECOND FORM's CARD OF 'sennetlaw06.DuesTime'. -/
def duesTimeUptoCard : Claim7 := { stood := { row := duesTimeUptoRow, standIns := [], harness := (true, "1358598984c50f75a184f53338f3e1732b2c70335c50b60da716b816d3180758"), looks := true }, kinds := [], alts := [], laidByText := true, laidKinds := [.data, .data, .data], laidTests := true, laidLooks := .later }
def DuesTimeUptoCardSaid : Prop := Claim7.holds Tryz.pinned (.plain (OpenSpec.upto duesTimeSpec)) duesTimeUptoCard

/-- THE SECOND FORM's CARD OF 'sennetlaw06.DuesAsks'. -/
def duesAsksUptoCard : Claim7 := { stood := { row := duesAsksUptoRow, standIns := [], harness := (true, "1358598984c50f75a184f53338f3e1732b2c70335c50b60da716b816d3180758"), looks := true }, kinds := [], alts := [], laidByText := true, laidKinds := [.data, .data, .data], laidTests := true, laidLooks := .later }
def DuesAsksUptoCardSaid : Prop := Claim7.holds Tryz.pinned (.plain (OpenSpec.upto duesAsksSpec)) duesAsksUptoCard

/-- THE SECOND FORM's CARD OF 'sennetlaw06.DuesNil'. -/
def duesNilUptoCard : Claim7 := { stood := { row := duesNilUptoRow, standIns := [], harness := (true, "1358598984c50f75a184f53338f3e1732b2c70335c50b60da716b816d3180758"), looks := true }, kinds := [], alts := [], laidByText := true, laidKinds := [.data, .data, .data], laidTests := true, laidLooks := .later }
def DuesNilUptoCardSaid : Prop := Claim7.holds Tryz.pinned (.plain (OpenSpec.upto duesNilSpec)) duesNilUptoCard

/-- THE SECOND FORM's CARD OF 'sennetlaw06.DuesLines'. -/
def duesLinesUptoCard : Claim7 := { stood := { row := duesLinesUptoRow, standIns := [], harness := (true, "1358598984c50f75a184f53338f3e1732b2c70335c50b60da716b816d3180758"), looks := true }, kinds := [], alts := [], laidByText := true, laidKinds := [.data, .data, .data, .sentinel, .sentinel], laidTests := true, laidLooks := .later }
def DuesLinesUptoCardSaid : Prop := Claim7.holds Tryz.pinned (.plain (OpenSpec.upto duesLinesSpec)) duesLinesUptoCard
end Rows
end Go.Proofs.YtcnbpfecgokhiaaGreatDoor
