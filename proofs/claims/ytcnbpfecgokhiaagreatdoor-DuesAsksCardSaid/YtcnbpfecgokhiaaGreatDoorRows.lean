/-
  NARROWER THAN 'FOR EVERY INPUT', by the rows' own cells (each row's printed sentence says how): DuesRuns: laid · DuesReplays: laid · DuesEnds: laid · DuesDebts: laid · DuesCovers: laid · DuesReturns: laid · DuesPower: laid · DuesSecret: laid · DuesTime: laid · DuesAsks: laid · DuesNil: laid · DuesLines: laid.
  DERIVED. THE GIVEN ROWS OF THIS SEAT. 12 by the template 'for every input the law returns true; each argument reads behind the call as it read before'; 0 by the template 'total and deterministic' (their statements: YtcnbpfecgokhiaaGreatDoorTotals.lean).
  GIVEN WITH THE SEED: the statements are not yours to turn. If you find one false, say at which input.
  Laid BY PROGRAM, IN A SANDBOX (cutbox-rows.mjs): the forced cells as the released guide's own fill.sh prints them over the translation 21da9028e28362e6… (all of the seat's roots in one cut). By AI agents, Wed Nov 11 2026. No macro, syntax, notation, axiom, sorry.
-/
import Derived.Test.YtcnbpfecgokhiaaGreatDoorChecked
import GoSem.Claim
import GoSem.ClaimJoined
import GoSem.ClaimMapViews
import Derived.JoinedTies
import Derived.KernelRfl
namespace Go.Proofs.YtcnbpfecgokhiaaGreatDoor
/- THE CELL 'sum', in the pinned program and in every row, IS THE sha256 OF THE DUMP (.gsa) THAT YtcnbpfecgokhiaaGreatDoorProg.lean LOADS. Nothing in Lean hashes anything: it is a label: what it is worth is what the hold of that sum in a sandbox is worth. -/
noncomputable def Tryz.pinned : Pinned := { name := "ytcnbpfecgokhiaagreatdoor", sum := "21da9028e28362e6c20d89a23f44db94d533030bd080c25376732d50a722de95", checked := Tryz.checked }
namespace Rows
def none {H : Type} : Left H := { results := [], args := [] }

/- WHAT THE LISTED PACKAGE-LEVEL VARIABLES READ AS WHEN THE CALL BEGINS. Each datum BY PROGRAM (the guide's laid-datum.mjs) off the statement by which the dump's own 'gosem.cut.vars' lays the variable. In a bare row this is a premise. The card (YtcnbpfecgokhiaaGreatDoorCards.lean) ties it to the program's text. -/
def laid_math_bits_deBruijn32tab {H : Type} : DataW H := .agg [.lit (.int .u8 0), .lit (.int .u8 1), .lit (.int .u8 28), .lit (.int .u8 2), .lit (.int .u8 29), .lit (.int .u8 14), .lit (.int .u8 24), .lit (.int .u8 3), .lit (.int .u8 30), .lit (.int .u8 22), .lit (.int .u8 20), .lit (.int .u8 15), .lit (.int .u8 25), .lit (.int .u8 17), .lit (.int .u8 4), .lit (.int .u8 8), .lit (.int .u8 31), .lit (.int .u8 27), .lit (.int .u8 13), .lit (.int .u8 23), .lit (.int .u8 21), .lit (.int .u8 19), .lit (.int .u8 16), .lit (.int .u8 7), .lit (.int .u8 26), .lit (.int .u8 12), .lit (.int .u8 18), .lit (.int .u8 6), .lit (.int .u8 11), .lit (.int .u8 5), .lit (.int .u8 10), .lit (.int .u8 9)]
def laid_math_bits_deBruijn64tab {H : Type} : DataW H := .agg [.lit (.int .u8 0), .lit (.int .u8 1), .lit (.int .u8 56), .lit (.int .u8 2), .lit (.int .u8 57), .lit (.int .u8 49), .lit (.int .u8 28), .lit (.int .u8 3), .lit (.int .u8 61), .lit (.int .u8 58), .lit (.int .u8 42), .lit (.int .u8 50), .lit (.int .u8 38), .lit (.int .u8 29), .lit (.int .u8 17), .lit (.int .u8 4), .lit (.int .u8 62), .lit (.int .u8 47), .lit (.int .u8 59), .lit (.int .u8 36), .lit (.int .u8 45), .lit (.int .u8 43), .lit (.int .u8 51), .lit (.int .u8 22), .lit (.int .u8 53), .lit (.int .u8 39), .lit (.int .u8 33), .lit (.int .u8 30), .lit (.int .u8 24), .lit (.int .u8 18), .lit (.int .u8 12), .lit (.int .u8 5), .lit (.int .u8 63), .lit (.int .u8 55), .lit (.int .u8 48), .lit (.int .u8 27), .lit (.int .u8 60), .lit (.int .u8 41), .lit (.int .u8 37), .lit (.int .u8 16), .lit (.int .u8 46), .lit (.int .u8 35), .lit (.int .u8 44), .lit (.int .u8 21), .lit (.int .u8 52), .lit (.int .u8 32), .lit (.int .u8 23), .lit (.int .u8 11), .lit (.int .u8 54), .lit (.int .u8 26), .lit (.int .u8 40), .lit (.int .u8 15), .lit (.int .u8 34), .lit (.int .u8 20), .lit (.int .u8 31), .lit (.int .u8 10), .lit (.int .u8 25), .lit (.int .u8 14), .lit (.int .u8 19), .lit (.int .u8 9), .lit (.int .u8 13), .lit (.int .u8 8), .lit (.int .u8 7), .lit (.int .u8 6)]
def laid_internal_strconv_uint64pow10 {H : Type} : DataW H := .agg [.lit (.int .u64 1), .lit (.int .u64 10), .lit (.int .u64 100), .lit (.int .u64 1000), .lit (.int .u64 10000), .lit (.int .u64 100000), .lit (.int .u64 1000000), .lit (.int .u64 10000000), .lit (.int .u64 100000000), .lit (.int .u64 1000000000), .lit (.int .u64 10000000000), .lit (.int .u64 100000000000), .lit (.int .u64 1000000000000), .lit (.int .u64 10000000000000), .lit (.int .u64 100000000000000), .lit (.int .u64 1000000000000000), .lit (.int .u64 10000000000000000), .lit (.int .u64 100000000000000000), .lit (.int .u64 1000000000000000000), .lit (.int .u64 10000000000000000000)]
def laid_strconv_ErrRange {H : Type} : DataW H := .iface "*errors.errorString" (.ptr (.agg [.lit (.string [118, 97, 108, 117, 101, 32, 111, 117, 116, 32, 111, 102, 32, 114, 97, 110, 103, 101])]))
def laid_strconv_ErrSyntax {H : Type} : DataW H := .iface "*errors.errorString" (.ptr (.agg [.lit (.string [105, 110, 118, 97, 108, 105, 100, 32, 115, 121, 110, 116, 97, 120])]))

/-- 'sennetlaw06.DuesRuns': WHATEVER THE INPUT: true; the input reads as it did. -/
def duesRunsSpec : ChangeSpec := { name := "duesRuns", fn := fun _ => fun
  | [d1, d2] => { results := [.lit (.bool true)], args := [d1, d2] }
  | _ => none }
def duesRunsRow : OpenClaim := { program := "ytcnbpfecgokhiaagreatdoor", sum := "21da9028e28362e6c20d89a23f44db94d533030bd080c25376732d50a722de95", func := "sennet/sennetlaw06.DuesRuns", spec := "duesRuns", unfollowed := true, recurses := true, named := ["internal/strconv.uint64pow10", "math/bits.deBruijn32tab", "math/bits.deBruijn64tab"], plainKeys := false, apart := false, laid := [("math/bits.deBruijn32tab", laid_math_bits_deBruijn32tab), ("math/bits.deBruijn64tab", laid_math_bits_deBruijn64tab), ("internal/strconv.uint64pow10", laid_internal_strconv_uint64pow10)] }
def DuesRunsSaid : Prop := duesRunsRow.holds Tryz.pinned (OpenSpec.ofChange duesRunsSpec)

/-- ITS FALSE NEIGHBOUR: 'it returns false'. Refute it at one input. -/
def duesRunsWrong : ChangeSpec := { name := "duesRuns", fn := fun _ => fun
  | [d1, d2] => { results := [.lit (.bool false)], args := [d1, d2] }
  | _ => none }
def DuesRunsWrongFalsely : Prop := duesRunsRow.holds Tryz.pinned (OpenSpec.ofChange duesRunsWrong)

/-- 'sennetlaw06.DuesReplays': WHATEVER THE INPUT: true; the input reads as it did. -/
def duesReplaysSpec : ChangeSpec := { name := "duesReplays", fn := fun _ => fun
  | [d1, d2] => { results := [.lit (.bool true)], args := [d1, d2] }
  | _ => none }
def duesReplaysRow : OpenClaim := { program := "ytcnbpfecgokhiaagreatdoor", sum := "21da9028e28362e6c20d89a23f44db94d533030bd080c25376732d50a722de95", func := "sennet/sennetlaw06.DuesReplays", spec := "duesReplays", unfollowed := true, recurses := true, named := ["internal/strconv.uint64pow10", "math/bits.deBruijn32tab", "math/bits.deBruijn64tab"], plainKeys := false, apart := false, laid := [("math/bits.deBruijn32tab", laid_math_bits_deBruijn32tab), ("math/bits.deBruijn64tab", laid_math_bits_deBruijn64tab), ("internal/strconv.uint64pow10", laid_internal_strconv_uint64pow10)] }
def DuesReplaysSaid : Prop := duesReplaysRow.holds Tryz.pinned (OpenSpec.ofChange duesReplaysSpec)

/-- ITS FALSE NEIGHBOUR: 'it returns false'. Refute it at one input. -/
def duesReplaysWrong : ChangeSpec := { name := "duesReplays", fn := fun _ => fun
  | [d1, d2] => { results := [.lit (.bool false)], args := [d1, d2] }
  | _ => none }
def DuesReplaysWrongFalsely : Prop := duesReplaysRow.holds Tryz.pinned (OpenSpec.ofChange duesReplaysWrong)

/-- 'sennetlaw06.DuesEnds': WHATEVER THE INPUT: true; the input reads as it did. -/
def duesEndsSpec : ChangeSpec := { name := "duesEnds", fn := fun _ => fun
  | [d1, d2, d3, d4, d5] => { results := [.lit (.bool true)], args := [d1, d2, d3, d4, d5] }
  | _ => none }
def duesEndsRow : OpenClaim := { program := "ytcnbpfecgokhiaagreatdoor", sum := "21da9028e28362e6c20d89a23f44db94d533030bd080c25376732d50a722de95", func := "sennet/sennetlaw06.DuesEnds", spec := "duesEnds", unfollowed := true, recurses := true, named := ["internal/strconv.uint64pow10", "math/bits.deBruijn32tab", "math/bits.deBruijn64tab"], plainKeys := false, apart := false, laid := [("math/bits.deBruijn32tab", laid_math_bits_deBruijn32tab), ("math/bits.deBruijn64tab", laid_math_bits_deBruijn64tab), ("internal/strconv.uint64pow10", laid_internal_strconv_uint64pow10)] }
def DuesEndsSaid : Prop := duesEndsRow.holds Tryz.pinned (OpenSpec.ofChange duesEndsSpec)

/-- ITS FALSE NEIGHBOUR: 'it returns false'. Refute it at one input. -/
def duesEndsWrong : ChangeSpec := { name := "duesEnds", fn := fun _ => fun
  | [d1, d2, d3, d4, d5] => { results := [.lit (.bool false)], args := [d1, d2, d3, d4, d5] }
  | _ => none }
def DuesEndsWrongFalsely : Prop := duesEndsRow.holds Tryz.pinned (OpenSpec.ofChange duesEndsWrong)

/-- 'sennetlaw06.DuesDebts': WHATEVER THE INPUT: true; the input reads as it did. -/
def duesDebtsSpec : ChangeSpec := { name := "duesDebts", fn := fun _ => fun
  | [d1, d2, d3, d4, d5, d6] => { results := [.lit (.bool true)], args := [d1, d2, d3, d4, d5, d6] }
  | _ => none }
def duesDebtsRow : OpenClaim := { program := "ytcnbpfecgokhiaagreatdoor", sum := "21da9028e28362e6c20d89a23f44db94d533030bd080c25376732d50a722de95", func := "sennet/sennetlaw06.DuesDebts", spec := "duesDebts", unfollowed := true, recurses := true, named := ["internal/strconv.uint64pow10", "math/bits.deBruijn32tab", "math/bits.deBruijn64tab"], plainKeys := false, apart := false, laid := [("math/bits.deBruijn32tab", laid_math_bits_deBruijn32tab), ("math/bits.deBruijn64tab", laid_math_bits_deBruijn64tab), ("internal/strconv.uint64pow10", laid_internal_strconv_uint64pow10)] }
def DuesDebtsSaid : Prop := duesDebtsRow.holds Tryz.pinned (OpenSpec.ofChange duesDebtsSpec)

/-- ITS FALSE NEIGHBOUR: 'it returns false'. Refute it at one input. -/
def duesDebtsWrong : ChangeSpec := { name := "duesDebts", fn := fun _ => fun
  | [d1, d2, d3, d4, d5, d6] => { results := [.lit (.bool false)], args := [d1, d2, d3, d4, d5, d6] }
  | _ => none }
def DuesDebtsWrongFalsely : Prop := duesDebtsRow.holds Tryz.pinned (OpenSpec.ofChange duesDebtsWrong)

/-- 'sennetlaw06.DuesCovers': WHATEVER THE INPUT: true; the input reads as it did. -/
def duesCoversSpec : ChangeSpec := { name := "duesCovers", fn := fun _ => fun
  | [d1, d2, d3, d4, d5] => { results := [.lit (.bool true)], args := [d1, d2, d3, d4, d5] }
  | _ => none }
def duesCoversRow : OpenClaim := { program := "ytcnbpfecgokhiaagreatdoor", sum := "21da9028e28362e6c20d89a23f44db94d533030bd080c25376732d50a722de95", func := "sennet/sennetlaw06.DuesCovers", spec := "duesCovers", unfollowed := true, recurses := true, named := ["internal/strconv.uint64pow10", "math/bits.deBruijn32tab", "math/bits.deBruijn64tab"], plainKeys := false, apart := false, laid := [("math/bits.deBruijn32tab", laid_math_bits_deBruijn32tab), ("math/bits.deBruijn64tab", laid_math_bits_deBruijn64tab), ("internal/strconv.uint64pow10", laid_internal_strconv_uint64pow10)] }
def DuesCoversSaid : Prop := duesCoversRow.holds Tryz.pinned (OpenSpec.ofChange duesCoversSpec)

/-- ITS FALSE NEIGHBOUR: 'it returns false'. Refute it at one input. -/
def duesCoversWrong : ChangeSpec := { name := "duesCovers", fn := fun _ => fun
  | [d1, d2, d3, d4, d5] => { results := [.lit (.bool false)], args := [d1, d2, d3, d4, d5] }
  | _ => none }
def DuesCoversWrongFalsely : Prop := duesCoversRow.holds Tryz.pinned (OpenSpec.ofChange duesCoversWrong)

/-- 'sennetlaw06.DuesReturns': WHATEVER THE INPUT: true; the input reads as it did. -/
def duesReturnsSpec : ChangeSpec := { name := "duesReturns", fn := fun _ => fun
  | [d1, d2, d3, d4, d5] => { results := [.lit (.bool true)], args := [d1, d2, d3, d4, d5] }
  | _ => none }
def duesReturnsRow : OpenClaim := { program := "ytcnbpfecgokhiaagreatdoor", sum := "21da9028e28362e6c20d89a23f44db94d533030bd080c25376732d50a722de95", func := "sennet/sennetlaw06.DuesReturns", spec := "duesReturns", unfollowed := true, recurses := true, named := ["internal/strconv.uint64pow10", "math/bits.deBruijn32tab", "math/bits.deBruijn64tab"], plainKeys := false, apart := false, laid := [("math/bits.deBruijn32tab", laid_math_bits_deBruijn32tab), ("math/bits.deBruijn64tab", laid_math_bits_deBruijn64tab), ("internal/strconv.uint64pow10", laid_internal_strconv_uint64pow10)] }
def DuesReturnsSaid : Prop := duesReturnsRow.holds Tryz.pinned (OpenSpec.ofChange duesReturnsSpec)

/-- ITS FALSE NEIGHBOUR: 'it returns false'. Refute it at one input. -/
def duesReturnsWrong : ChangeSpec := { name := "duesReturns", fn := fun _ => fun
  | [d1, d2, d3, d4, d5] => { results := [.lit (.bool false)], args := [d1, d2, d3, d4, d5] }
  | _ => none }
def DuesReturnsWrongFalsely : Prop := duesReturnsRow.holds Tryz.pinned (OpenSpec.ofChange duesReturnsWrong)

/-- 'sennetlaw06.DuesPower': WHATEVER THE INPUT: true; the input reads as it did. -/
def duesPowerSpec : ChangeSpec := { name := "duesPower", fn := fun _ => fun
  | [d1, d2, d3] => { results := [.lit (.bool true)], args := [d1, d2, d3] }
  | _ => none }
def duesPowerRow : OpenClaim := { program := "ytcnbpfecgokhiaagreatdoor", sum := "21da9028e28362e6c20d89a23f44db94d533030bd080c25376732d50a722de95", func := "sennet/sennetlaw06.DuesPower", spec := "duesPower", unfollowed := true, recurses := true, named := ["internal/strconv.uint64pow10", "math/bits.deBruijn32tab", "math/bits.deBruijn64tab"], plainKeys := false, apart := false, laid := [("math/bits.deBruijn32tab", laid_math_bits_deBruijn32tab), ("math/bits.deBruijn64tab", laid_math_bits_deBruijn64tab), ("internal/strconv.uint64pow10", laid_internal_strconv_uint64pow10)] }
def DuesPowerSaid : Prop := duesPowerRow.holds Tryz.pinned (OpenSpec.ofChange duesPowerSpec)

/-- ITS FALSE NEIGHBOUR: 'it returns false'. Refute it at one input. -/
def duesPowerWrong : ChangeSpec := { name := "duesPower", fn := fun _ => fun
  | [d1, d2, d3] => { results := [.lit (.bool false)], args := [d1, d2, d3] }
  | _ => none }
def DuesPowerWrongFalsely : Prop := duesPowerRow.holds Tryz.pinned (OpenSpec.ofChange duesPowerWrong)

/-- 'sennetlaw06.DuesSecret': WHATEVER THE INPUT: true; the input reads as it did. -/
def duesSecretSpec : ChangeSpec := { name := "duesSecret", fn := fun _ => fun
  | [d1, d2, d3, d4] => { results := [.lit (.bool true)], args := [d1, d2, d3, d4] }
  | _ => none }
def duesSecretRow : OpenClaim := { program := "ytcnbpfecgokhiaagreatdoor", sum := "21da9028e28362e6c20d89a23f44db94d533030bd080c25376732d50a722de95", func := "sennet/sennetlaw06.DuesSecret", spec := "duesSecret", unfollowed := true, recurses := true, named := ["internal/strconv.uint64pow10", "math/bits.deBruijn32tab", "math/bits.deBruijn64tab"], plainKeys := false, apart := false, laid := [("math/bits.deBruijn32tab", laid_math_bits_deBruijn32tab), ("math/bits.deBruijn64tab", laid_math_bits_deBruijn64tab), ("internal/strconv.uint64pow10", laid_internal_strconv_uint64pow10)] }
def DuesSecretSaid : Prop := duesSecretRow.holds Tryz.pinned (OpenSpec.ofChange duesSecretSpec)

/-- ITS FALSE NEIGHBOUR: 'it returns false'. Refute it at one input. -/
def duesSecretWrong : ChangeSpec := { name := "duesSecret", fn := fun _ => fun
  | [d1, d2, d3, d4] => { results := [.lit (.bool false)], args := [d1, d2, d3, d4] }
  | _ => none }
def DuesSecretWrongFalsely : Prop := duesSecretRow.holds Tryz.pinned (OpenSpec.ofChange duesSecretWrong)

/-- 'sennetlaw06.DuesTime': WHATEVER THE INPUT: true; the input reads as it did. -/
def duesTimeSpec : ChangeSpec := { name := "duesTime", fn := fun _ => fun
  | [d1, d2, d3, d4, d5, d6, d7] => { results := [.lit (.bool true)], args := [d1, d2, d3, d4, d5, d6, d7] }
  | _ => none }
def duesTimeRow : OpenClaim := { program := "ytcnbpfecgokhiaagreatdoor", sum := "21da9028e28362e6c20d89a23f44db94d533030bd080c25376732d50a722de95", func := "sennet/sennetlaw06.DuesTime", spec := "duesTime", unfollowed := true, recurses := true, named := ["internal/strconv.uint64pow10", "math/bits.deBruijn32tab", "math/bits.deBruijn64tab"], plainKeys := false, apart := false, laid := [("math/bits.deBruijn32tab", laid_math_bits_deBruijn32tab), ("math/bits.deBruijn64tab", laid_math_bits_deBruijn64tab), ("internal/strconv.uint64pow10", laid_internal_strconv_uint64pow10)] }
def DuesTimeSaid : Prop := duesTimeRow.holds Tryz.pinned (OpenSpec.ofChange duesTimeSpec)

/-- ITS FALSE NEIGHBOUR: 'it returns false'. Refute it at one input. -/
def duesTimeWrong : ChangeSpec := { name := "duesTime", fn := fun _ => fun
  | [d1, d2, d3, d4, d5, d6, d7] => { results := [.lit (.bool false)], args := [d1, d2, d3, d4, d5, d6, d7] }
  | _ => none }
def DuesTimeWrongFalsely : Prop := duesTimeRow.holds Tryz.pinned (OpenSpec.ofChange duesTimeWrong)

/-- 'sennetlaw06.DuesAsks': WHATEVER THE INPUT: true; the input reads as it did. -/
def duesAsksSpec : ChangeSpec := { name := "duesAsks", fn := fun _ => fun
  | [d1, d2, d3, d4, d5, d6] => { results := [.lit (.bool true)], args := [d1, d2, d3, d4, d5, d6] }
  | _ => none }
def duesAsksRow : OpenClaim := { program := "ytcnbpfecgokhiaagreatdoor", sum := "21da9028e28362e6c20d89a23f44db94d533030bd080c25376732d50a722de95", func := "sennet/sennetlaw06.DuesAsks", spec := "duesAsks", unfollowed := true, recurses := true, named := ["internal/strconv.uint64pow10", "math/bits.deBruijn32tab", "math/bits.deBruijn64tab"], plainKeys := false, apart := false, laid := [("math/bits.deBruijn32tab", laid_math_bits_deBruijn32tab), ("math/bits.deBruijn64tab", laid_math_bits_deBruijn64tab), ("internal/strconv.uint64pow10", laid_internal_strconv_uint64pow10)] }
def DuesAsksSaid : Prop := duesAsksRow.holds Tryz.pinned (OpenSpec.ofChange duesAsksSpec)

/-- ITS FALSE NEIGHBOUR: 'it returns false'. Refute it at one input. -/
def duesAsksWrong : ChangeSpec := { name := "duesAsks", fn := fun _ => fun
  | [d1, d2, d3, d4, d5, d6] => { results := [.lit (.bool false)], args := [d1, d2, d3, d4, d5, d6] }
  | _ => none }
def DuesAsksWrongFalsely : Prop := duesAsksRow.holds Tryz.pinned (OpenSpec.ofChange duesAsksWrong)

/-- 'sennetlaw06.DuesNil': WHATEVER THE INPUT: true; the input reads as it did. -/
def duesNilSpec : ChangeSpec := { name := "duesNil", fn := fun _ => fun
  | [d1, d2, d3, d4, d5, d6] => { results := [.lit (.bool true)], args := [d1, d2, d3, d4, d5, d6] }
  | _ => none }
def duesNilRow : OpenClaim := { program := "ytcnbpfecgokhiaagreatdoor", sum := "21da9028e28362e6c20d89a23f44db94d533030bd080c25376732d50a722de95", func := "sennet/sennetlaw06.DuesNil", spec := "duesNil", unfollowed := true, recurses := true, named := ["internal/strconv.uint64pow10", "math/bits.deBruijn32tab", "math/bits.deBruijn64tab"], plainKeys := false, apart := false, laid := [("math/bits.deBruijn32tab", laid_math_bits_deBruijn32tab), ("math/bits.deBruijn64tab", laid_math_bits_deBruijn64tab), ("internal/strconv.uint64pow10", laid_internal_strconv_uint64pow10)] }
def DuesNilSaid : Prop := duesNilRow.holds Tryz.pinned (OpenSpec.ofChange duesNilSpec)

/-- ITS FALSE NEIGHBOUR: 'it returns false'. Refute it at one input. -/
def duesNilWrong : ChangeSpec := { name := "duesNil", fn := fun _ => fun
  | [d1, d2, d3, d4, d5, d6] => { results := [.lit (.bool false)], args := [d1, d2, d3, d4, d5, d6] }
  | _ => none }
def DuesNilWrongFalsely : Prop := duesNilRow.holds Tryz.pinned (OpenSpec.ofChange duesNilWrong)

/-- 'sennetlaw06.DuesLines': WHATEVER THE INPUT: true; the input reads as it did. -/
def duesLinesSpec : ChangeSpec := { name := "duesLines", fn := fun _ => fun
  | [d1, d2] => { results := [.lit (.bool true)], args := [d1, d2] }
  | _ => none }
def duesLinesRow : OpenClaim := { program := "ytcnbpfecgokhiaagreatdoor", sum := "21da9028e28362e6c20d89a23f44db94d533030bd080c25376732d50a722de95", func := "sennet/sennetlaw06.DuesLines", spec := "duesLines", inPlace := ["internal/bytealg.IndexByteString", "internal/bytealg.IndexString"], unfollowed := true, recurses := true, named := ["internal/strconv.uint64pow10", "math/bits.deBruijn32tab", "math/bits.deBruijn64tab", "internal/bytealg.MaxLen", "strconv.ErrSyntax", "strconv.ErrRange"], plainKeys := false, apart := false, laid := [("math/bits.deBruijn32tab", laid_math_bits_deBruijn32tab), ("math/bits.deBruijn64tab", laid_math_bits_deBruijn64tab), ("internal/strconv.uint64pow10", laid_internal_strconv_uint64pow10), ("strconv.ErrRange", laid_strconv_ErrRange), ("strconv.ErrSyntax", laid_strconv_ErrSyntax)] }
def DuesLinesSaid : Prop := duesLinesRow.holds Tryz.pinned (OpenSpec.ofChange duesLinesSpec)

/-- ITS FALSE NEIGHBOUR: 'it returns false'. Refute it at one input. -/
def duesLinesWrong : ChangeSpec := { name := "duesLines", fn := fun _ => fun
  | [d1, d2] => { results := [.lit (.bool false)], args := [d1, d2] }
  | _ => none }
def DuesLinesWrongFalsely : Prop := duesLinesRow.holds Tryz.pinned (OpenSpec.ofChange duesLinesWrong)

/- THE SECOND FORM. 'bulk': how many values and letters a reading holds, each counted each time it is reached (what is shared counts as often as it is met; a slice's spare places count too). A statement '..UptoSaid' is the law's where the arguments, and the package variables that the reading takes, are together of bulk at most 1048576: NARROWER than '..Said'. Prove '..Said' where nothing that the law and all that it calls make is longer than what came in: it says more and counts as full. Else prove '..UptoSaid'. A law counts once. -/
mutual
def uptoBulk {H : Type} : DataW H → Nat
  | .lit (.string bytes) => bytes.length + 1
  | .lit _ => 1
  | .nil => 1
  | .ptr d => uptoBulk d + 1
  | .slice elems spare => uptoBulkAll elems + uptoBulkAll spare + 1
  | .agg parts => uptoBulkAll parts + 1
  | .iface _ d => uptoBulk d + 1
  | .map entries => uptoBulkEntries entries + 1
  | .held _ => 1
def uptoBulkAll {H : Type} : List (DataW H) → Nat
  | [] => 0
  | d :: r => uptoBulk d + uptoBulkAll r
def uptoBulkEntries {H : Type} : List (Lit × DataW H) → Nat
  | [] => 0
  | x :: r => uptoBulkEntry x + uptoBulkEntries r
def uptoBulkEntry {H : Type} : Lit × DataW H → Nat
  | (.string bytes, d) => bytes.length + uptoBulk d + 1
  | (_, d) => uptoBulk d + 1
 end
def uptoSmall : (H : Type) → List (DataW H) → Bool := fun _ ds => decide (uptoBulkAll ds ≤ 1048576)
def OpenSpec.upto (s : _root_.Go.ChangeSpec) : _root_.Go.OpenSpec := { _root_.Go.OpenSpec.ofChange s with cond := some uptoSmall }

/-- 'sennetlaw06.DuesRuns', WHERE WHAT IT READS IS OF BULK AT MOST 1048576: true; the input reads as it did. -/
def duesRunsUptoRow : OpenClaim := { program := "ytcnbpfecgokhiaagreatdoor", sum := "21da9028e28362e6c20d89a23f44db94d533030bd080c25376732d50a722de95", func := "sennet/sennetlaw06.DuesRuns", spec := "duesRuns", unfollowed := true, recurses := true, named := ["internal/strconv.uint64pow10", "math/bits.deBruijn32tab", "math/bits.deBruijn64tab"], plainKeys := false, apart := false, laid := [("math/bits.deBruijn32tab", laid_math_bits_deBruijn32tab), ("math/bits.deBruijn64tab", laid_math_bits_deBruijn64tab), ("internal/strconv.uint64pow10", laid_internal_strconv_uint64pow10)], narrowed := true }
def DuesRunsUptoSaid : Prop := duesRunsUptoRow.holds Tryz.pinned (OpenSpec.upto duesRunsSpec)

/-- 'sennetlaw06.DuesReplays', WHERE WHAT IT READS IS OF BULK AT MOST 1048576: true; the input reads as it did. -/
def duesReplaysUptoRow : OpenClaim := { program := "ytcnbpfecgokhiaagreatdoor", sum := "21da9028e28362e6c20d89a23f44db94d533030bd080c25376732d50a722de95", func := "sennet/sennetlaw06.DuesReplays", spec := "duesReplays", unfollowed := true, recurses := true, named := ["internal/strconv.uint64pow10", "math/bits.deBruijn32tab", "math/bits.deBruijn64tab"], plainKeys := false, apart := false, laid := [("math/bits.deBruijn32tab", laid_math_bits_deBruijn32tab), ("math/bits.deBruijn64tab", laid_math_bits_deBruijn64tab), ("internal/strconv.uint64pow10", laid_internal_strconv_uint64pow10)], narrowed := true }
def DuesReplaysUptoSaid : Prop := duesReplaysUptoRow.holds Tryz.pinned (OpenSpec.upto duesReplaysSpec)

/-- 'sennetlaw06.DuesEnds', WHERE WHAT IT READS IS OF BULK AT MOST 1048576: true; the input reads as it did. -/
def duesEndsUptoRow : OpenClaim := { program := "ytcnbpfecgokhiaagreatdoor", sum := "21da9028e28362e6c20d89a23f44db94d533030bd080c25376732d50a722de95", func := "sennet/sennetlaw06.DuesEnds", spec := "duesEnds", unfollowed := true, recurses := true, named := ["internal/strconv.uint64pow10", "math/bits.deBruijn32tab", "math/bits.deBruijn64tab"], plainKeys := false, apart := false, laid := [("math/bits.deBruijn32tab", laid_math_bits_deBruijn32tab), ("math/bits.deBruijn64tab", laid_math_bits_deBruijn64tab), ("internal/strconv.uint64pow10", laid_internal_strconv_uint64pow10)], narrowed := true }
def DuesEndsUptoSaid : Prop := duesEndsUptoRow.holds Tryz.pinned (OpenSpec.upto duesEndsSpec)

/-- 'sennetlaw06.DuesDebts', WHERE WHAT IT READS IS OF BULK AT MOST 1048576: true; the input reads as it did. -/
def duesDebtsUptoRow : OpenClaim := { program := "ytcnbpfecgokhiaagreatdoor", sum := "21da9028e28362e6c20d89a23f44db94d533030bd080c25376732d50a722de95", func := "sennet/sennetlaw06.DuesDebts", spec := "duesDebts", unfollowed := true, recurses := true, named := ["internal/strconv.uint64pow10", "math/bits.deBruijn32tab", "math/bits.deBruijn64tab"], plainKeys := false, apart := false, laid := [("math/bits.deBruijn32tab", laid_math_bits_deBruijn32tab), ("math/bits.deBruijn64tab", laid_math_bits_deBruijn64tab), ("internal/strconv.uint64pow10", laid_internal_strconv_uint64pow10)], narrowed := true }
def DuesDebtsUptoSaid : Prop := duesDebtsUptoRow.holds Tryz.pinned (OpenSpec.upto duesDebtsSpec)

/-- 'sennetlaw06.DuesCovers', WHERE WHAT IT READS IS OF BULK AT MOST 1048576: true; the input reads as it did. -/
def duesCoversUptoRow : OpenClaim := { program := "ytcnbpfecgokhiaagreatdoor", sum := "21da9028e28362e6c20d89a23f44db94d533030bd080c25376732d50a722de95", func := "sennet/sennetlaw06.DuesCovers", spec := "duesCovers", unfollowed := true, recurses := true, named := ["internal/strconv.uint64pow10", "math/bits.deBruijn32tab", "math/bits.deBruijn64tab"], plainKeys := false, apart := false, laid := [("math/bits.deBruijn32tab", laid_math_bits_deBruijn32tab), ("math/bits.deBruijn64tab", laid_math_bits_deBruijn64tab), ("internal/strconv.uint64pow10", laid_internal_strconv_uint64pow10)], narrowed := true }
def DuesCoversUptoSaid : Prop := duesCoversUptoRow.holds Tryz.pinned (OpenSpec.upto duesCoversSpec)

/-- 'sennetlaw06.DuesReturns', WHERE WHAT IT READS IS OF BULK AT MOST 1048576: true; the input reads as it did. -/
def duesReturnsUptoRow : OpenClaim := { program := "ytcnbpfecgokhiaagreatdoor", sum := "21da9028e28362e6c20d89a23f44db94d533030bd080c25376732d50a722de95", func := "sennet/sennetlaw06.DuesReturns", spec := "duesReturns", unfollowed := true, recurses := true, named := ["internal/strconv.uint64pow10", "math/bits.deBruijn32tab", "math/bits.deBruijn64tab"], plainKeys := false, apart := false, laid := [("math/bits.deBruijn32tab", laid_math_bits_deBruijn32tab), ("math/bits.deBruijn64tab", laid_math_bits_deBruijn64tab), ("internal/strconv.uint64pow10", laid_internal_strconv_uint64pow10)], narrowed := true }
def DuesReturnsUptoSaid : Prop := duesReturnsUptoRow.holds Tryz.pinned (OpenSpec.upto duesReturnsSpec)

/-- 'sennetlaw06.DuesPower', WHERE WHAT IT READS IS OF BULK AT MOST 1048576: true; the input reads as it did. -/
def duesPowerUptoRow : OpenClaim := { program := "ytcnbpfecgokhiaagreatdoor", sum := "21da9028e28362e6c20d89a23f44db94d533030bd080c25376732d50a722de95", func := "sennet/sennetlaw06.DuesPower", spec := "duesPower", unfollowed := true, recurses := true, named := ["internal/strconv.uint64pow10", "math/bits.deBruijn32tab", "math/bits.deBruijn64tab"], plainKeys := false, apart := false, laid := [("math/bits.deBruijn32tab", laid_math_bits_deBruijn32tab), ("math/bits.deBruijn64tab", laid_math_bits_deBruijn64tab), ("internal/strconv.uint64pow10", laid_internal_strconv_uint64pow10)], narrowed := true }
def DuesPowerUptoSaid : Prop := duesPowerUptoRow.holds Tryz.pinned (OpenSpec.upto duesPowerSpec)

/-- 'sennetlaw06.DuesSecret', WHERE WHAT IT READS IS OF BULK AT MOST 1048576: true; the input reads as it did. -/
def duesSecretUptoRow : OpenClaim := { program := "ytcnbpfecgokhiaagreatdoor", sum := "21da9028e28362e6c20d89a23f44db94d533030bd080c25376732d50a722de95", func := "sennet/sennetlaw06.DuesSecret", spec := "duesSecret", unfollowed := true, recurses := true, named := ["internal/strconv.uint64pow10", "math/bits.deBruijn32tab", "math/bits.deBruijn64tab"], plainKeys := false, apart := false, laid := [("math/bits.deBruijn32tab", laid_math_bits_deBruijn32tab), ("math/bits.deBruijn64tab", laid_math_bits_deBruijn64tab), ("internal/strconv.uint64pow10", laid_internal_strconv_uint64pow10)], narrowed := true }
def DuesSecretUptoSaid : Prop := duesSecretUptoRow.holds Tryz.pinned (OpenSpec.upto duesSecretSpec)

/-- 'sennetlaw06.DuesTime', WHERE WHAT IT READS IS OF BULK AT MOST 1048576: true; the input reads as it did. -/
def duesTimeUptoRow : OpenClaim := { program := "ytcnbpfecgokhiaagreatdoor", sum := "21da9028e28362e6c20d89a23f44db94d533030bd080c25376732d50a722de95", func := "sennet/sennetlaw06.DuesTime", spec := "duesTime", unfollowed := true, recurses := true, named := ["internal/strconv.uint64pow10", "math/bits.deBruijn32tab", "math/bits.deBruijn64tab"], plainKeys := false, apart := false, laid := [("math/bits.deBruijn32tab", laid_math_bits_deBruijn32tab), ("math/bits.deBruijn64tab", laid_math_bits_deBruijn64tab), ("internal/strconv.uint64pow10", laid_internal_strconv_uint64pow10)], narrowed := true }
def DuesTimeUptoSaid : Prop := duesTimeUptoRow.holds Tryz.pinned (OpenSpec.upto duesTimeSpec)

/-- 'sennetlaw06.DuesAsks', WHERE WHAT IT READS IS OF BULK AT MOST 1048576: true; the input reads as it did. -/
def duesAsksUptoRow : OpenClaim := { program := "ytcnbpfecgokhiaagreatdoor", sum := "21da9028e28362e6c20d89a23f44db94d533030bd080c25376732d50a722de95", func := "sennet/sennetlaw06.DuesAsks", spec := "duesAsks", unfollowed := true, recurses := true, named := ["internal/strconv.uint64pow10", "math/bits.deBruijn32tab", "math/bits.deBruijn64tab"], plainKeys := false, apart := false, laid := [("math/bits.deBruijn32tab", laid_math_bits_deBruijn32tab), ("math/bits.deBruijn64tab", laid_math_bits_deBruijn64tab), ("internal/strconv.uint64pow10", laid_internal_strconv_uint64pow10)], narrowed := true }
def DuesAsksUptoSaid : Prop := duesAsksUptoRow.holds Tryz.pinned (OpenSpec.upto duesAsksSpec)

/-- 'sennetlaw06.DuesNil', WHERE WHAT IT READS IS OF BULK AT MOST 1048576: true; the input reads as it did. -/
def duesNilUptoRow : OpenClaim := { program := "ytcnbpfecgokhiaagreatdoor", sum := "21da9028e28362e6c20d89a23f44db94d533030bd080c25376732d50a722de95", func := "sennet/sennetlaw06.DuesNil", spec := "duesNil", unfollowed := true, recurses := true, named := ["internal/strconv.uint64pow10", "math/bits.deBruijn32tab", "math/bits.deBruijn64tab"], plainKeys := false, apart := false, laid := [("math/bits.deBruijn32tab", laid_math_bits_deBruijn32tab), ("math/bits.deBruijn64tab", laid_math_bits_deBruijn64tab), ("internal/strconv.uint64pow10", laid_internal_strconv_uint64pow10)], narrowed := true }
def DuesNilUptoSaid : Prop := duesNilUptoRow.holds Tryz.pinned (OpenSpec.upto duesNilSpec)

/-- 'sennetlaw06.DuesLines', WHERE WHAT IT READS IS OF BULK AT MOST 1048576: true; the input reads as it did. -/
def duesLinesUptoRow : OpenClaim := { program := "ytcnbpfecgokhiaagreatdoor", sum := "21da9028e28362e6c20d89a23f44db94d533030bd080c25376732d50a722de95", func := "sennet/sennetlaw06.DuesLines", spec := "duesLines", inPlace := ["internal/bytealg.IndexByteString", "internal/bytealg.IndexString"], unfollowed := true, recurses := true, named := ["internal/strconv.uint64pow10", "math/bits.deBruijn32tab", "math/bits.deBruijn64tab", "internal/bytealg.MaxLen", "strconv.ErrSyntax", "strconv.ErrRange"], plainKeys := false, apart := false, laid := [("math/bits.deBruijn32tab", laid_math_bits_deBruijn32tab), ("math/bits.deBruijn64tab", laid_math_bits_deBruijn64tab), ("internal/strconv.uint64pow10", laid_internal_strconv_uint64pow10), ("strconv.ErrRange", laid_strconv_ErrRange), ("strconv.ErrSyntax", laid_strconv_ErrSyntax)], narrowed := true }
def DuesLinesUptoSaid : Prop := duesLinesUptoRow.holds Tryz.pinned (OpenSpec.upto duesLinesSpec)

end Rows
end Go.Proofs.YtcnbpfecgokhiaaGreatDoor
