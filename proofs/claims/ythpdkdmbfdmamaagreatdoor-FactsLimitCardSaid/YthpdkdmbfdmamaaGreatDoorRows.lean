/-
  NARROWER THAN 'FOR EVERY INPUT', by the rows' own cells (each row's printed sentence says how): FactsCheck: laid · FactsLimit: laid · FactsAppends: laid · FactsKnown: laid · FactsLines: laid · FactsAt: laid · FactsTurns: laid · FactsVoids: laid · FactsCorrects: laid · FactsStates: laid · FactsPairs: laid · FactsOffices: laid · FactsClasses: laid · FactsPersons: laid · FactsClocks: laid · FactsStill: laid · FactsMemory: laid.
  DERIVED. THE GIVEN ROWS OF THIS SEAT. 17 by the template 'for every input the law returns true; each argument reads behind the call as it read before'; 0 by the template 'total and deterministic' (their statements: YthpdkdmbfdmamaaGreatDoorTotals.lean).
  GIVEN WITH THE SEED: the statements are not yours to turn. If you find one false, say at which input.
  Laid BY PROGRAM, IN A SANDBOX (cutbox-rows.mjs): the forced cells as the released guide's own fill.sh prints them over the translation 475924cfedd9a07d… (all of the seat's roots in one cut). By AI agents, Wed Nov 11 2026. No macro, syntax, notation, axiom, sorry.
-/
import Derived.Test.YthpdkdmbfdmamaaGreatDoorChecked
import GoSem.Claim
import GoSem.ClaimJoined
import GoSem.ClaimMapViews
import Derived.JoinedTies
import Derived.KernelRfl
namespace Go.Proofs.YthpdkdmbfdmamaaGreatDoor
/- THE CELL 'sum', in the pinned program and in every row, IS THE sha256 OF THE DUMP (.gsa) THAT YthpdkdmbfdmamaaGreatDoorProg.lean LOADS. Nothing in Lean hashes anything: it is a label: what it is worth is what the hold of that sum in a sandbox is worth. -/
noncomputable def Tryz.pinned : Pinned := { name := "ythpdkdmbfdmamaagreatdoor", sum := "475924cfedd9a07d4728405c9ecfffbfbd80efb96e7c982f10fdc94e59a4054d", checked := Tryz.checked }
namespace Rows
def none {H : Type} : Left H := { results := [], args := [] }

/- WHAT THE LISTED PACKAGE-LEVEL VARIABLES READ AS WHEN THE CALL BEGINS. Each datum BY PROGRAM (the guide's laid-datum.mjs) off the statement by which the dump's own 'gosem.cut.vars' lays the variable. In a bare row this is a premise. The card (YthpdkdmbfdmamaaGreatDoorCards.lean) ties it to the program's text. -/
def laid_math_bits_deBruijn32tab {H : Type} : DataW H := .agg [.lit (.int .u8 0), .lit (.int .u8 1), .lit (.int .u8 28), .lit (.int .u8 2), .lit (.int .u8 29), .lit (.int .u8 14), .lit (.int .u8 24), .lit (.int .u8 3), .lit (.int .u8 30), .lit (.int .u8 22), .lit (.int .u8 20), .lit (.int .u8 15), .lit (.int .u8 25), .lit (.int .u8 17), .lit (.int .u8 4), .lit (.int .u8 8), .lit (.int .u8 31), .lit (.int .u8 27), .lit (.int .u8 13), .lit (.int .u8 23), .lit (.int .u8 21), .lit (.int .u8 19), .lit (.int .u8 16), .lit (.int .u8 7), .lit (.int .u8 26), .lit (.int .u8 12), .lit (.int .u8 18), .lit (.int .u8 6), .lit (.int .u8 11), .lit (.int .u8 5), .lit (.int .u8 10), .lit (.int .u8 9)]
def laid_math_bits_deBruijn64tab {H : Type} : DataW H := .agg [.lit (.int .u8 0), .lit (.int .u8 1), .lit (.int .u8 56), .lit (.int .u8 2), .lit (.int .u8 57), .lit (.int .u8 49), .lit (.int .u8 28), .lit (.int .u8 3), .lit (.int .u8 61), .lit (.int .u8 58), .lit (.int .u8 42), .lit (.int .u8 50), .lit (.int .u8 38), .lit (.int .u8 29), .lit (.int .u8 17), .lit (.int .u8 4), .lit (.int .u8 62), .lit (.int .u8 47), .lit (.int .u8 59), .lit (.int .u8 36), .lit (.int .u8 45), .lit (.int .u8 43), .lit (.int .u8 51), .lit (.int .u8 22), .lit (.int .u8 53), .lit (.int .u8 39), .lit (.int .u8 33), .lit (.int .u8 30), .lit (.int .u8 24), .lit (.int .u8 18), .lit (.int .u8 12), .lit (.int .u8 5), .lit (.int .u8 63), .lit (.int .u8 55), .lit (.int .u8 48), .lit (.int .u8 27), .lit (.int .u8 60), .lit (.int .u8 41), .lit (.int .u8 37), .lit (.int .u8 16), .lit (.int .u8 46), .lit (.int .u8 35), .lit (.int .u8 44), .lit (.int .u8 21), .lit (.int .u8 52), .lit (.int .u8 32), .lit (.int .u8 23), .lit (.int .u8 11), .lit (.int .u8 54), .lit (.int .u8 26), .lit (.int .u8 40), .lit (.int .u8 15), .lit (.int .u8 34), .lit (.int .u8 20), .lit (.int .u8 31), .lit (.int .u8 10), .lit (.int .u8 25), .lit (.int .u8 14), .lit (.int .u8 19), .lit (.int .u8 9), .lit (.int .u8 13), .lit (.int .u8 8), .lit (.int .u8 7), .lit (.int .u8 6)]
def laid_internal_strconv_uint64pow10 {H : Type} : DataW H := .agg [.lit (.int .u64 1), .lit (.int .u64 10), .lit (.int .u64 100), .lit (.int .u64 1000), .lit (.int .u64 10000), .lit (.int .u64 100000), .lit (.int .u64 1000000), .lit (.int .u64 10000000), .lit (.int .u64 100000000), .lit (.int .u64 1000000000), .lit (.int .u64 10000000000), .lit (.int .u64 100000000000), .lit (.int .u64 1000000000000), .lit (.int .u64 10000000000000), .lit (.int .u64 100000000000000), .lit (.int .u64 1000000000000000), .lit (.int .u64 10000000000000000), .lit (.int .u64 100000000000000000), .lit (.int .u64 1000000000000000000), .lit (.int .u64 10000000000000000000)]
def laid_strconv_ErrRange {H : Type} : DataW H := .iface "*errors.errorString" (.ptr (.agg [.lit (.string [118, 97, 108, 117, 101, 32, 111, 117, 116, 32, 111, 102, 32, 114, 97, 110, 103, 101])]))
def laid_strconv_ErrSyntax {H : Type} : DataW H := .iface "*errors.errorString" (.ptr (.agg [.lit (.string [105, 110, 118, 97, 108, 105, 100, 32, 115, 121, 110, 116, 97, 120])]))

/-- 'sennetlaw01.FactsCheck': WHATEVER THE INPUT: true; the input reads as it did. -/
def factsCheckSpec : ChangeSpec := { name := "factsCheck", fn := fun _ => fun
  | [d] => { results := [.lit (.bool true)], args := [d] }
  | _ => none }
def factsCheckRow : OpenClaim := { program := "ythpdkdmbfdmamaagreatdoor", sum := "475924cfedd9a07d4728405c9ecfffbfbd80efb96e7c982f10fdc94e59a4054d", func := "sennet/sennetlaw01.FactsCheck", spec := "factsCheck", inPlace := ["internal/bytealg.IndexByteString", "internal/bytealg.IndexString", "internal/abi.NoEscape", "internal/bytealg.MakeNoZero"], unfollowed := true, recurses := true, named := ["internal/bytealg.MaxLen", "strconv.ErrSyntax", "strconv.ErrRange", "internal/strconv.uint64pow10", "math/bits.deBruijn32tab", "math/bits.deBruijn64tab"], apart := false, laid := [("math/bits.deBruijn32tab", laid_math_bits_deBruijn32tab), ("math/bits.deBruijn64tab", laid_math_bits_deBruijn64tab), ("internal/strconv.uint64pow10", laid_internal_strconv_uint64pow10), ("strconv.ErrRange", laid_strconv_ErrRange), ("strconv.ErrSyntax", laid_strconv_ErrSyntax)] }
def FactsCheckSaid : Prop := factsCheckRow.holds Tryz.pinned (OpenSpec.ofChange factsCheckSpec)

/-- ITS FALSE NEIGHBOUR: 'it returns false'. Refute it at one input. -/
def factsCheckWrong : ChangeSpec := { name := "factsCheck", fn := fun _ => fun
  | [d] => { results := [.lit (.bool false)], args := [d] }
  | _ => none }
def FactsCheckWrongFalsely : Prop := factsCheckRow.holds Tryz.pinned (OpenSpec.ofChange factsCheckWrong)

/-- 'sennetlaw01.FactsLimit': WHATEVER THE INPUT: true; the input reads as it did. -/
def factsLimitSpec : ChangeSpec := { name := "factsLimit", fn := fun _ => fun
  | [d1, d2] => { results := [.lit (.bool true)], args := [d1, d2] }
  | _ => none }
def factsLimitRow : OpenClaim := { program := "ythpdkdmbfdmamaagreatdoor", sum := "475924cfedd9a07d4728405c9ecfffbfbd80efb96e7c982f10fdc94e59a4054d", func := "sennet/sennetlaw01.FactsLimit", spec := "factsLimit", inPlace := ["internal/bytealg.IndexByteString", "internal/bytealg.IndexString", "internal/abi.NoEscape", "internal/bytealg.MakeNoZero"], unfollowed := true, recurses := true, named := ["internal/bytealg.MaxLen", "strconv.ErrSyntax", "strconv.ErrRange", "internal/strconv.uint64pow10", "math/bits.deBruijn32tab", "math/bits.deBruijn64tab"], apart := false, laid := [("math/bits.deBruijn32tab", laid_math_bits_deBruijn32tab), ("math/bits.deBruijn64tab", laid_math_bits_deBruijn64tab), ("internal/strconv.uint64pow10", laid_internal_strconv_uint64pow10), ("strconv.ErrRange", laid_strconv_ErrRange), ("strconv.ErrSyntax", laid_strconv_ErrSyntax)] }
def FactsLimitSaid : Prop := factsLimitRow.holds Tryz.pinned (OpenSpec.ofChange factsLimitSpec)

/-- ITS FALSE NEIGHBOUR: 'it returns false'. Refute it at one input. -/
def factsLimitWrong : ChangeSpec := { name := "factsLimit", fn := fun _ => fun
  | [d1, d2] => { results := [.lit (.bool false)], args := [d1, d2] }
  | _ => none }
def FactsLimitWrongFalsely : Prop := factsLimitRow.holds Tryz.pinned (OpenSpec.ofChange factsLimitWrong)

/-- 'sennetlaw01.FactsAppends': WHATEVER THE INPUT: true; the input reads as it did. -/
def factsAppendsSpec : ChangeSpec := { name := "factsAppends", fn := fun _ => fun
  | [d1, d2] => { results := [.lit (.bool true)], args := [d1, d2] }
  | _ => none }
def factsAppendsRow : OpenClaim := { program := "ythpdkdmbfdmamaagreatdoor", sum := "475924cfedd9a07d4728405c9ecfffbfbd80efb96e7c982f10fdc94e59a4054d", func := "sennet/sennetlaw01.FactsAppends", spec := "factsAppends", inPlace := ["internal/bytealg.IndexByteString", "internal/bytealg.IndexString", "internal/abi.NoEscape", "internal/bytealg.MakeNoZero"], unfollowed := true, recurses := true, named := ["internal/bytealg.MaxLen", "strconv.ErrSyntax", "strconv.ErrRange", "internal/strconv.uint64pow10", "math/bits.deBruijn32tab", "math/bits.deBruijn64tab"], apart := false, laid := [("math/bits.deBruijn32tab", laid_math_bits_deBruijn32tab), ("math/bits.deBruijn64tab", laid_math_bits_deBruijn64tab), ("internal/strconv.uint64pow10", laid_internal_strconv_uint64pow10), ("strconv.ErrRange", laid_strconv_ErrRange), ("strconv.ErrSyntax", laid_strconv_ErrSyntax)] }
def FactsAppendsSaid : Prop := factsAppendsRow.holds Tryz.pinned (OpenSpec.ofChange factsAppendsSpec)

/-- ITS FALSE NEIGHBOUR: 'it returns false'. Refute it at one input. -/
def factsAppendsWrong : ChangeSpec := { name := "factsAppends", fn := fun _ => fun
  | [d1, d2] => { results := [.lit (.bool false)], args := [d1, d2] }
  | _ => none }
def FactsAppendsWrongFalsely : Prop := factsAppendsRow.holds Tryz.pinned (OpenSpec.ofChange factsAppendsWrong)

/-- 'sennetlaw01.FactsKnown': WHATEVER THE INPUT: true; the input reads as it did. -/
def factsKnownSpec : ChangeSpec := { name := "factsKnown", fn := fun _ => fun
  | [d1, d2] => { results := [.lit (.bool true)], args := [d1, d2] }
  | _ => none }
def factsKnownRow : OpenClaim := { program := "ythpdkdmbfdmamaagreatdoor", sum := "475924cfedd9a07d4728405c9ecfffbfbd80efb96e7c982f10fdc94e59a4054d", func := "sennet/sennetlaw01.FactsKnown", spec := "factsKnown", inPlace := ["internal/bytealg.IndexByteString", "internal/bytealg.IndexString", "internal/abi.NoEscape", "internal/bytealg.MakeNoZero"], unfollowed := true, recurses := true, named := ["internal/bytealg.MaxLen", "strconv.ErrSyntax", "strconv.ErrRange", "internal/strconv.uint64pow10", "math/bits.deBruijn32tab", "math/bits.deBruijn64tab"], apart := false, laid := [("math/bits.deBruijn32tab", laid_math_bits_deBruijn32tab), ("math/bits.deBruijn64tab", laid_math_bits_deBruijn64tab), ("internal/strconv.uint64pow10", laid_internal_strconv_uint64pow10), ("strconv.ErrRange", laid_strconv_ErrRange), ("strconv.ErrSyntax", laid_strconv_ErrSyntax)] }
def FactsKnownSaid : Prop := factsKnownRow.holds Tryz.pinned (OpenSpec.ofChange factsKnownSpec)

/-- ITS FALSE NEIGHBOUR: 'it returns false'. Refute it at one input. -/
def factsKnownWrong : ChangeSpec := { name := "factsKnown", fn := fun _ => fun
  | [d1, d2] => { results := [.lit (.bool false)], args := [d1, d2] }
  | _ => none }
def FactsKnownWrongFalsely : Prop := factsKnownRow.holds Tryz.pinned (OpenSpec.ofChange factsKnownWrong)

/-- 'sennetlaw01.FactsLines': WHATEVER THE INPUT: true; the input reads as it did. -/
def factsLinesSpec : ChangeSpec := { name := "factsLines", fn := fun _ => fun
  | [d1, d2] => { results := [.lit (.bool true)], args := [d1, d2] }
  | _ => none }
def factsLinesRow : OpenClaim := { program := "ythpdkdmbfdmamaagreatdoor", sum := "475924cfedd9a07d4728405c9ecfffbfbd80efb96e7c982f10fdc94e59a4054d", func := "sennet/sennetlaw01.FactsLines", spec := "factsLines", inPlace := ["internal/abi.NoEscape", "internal/bytealg.MakeNoZero", "internal/bytealg.IndexByteString", "internal/bytealg.IndexString"], unfollowed := true, recurses := true, named := ["internal/strconv.uint64pow10", "math/bits.deBruijn32tab", "math/bits.deBruijn64tab", "internal/bytealg.MaxLen", "strconv.ErrSyntax", "strconv.ErrRange"], apart := false, laid := [("math/bits.deBruijn32tab", laid_math_bits_deBruijn32tab), ("math/bits.deBruijn64tab", laid_math_bits_deBruijn64tab), ("internal/strconv.uint64pow10", laid_internal_strconv_uint64pow10), ("strconv.ErrRange", laid_strconv_ErrRange), ("strconv.ErrSyntax", laid_strconv_ErrSyntax)] }
def FactsLinesSaid : Prop := factsLinesRow.holds Tryz.pinned (OpenSpec.ofChange factsLinesSpec)

/-- ITS FALSE NEIGHBOUR: 'it returns false'. Refute it at one input. -/
def factsLinesWrong : ChangeSpec := { name := "factsLines", fn := fun _ => fun
  | [d1, d2] => { results := [.lit (.bool false)], args := [d1, d2] }
  | _ => none }
def FactsLinesWrongFalsely : Prop := factsLinesRow.holds Tryz.pinned (OpenSpec.ofChange factsLinesWrong)

/-- 'sennetlaw01.FactsAt': WHATEVER THE INPUT: true; the input reads as it did. -/
def factsAtSpec : ChangeSpec := { name := "factsAt", fn := fun _ => fun
  | [d1, d2, d3] => { results := [.lit (.bool true)], args := [d1, d2, d3] }
  | _ => none }
def factsAtRow : OpenClaim := { program := "ythpdkdmbfdmamaagreatdoor", sum := "475924cfedd9a07d4728405c9ecfffbfbd80efb96e7c982f10fdc94e59a4054d", func := "sennet/sennetlaw01.FactsAt", spec := "factsAt", inPlace := ["internal/bytealg.IndexByteString", "internal/bytealg.IndexString", "internal/abi.NoEscape", "internal/bytealg.MakeNoZero"], unfollowed := true, recurses := true, named := ["internal/bytealg.MaxLen", "strconv.ErrSyntax", "strconv.ErrRange", "internal/strconv.uint64pow10", "math/bits.deBruijn32tab", "math/bits.deBruijn64tab"], apart := false, laid := [("math/bits.deBruijn32tab", laid_math_bits_deBruijn32tab), ("math/bits.deBruijn64tab", laid_math_bits_deBruijn64tab), ("internal/strconv.uint64pow10", laid_internal_strconv_uint64pow10), ("strconv.ErrRange", laid_strconv_ErrRange), ("strconv.ErrSyntax", laid_strconv_ErrSyntax)] }
def FactsAtSaid : Prop := factsAtRow.holds Tryz.pinned (OpenSpec.ofChange factsAtSpec)

/-- ITS FALSE NEIGHBOUR: 'it returns false'. Refute it at one input. -/
def factsAtWrong : ChangeSpec := { name := "factsAt", fn := fun _ => fun
  | [d1, d2, d3] => { results := [.lit (.bool false)], args := [d1, d2, d3] }
  | _ => none }
def FactsAtWrongFalsely : Prop := factsAtRow.holds Tryz.pinned (OpenSpec.ofChange factsAtWrong)

/-- 'sennetlaw01.FactsTurns': WHATEVER THE INPUT: true; the input reads as it did. -/
def factsTurnsSpec : ChangeSpec := { name := "factsTurns", fn := fun _ => fun
  | [d1, d2, d3] => { results := [.lit (.bool true)], args := [d1, d2, d3] }
  | _ => none }
def factsTurnsRow : OpenClaim := { program := "ythpdkdmbfdmamaagreatdoor", sum := "475924cfedd9a07d4728405c9ecfffbfbd80efb96e7c982f10fdc94e59a4054d", func := "sennet/sennetlaw01.FactsTurns", spec := "factsTurns", inPlace := ["internal/bytealg.IndexByteString", "internal/bytealg.IndexString", "internal/abi.NoEscape", "internal/bytealg.MakeNoZero"], unfollowed := true, recurses := true, named := ["internal/bytealg.MaxLen", "strconv.ErrSyntax", "strconv.ErrRange", "internal/strconv.uint64pow10", "math/bits.deBruijn32tab", "math/bits.deBruijn64tab"], apart := false, laid := [("math/bits.deBruijn32tab", laid_math_bits_deBruijn32tab), ("math/bits.deBruijn64tab", laid_math_bits_deBruijn64tab), ("internal/strconv.uint64pow10", laid_internal_strconv_uint64pow10), ("strconv.ErrRange", laid_strconv_ErrRange), ("strconv.ErrSyntax", laid_strconv_ErrSyntax)] }
def FactsTurnsSaid : Prop := factsTurnsRow.holds Tryz.pinned (OpenSpec.ofChange factsTurnsSpec)

/-- ITS FALSE NEIGHBOUR: 'it returns false'. Refute it at one input. -/
def factsTurnsWrong : ChangeSpec := { name := "factsTurns", fn := fun _ => fun
  | [d1, d2, d3] => { results := [.lit (.bool false)], args := [d1, d2, d3] }
  | _ => none }
def FactsTurnsWrongFalsely : Prop := factsTurnsRow.holds Tryz.pinned (OpenSpec.ofChange factsTurnsWrong)

/-- 'sennetlaw01.FactsVoids': WHATEVER THE INPUT: true; the input reads as it did. -/
def factsVoidsSpec : ChangeSpec := { name := "factsVoids", fn := fun _ => fun
  | [d1, d2, d3, d4, d5] => { results := [.lit (.bool true)], args := [d1, d2, d3, d4, d5] }
  | _ => none }
def factsVoidsRow : OpenClaim := { program := "ythpdkdmbfdmamaagreatdoor", sum := "475924cfedd9a07d4728405c9ecfffbfbd80efb96e7c982f10fdc94e59a4054d", func := "sennet/sennetlaw01.FactsVoids", spec := "factsVoids", inPlace := ["internal/bytealg.IndexByteString", "internal/bytealg.IndexString", "internal/abi.NoEscape", "internal/bytealg.MakeNoZero"], unfollowed := true, recurses := true, named := ["internal/bytealg.MaxLen", "strconv.ErrSyntax", "strconv.ErrRange", "internal/strconv.uint64pow10", "math/bits.deBruijn32tab", "math/bits.deBruijn64tab"], apart := false, laid := [("math/bits.deBruijn32tab", laid_math_bits_deBruijn32tab), ("math/bits.deBruijn64tab", laid_math_bits_deBruijn64tab), ("internal/strconv.uint64pow10", laid_internal_strconv_uint64pow10), ("strconv.ErrRange", laid_strconv_ErrRange), ("strconv.ErrSyntax", laid_strconv_ErrSyntax)] }
def FactsVoidsSaid : Prop := factsVoidsRow.holds Tryz.pinned (OpenSpec.ofChange factsVoidsSpec)

/-- ITS FALSE NEIGHBOUR: 'it returns false'. Refute it at one input. -/
def factsVoidsWrong : ChangeSpec := { name := "factsVoids", fn := fun _ => fun
  | [d1, d2, d3, d4, d5] => { results := [.lit (.bool false)], args := [d1, d2, d3, d4, d5] }
  | _ => none }
def FactsVoidsWrongFalsely : Prop := factsVoidsRow.holds Tryz.pinned (OpenSpec.ofChange factsVoidsWrong)

/-- 'sennetlaw01.FactsCorrects': WHATEVER THE INPUT: true; the input reads as it did. -/
def factsCorrectsSpec : ChangeSpec := { name := "factsCorrects", fn := fun _ => fun
  | [d1, d2, d3, d4, d5, d6] => { results := [.lit (.bool true)], args := [d1, d2, d3, d4, d5, d6] }
  | _ => none }
def factsCorrectsRow : OpenClaim := { program := "ythpdkdmbfdmamaagreatdoor", sum := "475924cfedd9a07d4728405c9ecfffbfbd80efb96e7c982f10fdc94e59a4054d", func := "sennet/sennetlaw01.FactsCorrects", spec := "factsCorrects", inPlace := ["internal/bytealg.IndexByteString", "internal/bytealg.IndexString", "internal/abi.NoEscape", "internal/bytealg.MakeNoZero"], unfollowed := true, recurses := true, named := ["internal/bytealg.MaxLen", "strconv.ErrSyntax", "strconv.ErrRange", "internal/strconv.uint64pow10", "math/bits.deBruijn32tab", "math/bits.deBruijn64tab"], apart := false, laid := [("math/bits.deBruijn32tab", laid_math_bits_deBruijn32tab), ("math/bits.deBruijn64tab", laid_math_bits_deBruijn64tab), ("internal/strconv.uint64pow10", laid_internal_strconv_uint64pow10), ("strconv.ErrRange", laid_strconv_ErrRange), ("strconv.ErrSyntax", laid_strconv_ErrSyntax)] }
def FactsCorrectsSaid : Prop := factsCorrectsRow.holds Tryz.pinned (OpenSpec.ofChange factsCorrectsSpec)

/-- ITS FALSE NEIGHBOUR: 'it returns false'. Refute it at one input. -/
def factsCorrectsWrong : ChangeSpec := { name := "factsCorrects", fn := fun _ => fun
  | [d1, d2, d3, d4, d5, d6] => { results := [.lit (.bool false)], args := [d1, d2, d3, d4, d5, d6] }
  | _ => none }
def FactsCorrectsWrongFalsely : Prop := factsCorrectsRow.holds Tryz.pinned (OpenSpec.ofChange factsCorrectsWrong)

/-- 'sennetlaw01.FactsStates': WHATEVER THE INPUT: true; the input reads as it did. -/
def factsStatesSpec : ChangeSpec := { name := "factsStates", fn := fun _ => fun
  | [d1, d2, d3, d4, d5, d6] => { results := [.lit (.bool true)], args := [d1, d2, d3, d4, d5, d6] }
  | _ => none }
def factsStatesRow : OpenClaim := { program := "ythpdkdmbfdmamaagreatdoor", sum := "475924cfedd9a07d4728405c9ecfffbfbd80efb96e7c982f10fdc94e59a4054d", func := "sennet/sennetlaw01.FactsStates", spec := "factsStates", inPlace := ["internal/bytealg.IndexByteString", "internal/bytealg.IndexString", "internal/abi.NoEscape", "internal/bytealg.MakeNoZero"], unfollowed := true, recurses := true, named := ["internal/bytealg.MaxLen", "strconv.ErrSyntax", "strconv.ErrRange", "internal/strconv.uint64pow10", "math/bits.deBruijn32tab", "math/bits.deBruijn64tab"], apart := false, laid := [("math/bits.deBruijn32tab", laid_math_bits_deBruijn32tab), ("math/bits.deBruijn64tab", laid_math_bits_deBruijn64tab), ("internal/strconv.uint64pow10", laid_internal_strconv_uint64pow10), ("strconv.ErrRange", laid_strconv_ErrRange), ("strconv.ErrSyntax", laid_strconv_ErrSyntax)] }
def FactsStatesSaid : Prop := factsStatesRow.holds Tryz.pinned (OpenSpec.ofChange factsStatesSpec)

/-- ITS FALSE NEIGHBOUR: 'it returns false'. Refute it at one input. -/
def factsStatesWrong : ChangeSpec := { name := "factsStates", fn := fun _ => fun
  | [d1, d2, d3, d4, d5, d6] => { results := [.lit (.bool false)], args := [d1, d2, d3, d4, d5, d6] }
  | _ => none }
def FactsStatesWrongFalsely : Prop := factsStatesRow.holds Tryz.pinned (OpenSpec.ofChange factsStatesWrong)

/-- 'sennetlaw01.FactsPairs': WHATEVER THE INPUT: true; the input reads as it did. -/
def factsPairsSpec : ChangeSpec := { name := "factsPairs", fn := fun _ => fun
  | [d1, d2, d3, d4] => { results := [.lit (.bool true)], args := [d1, d2, d3, d4] }
  | _ => none }
def factsPairsRow : OpenClaim := { program := "ythpdkdmbfdmamaagreatdoor", sum := "475924cfedd9a07d4728405c9ecfffbfbd80efb96e7c982f10fdc94e59a4054d", func := "sennet/sennetlaw01.FactsPairs", spec := "factsPairs", inPlace := ["internal/bytealg.IndexByteString", "internal/bytealg.IndexString", "internal/abi.NoEscape", "internal/bytealg.MakeNoZero"], unfollowed := true, recurses := true, named := ["internal/bytealg.MaxLen", "strconv.ErrSyntax", "strconv.ErrRange", "internal/strconv.uint64pow10", "math/bits.deBruijn32tab", "math/bits.deBruijn64tab"], apart := false, laid := [("math/bits.deBruijn32tab", laid_math_bits_deBruijn32tab), ("math/bits.deBruijn64tab", laid_math_bits_deBruijn64tab), ("internal/strconv.uint64pow10", laid_internal_strconv_uint64pow10), ("strconv.ErrRange", laid_strconv_ErrRange), ("strconv.ErrSyntax", laid_strconv_ErrSyntax)] }
def FactsPairsSaid : Prop := factsPairsRow.holds Tryz.pinned (OpenSpec.ofChange factsPairsSpec)

/-- ITS FALSE NEIGHBOUR: 'it returns false'. Refute it at one input. -/
def factsPairsWrong : ChangeSpec := { name := "factsPairs", fn := fun _ => fun
  | [d1, d2, d3, d4] => { results := [.lit (.bool false)], args := [d1, d2, d3, d4] }
  | _ => none }
def FactsPairsWrongFalsely : Prop := factsPairsRow.holds Tryz.pinned (OpenSpec.ofChange factsPairsWrong)

/-- 'sennetlaw01.FactsOffices': WHATEVER THE INPUT: true; the input reads as it did. -/
def factsOfficesSpec : ChangeSpec := { name := "factsOffices", fn := fun _ => fun
  | [d1, d2, d3, d4, d5, d6, d7] => { results := [.lit (.bool true)], args := [d1, d2, d3, d4, d5, d6, d7] }
  | _ => none }
def factsOfficesRow : OpenClaim := { program := "ythpdkdmbfdmamaagreatdoor", sum := "475924cfedd9a07d4728405c9ecfffbfbd80efb96e7c982f10fdc94e59a4054d", func := "sennet/sennetlaw01.FactsOffices", spec := "factsOffices", inPlace := ["internal/bytealg.IndexByteString", "internal/bytealg.IndexString", "internal/abi.NoEscape", "internal/bytealg.MakeNoZero"], unfollowed := true, recurses := true, named := ["internal/bytealg.MaxLen", "strconv.ErrSyntax", "strconv.ErrRange", "internal/strconv.uint64pow10", "math/bits.deBruijn32tab", "math/bits.deBruijn64tab"], apart := false, laid := [("math/bits.deBruijn32tab", laid_math_bits_deBruijn32tab), ("math/bits.deBruijn64tab", laid_math_bits_deBruijn64tab), ("internal/strconv.uint64pow10", laid_internal_strconv_uint64pow10), ("strconv.ErrRange", laid_strconv_ErrRange), ("strconv.ErrSyntax", laid_strconv_ErrSyntax)] }
def FactsOfficesSaid : Prop := factsOfficesRow.holds Tryz.pinned (OpenSpec.ofChange factsOfficesSpec)

/-- ITS FALSE NEIGHBOUR: 'it returns false'. Refute it at one input. -/
def factsOfficesWrong : ChangeSpec := { name := "factsOffices", fn := fun _ => fun
  | [d1, d2, d3, d4, d5, d6, d7] => { results := [.lit (.bool false)], args := [d1, d2, d3, d4, d5, d6, d7] }
  | _ => none }
def FactsOfficesWrongFalsely : Prop := factsOfficesRow.holds Tryz.pinned (OpenSpec.ofChange factsOfficesWrong)

/-- 'sennetlaw01.FactsClasses': WHATEVER THE INPUT: true; the input reads as it did. -/
def factsClassesSpec : ChangeSpec := { name := "factsClasses", fn := fun _ => fun
  | [d1, d2, d3, d4, d5, d6] => { results := [.lit (.bool true)], args := [d1, d2, d3, d4, d5, d6] }
  | _ => none }
def factsClassesRow : OpenClaim := { program := "ythpdkdmbfdmamaagreatdoor", sum := "475924cfedd9a07d4728405c9ecfffbfbd80efb96e7c982f10fdc94e59a4054d", func := "sennet/sennetlaw01.FactsClasses", spec := "factsClasses", inPlace := ["internal/bytealg.IndexByteString", "internal/bytealg.IndexString", "internal/abi.NoEscape", "internal/bytealg.MakeNoZero"], unfollowed := true, recurses := true, named := ["internal/bytealg.MaxLen", "strconv.ErrSyntax", "strconv.ErrRange", "internal/strconv.uint64pow10", "math/bits.deBruijn32tab", "math/bits.deBruijn64tab"], apart := false, laid := [("math/bits.deBruijn32tab", laid_math_bits_deBruijn32tab), ("math/bits.deBruijn64tab", laid_math_bits_deBruijn64tab), ("internal/strconv.uint64pow10", laid_internal_strconv_uint64pow10), ("strconv.ErrRange", laid_strconv_ErrRange), ("strconv.ErrSyntax", laid_strconv_ErrSyntax)] }
def FactsClassesSaid : Prop := factsClassesRow.holds Tryz.pinned (OpenSpec.ofChange factsClassesSpec)

/-- ITS FALSE NEIGHBOUR: 'it returns false'. Refute it at one input. -/
def factsClassesWrong : ChangeSpec := { name := "factsClasses", fn := fun _ => fun
  | [d1, d2, d3, d4, d5, d6] => { results := [.lit (.bool false)], args := [d1, d2, d3, d4, d5, d6] }
  | _ => none }
def FactsClassesWrongFalsely : Prop := factsClassesRow.holds Tryz.pinned (OpenSpec.ofChange factsClassesWrong)

/-- 'sennetlaw01.FactsPersons': WHATEVER THE INPUT: true; the input reads as it did. -/
def factsPersonsSpec : ChangeSpec := { name := "factsPersons", fn := fun _ => fun
  | [d1, d2, d3, d4, d5] => { results := [.lit (.bool true)], args := [d1, d2, d3, d4, d5] }
  | _ => none }
def factsPersonsRow : OpenClaim := { program := "ythpdkdmbfdmamaagreatdoor", sum := "475924cfedd9a07d4728405c9ecfffbfbd80efb96e7c982f10fdc94e59a4054d", func := "sennet/sennetlaw01.FactsPersons", spec := "factsPersons", inPlace := ["internal/bytealg.IndexByteString", "internal/bytealg.IndexString", "internal/abi.NoEscape", "internal/bytealg.MakeNoZero"], unfollowed := true, recurses := true, named := ["internal/bytealg.MaxLen", "strconv.ErrSyntax", "strconv.ErrRange", "internal/strconv.uint64pow10", "math/bits.deBruijn32tab", "math/bits.deBruijn64tab"], apart := false, laid := [("math/bits.deBruijn32tab", laid_math_bits_deBruijn32tab), ("math/bits.deBruijn64tab", laid_math_bits_deBruijn64tab), ("internal/strconv.uint64pow10", laid_internal_strconv_uint64pow10), ("strconv.ErrRange", laid_strconv_ErrRange), ("strconv.ErrSyntax", laid_strconv_ErrSyntax)] }
def FactsPersonsSaid : Prop := factsPersonsRow.holds Tryz.pinned (OpenSpec.ofChange factsPersonsSpec)

/-- ITS FALSE NEIGHBOUR: 'it returns false'. Refute it at one input. -/
def factsPersonsWrong : ChangeSpec := { name := "factsPersons", fn := fun _ => fun
  | [d1, d2, d3, d4, d5] => { results := [.lit (.bool false)], args := [d1, d2, d3, d4, d5] }
  | _ => none }
def FactsPersonsWrongFalsely : Prop := factsPersonsRow.holds Tryz.pinned (OpenSpec.ofChange factsPersonsWrong)

/-- 'sennetlaw01.FactsClocks': WHATEVER THE INPUT: true; the input reads as it did. -/
def factsClocksSpec : ChangeSpec := { name := "factsClocks", fn := fun _ => fun
  | [d1, d2, d3, d4, d5] => { results := [.lit (.bool true)], args := [d1, d2, d3, d4, d5] }
  | _ => none }
def factsClocksRow : OpenClaim := { program := "ythpdkdmbfdmamaagreatdoor", sum := "475924cfedd9a07d4728405c9ecfffbfbd80efb96e7c982f10fdc94e59a4054d", func := "sennet/sennetlaw01.FactsClocks", spec := "factsClocks", inPlace := ["internal/bytealg.IndexByteString", "internal/bytealg.IndexString", "internal/abi.NoEscape", "internal/bytealg.MakeNoZero"], unfollowed := true, recurses := true, named := ["internal/bytealg.MaxLen", "strconv.ErrSyntax", "strconv.ErrRange", "internal/strconv.uint64pow10", "math/bits.deBruijn32tab", "math/bits.deBruijn64tab"], apart := false, laid := [("math/bits.deBruijn32tab", laid_math_bits_deBruijn32tab), ("math/bits.deBruijn64tab", laid_math_bits_deBruijn64tab), ("internal/strconv.uint64pow10", laid_internal_strconv_uint64pow10), ("strconv.ErrRange", laid_strconv_ErrRange), ("strconv.ErrSyntax", laid_strconv_ErrSyntax)] }
def FactsClocksSaid : Prop := factsClocksRow.holds Tryz.pinned (OpenSpec.ofChange factsClocksSpec)

/-- ITS FALSE NEIGHBOUR: 'it returns false'. Refute it at one input. -/
def factsClocksWrong : ChangeSpec := { name := "factsClocks", fn := fun _ => fun
  | [d1, d2, d3, d4, d5] => { results := [.lit (.bool false)], args := [d1, d2, d3, d4, d5] }
  | _ => none }
def FactsClocksWrongFalsely : Prop := factsClocksRow.holds Tryz.pinned (OpenSpec.ofChange factsClocksWrong)

/-- 'sennetlaw01.FactsStill': WHATEVER THE INPUT: true; the input reads as it did. -/
def factsStillSpec : ChangeSpec := { name := "factsStill", fn := fun _ => fun
  | [d1, d2, d3, d4] => { results := [.lit (.bool true)], args := [d1, d2, d3, d4] }
  | _ => none }
def factsStillRow : OpenClaim := { program := "ythpdkdmbfdmamaagreatdoor", sum := "475924cfedd9a07d4728405c9ecfffbfbd80efb96e7c982f10fdc94e59a4054d", func := "sennet/sennetlaw01.FactsStill", spec := "factsStill", inPlace := ["internal/bytealg.IndexByteString", "internal/bytealg.IndexString", "internal/abi.NoEscape", "internal/bytealg.MakeNoZero"], unfollowed := true, recurses := true, named := ["internal/bytealg.MaxLen", "strconv.ErrSyntax", "strconv.ErrRange", "internal/strconv.uint64pow10", "math/bits.deBruijn32tab", "math/bits.deBruijn64tab"], apart := false, laid := [("math/bits.deBruijn32tab", laid_math_bits_deBruijn32tab), ("math/bits.deBruijn64tab", laid_math_bits_deBruijn64tab), ("internal/strconv.uint64pow10", laid_internal_strconv_uint64pow10), ("strconv.ErrRange", laid_strconv_ErrRange), ("strconv.ErrSyntax", laid_strconv_ErrSyntax)] }
def FactsStillSaid : Prop := factsStillRow.holds Tryz.pinned (OpenSpec.ofChange factsStillSpec)

/-- ITS FALSE NEIGHBOUR: 'it returns false'. Refute it at one input. -/
def factsStillWrong : ChangeSpec := { name := "factsStill", fn := fun _ => fun
  | [d1, d2, d3, d4] => { results := [.lit (.bool false)], args := [d1, d2, d3, d4] }
  | _ => none }
def FactsStillWrongFalsely : Prop := factsStillRow.holds Tryz.pinned (OpenSpec.ofChange factsStillWrong)

/-- 'sennetlaw01.FactsMemory': WHATEVER THE INPUT: true; the input reads as it did. -/
def factsMemorySpec : ChangeSpec := { name := "factsMemory", fn := fun _ => fun
  | [d1, d2, d3, d4] => { results := [.lit (.bool true)], args := [d1, d2, d3, d4] }
  | _ => none }
def factsMemoryRow : OpenClaim := { program := "ythpdkdmbfdmamaagreatdoor", sum := "475924cfedd9a07d4728405c9ecfffbfbd80efb96e7c982f10fdc94e59a4054d", func := "sennet/sennetlaw01.FactsMemory", spec := "factsMemory", inPlace := ["internal/bytealg.IndexByteString", "internal/bytealg.IndexString", "internal/abi.NoEscape", "internal/bytealg.MakeNoZero"], unfollowed := true, recurses := true, named := ["internal/bytealg.MaxLen", "strconv.ErrSyntax", "strconv.ErrRange", "internal/strconv.uint64pow10", "math/bits.deBruijn32tab", "math/bits.deBruijn64tab"], apart := false, laid := [("math/bits.deBruijn32tab", laid_math_bits_deBruijn32tab), ("math/bits.deBruijn64tab", laid_math_bits_deBruijn64tab), ("internal/strconv.uint64pow10", laid_internal_strconv_uint64pow10), ("strconv.ErrRange", laid_strconv_ErrRange), ("strconv.ErrSyntax", laid_strconv_ErrSyntax)] }
def FactsMemorySaid : Prop := factsMemoryRow.holds Tryz.pinned (OpenSpec.ofChange factsMemorySpec)

/-- ITS FALSE NEIGHBOUR: 'it returns false'. Refute it at one input. -/
def factsMemoryWrong : ChangeSpec := { name := "factsMemory", fn := fun _ => fun
  | [d1, d2, d3, d4] => { results := [.lit (.bool false)], args := [d1, d2, d3, d4] }
  | _ => none }
def FactsMemoryWrongFalsely : Prop := factsMemoryRow.holds Tryz.pinned (OpenSpec.ofChange factsMemoryWrong)

/- THE SECOND FORM. 'bulk': how many values and letters a reading holds, each counted each time it is reached (what is shared counts as often as it is met; a slice's spare places count too). A statement '..UptoSaid' is the law's where the arguments, and the package variables that the reading takes, are together of bulk at most 1048576: NARROWER than '..Said'. Prove '..Said' where nothing that the law and all that it calls make is longer than what came in: it says more and counts as full. Else prove '..UptoSaid'. A law counts once. -/
mutual
def uptoBulk {H : Type} : DataW H → Nat
  | .lit (.string bytes) => bytes.length + 1
  | .lit _ => 1
  | .nil => 1
  | .ptr d => uptoBulk d + 1
  | .slice elems spare => uptoBulkAll elems + uptoBulkAll spare + 1
  | .agg parts => uptoBulkAll parts + 1
  | .iface _ d => uptoBulk d + 1
  | .map entries => uptoBulkEntries entries + 1
  | .held _ => 1
def uptoBulkAll {H : Type} : List (DataW H) → Nat
  | [] => 0
  | d :: r => uptoBulk d + uptoBulkAll r
def uptoBulkEntries {H : Type} : List (Lit × DataW H) → Nat
  | [] => 0
  | x :: r => uptoBulkEntry x + uptoBulkEntries r
def uptoBulkEntry {H : Type} : Lit × DataW H → Nat
  | (.string bytes, d) => bytes.length + uptoBulk d + 1
  | (_, d) => uptoBulk d + 1
 end
def uptoSmall : (H : Type) → List (DataW H) → Bool := fun _ ds => decide (uptoBulkAll ds ≤ 1048576)
def OpenSpec.upto (s : _root_.Go.ChangeSpec) : _root_.Go.OpenSpec := { _root_.Go.OpenSpec.ofChange s with cond := some uptoSmall }

/-- 'sennetlaw01.FactsCheck', WHERE WHAT IT READS IS OF BULK AT MOST 1048576: true; the input reads as it did. -/
def factsCheckUptoRow : OpenClaim := { program := "ythpdkdmbfdmamaagreatdoor", sum := "475924cfedd9a07d4728405c9ecfffbfbd80efb96e7c982f10fdc94e59a4054d", func := "sennet/sennetlaw01.FactsCheck", spec := "factsCheck", inPlace := ["internal/bytealg.IndexByteString", "internal/bytealg.IndexString", "internal/abi.NoEscape", "internal/bytealg.MakeNoZero"], unfollowed := true, recurses := true, named := ["internal/bytealg.MaxLen", "strconv.ErrSyntax", "strconv.ErrRange", "internal/strconv.uint64pow10", "math/bits.deBruijn32tab", "math/bits.deBruijn64tab"], apart := false, laid := [("math/bits.deBruijn32tab", laid_math_bits_deBruijn32tab), ("math/bits.deBruijn64tab", laid_math_bits_deBruijn64tab), ("internal/strconv.uint64pow10", laid_internal_strconv_uint64pow10), ("strconv.ErrRange", laid_strconv_ErrRange), ("strconv.ErrSyntax", laid_strconv_ErrSyntax)], narrowed := true }
def FactsCheckUptoSaid : Prop := factsCheckUptoRow.holds Tryz.pinned (OpenSpec.upto factsCheckSpec)

/-- 'sennetlaw01.FactsLimit', WHERE WHAT IT READS IS OF BULK AT MOST 1048576: true; the input reads as it did. -/
def factsLimitUptoRow : OpenClaim := { program := "ythpdkdmbfdmamaagreatdoor", sum := "475924cfedd9a07d4728405c9ecfffbfbd80efb96e7c982f10fdc94e59a4054d", func := "sennet/sennetlaw01.FactsLimit", spec := "factsLimit", inPlace := ["internal/bytealg.IndexByteString", "internal/bytealg.IndexString", "internal/abi.NoEscape", "internal/bytealg.MakeNoZero"], unfollowed := true, recurses := true, named := ["internal/bytealg.MaxLen", "strconv.ErrSyntax", "strconv.ErrRange", "internal/strconv.uint64pow10", "math/bits.deBruijn32tab", "math/bits.deBruijn64tab"], apart := false, laid := [("math/bits.deBruijn32tab", laid_math_bits_deBruijn32tab), ("math/bits.deBruijn64tab", laid_math_bits_deBruijn64tab), ("internal/strconv.uint64pow10", laid_internal_strconv_uint64pow10), ("strconv.ErrRange", laid_strconv_ErrRange), ("strconv.ErrSyntax", laid_strconv_ErrSyntax)], narrowed := true }
def FactsLimitUptoSaid : Prop := factsLimitUptoRow.holds Tryz.pinned (OpenSpec.upto factsLimitSpec)

/-- 'sennetlaw01.FactsAppends', WHERE WHAT IT READS IS OF BULK AT MOST 1048576: true; the input reads as it did. -/
def factsAppendsUptoRow : OpenClaim := { program := "ythpdkdmbfdmamaagreatdoor", sum := "475924cfedd9a07d4728405c9ecfffbfbd80efb96e7c982f10fdc94e59a4054d", func := "sennet/sennetlaw01.FactsAppends", spec := "factsAppends", inPlace := ["internal/bytealg.IndexByteString", "internal/bytealg.IndexString", "internal/abi.NoEscape", "internal/bytealg.MakeNoZero"], unfollowed := true, recurses := true, named := ["internal/bytealg.MaxLen", "strconv.ErrSyntax", "strconv.ErrRange", "internal/strconv.uint64pow10", "math/bits.deBruijn32tab", "math/bits.deBruijn64tab"], apart := false, laid := [("math/bits.deBruijn32tab", laid_math_bits_deBruijn32tab), ("math/bits.deBruijn64tab", laid_math_bits_deBruijn64tab), ("internal/strconv.uint64pow10", laid_internal_strconv_uint64pow10), ("strconv.ErrRange", laid_strconv_ErrRange), ("strconv.ErrSyntax", laid_strconv_ErrSyntax)], narrowed := true }
def FactsAppendsUptoSaid : Prop := factsAppendsUptoRow.holds Tryz.pinned (OpenSpec.upto factsAppendsSpec)

/-- 'sennetlaw01.FactsKnown', WHERE WHAT IT READS IS OF BULK AT MOST 1048576: true; the input reads as it did. -/
def factsKnownUptoRow : OpenClaim := { program := "ythpdkdmbfdmamaagreatdoor", sum := "475924cfedd9a07d4728405c9ecfffbfbd80efb96e7c982f10fdc94e59a4054d", func := "sennet/sennetlaw01.FactsKnown", spec := "factsKnown", inPlace := ["internal/bytealg.IndexByteString", "internal/bytealg.IndexString", "internal/abi.NoEscape", "internal/bytealg.MakeNoZero"], unfollowed := true, recurses := true, named := ["internal/bytealg.MaxLen", "strconv.ErrSyntax", "strconv.ErrRange", "internal/strconv.uint64pow10", "math/bits.deBruijn32tab", "math/bits.deBruijn64tab"], apart := false, laid := [("math/bits.deBruijn32tab", laid_math_bits_deBruijn32tab), ("math/bits.deBruijn64tab", laid_math_bits_deBruijn64tab), ("internal/strconv.uint64pow10", laid_internal_strconv_uint64pow10), ("strconv.ErrRange", laid_strconv_ErrRange), ("strconv.ErrSyntax", laid_strconv_ErrSyntax)], narrowed := true }
def FactsKnownUptoSaid : Prop := factsKnownUptoRow.holds Tryz.pinned (OpenSpec.upto factsKnownSpec)

/-- 'sennetlaw01.FactsLines', WHERE WHAT IT READS IS OF BULK AT MOST 1048576: true; the input reads as it did. -/
def factsLinesUptoRow : OpenClaim := { program := "ythpdkdmbfdmamaagreatdoor", sum := "475924cfedd9a07d4728405c9ecfffbfbd80efb96e7c982f10fdc94e59a4054d", func := "sennet/sennetlaw01.FactsLines", spec := "factsLines", inPlace := ["internal/abi.NoEscape", "internal/bytealg.MakeNoZero", "internal/bytealg.IndexByteString", "internal/bytealg.IndexString"], unfollowed := true, recurses := true, named := ["internal/strconv.uint64pow10", "math/bits.deBruijn32tab", "math/bits.deBruijn64tab", "internal/bytealg.MaxLen", "strconv.ErrSyntax", "strconv.ErrRange"], apart := false, laid := [("math/bits.deBruijn32tab", laid_math_bits_deBruijn32tab), ("math/bits.deBruijn64tab", laid_math_bits_deBruijn64tab), ("internal/strconv.uint64pow10", laid_internal_strconv_uint64pow10), ("strconv.ErrRange", laid_strconv_ErrRange), ("strconv.ErrSyntax", laid_strconv_ErrSyntax)], narrowed := true }
def FactsLinesUptoSaid : Prop := factsLinesUptoRow.holds Tryz.pinned (OpenSpec.upto factsLinesSpec)

/-- 'sennetlaw01.FactsAt', WHERE WHAT IT READS IS OF BULK AT MOST 1048576: true; the input reads as it did. -/
def factsAtUptoRow : OpenClaim := { program := "ythpdkdmbfdmamaagreatdoor", sum := "475924cfedd9a07d4728405c9ecfffbfbd80efb96e7c982f10fdc94e59a4054d", func := "sennet/sennetlaw01.FactsAt", spec := "factsAt", inPlace := ["internal/bytealg.IndexByteString", "internal/bytealg.IndexString", "internal/abi.NoEscape", "internal/bytealg.MakeNoZero"], unfollowed := true, recurses := true, named := ["internal/bytealg.MaxLen", "strconv.ErrSyntax", "strconv.ErrRange", "internal/strconv.uint64pow10", "math/bits.deBruijn32tab", "math/bits.deBruijn64tab"], apart := false, laid := [("math/bits.deBruijn32tab", laid_math_bits_deBruijn32tab), ("math/bits.deBruijn64tab", laid_math_bits_deBruijn64tab), ("internal/strconv.uint64pow10", laid_internal_strconv_uint64pow10), ("strconv.ErrRange", laid_strconv_ErrRange), ("strconv.ErrSyntax", laid_strconv_ErrSyntax)], narrowed := true }
def FactsAtUptoSaid : Prop := factsAtUptoRow.holds Tryz.pinned (OpenSpec.upto factsAtSpec)

/-- 'sennetlaw01.FactsTurns', WHERE WHAT IT READS IS OF BULK AT MOST 1048576: true; the input reads as it did. -/
def factsTurnsUptoRow : OpenClaim := { program := "ythpdkdmbfdmamaagreatdoor", sum := "475924cfedd9a07d4728405c9ecfffbfbd80efb96e7c982f10fdc94e59a4054d", func := "sennet/sennetlaw01.FactsTurns", spec := "factsTurns", inPlace := ["internal/bytealg.IndexByteString", "internal/bytealg.IndexString", "internal/abi.NoEscape", "internal/bytealg.MakeNoZero"], unfollowed := true, recurses := true, named := ["internal/bytealg.MaxLen", "strconv.ErrSyntax", "strconv.ErrRange", "internal/strconv.uint64pow10", "math/bits.deBruijn32tab", "math/bits.deBruijn64tab"], apart := false, laid := [("math/bits.deBruijn32tab", laid_math_bits_deBruijn32tab), ("math/bits.deBruijn64tab", laid_math_bits_deBruijn64tab), ("internal/strconv.uint64pow10", laid_internal_strconv_uint64pow10), ("strconv.ErrRange", laid_strconv_ErrRange), ("strconv.ErrSyntax", laid_strconv_ErrSyntax)], narrowed := true }
def FactsTurnsUptoSaid : Prop := factsTurnsUptoRow.holds Tryz.pinned (OpenSpec.upto factsTurnsSpec)

/-- 'sennetlaw01.FactsVoids', WHERE WHAT IT READS IS OF BULK AT MOST 1048576: true; the input reads as it did. -/
def factsVoidsUptoRow : OpenClaim := { program := "ythpdkdmbfdmamaagreatdoor", sum := "475924cfedd9a07d4728405c9ecfffbfbd80efb96e7c982f10fdc94e59a4054d", func := "sennet/sennetlaw01.FactsVoids", spec := "factsVoids", inPlace := ["internal/bytealg.IndexByteString", "internal/bytealg.IndexString", "internal/abi.NoEscape", "internal/bytealg.MakeNoZero"], unfollowed := true, recurses := true, named := ["internal/bytealg.MaxLen", "strconv.ErrSyntax", "strconv.ErrRange", "internal/strconv.uint64pow10", "math/bits.deBruijn32tab", "math/bits.deBruijn64tab"], apart := false, laid := [("math/bits.deBruijn32tab", laid_math_bits_deBruijn32tab), ("math/bits.deBruijn64tab", laid_math_bits_deBruijn64tab), ("internal/strconv.uint64pow10", laid_internal_strconv_uint64pow10), ("strconv.ErrRange", laid_strconv_ErrRange), ("strconv.ErrSyntax", laid_strconv_ErrSyntax)], narrowed := true }
def FactsVoidsUptoSaid : Prop := factsVoidsUptoRow.holds Tryz.pinned (OpenSpec.upto factsVoidsSpec)

/-- 'sennetlaw01.FactsCorrects', WHERE WHAT IT READS IS OF BULK AT MOST 1048576: true; the input reads as it did. -/
def factsCorrectsUptoRow : OpenClaim := { program := "ythpdkdmbfdmamaagreatdoor", sum := "475924cfedd9a07d4728405c9ecfffbfbd80efb96e7c982f10fdc94e59a4054d", func := "sennet/sennetlaw01.FactsCorrects", spec := "factsCorrects", inPlace := ["internal/bytealg.IndexByteString", "internal/bytealg.IndexString", "internal/abi.NoEscape", "internal/bytealg.MakeNoZero"], unfollowed := true, recurses := true, named := ["internal/bytealg.MaxLen", "strconv.ErrSyntax", "strconv.ErrRange", "internal/strconv.uint64pow10", "math/bits.deBruijn32tab", "math/bits.deBruijn64tab"], apart := false, laid := [("math/bits.deBruijn32tab", laid_math_bits_deBruijn32tab), ("math/bits.deBruijn64tab", laid_math_bits_deBruijn64tab), ("internal/strconv.uint64pow10", laid_internal_strconv_uint64pow10), ("strconv.ErrRange", laid_strconv_ErrRange), ("strconv.ErrSyntax", laid_strconv_ErrSyntax)], narrowed := true }
def FactsCorrectsUptoSaid : Prop := factsCorrectsUptoRow.holds Tryz.pinned (OpenSpec.upto factsCorrectsSpec)

/-- 'sennetlaw01.FactsStates', WHERE WHAT IT READS IS OF BULK AT MOST 1048576: true; the input reads as it did. -/
def factsStatesUptoRow : OpenClaim := { program := "ythpdkdmbfdmamaagreatdoor", sum := "475924cfedd9a07d4728405c9ecfffbfbd80efb96e7c982f10fdc94e59a4054d", func := "sennet/sennetlaw01.FactsStates", spec := "factsStates", inPlace := ["internal/bytealg.IndexByteString", "internal/bytealg.IndexString", "internal/abi.NoEscape", "internal/bytealg.MakeNoZero"], unfollowed := true, recurses := true, named := ["internal/bytealg.MaxLen", "strconv.ErrSyntax", "strconv.ErrRange", "internal/strconv.uint64pow10", "math/bits.deBruijn32tab", "math/bits.deBruijn64tab"], apart := false, laid := [("math/bits.deBruijn32tab", laid_math_bits_deBruijn32tab), ("math/bits.deBruijn64tab", laid_math_bits_deBruijn64tab), ("internal/strconv.uint64pow10", laid_internal_strconv_uint64pow10), ("strconv.ErrRange", laid_strconv_ErrRange), ("strconv.ErrSyntax", laid_strconv_ErrSyntax)], narrowed := true }
def FactsStatesUptoSaid : Prop := factsStatesUptoRow.holds Tryz.pinned (OpenSpec.upto factsStatesSpec)

/-- 'sennetlaw01.FactsPairs', WHERE WHAT IT READS IS OF BULK AT MOST 1048576: true; the input reads as it did. -/
def factsPairsUptoRow : OpenClaim := { program := "ythpdkdmbfdmamaagreatdoor", sum := "475924cfedd9a07d4728405c9ecfffbfbd80efb96e7c982f10fdc94e59a4054d", func := "sennet/sennetlaw01.FactsPairs", spec := "factsPairs", inPlace := ["internal/bytealg.IndexByteString", "internal/bytealg.IndexString", "internal/abi.NoEscape", "internal/bytealg.MakeNoZero"], unfollowed := true, recurses := true, named := ["internal/bytealg.MaxLen", "strconv.ErrSyntax", "strconv.ErrRange", "internal/strconv.uint64pow10", "math/bits.deBruijn32tab", "math/bits.deBruijn64tab"], apart := false, laid := [("math/bits.deBruijn32tab", laid_math_bits_deBruijn32tab), ("math/bits.deBruijn64tab", laid_math_bits_deBruijn64tab), ("internal/strconv.uint64pow10", laid_internal_strconv_uint64pow10), ("strconv.ErrRange", laid_strconv_ErrRange), ("strconv.ErrSyntax", laid_strconv_ErrSyntax)], narrowed := true }
def FactsPairsUptoSaid : Prop := factsPairsUptoRow.holds Tryz.pinned (OpenSpec.upto factsPairsSpec)

/-- 'sennetlaw01.FactsOffices', WHERE WHAT IT READS IS OF BULK AT MOST 1048576: true; the input reads as it did. -/
def factsOfficesUptoRow : OpenClaim := { program := "ythpdkdmbfdmamaagreatdoor", sum := "475924cfedd9a07d4728405c9ecfffbfbd80efb96e7c982f10fdc94e59a4054d", func := "sennet/sennetlaw01.FactsOffices", spec := "factsOffices", inPlace := ["internal/bytealg.IndexByteString", "internal/bytealg.IndexString", "internal/abi.NoEscape", "internal/bytealg.MakeNoZero"], unfollowed := true, recurses := true, named := ["internal/bytealg.MaxLen", "strconv.ErrSyntax", "strconv.ErrRange", "internal/strconv.uint64pow10", "math/bits.deBruijn32tab", "math/bits.deBruijn64tab"], apart := false, laid := [("math/bits.deBruijn32tab", laid_math_bits_deBruijn32tab), ("math/bits.deBruijn64tab", laid_math_bits_deBruijn64tab), ("internal/strconv.uint64pow10", laid_internal_strconv_uint64pow10), ("strconv.ErrRange", laid_strconv_ErrRange), ("strconv.ErrSyntax", laid_strconv_ErrSyntax)], narrowed := true }
def FactsOfficesUptoSaid : Prop := factsOfficesUptoRow.holds Tryz.pinned (OpenSpec.upto factsOfficesSpec)

/-- 'sennetlaw01.FactsClasses', WHERE WHAT IT READS IS OF BULK AT MOST 1048576: true; the input reads as it did. -/
def factsClassesUptoRow : OpenClaim := { program := "ythpdkdmbfdmamaagreatdoor", sum := "475924cfedd9a07d4728405c9ecfffbfbd80efb96e7c982f10fdc94e59a4054d", func := "sennet/sennetlaw01.FactsClasses", spec := "factsClasses", inPlace := ["internal/bytealg.IndexByteString", "internal/bytealg.IndexString", "internal/abi.NoEscape", "internal/bytealg.MakeNoZero"], unfollowed := true, recurses := true, named := ["internal/bytealg.MaxLen", "strconv.ErrSyntax", "strconv.ErrRange", "internal/strconv.uint64pow10", "math/bits.deBruijn32tab", "math/bits.deBruijn64tab"], apart := false, laid := [("math/bits.deBruijn32tab", laid_math_bits_deBruijn32tab), ("math/bits.deBruijn64tab", laid_math_bits_deBruijn64tab), ("internal/strconv.uint64pow10", laid_internal_strconv_uint64pow10), ("strconv.ErrRange", laid_strconv_ErrRange), ("strconv.ErrSyntax", laid_strconv_ErrSyntax)], narrowed := true }
def FactsClassesUptoSaid : Prop := factsClassesUptoRow.holds Tryz.pinned (OpenSpec.upto factsClassesSpec)

/-- 'sennetlaw01.FactsPersons', WHERE WHAT IT READS IS OF BULK AT MOST 1048576: true; the input reads as it did. -/
def factsPersonsUptoRow : OpenClaim := { program := "ythpdkdmbfdmamaagreatdoor", sum := "475924cfedd9a07d4728405c9ecfffbfbd80efb96e7c982f10fdc94e59a4054d", func := "sennet/sennetlaw01.FactsPersons", spec := "factsPersons", inPlace := ["internal/bytealg.IndexByteString", "internal/bytealg.IndexString", "internal/abi.NoEscape", "internal/bytealg.MakeNoZero"], unfollowed := true, recurses := true, named := ["internal/bytealg.MaxLen", "strconv.ErrSyntax", "strconv.ErrRange", "internal/strconv.uint64pow10", "math/bits.deBruijn32tab", "math/bits.deBruijn64tab"], apart := false, laid := [("math/bits.deBruijn32tab", laid_math_bits_deBruijn32tab), ("math/bits.deBruijn64tab", laid_math_bits_deBruijn64tab), ("internal/strconv.uint64pow10", laid_internal_strconv_uint64pow10), ("strconv.ErrRange", laid_strconv_ErrRange), ("strconv.ErrSyntax", laid_strconv_ErrSyntax)], narrowed := true }
def FactsPersonsUptoSaid : Prop := factsPersonsUptoRow.holds Tryz.pinned (OpenSpec.upto factsPersonsSpec)

/-- 'sennetlaw01.FactsClocks', WHERE WHAT IT READS IS OF BULK AT MOST 1048576: true; the input reads as it did. -/
def factsClocksUptoRow : OpenClaim := { program := "ythpdkdmbfdmamaagreatdoor", sum := "475924cfedd9a07d4728405c9ecfffbfbd80efb96e7c982f10fdc94e59a4054d", func := "sennet/sennetlaw01.FactsClocks", spec := "factsClocks", inPlace := ["internal/bytealg.IndexByteString", "internal/bytealg.IndexString", "internal/abi.NoEscape", "internal/bytealg.MakeNoZero"], unfollowed := true, recurses := true, named := ["internal/bytealg.MaxLen", "strconv.ErrSyntax", "strconv.ErrRange", "internal/strconv.uint64pow10", "math/bits.deBruijn32tab", "math/bits.deBruijn64tab"], apart := false, laid := [("math/bits.deBruijn32tab", laid_math_bits_deBruijn32tab), ("math/bits.deBruijn64tab", laid_math_bits_deBruijn64tab), ("internal/strconv.uint64pow10", laid_internal_strconv_uint64pow10), ("strconv.ErrRange", laid_strconv_ErrRange), ("strconv.ErrSyntax", laid_strconv_ErrSyntax)], narrowed := true }
def FactsClocksUptoSaid : Prop := factsClocksUptoRow.holds Tryz.pinned (OpenSpec.upto factsClocksSpec)

/-- 'sennetlaw01.FactsStill', WHERE WHAT IT READS IS OF BULK AT MOST 1048576: true; the input reads as it did. -/
def factsStillUptoRow : OpenClaim := { program := "ythpdkdmbfdmamaagreatdoor", sum := "475924cfedd9a07d4728405c9ecfffbfbd80efb96e7c982f10fdc94e59a4054d", func := "sennet/sennetlaw01.FactsStill", spec := "factsStill", inPlace := ["internal/bytealg.IndexByteString", "internal/bytealg.IndexString", "internal/abi.NoEscape", "internal/bytealg.MakeNoZero"], unfollowed := true, recurses := true, named := ["internal/bytealg.MaxLen", "strconv.ErrSyntax", "strconv.ErrRange", "internal/strconv.uint64pow10", "math/bits.deBruijn32tab", "math/bits.deBruijn64tab"], apart := false, laid := [("math/bits.deBruijn32tab", laid_math_bits_deBruijn32tab), ("math/bits.deBruijn64tab", laid_math_bits_deBruijn64tab), ("internal/strconv.uint64pow10", laid_internal_strconv_uint64pow10), ("strconv.ErrRange", laid_strconv_ErrRange), ("strconv.ErrSyntax", laid_strconv_ErrSyntax)], narrowed := true }
def FactsStillUptoSaid : Prop := factsStillUptoRow.holds Tryz.pinned (OpenSpec.upto factsStillSpec)

/-- 'sennetlaw01.FactsMemory', WHERE WHAT IT READS IS OF BULK AT MOST 1048576: true; the input reads as it did. -/
def factsMemoryUptoRow : OpenClaim := { program := "ythpdkdmbfdmamaagreatdoor", sum := "475924cfedd9a07d4728405c9ecfffbfbd80efb96e7c982f10fdc94e59a4054d", func := "sennet/sennetlaw01.FactsMemory", spec := "factsMemory", inPlace := ["internal/bytealg.IndexByteString", "internal/bytealg.IndexString", "internal/abi.NoEscape", "internal/bytealg.MakeNoZero"], unfollowed := true, recurses := true, named := ["internal/bytealg.MaxLen", "strconv.ErrSyntax", "strconv.ErrRange", "internal/strconv.uint64pow10", "math/bits.deBruijn32tab", "math/bits.deBruijn64tab"], apart := false, laid := [("math/bits.deBruijn32tab", laid_math_bits_deBruijn32tab), ("math/bits.deBruijn64tab", laid_math_bits_deBruijn64tab), ("internal/strconv.uint64pow10", laid_internal_strconv_uint64pow10), ("strconv.ErrRange", laid_strconv_ErrRange), ("strconv.ErrSyntax", laid_strconv_ErrSyntax)], narrowed := true }
def FactsMemoryUptoSaid : Prop := factsMemoryUptoRow.holds Tryz.pinned (OpenSpec.upto factsMemorySpec)

end Rows
end Go.Proofs.YthpdkdmbfdmamaaGreatDoor
