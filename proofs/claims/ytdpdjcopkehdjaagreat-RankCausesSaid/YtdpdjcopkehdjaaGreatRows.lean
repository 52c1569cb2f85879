/-
  NARROWER THAN 'FOR EVERY INPUT', by the rows' own cells (each row's printed sentence says how): RankRelates: loops · RankTime: loops · RankDecides: loops · RankCauses: loops · RankCaused: loops.
  DERIVED. THE GIVEN ROWS OF THIS SEAT. 7 by the template 'for every input the law returns true; each argument reads behind the call as it read before'; 0 by the template 'total and deterministic' (their statements: YtdpdjcopkehdjaaGreatTotals.lean).
  GIVEN WITH THE SEED: the statements are not yours to turn. If you find one false, say at which input.
  Laid BY PROGRAM, IN A SANDBOX (cutbox-rows.mjs): the forced cells as the released guide's own fill.sh prints them over the translation 7bee6fbd51766208… (all of the seat's roots in one cut). By AI agents, Wed Nov 11 2026. No macro, syntax, notation, axiom, sorry.
-/
import Derived.Test.YtdpdjcopkehdjaaGreatChecked
import GoSem.Claim
import GoSem.ClaimJoined
import GoSem.ClaimMapViews
import Derived.JoinedTies
import Derived.KernelRfl
namespace Go.Proofs.YtdpdjcopkehdjaaGreat
/- THE CELL 'sum', in the pinned program and in every row, IS THE sha256 OF THE DUMP (.gsa) THAT YtdpdjcopkehdjaaGreatProg.lean LOADS. Nothing in Lean hashes anything: it is a label: what it is worth is what the hold of that sum in a sandbox is worth. -/
noncomputable def Tryz.pinned : Pinned := { name := "ytdpdjcopkehdjaagreat", sum := "7bee6fbd51766208e6e1c567a32395515f09aa35fea93e6743c6a5ecabda2ef4", checked := Tryz.checked }
namespace Rows
def none {H : Type} : Left H := { results := [], args := [] }

/-- 'sennetlaw03.RankLot': WHATEVER THE INPUT: true; the input reads as it did. -/
def rankLotSpec : ChangeSpec := { name := "rankLot", fn := fun _ => fun
  | [d1, d2, d3, d4] => { results := [.lit (.bool true)], args := [d1, d2, d3, d4] }
  | _ => none }
def rankLotRow : OpenClaim := { program := "ytdpdjcopkehdjaagreat", sum := "7bee6fbd51766208e6e1c567a32395515f09aa35fea93e6743c6a5ecabda2ef4", func := "sennet/sennetlaw03.RankLot", spec := "rankLot", unfollowed := true, recurses := true, plainKeys := false, apart := false }
def RankLotSaid : Prop := rankLotRow.holds Tryz.pinned (OpenSpec.ofChange rankLotSpec)

/-- ITS FALSE NEIGHBOUR: 'it returns false'. Refute it at one input. -/
def rankLotWrong : ChangeSpec := { name := "rankLot", fn := fun _ => fun
  | [d1, d2, d3, d4] => { results := [.lit (.bool false)], args := [d1, d2, d3, d4] }
  | _ => none }
def RankLotWrongFalsely : Prop := rankLotRow.holds Tryz.pinned (OpenSpec.ofChange rankLotWrong)

/-- 'sennetlaw03.RankProfiles': WHATEVER THE INPUT: true; the input reads as it did. -/
def rankProfilesSpec : ChangeSpec := { name := "rankProfiles", fn := fun _ => fun
  | [d1, d2, d3] => { results := [.lit (.bool true)], args := [d1, d2, d3] }
  | _ => none }
def rankProfilesRow : OpenClaim := { program := "ytdpdjcopkehdjaagreat", sum := "7bee6fbd51766208e6e1c567a32395515f09aa35fea93e6743c6a5ecabda2ef4", func := "sennet/sennetlaw03.RankProfiles", spec := "rankProfiles", unfollowed := true, recurses := true, plainKeys := false, apart := false }
def RankProfilesSaid : Prop := rankProfilesRow.holds Tryz.pinned (OpenSpec.ofChange rankProfilesSpec)

/-- ITS FALSE NEIGHBOUR: 'it returns false'. Refute it at one input. -/
def rankProfilesWrong : ChangeSpec := { name := "rankProfiles", fn := fun _ => fun
  | [d1, d2, d3] => { results := [.lit (.bool false)], args := [d1, d2, d3] }
  | _ => none }
def RankProfilesWrongFalsely : Prop := rankProfilesRow.holds Tryz.pinned (OpenSpec.ofChange rankProfilesWrong)

/-- 'sennetlaw03.RankRelates': WHATEVER THE INPUT: true; the input reads as it did. -/
def rankRelatesSpec : ChangeSpec := { name := "rankRelates", fn := fun _ => fun
  | [d1, d2, d3, d4, d5] => { results := [.lit (.bool true)], args := [d1, d2, d3, d4, d5] }
  | _ => none }
def rankRelatesRow : OpenClaim := { program := "ytdpdjcopkehdjaagreat", sum := "7bee6fbd51766208e6e1c567a32395515f09aa35fea93e6743c6a5ecabda2ef4", func := "sennet/sennetlaw03.RankRelates", spec := "rankRelates", unfollowed := true, recurses := true, loops := true, plainKeys := false, apart := false }
def RankRelatesSaid : Prop := rankRelatesRow.holds Tryz.pinned (OpenSpec.ofChange rankRelatesSpec)

/-- ITS FALSE NEIGHBOUR: 'it returns false'. Refute it at one input. -/
def rankRelatesWrong : ChangeSpec := { name := "rankRelates", fn := fun _ => fun
  | [d1, d2, d3, d4, d5] => { results := [.lit (.bool false)], args := [d1, d2, d3, d4, d5] }
  | _ => none }
def RankRelatesWrongFalsely : Prop := rankRelatesRow.holds Tryz.pinned (OpenSpec.ofChange rankRelatesWrong)

/-- 'sennetlaw03.RankTime': WHATEVER THE INPUT: true; the input reads as it did. -/
def rankTimeSpec : ChangeSpec := { name := "rankTime", fn := fun _ => fun
  | [d1, d2, d3, d4, d5] => { results := [.lit (.bool true)], args := [d1, d2, d3, d4, d5] }
  | _ => none }
def rankTimeRow : OpenClaim := { program := "ytdpdjcopkehdjaagreat", sum := "7bee6fbd51766208e6e1c567a32395515f09aa35fea93e6743c6a5ecabda2ef4", func := "sennet/sennetlaw03.RankTime", spec := "rankTime", unfollowed := true, recurses := true, loops := true, plainKeys := false, apart := false }
def RankTimeSaid : Prop := rankTimeRow.holds Tryz.pinned (OpenSpec.ofChange rankTimeSpec)

/-- ITS FALSE NEIGHBOUR: 'it returns false'. Refute it at one input. -/
def rankTimeWrong : ChangeSpec := { name := "rankTime", fn := fun _ => fun
  | [d1, d2, d3, d4, d5] => { results := [.lit (.bool false)], args := [d1, d2, d3, d4, d5] }
  | _ => none }
def RankTimeWrongFalsely : Prop := rankTimeRow.holds Tryz.pinned (OpenSpec.ofChange rankTimeWrong)

/-- 'sennetlaw03.RankDecides': WHATEVER THE INPUT: true; the input reads as it did. -/
def rankDecidesSpec : ChangeSpec := { name := "rankDecides", fn := fun _ => fun
  | [d1, d2, d3, d4, d5] => { results := [.lit (.bool true)], args := [d1, d2, d3, d4, d5] }
  | _ => none }
def rankDecidesRow : OpenClaim := { program := "ytdpdjcopkehdjaagreat", sum := "7bee6fbd51766208e6e1c567a32395515f09aa35fea93e6743c6a5ecabda2ef4", func := "sennet/sennetlaw03.RankDecides", spec := "rankDecides", unfollowed := true, recurses := true, loops := true, plainKeys := false, apart := false }
def RankDecidesSaid : Prop := rankDecidesRow.holds Tryz.pinned (OpenSpec.ofChange rankDecidesSpec)

/-- ITS FALSE NEIGHBOUR: 'it returns false'. Refute it at one input. -/
def rankDecidesWrong : ChangeSpec := { name := "rankDecides", fn := fun _ => fun
  | [d1, d2, d3, d4, d5] => { results := [.lit (.bool false)], args := [d1, d2, d3, d4, d5] }
  | _ => none }
def RankDecidesWrongFalsely : Prop := rankDecidesRow.holds Tryz.pinned (OpenSpec.ofChange rankDecidesWrong)

/-- 'sennetlaw03.RankCauses': WHATEVER THE INPUT: true; the input reads as it did. -/
def rankCausesSpec : ChangeSpec := { name := "rankCauses", fn := fun _ => fun
  | [d1, d2, d3, d4, d5, d6, d7] => { results := [.lit (.bool true)], args := [d1, d2, d3, d4, d5, d6, d7] }
  | _ => none }
def rankCausesRow : OpenClaim := { program := "ytdpdjcopkehdjaagreat", sum := "7bee6fbd51766208e6e1c567a32395515f09aa35fea93e6743c6a5ecabda2ef4", func := "sennet/sennetlaw03.RankCauses", spec := "rankCauses", unfollowed := true, recurses := true, loops := true, plainKeys := false, apart := false }
def RankCausesSaid : Prop := rankCausesRow.holds Tryz.pinned (OpenSpec.ofChange rankCausesSpec)

/-- ITS FALSE NEIGHBOUR: 'it returns false'. Refute it at one input. -/
def rankCausesWrong : ChangeSpec := { name := "rankCauses", fn := fun _ => fun
  | [d1, d2, d3, d4, d5, d6, d7] => { results := [.lit (.bool false)], args := [d1, d2, d3, d4, d5, d6, d7] }
  | _ => none }
def RankCausesWrongFalsely : Prop := rankCausesRow.holds Tryz.pinned (OpenSpec.ofChange rankCausesWrong)

/-- 'sennetlaw03.RankCaused': WHATEVER THE INPUT: true; the input reads as it did. -/
def rankCausedSpec : ChangeSpec := { name := "rankCaused", fn := fun _ => fun
  | [d1, d2, d3, d4, d5, d6, d7] => { results := [.lit (.bool true)], args := [d1, d2, d3, d4, d5, d6, d7] }
  | _ => none }
def rankCausedRow : OpenClaim := { program := "ytdpdjcopkehdjaagreat", sum := "7bee6fbd51766208e6e1c567a32395515f09aa35fea93e6743c6a5ecabda2ef4", func := "sennet/sennetlaw03.RankCaused", spec := "rankCaused", unfollowed := true, recurses := true, loops := true, plainKeys := false, apart := false }
def RankCausedSaid : Prop := rankCausedRow.holds Tryz.pinned (OpenSpec.ofChange rankCausedSpec)

/-- ITS FALSE NEIGHBOUR: 'it returns false'. Refute it at one input. -/
def rankCausedWrong : ChangeSpec := { name := "rankCaused", fn := fun _ => fun
  | [d1, d2, d3, d4, d5, d6, d7] => { results := [.lit (.bool false)], args := [d1, d2, d3, d4, d5, d6, d7] }
  | _ => none }
def RankCausedWrongFalsely : Prop := rankCausedRow.holds Tryz.pinned (OpenSpec.ofChange rankCausedWrong)

/- THE SECOND FORM. 'bulk': how many values and letters a reading holds, each counted each time it is reached (what is shared counts as often as it is met; a slice's spare places count too). A statement '..UptoSaid' is the law's where the arguments, and the package variables that the reading takes, are together of bulk at most 1048576: NARROWER than '..Said'. Prove '..Said' where nothing that the law and all that it calls make is longer than what came in: it says more and counts as full. Else prove '..UptoSaid'. A law counts once. -/
mutual
def uptoBulk {H : Type} : DataW H → Nat
  | .lit (.string bytes) => bytes.length + 1
  | .lit _ => 1
  | .nil => 1
  | .ptr d => uptoBulk d + 1
  | .slice elems spare => uptoBulkAll elems + uptoBulkAll spare + 1
  | .agg parts => uptoBulkAll parts + 1
  | .iface _ d => uptoBulk d + 1
  | .map entries => uptoBulkEntries entries + 1
  | .held _ => 1
def uptoBulkAll {H : Type} : List (DataW H) → Nat
  | [] => 0
  | d :: r => uptoBulk d + uptoBulkAll r
def uptoBulkEntries {H : Type} : List (Lit × DataW H) → Nat
  | [] => 0
  | x :: r => uptoBulkEntry x + uptoBulkEntries r
def uptoBulkEntry {H : Type} : Lit × DataW H → Nat
  | (.string bytes, d) => bytes.length + uptoBulk d + 1
  | (_, d) => uptoBulk d + 1
 end
def uptoSmall : (H : Type) → List (DataW H) → Bool := fun _ ds => decide (uptoBulkAll ds ≤ 1048576)
def OpenSpec.upto (s : _root_.Go.ChangeSpec) : _root_.Go.OpenSpec := { _root_.Go.OpenSpec.ofChange s with cond := some uptoSmall }

/-- 'sennetlaw03.RankLot', WHERE WHAT IT READS IS OF BULK AT MOST 1048576: true; the input reads as it did. -/
def rankLotUptoRow : OpenClaim := { program := "ytdpdjcopkehdjaagreat", sum := "7bee6fbd51766208e6e1c567a32395515f09aa35fea93e6743c6a5ecabda2ef4", func := "sennet/sennetlaw03.RankLot", spec := "rankLot", unfollowed := true, recurses := true, plainKeys := false, apart := false, narrowed := true }
def RankLotUptoSaid : Prop := rankLotUptoRow.holds Tryz.pinned (OpenSpec.upto rankLotSpec)

/-- 'sennetlaw03.RankProfiles', WHERE WHAT IT READS IS OF BULK AT MOST 1048576: true; the input reads as it did. -/
def rankProfilesUptoRow : OpenClaim := { program := "ytdpdjcopkehdjaagreat", sum := "7bee6fbd51766208e6e1c567a32395515f09aa35fea93e6743c6a5ecabda2ef4", func := "sennet/sennetlaw03.RankProfiles", spec := "rankProfiles", unfollowed := true, recurses := true, plainKeys := false, apart := false, narrowed := true }
def RankProfilesUptoSaid : Prop := rankProfilesUptoRow.holds Tryz.pinned (OpenSpec.upto rankProfilesSpec)

/-- 'sennetlaw03.RankRelates', WHERE WHAT IT READS IS OF BULK AT MOST 1048576: true; the input reads as it did. -/
def rankRelatesUptoRow : OpenClaim := { program := "ytdpdjcopkehdjaagreat", sum := "7bee6fbd51766208e6e1c567a32395515f09aa35fea93e6743c6a5ecabda2ef4", func := "sennet/sennetlaw03.RankRelates", spec := "rankRelates", unfollowed := true, recurses := true, loops := true, plainKeys := false, apart := false, narrowed := true }
def RankRelatesUptoSaid : Prop := rankRelatesUptoRow.holds Tryz.pinned (OpenSpec.upto rankRelatesSpec)

/-- 'sennetlaw03.RankTime', WHERE WHAT IT READS IS OF BULK AT MOST 1048576: true; the input reads as it did. -/
def rankTimeUptoRow : OpenClaim := { program := "ytdpdjcopkehdjaagreat", sum := "7bee6fbd51766208e6e1c567a32395515f09aa35fea93e6743c6a5ecabda2ef4", func := "sennet/sennetlaw03.RankTime", spec := "rankTime", unfollowed := true, recurses := true, loops := true, plainKeys := false, apart := false, narrowed := true }
def RankTimeUptoSaid : Prop := rankTimeUptoRow.holds Tryz.pinned (OpenSpec.upto rankTimeSpec)

/-- 'sennetlaw03.RankDecides', WHERE WHAT IT READS IS OF BULK AT MOST 1048576: true; the input reads as it did. -/
def rankDecidesUptoRow : OpenClaim := { program := "ytdpdjcopkehdjaagreat", sum := "7bee6fbd51766208e6e1c567a32395515f09aa35fea93e6743c6a5ecabda2ef4", func := "sennet/sennetlaw03.RankDecides", spec := "rankDecides", unfollowed := true, recurses := true, loops := true, plainKeys := false, apart := false, narrowed := true }
def RankDecidesUptoSaid : Prop := rankDecidesUptoRow.holds Tryz.pinned (OpenSpec.upto rankDecidesSpec)

/-- 'sennetlaw03.RankCauses', WHERE WHAT IT READS IS OF BULK AT MOST 1048576: true; the input reads as it did. -/
def rankCausesUptoRow : OpenClaim := { program := "ytdpdjcopkehdjaagreat", sum := "7bee6fbd51766208e6e1c567a32395515f09aa35fea93e6743c6a5ecabda2ef4", func := "sennet/sennetlaw03.RankCauses", spec := "rankCauses", unfollowed := true, recurses := true, loops := true, plainKeys := false, apart := false, narrowed := true }
def RankCausesUptoSaid : Prop := rankCausesUptoRow.holds Tryz.pinned (OpenSpec.upto rankCausesSpec)

/-- 'sennetlaw03.RankCaused', WHERE WHAT IT READS IS OF BULK AT MOST 1048576: true; the input reads as it did. -/
def rankCausedUptoRow : OpenClaim := { program := "ytdpdjcopkehdjaagreat", sum := "7bee6fbd51766208e6e1c567a32395515f09aa35fea93e6743c6a5ecabda2ef4", func := "sennet/sennetlaw03.RankCaused", spec := "rankCaused", unfollowed := true, recurses := true, loops := true, plainKeys := false, apart := false, narrowed := true }
def RankCausedUptoSaid : Prop := rankCausedUptoRow.holds Tryz.pinned (OpenSpec.upto rankCausedSpec)

end Rows
end Go.Proofs.YtdpdjcopkehdjaaGreat
