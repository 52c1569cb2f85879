/-
  No cell of these rows narrows 'for every input' (looked for: loops, veiled, ifaces, maps, wideKeys, modest, calm, conditions, laid).
  DERIVED. THE GIVEN ROWS OF THIS SEAT. 11 by the template 'for every input the law returns true; each argument reads behind the call as it read before'; 0 by the template 'total and deterministic' (their statements: YtdfhfehlmonjjaaTotals.lean).
  GIVEN WITH THE SEED: the statements are not yours to turn. If you find one false, say at which input.
  Laid BY PROGRAM, IN A SANDBOX (cutbox-rows.mjs): the forced cells as the released guide's own fill.sh prints them over the translation 32558f1e5edb01c0… (all of the seat's roots in one cut). By AI agents, Wed Nov 11 2026. No macro, syntax, notation, axiom, sorry.
-/
import Derived.Test.YtdfhfehlmonjjaaChecked
import GoSem.Claim
import GoSem.ClaimJoined
import GoSem.ClaimMapViews
import Derived.JoinedTies
import Derived.KernelRfl
namespace Go.Proofs.Ytdfhfehlmonjjaa
/- THE CELL 'sum', in the pinned program and in every row, IS THE sha256 OF THE DUMP (.gsa) THAT YtdfhfehlmonjjaaProg.lean LOADS. Nothing in Lean hashes anything: it is a label: what it is worth is what the hold of that sum in a sandbox is worth. -/
noncomputable def Try.pinned : Pinned := { name := "ytdfhfehlmonjjaa", sum := "32558f1e5edb01c04c923b02745e4b7c6772163ff30c88755003155818d13f39", checked := Try.checked }
namespace Rows
def none {H : Type} : Left H := { results := [], args := [] }

/-- 'sennetlaw03.RankStands': WHATEVER THE INPUT: true; the input reads as it did. -/
def rankStandsSpec : ChangeSpec := { name := "rankStands", fn := fun _ => fun
  | [d] => { results := [.lit (.bool true)], args := [d] }
  | _ => none }
def rankStandsRow : OpenClaim := { program := "ytdfhfehlmonjjaa", sum := "32558f1e5edb01c04c923b02745e4b7c6772163ff30c88755003155818d13f39", func := "sennet/sennetlaw03.RankStands", spec := "rankStands", unfollowed := true, recurses := true, plainKeys := false, apart := false }
def RankStandsSaid : Prop := rankStandsRow.holds Try.pinned (OpenSpec.ofChange rankStandsSpec)

/-- ITS FALSE NEIGHBOUR: 'it returns false'. Refute it at one input. -/
def rankStandsWrong : ChangeSpec := { name := "rankStands", fn := fun _ => fun
  | [d] => { results := [.lit (.bool false)], args := [d] }
  | _ => none }
def RankStandsWrongFalsely : Prop := rankStandsRow.holds Try.pinned (OpenSpec.ofChange rankStandsWrong)

/-- 'sennetlaw03.RankTransitive': WHATEVER THE INPUT: true; the input reads as it did. -/
def rankTransitiveSpec : ChangeSpec := { name := "rankTransitive", fn := fun _ => fun
  | [d1, d2, d3, d4] => { results := [.lit (.bool true)], args := [d1, d2, d3, d4] }
  | _ => none }
def rankTransitiveRow : OpenClaim := { program := "ytdfhfehlmonjjaa", sum := "32558f1e5edb01c04c923b02745e4b7c6772163ff30c88755003155818d13f39", func := "sennet/sennetlaw03.RankTransitive", spec := "rankTransitive", unfollowed := true, recurses := true, plainKeys := false, apart := false }
def RankTransitiveSaid : Prop := rankTransitiveRow.holds Try.pinned (OpenSpec.ofChange rankTransitiveSpec)

/-- ITS FALSE NEIGHBOUR: 'it returns false'. Refute it at one input. -/
def rankTransitiveWrong : ChangeSpec := { name := "rankTransitive", fn := fun _ => fun
  | [d1, d2, d3, d4] => { results := [.lit (.bool false)], args := [d1, d2, d3, d4] }
  | _ => none }
def RankTransitiveWrongFalsely : Prop := rankTransitiveRow.holds Try.pinned (OpenSpec.ofChange rankTransitiveWrong)

/-- 'sennetlaw03.RankChains': WHATEVER THE INPUT: true; the input reads as it did. -/
def rankChainsSpec : ChangeSpec := { name := "rankChains", fn := fun _ => fun
  | [d1, d2, d3, d4] => { results := [.lit (.bool true)], args := [d1, d2, d3, d4] }
  | _ => none }
def rankChainsRow : OpenClaim := { program := "ytdfhfehlmonjjaa", sum := "32558f1e5edb01c04c923b02745e4b7c6772163ff30c88755003155818d13f39", func := "sennet/sennetlaw03.RankChains", spec := "rankChains", unfollowed := true, recurses := true, plainKeys := false, apart := false }
def RankChainsSaid : Prop := rankChainsRow.holds Try.pinned (OpenSpec.ofChange rankChainsSpec)

/-- ITS FALSE NEIGHBOUR: 'it returns false'. Refute it at one input. -/
def rankChainsWrong : ChangeSpec := { name := "rankChains", fn := fun _ => fun
  | [d1, d2, d3, d4] => { results := [.lit (.bool false)], args := [d1, d2, d3, d4] }
  | _ => none }
def RankChainsWrongFalsely : Prop := rankChainsRow.holds Try.pinned (OpenSpec.ofChange rankChainsWrong)

/-- 'sennetlaw03.RankSettles': WHATEVER THE INPUT: true; the input reads as it did. -/
def rankSettlesSpec : ChangeSpec := { name := "rankSettles", fn := fun _ => fun
  | [d] => { results := [.lit (.bool true)], args := [d] }
  | _ => none }
def rankSettlesRow : OpenClaim := { program := "ytdfhfehlmonjjaa", sum := "32558f1e5edb01c04c923b02745e4b7c6772163ff30c88755003155818d13f39", func := "sennet/sennetlaw03.RankSettles", spec := "rankSettles", unfollowed := true, recurses := true, plainKeys := false, apart := false }
def RankSettlesSaid : Prop := rankSettlesRow.holds Try.pinned (OpenSpec.ofChange rankSettlesSpec)

/-- ITS FALSE NEIGHBOUR: 'it returns false'. Refute it at one input. -/
def rankSettlesWrong : ChangeSpec := { name := "rankSettles", fn := fun _ => fun
  | [d] => { results := [.lit (.bool false)], args := [d] }
  | _ => none }
def RankSettlesWrongFalsely : Prop := rankSettlesRow.holds Try.pinned (OpenSpec.ofChange rankSettlesWrong)

/-- 'sennetlaw03.RankWhole': WHATEVER THE INPUT: true; the input reads as it did. -/
def rankWholeSpec : ChangeSpec := { name := "rankWhole", fn := fun _ => fun
  | [d] => { results := [.lit (.bool true)], args := [d] }
  | _ => none }
def rankWholeRow : OpenClaim := { program := "ytdfhfehlmonjjaa", sum := "32558f1e5edb01c04c923b02745e4b7c6772163ff30c88755003155818d13f39", func := "sennet/sennetlaw03.RankWhole", spec := "rankWhole", unfollowed := true, recurses := true, plainKeys := false, apart := false }
def RankWholeSaid : Prop := rankWholeRow.holds Try.pinned (OpenSpec.ofChange rankWholeSpec)

/-- ITS FALSE NEIGHBOUR: 'it returns false'. Refute it at one input. -/
def rankWholeWrong : ChangeSpec := { name := "rankWhole", fn := fun _ => fun
  | [d] => { results := [.lit (.bool false)], args := [d] }
  | _ => none }
def RankWholeWrongFalsely : Prop := rankWholeRow.holds Try.pinned (OpenSpec.ofChange rankWholeWrong)

/-- 'sennetlaw03.RankChecks': WHATEVER THE INPUT: true; the input reads as it did. -/
def rankChecksSpec : ChangeSpec := { name := "rankChecks", fn := fun _ => fun
  | [d1, d2, d3] => { results := [.lit (.bool true)], args := [d1, d2, d3] }
  | _ => none }
def rankChecksRow : OpenClaim := { program := "ytdfhfehlmonjjaa", sum := "32558f1e5edb01c04c923b02745e4b7c6772163ff30c88755003155818d13f39", func := "sennet/sennetlaw03.RankChecks", spec := "rankChecks", unfollowed := true, recurses := true, plainKeys := false, apart := false }
def RankChecksSaid : Prop := rankChecksRow.holds Try.pinned (OpenSpec.ofChange rankChecksSpec)

/-- ITS FALSE NEIGHBOUR: 'it returns false'. Refute it at one input. -/
def rankChecksWrong : ChangeSpec := { name := "rankChecks", fn := fun _ => fun
  | [d1, d2, d3] => { results := [.lit (.bool false)], args := [d1, d2, d3] }
  | _ => none }
def RankChecksWrongFalsely : Prop := rankChecksRow.holds Try.pinned (OpenSpec.ofChange rankChecksWrong)

/-- 'sennetlaw03.RankArrows': WHATEVER THE INPUT: true; the input reads as it did. -/
def rankArrowsSpec : ChangeSpec := { name := "rankArrows", fn := fun _ => fun
  | [d1, d2, d3, d4] => { results := [.lit (.bool true)], args := [d1, d2, d3, d4] }
  | _ => none }
def rankArrowsRow : OpenClaim := { program := "ytdfhfehlmonjjaa", sum := "32558f1e5edb01c04c923b02745e4b7c6772163ff30c88755003155818d13f39", func := "sennet/sennetlaw03.RankArrows", spec := "rankArrows", unfollowed := true, recurses := true, plainKeys := false, apart := false }
def RankArrowsSaid : Prop := rankArrowsRow.holds Try.pinned (OpenSpec.ofChange rankArrowsSpec)

/-- ITS FALSE NEIGHBOUR: 'it returns false'. Refute it at one input. -/
def rankArrowsWrong : ChangeSpec := { name := "rankArrows", fn := fun _ => fun
  | [d1, d2, d3, d4] => { results := [.lit (.bool false)], args := [d1, d2, d3, d4] }
  | _ => none }
def RankArrowsWrongFalsely : Prop := rankArrowsRow.holds Try.pinned (OpenSpec.ofChange rankArrowsWrong)

/-- 'sennetlaw03.RankWaives': WHATEVER THE INPUT: true; the input reads as it did. -/
def rankWaivesSpec : ChangeSpec := { name := "rankWaives", fn := fun _ => fun
  | [d1, d2] => { results := [.lit (.bool true)], args := [d1, d2] }
  | _ => none }
def rankWaivesRow : OpenClaim := { program := "ytdfhfehlmonjjaa", sum := "32558f1e5edb01c04c923b02745e4b7c6772163ff30c88755003155818d13f39", func := "sennet/sennetlaw03.RankWaives", spec := "rankWaives", unfollowed := true, recurses := true, plainKeys := false, apart := false }
def RankWaivesSaid : Prop := rankWaivesRow.holds Try.pinned (OpenSpec.ofChange rankWaivesSpec)

/-- ITS FALSE NEIGHBOUR: 'it returns false'. Refute it at one input. -/
def rankWaivesWrong : ChangeSpec := { name := "rankWaives", fn := fun _ => fun
  | [d1, d2] => { results := [.lit (.bool false)], args := [d1, d2] }
  | _ => none }
def RankWaivesWrongFalsely : Prop := rankWaivesRow.holds Try.pinned (OpenSpec.ofChange rankWaivesWrong)

/-- 'sennetlaw03.RankComponents': WHATEVER THE INPUT: true; the input reads as it did. -/
def rankComponentsSpec : ChangeSpec := { name := "rankComponents", fn := fun _ => fun
  | [d] => { results := [.lit (.bool true)], args := [d] }
  | _ => none }
def rankComponentsRow : OpenClaim := { program := "ytdfhfehlmonjjaa", sum := "32558f1e5edb01c04c923b02745e4b7c6772163ff30c88755003155818d13f39", func := "sennet/sennetlaw03.RankComponents", spec := "rankComponents", unfollowed := true, recurses := true, plainKeys := false, apart := false }
def RankComponentsSaid : Prop := rankComponentsRow.holds Try.pinned (OpenSpec.ofChange rankComponentsSpec)

/-- ITS FALSE NEIGHBOUR: 'it returns false'. Refute it at one input. -/
def rankComponentsWrong : ChangeSpec := { name := "rankComponents", fn := fun _ => fun
  | [d] => { results := [.lit (.bool false)], args := [d] }
  | _ => none }
def RankComponentsWrongFalsely : Prop := rankComponentsRow.holds Try.pinned (OpenSpec.ofChange rankComponentsWrong)

/-- 'sennetlaw03.RankOthers': WHATEVER THE INPUT: true; the input reads as it did. -/
def rankOthersSpec : ChangeSpec := { name := "rankOthers", fn := fun _ => fun
  | [d1, d2, d3, d4] => { results := [.lit (.bool true)], args := [d1, d2, d3, d4] }
  | _ => none }
def rankOthersRow : OpenClaim := { program := "ytdfhfehlmonjjaa", sum := "32558f1e5edb01c04c923b02745e4b7c6772163ff30c88755003155818d13f39", func := "sennet/sennetlaw03.RankOthers", spec := "rankOthers", unfollowed := true, recurses := true, plainKeys := false, apart := false }
def RankOthersSaid : Prop := rankOthersRow.holds Try.pinned (OpenSpec.ofChange rankOthersSpec)

/-- ITS FALSE NEIGHBOUR: 'it returns false'. Refute it at one input. -/
def rankOthersWrong : ChangeSpec := { name := "rankOthers", fn := fun _ => fun
  | [d1, d2, d3, d4] => { results := [.lit (.bool false)], args := [d1, d2, d3, d4] }
  | _ => none }
def RankOthersWrongFalsely : Prop := rankOthersRow.holds Try.pinned (OpenSpec.ofChange rankOthersWrong)

/-- 'sennetlaw03.RankParts': WHATEVER THE INPUT: true; the input reads as it did. -/
def rankPartsSpec : ChangeSpec := { name := "rankParts", fn := fun _ => fun
  | [d1, d2] => { results := [.lit (.bool true)], args := [d1, d2] }
  | _ => none }
def rankPartsRow : OpenClaim := { program := "ytdfhfehlmonjjaa", sum := "32558f1e5edb01c04c923b02745e4b7c6772163ff30c88755003155818d13f39", func := "sennet/sennetlaw03.RankParts", spec := "rankParts", unfollowed := true, recurses := true, plainKeys := false, apart := false }
def RankPartsSaid : Prop := rankPartsRow.holds Try.pinned (OpenSpec.ofChange rankPartsSpec)

/-- ITS FALSE NEIGHBOUR: 'it returns false'. Refute it at one input. -/
def rankPartsWrong : ChangeSpec := { name := "rankParts", fn := fun _ => fun
  | [d1, d2] => { results := [.lit (.bool false)], args := [d1, d2] }
  | _ => none }
def RankPartsWrongFalsely : Prop := rankPartsRow.holds Try.pinned (OpenSpec.ofChange rankPartsWrong)

/- THE SECOND FORM. 'bulk': how many values and letters a reading holds, each counted each time it is reached (what is shared counts as often as it is met; a slice's spare places count too). A statement '..UptoSaid' is the law's where the arguments, and the package variables that the reading takes, are together of bulk at most 1048576: NARROWER than '..Said'. Prove '..Said' where nothing that the law and all that it calls make is longer than what came in: it says more and counts as full. Else prove '..UptoSaid'. A law counts once. -/
mutual
def uptoBulk {H : Type} : DataW H → Nat
  | .lit (.string bytes) => bytes.length + 1
  | .lit _ => 1
  | .nil => 1
  | .ptr d => uptoBulk d + 1
  | .slice elems spare => uptoBulkAll elems + uptoBulkAll spare + 1
  | .agg parts => uptoBulkAll parts + 1
  | .iface _ d => uptoBulk d + 1
  | .map entries => uptoBulkEntries entries + 1
  | .held _ => 1
def uptoBulkAll {H : Type} : List (DataW H) → Nat
  | [] => 0
  | d :: r => uptoBulk d + uptoBulkAll r
def uptoBulkEntries {H : Type} : List (Lit × DataW H) → Nat
  | [] => 0
  | x :: r => uptoBulkEntry x + uptoBulkEntries r
def uptoBulkEntry {H : Type} : Lit × DataW H → Nat
  | (.string bytes, d) => bytes.length + uptoBulk d + 1
  | (_, d) => uptoBulk d + 1
 end
def uptoSmall : (H : Type) → List (DataW H) → Bool := fun _ ds => decide (uptoBulkAll ds ≤ 1048576)
def OpenSpec.upto (s : _root_.Go.ChangeSpec) : _root_.Go.OpenSpec := { _root_.Go.OpenSpec.ofChange s with cond := some uptoSmall }

/-- 'sennetlaw03.RankStands', WHERE WHAT IT READS IS OF BULK AT MOST 1048576: true; the input reads as it did. -/
def rankStandsUptoRow : OpenClaim := { program := "ytdfhfehlmonjjaa", sum := "32558f1e5edb01c04c923b02745e4b7c6772163ff30c88755003155818d13f39", func := "sennet/sennetlaw03.RankStands", spec := "rankStands", unfollowed := true, recurses := true, plainKeys := false, apart := false, narrowed := true }
def RankStandsUptoSaid : Prop := rankStandsUptoRow.holds Try.pinned (OpenSpec.upto rankStandsSpec)

/-- 'sennetlaw03.RankTransitive', WHERE WHAT IT READS IS OF BULK AT MOST 1048576: true; the input reads as it did. -/
def rankTransitiveUptoRow : OpenClaim := { program := "ytdfhfehlmonjjaa", sum := "32558f1e5edb01c04c923b02745e4b7c6772163ff30c88755003155818d13f39", func := "sennet/sennetlaw03.RankTransitive", spec := "rankTransitive", unfollowed := true, recurses := true, plainKeys := false, apart := false, narrowed := true }
def RankTransitiveUptoSaid : Prop := rankTransitiveUptoRow.holds Try.pinned (OpenSpec.upto rankTransitiveSpec)

/-- 'sennetlaw03.RankChains', WHERE WHAT IT READS IS OF BULK AT MOST 1048576: true; the input reads as it did. -/
def rankChainsUptoRow : OpenClaim := { program := "ytdfhfehlmonjjaa", sum := "32558f1e5edb01c04c923b02745e4b7c6772163ff30c88755003155818d13f39", func := "sennet/sennetlaw03.RankChains", spec := "rankChains", unfollowed := true, recurses := true, plainKeys := false, apart := false, narrowed := true }
def RankChainsUptoSaid : Prop := rankChainsUptoRow.holds Try.pinned (OpenSpec.upto rankChainsSpec)

/-- 'sennetlaw03.RankSettles', WHERE WHAT IT READS IS OF BULK AT MOST 1048576: true; the input reads as it did. -/
def rankSettlesUptoRow : OpenClaim := { program := "ytdfhfehlmonjjaa", sum := "32558f1e5edb01c04c923b02745e4b7c6772163ff30c88755003155818d13f39", func := "sennet/sennetlaw03.RankSettles", spec := "rankSettles", unfollowed := true, recurses := true, plainKeys := false, apart := false, narrowed := true }
def RankSettlesUptoSaid : Prop := rankSettlesUptoRow.holds Try.pinned (OpenSpec.upto rankSettlesSpec)

/-- 'sennetlaw03.RankWhole', WHERE WHAT IT READS IS OF BULK AT MOST 1048576: true; the input reads as it did. -/
def rankWholeUptoRow : OpenClaim := { program := "ytdfhfehlmonjjaa", sum := "32558f1e5edb01c04c923b02745e4b7c6772163ff30c88755003155818d13f39", func := "sennet/sennetlaw03.RankWhole", spec := "rankWhole", unfollowed := true, recurses := true, plainKeys := false, apart := false, narrowed := true }
def RankWholeUptoSaid : Prop := rankWholeUptoRow.holds Try.pinned (OpenSpec.upto rankWholeSpec)

/-- 'sennetlaw03.RankChecks', WHERE WHAT IT READS IS OF BULK AT MOST 1048576: true; the input reads as it did. -/
def rankChecksUptoRow : OpenClaim := { program := "ytdfhfehlmonjjaa", sum := "32558f1e5edb01c04c923b02745e4b7c6772163ff30c88755003155818d13f39", func := "sennet/sennetlaw03.RankChecks", spec := "rankChecks", unfollowed := true, recurses := true, plainKeys := false, apart := false, narrowed := true }
def RankChecksUptoSaid : Prop := rankChecksUptoRow.holds Try.pinned (OpenSpec.upto rankChecksSpec)

/-- 'sennetlaw03.RankArrows', WHERE WHAT IT READS IS OF BULK AT MOST 1048576: true; the input reads as it did. -/
def rankArrowsUptoRow : OpenClaim := { program := "ytdfhfehlmonjjaa", sum := "32558f1e5edb01c04c923b02745e4b7c6772163ff30c88755003155818d13f39", func := "sennet/sennetlaw03.RankArrows", spec := "rankArrows", unfollowed := true, recurses := true, plainKeys := false, apart := false, narrowed := true }
def RankArrowsUptoSaid : Prop := rankArrowsUptoRow.holds Try.pinned (OpenSpec.upto rankArrowsSpec)

/-- 'sennetlaw03.RankWaives', WHERE WHAT IT READS IS OF BULK AT MOST 1048576: true; the input reads as it did. -/
def rankWaivesUptoRow : OpenClaim := { program := "ytdfhfehlmonjjaa", sum := "32558f1e5edb01c04c923b02745e4b7c6772163ff30c88755003155818d13f39", func := "sennet/sennetlaw03.RankWaives", spec := "rankWaives", unfollowed := true, recurses := true, plainKeys := false, apart := false, narrowed := true }
def RankWaivesUptoSaid : Prop := rankWaivesUptoRow.holds Try.pinned (OpenSpec.upto rankWaivesSpec)

/-- 'sennetlaw03.RankComponents', WHERE WHAT IT READS IS OF BULK AT MOST 1048576: true; the input reads as it did. -/
def rankComponentsUptoRow : OpenClaim := { program := "ytdfhfehlmonjjaa", sum := "32558f1e5edb01c04c923b02745e4b7c6772163ff30c88755003155818d13f39", func := "sennet/sennetlaw03.RankComponents", spec := "rankComponents", unfollowed := true, recurses := true, plainKeys := false, apart := false, narrowed := true }
def RankComponentsUptoSaid : Prop := rankComponentsUptoRow.holds Try.pinned (OpenSpec.upto rankComponentsSpec)

/-- 'sennetlaw03.RankOthers', WHERE WHAT IT READS IS OF BULK AT MOST 1048576: true; the input reads as it did. -/
def rankOthersUptoRow : OpenClaim := { program := "ytdfhfehlmonjjaa", sum := "32558f1e5edb01c04c923b02745e4b7c6772163ff30c88755003155818d13f39", func := "sennet/sennetlaw03.RankOthers", spec := "rankOthers", unfollowed := true, recurses := true, plainKeys := false, apart := false, narrowed := true }
def RankOthersUptoSaid : Prop := rankOthersUptoRow.holds Try.pinned (OpenSpec.upto rankOthersSpec)

/-- 'sennetlaw03.RankParts', WHERE WHAT IT READS IS OF BULK AT MOST 1048576: true; the input reads as it did. -/
def rankPartsUptoRow : OpenClaim := { program := "ytdfhfehlmonjjaa", sum := "32558f1e5edb01c04c923b02745e4b7c6772163ff30c88755003155818d13f39", func := "sennet/sennetlaw03.RankParts", spec := "rankParts", unfollowed := true, recurses := true, plainKeys := false, apart := false, narrowed := true }
def RankPartsUptoSaid : Prop := rankPartsUptoRow.holds Try.pinned (OpenSpec.upto rankPartsSpec)

end Rows
end Go.Proofs.Ytdfhfehlmonjjaa
