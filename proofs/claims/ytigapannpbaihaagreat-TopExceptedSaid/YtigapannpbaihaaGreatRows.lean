/-
  NARROWER THAN 'FOR EVERY INPUT', by the rows' own cells (each row's printed sentence says how): TopChanges: loops · TopExcepted: loops.
  DERIVED. THE GIVEN ROWS OF THIS SEAT. 3 by the template 'for every input the law returns true; each argument reads behind the call as it read before'; 0 by the template 'total and deterministic' (their statements: YtigapannpbaihaaGreatTotals.lean).
  GIVEN WITH THE SEED: the statements are not yours to turn. If you find one false, say at which input.
  Laid BY PROGRAM, IN A SANDBOX (cutbox-rows.mjs): the forced cells as the released guide's own fill.sh prints them over the translation bd6dbbbe97601e4f… (all of the seat's roots in one cut). By AI agents, Wed Nov 11 2026. No macro, syntax, notation, axiom, sorry.
-/
import Derived.Test.YtigapannpbaihaaGreatChecked
import GoSem.Claim
import GoSem.ClaimJoined
import GoSem.ClaimMapViews
import Derived.JoinedTies
import Derived.KernelRfl
namespace Go.Proofs.YtigapannpbaihaaGreat
/- THE CELL 'sum', in the pinned program and in every row, IS THE sha256 OF THE DUMP (.gsa) THAT YtigapannpbaihaaGreatProg.lean LOADS. Nothing in Lean hashes anything: it is a label: what it is worth is what the hold of that sum in a sandbox is worth. -/
noncomputable def Tryz.pinned : Pinned := { name := "ytigapannpbaihaagreat", sum := "bd6dbbbe97601e4f359cfce681efc4b9e37d9fa1ceaf2e0fa56e95830d99af89", checked := Tryz.checked }
namespace Rows
def none {H : Type} : Left H := { results := [], args := [] }

/-- 'sennettop.TopChanges': WHATEVER THE INPUT: true; the input reads as it did. -/
def topChangesSpec : ChangeSpec := { name := "topChanges", fn := fun _ => fun
  | [d1, d2, d3, d4] => { results := [.lit (.bool true)], args := [d1, d2, d3, d4] }
  | _ => none }
def topChangesRow : OpenClaim := { program := "ytigapannpbaihaagreat", sum := "bd6dbbbe97601e4f359cfce681efc4b9e37d9fa1ceaf2e0fa56e95830d99af89", func := "sennet/sennettop.TopChanges", spec := "topChanges", unfollowed := true, recurses := true, loops := true, plainKeys := false, apart := false }
def TopChangesSaid : Prop := topChangesRow.holds Tryz.pinned (OpenSpec.ofChange topChangesSpec)

/-- ITS FALSE NEIGHBOUR: 'it returns false'. Refute it at one input. -/
def topChangesWrong : ChangeSpec := { name := "topChanges", fn := fun _ => fun
  | [d1, d2, d3, d4] => { results := [.lit (.bool false)], args := [d1, d2, d3, d4] }
  | _ => none }
def TopChangesWrongFalsely : Prop := topChangesRow.holds Tryz.pinned (OpenSpec.ofChange topChangesWrong)

/-- 'sennettop.TopExcepted': WHATEVER THE INPUT: true; the input reads as it did. -/
def topExceptedSpec : ChangeSpec := { name := "topExcepted", fn := fun _ => fun
  | [d1, d2] => { results := [.lit (.bool true)], args := [d1, d2] }
  | _ => none }
def topExceptedRow : OpenClaim := { program := "ytigapannpbaihaagreat", sum := "bd6dbbbe97601e4f359cfce681efc4b9e37d9fa1ceaf2e0fa56e95830d99af89", func := "sennet/sennettop.TopExcepted", spec := "topExcepted", unfollowed := true, recurses := true, loops := true, plainKeys := false, apart := false }
def TopExceptedSaid : Prop := topExceptedRow.holds Tryz.pinned (OpenSpec.ofChange topExceptedSpec)

/-- ITS FALSE NEIGHBOUR: 'it returns false'. Refute it at one input. -/
def topExceptedWrong : ChangeSpec := { name := "topExcepted", fn := fun _ => fun
  | [d1, d2] => { results := [.lit (.bool false)], args := [d1, d2] }
  | _ => none }
def TopExceptedWrongFalsely : Prop := topExceptedRow.holds Tryz.pinned (OpenSpec.ofChange topExceptedWrong)

/-- 'sennettop.TopWalks': WHATEVER THE INPUT: true; the input reads as it did. -/
def topWalksSpec : ChangeSpec := { name := "topWalks", fn := fun _ => fun
  | [d1, d2, d3] => { results := [.lit (.bool true)], args := [d1, d2, d3] }
  | _ => none }
def topWalksRow : OpenClaim := { program := "ytigapannpbaihaagreat", sum := "bd6dbbbe97601e4f359cfce681efc4b9e37d9fa1ceaf2e0fa56e95830d99af89", func := "sennet/sennettop.TopWalks", spec := "topWalks", unfollowed := true, recurses := true, plainKeys := false, apart := false }
def TopWalksSaid : Prop := topWalksRow.holds Tryz.pinned (OpenSpec.ofChange topWalksSpec)

/-- ITS FALSE NEIGHBOUR: 'it returns false'. Refute it at one input. -/
def topWalksWrong : ChangeSpec := { name := "topWalks", fn := fun _ => fun
  | [d1, d2, d3] => { results := [.lit (.bool false)], args := [d1, d2, d3] }
  | _ => none }
def TopWalksWrongFalsely : Prop := topWalksRow.holds Tryz.pinned (OpenSpec.ofChange topWalksWrong)

/- THE SECOND FORM. 'bulk': how many values and letters a reading holds, each counted each time it is reached (what is shared counts as often as it is met; a slice's spare places count too). A statement '..UptoSaid' is the law's where the arguments, and the package variables that the reading takes, are together of bulk at most 1048576: NARROWER than '..Said'. Prove '..Said' where nothing that the law and all that it calls make is longer than what came in: it says more and counts as full. Else prove '..UptoSaid'. A law counts once. -/
mutual
def uptoBulk {H : Type} : DataW H → Nat
  | .lit (.string bytes) => bytes.length + 1
  | .lit _ => 1
  | .nil => 1
  | .ptr d => uptoBulk d + 1
  | .slice elems spare => uptoBulkAll elems + uptoBulkAll spare + 1
  | .agg parts => uptoBulkAll parts + 1
  | .iface _ d => uptoBulk d + 1
  | .map entries => uptoBulkEntries entries + 1
  | .held _ => 1
def uptoBulkAll {H : Type} : List (DataW H) → Nat
  | [] => 0
  | d :: r => uptoBulk d + uptoBulkAll r
def uptoBulkEntries {H : Type} : List (Lit × DataW H) → Nat
  | [] => 0
  | x :: r => uptoBulkEntry x + uptoBulkEntries r
def uptoBulkEntry {H : Type} : Lit × DataW H → Nat
  | (.string bytes, d) => bytes.length + uptoBulk d + 1
  | (_, d) => uptoBulk d + 1
 end
def uptoSmall : (H : Type) → List (DataW H) → Bool := fun _ ds => decide (uptoBulkAll ds ≤ 1048576)
def OpenSpec.upto (s : _root_.Go.ChangeSpec) : _root_.Go.OpenSpec := { _root_.Go.OpenSpec.ofChange s with cond := some uptoSmall }

/-- 'sennettop.TopChanges', WHERE WHAT IT READS IS OF BULK AT MOST 1048576: true; the input reads as it did. -/
def topChangesUptoRow : OpenClaim := { program := "ytigapannpbaihaagreat", sum := "bd6dbbbe97601e4f359cfce681efc4b9e37d9fa1ceaf2e0fa56e95830d99af89", func := "sennet/sennettop.TopChanges", spec := "topChanges", unfollowed := true, recurses := true, loops := true, plainKeys := false, apart := false, narrowed := true }
def TopChangesUptoSaid : Prop := topChangesUptoRow.holds Tryz.pinned (OpenSpec.upto topChangesSpec)

/-- 'sennettop.TopExcepted', WHERE WHAT IT READS IS OF BULK AT MOST 1048576: true; the input reads as it did. -/
def topExceptedUptoRow : OpenClaim := { program := "ytigapannpbaihaagreat", sum := "bd6dbbbe97601e4f359cfce681efc4b9e37d9fa1ceaf2e0fa56e95830d99af89", func := "sennet/sennettop.TopExcepted", spec := "topExcepted", unfollowed := true, recurses := true, loops := true, plainKeys := false, apart := false, narrowed := true }
def TopExceptedUptoSaid : Prop := topExceptedUptoRow.holds Tryz.pinned (OpenSpec.upto topExceptedSpec)

/-- 'sennettop.TopWalks', WHERE WHAT IT READS IS OF BULK AT MOST 1048576: true; the input reads as it did. -/
def topWalksUptoRow : OpenClaim := { program := "ytigapannpbaihaagreat", sum := "bd6dbbbe97601e4f359cfce681efc4b9e37d9fa1ceaf2e0fa56e95830d99af89", func := "sennet/sennettop.TopWalks", spec := "topWalks", unfollowed := true, recurses := true, plainKeys := false, apart := false, narrowed := true }
def TopWalksUptoSaid : Prop := topWalksUptoRow.holds Tryz.pinned (OpenSpec.upto topWalksSpec)

end Rows
end Go.Proofs.YtigapannpbaihaaGreat
