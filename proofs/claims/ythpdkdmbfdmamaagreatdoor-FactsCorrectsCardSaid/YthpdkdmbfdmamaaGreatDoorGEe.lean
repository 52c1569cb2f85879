/- Blocks of one's own in another order; rows that stay while another one grows. -/
import Derived.Test.YthpdkdmbfdmamaaGreatDoorGEc
set_option linter.unusedVariables false
set_option linter.unusedSimpArgs false
set_option linter.unnecessarySimpa false
set_option linter.unusedSectionVars false
namespace Go.Eng
open Go.RowKit

theorem Mem.swap {w0 w : World} {a b : Nat × Obj} (h : Mem w0 w [a, b]) : Mem w0 w [b, a] := by
  refine ⟨h.ext, fun g o hm => h.own g o (by simp at hm ⊢; exact hm.symm), ?_⟩
  have := h.nodup
  simp at this ⊢
  exact fun e => this e.symm

/-- The block of a row that lies below a bound stays while a row above it grows. -/
theorem reads_below {w w' : World} {A : Option Addr} {cs : List Value} {B : Nat} {row : Option Nat} (h : Reads w A cs) (hA : ∀ b o, A = some ⟨b, o, none⟩ → b < B) (hg : w.grownBy w' row) (hr : ∀ k, row = some k → B ≤ k) : Reads w' A cs := by
  rcases h with h | ⟨b, o, e, hrd⟩
  · exact .inl h
  · refine .inr ⟨b, o, e, fun i v hv => hg.cell (hrd i v hv) (fun e' => ?_)⟩
    have h1 := hA b o e
    have h2 := hr b e'.symm
    omega

theorem rd_grown {w w' : World} {b o : Nat} {cs : List Value} {row : Option Nat} (h : Rd w b o cs) (hg : w.grownBy w' row) (hne : row ≠ some b) : Rd w' b o cs := fun i v hv => hg.cell (h i v hv) (fun e => hne e.symm)

/-- A row of one's own grows: the blocks that 'D' names are others. -/
theorem Keep.grown {D : Nat → Prop} {a b c : World} {row : Option Nat} (h : Keep D a b) (hg : b.grownBy c row) (hne : ∀ k, row = some k → ¬ D k) : Keep D a c :=
  ⟨hg.os.trans h.os, hg.tape.trans h.tape, hg.output.trans h.output, Nat.le_trans h.size hg.size, fun k hD hk => (hg.block k (Nat.lt_of_lt_of_le hk h.size) (fun e => hne k e.symm hD)).trans (h.block k hD hk)⟩
theorem Keep.below {a b : World} (h : Ext a b) : Keep (fun q => q < a.heap.size) a b := ⟨h.os, h.tape, h.output, h.size, fun k _ hk => h.block k hk⟩

theorem splice_in {a e b vs : List Value} {c : Nat} (hc : c + vs.length ≤ e.length) : splice (a ++ (e ++ b)) (a.length + c) vs = a ++ (splice e c vs ++ b) := by
  unfold splice
  have h1 : (a ++ (e ++ b)).take (a.length + c) = a ++ e.take c := by
    rw [List.take_append, List.take_of_length_le (by omega), show a.length + c - a.length = c by omega, List.take_append_of_le_length (by omega)]
  have h2 : (a ++ (e ++ b)).drop (a.length + c + vs.length) = e.drop (c + vs.length) ++ b := by
    rw [List.drop_append, List.drop_eq_nil_of_le (by omega), show a.length + c + vs.length - a.length = c + vs.length by omega, List.drop_append_of_le_length (by omega), List.nil_append]
  rw [h1, h2]
  simp

/-- A part of one element of a row is written. -/
theorem flat_field {α : Type} {enc : α → List Value} {k : Nat} (hk : ∀ x, (enc x).length = k) {l : List α} {i : Nat} (hi : i < l.length) {y : α} {c : Nat} {vs : List Value} (h : splice (enc l[i]) c vs = enc y) (hc : c + vs.length ≤ k) :
    splice (l.flatMap enc) (i * k + c) vs = (l.set i y).flatMap enc := by
  have e1 : l.flatMap enc = (l.take i).flatMap enc ++ (enc l[i] ++ (l.drop (i + 1)).flatMap enc) := by
    conv => lhs; rw [← List.take_append_drop i l, List.drop_eq_getElem_cons hi]
    rw [List.flatMap_append, List.flatMap_cons]
  have hl : ((l.take i).flatMap enc).length = i * k := by
    have : ∀ m : List α, (m.flatMap enc).length = m.length * k := by
      intro m
      induction m with
      | nil => simp
      | cons x r ih => rw [List.flatMap_cons, List.length_append, hk, ih, List.length_cons, Nat.add_mul, Nat.one_mul, Nat.add_comm]
    rw [this, List.length_take, Nat.min_eq_left (Nat.le_of_lt hi)]
  have e2 : (l.set i y).flatMap enc = (l.take i).flatMap enc ++ (enc y ++ (l.drop (i + 1)).flatMap enc) := by
    rw [List.set_eq_take_append_cons_drop, if_pos hi, List.flatMap_append, List.flatMap_cons]
  rw [e1, e2, ← hl, splice_in (by rw [hk]; exact hc), h]

end Go.Eng
