/- rank: comparing arrows, checking a relation (the program's and the reference's). -/
import Derived.Test.YtdfhfehlmonjjaaRA
namespace Go.Proofs.Ytdfhfehlmonjjaa
open Go.Eng Go.RowKit

structure Arrow where
  fr : Int
  to : Int
  rule : Int
  wt : Int
  deriving DecidableEq

def Arrow.cells (x : Arrow) : List Value := [.int .i64 x.fr, .int .i64 x.to, .int .i64 x.rule, .int .i64 x.wt]
def Arrow.val (x : Arrow) : Value := .agg x.cells.toArray
def arrows (xs : List Arrow) : List Value := xs.flatMap Arrow.cells

theorem arrows_get {xs : List Arrow} {i : Nat} (hi : i < xs.length) (j : Nat) (v : Value) (h : xs[i].cells[j]? = some v) : (arrows xs)[i * 4 + j]? = some v := by
  induction xs generalizing i with
  | nil => simp at hi
  | cons x xs ih =>
    cases i with
    | zero =>
      simp only [Nat.zero_mul, Nat.zero_add]
      have hj : j < 4 := by
        have := (List.getElem?_eq_some_iff.1 h).1
        simpa [Arrow.cells] using this
      show (x.cells ++ arrows xs)[j]? = _
      rw [List.getElem?_append_left (by simpa [Arrow.cells] using hj)]
      exact h
    | succ i =>
      show (x.cells ++ arrows xs)[(i + 1) * 4 + j]? = _
      rw [List.getElem?_append_right (by simp [Arrow.cells]; omega)]
      have : (i + 1) * 4 + j - x.cells.length = i * 4 + j := by simp [Arrow.cells]; omega
      rw [this]
      exact ih (by simpa using hi) (by simpa using h)

theorem arrows_length (xs : List Arrow) : (arrows xs).length = xs.length * 4 := by
  induction xs with
  | nil => rfl
  | cons x xs ih => show (x.cells ++ arrows xs).length = _; simp [Arrow.cells, ih]; omega

theorem Reads.arrow {w : World} {A : Option Addr} {xs : List Arrow} (h : Reads w A (arrows xs)) {i : Nat} (hi : i < xs.length) : ∃ b o, A = some ⟨b, o, none⟩ ∧ Rd w b (o + i * 4) xs[i].cells := by
  rcases h with h | ⟨b, o, hA, hr⟩
  · have := congrArg List.length h
    rw [arrows_length] at this
    have : xs.length * 4 = 0 := this
    omega
  · refine ⟨b, o, hA, fun j v hv => ?_⟩
    have := hr _ _ (arrows_get hi j v hv)
    rwa [← Nat.add_assoc] at this

def cmpA (a b : Arrow) : Int := orI [cmpI a.fr b.fr, cmpI a.to b.to]

theorem compareArrows_spec (a b : Arrow) (w : World) : CallsV C.P 56 #[a.val, b.val] w fun v w' => v = .int .i64 (cmpA a b) ∧ Ext w w' := by
  refine callsV_of C_ok (args := [_, _]) (plans := plans56) Try.func56 rfl Try.ntmps56 (by kernel_rfl) (Nat.le_of_ble_eq_true rfl) ?_
  intro g1 w1 h1
  intro g2 w2 h2
  have M := ((Mem.start w).alloc h1).alloc h2
  refine ⟨_, M.cell 1 rfl rfl, ?_⟩
  refine ⟨_, M.cell 0 rfl rfl, ?_⟩
  refine ⟨_, M.cell 1 rfl rfl, ?_⟩
  refine ⟨_, M.cell 0 rfl rfl, ?_⟩
  refine (Compare_spec _ _ _).mono ?_
  rintro v w3 ⟨rfl, rfl⟩
  refine ⟨Ext.refl _, ?_⟩
  refine (Compare_spec _ _ _).mono ?_
  rintro v w3 ⟨rfl, rfl⟩
  intro g4 w4 h4
  have M := M.alloc h4
  refine (Or_spec (some ⟨g4, 0, none⟩) 2 [cmpI a.fr b.fr, cmpI a.to b.to] w4 (.inr ⟨g4, 0, rfl, M.rd 0 rfl⟩) (by simp)).mono ?_
  rintro v w5 ⟨rfl, rfl⟩
  exact ⟨rfl, M.ext⟩

end Go.Proofs.Ytdfhfehlmonjjaa
