/- rank, plain: what Check computes. -/
import Derived.Test.YtdfhfehlmonjjaaRB
namespace Go.Proofs.Ytdfhfehlmonjjaa

def goodA (N : Int) (x : Arrow) : Bool := decide (0 ≤ x.fr ∧ x.fr ≤ N - 1) && decide (0 ≤ x.to ∧ x.to ≤ N - 1) && !decide (x.fr = x.to) && decide (0 ≤ x.rule ∧ x.rule ≤ 23) && decide (1 ≤ x.wt ∧ x.wt ≤ 1000)
def ltA (a b : Arrow) : Bool := decide (a.fr < b.fr ∨ a.fr = b.fr ∧ a.to < b.to)
def okAt (N : Int) (xs : List Arrow) (i : Nat) : Bool := match xs[i]? with
  | some x => goodA N x && (match i with
    | 0 => true
    | j + 1 => match xs[j]? with
      | some y => ltA y x
      | none => false)
  | none => false
def allOk (N : Int) (xs : List Arrow) : Bool := (List.range xs.length).all (okAt N xs)
def chk (N : Int) (xs : List Arrow) : Int := if N > 24 then 2 else if N < 0 then 1 else if allOk N xs then 0 else 1

theorem chk_big {N : Int} {xs : List Arrow} (h : N > 24) : chk N xs = 2 := by simp [chk, h]
theorem chk_neg {N : Int} {xs : List Arrow} (h : ¬ N > 24) (h0 : N < 0) : chk N xs = 1 := by unfold chk; rw [if_neg h, if_pos h0]
theorem chk_ok {N : Int} {xs : List Arrow} (h : ¬ N > 24) (h0 : ¬ N < 0) (ha : ∀ j < xs.length, okAt N xs j = true) : chk N xs = 0 := by
  unfold chk
  rw [if_neg h, if_neg h0, if_pos]
  exact List.all_eq_true.2 fun i hi => ha i (List.mem_range.1 hi)
theorem chk_bad {N : Int} {xs : List Arrow} (h : ¬ N > 24) (h0 : ¬ N < 0) {i : Nat} (hi : i < xs.length) (hb : okAt N xs i = false) : chk N xs = 1 := by
  unfold chk
  rw [if_neg h, if_neg h0, if_neg]
  intro ha
  have := List.all_eq_true.1 ha i (List.mem_range.2 hi)
  rw [hb] at this; cases this

theorem cmpA_neg (a b : Arrow) : cmpA a b ≥ 0 ↔ ltA a b = false := by
  simp only [cmpA, orI, cmpI, ltA]
  rcases Int.lt_trichotomy a.fr b.fr with h | h | h <;> rcases Int.lt_trichotomy a.to b.to with k | k | k <;> simp [h, k] <;> omega

end Go.Proofs.Ytdfhfehlmonjjaa
