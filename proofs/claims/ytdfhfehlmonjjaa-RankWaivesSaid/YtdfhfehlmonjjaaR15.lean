/- rank, plain: whom chains reach, by Warshall; the relation of the chapter's examples. -/
import Derived.Test.YtdfhfehlmonjjaaR14
namespace Go.Proofs.Ytdfhfehlmonjjaa
open Go.Eng Go.RowKit

/-- Chains through the first 'k' guests alone. -/
def war (T : Nat → Nat → Bool) : Nat → Nat → Nat → Bool
  | 0, i, j => T i j
  | k + 1, i, j => war T k i j || (war T k i k && war T k k j)

theorem war_path {T : Nat → Nat → Bool} : ∀ {k i j : Nat}, war T k i j = true → Path T i j
  | 0, _, _, h => .one h
  | k + 1, i, j, h => by
    rw [war, Bool.or_eq_true, Bool.and_eq_true] at h
    rcases h with h | ⟨h1, h2⟩
    · exact war_path h
    · exact (war_path h1).trans (war_path h2)

theorem war_mono {T : Nat → Nat → Bool} {k i j : Nat} (h : war T k i j = true) : war T (k + 1) i j = true := by rw [war, h, Bool.true_or]
theorem war_of {T : Nat → Nat → Bool} {i j : Nat} (h : T i j = true) : ∀ k, war T k i j = true
  | 0 => h
  | k + 1 => war_mono (war_of h k)

theorem war_trans {T : Nat → Nat → Bool} : ∀ {k m i j : Nat}, m < k → war T k i m = true → war T k m j = true → war T k i j = true
  | 0, _, _, _, h, _, _ => absurd h (Nat.not_lt_zero _)
  | k + 1, m, i, j, h, h1, h2 => by
    rw [war, Bool.or_eq_true, Bool.and_eq_true] at h1 h2 ⊢
    by_cases hm : m = k
    · subst hm
      have a1 : war T m i m = true := h1.elim id And.left
      have a2 : war T m m j = true := h2.elim id And.right
      exact .inr ⟨a1, a2⟩
    · have hlt : m < k := by omega
      rcases h1 with h1 | ⟨h1, h1'⟩ <;> rcases h2 with h2 | ⟨h2, h2'⟩
      · exact .inl (war_trans hlt h1 h2)
      · exact .inr ⟨war_trans hlt h1 h2, h2'⟩
      · exact .inr ⟨h1, war_trans hlt h1' h2⟩
      · exact .inr ⟨h1, h2'⟩

theorem reach_war {n : Nat} {T : Nat → Nat → Bool} (hT : Inside n T) : reach T = war T n := by
  funext i j
  rw [Bool.eq_iff_iff, reach_iff]
  constructor
  · intro h
    induction h with
    | one h => exact war_of h n
    | step _ h ih => exact war_trans (hT _ _ h).1 ih (war_of h n)
  · exact war_path

def exX : List Arrow := [⟨0, 1, 0, 5⟩, ⟨1, 2, 0, 5⟩, ⟨2, 1, 0, 5⟩, ⟨2, 3, 0, 5⟩]
def exW : List Arrow := [⟨0, 1, 0, 5⟩, ⟨1, 2, 0, 5⟩, ⟨2, 3, 0, 5⟩]

theorem exX_valid : chk 4 exX = 0 := by decide
theorem exW_valid : chk 4 exW = 0 := by decide
theorem exX_reach : reach (toM exX) = war (toM exX) 4 := reach_war (valid_of_chk exX_valid).inside
theorem exW_reach : reach (toM exW) = war (toM exW) 4 := reach_war (valid_of_chk exW_valid).inside
theorem ex_waive : waiveL exX [(2, 1)] = exW := by decide

theorem exX_comps : compsV 4 exX = [[0], [1, 2], [3]] := by
  rw [compsV, if_pos exX_valid, exX_reach]
  rfl
theorem exW_comps : compsV 4 exW = [[0], [1], [2], [3]] := by
  rw [compsV, if_pos exW_valid, exW_reach]
  rfl
theorem exW_unset : unsetL 4 exW = [] := by
  rw [unsetL, if_pos exW_valid, exW_reach]
  rfl
theorem exW_settled : settledB 4 exW = true ∧ settledL 4 exW = [0, 1, 2, 3] := by
  have h : settledB 4 exW = true := by simp [settledB, exW_valid, exW_unset]
  refine ⟨h, ?_⟩
  rw [settledL, if_pos h, exW_comps]; rfl
theorem ex_changedE : changedE 4 exX 4 exW = 0 := by simp [changedE, exX_valid, exW_valid]
theorem ex_changedL : changedL 4 exX 4 exW = [(1, 2)] := by
  rw [changedL, if_pos ex_changedE, exX_reach, exW_reach]
  rfl
theorem ex_stand03 : standS 4 exX 0 3 = 1 := by rw [standS, if_pos exX_valid, exX_reach]; rfl
theorem ex_stand30 : standS 4 exX 3 0 = 2 := by rw [standS, if_pos exX_valid, exX_reach]; rfl
theorem ex_stand12 : standS 4 exX 1 2 = 3 := by rw [standS, if_pos exX_valid, exX_reach]; rfl
theorem ex_check : checkS 4 exX 1 3 [1, 2, 1, 2, 3] = true := by decide

theorem exT {a b : Nat} (h : toM exX a b = true) : (a = 0 ∧ b = 1) ∨ (a = 1 ∧ b = 2) ∨ (a = 2 ∧ b = 1) ∨ (a = 2 ∧ b = 3) := by
  simp [toM, exX] at h
  omega

theorem ex_d32 : dist (toM exX) 3 2 = 1 := dist_one.2 rfl
theorem ex_d31 : dist (toM exX) 3 1 = 2 := by
  have h1 : dist (toM exX) 3 1 ≠ 1 := fun h => by have := exT (dist_one.1 h); omega
  exact (dist_next (by omega)).2 ⟨by omega, 2, rfl, ex_d32⟩
theorem ex_d30 : dist (toM exX) 3 0 = 3 := by
  have h1 : dist (toM exX) 3 0 ≠ 1 := fun h => by have := exT (dist_one.1 h); omega
  have h2 : dist (toM exX) 3 0 ≠ 2 := fun h => by
    obtain ⟨_, y, hy, hd⟩ := (dist_next (by omega)).1 h
    have := exT hy
    have := exT (dist_one.1 hd)
    omega
  exact (dist_next (by omega)).2 ⟨by omega, 1, rfl, ex_d31⟩
theorem ex_d12 : dist (toM exX) 1 2 = 1 := dist_one.2 rfl
theorem ex_d11 : dist (toM exX) 1 1 = 2 := by
  have h1 : dist (toM exX) 1 1 ≠ 1 := fun h => by have := exT (dist_one.1 h); omega
  exact (dist_next (by omega)).2 ⟨by omega, 2, rfl, ex_d12⟩

theorem ex_m0 : members (toM exX 0) = [1] := by decide
theorem ex_m1 : members (toM exX 1) = [2] := by decide

theorem ex_chain03 : chainS 4 exX 0 3 = some [0, 1, 2, 3] := by
  have h : chk 4 exX = 0 ∧ (inR 4 0 && inR 4 3) = true ∧ reach (toM exX) (0 : Int).toNat (3 : Int).toNat = true := ⟨exX_valid, rfl, by rw [exX_reach]; rfl⟩
  rw [chainS, if_pos h]
  show some (chainL (toM exX) 0 3) = _
  simp [chainL, ex_d30, follow, ex_m0, ex_m1, ex_d31, ex_d32]
theorem ex_chain11 : chainS 4 exX 1 1 = some [1, 2, 1] := by
  have h : chk 4 exX = 0 ∧ (inR 4 1 && inR 4 1) = true ∧ reach (toM exX) (1 : Int).toNat (1 : Int).toNat = true := ⟨exX_valid, rfl, by rw [exX_reach]; rfl⟩
  rw [chainS, if_pos h]
  show some (chainL (toM exX) 1 1) = _
  simp [chainL, ex_d11, follow, ex_m1, ex_d12]
theorem ex_chain30 : chainS 4 exX 3 0 = none := by
  have h : ¬ (chk 4 exX = 0 ∧ (inR 4 3 && inR 4 0) = true ∧ reach (toM exX) (3 : Int).toNat (0 : Int).toNat = true) := fun h => by
    have := h.2.2
    rw [exX_reach] at this
    cases this
  rw [chainS, if_neg h]

end Go.Proofs.Ytdfhfehlmonjjaa
