/- rank, plain: how many arrows a shortest chain has; the search from the end, level by level. -/
import Derived.Test.YtdfhfehlmonjjaaR5
import Derived.Deep.LoopGhost
namespace Go.Proofs.Ytdfhfehlmonjjaa
open Go.Eng Go.RowKit

/-- A chain of 'k' arrows from 'x' to 'b'. -/
def walk (T : Nat → Nat → Bool) (b : Nat) : Nat → Nat → Prop
  | 0, x => x = b
  | k + 1, x => ∃ y, T x y = true ∧ walk T b k y

theorem walk_path {T : Nat → Nat → Bool} {b : Nat} : ∀ {k x : Nat}, walk T b (k + 1) x → Path T x b
  | 0, x, ⟨y, h, e⟩ => by have e : y = b := e; subst e; exact .one h
  | k + 1, x, ⟨y, h, hy⟩ => Path.head h (walk_path hy)

theorem walk_snoc {T : Nat → Nat → Bool} {b c : Nat} (h : T b c = true) : ∀ {k x : Nat}, walk T b k x → walk T c (k + 1) x
  | 0, x, e => by have e : x = b := e; subst e; exact ⟨c, h, rfl⟩
  | _ + 1, _, ⟨y, hy, hw⟩ => ⟨y, hy, walk_snoc h hw⟩

theorem path_walk {T : Nat → Nat → Bool} {a b : Nat} (h : Path T a b) : ∃ k, walk T b (k + 1) a := by
  induction h with
  | one h => exact ⟨0, _, h, rfl⟩
  | step _ h ih => obtain ⟨k, hk⟩ := ih; exact ⟨k + 1, walk_snoc h hk⟩

/-- 'k' is the least number of arrows, at least one. -/
def isDist (T : Nat → Nat → Bool) (b k x : Nat) : Prop := 1 ≤ k ∧ walk T b k x ∧ ∀ j, 1 ≤ j → walk T b j x → k ≤ j

theorem isDist_unique {T : Nat → Nat → Bool} {b k j x : Nat} (h : isDist T b k x) (g : isDist T b j x) : k = j := by
  have := h.2.2 j g.1 g.2.1
  have := g.2.2 k h.1 h.2.1
  omega

theorem isDist_of_walk {T : Nat → Nat → Bool} {b k x : Nat} (hk : 1 ≤ k) (h : walk T b k x) : ∃ j, isDist T b j x ∧ j ≤ k := by
  obtain ⟨n, ⟨h1, h2⟩, hl⟩ := exists_least (p := fun n => 1 ≤ n ∧ walk T b n x) ⟨k, hk, h⟩
  exact ⟨n, ⟨h1, h2, fun j hj hw => hl j ⟨hj, hw⟩⟩, hl k ⟨hk, h⟩⟩

open Classical in
/-- The least number of arrows from 'x' to 'b'; 0 if there is no chain. -/
noncomputable def dist (T : Nat → Nat → Bool) (b x : Nat) : Nat := if h : ∃ k, isDist T b k x then h.choose else 0

theorem dist_pos {T : Nat → Nat → Bool} {b x : Nat} (h : dist T b x ≠ 0) : isDist T b (dist T b x) x := by
  unfold dist at h ⊢
  split
  · rename_i hx; exact hx.choose_spec
  · rename_i hx; rw [dif_neg hx] at h; exact absurd rfl h

theorem dist_eq {T : Nat → Nat → Bool} {b k x : Nat} (h : isDist T b k x) : dist T b x = k := by
  have hx : ∃ k, isDist T b k x := ⟨k, h⟩
  unfold dist
  rw [dif_pos hx]
  exact isDist_unique hx.choose_spec h

theorem dist_zero {T : Nat → Nat → Bool} {b x : Nat} : dist T b x = 0 ↔ ¬ Path T x b := by
  constructor
  · intro h hp
    obtain ⟨k, hk⟩ := path_walk hp
    obtain ⟨j, hj, _⟩ := isDist_of_walk (by omega) hk
    have := dist_eq hj
    have := hj.1
    omega
  · intro h
    by_cases h0 : dist T b x = 0
    · exact h0
    · have := dist_pos h0
      obtain ⟨k, hk⟩ : ∃ k, dist T b x = k + 1 := ⟨dist T b x - 1, by omega⟩
      rw [hk] at this
      exact absurd (walk_path this.2.1) h

theorem dist_one {T : Nat → Nat → Bool} {b x : Nat} : dist T b x = 1 ↔ T x b = true := by
  constructor
  · intro h
    have := dist_pos (by omega : dist T b x ≠ 0)
    rw [h] at this
    obtain ⟨y, hy, e⟩ := this.2.1
    have e : y = b := e
    subst e; exact hy
  · intro h
    exact dist_eq ⟨Nat.le_refl _, ⟨b, h, rfl⟩, fun j hj _ => hj⟩

/-- The next level: those from whom an arrow leads to the level, and who stand on none yet. -/
theorem dist_next {T : Nat → Nat → Bool} {b n x : Nat} (hn : 2 ≤ n) : dist T b x = n ↔ (dist T b x = 0 ∨ n ≤ dist T b x) ∧ ∃ y, T x y = true ∧ dist T b y = n - 1 := by
  constructor
  · intro h
    have hd := dist_pos (by omega : dist T b x ≠ 0)
    rw [h] at hd
    obtain ⟨k, rfl⟩ : ∃ k, n = k + 1 := ⟨n - 1, by omega⟩
    obtain ⟨y, hy, hw⟩ := hd.2.1
    refine ⟨.inr (by omega), y, hy, ?_⟩
    obtain ⟨j, hj, hjk⟩ := isDist_of_walk (by omega) hw
    have h1 := hd.2.2 (j + 1) (by omega) ⟨y, hy, hj.2.1⟩
    rw [dist_eq hj]; omega
  · rintro ⟨hlow, y, hy, hdy⟩
    have hd := dist_pos (by omega : dist T b y ≠ 0)
    rw [hdy] at hd
    have hw : walk T b n x := by
      obtain ⟨k, rfl⟩ : ∃ k, n = k + 1 := ⟨n - 1, by omega⟩
      exact ⟨y, hy, hd.2.1⟩
    obtain ⟨j, hj, hjn⟩ := isDist_of_walk (by omega) hw
    rw [dist_eq hj] at hlow ⊢
    have := hj.1
    omega

theorem dist_down {T : Nat → Nat → Bool} {b : Nat} : ∀ (m x : Nat), dist T b x = m + 1 → ∀ j, 1 ≤ j → j ≤ m + 1 → ∃ y, dist T b y = j
  | 0, x, h, j, h1, h2 => ⟨x, by omega⟩
  | m + 1, x, h, j, h1, h2 => by
    by_cases hj : j = m + 2
    · exact ⟨x, by omega⟩
    · obtain ⟨_, y, _, hy⟩ := (dist_next (by omega)).1 h
      exact dist_down m y (by omega) j h1 (by omega)

theorem dist_lt {n : Nat} {T : Nat → Nat → Bool} (hT : Inside n T) {b x : Nat} (h : dist T b x ≠ 0) : x < n := by
  have := dist_pos h
  obtain ⟨k, hk⟩ : ∃ k, dist T b x = k + 1 := ⟨dist T b x - 1, by omega⟩
  rw [hk] at this
  obtain ⟨y, hy, _⟩ := this.2.1
  exact (hT _ _ hy).1

/-! ### The level by level search -/
/-- What stands in 'steps' when levels below 'n' are done. -/
noncomputable def stepsAt (T : Nat → Nat → Bool) (b n x : Nat) : Nat := if dist T b x < n then dist T b x else 0
/-- The level that was found last. -/
noncomputable def nowAt (T : Nat → Nat → Bool) (b n y : Nat) : Bool := if n = 1 then decide (y = b) else decide (dist T b y = n - 1)

/-- Is 'x' found by the first 'j' of the level? -/
noncomputable def hit (T : Nat → Nat → Bool) (b n : Nat) (ys : List Int) (x j : Nat) : Bool := decide (stepsAt T b n x = 0) && (ys.take j).any fun y => T x y.toNat

theorem hit_zero (T : Nat → Nat → Bool) (b n : Nat) (ys : List Int) (x : Nat) : hit T b n ys x 0 = false := by simp [hit]

theorem hit_succ {T : Nat → Nat → Bool} {b n : Nat} {ys : List Int} {x j : Nat} (hj : j < ys.length) : hit T b n ys x (j + 1) = (hit T b n ys x j || (decide (stepsAt T b n x = 0) && T x (ys[j]).toNat)) := by
  unfold hit
  rw [List.take_succ_eq_append_getElem hj, List.any_append, Bool.and_or_distrib_left]
  simp

theorem members_any {S : Nat → Bool} {p : Nat → Bool} : ((members S).any fun y => p y.toNat) = true ↔ ∃ y, y < 24 ∧ S y = true ∧ p y = true := by
  rw [List.any_eq_true]
  constructor
  · rintro ⟨y, hy, hp⟩
    obtain ⟨k, hk, rfl⟩ := List.mem_map.1 hy
    obtain ⟨h1, h2⟩ := List.mem_filter.1 hk
    exact ⟨k, List.mem_range.1 h1, h2, by simpa using hp⟩
  · rintro ⟨y, h1, h2, h3⟩
    exact ⟨(y : Int), List.mem_map.2 ⟨y, List.mem_filter.2 ⟨List.mem_range.2 h1, h2⟩, rfl⟩, by simpa using h3⟩

theorem hit_all {T : Nat → Nat → Bool} (hT : Inside 24 T) {b n : Nat} (hb : b < 24) (hn : 1 ≤ n) (x : Nat) : hit T b n (members (nowAt T b n)) x (members (nowAt T b n)).length = decide (dist T b x = n) := by
  rw [Bool.eq_iff_iff]
  unfold hit
  rw [List.take_length, Bool.and_eq_true, members_any, decide_eq_true_eq, decide_eq_true_eq]
  unfold stepsAt nowAt
  by_cases h1 : n = 1
  · subst h1
    constructor
    · rintro ⟨_, y, _, hy, ht⟩
      have : y = b := by simpa using hy
      subst this
      exact dist_one.2 ht
    · intro h
      refine ⟨by rw [if_neg (by omega)], b, hb, by simp, dist_one.1 h⟩
  · simp only [if_neg h1]
    rw [dist_next (by omega : 2 ≤ n)]
    constructor
    · rintro ⟨h0, y, _, hy, ht⟩
      refine ⟨?_, y, ht, by simpa using hy⟩
      by_cases hlt : dist T b x < n
      · rw [if_pos hlt] at h0; exact .inl h0
      · exact .inr (by omega)
    · rintro ⟨h0, y, ht, hy⟩
      refine ⟨?_, y, (hT _ _ ht).2, by simpa [h1] using hy, ht⟩
      rcases h0 with h0 | h0
      · rw [h0]; simp
      · rw [if_neg (by omega)]

/-- How far the level has been gone through, for each guest. -/
def cnt (m x0 j : Nat) : Nat → Nat := fun x => if x < x0 then m else if x = x0 then j else 0

noncomputable def stepsMid (T : Nat → Nat → Bool) (b n : Nat) (ys : List Int) (x0 j : Nat) : Nat → Nat := fun x => if hit T b n ys x (cnt ys.length x0 j x) then n else stepsAt T b n x
noncomputable def nextMid (T : Nat → Nat → Bool) (b n : Nat) (ys : List Int) (x0 j : Nat) : Nat → Bool := fun x => hit T b n ys x (cnt ys.length x0 j x)

theorem mid_start (T : Nat → Nat → Bool) (b n : Nat) (ys : List Int) : stepsMid T b n ys 0 0 = stepsAt T b n ∧ nextMid T b n ys 0 0 = fun _ => false := by
  constructor <;> funext x <;> simp [stepsMid, nextMid, cnt, hit_zero]

theorem mid_row (T : Nat → Nat → Bool) (b n : Nat) (ys : List Int) (x0 : Nat) : stepsMid T b n ys x0 ys.length = stepsMid T b n ys (x0 + 1) 0 ∧ nextMid T b n ys x0 ys.length = nextMid T b n ys (x0 + 1) 0 := by
  have h : ∀ x, hit T b n ys x (cnt ys.length x0 ys.length x) = hit T b n ys x (cnt ys.length (x0 + 1) 0 x) := by
    intro x
    unfold cnt
    by_cases h1 : x < x0
    · rw [if_pos h1, if_pos (by omega)]
    · rw [if_neg h1]
      by_cases h2 : x = x0
      · rw [if_pos h2, if_pos (by omega)]
      · rw [if_neg h2, if_neg (by omega)]
        by_cases h3 : x = x0 + 1
        · rw [if_pos h3]
        · rw [if_neg h3]
  constructor <;> funext x <;> simp only [stepsMid, nextMid, h]

theorem mid_end {N : Nat} {T : Nat → Nat → Bool} (hT : Inside N T) (h24 : N ≤ 24) {b n : Nat} (hb : b < 24) (hn : 1 ≤ n) :
    stepsMid T b n (members (nowAt T b n)) N 0 = stepsAt T b (n + 1) ∧ nextMid T b n (members (nowAt T b n)) N 0 = nowAt T b (n + 1) := by
  have hT24 : Inside 24 T := fun p q hpq => by have := hT p q hpq; omega
  have h : ∀ x, hit T b n (members (nowAt T b n)) x (cnt (members (nowAt T b n)).length N 0 x) = decide (dist T b x = n) := by
    intro x
    unfold cnt
    by_cases h1 : x < N
    · rw [if_pos h1]; exact hit_all hT24 hb hn x
    · rw [if_neg h1]
      have : dist T b x = 0 := by
        by_cases h0 : dist T b x = 0
        · exact h0
        · exact absurd (dist_lt hT h0) h1
      have e : (if x = N then 0 else 0) = 0 := by split <;> rfl
      rw [e, hit_zero, this]
      symm; simp; omega
  constructor <;> funext x
  · simp only [stepsMid, h, stepsAt, decide_eq_true_eq]
    by_cases h1 : dist T b x = n
    · rw [if_pos h1, if_pos (by omega), h1]
    · rw [if_neg h1]
      by_cases h2 : dist T b x < n
      · rw [if_pos h2, if_pos (by omega)]
      · rw [if_neg h2, if_neg (by omega)]
  · simp only [nextMid, h, nowAt]
    rw [if_neg (by omega)]
    simp

/-- A guest who is found by the level's next one. -/
theorem mid_found {T : Nat → Nat → Bool} {b n : Nat} (hn : 1 ≤ n) {ys : List Int} {x0 j : Nat} (hj : j < ys.length) (ht : T x0 (ys[j]).toNat = true) (h0 : stepsMid T b n ys x0 j x0 = 0) :
    (fun x => if x = x0 then n else stepsMid T b n ys x0 j x) = stepsMid T b n ys x0 (j + 1) ∧ upd (nextMid T b n ys x0 j) x0 true = nextMid T b n ys x0 (j + 1) := by
  have c1 : cnt ys.length x0 j x0 = j := by simp [cnt]
  have c2 : cnt ys.length x0 (j + 1) x0 = j + 1 := by simp [cnt]
  have c3 : ∀ x, x ≠ x0 → cnt ys.length x0 j x = cnt ys.length x0 (j + 1) x := by intro x hx; simp [cnt, hx]
  have hs : stepsAt T b n x0 = 0 ∧ hit T b n ys x0 j = false := by
    simp only [stepsMid, c1] at h0
    split at h0
    · omega
    · rename_i hc
      exact ⟨h0, by simpa using hc⟩
  have h1 : hit T b n ys x0 (j + 1) = true := by rw [hit_succ hj, hs.1, ht]; simp
  constructor <;> funext x
  · by_cases hx : x = x0
    · subst hx; simp [stepsMid, c2, h1]
    · simp [stepsMid, hx, c3 x hx]
  · by_cases hx : x = x0
    · subst hx; simp [nextMid, upd, c2, h1]
    · simp [nextMid, upd, hx, c3 x hx]

theorem mid_not {T : Nat → Nat → Bool} {b n : Nat} {ys : List Int} {x0 j : Nat} (hj : j < ys.length) (h : T x0 (ys[j]).toNat = false ∨ stepsMid T b n ys x0 j x0 ≠ 0) :
    stepsMid T b n ys x0 j = stepsMid T b n ys x0 (j + 1) ∧ nextMid T b n ys x0 j = nextMid T b n ys x0 (j + 1) := by
  have c1 : cnt ys.length x0 j x0 = j := by simp [cnt]
  have c2 : cnt ys.length x0 (j + 1) x0 = j + 1 := by simp [cnt]
  have c3 : ∀ x, x ≠ x0 → cnt ys.length x0 j x = cnt ys.length x0 (j + 1) x := by intro x hx; simp [cnt, hx]
  have hh : hit T b n ys x0 (j + 1) = hit T b n ys x0 j := by
    rw [hit_succ hj]
    rcases h with h | h
    · rw [h]; simp
    · simp only [stepsMid, c1] at h
      cases hb : hit T b n ys x0 j with
      | true => rfl
      | false =>
        rw [hb] at h
        have : stepsAt T b n x0 ≠ 0 := h
        simp [this]
  constructor <;> funext x <;> by_cases hx : x = x0
  · subst hx; simp [stepsMid, c1, c2, hh]
  · simp [stepsMid, c3 x hx]
  · subst hx; simp [nextMid, c1, c2, hh]
  · simp [nextMid, c3 x hx]

/-- When a level is empty, all are found. -/
theorem steps_done {T : Nat → Nat → Bool} (hT : Inside 24 T) {b n : Nat} (hb : b < 24) (hn : 1 ≤ n) (he : ∀ y < 24, nowAt T b n y = false) : stepsAt T b n = dist T b := by
  funext x
  unfold stepsAt
  by_cases h : dist T b x < n
  · rw [if_pos h]
  · exfalso
    by_cases h1 : n = 1
    · subst h1
      have := he b hb
      simp [nowAt] at this
    · obtain ⟨m, hm⟩ : ∃ m, dist T b x = m + 1 := ⟨dist T b x - 1, by omega⟩
      obtain ⟨y, hy⟩ := dist_down m x hm (n - 1) (by omega) (by omega)
      have hy24 : y < 24 := dist_lt hT (by omega : dist T b y ≠ 0)
      have := he y hy24
      simp [nowAt, h1, hy] at this

/-! ### The first shortest chain -/
noncomputable def follow (T : Nat → Nat → Bool) (d : Nat → Nat) : Nat → Nat → List Int
  | _, 0 => []
  | x, k + 1 => match (members (T x)).find? fun y => decide (d y.toNat = k + 1) with
    | some y => y :: follow T d y.toNat k
    | none => []

theorem find_at {l : List Int} {p : Int → Bool} : ∀ {i : Nat} (hi : i < l.length), (∀ j (h : j < l.length), j < i → p l[j] = false) → p l[i] = true → l.find? p = some l[i] := by
  induction l with
  | nil => intro i hi; simp at hi
  | cons x l ih =>
    intro i hi h hp
    cases i with
    | zero => simp at hp; simp [hp]
    | succ i =>
      have h0 := h 0 (by simp) (by omega)
      simp at h0
      rw [List.find?_cons_of_neg (by simp [h0])]
      have := ih (i := i) (by simpa using hi) (fun j hj hji => by have := h (j + 1) (by simpa using hj) (by omega); simpa using this) (by simpa using hp)
      simpa using this

theorem find_none_at {l : List Int} {p : Int → Bool} (h : ∀ j (h : j < l.length), p l[j] = false) : l.find? p = none := by
  rw [List.find?_eq_none]
  intro x hx
  obtain ⟨j, hj, rfl⟩ := List.getElem_of_mem hx
  simp [h j hj]

end Go.Proofs.Ytdfhfehlmonjjaa
