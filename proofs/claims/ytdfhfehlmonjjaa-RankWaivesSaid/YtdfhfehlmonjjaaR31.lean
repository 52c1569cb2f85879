/- The reference's far and Chain. -/
import Derived.Test.YtdfhfehlmonjjaaR30
namespace Go.Proofs.Ytdfhfehlmonjjaa
open Go.Eng Go.RowKit

theorem dist_count {n : Nat} {T : Nat → Nat → Bool} (hT : Inside n T) {b m x : Nat} (h : dist T b x = m + 1) : ∀ k, k ≤ m + 1 → k ≤ ((List.range n).filter fun y => decide (1 ≤ dist T b y ∧ dist T b y ≤ k)).length
  | 0, _ => Nat.zero_le _
  | k + 1, hk => by
    have ih := dist_count hT h k (by omega)
    obtain ⟨y, hy⟩ := dist_down m x h (k + 1) (by omega) hk
    have hyn : y < n := dist_lt hT (b := b) (by omega)
    have := filter_lt (p := fun y => decide (1 ≤ dist T b y ∧ dist T b y ≤ k)) (q := fun y => decide (1 ≤ dist T b y ∧ dist T b y ≤ k + 1)) (List.range n) (fun z hz => by
      have := of_decide_eq_true hz
      exact decide_eq_true (by omega)) (List.mem_range.2 hyn) (decide_eq_false (by omega)) (decide_eq_true (by omega))
    omega

theorem dist_le {n : Nat} {T : Nat → Nat → Bool} (hT : Inside n T) (b x : Nat) : dist T b x ≤ n := by
  by_cases h : dist T b x = 0
  · omega
  · obtain ⟨m, hm⟩ : ∃ m, dist T b x = m + 1 := ⟨dist T b x - 1, by omega⟩
    have h1 := dist_count hT hm (m + 1) (Nat.le_refl _)
    have h2 := List.length_filter_le (fun y => decide (1 ≤ dist T b y ∧ dist T b y ≤ m + 1)) (List.range n)
    rw [List.length_range] at h2
    omega

/-- The first guests, who stand a single arrow away. -/
def oneTo (T : Nat → Nat → Bool) (b a : Nat) : Nat → Nat := fun x => if x < a ∧ T x b = true then 1 else 0

theorem oneTo_zero (T : Nat → Nat → Bool) (b : Nat) : oneTo T b 0 = fun _ => 0 := by funext x; simp [oneTo]
theorem oneTo_yes {T : Nat → Nat → Bool} {b a : Nat} (h : T a b = true) : (fun x => if x = a then 1 else oneTo T b a x) = oneTo T b (a + 1) := by
  funext x
  unfold oneTo
  by_cases e : x = a
  · subst e; rw [if_pos rfl, if_pos ⟨by omega, h⟩]
  · rw [if_neg e]
    by_cases hx : x < a ∧ T x b = true
    · rw [if_pos hx, if_pos ⟨by omega, hx.2⟩]
    · rw [if_neg hx, if_neg (fun hh => hx ⟨by omega, hh.2⟩)]
theorem oneTo_no {T : Nat → Nat → Bool} {b a : Nat} (h : T a b = false) : oneTo T b a = oneTo T b (a + 1) := by
  funext x
  unfold oneTo
  by_cases e : x = a
  · subst e; rw [if_neg (by omega), if_neg (by rw [h]; simp)]
  · by_cases hx : x < a ∧ T x b = true
    · rw [if_pos hx, if_pos ⟨by omega, hx.2⟩]
    · rw [if_neg hx, if_neg (fun hh => hx ⟨by omega, hh.2⟩)]
theorem oneTo_end {n : Nat} {T : Nat → Nat → Bool} (hT : Inside n T) (b : Nat) : oneTo T b n = stepsAt T b 2 := by
  funext x
  unfold oneTo stepsAt
  by_cases h : T x b = true
  · rw [if_pos ⟨(hT _ _ h).1, h⟩, dist_one.2 h, if_pos (by omega)]
  · rw [if_neg (fun hh => h hh.2)]
    have : dist T b x ≠ 1 := fun hh => h (dist_one.1 hh)
    split <;> omega

noncomputable def anyTo (T : Nat → Nat → Bool) (b k a c : Nat) : Bool := (List.range c).any fun y => T a y && decide (dist T b y = k - 1)
open Classical in
noncomputable def midN (T : Nat → Nat → Bool) (b k a c : Nat) : Nat → Nat := fun x => if x < a ∧ dist T b x = k ∨ x = a ∧ stepsAt T b k x = 0 ∧ anyTo T b k a c = true then k else stepsAt T b k x

theorem anyTo_succ (T : Nat → Nat → Bool) (b k a c : Nat) : anyTo T b k a (c + 1) = (anyTo T b k a c || (T a c && decide (dist T b c = k - 1))) := by
  unfold anyTo
  rw [List.range_succ, List.any_append]; simp

theorem midN_start (T : Nat → Nat → Bool) (b k : Nat) : midN T b k 0 0 = stepsAt T b k := by
  funext x
  unfold midN
  rw [if_neg]
  rintro (h | ⟨_, _, h⟩)
  · omega
  · simp [anyTo] at h

theorem stepsAt_back {T : Nat → Nat → Bool} {b k x : Nat} (hk : 2 ≤ k) : stepsAt T b k x = k - 1 ↔ dist T b x = k - 1 := by
  unfold stepsAt
  split <;> omega

theorem midN_hit {T : Nat → Nat → Bool} {b k a c : Nat} (hk : 2 ≤ k) (h0 : stepsAt T b k a = 0) (ht : T a c = true) (hd : stepsAt T b k c = k - 1) : (fun x => if x = a then k else midN T b k a c x) = midN T b k a (c + 1) := by
  have hany : anyTo T b k a (c + 1) = true := by rw [anyTo_succ, ht, decide_eq_true ((stepsAt_back hk).1 hd)]; simp
  funext x
  unfold midN
  by_cases e : x = a
  · subst e; rw [if_pos rfl, if_pos (.inr ⟨rfl, h0, hany⟩)]
  · rw [if_neg e]
    by_cases hx : x < a ∧ dist T b x = k
    · rw [if_pos (.inl hx), if_pos (.inl hx)]
    · rw [if_neg (fun h => h.elim hx fun h => e h.1), if_neg (fun h => h.elim hx fun h => e h.1)]

theorem midN_miss {T : Nat → Nat → Bool} {b k a c : Nat} (hk : 2 ≤ k) (h : stepsAt T b k a ≠ 0 ∨ T a c = false ∨ stepsAt T b k c ≠ k - 1) : midN T b k a c = midN T b k a (c + 1) := by
  funext x
  unfold midN
  have key : (x = a ∧ stepsAt T b k x = 0 ∧ anyTo T b k a c = true) ↔ (x = a ∧ stepsAt T b k x = 0 ∧ anyTo T b k a (c + 1) = true) := by
    constructor
    · rintro ⟨e, h0, h1⟩
      exact ⟨e, h0, by rw [anyTo_succ, h1]; rfl⟩
    · rintro ⟨e, h0, h1⟩
      refine ⟨e, h0, ?_⟩
      subst e
      rcases h with h | h | h
      · exact absurd h0 h
      · rw [anyTo_succ, h, Bool.false_and, Bool.or_false] at h1; exact h1
      · rw [anyTo_succ, decide_eq_false (fun hh => h ((stepsAt_back hk).2 hh)), Bool.and_false, Bool.or_false] at h1; exact h1
  by_cases hx : x < a ∧ dist T b x = k
  · rw [if_pos (.inl hx), if_pos (.inl hx)]
  · by_cases hy : x = a ∧ stepsAt T b k x = 0 ∧ anyTo T b k a c = true
    · rw [if_pos (.inr hy), if_pos (.inr (key.1 hy))]
    · rw [if_neg (fun h => h.elim hx hy), if_neg (fun h => h.elim hx fun h => hy (key.2 h))]

theorem midN_row {n : Nat} {T : Nat → Nat → Bool} (hT : Inside n T) {b k a : Nat} (hk : 2 ≤ k) : midN T b k a n = midN T b k (a + 1) 0 := by
  funext x
  have hz : ∀ y, ¬ (y = a + 1 ∧ stepsAt T b k y = 0 ∧ anyTo T b k (a + 1) 0 = true) := fun y h => by simp [anyTo] at h
  have key : (x = a ∧ stepsAt T b k x = 0 ∧ anyTo T b k a n = true) ↔ (x = a ∧ dist T b x = k) := by
    constructor
    · rintro ⟨rfl, h0, h1⟩
      refine ⟨rfl, (dist_next hk).2 ⟨?_, ?_⟩⟩
      · unfold stepsAt at h0
        split at h0 <;> omega
      · obtain ⟨y, _, hy⟩ := List.any_eq_true.1 h1
        rw [Bool.and_eq_true, decide_eq_true_eq] at hy
        exact ⟨y, hy⟩
    · rintro ⟨rfl, h⟩
      obtain ⟨_, y, hy, hd⟩ := (dist_next hk).1 h
      refine ⟨rfl, by unfold stepsAt; rw [if_neg (by omega)], List.any_eq_true.2 ⟨y, List.mem_range.2 (hT _ _ hy).2, by rw [hy, decide_eq_true hd]; rfl⟩⟩
  unfold midN
  by_cases hx : x < a ∧ dist T b x = k
  · rw [if_pos (.inl hx), if_pos (.inl ⟨by omega, hx.2⟩)]
  · by_cases hy : x = a ∧ dist T b x = k
    · rw [if_pos (.inr (key.2 hy)), if_pos (.inl ⟨by omega, hy.2⟩)]
    · rw [if_neg (fun h => h.elim hx fun h => hy (key.1 h)), if_neg]
      rintro (h | h)
      · rcases Nat.lt_or_ge x a with h1 | h1
        · exact hx ⟨h1, h.2⟩
        · exact hy ⟨by omega, h.2⟩
      · exact hz x h

theorem midN_end {n : Nat} {T : Nat → Nat → Bool} (hT : Inside n T) {b k : Nat} (hk : 2 ≤ k) : midN T b k n 0 = stepsAt T b (k + 1) := by
  funext x
  unfold midN
  by_cases hd : dist T b x = k
  · have hx : x < n := dist_lt hT (b := b) (by omega)
    rw [if_pos (.inl ⟨hx, hd⟩)]
    unfold stepsAt
    rw [if_pos (by omega), hd]
  · rw [if_neg]
    · unfold stepsAt
      split <;> split <;> omega
    · rintro (h | h)
      · exact hd h.2
      · simp [anyTo] at h

theorem stepsAt_all {n : Nat} {T : Nat → Nat → Bool} (hT : Inside n T) (b : Nat) : stepsAt T b (n + 1) = dist T b := by
  funext x
  have := dist_le hT b x
  unfold stepsAt
  rw [if_pos (by omega)]

theorem nats_one (f : Nat → Nat) : (nats f).all (·.oneCell') = true := by
  rw [List.all_eq_true]
  intro v hv
  obtain ⟨k, _, rfl⟩ := List.mem_map.1 hv
  rfl
theorem nats_size (f : Nat → Nat) : (Value.agg (nats f).toArray).cells.size = 24 := by simp [Value.cells, nats_length]
theorem nats_copy (f g : Nat → Nat) : splice (nats g) 0 (nats f) = nats f := by
  unfold splice
  have h1 := nats_length f
  have h2 := nats_length g
  rw [h1, List.drop_eq_nil_of_le (by omega)]
  simp
theorem nats_cell {w : World} {g t : Nat} {fr : Nat × Nat} {f : Nat → Nat} (h : w.heap[g]? = some (.cells (nats f).toArray t fr)) {a : Nat} (ha : a < 24) : w.cell? ⟨g, 0 + a * 1, none⟩ = some (.int .i64 (f a : Nat)) := by
  have := (Rd.of_block h) a _ (nats_get ha f)
  simpa using this

set_option maxRecDepth 100000 in
theorem far_spec {N : Int} {A : Option Addr} {xs : List Arrow} {c : Nat} {w : World} (h : HRel w N A xs c) (hok : Valid N xs) {b : Nat} (hb : (b : Int) < N) :
    CallsV C.P 71 #[relVal N A xs.length c, .int .i64 b] w fun v w' => v = .agg (nats (dist (toM xs) b)).toArray ∧ Ext w w' := by
  have hlo := hok.lo
  have hhi := hok.hi
  obtain ⟨n, rfl⟩ := Int.eq_ofNat_of_zero_le hlo
  have hn : n ≤ 24 := by omega
  have hb24 : b < 24 := by omega
  have hT : Inside n (toM xs) := hok.inside
  refine callsV_of C_ok (args := [_, _]) (plans := []) Try.func71 rfl Try.ntmps71 (by kernel_rfl) (Nat.le_of_ble_eq_true rfl) ?_
  intro g2 w1 h1
  intro g4 w2 h2
  have M2 := ((Mem.start w).alloc h1).alloc h2
  refine ⟨[.int .i64 n, .slice A xs.length c], rfl, M2.rd 1 rfl, ?_⟩
  refine (steps_spec (h.ext M2.ext) hok).mono ?_
  rintro v w3 ⟨rfl, e3⟩
  have M3 := M2.grow e3
  intro g5 w4 h4
  have M4 := M3.alloc h4
  refine ⟨mat_size _, _, _, M4.get 0 rfl, Nat.le_of_ble_eq_true rfl, bools_one 576 _, ?_⟩
  intro w5 h5
  have h5 : Put w4 g5 (.cells (mat (toM xs)).toArray 93 (0, 0)) w5 := by
    have := mat_copy (toM xs) fun _ _ => false
    rw [← mat_zero] at this
    rw [← this]; exact h5
  have M5 := M4.put 0 rfl h5
  intro g6 w6 h6
  have M6 := M5.alloc h6
  generalize toM xs = T at *
  have M6 : Mem w w6 [(g6, .cells (nats (oneTo T b 0)).toArray 80 (0, 0)), (g5, .cells (mat T).toArray 93 (0, 0)), (g4, .cells (nats fun _ => 0).toArray 80 (0, 0)), (g2, .cells #[.int .i64 n, .slice A xs.length c] 24 (0, 0))] := by
    rw [oneTo_zero, ← nats_zero]; exact M6
  refine loopE C_ok (fun (a : Nat) => [(1, .int .i64 b), (2, .pointer (some ⟨g2, 0, none⟩)), (4, .pointer (some ⟨g4, 0, none⟩)), (5, .pointer (some ⟨g5, 0, none⟩)), (6, .pointer (some ⟨g6, 0, none⟩)), (7, .int .i64 a)])
    (fun a w' => a ≤ n ∧ Mem w w' [(g6, .cells (nats (oneTo T b a)).toArray 80 (0, 0)), (g5, .cells (mat T).toArray 93 (0, 0)), (g4, .cells (nats fun _ => 0).toArray 80 (0, 0)), (g2, .cells #[.int .i64 n, .slice A xs.length c] 24 (0, 0))]) (fun a => n - a) 0
    ⟨rfl, rfl, rfl, rfl, rfl, rfl, trivial⟩ ⟨Nat.zero_le _, M6⟩ ?_
  rintro a w7 ⟨ha, M7⟩
  refine ⟨_, M7.cell 3 rfl rfl, ?_⟩
  refine brE_dec (fun hlt => ?_) (fun hge => ?_)
  · have hlt : a < n := by have : (a : Int) < n := hlt; omega
    have ha24 : a < 24 := by omega
    have next : IntKind.i64.wrap ((a : Int) + 1) = ((a + 1 : Nat) : Int) := fit ⟨by omega, by omega⟩
    refine ⟨a, rfl, ha24, ?_⟩
    refine ⟨b, rfl, hb24, ?_⟩
    refine ⟨_, mat_cell (M7.get 1 rfl) ha24 hb24, ?_⟩
    refine brE_mk (fun hr => ?_) (fun hr => ?_)
    · refine ⟨a, rfl, ha24, ?_⟩
      refine ⟨rfl, _, _, M7.get 0 rfl, by rw [nats_length]; show 0 + a * 1 + 1 ≤ 24; omega, rfl, ?_⟩
      intro w8 h8
      have e8 : splice (nats (oneTo T b a)) (0 + a * 1) [.int .i64 1] = nats (oneTo T b (a + 1)) := by
        rw [← oneTo_yes hr]
        have := nats_set ha24 (oneTo T b a) 1
        rw [Nat.mul_one, Nat.zero_add]
        exact this
      have h8 : Put w7 g6 (.cells (nats (oneTo T b (a + 1))).toArray 80 (0, 0)) w8 := by rw [← e8]; exact h8
      refine ⟨_, next, ?_⟩
      exact ⟨a + 1, ⟨rfl, rfl, rfl, rfl, rfl, rfl, trivial⟩, ⟨hlt, M7.put 0 rfl h8⟩, by omega⟩
    · refine ⟨_, next, ?_⟩
      exact ⟨a + 1, ⟨rfl, rfl, rfl, rfl, rfl, rfl, trivial⟩, ⟨hlt, by rw [← oneTo_no hr]; exact M7⟩, by omega⟩
  · have : a = n := by have : ¬ (a : Int) < n := hge; omega
    subst this
    rw [oneTo_end hT] at M7
    refine loopE C_ok (fun (k : Nat) => [(1, .int .i64 b), (2, .pointer (some ⟨g2, 0, none⟩)), (4, .pointer (some ⟨g4, 0, none⟩)), (5, .pointer (some ⟨g5, 0, none⟩)), (6, .pointer (some ⟨g6, 0, none⟩)), (8, .int .i64 k)])
      (fun k w' => 2 ≤ k ∧ k ≤ a + 1 ∧ Mem w w' [(g6, .cells (nats (stepsAt T b k)).toArray 80 (0, 0)), (g5, .cells (mat T).toArray 93 (0, 0)), (g4, .cells (nats fun _ => 0).toArray 80 (0, 0)), (g2, .cells #[.int .i64 a, .slice A xs.length c] 24 (0, 0))]) (fun k => a + 1 - k) 2
      ⟨rfl, rfl, rfl, rfl, rfl, rfl, trivial⟩ ⟨Nat.le_refl _, by omega, M7⟩ ?_
    rintro k w8 ⟨hk2, hk, M8⟩
    refine ⟨_, M8.cell 3 rfl rfl, ?_⟩
    refine brE_dec (fun hlt => ?_) (fun hge2 => ?_)
    · have hlt : k ≤ a := by have : (k : Int) ≤ a := hlt; omega
      refine ⟨nats (stepsAt T b k), nats_length _, M8.rd 0 rfl, ?_⟩
      intro g9 w9 h9
      have M9 := M8.alloc h9
      refine ⟨nats_size _, _, _, M9.get 0 rfl, Nat.le_of_ble_eq_true rfl, nats_one _, ?_⟩
      intro w10 h10
      have h10 : Put w9 g9 (.cells (nats (midN T b k 0 0)).toArray 80 (0, 0)) w10 := by
        have := nats_copy (stepsAt T b k) fun _ => 0
        rw [← nats_zero] at this
        rw [midN_start, ← this]; exact h10
      have M10 := M9.put 0 rfl h10
      refine loopE C_ok (fun (i : Nat) => [(1, .int .i64 b), (2, .pointer (some ⟨g2, 0, none⟩)), (4, .pointer (some ⟨g4, 0, none⟩)), (5, .pointer (some ⟨g5, 0, none⟩)), (6, .pointer (some ⟨g6, 0, none⟩)), (8, .int .i64 k), (9, .pointer (some ⟨g9, 0, none⟩)), (10, .int .i64 i)])
        (fun i w' => i ≤ a ∧ Mem w w' [(g9, .cells (nats (midN T b k i 0)).toArray 80 (0, 0)), (g6, .cells (nats (stepsAt T b k)).toArray 80 (0, 0)), (g5, .cells (mat T).toArray 93 (0, 0)), (g4, .cells (nats fun _ => 0).toArray 80 (0, 0)), (g2, .cells #[.int .i64 a, .slice A xs.length c] 24 (0, 0))]) (fun i => a - i) 0
        ⟨rfl, rfl, rfl, rfl, rfl, rfl, rfl, rfl, trivial⟩ ⟨Nat.zero_le _, M10⟩ ?_
      rintro i w11 ⟨hi, M11⟩
      refine ⟨_, M11.cell 4 rfl rfl, ?_⟩
      refine brE_dec (fun hlti => ?_) (fun hgei => ?_)
      · have hlti : i < a := by have : (i : Int) < a := hlti; omega
        have hi24 : i < 24 := by omega
        refine loopE C_ok (fun (j : Nat) => [(1, .int .i64 b), (2, .pointer (some ⟨g2, 0, none⟩)), (4, .pointer (some ⟨g4, 0, none⟩)), (5, .pointer (some ⟨g5, 0, none⟩)), (6, .pointer (some ⟨g6, 0, none⟩)), (8, .int .i64 k), (9, .pointer (some ⟨g9, 0, none⟩)), (10, .int .i64 i), (11, .int .i64 j)])
          (fun j w' => j ≤ a ∧ Mem w w' [(g9, .cells (nats (midN T b k i j)).toArray 80 (0, 0)), (g6, .cells (nats (stepsAt T b k)).toArray 80 (0, 0)), (g5, .cells (mat T).toArray 93 (0, 0)), (g4, .cells (nats fun _ => 0).toArray 80 (0, 0)), (g2, .cells #[.int .i64 a, .slice A xs.length c] 24 (0, 0))]) (fun j => a - j) 0
          ⟨rfl, rfl, rfl, rfl, rfl, rfl, rfl, rfl, rfl, trivial⟩ ⟨Nat.zero_le _, M11⟩ ?_
        rintro j w12 ⟨hj, M12⟩
        refine ⟨_, M12.cell 4 rfl rfl, ?_⟩
        refine brE_dec (fun hltj => ?_) (fun hgej => ?_)
        · have hltj : j < a := by have : (j : Int) < a := hltj; omega
          have hj24 : j < 24 := by omega
          have next : IntKind.i64.wrap ((j : Int) + 1) = ((j + 1 : Nat) : Int) := fit ⟨by omega, by omega⟩
          have miss : (stepsAt T b k i ≠ 0 ∨ T i j = false ∨ stepsAt T b k j ≠ k - 1) → j + 1 ≤ a ∧ Mem w w12 [(g9, .cells (nats (midN T b k i (j + 1))).toArray 80 (0, 0)), (g6, .cells (nats (stepsAt T b k)).toArray 80 (0, 0)), (g5, .cells (mat T).toArray 93 (0, 0)), (g4, .cells (nats fun _ => 0).toArray 80 (0, 0)), (g2, .cells #[.int .i64 a, .slice A xs.length c] 24 (0, 0))] := fun hm =>
            ⟨hltj, by rw [← midN_miss hk2 hm]; exact M12⟩
          refine ⟨i, rfl, hi24, ?_⟩
          refine ⟨_, nats_cell (M12.get 1 rfl) hi24, ?_⟩
          refine brE_dec (fun h0 => ?_) (fun h0 => ?_)
          · have h0 : stepsAt T b k i = 0 := by have : ((stepsAt T b k i : Nat) : Int) = 0 := h0; omega
            refine ⟨i, rfl, hi24, ?_⟩
            refine ⟨j, rfl, hj24, ?_⟩
            refine ⟨_, mat_cell (M12.get 2 rfl) hi24 hj24, ?_⟩
            refine brE_mk (fun hr => ?_) (fun hr => ?_)
            · refine ⟨j, rfl, hj24, ?_⟩
              refine ⟨_, nats_cell (M12.get 1 rfl) hj24, ?_⟩
              refine ⟨((k - 1 : Nat) : Int), by rw [fit ⟨by omega, by omega⟩]; omega, ?_⟩
              refine brE_dec (fun hd => ?_) (fun hd => ?_)
              · have hd : stepsAt T b k j = k - 1 := by have : ((stepsAt T b k j : Nat) : Int) = ((k - 1 : Nat) : Int) := hd; omega
                refine ⟨i, rfl, hi24, ?_⟩
                refine ⟨rfl, _, _, M12.get 0 rfl, by rw [nats_length]; show 0 + i * 1 + 1 ≤ 24; omega, rfl, ?_⟩
                intro w13 h13
                have e13 : splice (nats (midN T b k i j)) (0 + i * 1) [.int .i64 (k : Nat)] = nats (midN T b k i (j + 1)) := by
                  rw [← midN_hit hk2 h0 hr hd]
                  have := nats_set hi24 (midN T b k i j) k
                  rw [Nat.mul_one, Nat.zero_add]
                  exact this
                have h13 : Put w12 g9 (.cells (nats (midN T b k i (j + 1))).toArray 80 (0, 0)) w13 := by rw [← e13]; exact h13
                refine ⟨_, next, ?_⟩
                exact ⟨j + 1, ⟨rfl, rfl, rfl, rfl, rfl, rfl, rfl, rfl, rfl, trivial⟩, ⟨hltj, M12.put 0 rfl h13⟩, by omega⟩
              · have hd : stepsAt T b k j ≠ k - 1 := by have : ¬ ((stepsAt T b k j : Nat) : Int) = ((k - 1 : Nat) : Int) := hd; omega
                refine ⟨_, next, ?_⟩
                exact ⟨j + 1, ⟨rfl, rfl, rfl, rfl, rfl, rfl, rfl, rfl, rfl, trivial⟩, miss (.inr (.inr hd)), by omega⟩
            · refine ⟨_, next, ?_⟩
              exact ⟨j + 1, ⟨rfl, rfl, rfl, rfl, rfl, rfl, rfl, rfl, rfl, trivial⟩, miss (.inr (.inl hr)), by omega⟩
          · have h0 : stepsAt T b k i ≠ 0 := by have : ¬ ((stepsAt T b k i : Nat) : Int) = 0 := h0; omega
            refine ⟨_, next, ?_⟩
            exact ⟨j + 1, ⟨rfl, rfl, rfl, rfl, rfl, rfl, rfl, rfl, rfl, trivial⟩, miss (.inl h0), by omega⟩
        · have : j = a := by have : ¬ (j : Int) < a := hgej; omega
          subst this
          rw [midN_row hT hk2] at M12
          refine ⟨((i + 1 : Nat) : Int), fit ⟨by omega, by omega⟩, ?_⟩
          exact ⟨i + 1, ⟨rfl, rfl, rfl, rfl, rfl, rfl, rfl, rfl, trivial⟩, ⟨hlti, M12⟩, by omega⟩
      · have : i = a := by have : ¬ (i : Int) < a := hgei; omega
        subst this
        rw [midN_end hT hk2] at M11
        refine ⟨nats (stepsAt T b (k + 1)), nats_length _, M11.rd 0 rfl, ?_⟩
        refine ⟨nats_size _, _, _, M11.get 1 rfl, by rw [nats_length]; exact Nat.le_refl _, nats_one _, ?_⟩
        intro w12 h12
        have h12 : Put w11 g6 (.cells (nats (stepsAt T b (k + 1))).toArray 80 (0, 0)) w12 := by rw [← nats_copy (stepsAt T b (k + 1)) (stepsAt T b k)]; exact h12
        have M12 := (M11.put 1 rfl h12).tail
        refine ⟨((k + 1 : Nat) : Int), fit ⟨by omega, by omega⟩, ?_⟩
        exact ⟨k + 1, ⟨rfl, rfl, rfl, rfl, rfl, rfl, trivial⟩, ⟨by omega, by omega, M12⟩, by omega⟩
    · have : k = a + 1 := by have : ¬ (k : Int) ≤ a := hge2; omega
      subst this
      rw [stepsAt_all hT] at M8
      refine ⟨nats (dist T b), nats_length _, M8.rd 0 rfl, ?_⟩
      refine ⟨nats_size _, _, _, M8.get 2 rfl, by rw [nats_length]; exact Nat.le_refl _, nats_one _, ?_⟩
      intro w9 h9
      have h9 : Put w8 g4 (.cells (nats (dist T b)).toArray 80 (0, 0)) w9 := by rw [← nats_copy (dist T b) fun _ => 0]; exact h9
      have M9 := M8.put 2 rfl h9
      refine ⟨nats (dist T b), nats_length _, M9.rd 2 rfl, ?_⟩
      exact ⟨rfl, M9.ext⟩

end Go.Proofs.Ytdfhfehlmonjjaa
