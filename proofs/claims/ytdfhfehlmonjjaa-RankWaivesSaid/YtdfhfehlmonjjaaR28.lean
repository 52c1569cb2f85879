/- The reference: in, steps, Reach, standing. -/
import Derived.Test.YtdfhfehlmonjjaaR27
namespace Go.Proofs.Ytdfhfehlmonjjaa
open Go.Eng Go.RowKit

theorem mat_congr {M K : Nat → Nat → Bool} (h : ∀ a < 24, ∀ b < 24, M a b = K a b) : mat M = mat K :=
  bools_congr fun k hk => h (k / 24) (by omega) (k % 24) (Nat.mod_lt _ (by omega))
theorem mat_zero : List.replicate 576 (Value.bool false) = mat fun _ _ => false := bools_false 576
theorem mat_size (M : Nat → Nat → Bool) : (Value.agg (mat M).toArray).cells.size = 576 := by simp [Value.cells, bools_length]
theorem mat_copy (M K : Nat → Nat → Bool) : splice (mat K) 0 (mat M) = mat M := by
  unfold splice
  rw [bools_length]
  simp [bools_length]

/-- A cell of a matrix in memory. -/
theorem mat_cell {w : World} {g t : Nat} {fr : Nat × Nat} {M : Nat → Nat → Bool} (h : w.heap[g]? = some (.cells (mat M).toArray t fr)) {a b : Nat} (ha : a < 24) (hb : b < 24) : w.cell? ⟨g, 0 + a * 24 + b * 1, none⟩ = some (.bool (M a b)) := by
  have := (Rd.of_block h) _ _ (mat_get ha hb M)
  simpa using this

theorem refIn_spec (N : Int) (A : Option Addr) (k c : Nat) (n : Int) (w : World) : CallsV C.P 69 #[relVal N A k c, .int .i64 n] w fun v w' => v = .bool (inR N n) ∧ Ext w w' := by
  refine callsV_of C_ok (args := [_, _]) (plans := []) Try.func69 rfl Try.ntmps69 (by kernel_rfl) (Nat.le_of_ble_eq_true rfl) ?_
  intro g1 w1 h1
  have M1 := (Mem.start w).alloc h1
  refine brE_dec (fun h => ?_) (fun h => ?_)
  · have h : n ≥ 0 := h
    refine ⟨_, M1.cell 0 rfl rfl, ?_⟩
    refine ⟨?_, M1.ext⟩
    congr 1
    apply decide_eq_decide.2
    omega
  · have h : ¬ n ≥ 0 := h
    refine ⟨?_, M1.ext⟩
    congr 1
    rw [eq_comm, decide_eq_false_iff_not]
    omega

set_option maxRecDepth 100000 in
theorem steps_spec {N : Int} {A : Option Addr} {xs : List Arrow} {c : Nat} {w : World} (h : HRel w N A xs c) (hok : Valid N xs) :
    CallsV C.P 70 #[relVal N A xs.length c] w fun v w' => v = .agg (mat (toM xs)).toArray ∧ Ext w w' := by
  have hcap := h.cap
  have hN := hok.hi
  refine callsV_of C_ok (args := [_]) (plans := plans70) Try.func70 rfl Try.ntmps70 (by kernel_rfl) (Nat.le_of_ble_eq_true rfl) ?_
  intro g1 w1 h1
  intro g2 w2 h2
  intro g3 w3 h3
  have M3 : Mem w w3 [(g3, .cells (mat (toM (xs.take 0))).toArray 93 (0, 0)), (g2, .cells (mat fun _ _ => false).toArray 93 (0, 0)), (g1, .cells #[.int .i64 N, .slice A xs.length c] 24 (0, 0))] := by
    have e : mat (toM (xs.take 0)) = mat fun _ _ => false := rfl
    rw [e, ← mat_zero]
    exact (((Mem.start w).alloc h1).alloc h2).alloc h3
  refine loopE C_ok (fun (i : Nat) => [(1, .pointer (some ⟨g1, 0, none⟩)), (2, .pointer (some ⟨g2, 0, none⟩)), (3, .pointer (some ⟨g3, 0, none⟩)), (4, .int .i64 i)])
    (fun i w' => i ≤ xs.length ∧ Mem w w' [(g3, .cells (mat (toM (xs.take i))).toArray 93 (0, 0)), (g2, .cells (mat fun _ _ => false).toArray 93 (0, 0)), (g1, .cells #[.int .i64 N, .slice A xs.length c] 24 (0, 0))]) (fun i => xs.length - i) 0
    ⟨rfl, rfl, rfl, rfl, trivial⟩ ⟨Nat.zero_le _, M3⟩ ?_
  rintro i w4 ⟨hi, M4⟩
  refine ⟨_, M4.cell 2 rfl rfl, ?_⟩
  refine brE_dec (fun hlt => ?_) (fun hge => ?_)
  · have hlt : i < xs.length := by omega
    obtain ⟨b, o, hA, hr⟩ := Reads.arrow h.reads hlt
    have hr := M4.oldRd hr
    have hg := goodA_spec (hok.good hlt)
    obtain ⟨p, hp⟩ := Int.eq_ofNat_of_zero_le hg.1
    obtain ⟨q, hq⟩ := Int.eq_ofNat_of_zero_le hg.2.2.1
    have hp24 : p < 24 := by omega
    have hq24 : q < 24 := by omega
    have cf : w4.cell? ⟨b, o + i * 4, none⟩ = some (.int .i64 (p : Int)) := by rw [← hp]; simpa using hr 0 _ rfl
    have ct : w4.cell? ⟨b, o + i * 4 + 1, none⟩ = some (.int .i64 (q : Int)) := by rw [← hq]; simpa using hr 1 _ rfl
    refine ⟨_, M4.cell 2 rfl rfl, ?_⟩
    refine ⟨i, b, o, rfl, hlt, hA, ?_⟩
    refine ⟨_, cf, ?_⟩
    refine ⟨_, M4.cell 2 rfl rfl, ?_⟩
    refine ⟨i, b, o, rfl, hlt, hA, ?_⟩
    refine ⟨_, ct, ?_⟩
    refine ⟨p, rfl, hp24, ?_⟩
    refine ⟨q, rfl, hq24, ?_⟩
    refine ⟨rfl, _, _, M4.get 0 rfl, by rw [bools_length]; show 0 + p * 24 + q * 1 + 1 ≤ 576; omega, rfl, ?_⟩
    intro w5 h5
    have e5 : splice (mat (toM (xs.take i))) (0 + p * 24 + q * 1) [.bool true] = mat (toM (xs.take (i + 1))) := by
      rw [← toM_take hlt hp hq, ← mat_set hp24 hq24]
      congr 1
      omega
    have h5 : Put w4 g3 (.cells (mat (toM (xs.take (i + 1)))).toArray 93 (0, 0)) w5 := by rw [← e5]; exact h5
    refine ⟨((i + 1 : Nat) : Int), fit ⟨by omega, by omega⟩, ?_⟩
    exact ⟨i + 1, ⟨rfl, rfl, rfl, rfl, trivial⟩, ⟨hlt, M4.put 0 rfl h5⟩, by omega⟩
  · have : i = xs.length := by omega
    subst this
    rw [List.take_length] at M4
    refine ⟨mat (toM xs), bools_length _ _, M4.rd 0 rfl, ?_⟩
    refine ⟨mat_size _, _, _, M4.get 1 rfl, by rw [bools_length]; show 0 + 576 ≤ 576; omega, bools_one 576 _, ?_⟩
    intro w5 h5
    have h5 : Put w4 g2 (.cells (mat (toM xs)).toArray 93 (0, 0)) w5 := by rw [← mat_copy (toM xs) fun _ _ => false]; exact h5
    have M5 := M4.put 1 rfl h5
    refine ⟨mat (toM xs), bools_length _ _, M5.rd 1 rfl, ?_⟩
    exact ⟨rfl, M5.ext⟩

/-! ### Reach -/
/-- Round 'k' of the reference's search, when the first entries have been looked at. -/
def midM (T : Nat → Nat → Bool) (k a b : Nat) : Nat → Nat → Bool := fun i j => if i < a ∨ i = a ∧ j < b then war T (k + 1) i j else war T k i j

theorem midM_start (T : Nat → Nat → Bool) (k : Nat) : midM T k 0 0 = war T k := by funext i j; simp [midM]
theorem midM_col (T : Nat → Nat → Bool) (k a b i : Nat) : midM T k a b i k = war T k i k := by
  unfold midM
  split
  · rw [war]; cases war T k i k <;> simp
  · rfl
theorem midM_row (T : Nat → Nat → Bool) (k a b j : Nat) : midM T k a b k j = war T k k j := by
  unfold midM
  split
  · rw [war]; cases h : war T k k j <;> simp
  · rfl
theorem midM_set {T : Nat → Nat → Bool} {k a b : Nat} (h : (war T k a k && war T k k b) = true) : upd2 (midM T k a b) a b true = midM T k a (b + 1) := by
  funext i j
  unfold upd2 midM
  by_cases e : i = a ∧ j = b
  · obtain ⟨rfl, rfl⟩ := e
    rw [if_pos ⟨rfl, rfl⟩, if_pos (.inr ⟨rfl, by omega⟩), war, h, Bool.or_true]
  · rw [if_neg e]
    by_cases h2 : i < a ∨ i = a ∧ j < b
    · rw [if_pos h2, if_pos (by omega)]
    · rw [if_neg h2, if_neg (by omega)]
theorem midM_not {T : Nat → Nat → Bool} {k a b : Nat} (h : (war T k a k && war T k k b) = false) : midM T k a b = midM T k a (b + 1) := by
  funext i j
  unfold midM
  by_cases e : i = a ∧ j = b
  · obtain ⟨rfl, rfl⟩ := e
    rw [if_neg (by omega), if_pos (by omega), war, h, Bool.or_false]
  · by_cases h2 : i < a ∨ i = a ∧ j < b
    · rw [if_pos h2, if_pos (by omega)]
    · rw [if_neg h2, if_neg (by omega)]

theorem war_inside {n : Nat} {T : Nat → Nat → Bool} (hT : Inside n T) {k i j : Nat} (h : war T k i j = true) : i < n ∧ j < n := path_inside hT (war_path h)

theorem midM_line {n : Nat} {T : Nat → Nat → Bool} (hT : Inside n T) (k a : Nat) : midM T k a n = midM T k (a + 1) 0 := by
  funext i j
  unfold midM
  by_cases h1 : i < a ∨ i = a ∧ j < n
  · rw [if_pos h1, if_pos (by omega)]
  · rw [if_neg h1]
    by_cases h2 : i < a + 1 ∨ i = a + 1 ∧ j < 0
    · rw [if_pos h2]
      have hj : ¬ j < n := by omega
      cases h3 : war T k i j with
      | true => exact absurd (war_inside hT h3).2 hj
      | false =>
        cases h4 : war T (k + 1) i j with
        | true => exact absurd (war_inside hT h4).2 hj
        | false => rfl
    · rw [if_neg h2]
theorem midM_end {n : Nat} {T : Nat → Nat → Bool} (hT : Inside n T) (k : Nat) : midM T k n 0 = war T (k + 1) := by
  funext i j
  unfold midM
  by_cases h1 : i < n ∨ i = n ∧ j < 0
  · rw [if_pos h1]
  · rw [if_neg h1]
    have hi : ¬ i < n := by omega
    cases h3 : war T k i j with
    | true => exact absurd (war_inside hT h3).1 hi
    | false =>
      cases h4 : war T (k + 1) i j with
      | true => exact absurd (war_inside hT h4).1 hi
      | false => rfl

set_option maxRecDepth 100000 in
theorem Reach_spec {N : Int} {A : Option Addr} {xs : List Arrow} {c : Nat} {w : World} (h : HRel w N A xs c) (hok : Valid N xs) :
    CallsV C.P 73 #[relVal N A xs.length c] w fun v w' => v = .agg (mat (reach (toM xs))).toArray ∧ Ext w w' := by
  have hlo := hok.lo
  have hhi := hok.hi
  obtain ⟨n, rfl⟩ := Int.eq_ofNat_of_zero_le hlo
  have hn : n ≤ 24 := by omega
  have hT : Inside n (toM xs) := hok.inside
  rw [reach_war hT]
  refine callsV_of C_ok (args := [_]) (plans := []) Try.func73 rfl Try.ntmps73 (by kernel_rfl) (Nat.le_of_ble_eq_true rfl) ?_
  intro g1 w1 h1
  intro g2 w2 h2
  have M2 : Mem w w2 [(g2, .cells (mat fun _ _ => false).toArray 93 (0, 0)), (g1, .cells #[.int .i64 n, .slice A xs.length c] 24 (0, 0))] := by
    rw [← mat_zero]; exact ((Mem.start w).alloc h1).alloc h2
  refine ⟨[.int .i64 n, .slice A xs.length c], rfl, M2.rd 1 rfl, ?_⟩
  refine (steps_spec (h.ext M2.ext) hok).mono ?_
  rintro v w3 ⟨rfl, e3⟩
  have M3 := M2.grow e3
  intro g3 w4 h4
  have M4 := M3.alloc h4
  refine ⟨mat_size _, _, _, M4.get 0 rfl, Nat.le_of_ble_eq_true rfl, bools_one 576 _, ?_⟩
  intro w5 h5
  have h5 : Put w4 g3 (.cells (mat (toM xs)).toArray 93 (0, 0)) w5 := by
    have := mat_copy (toM xs) fun _ _ => false
    rw [← mat_zero] at this
    rw [← this]; exact h5
  have M5 := M4.put 0 rfl h5
  generalize toM xs = T at *
  refine loopE C_ok (fun (k : Nat) => [(1, .pointer (some ⟨g1, 0, none⟩)), (2, .pointer (some ⟨g2, 0, none⟩)), (3, .pointer (some ⟨g3, 0, none⟩)), (4, .int .i64 k)])
    (fun k w' => k ≤ n ∧ Mem w w' [(g3, .cells (mat (war T k)).toArray 93 (0, 0)), (g2, .cells (mat fun _ _ => false).toArray 93 (0, 0)), (g1, .cells #[.int .i64 n, .slice A xs.length c] 24 (0, 0))]) (fun k => n - k) 0
    ⟨rfl, rfl, rfl, rfl, trivial⟩ ⟨Nat.zero_le _, M5⟩ ?_
  rintro k w6 ⟨hk, M6⟩
  refine ⟨_, M6.cell 2 rfl rfl, ?_⟩
  refine brE_dec (fun hlt => ?_) (fun hge => ?_)
  · have hlt : k < n := by omega
    have hk24 : k < 24 := by omega
    refine loopE C_ok (fun (a : Nat) => [(1, .pointer (some ⟨g1, 0, none⟩)), (2, .pointer (some ⟨g2, 0, none⟩)), (3, .pointer (some ⟨g3, 0, none⟩)), (4, .int .i64 k), (5, .int .i64 a)])
      (fun a w' => a ≤ n ∧ Mem w w' [(g3, .cells (mat (midM T k a 0)).toArray 93 (0, 0)), (g2, .cells (mat fun _ _ => false).toArray 93 (0, 0)), (g1, .cells #[.int .i64 n, .slice A xs.length c] 24 (0, 0))]) (fun a => n - a) 0
      ⟨rfl, rfl, rfl, rfl, rfl, trivial⟩ ⟨Nat.zero_le _, by rw [midM_start]; exact M6⟩ ?_
    rintro a w7 ⟨ha, M7⟩
    refine ⟨_, M7.cell 2 rfl rfl, ?_⟩
    refine brE_dec (fun hlt2 => ?_) (fun hge2 => ?_)
    · have hlt2 : a < n := by omega
      have ha24 : a < 24 := by omega
      refine loopE C_ok (fun (b : Nat) => [(1, .pointer (some ⟨g1, 0, none⟩)), (2, .pointer (some ⟨g2, 0, none⟩)), (3, .pointer (some ⟨g3, 0, none⟩)), (4, .int .i64 k), (5, .int .i64 a), (6, .int .i64 b)])
        (fun b w' => b ≤ n ∧ Mem w w' [(g3, .cells (mat (midM T k a b)).toArray 93 (0, 0)), (g2, .cells (mat fun _ _ => false).toArray 93 (0, 0)), (g1, .cells #[.int .i64 n, .slice A xs.length c] 24 (0, 0))]) (fun b => n - b) 0
        ⟨rfl, rfl, rfl, rfl, rfl, rfl, trivial⟩ ⟨Nat.zero_le _, M7⟩ ?_
      rintro b w8 ⟨hb, M8⟩
      refine ⟨_, M8.cell 2 rfl rfl, ?_⟩
      refine brE_dec (fun hlt3 => ?_) (fun hge3 => ?_)
      · have hlt3 : b < n := by omega
        have hb24 : b < 24 := by omega
        have next : IntKind.i64.wrap ((b : Int) + 1) = ((b + 1 : Nat) : Int) := fit ⟨by omega, by omega⟩
        have c1 := mat_cell (M8.get 0 rfl) ha24 hk24
        rw [midM_col] at c1
        have c2 := mat_cell (M8.get 0 rfl) hk24 hb24
        rw [midM_row] at c2
        refine ⟨a, rfl, ha24, ?_⟩
        refine ⟨k, rfl, hk24, ?_⟩
        refine ⟨_, c1, ?_⟩
        have no : (war T k a k && war T k k b) = false → ∀ {w' : World}, w' = w8 → b + 1 ≤ n ∧ Mem w w' [(g3, .cells (mat (midM T k a (b + 1))).toArray 93 (0, 0)), (g2, .cells (mat fun _ _ => false).toArray 93 (0, 0)), (g1, .cells #[.int .i64 n, .slice A xs.length c] 24 (0, 0))] := by
          intro h0 w' e
          rw [← midM_not h0, e]
          exact ⟨hlt3, M8⟩
        refine brE_mk (fun r1 => ?_) (fun r1 => ?_)
        · refine ⟨k, rfl, hk24, ?_⟩
          refine ⟨b, rfl, hb24, ?_⟩
          refine ⟨_, c2, ?_⟩
          refine brE_mk (fun r2 => ?_) (fun r2 => ?_)
          · refine ⟨a, rfl, ha24, ?_⟩
            refine ⟨b, rfl, hb24, ?_⟩
            refine ⟨rfl, _, _, M8.get 0 rfl, by rw [bools_length]; show 0 + a * 24 + b * 1 + 1 ≤ 576; omega, rfl, ?_⟩
            intro w9 h9
            have e9 : splice (mat (midM T k a b)) (0 + a * 24 + b * 1) [.bool true] = mat (midM T k a (b + 1)) := by
              rw [← midM_set (by rw [r1, r2]; rfl), ← mat_set ha24 hb24]
              congr 1
              omega
            have h9 : Put w8 g3 (.cells (mat (midM T k a (b + 1))).toArray 93 (0, 0)) w9 := by rw [← e9]; exact h9
            refine ⟨_, next, ?_⟩
            exact ⟨b + 1, ⟨rfl, rfl, rfl, rfl, rfl, rfl, trivial⟩, ⟨hlt3, M8.put 0 rfl h9⟩, by omega⟩
          · refine ⟨_, next, ?_⟩
            exact ⟨b + 1, ⟨rfl, rfl, rfl, rfl, rfl, rfl, trivial⟩, no (by rw [r2, Bool.and_false]) rfl, by omega⟩
        · refine ⟨_, next, ?_⟩
          exact ⟨b + 1, ⟨rfl, rfl, rfl, rfl, rfl, rfl, trivial⟩, no (by rw [r1, Bool.false_and]) rfl, by omega⟩
      · have : b = n := by omega
        subst this
        rw [midM_line hT] at M8
        refine ⟨((a + 1 : Nat) : Int), fit ⟨by omega, by omega⟩, ?_⟩
        exact ⟨a + 1, ⟨rfl, rfl, rfl, rfl, rfl, trivial⟩, ⟨hlt2, M8⟩, by omega⟩
    · have : a = n := by omega
      subst this
      rw [midM_end hT] at M7
      refine ⟨((k + 1 : Nat) : Int), fit ⟨by omega, by omega⟩, ?_⟩
      exact ⟨k + 1, ⟨rfl, rfl, rfl, rfl, trivial⟩, ⟨hlt, M7⟩, by omega⟩
  · have : k = n := by omega
    subst this
    refine ⟨mat (war T k), bools_length _ _, M6.rd 0 rfl, ?_⟩
    refine ⟨mat_size _, _, _, M6.get 1 rfl, by rw [bools_length]; show 0 + 576 ≤ 576; omega, bools_one 576 _, ?_⟩
    intro w7 h7
    have h7 : Put w6 g2 (.cells (mat (war T k)).toArray 93 (0, 0)) w7 := by rw [← mat_copy (war T k) fun _ _ => false]; exact h7
    have M7 := M6.put 1 rfl h7
    refine ⟨mat (war T k), bools_length _ _, M7.rd 1 rfl, ?_⟩
    exact ⟨rfl, M7.ext⟩

end Go.Proofs.Ytdfhfehlmonjjaa
