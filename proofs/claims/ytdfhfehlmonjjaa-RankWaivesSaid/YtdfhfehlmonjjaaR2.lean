/- rank: the guests of a set; whether numbers are guests; the standing of two. -/
import Derived.Test.YtdfhfehlmonjjaaR1
namespace Go.Proofs.Ytdfhfehlmonjjaa
open Go.Eng Go.RowKit

def membersTo (S : Nat → Bool) (n : Nat) : List Int := ((List.range n).filter S).map (fun (k : Nat) => (k : Int))
theorem members_eq (S : Nat → Bool) : members S = membersTo S 24 := rfl
theorem membersTo_succ (S : Nat → Bool) (i : Nat) : membersTo S (i + 1) = if S i then membersTo S i ++ [(i : Int)] else membersTo S i := by
  unfold membersTo
  rw [List.range_succ, List.filter_append]
  by_cases h : S i = true
  · simp [h]
  · simp [h]
theorem membersTo_length (S : Nat → Bool) (n : Nat) : (membersTo S n).length ≤ n := by
  unfold membersTo
  rw [List.length_map]
  exact Nat.le_trans (List.length_filter_le _ _) (by simp)

theorem ints_append (xs ys : List Int) : ints (xs ++ ys) = ints xs ++ ints ys := by simp [ints]
theorem ints_length (xs : List Int) : (ints xs).length = xs.length := by simp [ints]

/-- A row of numbers that the call has made. -/
def NewInts (w0 w : World) (v : Value) (xs : List Int) : Prop := w.ownsRow w0.heap.size 3 1 v xs.length (ints xs)

theorem NewInts.slice {w0 w : World} {v : Value} {xs : List Int} (h : NewInts w0 w v xs) : ∃ A c, v = .slice A xs.length c ∧ Reads w A (ints xs) ∧ xs.length ≤ c := reads_of_owns h

theorem list_spec (S : Nat → Bool) (w : World) : CallsV C.P 61 #[.agg (setCells S).toArray] w fun v w' => NewInts w w' v (members S) ∧ Ext w w' := by
  refine callsV_of C_ok (args := [_]) (plans := []) Try.func61 rfl Try.ntmps61 (by kernel_rfl) (Nat.le_of_ble_eq_true rfl) ?_
  intro g1 w1 h1
  have M1 := (Mem.start w).alloc h1
  refine ⟨setCells S, bools_length _ _, M1.rd 0 rfl, ?_⟩
  refine loopE C_ok (fun (s : Nat × Value) => [(3, s.2), (6, .agg (setCells S).toArray), (7, .int .i64 s.1)])
    (fun s w' => Ext w w' ∧ s.1 ≤ 24 ∧ NewInts w w' s.2 (membersTo S s.1)) (fun s => 24 - s.1) (0, .slice none 0 0) ⟨rfl, rfl, rfl, trivial⟩ ⟨M1.ext, Nat.zero_le _, World.ownsRow_nil _ _ _ _⟩ ?_
  rintro ⟨i, v⟩ w2 ⟨E2, hi, ho⟩
  refine brE_dec (fun hlt => ?_) (fun hge => ?_)
  · have hlt : i < 24 := by have : (i : Int) < 24 := hlt; omega
    refine ⟨i, rfl, hlt, ?_⟩
    refine ⟨.bool (S i), by simpa using bools_get hlt S, ?_⟩
    have hs := membersTo_succ S i
    have next : IntKind.i64.wrap ((i : Int) + 1) = ((i + 1 : Nat) : Int) := fit ⟨by omega, by omega⟩
    refine brE_mk (fun hS => ?_) (fun hS => ?_)
    · intro g3 w3 h3
      rw [if_pos hS] at hs
      have hlen := membersTo_length S i
      have ho3 : w3.ownsRow w.heap.size 3 1 v (membersTo S i).length (ints (membersTo S i)) := ownsRow_ext ho h3.ext
      refine ⟨rfl, rfl, rfl, w.heap.size, (membersTo S i).length, ints (membersTo S i), [.int .i64 i], ho3, (E2.trans h3.ext).size, Nat.lt_add_one 0, rfl, rfl, .inr ⟨g3, 0, rfl, Rd.of_block h3.here⟩, rfl, rfl, by omega, by simp only [maxLen]; omega, ?_⟩
      intro v4 w4 ho4 hg4 _
      refine ⟨_, next, ?_⟩
      refine ⟨(i + 1, v4), ⟨rfl, rfl, rfl, trivial⟩, ⟨app_ext (E2.trans h3.ext) ho3 hg4, hlt, ?_⟩, by show 24 - (i + 1) < 24 - i; omega⟩
      show w4.ownsRow _ _ _ _ _ _
      rw [hs, List.length_append, ints_append]
      exact ho4
    · rw [if_neg (by rw [hS]; decide)] at hs
      refine ⟨_, next, ?_⟩
      refine ⟨(i + 1, v), ⟨rfl, rfl, rfl, trivial⟩, ⟨E2, hlt, ?_⟩, by show 24 - (i + 1) < 24 - i; omega⟩
      show w2.ownsRow _ _ _ _ _ _
      rw [hs]
      exact ho
  · have : i = 24 := by have : ¬ (i : Int) < 24 := hge; have hi : i ≤ 24 := hi; omega
    subst this
    exact ⟨ho, E2⟩

/-- The web in memory: the block, how many guests, the arrows, the chains. -/
def Web (w : World) (g : Nat) (N : Int) (T R : Nat → Nat → Bool) : Prop := w.heap[g]? = some (.cells (webCells N T R).toArray 79 (0, 0))

theorem Web.ext {w w' : World} {g : Nat} {N : Int} {T R : Nat → Nat → Bool} (h : Web w g N T R) (e : Ext w w') : Web w' g N T R := e.heap h
theorem Web.n {w : World} {g : Nat} {N : Int} {T R : Nat → Nat → Bool} (h : Web w g N T R) : w.cell? ⟨g, 0, none⟩ = some (.int .i64 N) := by
  simpa using (Rd.of_block h) 0 _ (web_n N T R)
theorem Web.to {w : World} {g : Nat} {N : Int} {T R : Nat → Nat → Bool} (h : Web w g N T R) {a b : Nat} (ha : a < 24) (hb : b < 24) : w.cell? ⟨g, 0 + (0 + 1) + a * 24 + b * 1, none⟩ = some (.bool (T a b)) := by
  have := (Rd.of_block h) _ _ (web_to ha hb N T R)
  simpa using this
theorem Web.toRow {w : World} {g : Nat} {N : Int} {T R : Nat → Nat → Bool} (h : Web w g N T R) {a : Nat} (ha : a < 24) : Rd w g (0 + (0 + 1) + a * 24) (setCells (T a)) := by
  have := Rd.part (k := 1 + a * 24) (Rd.of_block h) (web_to_row ha N T R)
  simpa using this
theorem Web.reach {w : World} {g : Nat} {N : Int} {T R : Nat → Nat → Bool} (h : Web w g N T R) {a b : Nat} (ha : a < 24) (hb : b < 24) : w.cell? ⟨g, 0 + (576 + 1) + a * 24 + b * 1, none⟩ = some (.bool (R a b)) := by
  have := (Rd.of_block h) _ _ (web_reach ha hb N T R)
  simpa using this

abbrev inR (N x : Int) : Bool := decide (0 ≤ x ∧ x ≤ N - 1)

theorem has1_spec (x : Int) {w : World} {gb g : Nat} {N : Int} {T R : Nat → Nat → Bool} (hb : w.heap[gb]? = some (.cells #[.pointer (some ⟨g, 0, none⟩)] 70 (0, 0))) (hw : Web w g N T R) (hN : 0 ≤ N ∧ N ≤ 24) :
    CallsV C.P 84 #[.int .i64 x, .pointer (some ⟨gb, 0, none⟩)] w fun v w' => v = .bool (!inR N x) ∧ w' = w := by
  refine callsV_of C_ok (args := [_, _]) (plans := []) Try.func84 rfl Try.ntmps84 (by kernel_rfl) (Nat.le_of_ble_eq_true rfl) ?_
  refine ⟨.pointer (some ⟨g, 0, none⟩), cell_of_block hb rfl, ?_⟩
  refine ⟨_, hw.n, ?_⟩
  refine ⟨N - 1, fit ⟨by omega, by omega⟩, ?_⟩
  refine (in_spec _ _ _ _).mono ?_
  rintro v w1 ⟨rfl, rfl⟩
  exact ⟨rfl, rfl⟩

theorem IndexFunc_has {w : World} {gb g : Nat} {N : Int} {T R : Nat → Nat → Bool} (hb : w.heap[gb]? = some (.cells #[.pointer (some ⟨g, 0, none⟩)] 70 (0, 0))) (hw : Web w g N T R) (hN : 0 ≤ N ∧ N ≤ 24) {A : Option Addr} {xs : List Int} {c : Nat} (hr : Reads w A (ints xs)) (hl : xs.length ≤ 9223372036854775807) :
    CallsV C.P 94 #[.slice A xs.length c, .func (.func 84) #[] #[.pointer (some ⟨gb, 0, none⟩)]] w fun v w' => (∃ i : Int, v = .int .i64 i ∧ (i ≥ 0 ↔ xs.all (inR N) = false)) ∧ w' = w := by
  refine callsV_of C_ok (args := [_, _]) (plans := []) Try.func94 rfl Try.ntmps94 (by kernel_rfl) (Nat.le_of_ble_eq_true rfl) ?_
  refine loopE C_ok (fun (i : Nat) => [(0, .slice A xs.length c), (1, .func (.func 84) #[] #[.pointer (some ⟨gb, 0, none⟩)]), (7, .int .i64 xs.length), (8, .int .i64 i)])
    (fun i w' => w' = w ∧ i ≤ xs.length ∧ ∀ j (h : j < xs.length), j < i → inR N xs[j] = true) (fun i => xs.length - i) 0 ⟨rfl, rfl, rfl, rfl, trivial⟩ ⟨rfl, Nat.zero_le _, fun _ _ h => absurd h (Nat.not_lt_zero _)⟩ ?_
  rintro i w2 ⟨rfl, hi, hall⟩
  refine brE_dec (fun hlt => ?_) (fun hge => ?_)
  · have hlt : i < xs.length := by omega
    obtain ⟨b, o, hA, hc⟩ := Reads.int hr hlt
    refine ⟨i, b, o, rfl, hlt, hA, ?_⟩
    refine ⟨_, by simpa using hc, ?_⟩
    refine (has1_spec _ hb hw hN).mono ?_
    rintro v w3 ⟨rfl, rfl⟩
    refine brE_mk (fun h2 => ?_) (fun h2 => ?_)
    · refine ⟨⟨i, rfl, ?_⟩, rfl⟩
      constructor
      · intro _
        rw [List.all_eq_false]
        rw [Bool.not_eq_true'] at h2
        exact ⟨xs[i], List.getElem_mem hlt, by rw [h2]; exact Bool.false_ne_true⟩
      · intro _; omega
    · refine ⟨((i + 1 : Nat) : Int), fit ⟨by omega, by omega⟩, ?_⟩
      refine ⟨i + 1, ⟨rfl, rfl, rfl, rfl, trivial⟩, ⟨rfl, hlt, fun j hj hji => ?_⟩, by omega⟩
      rcases Nat.lt_or_ge j i with h | h
      · exact hall j hj h
      · obtain rfl : j = i := by omega
        rwa [Bool.not_eq_false'] at h2
  · have : i = xs.length := by omega
    subst this
    refine ⟨⟨-1, rfl, ?_⟩, rfl⟩
    constructor
    · intro h; omega
    · intro h
      rw [List.all_eq_false] at h
      obtain ⟨x, hx, hn⟩ := h
      obtain ⟨j, hj, rfl⟩ := List.getElem_of_mem hx
      exact absurd (hall j hj hj) hn

theorem has_spec {w : World} {g : Nat} {N : Int} {T R : Nat → Nat → Bool} (hw : Web w g N T R) (hN : 0 ≤ N ∧ N ≤ 24) {A : Option Addr} {xs : List Int} {c : Nat} (hr : Reads w A (ints xs)) (hl : xs.length ≤ 9223372036854775807) :
    CallsV C.P 59 #[.pointer (some ⟨g, 0, none⟩), .slice A xs.length c] w fun v w' => v = .bool (xs.all (inR N)) ∧ Ext w w' := by
  refine callsV_of C_ok (args := [_, _]) (plans := []) Try.func59 rfl Try.ntmps59 (by kernel_rfl) (Nat.le_of_ble_eq_true rfl) ?_
  intro gb w1 h1
  refine ⟨[], [.pointer (some ⟨gb, 0, none⟩)], rfl, rfl, ?_⟩
  have hc : CallsV C.P 83 #[.slice A xs.length c, .func (.func 84) #[] #[.pointer (some ⟨gb, 0, none⟩)]] w1 fun v w' => v = .bool (!xs.all (inR N)) ∧ w' = w1 := by
    refine callsV_of C_ok (args := [_, _]) (plans := []) Try.func83 rfl Try.ntmps83 (by kernel_rfl) (Nat.le_of_ble_eq_true rfl) ?_
    refine (IndexFunc_has h1.here (hw.ext h1.ext) hN (hr.ext h1.ext) hl).mono ?_
    rintro v w2 ⟨⟨i, rfl, hi⟩, rfl⟩
    refine ⟨?_, rfl⟩
    congr 1
    by_cases h : i ≥ 0
    · simp [hi.1 h, h]
    · have : xs.all (inR N) = true := by
        cases hx : xs.all (inR N) with
        | true => rfl
        | false => exact absurd (hi.2 hx) h
      simp [this, h]
  refine hc.mono ?_
  rintro v w2 ⟨rfl, rfl⟩
  exact ⟨by simp, h1.ext⟩

/-- The standing of two guests, by the chains that there are. -/
def standR (R : Nat → Nat → Bool) (a b : Nat) : Int := if a = b then 0 else if R a b && R b a then 3 else if R a b then 1 else if R b a then 2 else 0

theorem standing_spec {w : World} {g : Nat} {N : Int} {T R : Nat → Nat → Bool} (hw : Web w g N T R) {a b : Nat} (ha : a < 24) (hb : b < 24) :
    CallsV C.P 60 #[.pointer (some ⟨g, 0, none⟩), .int .i64 a, .int .i64 b] w fun v w' => v = .int .u8 (standR R a b) ∧ w' = w := by
  refine callsV_of C_ok (args := [_, _, _]) (plans := plans60) Try.func60 rfl Try.ntmps60 (by kernel_rfl) (Nat.le_of_ble_eq_true rfl) ?_
  refine ⟨a, rfl, ha, b, rfl, hb, ?_⟩
  refine ⟨_, hw.reach ha hb, ?_⟩
  refine ⟨b, rfl, hb, a, rfl, ha, ?_⟩
  refine ⟨_, hw.reach hb ha, ?_⟩
  refine brE_dec (fun hab => ?_) (fun hab => ?_)
  · have : a = b := by omega
    exact ⟨by simp [standR, this], rfl⟩
  have hne : ¬ a = b := by omega
  refine brE_mk (fun h1 => ?_) (fun h1 => ?_)
  · refine brE_mk (fun h2 => ?_) (fun h2 => ?_)
    · refine ⟨?_, rfl⟩
      rw [Bool.not_eq_true'] at h1 h2
      simp [standR, hne, h1, h2]
    · rw [Bool.not_eq_true'] at h1
      rw [Bool.not_eq_false'] at h2
      refine brE_false h1 ?_
      refine brE_false h1 ?_
      exact ⟨by simp [standR, hne, h1, h2], rfl⟩
  · rw [Bool.not_eq_false'] at h1
    refine brE_true h1 ?_
    refine brE_mk (fun h2 => ?_) (fun h2 => ?_)
    · exact ⟨by simp [standR, hne, h1, h2], rfl⟩
    · refine brE_true h1 ?_
      exact ⟨by simp [standR, hne, h1, h2], rfl⟩

end Go.Proofs.Ytdfhfehlmonjjaa
