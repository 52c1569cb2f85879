/- rank: the component of a guest; who is preceded; the components in their order. -/
import Derived.Test.YtdfhfehlmonjjaaR7
namespace Go.Proofs.Ytdfhfehlmonjjaa
open Go.Eng Go.RowKit

def compS (n : Nat) (R : Nat → Nat → Bool) (a b : Nat) : Bool := decide (b < n) && (decide (a = b) || decide (standR R a b = 3))

theorem component_spec {w : World} {g n : Nat} {T R : Nat → Nat → Bool} (hw : Web w g n T R) (hn : n ≤ 24) {a : Nat} (ha : a < 24) :
    CallsV C.P 87 #[.pointer (some ⟨g, 0, none⟩), .int .i64 a] w fun v w' => v = .agg (setCells (compS n R a)).toArray ∧ Ext w w' := by
  refine callsV_of C_ok (args := [_, _]) (plans := []) Try.func87 rfl Try.ntmps87 (by kernel_rfl) (Nat.le_of_ble_eq_true rfl) ?_
  intro gr w1 h1
  intro gs w2 h2
  have M2 : Mem w w2 [(gs, .cells (setCells fun b => decide (b < 0) && compS n R a b).toArray 76 (0, 0)), (gr, .cells (List.replicate 24 (.bool false)).toArray 76 (0, 0))] := by
    have e : (setCells fun b => decide (b < 0) && compS n R a b) = List.replicate 24 (.bool false) := by rw [bools_false]; apply bools_congr; intro k _; simp
    rw [e]; exact ((Mem.start w).alloc h1).alloc h2
  refine ⟨_, (hw.ext M2.ext).n, ?_⟩
  refine loopE C_ok (fun (b : Nat) => [(0, .pointer (some ⟨g, 0, none⟩)), (1, .int .i64 a), (4, .pointer (some ⟨gr, 0, none⟩)), (5, .pointer (some ⟨gs, 0, none⟩)), (10, .int .i64 n), (11, .int .i64 b)])
    (fun b w' => b ≤ n ∧ Mem w w' [(gs, .cells (setCells fun k => decide (k < b) && compS n R a k).toArray 76 (0, 0)), (gr, .cells (List.replicate 24 (.bool false)).toArray 76 (0, 0))]) (fun b => n - b) 0
    ⟨rfl, rfl, rfl, rfl, rfl, rfl, trivial⟩ ⟨Nat.zero_le _, M2⟩ ?_
  rintro b w3 ⟨hb, M3⟩
  refine brE_dec (fun hlt => ?_) (fun hge => ?_)
  · have hlt : b < n := by omega
    have hb24 : b < 24 := by omega
    have fin : ∀ r : Bool, r = (decide (a = b) || decide (standR R a b = 3)) → ∀ w4, Put w3 gs (.cells (splice (setCells fun k => decide (k < b) && compS n R a k) (0 + b * 1) [.bool r]).toArray 76 (0, 0)) w4 →
        Mem w w4 [(gs, .cells (setCells fun k => decide (k < b + 1) && compS n R a k).toArray 76 (0, 0)), (gr, .cells (List.replicate 24 (.bool false)).toArray 76 (0, 0))] := by
      intro r hr w4 h4
      have e : splice (setCells fun k => decide (k < b) && compS n R a k) (0 + b * 1) [.bool r] = setCells fun k => decide (k < b + 1) && compS n R a k := by
        have := bools_set hb24 (fun k => decide (k < b) && compS n R a k) r
        rw [Nat.zero_add, Nat.mul_one, this]
        apply bools_congr
        intro k _
        unfold upd
        by_cases hk : k = b
        · subst hk; rw [if_pos rfl, hr]; simp [compS, hlt]
        · rw [if_neg hk]
          by_cases h1 : k < b
          · simp [h1, show k < b + 1 by omega]
          · simp [h1, show ¬ k < b + 1 by omega]
      rw [← e]; exact M3.put 0 rfl h4
    have next : IntKind.i64.wrap ((b : Int) + 1) = ((b + 1 : Nat) : Int) := fit ⟨by omega, by omega⟩
    refine brE_dec (fun hab => ?_) (fun hab => ?_)
    · have hab : a = b := by omega
      refine ⟨b, rfl, hb24, ?_⟩
      refine ⟨rfl, _, _, M3.get 0 rfl, by rw [bools_length]; show 0 + b * 1 + 1 ≤ 24; omega, rfl, ?_⟩
      intro w4 h4
      refine ⟨_, next, ?_⟩
      exact ⟨b + 1, ⟨rfl, rfl, rfl, rfl, rfl, rfl, trivial⟩, ⟨hlt, fin true (by simp [hab]) w4 h4⟩, by omega⟩
    · have hab : ¬ a = b := by omega
      refine (standing_spec (hw.ext M3.ext) ha hb24).mono ?_
      rintro v w4 ⟨rfl, rfl⟩
      refine ⟨b, rfl, hb24, ?_⟩
      refine ⟨rfl, _, _, M3.get 0 rfl, by rw [bools_length]; show 0 + b * 1 + 1 ≤ 24; omega, rfl, ?_⟩
      intro w4 h4
      refine ⟨_, next, ?_⟩
      exact ⟨b + 1, ⟨rfl, rfl, rfl, rfl, rfl, rfl, trivial⟩, ⟨hlt, fin _ (by simp [hab]) w4 h4⟩, by omega⟩
  · have : b = n := by omega
    subst this
    have e : (setCells fun k => decide (k < b) && compS b R a k) = setCells (compS b R a) := by
      apply bools_congr
      intro k _
      simp only [compS]
      by_cases h : k < b <;> simp [h]
    rw [e] at M3
    refine ⟨_, bools_length _ _, M3.rd 0 rfl, ?_⟩
    refine ⟨set_size _, _, _, M3.get 1 rfl, Nat.le_of_ble_eq_true rfl, bools_one 24 _, ?_⟩
    intro w4 h4
    have e7 : splice (List.replicate 24 (Value.bool false)) 0 (setCells (compS b R a)) = setCells (compS b R a) := by
      unfold splice
      rw [bools_length]
      simp
    have h4 : Put w3 gr (.cells (setCells (compS b R a)).toArray 76 (0, 0)) w4 := by rw [← e7]; exact h4
    refine ⟨_, bools_length _ _, Rd.of_block h4.here, ?_⟩
    exact ⟨rfl, (M3.put 1 rfl h4).ext⟩

def precS (n : Nat) (R : Nat → Nat → Bool) (a : Nat) (own done : Nat → Bool) : Bool := (List.range n).any fun b => !own b && !done b && R b a

theorem preceded_spec {w : World} {g n : Nat} {T R : Nat → Nat → Bool} (hw : Web w g n T R) (hn : n ≤ 24) {a : Nat} (ha : a < 24) (own done : Nat → Bool) :
    CallsV C.P 88 #[.pointer (some ⟨g, 0, none⟩), .int .i64 a, .agg (setCells own).toArray, .agg (setCells done).toArray] w fun v w' => v = .bool (precS n R a own done) ∧ Ext w w' := by
  refine callsV_of C_ok (args := [_, _, _, _]) (plans := []) Try.func88 rfl Try.ntmps88 (by kernel_rfl) (Nat.le_of_ble_eq_true rfl) ?_
  intro g1 w1 h1
  intro g2 w2 h2
  have M2 := ((Mem.start w).alloc h1).alloc h2
  refine ⟨_, (hw.ext M2.ext).n, ?_⟩
  refine loopE C_ok (fun (b : Nat) => [(0, .pointer (some ⟨g, 0, none⟩)), (1, .int .i64 a), (6, .pointer (some ⟨g1, 0, none⟩)), (7, .pointer (some ⟨g2, 0, none⟩)), (13, .int .i64 n), (14, .int .i64 b)])
    (fun b w' => b ≤ n ∧ w' = w2 ∧ ∀ k < b, (!own k && !done k && R k a) = false) (fun b => n - b) 0
    ⟨rfl, rfl, rfl, rfl, rfl, rfl, trivial⟩ ⟨Nat.zero_le _, rfl, fun _ h => absurd h (Nat.not_lt_zero _)⟩ ?_
  rintro b w3 ⟨hb, rfl, hno⟩
  refine brE_dec (fun hlt => ?_) (fun hge => ?_)
  · have hlt : b < n := by omega
    have hb24 : b < 24 := by omega
    have next : IntKind.i64.wrap ((b : Int) + 1) = ((b + 1 : Nat) : Int) := fit ⟨by omega, by omega⟩
    have go : (!own b && !done b && R b a) = false → ∀ k < b + 1, (!own k && !done k && R k a) = false := by
      intro h k hk
      rcases Nat.lt_or_ge k b with h1 | h1
      · exact hno k h1
      · obtain rfl : k = b := by omega
        exact h
    refine ⟨b, rfl, hb24, ?_⟩
    refine ⟨.bool (own b), by have := M2.rd 1 rfl b _ (bools_get hb24 own); simpa using this, ?_⟩
    refine brE_mk (fun ho => ?_) (fun ho => ?_)
    · refine ⟨b, rfl, hb24, ?_⟩
      refine ⟨.bool (done b), by have := M2.rd 0 rfl b _ (bools_get hb24 done); simpa using this, ?_⟩
      refine brE_mk (fun hd => ?_) (fun hd => ?_)
      · refine ⟨b, rfl, hb24, ?_⟩
        refine ⟨a, rfl, ha, ?_⟩
        refine ⟨_, (hw.ext M2.ext).reach hb24 ha, ?_⟩
        refine brE_mk (fun hr => ?_) (fun hr => ?_)
        · refine ⟨?_, M2.ext⟩
          have : precS n R a own done = true := List.any_eq_true.2 ⟨b, List.mem_range.2 hlt, by rw [ho, hd, hr]; rfl⟩
          rw [this]
        · refine ⟨_, next, ?_⟩
          exact ⟨b + 1, ⟨rfl, rfl, rfl, rfl, rfl, rfl, trivial⟩, ⟨hlt, rfl, go (by rw [hr, Bool.and_false])⟩, by omega⟩
      · refine ⟨_, next, ?_⟩
        exact ⟨b + 1, ⟨rfl, rfl, rfl, rfl, rfl, rfl, trivial⟩, ⟨hlt, rfl, go (by rw [hd, Bool.and_false, Bool.false_and])⟩, by omega⟩
    · refine ⟨_, next, ?_⟩
      exact ⟨b + 1, ⟨rfl, rfl, rfl, rfl, rfl, rfl, trivial⟩, ⟨hlt, rfl, go (by rw [ho, Bool.false_and, Bool.false_and])⟩, by omega⟩
  · have : b = n := by omega
    subst this
    refine ⟨?_, M2.ext⟩
    have : precS b R a own done = false := by
      unfold precS
      rw [List.any_eq_false]
      intro k hk
      rw [hno k (List.mem_range.1 hk)]; decide
    rw [this]

end Go.Proofs.Ytdfhfehlmonjjaa
