/- rank: pairs with a property; Unsettled. -/
import Derived.Test.YtdfhfehlmonjjaaR10
namespace Go.Proofs.Ytdfhfehlmonjjaa
open Go.Eng Go.RowKit

def prCells (l : List (Int × Int)) : List Value := l.flatMap fun p => [.int .i64 p.1, .int .i64 p.2]
theorem prCells_append (l m : List (Int × Int)) : prCells (l ++ m) = prCells l ++ prCells m := by simp [prCells]
theorem prCells_length (l : List (Int × Int)) : (prCells l).length = l.length * 2 := by
  induction l with
  | nil => rfl
  | cons x l ih => show (_ ++ prCells l).length = _; simp [ih]; omega

/-- A row of pairs. -/
def Prs (B : Nat) (w : World) (v : Value) (l : List (Int × Int)) : Prop := w.ownsRow B 58 2 v l.length (prCells l)
theorem Prs.base {B B' : Nat} {w : World} {v : Value} {l : List (Int × Int)} (h : Prs B' w v l) (hb : B ≤ B') : Prs B w v l := ownsRow_base h hb
theorem Prs.ext {B : Nat} {w w' : World} {v : Value} {l : List (Int × Int)} (h : Prs B w v l) (e : Ext w w') : Prs B w' v l := ownsRow_ext h e
theorem prs_nil (B : Nat) (w : World) : Prs B w (.slice none 0 0) [] := World.ownsRow_nil _ _ _ _

/-- The pairs that have a property. -/
def rowTo (hs : Nat → Nat → Bool) (a b : Nat) : List (Int × Int) := ((List.range' (a + 1) (b - (a + 1))).filter (hs a)).map fun (k : Nat) => ((a : Int), (k : Int))
def pairsTo (n : Nat) (hs : Nat → Nat → Bool) (a : Nat) : List (Int × Int) := (List.range a).flatMap fun k => rowTo hs k n
def pairsL (n : Nat) (hs : Nat → Nat → Bool) : List (Int × Int) := pairsTo n hs n

theorem rowTo_succ {hs : Nat → Nat → Bool} {a b : Nat} (h : a + 1 ≤ b) : rowTo hs a (b + 1) = if hs a b then rowTo hs a b ++ [((a : Int), (b : Int))] else rowTo hs a b := by
  unfold rowTo
  rw [show b + 1 - (a + 1) = (b - (a + 1)) + 1 by omega, List.range'_concat, List.filter_append, List.map_append]
  rw [show a + 1 + 1 * (b - (a + 1)) = b by omega]
  by_cases hb : hs a b = true <;> simp [hb]
theorem rowTo_start (hs : Nat → Nat → Bool) (a : Nat) : rowTo hs a (a + 1) = [] := by simp [rowTo]
theorem rowTo_over {hs : Nat → Nat → Bool} {a n : Nat} (h : n ≤ a + 1) : rowTo hs a n = [] := by
  unfold rowTo; rw [show n - (a + 1) = 0 by omega]; rfl
theorem pairsTo_succ (n : Nat) (hs : Nat → Nat → Bool) (a : Nat) : pairsTo n hs (a + 1) = pairsTo n hs a ++ rowTo hs a n := by
  unfold pairsTo; rw [List.range_succ, List.flatMap_append]; simp
theorem rowTo_length (hs : Nat → Nat → Bool) (a b : Nat) : (rowTo hs a b).length ≤ b := by
  unfold rowTo
  rw [List.length_map]
  exact Nat.le_trans (List.length_filter_le _ _) (by simp)
theorem pairsTo_length (n : Nat) (hs : Nat → Nat → Bool) (a : Nat) : (pairsTo n hs a).length ≤ a * n := by
  induction a with
  | zero => simp [pairsTo]
  | succ a ih =>
    rw [pairsTo_succ, List.length_append, Nat.succ_mul]
    have := rowTo_length hs a n
    omega

theorem pairs_spec {w : World} {g n f : Nat} {T R : Nat → Nat → Bool} (hf : f = 64 ∨ f = 79) (hw : Web w g n T R) (hn : n ≤ 24) {caps : Array Value} {hs : Nat → Nat → Bool}
    (hc : ∀ w', Ext w w' → ∀ a b : Nat, a < n → b < n → CallsV C.P f (#[] ++ #[.int .i64 a, .int .i64 b] ++ caps) w' fun v w'' => v = .bool (hs a b) ∧ Ext w' w'') :
    CallsV C.P 63 #[.pointer (some ⟨g, 0, none⟩), .func (.func f) #[] caps] w fun v w' => Prs w.heap.size w' v (pairsL n hs) ∧ Ext w w' := by
  refine callsV_of C_ok (args := [_, _]) (plans := []) Try.func63 rfl Try.ntmps63 (by kernel_rfl) (Nat.le_of_ble_eq_true rfl) ?_
  refine ⟨_, hw.n, ?_⟩
  refine loopE C_ok (fun (s : Nat × Value) => [(0, .pointer (some ⟨g, 0, none⟩)), (1, .func (.func f) #[] caps), (5, s.2), (11, .int .i64 n), (12, .int .i64 s.1)])
    (fun s w' => s.1 ≤ n ∧ Ext w w' ∧ Prs w.heap.size w' s.2 (pairsTo n hs s.1)) (fun s => n - s.1) (0, .slice none 0 0)
    ⟨rfl, rfl, rfl, rfl, rfl, trivial⟩ ⟨Nat.zero_le _, Ext.refl _, prs_nil _ _⟩ ?_
  rintro ⟨a, v⟩ w1 ⟨ha, e1, ho⟩
  have ha : a ≤ n := ha
  have ho : Prs w.heap.size w1 v (pairsTo n hs a) := ho
  refine brE_dec (fun hlt => ?_) (fun hge => ?_)
  · have hlt : a < n := by have : (a : Int) < n := hlt; omega
    refine ⟨((a + 1 : Nat) : Int), fit ⟨by omega, by omega⟩, ?_⟩
    refine loopE C_ok (fun (s : Nat × Value) => [(0, .pointer (some ⟨g, 0, none⟩)), (1, .func (.func f) #[] caps), (5, s.2), (6, .int .i64 a), (7, .int .i64 s.1), (11, .int .i64 n), (12, .int .i64 a)])
      (fun s w' => a + 1 ≤ s.1 ∧ s.1 ≤ n ∧ Ext w w' ∧ Prs w.heap.size w' s.2 (pairsTo n hs a ++ rowTo hs a s.1)) (fun s => n - s.1) (a + 1, v)
      ⟨rfl, rfl, rfl, rfl, rfl, rfl, rfl, trivial⟩ ⟨Nat.le_refl _, hlt, e1, by show Prs _ _ _ (_ ++ rowTo hs a (a + 1)); rw [rowTo_start, List.append_nil]; exact ho⟩ ?_
    rintro ⟨b, v2⟩ w2 ⟨hab, hb, e2, ho2⟩
    have hab : a + 1 ≤ b := hab
    have hb : b ≤ n := hb
    have ho2 : Prs w.heap.size w2 v2 (pairsTo n hs a ++ rowTo hs a b) := ho2
    refine ⟨_, (hw.ext e2).n, ?_⟩
    refine brE_dec (fun hlt2 => ?_) (fun hge2 => ?_)
    · have hlt2 : b < n := by have : (b : Int) < n := hlt2; omega
      have next : IntKind.i64.wrap ((b : Int) + 1) = ((b + 1 : Nat) : Int) := fit ⟨by omega, by omega⟩
      have hsu := rowTo_succ (hs := hs) hab
      have len1 := pairsTo_length n hs a
      have len2 := rowTo_length hs a b
      have len0 : a * n ≤ 24 * 24 := Nat.mul_le_mul (by omega) hn
      have hcall := hc w2 e2 a b hlt hlt2
      rcases hf with rfl | rfl
      all_goals
        refine hcall.mono ?_
        rintro v3 w3 ⟨rfl, e3⟩
        have e23 := e2.trans e3
        refine brE_mk (fun hh => ?_) (fun hh => ?_)
        · rw [if_pos hh] at hsu
          intro g9 w9 h9
          have ho9 : w9.ownsRow w.heap.size 58 2 v2 (pairsTo n hs a ++ rowTo hs a b).length (prCells (pairsTo n hs a ++ rowTo hs a b)) := ownsRow_ext (ownsRow_ext ho2 e3) h9.ext
          have e29 := e23.trans h9.ext
          refine ⟨rfl, rfl, rfl, w.heap.size, _, _, [.int .i64 a, .int .i64 b], ho9, e29.size, Nat.le_of_ble_eq_true rfl, rfl, rfl, .inr ⟨g9, 0, rfl, Rd.of_block h9.here⟩, rfl, rfl, by rw [List.length_append]; omega, by rw [List.length_append]; simp only [maxLen]; omega, ?_⟩
          intro v10 w10 ho10 hg10 _
          refine ⟨_, next, ?_⟩
          refine ⟨(b + 1, v10), ⟨rfl, rfl, rfl, rfl, rfl, rfl, rfl, trivial⟩, ⟨by show a + 1 ≤ b + 1; omega, hlt2, app_ext e29 ho9 hg10, ?_⟩, by show n - (b + 1) < n - b; omega⟩
          show Prs _ _ _ (_ ++ rowTo hs a (b + 1))
          rw [hsu, ← List.append_assoc]
          unfold Prs
          rw [prCells_append, List.length_append]
          exact ho10
        · rw [if_neg (by rw [hh]; exact Bool.false_ne_true)] at hsu
          refine ⟨_, next, ?_⟩
          refine ⟨(b + 1, v2), ⟨rfl, rfl, rfl, rfl, rfl, rfl, rfl, trivial⟩, ⟨by show a + 1 ≤ b + 1; omega, hlt2, e23, ?_⟩, by show n - (b + 1) < n - b; omega⟩
          show Prs _ _ _ (_ ++ rowTo hs a (b + 1))
          rw [hsu]
          exact ho2.ext e3
    · have : b = n := by have : ¬ (b : Int) < n := hge2; omega
      subst this
      refine ⟨((a + 1 : Nat) : Int), fit ⟨by omega, by omega⟩, ?_⟩
      refine ⟨(a + 1, v2), ⟨rfl, rfl, rfl, rfl, rfl, trivial⟩, ⟨hlt, e2, ?_⟩, by show b - (a + 1) < b - a; omega⟩
      show Prs _ _ _ (pairsTo b hs (a + 1))
      rw [pairsTo_succ]; exact ho2
  · have : a = n := by have : ¬ (a : Int) < n := hge; omega
    subst this
    exact ⟨ho, e1⟩

def unsetB (R : Nat → Nat → Bool) (a b : Nat) : Bool := decide (standR R a b = 0) || decide (standR R a b = 3)

theorem Unsettled1_spec {w : World} {gb g n : Nat} {T R : Nat → Nat → Bool} (hb : w.heap[gb]? = some (.cells #[.pointer (some ⟨g, 0, none⟩)] 70 (0, 0))) (hw : Web w g n T R) {a b : Nat} (ha : a < 24) (hb24 : b < 24) :
    CallsV C.P 64 #[.int .i64 a, .int .i64 b, .pointer (some ⟨gb, 0, none⟩)] w fun v w' => v = .bool (unsetB R a b) ∧ Ext w w' := by
  refine callsV_of C_ok (args := [_, _, _]) (plans := []) Try.func64 rfl Try.ntmps64 (by kernel_rfl) (Nat.le_of_ble_eq_true rfl) ?_
  refine ⟨_, cell_of_block hb rfl, ?_⟩
  refine (standing_spec hw ha hb24).mono ?_
  rintro v w1 ⟨rfl, rfl⟩
  refine brE_dec (fun h => ?_) (fun h => ?_)
  · exact ⟨by simp [unsetB, h], Ext.refl _⟩
  · refine ⟨?_, Ext.refl _⟩
    simp [unsetB, h]

noncomputable def unsetL (N : Int) (xs : List Arrow) : List (Int × Int) := if chk N xs = 0 then pairsL N.toNat (unsetB (reach (toM xs))) else []

theorem Unsettled_spec {N : Int} {A : Option Addr} {xs : List Arrow} {c : Nat} {w : World} (h : HRel w N A xs c) :
    CallsV C.P 21 #[relVal N A xs.length c] w fun v w' => (∃ u, v = .tuple #[u, .int .i64 (chk N xs)] ∧ Prs w.heap.size w' u (unsetL N xs)) ∧ Ext w w' := by
  refine callsV_of C_ok (args := [_]) (plans := []) Try.func21 rfl Try.ntmps21 (by kernel_rfl) (Nat.le_of_ble_eq_true rfl) ?_
  intro g1 w1 h1
  have M1 := (Mem.start w).alloc h1
  refine ⟨[.int .i64 N, .slice A xs.length c], rfl, M1.rd 0 rfl, ?_⟩
  by_cases hv : chk N xs = 0
  · have hok := valid_of_chk hv
    refine (open_yes (h.ext M1.ext) hok).mono ?_
    rintro v w2 ⟨g, rfl, hg, hw, he⟩
    have M2 := M1.grow he
    obtain ⟨n, rfl⟩ := Int.eq_ofNat_of_zero_le hok.lo
    have := hok.hi
    intro g3 w3 h3
    refine ⟨rfl, _, _, h3.here, Nat.le_of_ble_eq_true rfl, rfl, ?_⟩
    intro w4 h4
    have h4 : Put w3 g3 (.cells #[.pointer (some ⟨g, 0, none⟩)] 70 (0, 0)) w4 := h4
    have M4 := (M2.alloc h3).put 0 rfl h4
    have e24 : Ext w2 w4 := h4.ext_of h3.ext (by rw [h3.new]; exact Nat.le_refl _)
    refine ⟨_, cell_of_block h4.here rfl, ?_⟩
    refine ⟨[], [.pointer (some ⟨g3, 0, none⟩)], rfl, rfl, ?_⟩
    refine (pairs_spec (.inl rfl) (hw.ext e24) (by omega) (hs := unsetB (reach (toM xs))) (fun w' e a b ha hb => ?_)).mono ?_
    · exact Unsettled1_spec (e.heap h4.here) ((hw.ext e24).ext e) (by omega) (by omega)
    · rintro v w5 ⟨hp, e5⟩
      refine ⟨⟨v, ?_, ?_⟩, M4.ext.trans e5⟩
      · rw [hv]
      · rw [unsetL, if_pos hv]
        exact hp.base M4.ext.size
  · refine (open_no (h.ext M1.ext) hv).mono ?_
    rintro v w2 ⟨rfl, he⟩
    have M2 := M1.grow he
    intro g3 w3 h3
    refine ⟨rfl, _, _, h3.here, Nat.le_of_ble_eq_true rfl, rfl, ?_⟩
    intro w4 h4
    have M4 := (M2.alloc h3).put 0 rfl h4
    refine ⟨[.int .i64 N, .slice A xs.length c], rfl, M4.rd 1 rfl, ?_⟩
    refine (Check_spec (h.ext M4.ext)).mono ?_
    rintro v w5 ⟨rfl, e5⟩
    refine ⟨⟨_, rfl, ?_⟩, M4.ext.trans e5⟩
    rw [unsetL, if_neg hv]
    exact prs_nil _ _

end Go.Proofs.Ytdfhfehlmonjjaa
