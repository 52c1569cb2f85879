/- rank: Components, Unsettled, Settled, waive, Changed. -/
import Derived.Test.YtdfhfehlmonjjaaQ2
import Derived.Test.YtdfhfehlmonjjaaE7
namespace Go.Proofs.Ytdfhfehlmonjjaa
open Go.Eng Go.RowKit

theorem lists_nil (B : Nat) (w : World) : Lists B w (.slice none 0 0) [] := ⟨[], World.ownsRow_nil _ _ _ _, .nil⟩
theorem Lists.base {B B' : Nat} {w : World} {v : Value} {L : List (List Int)} (h : Lists B' w v L) (hb : B ≤ B') : Lists B w v L :=
  let ⟨us, h1, h2⟩ := h
  ⟨us, ownsRow_base h1 hb, h2.base hb⟩
theorem Lists.ext {B : Nat} {w w' : World} {v : Value} {L : List (List Int)} (h : Lists B w v L) (e : Ext w w') : Lists B w' v L := h.only (only_ext 0 e) (by decide) (by decide)

/-- The rows, read: the slice, and each row of it. -/
structure RList (w : World) (A : Option Addr) (L : List (List Int)) (us : List Value) : Prop where
  len : us.length = L.length
  reads : Reads w A us
  row : ∀ i (h : i < L.length), ∃ A' c, us[i]? = some (.slice A' L[i].length c) ∧ Reads w A' (ints L[i])

theorem Lists.read {B : Nat} {w : World} {v : Value} {L : List (List Int)} (h : Lists B w v L) : ∃ A c us, v = .slice A L.length c ∧ RList w A L us := by
  obtain ⟨us, h1, h2⟩ := h
  obtain ⟨A, c, e, hr, _⟩ := reads_of_owns h1
  refine ⟨A, c, us, e, h2.length, hr, fun i hi => ?_⟩
  obtain ⟨u, hu, ho⟩ := h2.at hi
  obtain ⟨A', c', e', hr', _⟩ := reads_of_owns ho
  subst e'
  exact ⟨A', c', hu, hr'⟩
theorem RList.ext {w w' : World} {A : Option Addr} {L : List (List Int)} {us : List Value} (h : RList w A L us) (e : Ext w w') : RList w' A L us :=
  ⟨h.len, h.reads.ext e, fun i hi => let ⟨A', c, h1, h2⟩ := h.row i hi; ⟨A', c, h1, h2.ext e⟩⟩

/-- The components of a relation that is valid. -/
def compsL (n : Nat) (R : Nat → Nat → Bool) : List (List Int) := compsF n R 24 fun _ => false

theorem components_spec {w : World} {g n : Nat} {T R : Nat → Nat → Bool} (hw : Web w g n T R) (hn : n ≤ 24) :
    CallsV C.P 65 #[.pointer (some ⟨g, 0, none⟩)] w fun v w' => Lists w.heap.size w' v (compsL n R) ∧ Ext w w' := by
  refine callsV_of C_ok (args := [_]) (plans := []) Try.func65 rfl Try.ntmps65 (by kernel_rfl) (Nat.le_of_ble_eq_true rfl) ?_
  intro gb w1 h1
  intro go w2 h2
  intro gd w3 h3
  intro gv w4 h4
  refine ⟨[], [.pointer (some ⟨gb, 0, none⟩), .pointer (some ⟨gd, 0, none⟩), .pointer (some ⟨go, 0, none⟩), .pointer (some ⟨gv, 0, none⟩)], rfl, rfl, ?_⟩
  have M4 := ((((Mem.start w).alloc h1).alloc h2).alloc h3).alloc h4
  refine ⟨rfl, _, _, M4.get 0 rfl, Nat.le_of_ble_eq_true rfl, rfl, ?_⟩
  intro w5 h5
  have M5 := M4.put 0 rfl h5
  refine ⟨_, cell_of_block h5.here rfl, ?_⟩
  have e0 : List.replicate 24 (Value.bool false) = setCells fun _ => false := bools_false 24
  have hd : w5.heap[gd]? = some (.cells (setCells fun _ => false).toArray 76 (0, 0)) := by rw [← e0]; exact M5.get 1 rfl
  have hl : Lists w.heap.size w5 (.slice none 0 0) [] := lists_nil _ _
  have mem : CompMem w.heap.size w5 g gb gd go gv n T R (fun _ => false) (.slice none 0 0) [] :=
    ⟨M5.ext.size, ⟨M5.new 3 rfl, M5.new 1 rfl, M5.new 2 rfl, M5.new 0 rfl⟩, hw.ext M5.ext, M5.get 3 rfl, hd, M5.get 2 rfl, h5.here, hl⟩
  have hu : unseen (fun _ => false) ≤ 24 := Nat.le_trans (List.length_filter_le _ _) (by simp)
  refine (next_spec 24 _ _ w5 g gb gd go gv n T R _ _ hu hn (by rw [List.length_nil, Nat.zero_add]; exact hu) mem).mono ?_
  rintro v6 w6 ⟨v7, hb, ho, hl6⟩
  refine ⟨_, cell_of_block ho rfl, ?_⟩
  exact ⟨hl6, Below.trans M5.ext hb⟩

noncomputable def compsV (N : Int) (xs : List Arrow) : List (List Int) := if chk N xs = 0 then compsL N.toNat (reach (toM xs)) else []

theorem Components_spec {N : Int} {A : Option Addr} {xs : List Arrow} {c : Nat} {w : World} (h : HRel w N A xs c) :
    CallsV C.P 22 #[relVal N A xs.length c] w fun v w' => Lists w.heap.size w' v (compsV N xs) ∧ Ext w w' := by
  refine callsV_of C_ok (args := [_]) (plans := []) Try.func22 rfl Try.ntmps22 (by kernel_rfl) (Nat.le_of_ble_eq_true rfl) ?_
  intro g1 w1 h1
  have M1 := (Mem.start w).alloc h1
  refine ⟨[.int .i64 N, .slice A xs.length c], rfl, M1.rd 0 rfl, ?_⟩
  by_cases hv : chk N xs = 0
  · have hok := valid_of_chk hv
    refine (open_yes (h.ext M1.ext) hok).mono ?_
    rintro v w2 ⟨g, rfl, hg, hw, he⟩
    have M2 := M1.grow he
    obtain ⟨n, rfl⟩ := Int.eq_ofNat_of_zero_le hok.lo
    have := hok.hi
    refine (components_spec hw (by omega)).mono ?_
    rintro v w3 ⟨hl, he3⟩
    rw [compsV, if_pos hv]
    exact ⟨hl.base M2.ext.size, M2.ext.trans he3⟩
  · refine (open_no (h.ext M1.ext) hv).mono ?_
    rintro v w2 ⟨rfl, he⟩
    rw [compsV, if_neg hv]
    exact ⟨lists_nil _ _, (M1.grow he).ext⟩

end Go.Proofs.Ytdfhfehlmonjjaa

namespace Go.Proofs.Ytdfhfehlmonjjaa
open Go.Eng Go.RowKit

def prCells (l : List (Int × Int)) : List Value := l.flatMap fun p => [.int .i64 p.1, .int .i64 p.2]
theorem prCells_append (l m : List (Int × Int)) : prCells (l ++ m) = prCells l ++ prCells m := by simp [prCells]
theorem prCells_length (l : List (Int × Int)) : (prCells l).length = l.length * 2 := by
  induction l with
  | nil => rfl
  | cons x l ih => show (_ ++ prCells l).length = _; simp [ih]; omega

/-- A row of pairs. -/
def Prs (B : Nat) (w : World) (v : Value) (l : List (Int × Int)) : Prop := w.ownsRow B 58 2 v l.length (prCells l)
theorem Prs.base {B B' : Nat} {w : World} {v : Value} {l : List (Int × Int)} (h : Prs B' w v l) (hb : B ≤ B') : Prs B w v l := ownsRow_base h hb
theorem Prs.ext {B : Nat} {w w' : World} {v : Value} {l : List (Int × Int)} (h : Prs B w v l) (e : Ext w w') : Prs B w' v l := ownsRow_ext h e
theorem prs_nil (B : Nat) (w : World) : Prs B w (.slice none 0 0) [] := World.ownsRow_nil _ _ _ _

/-- The pairs that have a property. -/
def rowTo (hs : Nat → Nat → Bool) (a b : Nat) : List (Int × Int) := ((List.range' (a + 1) (b - (a + 1))).filter (hs a)).map fun (k : Nat) => ((a : Int), (k : Int))
def pairsTo (n : Nat) (hs : Nat → Nat → Bool) (a : Nat) : List (Int × Int) := (List.range a).flatMap fun k => rowTo hs k n
def pairsL (n : Nat) (hs : Nat → Nat → Bool) : List (Int × Int) := pairsTo n hs n

theorem rowTo_succ {hs : Nat → Nat → Bool} {a b : Nat} (h : a + 1 ≤ b) : rowTo hs a (b + 1) = if hs a b then rowTo hs a b ++ [((a : Int), (b : Int))] else rowTo hs a b := by
  unfold rowTo
  rw [show b + 1 - (a + 1) = (b - (a + 1)) + 1 by omega, List.range'_concat, List.filter_append, List.map_append]
  rw [show a + 1 + 1 * (b - (a + 1)) = b by omega]
  by_cases hb : hs a b = true <;> simp [hb]
theorem rowTo_start (hs : Nat → Nat → Bool) (a : Nat) : rowTo hs a (a + 1) = [] := by simp [rowTo]
theorem rowTo_over {hs : Nat → Nat → Bool} {a n : Nat} (h : n ≤ a + 1) : rowTo hs a n = [] := by
  unfold rowTo; rw [show n - (a + 1) = 0 by omega]; rfl
theorem pairsTo_succ (n : Nat) (hs : Nat → Nat → Bool) (a : Nat) : pairsTo n hs (a + 1) = pairsTo n hs a ++ rowTo hs a n := by
  unfold pairsTo; rw [List.range_succ, List.flatMap_append]; simp
theorem rowTo_length (hs : Nat → Nat → Bool) (a b : Nat) : (rowTo hs a b).length ≤ b := by
  unfold rowTo
  rw [List.length_map]
  exact Nat.le_trans (List.length_filter_le _ _) (by simp)
theorem pairsTo_length (n : Nat) (hs : Nat → Nat → Bool) (a : Nat) : (pairsTo n hs a).length ≤ a * n := by
  induction a with
  | zero => simp [pairsTo]
  | succ a ih =>
    rw [pairsTo_succ, List.length_append, Nat.succ_mul]
    have := rowTo_length hs a n
    omega

theorem pairs_spec {w : World} {g n f : Nat} {T R : Nat → Nat → Bool} (hf : f = 64 ∨ f = 79) (hw : Web w g n T R) (hn : n ≤ 24) {caps : Array Value} {hs : Nat → Nat → Bool}
    (hc : ∀ w', Ext w w' → ∀ a b : Nat, a < n → b < n → CallsV C.P f (#[] ++ #[.int .i64 a, .int .i64 b] ++ caps) w' fun v w'' => v = .bool (hs a b) ∧ Ext w' w'') :
    CallsV C.P 63 #[.pointer (some ⟨g, 0, none⟩), .func (.func f) #[] caps] w fun v w' => Prs w.heap.size w' v (pairsL n hs) ∧ Ext w w' := by
  refine callsV_of C_ok (args := [_, _]) (plans := []) Try.func63 rfl Try.ntmps63 (by kernel_rfl) (Nat.le_of_ble_eq_true rfl) ?_
  refine ⟨_, hw.n, ?_⟩
  refine loopE C_ok (fun (s : Nat × Value) => [(0, .pointer (some ⟨g, 0, none⟩)), (1, .func (.func f) #[] caps), (5, s.2), (11, .int .i64 n), (12, .int .i64 s.1)])
    (fun s w' => s.1 ≤ n ∧ Ext w w' ∧ Prs w.heap.size w' s.2 (pairsTo n hs s.1)) (fun s => n - s.1) (0, .slice none 0 0)
    ⟨rfl, rfl, rfl, rfl, rfl, trivial⟩ ⟨Nat.zero_le _, Ext.refl _, prs_nil _ _⟩ ?_
  rintro ⟨a, v⟩ w1 ⟨ha, e1, ho⟩
  have ha : a ≤ n := ha
  have ho : Prs w.heap.size w1 v (pairsTo n hs a) := ho
  refine brE_dec (fun hlt => ?_) (fun hge => ?_)
  · have hlt : a < n := by have : (a : Int) < n := hlt; omega
    refine ⟨((a + 1 : Nat) : Int), fit ⟨by omega, by omega⟩, ?_⟩
    refine loopE C_ok (fun (s : Nat × Value) => [(0, .pointer (some ⟨g, 0, none⟩)), (1, .func (.func f) #[] caps), (5, s.2), (6, .int .i64 a), (7, .int .i64 s.1), (11, .int .i64 n), (12, .int .i64 a)])
      (fun s w' => a + 1 ≤ s.1 ∧ s.1 ≤ n ∧ Ext w w' ∧ Prs w.heap.size w' s.2 (pairsTo n hs a ++ rowTo hs a s.1)) (fun s => n - s.1) (a + 1, v)
      ⟨rfl, rfl, rfl, rfl, rfl, rfl, rfl, trivial⟩ ⟨Nat.le_refl _, hlt, e1, by show Prs _ _ _ (_ ++ rowTo hs a (a + 1)); rw [rowTo_start, List.append_nil]; exact ho⟩ ?_
    rintro ⟨b, v2⟩ w2 ⟨hab, hb, e2, ho2⟩
    have hab : a + 1 ≤ b := hab
    have hb : b ≤ n := hb
    have ho2 : Prs w.heap.size w2 v2 (pairsTo n hs a ++ rowTo hs a b) := ho2
    refine ⟨_, (hw.ext e2).n, ?_⟩
    refine brE_dec (fun hlt2 => ?_) (fun hge2 => ?_)
    · have hlt2 : b < n := by have : (b : Int) < n := hlt2; omega
      have next : IntKind.i64.wrap ((b : Int) + 1) = ((b + 1 : Nat) : Int) := fit ⟨by omega, by omega⟩
      have hsu := rowTo_succ (hs := hs) hab
      have len1 := pairsTo_length n hs a
      have len2 := rowTo_length hs a b
      have len0 : a * n ≤ 24 * 24 := Nat.mul_le_mul (by omega) hn
      have hcall := hc w2 e2 a b hlt hlt2
      rcases hf with rfl | rfl
      all_goals
        refine hcall.mono ?_
        rintro v3 w3 ⟨rfl, e3⟩
        have e23 := e2.trans e3
        refine brE_mk (fun hh => ?_) (fun hh => ?_)
        · rw [if_pos hh] at hsu
          intro g9 w9 h9
          have ho9 : w9.ownsRow w.heap.size 58 2 v2 (pairsTo n hs a ++ rowTo hs a b).length (prCells (pairsTo n hs a ++ rowTo hs a b)) := ownsRow_ext (ownsRow_ext ho2 e3) h9.ext
          have e29 := e23.trans h9.ext
          refine ⟨rfl, rfl, rfl, w.heap.size, _, _, [.int .i64 a, .int .i64 b], ho9, e29.size, Nat.le_of_ble_eq_true rfl, rfl, rfl, .inr ⟨g9, 0, rfl, Rd.of_block h9.here⟩, rfl, rfl, by rw [List.length_append]; omega, by rw [List.length_append]; simp only [maxLen]; omega, ?_⟩
          intro v10 w10 ho10 hg10 _
          refine ⟨_, next, ?_⟩
          refine ⟨(b + 1, v10), ⟨rfl, rfl, rfl, rfl, rfl, rfl, rfl, trivial⟩, ⟨by show a + 1 ≤ b + 1; omega, hlt2, app_ext e29 ho9 hg10, ?_⟩, by show n - (b + 1) < n - b; omega⟩
          show Prs _ _ _ (_ ++ rowTo hs a (b + 1))
          rw [hsu, ← List.append_assoc]
          unfold Prs
          rw [prCells_append, List.length_append]
          exact ho10
        · rw [if_neg (by rw [hh]; exact Bool.false_ne_true)] at hsu
          refine ⟨_, next, ?_⟩
          refine ⟨(b + 1, v2), ⟨rfl, rfl, rfl, rfl, rfl, rfl, rfl, trivial⟩, ⟨by show a + 1 ≤ b + 1; omega, hlt2, e23, ?_⟩, by show n - (b + 1) < n - b; omega⟩
          show Prs _ _ _ (_ ++ rowTo hs a (b + 1))
          rw [hsu]
          exact ho2.ext e3
    · have : b = n := by have : ¬ (b : Int) < n := hge2; omega
      subst this
      refine ⟨((a + 1 : Nat) : Int), fit ⟨by omega, by omega⟩, ?_⟩
      refine ⟨(a + 1, v2), ⟨rfl, rfl, rfl, rfl, rfl, trivial⟩, ⟨hlt, e2, ?_⟩, by show b - (a + 1) < b - a; omega⟩
      show Prs _ _ _ (pairsTo b hs (a + 1))
      rw [pairsTo_succ]; exact ho2
  · have : a = n := by have : ¬ (a : Int) < n := hge; omega
    subst this
    exact ⟨ho, e1⟩

def unsetB (R : Nat → Nat → Bool) (a b : Nat) : Bool := decide (standR R a b = 0) || decide (standR R a b = 3)

theorem Unsettled1_spec {w : World} {gb g n : Nat} {T R : Nat → Nat → Bool} (hb : w.heap[gb]? = some (.cells #[.pointer (some ⟨g, 0, none⟩)] 70 (0, 0))) (hw : Web w g n T R) {a b : Nat} (ha : a < 24) (hb24 : b < 24) :
    CallsV C.P 64 #[.int .i64 a, .int .i64 b, .pointer (some ⟨gb, 0, none⟩)] w fun v w' => v = .bool (unsetB R a b) ∧ Ext w w' := by
  refine callsV_of C_ok (args := [_, _, _]) (plans := []) Try.func64 rfl Try.ntmps64 (by kernel_rfl) (Nat.le_of_ble_eq_true rfl) ?_
  refine ⟨_, cell_of_block hb rfl, ?_⟩
  refine (standing_spec hw ha hb24).mono ?_
  rintro v w1 ⟨rfl, rfl⟩
  refine brE_dec (fun h => ?_) (fun h => ?_)
  · exact ⟨by simp [unsetB, h], Ext.refl _⟩
  · refine ⟨?_, Ext.refl _⟩
    simp [unsetB, h]

noncomputable def unsetL (N : Int) (xs : List Arrow) : List (Int × Int) := if chk N xs = 0 then pairsL N.toNat (unsetB (reach (toM xs))) else []

theorem Unsettled_spec {N : Int} {A : Option Addr} {xs : List Arrow} {c : Nat} {w : World} (h : HRel w N A xs c) :
    CallsV C.P 21 #[relVal N A xs.length c] w fun v w' => (∃ u, v = .tuple #[u, .int .i64 (chk N xs)] ∧ Prs w.heap.size w' u (unsetL N xs)) ∧ Ext w w' := by
  refine callsV_of C_ok (args := [_]) (plans := []) Try.func21 rfl Try.ntmps21 (by kernel_rfl) (Nat.le_of_ble_eq_true rfl) ?_
  intro g1 w1 h1
  have M1 := (Mem.start w).alloc h1
  refine ⟨[.int .i64 N, .slice A xs.length c], rfl, M1.rd 0 rfl, ?_⟩
  by_cases hv : chk N xs = 0
  · have hok := valid_of_chk hv
    refine (open_yes (h.ext M1.ext) hok).mono ?_
    rintro v w2 ⟨g, rfl, hg, hw, he⟩
    have M2 := M1.grow he
    obtain ⟨n, rfl⟩ := Int.eq_ofNat_of_zero_le hok.lo
    have := hok.hi
    intro g3 w3 h3
    refine ⟨rfl, _, _, h3.here, Nat.le_of_ble_eq_true rfl, rfl, ?_⟩
    intro w4 h4
    have h4 : Put w3 g3 (.cells #[.pointer (some ⟨g, 0, none⟩)] 70 (0, 0)) w4 := h4
    have M4 := (M2.alloc h3).put 0 rfl h4
    have e24 : Ext w2 w4 := h4.ext_of h3.ext (by rw [h3.new]; exact Nat.le_refl _)
    refine ⟨_, cell_of_block h4.here rfl, ?_⟩
    refine ⟨[], [.pointer (some ⟨g3, 0, none⟩)], rfl, rfl, ?_⟩
    refine (pairs_spec (.inl rfl) (hw.ext e24) (by omega) (hs := unsetB (reach (toM xs))) (fun w' e a b ha hb => ?_)).mono ?_
    · exact Unsettled1_spec (e.heap h4.here) ((hw.ext e24).ext e) (by omega) (by omega)
    · rintro v w5 ⟨hp, e5⟩
      refine ⟨⟨v, ?_, ?_⟩, M4.ext.trans e5⟩
      · rw [hv]
      · rw [unsetL, if_pos hv]
        exact hp.base M4.ext.size
  · refine (open_no (h.ext M1.ext) hv).mono ?_
    rintro v w2 ⟨rfl, he⟩
    have M2 := M1.grow he
    intro g3 w3 h3
    refine ⟨rfl, _, _, h3.here, Nat.le_of_ble_eq_true rfl, rfl, ?_⟩
    intro w4 h4
    have M4 := (M2.alloc h3).put 0 rfl h4
    refine ⟨[.int .i64 N, .slice A xs.length c], rfl, M4.rd 1 rfl, ?_⟩
    refine (Check_spec (h.ext M4.ext)).mono ?_
    rintro v w5 ⟨rfl, e5⟩
    refine ⟨⟨_, rfl, ?_⟩, M4.ext.trans e5⟩
    rw [unsetL, if_neg hv]
    exact prs_nil _ _

end Go.Proofs.Ytdfhfehlmonjjaa

namespace Go.Proofs.Ytdfhfehlmonjjaa
open Go.Eng Go.RowKit

theorem Grow_spec (w : World) {i : Int} (hi0 : 0 ≤ i) (hi : i ≤ 4096) :
    CallsV C.P 85 #[.slice none 0 0, .int .i64 i] w fun v w' => NewInts w w' v [] ∧ Ext w w' := by
  refine callsV_of C_ok (args := [_, _]) (plans := []) Try.func85 rfl Try.ntmps85 (by kernel_rfl) (Nat.le_of_ble_eq_true rfl) ?_
  refine brE_dec (fun h => by have h : i < 0 := h; omega) (fun _ => ?_)
  refine ⟨_, capQ C_ok rfl rfl rfl rfl, ?_⟩
  refine ⟨0, rfl, ?_⟩
  refine ⟨i, by rw [fit ⟨by omega, by omega⟩]; omega, ?_⟩
  refine brE_dec (fun h => ?_) (fun h => ?_)
  · have h : i > 0 := h
    obtain ⟨n, rfl⟩ := Int.eq_ofNat_of_zero_le hi0
    have h : 0 < n := by omega
    refine ⟨_, capQ C_ok rfl rfl rfl rfl, ?_⟩
    refine ⟨0, 0, rfl, rfl, Nat.le_refl _, Nat.le_refl _, ?_⟩
    refine appendMake (n := n) C_ok rfl rfl rfl rfl rfl rfl rfl rfl rfl h (by simp only [maxLen]; omega) (by omega) ?_
    intro g cap w1 e1 ho
    refine ⟨0, 0, rfl, rfl, Nat.le_refl _, Nat.zero_le _, ?_⟩
    refine ⟨?_, e1⟩
    have := ownsRow_cut ho (Nat.zero_le n)
    have e : (if cap = 0 then some (⟨g, 0, none⟩ : Addr) else (some (⟨g, 0, none⟩ : Addr)).map (·.add (0 * 1))) = some ⟨g, 0, none⟩ := by
      split <;> rfl
    show w1.ownsRow _ _ _ (.slice (if cap = 0 then some (⟨g, 0, none⟩ : Addr) else (some (⟨g, 0, none⟩ : Addr)).map (·.add (0 * 1))) 0 cap) _ _
    rw [e]
    show w1.ownsRow _ _ _ _ 0 []
    simpa using this
  · exact ⟨World.ownsRow_nil _ _ _ _, Ext.refl _⟩


theorem flat_take {L : List (List Int)} {i : Nat} (hi : i < L.length) : (L.take (i + 1)).flatten = (L.take i).flatten ++ L[i] := by
  rw [List.take_succ_eq_append_getElem hi, List.flatten_append]; simp

theorem flat_le {L : List (List Int)} {k : Nat} (h : ∀ l ∈ L, l.length ≤ k) : L.flatten.length ≤ L.length * k := by
  induction L with
  | nil => simp
  | cons l L ih =>
    have h1 := h l (by simp)
    have h2 := ih fun l hl => h l (by simp [hl])
    simp only [List.flatten_cons, List.length_append, List.length_cons, Nat.succ_mul]
    omega

theorem flat_take_le {L : List (List Int)} {k : Nat} (h : ∀ l ∈ L, l.length ≤ k) (i : Nat) : (L.take i).flatten.length ≤ L.length * k := by
  have := flat_le (L := L.take i) fun l hl => h l (List.mem_of_mem_take hl)
  have h2 : (L.take i).length * k ≤ L.length * k := Nat.mul_le_mul_right _ (by simp; omega)
  omega

theorem Concat_spec {w : World} {A : Option Addr} {c : Nat} {L : List (List Int)} {us : List Value} (hr : RList w A L us) (hL : L.length ≤ 24) (h24 : ∀ l ∈ L, l.length ≤ 24) (hne : ∀ l ∈ L, l ≠ []) :
    CallsV C.P 62 #[.slice A L.length c] w fun v w' => NewInts w w' v L.flatten ∧ Ext w w' := by
  refine callsV_of C_ok (args := [_]) (plans := []) Try.func62 rfl Try.ntmps62 (by kernel_rfl) (Nat.le_of_ble_eq_true rfl) ?_
  have hb0 : L.length * 24 ≤ 24 * 24 := Nat.mul_le_mul_right _ hL
  refine loopE C_ok (fun (i : Nat) => [(0, .slice A L.length c), (3, .int .i64 ((L.take i).flatten.length : Nat)), (9, .slice A L.length c), (10, .int .i64 L.length), (11, .int .i64 i)])
    (fun i w' => i ≤ L.length ∧ w' = w) (fun i => L.length - i) 0 ⟨rfl, rfl, rfl, rfl, rfl, trivial⟩ ⟨Nat.zero_le _, rfl⟩ ?_
  rintro i w1 ⟨hi, rfl⟩
  refine brE_dec (fun hlt => ?_) (fun hge => ?_)
  · have hlt : i < L.length := by omega
    obtain ⟨A', c', hu, _⟩ := hr.row i hlt
    rcases hr.reads with h0 | ⟨b, o, hA, hrd⟩
    · subst h0; simp at hu
    refine ⟨i, b, o, rfl, hlt, hA, ?_⟩
    refine ⟨_, by have := hrd i _ hu; simpa using this, ?_⟩
    have h1 := flat_take_le h24 (i + 1)
    have h2 := flat_take hlt
    have h3 : (L.take (i + 1)).flatten.length = (L.take i).flatten.length + L[i].length := by rw [h2, List.length_append]
    refine ⟨(((L.take (i + 1)).flatten.length : Nat) : Int), by rw [h3, fit ⟨by omega, by omega⟩]; omega, ?_⟩
    refine brE_dec (fun h => by have h : (((L.take (i + 1)).flatten.length : Nat) : Int) < 0 := h; omega) (fun _ => ?_)
    refine ⟨((i + 1 : Nat) : Int), fit ⟨by omega, by omega⟩, ?_⟩
    exact ⟨i + 1, ⟨rfl, rfl, rfl, rfl, rfl, trivial⟩, ⟨hlt, rfl⟩, by omega⟩
  · have : i = L.length := by omega
    subst this
    rw [List.take_length]
    have h1 := flat_le h24
    refine (Grow_spec w1 (i := (L.flatten.length : Nat)) (by omega) (by omega)).mono ?_
    rintro v w2 ⟨hg, e2⟩
    refine loopE C_ok (fun (s : Nat × Value) => [(6, s.2), (25, .slice A L.length c), (26, .int .i64 L.length), (27, .int .i64 s.1)])
      (fun s w' => s.1 ≤ L.length ∧ Ext w1 w' ∧ NewInts w1 w' s.2 (L.take s.1).flatten) (fun s => L.length - s.1) (0, v) ⟨rfl, rfl, rfl, rfl, trivial⟩ ⟨Nat.zero_le _, e2, hg⟩ ?_
    rintro ⟨i, v3⟩ w3 ⟨hi, e3, ho⟩
    have hi : i ≤ L.length := hi
    have ho : NewInts w1 w3 v3 (L.take i).flatten := ho
    refine brE_dec (fun hlt => ?_) (fun hge => ?_)
    · have hlt : i < L.length := by have : (i : Int) < L.length := hlt; omega
      obtain ⟨A', c', hu, hr'⟩ := hr.row i hlt
      rcases hr.reads with h0 | ⟨b, o, hA, hrd⟩
      · subst h0; simp at hu
      refine ⟨i, b, o, rfl, hlt, hA, ?_⟩
      refine ⟨_, by have := (hrd.ext e3) i _ hu; simpa using this, ?_⟩
      have hn0 := hne L[i] (List.getElem_mem _)
      rcases hr' with h0 | ⟨b', o', rfl, hrd'⟩
      · have := congrArg List.length h0
        rw [ints_length] at this
        exact absurd (List.length_eq_zero_iff.1 this) hn0
      have h1 := flat_take_le h24 (i + 1)
      have h2 := flat_take hlt
      have h3 : (L.take (i + 1)).flatten.length = (L.take i).flatten.length + L[i].length := by rw [h2, List.length_append]
      refine ⟨rfl, rfl, rfl, w1.heap.size, (L.take i).flatten.length, ints (L.take i).flatten, ints L[i], ho, e3.size, Nat.lt_add_one 0, rfl, by rw [ints_length]; simp, .inr ⟨b', o', rfl, hrd'.ext e3⟩, rfl, by simp [ints, Value.oneCell'], by omega, by simp only [maxLen]; omega, ?_⟩
      intro v4 w4 ho4 hg4 _
      refine ⟨((i + 1 : Nat) : Int), fit ⟨by omega, by omega⟩, ?_⟩
      refine ⟨(i + 1, v4), ⟨rfl, rfl, rfl, rfl, trivial⟩, ⟨hlt, app_ext e3 ho hg4, ?_⟩, by show L.length - (i + 1) < L.length - i; omega⟩
      show w4.ownsRow _ _ _ _ _ _
      rw [h2, List.length_append, ints_append]
      exact ho4
    · have : i = L.length := by have : ¬ (i : Int) < L.length := hge; omega
      subst this
      rw [List.take_length] at ho
      exact ⟨ho, e3⟩

theorem compsF_props {n : Nat} {R : Nat → Nat → Bool} (hn : n ≤ 24) : ∀ (m : Nat) (D : Nat → Bool), (compsF n R m D).length ≤ m ∧ ∀ l ∈ compsF n R m D, ∃ a < n, l = members (compS n R a)
  | 0, D => ⟨by simp [compsF], fun l h => by simp [compsF] at h⟩
  | m + 1, D => by
    rw [compsF]
    cases hf : (List.range n).find? fun a => !(D a || precS n R a (compS n R a) D) with
    | none => exact ⟨by simp, fun l h => by simp at h⟩
    | some a =>
      have ih := compsF_props (R := R) hn m (orS D (compS n R a))
      refine ⟨by simpa using ih.1, fun l hl => ?_⟩
      rcases List.mem_cons.1 hl with rfl | hl
      · exact ⟨a, List.mem_range.1 (List.mem_of_find?_eq_some hf), rfl⟩
      · exact ih.2 l hl

theorem members_ne {S : Nat → Bool} {a : Nat} (ha : a < 24) (h : S a = true) : members S ≠ [] := by
  obtain ⟨i, hi, _⟩ := members_mem ha h
  intro e
  rw [e] at hi
  simp at hi

theorem compsL_props {n : Nat} {R : Nat → Nat → Bool} (hn : n ≤ 24) : (compsL n R).length ≤ 24 ∧ (∀ l ∈ compsL n R, l.length ≤ 24) ∧ ∀ l ∈ compsL n R, l ≠ [] := by
  have h := compsF_props (R := R) hn 24 fun _ => false
  refine ⟨h.1, fun l hl => ?_, fun l hl => ?_⟩
  · obtain ⟨a, _, rfl⟩ := h.2 l hl
    exact membersTo_length _ 24
  · obtain ⟨a, ha, rfl⟩ := h.2 l hl
    exact members_ne (by omega) (comp_refl ha)

theorem compsV_props {N : Int} {xs : List Arrow} : (compsV N xs).length ≤ 24 ∧ (∀ l ∈ compsV N xs, l.length ≤ 24) ∧ ∀ l ∈ compsV N xs, l ≠ [] := by
  unfold compsV
  split
  · rename_i h
    have hok := valid_of_chk h
    have := hok.hi
    exact compsL_props (by omega)
  · exact ⟨by simp, fun l h => by simp at h, fun l h => by simp at h⟩

noncomputable def settledB (N : Int) (xs : List Arrow) : Bool := decide (chk N xs = 0) && decide (unsetL N xs = [])
noncomputable def settledL (N : Int) (xs : List Arrow) : List Int := if settledB N xs then (compsV N xs).flatten else []

theorem Settled_spec {N : Int} {A : Option Addr} {xs : List Arrow} {c : Nat} {w : World} (h : HRel w N A xs c) :
    CallsV C.P 20 #[relVal N A xs.length c] w fun v w' => (∃ u, v = .tuple #[u, .bool (settledB N xs)] ∧ NewInts w w' u (settledL N xs)) ∧ Ext w w' := by
  refine callsV_of C_ok (args := [_]) (plans := []) Try.func20 rfl Try.ntmps20 (by kernel_rfl) (Nat.le_of_ble_eq_true rfl) ?_
  intro g1 w1 h1
  have M1 := (Mem.start w).alloc h1
  refine ⟨[.int .i64 N, .slice A xs.length c], rfl, M1.rd 0 rfl, ?_⟩
  refine (Unsettled_spec (h.ext M1.ext)).mono ?_
  rintro v w2 ⟨⟨u, rfl, hp⟩, e2⟩
  have M2 := M1.grow e2
  refine brE_mk (fun hb => ?_) (fun hb => ?_)
  · have : chk N xs ≠ 0 := by simpa using hb
    refine ⟨⟨.slice none 0 0, ?_, ?_⟩, M2.ext⟩
    · simp [settledB, this]
    · simp [settledL, settledB, this]; exact World.ownsRow_nil _ _ _ _
  · have hv : chk N xs = 0 := by simpa using hb
    obtain ⟨A3, c3, rfl, _, _⟩ := reads_of_owns hp
    refine brE_dec (fun hg => ?_) (fun hg => ?_)
    · have : unsetL N xs ≠ [] := by intro e; rw [e] at hg; simp at hg
      refine ⟨⟨.slice none 0 0, ?_, ?_⟩, M2.ext⟩
      · simp [settledB, this]
      · simp [settledL, settledB, this]; exact World.ownsRow_nil _ _ _ _
    · have hn : unsetL N xs = [] := by
        cases hx : unsetL N xs with
        | nil => rfl
        | cons a l => rw [hx] at hg; simp at hg
      have hs : settledB N xs = true := by simp [settledB, hv, hn]
      refine ⟨[.int .i64 N, .slice A xs.length c], rfl, M2.rd 0 rfl, ?_⟩
      refine (Components_spec (h.ext M2.ext)).mono ?_
      rintro v w3 ⟨hl, e3⟩
      obtain ⟨A4, c4, us, rfl, hrl⟩ := hl.read
      have hpr := compsV_props (N := N) (xs := xs)
      refine (Concat_spec hrl hpr.1 hpr.2.1 hpr.2.2).mono ?_
      rintro v w4 ⟨ho, e4⟩
      refine ⟨⟨v, by rw [hs], ?_⟩, (M2.ext.trans e3).trans e4⟩
      rw [settledL, if_pos hs]
      exact ownsRow_base ho (M2.ext.trans e3).size

end Go.Proofs.Ytdfhfehlmonjjaa

namespace Go.Proofs.Ytdfhfehlmonjjaa
open Go.Eng Go.RowKit
open Go.Maps (Keyed)

def prVal (p : Int × Int) : Value := .agg #[.int .i64 p.1, .int .i64 p.2]

theorem laidOut : laidOutB Try.prog = true := by kernel_rfl
theorem row58 : (58 : TypeId) < Try.prog.types.size := of_decide_eq_true (by kernel_rfl)
theorem key58 : Try.prog.keyTypeAt 2 58 = true := by kernel_rfl
theorem keyT58 : Try.prog.keyType 58 = true := by kernel_rfl
theorem cells58 : Try.prog.cellsOf 58 = 2 := by kernel_rfl
theorem cells3 : Try.prog.cellsOf 3 = 1 := by kernel_rfl
theorem under3 : Try.prog.underlying 3 = some (.int .i64) := by kernel_rfl
theorem u58 : Try.prog.underlying 58 = some (.struct #[⟨ "A", 3, 0, false, "", "", 0⟩, ⟨ "B", 3, 1, false, "", "", 8⟩]) := by kernel_rfl
theorem pairK : Keyed C.P 58 := Keyed.of_law (deep_law_laid laidOut (m := 2) (by omega) row58 key58 (by rw [u58]))

theorem wf64 {a : Int} (h : In64 a) : (Lit.int .i64 a).wf = true := by
  simp [Lit.wf, IntKind.min, IntKind.max, IntKind.bits, IntKind.signed]
  omega

theorem succ_of_lt {k n : Nat} (h : k < n) : ∃ m, n = m + 1 := ⟨n - 1, by omega⟩

theorem pairKey {p : Int × Int} (h1 : In64 p.1) (h2 : In64 p.2) : keyOf C.P 58 (prVal p) = some (.string (keyBytes [.int .i64 p.1, .int .i64 p.2])) := by
  show keyOf Try.prog 58 _ = _
  have w1 := wf64 h1
  have w2 := wf64 h2
  obtain ⟨m, hm⟩ : ∃ m, Try.prog.types.size = m + 1 := succ_of_lt row58
  have hk : Try.prog.keyLits (m + 2) 58 [.int .i64 p.1, .int .i64 p.2] = some [.int .i64 p.1, .int .i64 p.2] := by
    simp [Program.keyLits, cells58, cells3, w1, w2]
  simp [keyOf, keyT58, prVal, Value.formed, cells58, Value.cells, hm, hk]

/-- What a map holds in which pairs were put. -/
noncomputable def goneV (ps : List (Int × Int)) : Value → Option Value := ps.foldl (fun f p => updV f (prVal p) (.bool true)) fun _ => none

theorem goneV_snoc (ps : List (Int × Int)) (p : Int × Int) : goneV (ps ++ [p]) = updV (goneV ps) (prVal p) (.bool true) := by simp [goneV]

theorem prVal_inj {p q : Int × Int} (h : prVal p = prVal q) : p = q := by
  obtain ⟨a, b⟩ := p
  obtain ⟨c, d⟩ := q
  simp [prVal] at h
  obtain ⟨rfl, rfl⟩ := h
  rfl

theorem goneV_get (ps : List (Int × Int)) (q : Int × Int) : goneV ps (prVal q) = if q ∈ ps then some (.bool true) else none := by
  suffices h : ∀ (l : List (Int × Int)) (f : Value → Option Value), (l.foldl (fun f p => updV f (prVal p) (.bool true)) f) (prVal q) = if q ∈ l then some (.bool true) else f (prVal q) from h ps _
  intro l
  induction l with
  | nil => intro f; simp
  | cons p l ih =>
    intro f
    rw [List.foldl_cons, ih]
    by_cases h1 : q ∈ l
    · simp [h1]
    · by_cases h2 : q = p
      · subst h2; simp [h1, updV]
      · simp [h1, h2, updV]
        intro h3
        exact absurd (prVal_inj h3) h2

def waiveL (xs : List Arrow) (ps : List (Int × Int)) : List Arrow := xs.filter fun x => !decide ((x.fr, x.to) ∈ ps)

theorem waiveL_take {xs : List Arrow} {ps : List (Int × Int)} {i : Nat} (hi : i < xs.length) : waiveL (xs.take (i + 1)) ps = if (xs[i].fr, xs[i].to) ∈ ps then waiveL (xs.take i) ps else waiveL (xs.take i) ps ++ [xs[i]] := by
  unfold waiveL
  rw [List.take_succ_eq_append_getElem hi, List.filter_append]
  by_cases h : (xs[i].fr, xs[i].to) ∈ ps <;> simp [h]

theorem waiveL_length (xs : List Arrow) (ps : List (Int × Int)) : (waiveL xs ps).length ≤ xs.length := List.length_filter_le _ _

theorem prCells_get {ps : List (Int × Int)} {i : Nat} (hi : i < ps.length) (j : Nat) (v : Value) (h : ([.int .i64 ps[i].1, .int .i64 ps[i].2] : List Value)[j]? = some v) : (prCells ps)[i * 2 + j]? = some v := by
  induction ps generalizing i with
  | nil => simp at hi
  | cons x xs ih =>
    have hj : j < 2 := by
      have := (List.getElem?_eq_some_iff.1 h).1
      simpa using this
    cases i with
    | zero =>
      simp only [Nat.zero_mul, Nat.zero_add]
      show ([.int .i64 x.1, .int .i64 x.2] ++ prCells xs)[j]? = _
      rw [List.getElem?_append_left (by simpa using hj)]
      exact h
    | succ i =>
      show ([.int .i64 x.1, .int .i64 x.2] ++ prCells xs)[(i + 1) * 2 + j]? = _
      rw [List.getElem?_append_right (by simp; omega)]
      have : (i + 1) * 2 + j - [Value.int .i64 x.1, .int .i64 x.2].length = i * 2 + j := by simp; omega
      rw [this]
      exact ih (by simpa using hi) (by simpa using h)

theorem Reads.pair {w : World} {A : Option Addr} {ps : List (Int × Int)} (h : Reads w A (prCells ps)) {i : Nat} (hi : i < ps.length) : ∃ b o, A = some ⟨b, o, none⟩ ∧ Rd w b (o + i * 2) [.int .i64 ps[i].1, .int .i64 ps[i].2] := by
  rcases h with h | ⟨b, o, hA, hr⟩
  · have := congrArg List.length h
    rw [prCells_length] at this
    have : ps.length * 2 = 0 := this
    omega
  · refine ⟨b, o, hA, fun j v hv => ?_⟩
    have := hr _ _ (prCells_get hi j v hv)
    rwa [← Nat.add_assoc] at this

theorem own_ne {w : World} {base e size n g : Nat} {v : Value} {xs : List Value} {o : Obj} (h : w.ownsRow base e size v n xs) (hg : w.heap[g]? = some o) (ho : ∀ c fr, o ≠ .cells c e fr) : some g ≠ v.ownBlock := by
  intro e
  obtain ⟨_, hv | ⟨g', cap, cur, hv, _, hg', _⟩⟩ := h
  · rw [hv.1] at e; cases e
  · rw [hv] at e
    have e : g = g' := by simpa [Value.ownBlock] using e
    subst e
    rw [hg] at hg'
    exact ho _ _ (Option.some.inj hg')

theorem arrows_append (xs ys : List Arrow) : arrows (xs ++ ys) = arrows xs ++ arrows ys := by simp [arrows]

theorem waive_spec {N : Int} {A B : Option Addr} {xs : List Arrow} {c d : Nat} {ps : List (Int × Int)} {w : World} (h : HRel w N A xs c) (hx : xs.length ≤ 2 ^ 40) (hp : ∀ p ∈ ps, In64 p.1 ∧ In64 p.2) (hr : Reads w B (prCells ps)) (hpl : ps.length ≤ 2 ^ 44) :
    CallsV C.P 74 #[relVal N A xs.length c, .slice B ps.length d] w fun v w' => (∃ A' c', v = relVal N A' (waiveL xs ps).length c' ∧ w'.ownsRow w.heap.size 43 4 (.slice A' (waiveL xs ps).length c') (waiveL xs ps).length (arrows (waiveL xs ps))) ∧ Ext w w' := by
  refine callsV_of C_ok (args := [_, _]) (plans := []) Try.func74 rfl Try.ntmps74 (by kernel_rfl) (Nat.le_of_ble_eq_true rfl) ?_
  intro g2 w1 h1
  intro g4 w2 h2
  intro gm w3 h3
  have M3 := (((Mem.start w).alloc h1).alloc h2).alloc h3
  refine loopE C_ok (fun (i : Nat) => [(2, .pointer (some ⟨g2, 0, none⟩)), (4, .pointer (some ⟨g4, 0, none⟩)), (5, .map (some gm)), (12, .slice B ps.length d), (13, .int .i64 ps.length), (14, .int .i64 i)])
    (fun i w' => i ≤ ps.length ∧ (∃ om, Mem w w' [(gm, om), (g4, .cells #[.int .i64 0, .slice none 0 0] 24 (0, 0)), (g2, .cells #[.int .i64 N, .slice A xs.length c] 24 (0, 0))]) ∧ MapIs C.P 58 w' gm (goneV (ps.take i)))
    (fun i => ps.length - i) 0 ⟨rfl, rfl, rfl, rfl, rfl, rfl, trivial⟩ ⟨Nat.zero_le _, ⟨_, M3⟩, MapIs.empty h3.here⟩ ?_
  rintro i w4 ⟨hi, ⟨om, M4⟩, hmap⟩
  refine brE_dec (fun hlt => ?_) (fun hge => ?_)
  · have hlt : i < ps.length := by omega
    obtain ⟨b, o, hA, hrd⟩ := Reads.pair (hr.ext M4.ext) hlt
    refine ⟨i, b, o, rfl, hlt, hA, ?_⟩
    refine ⟨[.int .i64 ps[i].1, .int .i64 ps[i].2], rfl, hrd, ?_⟩
    intro g7 w5 h5
    have M5 := M4.alloc h5
    refine ⟨rfl, _, _, M5.get 0 rfl, Nat.le_of_ble_eq_true rfl, rfl, ?_⟩
    intro w6 h6
    have M6 := M5.put 0 rfl h6
    refine ⟨[.int .i64 ps[i].1, .int .i64 ps[i].2], rfl, Rd.of_block h6.here, ?_⟩
    have hpi := hp ps[i] (List.getElem_mem _)
    have hmap6 : MapIs C.P 58 w6 gm (goneV (ps.take i)) := (hmap.ext h5.ext).put h6 (by
      have := M4.lt (g := gm) (o := om) (by simp)
      rw [h5.new]; omega)
    refine mapPut C_ok rfl rfl (x := prVal ps[i]) rfl rfl rfl rfl pairK (pairKey hpi.1 hpi.2) hmap6 ?_
    intro o' w7 h7 hmap7
    have M7 := (M6.put 1 rfl h7).tail
    refine ⟨((i + 1 : Nat) : Int), fit ⟨by omega, by omega⟩, ?_⟩
    refine ⟨i + 1, ⟨rfl, rfl, rfl, rfl, rfl, rfl, trivial⟩, ⟨hlt, ⟨_, M7⟩, ?_⟩, by omega⟩
    rw [List.take_succ_eq_append_getElem hlt, goneV_snoc]
    exact hmap7
  · have : i = ps.length := by omega
    subst this
    rw [List.take_length] at hmap
    refine ⟨_, M4.cell 2 rfl rfl, ?_⟩
    intro g8 w5 h5
    have M5 := M4.alloc h5
    refine ⟨rfl, _, _, M5.get 0 rfl, Nat.le_of_ble_eq_true rfl, rfl, ?_⟩
    intro w6 h6
    have M6 : Mem w w6 [(g8, .cells #[.int .i64 N, .slice none 0 0] 24 (0, 0)), (gm, om), (g4, .cells #[.int .i64 0, .slice none 0 0] 24 (0, 0)), (g2, .cells #[.int .i64 N, .slice A xs.length c] 24 (0, 0))] := M5.put 0 rfl h6
    have hmap6 : MapIs C.P 58 w6 gm (goneV ps) := (hmap.ext h5.ext).put h6 (by
      have := M4.lt (g := gm) (o := om) (by simp)
      rw [h5.new]; omega)
    refine ⟨_, M6.cell 3 rfl rfl, ?_⟩
    refine loopE C_ok (fun (s : Nat × Value) => [(4, .pointer (some ⟨g4, 0, none⟩)), (5, .map (some gm)), (8, .pointer (some ⟨g8, 0, none⟩)), (25, .slice A xs.length c), (26, .int .i64 xs.length), (27, .int .i64 s.1)])
      (fun s w' => s.1 ≤ xs.length ∧ Mem w w' [(g8, .cells #[.int .i64 N, s.2] 24 (0, 0)), (gm, om), (g4, .cells #[.int .i64 0, .slice none 0 0] 24 (0, 0))] ∧ MapIs C.P 58 w' gm (goneV ps) ∧
        w'.ownsRow w.heap.size 43 4 s.2 (waiveL (xs.take s.1) ps).length (arrows (waiveL (xs.take s.1) ps)))
      (fun s => xs.length - s.1) (0, .slice none 0 0) ⟨rfl, rfl, rfl, rfl, rfl, rfl, trivial⟩
      ⟨Nat.zero_le _, M6.sub (List.Sublist.cons_cons _ (List.Sublist.cons_cons _ (List.Sublist.cons_cons _ (List.nil_sublist _)))), hmap6, World.ownsRow_nil _ _ _ _⟩ ?_
    rintro ⟨i, v⟩ w7 ⟨hi, M7, hmap7, ho7⟩
    have hi : i ≤ xs.length := hi
    have M7 : Mem w w7 [(g8, .cells #[.int .i64 N, v] 24 (0, 0)), (gm, om), (g4, .cells #[.int .i64 0, .slice none 0 0] 24 (0, 0))] := M7
    have ho7 : w7.ownsRow w.heap.size 43 4 v (waiveL (xs.take i) ps).length (arrows (waiveL (xs.take i) ps)) := ho7
    refine brE_dec (fun hlt => ?_) (fun hge => ?_)
    · have hlt : i < xs.length := by have : (i : Int) < xs.length := hlt; omega
      obtain ⟨b, o, hA, hrd⟩ := Reads.arrow h.reads hlt
      refine ⟨i, b, o, rfl, hlt, hA, ?_⟩
      refine ⟨xs[i].cells, rfl, M7.oldRd hrd, ?_⟩
      intro g10 w8 h8
      have M8 := M7.alloc h8
      refine ⟨rfl, _, _, M8.get 0 rfl, Nat.le_of_ble_eq_true rfl, rfl, ?_⟩
      intro w9 h9
      have M9 : Mem w w9 [(g10, .cells xs[i].cells.toArray 43 (0, 0)), (g8, .cells #[.int .i64 N, v] 24 (0, 0)), (gm, om), (g4, .cells #[.int .i64 0, .slice none 0 0] 24 (0, 0))] := M8.put 0 rfl h9
      have hgm8 := M7.lt (g := gm) (o := om) (by simp)
      have hmap9 : MapIs C.P 58 w9 gm (goneV ps) := (hmap7.ext h8.ext).put h9 (by rw [h8.new]; omega)
      have hne10 : v.ownBlock ≠ some g10 := by
        intro e
        have := (ho7.lt g10 e).2
        rw [h8.new] at this
        exact Nat.lt_irrefl _ this
      have ho9 : w9.ownsRow w.heap.size 43 4 v (waiveL (xs.take i) ps).length (arrows (waiveL (xs.take i) ps)) := ownsRow_put (ownsRow_ext ho7 h8.ext) h9 hne10
      refine ⟨_, M9.cell 0 rfl rfl, ?_⟩
      refine ⟨_, M9.cell 0 rfl rfl, ?_⟩
      have hnum := h.nums xs[i] (List.getElem_mem _)
      have hget : (goneV ps (prVal (xs[i].fr, xs[i].to))).getD (.bool false) = .bool (decide ((xs[i].fr, xs[i].to) ∈ ps)) := by
        rw [goneV_get]
        by_cases hm : (xs[i].fr, xs[i].to) ∈ ps <;> simp [hm]
      have htake := waiveL_take (ps := ps) hlt
      have next : IntKind.i64.wrap ((i : Int) + 1) = ((i + 1 : Nat) : Int) := fit ⟨by omega, by omega⟩
      have hwl := waiveL_length (xs.take i) ps
      have htl : (xs.take i).length ≤ i := by simp; omega
      refine ⟨.bool (decide ((xs[i].fr, xs[i].to) ∈ ps)), mapGet1 C_ok (te := ty4) (x := prVal (xs[i].fr, xs[i].to)) (pairKey hnum.1 hnum.2.1) hmap9 pairK rfl rfl rfl rfl rfl rfl hget, ?_⟩
      refine brE_mk (fun hb => ?_) (fun hb => ?_)
      · have hnm : (xs[i].fr, xs[i].to) ∉ ps := by simpa using hb
        rw [if_neg hnm] at htake
        refine ⟨_, M9.cell 1 rfl rfl, ?_⟩
        refine ⟨xs[i].cells, rfl, M9.rd 0 rfl, ?_⟩
        intro g11 w10 h10
        have M10 := M9.alloc h10
        have ho10 := ownsRow_ext ho9 h10.ext
        refine ⟨rfl, rfl, rfl, w.heap.size, _, _, xs[i].cells, ho10, M10.ext.size, Nat.le_of_ble_eq_true rfl, rfl, rfl, .inr ⟨g11, 0, rfl, Rd.of_block h10.here⟩, rfl, rfl, by omega, by simp only [maxLen]; omega, ?_⟩
        intro v11 w11 ho11 hg11 _
        have M11 : Mem w w11 [(g8, .cells #[.int .i64 N, v] 24 (0, 0)), (gm, om), (g4, .cells #[.int .i64 0, .slice none 0 0] 24 (0, 0))] := by
          refine M10.tail.tail.grown hg11 (fun k hk => (ho10.lt k hk).1) ?_
          intro p hp
          simp only [List.tail_cons, List.mem_cons, List.not_mem_nil, or_false] at hp
          rcases hp with rfl | rfl | rfl
          · exact own_ne ho10 (M10.get 2 rfl) (fun c fr e => by cases e)
          · obtain ⟨es, clk, hb, _⟩ := hmap9.ext h10.ext
            exact own_ne ho10 hb (fun c fr e => by cases e)
          · exact own_ne ho10 (M10.get 4 rfl) (fun c fr e => by cases e)
        have hmap11 : MapIs C.P 58 w11 gm (goneV ps) := by
          obtain ⟨es, clk, hb, _⟩ := hmap9.ext h10.ext
          exact (hmap9.ext h10.ext).same (hg11.block gm (lt_of_heap hb) (own_ne ho10 hb (fun c fr e => by cases e)))
        obtain ⟨A11, c11, rfl, _, _⟩ := reads_of_owns ho11
        refine ⟨rfl, _, _, M11.get 0 rfl, Nat.le_of_ble_eq_true rfl, rfl, ?_⟩
        intro w12 h12
        have M12 := M11.put 0 rfl h12
        refine ⟨_, next, ?_⟩
        refine ⟨(i + 1, _), ⟨rfl, rfl, rfl, rfl, rfl, rfl, trivial⟩, ⟨hlt, M12, hmap11.put h12 (by
          have h5 := M11.nodup
          simp at h5
          exact fun e => h5.1.1 e.symm), ?_⟩, by show xs.length - (i + 1) < xs.length - i; omega⟩
        show w12.ownsRow _ _ _ _ (waiveL (xs.take (i + 1)) ps).length (arrows (waiveL (xs.take (i + 1)) ps))
        rw [htake, List.length_append, arrows_append]
        exact ownsRow_put ho11 h12 (fun e => own_ne ho11 (M11.get 0 rfl) (fun c fr e => by cases e) e.symm)
      · have hm : (xs[i].fr, xs[i].to) ∈ ps := by simpa using hb
        rw [if_pos hm] at htake
        refine ⟨_, next, ?_⟩
        refine ⟨(i + 1, v), ⟨rfl, rfl, rfl, rfl, rfl, rfl, trivial⟩, ⟨hlt, M9.tail, hmap9, ?_⟩, by show xs.length - (i + 1) < xs.length - i; omega⟩
        show w9.ownsRow _ _ _ _ (waiveL (xs.take (i + 1)) ps).length (arrows (waiveL (xs.take (i + 1)) ps))
        rw [htake]
        exact ho9
    · have : i = xs.length := by have : ¬ (i : Int) < xs.length := hge; omega
      subst this
      rw [List.take_length] at ho7
      obtain ⟨A8, c8, rfl, _, _⟩ := reads_of_owns ho7
      refine ⟨[.int .i64 N, .slice A8 (waiveL xs ps).length c8], rfl, M7.rd 0 rfl, ?_⟩
      refine ⟨rfl, _, _, M7.get 2 rfl, Nat.le_of_ble_eq_true rfl, rfl, ?_⟩
      intro w8 h8
      have M8 := M7.put 2 rfl h8
      refine ⟨[.int .i64 N, .slice A8 (waiveL xs ps).length c8], rfl, M8.rd 2 rfl, ?_⟩
      refine ⟨⟨A8, c8, rfl, ?_⟩, M8.ext⟩
      exact ownsRow_put ho7 h8 (fun e => own_ne ho7 (M7.get 2 rfl) (fun c fr e => by cases e) e.symm)

end Go.Proofs.Ytdfhfehlmonjjaa

namespace Go.Proofs.Ytdfhfehlmonjjaa
open Go.Eng Go.RowKit

/-- A relation of one's own. -/
def NewRel (B : Nat) (w : World) (v : Value) (N : Int) (xs : List Arrow) : Prop := ∃ A c, v = relVal N A xs.length c ∧ w.ownsRow B 43 4 (.slice A xs.length c) xs.length (arrows xs)

theorem NewRel.base {B B' : Nat} {w : World} {v : Value} {N : Int} {xs : List Arrow} (h : NewRel B' w v N xs) (hb : B ≤ B') : NewRel B w v N xs :=
  let ⟨A, c, h1, h2⟩ := h
  ⟨A, c, h1, ownsRow_base h2 hb⟩
theorem NewRel.ext {B : Nat} {w w' : World} {v : Value} {N : Int} {xs : List Arrow} (h : NewRel B w v N xs) (e : Ext w w') : NewRel B w' v N xs :=
  let ⟨A, c, h1, h2⟩ := h
  ⟨A, c, h1, ownsRow_ext h2 e⟩
theorem newRel_zero (B : Nat) (w : World) : NewRel B w (.agg #[.int .i64 0, .slice none 0 0]) 0 [] := ⟨none, 0, rfl, World.ownsRow_nil _ _ _ _⟩

theorem NewRel.hrel {B : Nat} {w : World} {v : Value} {N : Int} {xs : List Arrow} (h : NewRel B w v N xs) (hN : In64 N) (hx : ∀ x ∈ xs, In64 x.fr ∧ In64 x.to ∧ In64 x.rule ∧ In64 x.wt) (hl : xs.length ≤ 9223372036854775807) : ∃ A c, v = relVal N A xs.length c ∧ HRel w N A xs c := by
  obtain ⟨A, c, rfl, ho⟩ := h
  obtain ⟨A', c', e, hr, hc⟩ := reads_of_owns ho
  cases e
  exact ⟨A, c, rfl, hN, hx, hr, hc, hl⟩

theorem Waive_spec {N : Int} {A B : Option Addr} {xs : List Arrow} {c d : Nat} {ps : List (Int × Int)} {w : World} (h : HRel w N A xs c) (hx : xs.length ≤ 2 ^ 40) (hp : ∀ p ∈ ps, In64 p.1 ∧ In64 p.2) (hr : Reads w B (prCells ps)) (hpl : ps.length ≤ 2 ^ 44) :
    CallsV C.P 37 #[relVal N A xs.length c, .slice B ps.length d] w fun v w' => (∃ u, v = .tuple #[u, .int .i64 (chk N xs)] ∧ NewRel w.heap.size w' u (if chk N xs = 0 then N else 0) (if chk N xs = 0 then waiveL xs ps else [])) ∧ Ext w w' := by
  refine callsV_of C_ok (args := [_, _]) (plans := []) Try.func37 rfl Try.ntmps37 (by kernel_rfl) (Nat.le_of_ble_eq_true rfl) ?_
  intro g2 w1 h1
  intro g4 w2 h2
  have M2 := ((Mem.start w).alloc h1).alloc h2
  refine ⟨[.int .i64 N, .slice A xs.length c], rfl, M2.rd 1 rfl, ?_⟩
  refine (Check_spec (h.ext M2.ext)).mono ?_
  rintro v w3 ⟨rfl, e3⟩
  have M3 := M2.grow e3
  refine brE_mk (fun hb => ?_) (fun hb => ?_)
  · have hv : chk N xs ≠ 0 := by simpa using hb
    refine ⟨rfl, _, _, M3.get 0 rfl, Nat.le_of_ble_eq_true rfl, rfl, ?_⟩
    intro w4 h4
    have M4 := M3.put 0 rfl h4
    refine ⟨[.int .i64 0, .slice none 0 0], rfl, M4.rd 0 rfl, ?_⟩
    refine ⟨⟨_, rfl, ?_⟩, M4.ext⟩
    rw [if_neg hv, if_neg hv]
    exact newRel_zero _ _
  · have hv : chk N xs = 0 := by simpa using hb
    refine ⟨[.int .i64 N, .slice A xs.length c], rfl, M3.rd 1 rfl, ?_⟩
    refine (waive_spec (h.ext M3.ext) hx hp (hr.ext M3.ext) hpl).mono ?_
    rintro v w4 ⟨⟨A4, c4, rfl, ho⟩, e4⟩
    have M4 := M3.grow e4
    refine ⟨rfl, _, _, M4.get 0 rfl, Nat.le_of_ble_eq_true rfl, rfl, ?_⟩
    intro w5 h5
    have M5 := M4.put 0 rfl h5
    refine ⟨[.int .i64 N, .slice A4 (waiveL xs ps).length c4], rfl, M5.rd 0 rfl, ?_⟩
    refine ⟨⟨_, by rw [hv], ?_⟩, M5.ext⟩
    rw [if_pos hv, if_pos hv]
    exact ⟨A4, c4, rfl, ownsRow_base (ownsRow_put ho h5 (fun e => own_ne ho (M4.get 0 rfl) (fun c fr e => by cases e) e.symm)) M3.ext.size⟩

def diffB (R S : Nat → Nat → Bool) (a b : Nat) : Bool := !decide (standR R a b = standR S a b)

theorem Changed1_spec {w : World} {gb gc g h n m : Nat} {T R U S : Nat → Nat → Bool} (hb : w.heap[gb]? = some (.cells #[.pointer (some ⟨g, 0, none⟩)] 70 (0, 0))) (hw : Web w g n T R)
    (hc : w.heap[gc]? = some (.cells #[.pointer (some ⟨h, 0, none⟩)] 70 (0, 0))) (hv : Web w h m U S) {a b : Nat} (ha : a < 24) (hb24 : b < 24) :
    CallsV C.P 79 #[.int .i64 a, .int .i64 b, .pointer (some ⟨gb, 0, none⟩), .pointer (some ⟨gc, 0, none⟩)] w fun v w' => v = .bool (diffB R S a b) ∧ Ext w w' := by
  refine callsV_of C_ok (args := [_, _, _, _]) (plans := plans79) Try.func79 rfl Try.ntmps79 (by kernel_rfl) (Nat.le_of_ble_eq_true rfl) ?_
  refine ⟨_, cell_of_block hb rfl, ?_⟩
  refine ⟨_, cell_of_block hc rfl, ?_⟩
  refine (standing_spec hw ha hb24).mono ?_
  rintro v w1 ⟨rfl, rfl⟩
  refine ⟨Ext.refl _, ?_⟩
  refine (standing_spec hv ha hb24).mono ?_
  rintro v w2 ⟨rfl, rfl⟩
  exact ⟨rfl, Ext.refl _⟩

/-- What Changed says. -/
noncomputable def changedE (N : Int) (xs : List Arrow) (M : Int) (ys : List Arrow) : Int := if chk N xs ≠ 0 then chk N xs else if chk M ys ≠ 0 then chk M ys else if N ≠ M then 1 else 0
noncomputable def changedL (N : Int) (xs : List Arrow) (M : Int) (ys : List Arrow) : List (Int × Int) := if changedE N xs M ys = 0 then pairsL N.toNat (diffB (reach (toM xs)) (reach (toM ys))) else []

theorem Changed_spec {N M : Int} {A B : Option Addr} {xs ys : List Arrow} {c d : Nat} {w : World} (h : HRel w N A xs c) (k : HRel w M B ys d) :
    CallsV C.P 52 #[relVal N A xs.length c, relVal M B ys.length d] w fun v w' => (∃ u, v = .tuple #[u, .int .i64 (changedE N xs M ys)] ∧ Prs w.heap.size w' u (changedL N xs M ys)) ∧ Ext w w' := by
  refine callsV_of C_ok (args := [_, _]) (plans := plans52) Try.func52 rfl Try.ntmps52 (by kernel_rfl) (Nat.le_of_ble_eq_true rfl) ?_
  intro g2 w1 h1
  intro g3 w2 h2
  have M2 := ((Mem.start w).alloc h1).alloc h2
  refine ⟨[.int .i64 N, .slice A xs.length c], rfl, M2.rd 1 rfl, ?_⟩
  by_cases hv : chk N xs = 0
  · have hok := valid_of_chk hv
    refine (open_yes (h.ext M2.ext) hok).mono ?_
    rintro v w3 ⟨g, rfl, hg, hw, e3⟩
    have M3 := M2.grow e3
    intro g6 w4 h4
    have M4 := M3.alloc h4
    refine ⟨rfl, _, _, M4.get 0 rfl, Nat.le_of_ble_eq_true rfl, rfl, ?_⟩
    intro w5 h5
    have M5 := M4.put 0 rfl h5
    have e35 : Ext w3 w5 := h5.ext_of h4.ext (by rw [h4.new]; exact Nat.le_refl _)
    refine ⟨[.int .i64 M, .slice B ys.length d], rfl, M5.rd 1 rfl, ?_⟩
    by_cases hv2 : chk M ys = 0
    · have hok2 := valid_of_chk hv2
      refine (open_yes (k.ext M5.ext) hok2).mono ?_
      rintro v w6 ⟨g', rfl, hg', hw', e6⟩
      have M6 := M5.grow e6
      intro g8 w7 h7
      have M7 := M6.alloc h7
      refine ⟨rfl, _, _, M7.get 0 rfl, Nat.le_of_ble_eq_true rfl, rfl, ?_⟩
      intro w8 h8
      have M8 := M7.put 0 rfl h8
      have e68 : Ext w6 w8 := h8.ext_of h7.ext (by rw [h7.new]; exact Nat.le_refl _)
      have web1 : Web w8 g N (toM xs) (reach (toM xs)) := hw.ext ((e35.trans e6).trans e68)
      have web2 : Web w8 g' M (toM ys) (reach (toM ys)) := hw'.ext e68
      refine ⟨_, M8.cell 1 rfl rfl, ?_⟩
      refine ⟨_, web1.n, ?_⟩
      refine ⟨_, M8.cell 0 rfl rfl, ?_⟩
      refine ⟨_, web2.n, ?_⟩
      refine brE_mk (fun hb => ?_) (fun hb => ?_)
      · have hne : N ≠ M := by simpa using hb
        have he : changedE N xs M ys = 1 := by simp [changedE, hv, hv2, hne]
        refine ⟨⟨_, by rw [he], ?_⟩, M8.ext⟩
        rw [changedL, he, if_neg (by decide)]
        exact prs_nil _ _
      · have hne : N = M := by simpa using hb
        subst hne
        have he : changedE N xs N ys = 0 := by simp [changedE, hv, hv2]
        refine ⟨_, M8.cell 1 rfl rfl, ?_⟩
        refine ⟨[], [.pointer (some ⟨g6, 0, none⟩), .pointer (some ⟨g8, 0, none⟩)], rfl, rfl, ?_⟩
        obtain ⟨n, rfl⟩ := Int.eq_ofNat_of_zero_le hok.lo
        have := hok.hi
        refine (pairs_spec (.inr rfl) web1 (by omega) (hs := diffB (reach (toM xs)) (reach (toM ys))) (fun w' e a b ha hb => ?_)).mono ?_
        · exact Changed1_spec (e.heap (M8.get 1 rfl)) (web1.ext e) (e.heap (M8.get 0 rfl)) (web2.ext e) (by omega) (by omega)
        · rintro v w9 ⟨hp, e9⟩
          refine ⟨⟨v, by rw [he], ?_⟩, M8.ext.trans e9⟩
          rw [changedL, if_pos he]
          exact hp.base M8.ext.size
    · refine (open_no (k.ext M5.ext) hv2).mono ?_
      rintro v w6 ⟨rfl, e6⟩
      have M6 := M5.grow e6
      intro g8 w7 h7
      have M7 := M6.alloc h7
      refine ⟨rfl, _, _, M7.get 0 rfl, Nat.le_of_ble_eq_true rfl, rfl, ?_⟩
      intro w8 h8
      have M8 := M7.put 0 rfl h8
      refine ⟨[.int .i64 M, .slice B ys.length d], rfl, M8.rd 2 rfl, ?_⟩
      refine (Check_spec (k.ext M8.ext)).mono ?_
      rintro v w9 ⟨rfl, e9⟩
      have he : changedE N xs M ys = chk M ys := by simp [changedE, hv, hv2]
      refine ⟨⟨_, by rw [he], ?_⟩, M8.ext.trans e9⟩
      rw [changedL, he, if_neg hv2]
      exact prs_nil _ _
  · refine (open_no (h.ext M2.ext) hv).mono ?_
    rintro v w3 ⟨rfl, e3⟩
    have M3 := M2.grow e3
    intro g6 w4 h4
    have M4 := M3.alloc h4
    refine ⟨rfl, _, _, M4.get 0 rfl, Nat.le_of_ble_eq_true rfl, rfl, ?_⟩
    intro w5 h5
    have M5 := M4.put 0 rfl h5
    refine ⟨[.int .i64 N, .slice A xs.length c], rfl, M5.rd 2 rfl, ?_⟩
    refine (Check_spec (h.ext M5.ext)).mono ?_
    rintro v w6 ⟨rfl, e6⟩
    have he : changedE N xs M ys = chk N xs := by simp [changedE, hv]
    refine ⟨⟨_, by rw [he], ?_⟩, M5.ext.trans e6⟩
    rw [changedL, he, if_neg hv]
    exact prs_nil _ _

end Go.Proofs.Ytdfhfehlmonjjaa
