/- Dues: all dues of a state, in order (few of them). -/
import Derived.Test.YtcnbpfecgokhiaaGreatDoorDWl
import Derived.Test.YtcnbpfecgokhiaaGreatDoorDEc
set_option linter.unusedVariables false
set_option linter.unusedSimpArgs false
set_option linter.unnecessarySimpa false
set_option linter.unusedSectionVars false
namespace Go.Proofs.YtcnbpfecgokhiaaGreatDoor
open Go.Eng Go.RowKit
open Go.Maps (Keyed)

theorem rowD_len {B : Nat} {w : World} {A : Option Addr} {n c : Nat} {l : List Due} (h : RowD B w (.slice A n c) l) : n = l.length := by
  obtain ⟨A', c', e, _⟩ := NewL.hl h
  cases e; rfl

theorem stable_small {B : Nat} {w : World} {A : Option Addr} {n c gd : Nat} {cb : Array Value} {lt : Due → Due → Bool} {M : List Due} (ho : RowD B w (.slice A n c) M) (hB : B ≤ w.heap.size) (hn : n < 20) (hgd : C.can gd = true) (hcmp : CmpD gd cb lt) (O : OrdB lt) :
    CallsV C.P 198 #[.slice A n c, .int .i64 (n : Nat), .func (.func gd) #[] cb] w fun _ w' => ∃ M', M'.Perm M ∧ SortedB lt M' ∧ RowD B w' (.slice A n c) M' ∧ Below B w w' := by
  refine callsV_of C_ok (args := [_, _, _]) (plans := []) Tryz.func198 rfl Tryz.ntmps198 (by kernel_rfl) (Nat.le_of_ble_eq_true rfl) ?_
  refine loopE C_ok (fun (_ : Unit) => [(0, .slice A n c), (1, .int .i64 (n : Nat)), (2, .func (.func gd) #[] cb), (6, .int .i64 20), (7, .int .i64 0), (8, .int .i64 20)]) (fun _ w' => w' = w) (fun _ => 0) () ⟨rfl, rfl, rfl, rfl, rfl, rfl, trivial⟩ rfl ?_
  rintro _ w1 rfl
  refine brE_false (decide_eq_false (by show ¬ (20 : Int) ≤ (n : Nat); omega)) ?_
  have hl := rowD_len ho
  refine (insSort_spec (P := []) (M := M) (S := []) (a := 0) (b := n) (by rw [List.nil_append, List.append_nil]; exact ho) hB (by omega) rfl (by omega) hgd hcmp O).mono ?_
  rintro v w2 ⟨M', h1, h2, h3, h4⟩
  rw [List.nil_append, List.append_nil] at h3
  refine loopE C_ok (fun (_ : Unit) => [(1, .int .i64 (n : Nat)), (6, .int .i64 20)]) (fun _ w' => w' = w2) (fun _ => 0) () ⟨rfl, rfl, trivial⟩ rfl ?_
  rintro _ w3 rfl
  refine brE_false (decide_eq_false (by show ¬ (20 : Int) < (n : Nat); omega)) ?_
  exact ⟨M', h1, h2, h3, h4⟩

theorem sortStable_small {B : Nat} {w : World} {A : Option Addr} {n c gd : Nat} {cb : Array Value} {lt : Due → Due → Bool} {M : List Due} (ho : RowD B w (.slice A n c) M) (hB : B ≤ w.heap.size) (hn : n < 20) (hgd : C.can gd = true) (hcmp : CmpD gd cb lt) (O : OrdB lt) :
    CallsV C.P 173 #[.slice A n c, .func (.func gd) #[] cb] w fun _ w' => ∃ M', M'.Perm M ∧ SortedB lt M' ∧ RowD B w' (.slice A n c) M' ∧ Below B w w' := by
  refine callsV_of C_ok (args := [_, _]) (plans := []) Tryz.func173 rfl Tryz.ntmps173 (by kernel_rfl) (Nat.le_of_ble_eq_true rfl) ?_
  exact (stable_small ho hB hn hgd hcmp O).mono fun v w' h => h

/-- A list as a new one, in order, if 'sort' sorts lists as long as it. -/
theorem sortedD_spec {w : World} {A : Option Addr} {n c gd : Nat} {cb : Array Value} {lt : Due → Due → Bool} {l : List Due} (hr : Reads w A (l.flatMap Due.cells)) (hn : n = l.length) (hl : l.length ≤ 2 ^ 20) (hgd : C.can gd = true)
    (sort : ∀ {B : Nat} {w : World} {A : Option Addr} {c : Nat}, RowD B w (.slice A n c) l → B ≤ w.heap.size → CallsV C.P 173 #[.slice A n c, .func (.func gd) #[] cb] w fun _ w' => ∃ M', M'.Perm l ∧ SortedB lt M' ∧ RowD B w' (.slice A n c) M' ∧ Below B w w') :
    CallsV C.P 140 #[.slice A n c, .func (.func gd) #[] cb] w fun v w' => ∃ M', M'.Perm l ∧ SortedB lt M' ∧ RowD w.heap.size w' v M' ∧ Ext w w' := by
  subst hn
  refine callsV_of C_ok (args := [_, _]) (plans := []) Tryz.func140 rfl Tryz.ntmps140 (by kernel_rfl) (Nat.le_of_ble_eq_true rfl) ?_
  refine (CloneD_spec hr hl).mono ?_
  rintro v w1 ⟨h1, e1⟩
  obtain ⟨A1, c1, rfl, _⟩ := NewL.hl h1
  refine (sort h1 e1.size).mono ?_
  rintro v w2 ⟨M', p2, s2, h2, b2⟩
  exact ⟨M', p2, s2, h2, ext_below e1 b2 (Nat.le_refl _)⟩

/-! ### how dues are compared -/
theorem isNaND_spec (a : Int) (w : World) : CallsV C.P 174 #[.int .i64 a] w fun v w' => v = .bool false ∧ w' = w := by
  refine callsV_of C_ok (args := [_]) (plans := []) Tryz.func174 rfl Tryz.ntmps174 (by kernel_rfl) (Nat.le_of_ble_eq_true rfl) ?_
  exact ⟨congrArg _ (show (!decide (a = a)) = false by simp), rfl⟩
def cmpK (a b : Int) : Int := if a < b then -1 else if a > b then 1 else 0
theorem CompareD_spec (a b : Int) (w : World) : CallsV C.P 143 #[.int .i64 a, .int .i64 b] w fun v w' => v = .int .i64 (cmpK a b) ∧ w' = w := by
  refine callsV_of C_ok (args := [_, _]) (plans := []) Tryz.func143 rfl Tryz.ntmps143 (by kernel_rfl) (Nat.le_of_ble_eq_true rfl) ?_
  refine (isNaND_spec a w).mono ?_
  rintro v w1 ⟨rfl, rfl⟩
  refine (isNaND_spec b w1).mono ?_
  rintro v w2 ⟨rfl, rfl⟩
  refine brE_dec (fun c1 => ?_) (fun c1 => ?_)
  · have c1 : a < b := c1
    exact ⟨congrArg _ (by unfold cmpK; rw [if_pos c1]), rfl⟩
  have c1 : ¬ a < b := c1
  refine brE_dec (fun c2 => ?_) (fun c2 => ?_)
  · have c2 : a > b := c2
    exact ⟨congrArg _ (by unfold cmpK; rw [if_neg c1, if_pos c2]), rfl⟩
  · have c2 : ¬ a > b := c2
    exact ⟨congrArg _ (by unfold cmpK; rw [if_neg c1, if_neg c2]), rfl⟩
theorem OrD_spec {w : World} {g : Nat} {a b : Int} (hg : w.heap[g]? = some (.cells #[.int .i64 a, .int .i64 b] 3 (0, 0))) :
    CallsV C.P 142 #[.slice (some ⟨g, 0, none⟩) 2 2] w fun v w' => v = .int .i64 (if a ≠ 0 then a else b) ∧ w' = w := by
  refine callsV_of C_ok (args := [_]) (plans := []) Tryz.func142 rfl Tryz.ntmps142 (by kernel_rfl) (Nat.le_of_ble_eq_true rfl) ?_
  refine loopE C_ok (fun (i : Nat) => [(3, .int .i64 0), (6, .slice (some ⟨g, 0, none⟩) 2 2), (7, .int .i64 2), (8, .int .i64 (i : Nat))]) (fun i w' => w' = w ∧ i ≤ 2 ∧ (0 < i → a = 0) ∧ (1 < i → b = 0)) (fun i => 2 - i) 0 ⟨rfl, rfl, rfl, rfl, trivial⟩ ⟨rfl, by omega, fun h => absurd h (by omega), fun h => absurd h (by omega)⟩ ?_
  rintro i w1 ⟨rfl, hi, h0, h1⟩
  refine brE_dec (fun hlt => ?_) (fun hge => ?_)
  · have hlt : i < 2 := by have : (i : Int) < 2 := hlt; omega
    refine ⟨i, g, 0, rfl, hlt, rfl, ?_⟩
    rcases (show i = 0 ∨ i = 1 by omega) with rfl | rfl
    · refine ⟨.int .i64 a, cell_of_block hg rfl, ?_⟩
      refine brE_ndec (fun c => ?_) (fun c => ?_)
      · have c : ¬ a = 0 := c
        exact ⟨congrArg _ (by rw [if_pos c]), rfl⟩
      · have c : a = 0 := c
        refine ⟨1, rfl, ?_⟩
        exact ⟨1, ⟨rfl, rfl, rfl, rfl, trivial⟩, ⟨rfl, by omega, fun _ => c, fun h => absurd h (by omega)⟩, by decide⟩
    · refine ⟨.int .i64 b, cell_of_block hg rfl, ?_⟩
      refine brE_ndec (fun c => ?_) (fun c => ?_)
      · exact ⟨congrArg _ (by rw [if_neg (fun h => h (h0 (by omega)))]), rfl⟩
      · have c : b = 0 := c
        refine ⟨2, rfl, ?_⟩
        exact ⟨2, ⟨rfl, rfl, rfl, rfl, trivial⟩, ⟨rfl, by omega, fun _ => h0 (by omega), fun _ => c⟩, by decide⟩
  · have hi2 : i = 2 := by have : ¬ (i : Int) < 2 := hge; omega
    exact ⟨congrArg _ (by rw [if_neg (fun h => h (h0 (by omega))), h1 (by omega)]), rfl⟩

theorem cmpDue : CmpD 141 #[] dueLt := by
  intro x y w
  refine callsV_of C_ok (args := [_, _]) (plans := plans141) Tryz.func141 rfl Tryz.ntmps141 (by kernel_rfl) (Nat.le_of_ble_eq_true rfl) ?_
  intro g2 w1 h1
  have M1 := (Mem.start w).alloc h1
  intro g3 w2 h2
  have M2 : Mem w w2 [(g3, .cells y.cells.toArray 74 (0, 0)), (g2, .cells x.cells.toArray 74 (0, 0))] := M1.alloc h2
  refine ⟨_, M2.cell 1 rfl rfl, ?_⟩
  refine ⟨_, M2.cell 0 rfl rfl, ?_⟩
  refine ⟨_, M2.cell 1 rfl rfl, ?_⟩
  refine ⟨_, M2.cell 0 rfl rfl, ?_⟩
  refine (CompareD_spec x.cred y.cred w2).mono ?_
  rintro v w3 ⟨rfl, rfl⟩
  refine ⟨Ext.refl _, ?_⟩
  refine (CompareD_spec x.debt y.debt w3).mono ?_
  rintro v w4 ⟨rfl, rfl⟩
  intro g4 w5 h5
  have M5 := M2.alloc h5
  refine (OrD_spec h5.here).mono ?_
  rintro v w6 ⟨rfl, rfl⟩
  refine ⟨⟨_, rfl, ?_⟩, M5.ext⟩
  unfold cmpK dueLt
  by_cases h1 : x.cred < y.cred
  · rw [if_pos h1, if_pos (by decide), decide_eq_true h1]; simp
  · by_cases h2 : x.cred > y.cred
    · rw [if_neg h1, if_pos h2, if_pos (by decide), decide_eq_false h1, decide_eq_false (by omega)]; simp
    · rw [if_neg h1, if_neg h2, if_neg (fun h => h rfl), decide_eq_false h1, decide_eq_true (by omega : x.cred = y.cred)]
      by_cases h3 : x.debt < y.debt
      · rw [if_pos h3, decide_eq_true h3]; simp
      · rw [if_neg h3, decide_eq_false h3]
        by_cases h4 : x.debt > y.debt
        · rw [if_pos h4]; simp
        · rw [if_neg h4]; simp
theorem ordDue : OrdB dueLt := by
  refine ⟨fun x y h => ?_, fun x y z h1 h2 => ?_⟩
  · rw [dueLt_iff] at h
    cases e : dueLt y x with
    | false => rfl
    | true => rw [dueLt_iff] at e; omega
  · cases e : dueLt z x with
    | false => rfl
    | true =>
      have n1 : ¬ dueLt y x = true := by rw [h1]; decide
      have n2 : ¬ dueLt z y = true := by rw [h2]; decide
      rw [dueLt_iff] at e n1 n2
      omega

/-! ### gone through -/
def unP (p : Value × Value) : Due := match p.1.cells.toList, p.2 with
  | [.int _ a, .int _ b], .int _ c => ⟨a, b, c⟩
  | _, _ => dueZ
theorem unP_dueP (d : Due) : unP (dueP d) = d := rfl
theorem perm_dueP {a b : List Due} (h : (a.map dueP).Perm (b.map dueP)) : a.Perm b := by
  have := h.map unP
  rw [List.map_map, List.map_map] at this
  have e : unP ∘ dueP = id := funext unP_dueP
  rw [e, List.map_id, List.map_id] at this
  exact this

set_option maxRecDepth 100000 in
theorem owed_spec {w : World} {s : SV} {es : List Entry} (h : StateIs w s es) (hA : Acc es) (hl : (dueL es).length ≤ 2 ^ 16)
    (sort : ∀ {B : Nat} {w : World} {A : Option Addr} {n c : Nat} {l : List Due}, l.Perm (dueL es) → RowD B w (.slice A n c) l → B ≤ w.heap.size → CallsV C.P 173 #[.slice A n c, .func (.func 141) #[] #[]] w fun _ w' => ∃ M', M'.Perm l ∧ SortedB dueLt M' ∧ RowD B w' (.slice A n c) M' ∧ Below B w w') :
    CallsV C.P 98 #[.pointer (some ⟨s.gs, 0, none⟩)] w fun v w' => RowD w.heap.size w' v (sortDue (dueL es)) ∧ Ext w w' := by
  refine callsV_of C_ok (args := [_]) (plans := []) Tryz.func98 rfl Tryz.ntmps98 (by kernel_rfl) (Nat.le_of_ble_eq_true rfl) ?_
  refine ⟨_, cell_of_block (i := 3) h.block rfl, ?_⟩
  refine walkStart C_ok h.dues rfl rfl rfl rfl ?_
  intro r w1 e1 hr W1
  have hbl : s.bD < w.heap.size := h.dues.lt
  have hbr : s.bD ≠ r := by omega
  refine loopE C_ok (fun (p : List (Value × Value) × List Due × Value) => [(3, p.2.2), (10, .pointer (some ⟨r, 0, none⟩))])
    (fun p w' => Walks w' s.bD r p.1 ∧ (p.2.1.map dueP ++ p.1).Perm ((dueL es).map dueP) ∧ RowD w.heap.size w' p.2.2 p.2.1 ∧ Ext w w') (fun p => p.1.length) ((dueL es).map dueP, [], .slice none 0 0) ⟨rfl, rfl, trivial⟩
    ⟨W1, List.Perm.refl _, newL_nil, e1⟩ ?_
  rintro ⟨D, acc, v⟩ w2 ⟨W2', hp', ho', e2⟩
  have W2 : Walks w2 s.bD r D := W2'
  have hp : (acc.map dueP ++ D).Perm ((dueL es).map dueP) := hp'
  have ho : RowD w.heap.size w2 v acc := ho'
  clear W2' hp' ho'
  have hal : acc.length + D.length = (dueL es).length := by
    have := hp.length_eq
    rw [List.length_append, List.length_map, List.length_map] at this; exact this
  refine walkNextE C_ok W2 hbr rfl rfl (fun hD => ?_) (fun p D' hpD o' w3 h3 W3 hat => ?_)
  · subst hD
    rw [List.append_nil] at hp
    have hpa := perm_dueP hp
    obtain ⟨A, c, rfl, hhl⟩ := NewL.hl ho
    refine (sortedD_spec hhl.reads rfl (by have := hpa.length_eq; omega) rfl (fun hrow hB => sort hpa hrow hB)).mono ?_
    rintro v w3 ⟨M', p3, s3, h3, e3⟩
    have e : M' = sortDue (dueL es) := sortDue_eq (p3.trans hpa) s3 (acc_ok hA).dues
    rw [← e]
    exact ⟨NewL.base h3 e2.size, e2.trans e3⟩
  · obtain ⟨d, rfl⟩ : ∃ d : Due, p = dueP d := by
      have : p ∈ (dueL es).map dueP := hp.mem_iff.1 (List.mem_append_right _ (hpD.mem_iff.2 (List.mem_cons_self ..)))
      obtain ⟨d, _, rfl⟩ := List.mem_map.1 this
      exact ⟨d, rfl⟩
    have e3 : Ext w w3 := h3.ext_of e2 hr
    have hr2 := W2.lt.2
    have ho3 : RowD w.heap.size w3 v acc := ownsRow_put ho h3 (fun e => by
      obtain ⟨_, cur, hc⟩ := owns_at ho e
      obtain ⟨es', clk, since, seen, c0, _, h2, _⟩ := W2
      rw [h2] at hc; cases hc)
    refine ⟨_, entryQ hat rfl rfl, ?_⟩
    intro g4 w4 h4
    have hnr : g4 ≠ r := fun e => by
      have := W3.lt.2
      rw [h4.new] at e; omega
    have hnb : g4 ≠ s.bD := fun e => by
      have := W3.lt.1
      rw [h4.new] at e; omega
    refine ⟨rfl, _, _, h4.here, Nat.le_of_ble_eq_true rfl, rfl, ?_⟩
    intro w5 h5
    have h5 : Put w4 g4 (.cells #[.int .i64 d.cred, .int .i64 d.debt] 136 (0, 0)) w5 := h5
    have e35 : Ext w3 w5 := h5.ext_of h4.ext (by rw [h4.new]; exact Nat.le_refl _)
    refine ⟨.int .i64 d.cred, cell_of_block h5.here rfl, ?_⟩
    refine ⟨.int .i64 d.debt, cell_of_block h5.here rfl, ?_⟩
    intro g6 w6 h6
    have e36 := e35.trans h6.ext
    have ho6 := ho3.ext e36
    refine ⟨rfl, rfl, rfl, w.heap.size, _, _, d.cells, ho6, Nat.le_trans e3.size e36.size, Nat.le_of_ble_eq_true rfl, rfl, rfl, .inr ⟨g6, 0, rfl, Rd.of_block h6.here⟩, rfl, rfl, by omega, by simp only [maxLen]; omega, ?_⟩
    intro v7 w7 ho7 hg7 hpl
    have W6 : Walks w6 s.bD r D' := W3.keep (e36.block _ W3.lt.1) (e36.block _ W3.lt.2)
    have W7 : Walks w7 s.bD r D' := by
      refine W6.keep (hg7.block _ W6.lt.1 (fun e => ?_)) (hg7.block _ W6.lt.2 (fun e => ?_))
      · obtain ⟨_, cur, hc⟩ := owns_at ho6 e.symm
        obtain ⟨es', clk, since, seen, c0, h1, h2, _⟩ := W6
        rw [h1] at hc; cases hc
      · obtain ⟨_, cur, hc⟩ := owns_at ho6 e.symm
        obtain ⟨es', clk, since, seen, c0, h1, h2, _⟩ := W6
        rw [h2] at hc; cases hc
    refine ⟨(D', acc ++ [d], v7), ⟨rfl, rfl, trivial⟩, ⟨W7, ?_, ?_, app_ext (e3.trans e36) ho6 hg7⟩, ?_⟩
    · show ((acc ++ [d]).map dueP ++ D').Perm _
      rw [List.map_append, List.append_assoc]
      exact (List.Perm.append_left _ hpD.symm).trans hp
    · show RowD w.heap.size w7 v7 (acc ++ [d])
      unfold RowD NewL
      rw [List.length_append, List.flatMap_append]
      simpa using ho7
    · show D'.length < D.length
      rw [hpD.length_eq]; simp

/-- The dues of a ledger, if lists as long as they are sorted. -/
theorem Dues_spec {w : World} {l : LV} {es : List Entry} (h : LedgerIs w l es) (hl : es.length ≤ 2 ^ 16) (day : Int) (hd : (dueL (asOfL es day)).length ≤ 2 ^ 16)
    (sort : ∀ {B : Nat} {w : World} {A : Option Addr} {n c : Nat} {l : List Due}, l.Perm (dueL (asOfL es day)) → RowD B w (.slice A n c) l → B ≤ w.heap.size → CallsV C.P 173 #[.slice A n c, .func (.func 141) #[] #[]] w fun _ w' => ∃ M', M'.Perm l ∧ SortedB dueLt M' ∧ RowD B w' (.slice A n c) M' ∧ Below B w w') :
    CallsV C.P 47 #[l.ptr, .int .i64 day] w fun v w' => RowD w.heap.size w' v (duesAt es day) ∧ Ext w w' := by
  refine callsV_of C_ok (args := [_, _]) (plans := []) Tryz.func47 rfl Tryz.ntmps47 (by kernel_rfl) (Nat.le_of_ble_eq_true rfl) ?_
  refine (asOf_spec h hl day).mono ?_
  rintro v w1 ⟨s, rfl, hs⟩
  refine (owed_spec hs.is (acc_asOf h.acc day) hd sort).mono ?_
  rintro v w2 ⟨h2, e2⟩
  exact ⟨NewL.base h2 hs.ext.size, hs.ext.trans e2⟩
theorem Dues_small {w : World} {l : LV} {es : List Entry} (h : LedgerIs w l es) (hl : es.length ≤ 2 ^ 16) (day : Int) (hd : (dueL (asOfL es day)).length < 20) :
    CallsV C.P 47 #[l.ptr, .int .i64 day] w fun v w' => RowD w.heap.size w' v (duesAt es day) ∧ Ext w w' :=
  Dues_spec h hl day (by omega) fun hp hrow hB => sortStable_small hrow hB (by have := rowD_len hrow; have := hp.length_eq; omega) rfl cmpDue ordDue

end Go.Proofs.YtcnbpfecgokhiaaGreatDoor
