/- Proved: for every list of facts, operation, guests, two states and day the law DuesNil returns true, and its arguments read behind the call as they did before; what the library's variables hold is tied to the program's text. No further condition. -/
import Derived.Test.YtcnbpfecgokhiaaGreatDoorDYc
import Derived.Test.YtcnbpfecgokhiaaGreatDoorDTc
import Derived.Test.YtcnbpfecgokhiaaGreatDoorDKa
set_option linter.unusedVariables false
set_option linter.unusedSimpArgs false
set_option linter.unnecessarySimpa false
set_option linter.unusedSectionVars false
namespace Go.Proofs.YtcnbpfecgokhiaaGreatDoor
open Go.Eng Go.RowKit
open Go.Maps (Keyed)

theorem asOf_nil (w : World) (day : Int) : CallsV C.P 79 #[.pointer none, .int .i64 day] w fun v w' => ∃ s : SV, v = .pointer (some ⟨s.gs, 0, none⟩) ∧ StNew w w' s [] := by
  refine callsV_of C_ok (args := [_, _]) (plans := []) Tryz.func79 rfl Tryz.ntmps79 (by kernel_rfl) (Nat.le_of_ble_eq_true rfl) ?_
  refine (newState_spec w).mono ?_
  rintro v w1 ⟨⟨s0, rfl, hs0, hn0⟩, e1⟩
  refine ⟨_, eqNilP _ _ _, ?_⟩
  exact ⟨s0, rfl, hs0, hn0, e1⟩
theorem Day_nil (w : World) : CallsV C.P 20 #[.pointer none] w fun v w' => (∃ n : Int, v = .int .i64 n ∧ n = 0) ∧ w' = w := by
  refine callsV_of C_ok (args := [_]) (plans := plans20) Tryz.func20 rfl Tryz.ntmps20 (by kernel_rfl) (Nat.le_of_ble_eq_true rfl) ?_
  refine ⟨_, eqNilP _ _ _, ?_⟩
  exact ⟨⟨0, rfl, rfl⟩, rfl⟩
theorem Entries_nil (w : World) : CallsV C.P 23 #[.pointer none] w fun v w' => NewL Entry.cells 39 24 w.heap.size w' v [] ∧ Ext w w' := by
  refine callsV_of C_ok (args := [_]) (plans := []) Tryz.func23 rfl Tryz.ntmps23 (by kernel_rfl) (Nat.le_of_ble_eq_true rfl) ?_
  refine ⟨_, eqNilP _ _ _, ?_⟩
  exact ⟨newL_nil, Ext.refl _⟩
theorem Sight_nil (w : World) (st day : Int) : CallsV C.P 44 #[.pointer none, .int .i64 st, .int .i64 day] w fun v w' => NewL Sight.cells 142 6 w.heap.size w' v [] ∧ Ext w w' := by
  refine callsV_of C_ok (args := [_, _, _]) (plans := plans44) Tryz.func44 rfl Tryz.ntmps44 (by kernel_rfl) (Nat.le_of_ble_eq_true rfl) ?_
  refine ⟨_, eqNilP _ _ _, ?_⟩
  exact ⟨newL_nil, Ext.refl _⟩
theorem Waivers_nil {w : World} (day : Int) :
    CallsV C.P 28 #[.pointer none, .int .i64 day] w fun v w' => NewL Waiv.cells 35 9 w.heap.size w' v [] ∧ Ext w w' := by
  refine callsV_of C_ok (args := [_, _]) (plans := []) Tryz.func28 rfl Tryz.ntmps28 (by kernel_rfl) (Nat.le_of_ble_eq_true rfl) ?_
  intro g3 w1 h1
  have M1 : Mem w w1 [(g3, .cells #[.int .i64 day] 3 (0, 0))] := (Mem.start w).alloc h1
  refine ⟨_, M1.cell 0 rfl rfl, ?_⟩
  refine (asOf_nil w1 day).mono ?_
  rintro v w2 ⟨s, rfl, hs⟩
  refine ⟨s.vW, cell_of_block (i := 2) hs.is.block rfl, ?_⟩
  refine ⟨[], [.pointer (some ⟨g3, 0, none⟩)], rfl, rfl, ?_⟩
  have hg3 := lt_of_heap (M1.get 0 rfl)
  refine (DeleteFuncW_spec hs.waivs hs.ext.size (by decide) rfl (p := fun x => !forceB day x) fun x w' hb => off_spec (below_heap hb hg3 (hs.ext.heap (M1.get 0 rfl))) x).mono ?_
  rintro v w3 ⟨h3, b3⟩
  exact ⟨NewL.base h3 M1.ext.size, ext_below (M1.ext.trans hs.ext) b3 M1.ext.size⟩

theorem Gifts_nil {w : World} (st day : Int) :
    CallsV C.P 30 #[.pointer none, .int .i64 st, .int .i64 day] w fun v w' => NewL Gift.cells 37 10 w.heap.size w' v [] ∧ Ext w w' := by
  refine callsV_of C_ok (args := [_, _, _]) (plans := []) Tryz.func30 rfl Tryz.ntmps30 (by kernel_rfl) (Nat.le_of_ble_eq_true rfl) ?_
  intro g3 w1 h1
  have M1 : Mem w w1 [(g3, .cells #[.int .i64 st] 3 (0, 0))] := (Mem.start w).alloc h1
  refine (asOf_nil w1 day).mono ?_
  rintro v w2 ⟨s, rfl, hs⟩
  refine ⟨s.vG, cell_of_block (i := 4) hs.is.block rfl, ?_⟩
  refine ⟨[], [.pointer (some ⟨g3, 0, none⟩)], rfl, rfl, ?_⟩
  have hg3 := lt_of_heap (M1.get 0 rfl)
  refine (DeleteFuncG_spec hs.gifts hs.ext.size (by decide) rfl (p := fun x => !(decide (x.frm = st) || decide (x.to = st))) fun x w' hb => notSides_spec (below_heap hb hg3 (hs.ext.heap (M1.get 0 rfl))) x).mono ?_
  rintro v w3 ⟨h3, b3⟩
  exact ⟨NewL.base h3 M1.ext.size, ext_below (M1.ext.trans hs.ext) b3 M1.ext.size⟩

theorem Overdue_nil {w : World} (day : Int) :
    CallsV C.P 57 #[.pointer none, .int .i64 day] w fun v w' => NewL Gift.cells 37 10 w.heap.size w' v [] ∧ Ext w w' := by
  refine callsV_of C_ok (args := [_, _]) (plans := []) Tryz.func57 rfl Tryz.ntmps57 (by kernel_rfl) (Nat.le_of_ble_eq_true rfl) ?_
  intro g3 w1 h1
  have M1 : Mem w w1 [(g3, .cells #[.int .i64 day] 3 (0, 0))] := (Mem.start w).alloc h1
  refine ⟨_, M1.cell 0 rfl rfl, ?_⟩
  refine (asOf_nil w1 day).mono ?_
  rintro v w2 ⟨s, rfl, hs⟩
  refine ⟨s.vG, cell_of_block (i := 4) hs.is.block rfl, ?_⟩
  refine ⟨[], [.pointer (some ⟨g3, 0, none⟩)], rfl, rfl, ?_⟩
  have hg3 := lt_of_heap (M1.get 0 rfl)
  refine (DeleteFuncG_spec hs.gifts hs.ext.size (by decide) rfl (p := lateB day) fun x w' hb => notDue_spec (below_heap hb hg3 (hs.ext.heap (M1.get 0 rfl))) x).mono ?_
  rintro v w3 ⟨h3, b3⟩
  exact ⟨NewL.base h3 M1.ext.size, ext_below (M1.ext.trans hs.ext) b3 M1.ext.size⟩

theorem Covers_nil {w : World} (u o : Guest) (day : Int) :
    CallsV C.P 35 #[.pointer none, u.val, o.val, .int .i64 day] w fun v w' => v = .bool false ∧ Ext w w' := by
  refine callsV_of C_ok (args := [_, _, _, _]) (plans := []) Tryz.func35 rfl Tryz.ntmps35 (by kernel_rfl) (Nat.le_of_ble_eq_true rfl) ?_
  intro g5 w1 h1
  have M1 := (Mem.start w).alloc h1
  intro g6 w2 h2
  have M2 : Mem w w2 [(g6, .cells o.cells.toArray 70 (0, 0)), (g5, .cells u.cells.toArray 70 (0, 0))] := M1.alloc h2
  refine (Waivers_nil (w := w2) day).mono ?_
  rintro v w3 ⟨h3, e3⟩
  obtain ⟨A, c, rfl, hr⟩ := h3.hl
  refine ⟨[], [.pointer (some ⟨g5, 0, none⟩), .pointer (some ⟨g6, 0, none⟩)], rfl, rfl, ?_⟩
  refine (ContainsFuncW_spec hr.reads (by decide) rfl (p := fun x => coversB x u o) fun x w' e => coverOf_spec ((e3.trans e).heap (M2.get 1 rfl)) ((e3.trans e).heap (M2.get 0 rfl)) x).mono ?_
  rintro v w4 ⟨rfl, e4⟩
  exact ⟨rfl, M2.ext.trans (e3.trans e4)⟩

set_option maxRecDepth 100000 in
theorem Pairs_nil {w : World} {A : Option Addr} {g : List Guest} {c : Nat} (hg : HL Guest.cells w A g c) (day : Int) :
    CallsV C.P 32 #[.pointer none, .slice A g.length c, .int .i64 day] w fun v w' => NewL IPair.cells 67 2 w.heap.size w' v (if g.length > 24 then [] else pairsL [] g) ∧ Ext w w' := by
  have hcap := hg.cap
  refine callsV_of C_ok (args := [_, _, _]) (plans := []) Tryz.func32 rfl Tryz.ntmps32 (by kernel_rfl) (Nat.le_of_ble_eq_true rfl) ?_
  intro g4 w1 h1
  have M1 : Mem w w1 [(g4, .cells #[.slice A g.length c] 61 (0, 0))] := (Mem.start w).alloc h1
  refine ⟨_, M1.cell 0 rfl rfl, ?_⟩
  refine brE_dec (fun b1 => ?_) (fun b1 => ?_)
  · have b1 : (g.length : Int) > 24 := b1
    have e : (if g.length > 24 then [] else pairsL ([] : List Waiv) g) = [] := if_pos (by omega)
    rw [e]
    exact ⟨newL_nil, M1.ext⟩
  have b1 : ¬ (g.length : Int) > 24 := b1
  have hgl : g.length ≤ 24 := by omega
  have e : (if g.length > 24 then [] else pairsL ([] : List Waiv) g) = pairsTo ([] : List Waiv) g g.length := if_neg (by omega)
  rw [e]
  refine (Waivers_nil (w := w1) day).mono ?_
  rintro v w2 ⟨h2, e2⟩
  obtain ⟨A2, c2, rfl, hr2⟩ := h2.hl
  have M2 := M1.grow e2
  generalize hws : ([] : List Waiv) = ws at h2 hr2 ⊢
  have hwl : ws.length = 0 := by rw [← hws]; rfl
  refine ⟨_, M2.cell 0 rfl rfl, ?_⟩
  refine loopE C_ok (fun (p : Nat × Value) => [(4, .pointer (some ⟨g4, 0, none⟩)), (7, .slice A2 ws.length c2), (8, p.2), (18, .int .i64 g.length), (19, .int .i64 p.1)])
    (fun p w' => p.1 ≤ g.length ∧ NewL IPair.cells 67 2 w.heap.size w' p.2 (pairsTo ws g p.1) ∧ Ext w w' ∧ Only 67 w2 w') (fun p => g.length - p.1) (0, .slice none 0 0) ⟨rfl, rfl, rfl, rfl, rfl, trivial⟩
    ⟨Nat.zero_le _, newL_nil, M2.ext, only_ext _ (Ext.refl _)⟩ ?_
  rintro ⟨i, v⟩ w3 ⟨hi', ho', e3, o23⟩
  have hi : i ≤ g.length := hi'
  have ho : NewL IPair.cells 67 2 w.heap.size w3 v (pairsTo ws g i) := ho'
  clear hi' ho'
  refine brE_dec (fun hlt => ?_) (fun hge => ?_)
  · have hlt : i < g.length := by have : (i : Int) < (g.length : Nat) := hlt; omega
    intro g9 w4 h4
    refine ⟨rfl, _, _, h4.here, Nat.le_of_ble_eq_true rfl, rfl, ?_⟩
    intro w5 h5
    have h5 : Put w4 g9 (.cells #[.int .i64 (i : Nat)] 3 (0, 0)) w5 := h5
    have e35 : Ext w3 w5 := h5.ext_of h4.ext (by rw [h4.new]; exact Nat.le_refl _)
    have o25 := only_trans o23 (only_ext _ e35)
    refine ⟨_, cell_of_block (o25 _ _ _ _ (M2.get 0 rfl) (by decide)) rfl, ?_⟩
    have plen := pairsTo_len ws g i
    have pl : (pairsTo ws g i).length ≤ 24 * 24 := Nat.le_trans plen (Nat.mul_le_mul (by omega) hgl)
    refine loopE C_ok (fun (p : Nat × Value) => [(4, .pointer (some ⟨g4, 0, none⟩)), (7, .slice A2 ws.length c2), (8, p.2), (9, .pointer (some ⟨g9, 0, none⟩)), (18, .int .i64 g.length), (19, .int .i64 i), (23, .int .i64 g.length), (24, .int .i64 p.1)])
      (fun p w' => p.1 ≤ g.length ∧ NewL IPair.cells 67 2 w.heap.size w' p.2 (pairsTo ws g i ++ rowTo ws g i p.1) ∧ Ext w w' ∧ Only 67 w5 w') (fun p => g.length - p.1) (0, v) ⟨rfl, rfl, rfl, rfl, rfl, rfl, rfl, rfl, trivial⟩
      ⟨Nat.zero_le _, by show NewL _ _ _ _ _ _ (pairsTo ws g i ++ []); rw [List.append_nil]; exact ho.ext e35, e3.trans e35, only_ext _ (Ext.refl _)⟩ ?_
    rintro ⟨j, u⟩ w6 ⟨hj', ho', e6, o56⟩
    have hj : j ≤ g.length := hj'
    have ho6 : NewL IPair.cells 67 2 w.heap.size w6 u (pairsTo ws g i ++ rowTo ws g i j) := ho'
    clear hj' ho'
    refine brE_dec (fun hlt2 => ?_) (fun hge2 => ?_)
    · have hlt2 : j < g.length := by have : (j : Int) < (g.length : Nat) := hlt2; omega
      intro g10 w7 h7
      refine ⟨rfl, _, _, h7.here, Nat.le_of_ble_eq_true rfl, rfl, ?_⟩
      intro w8 h8
      have h8 : Put w7 g10 (.cells #[.int .i64 (j : Nat)] 3 (0, 0)) w8 := h8
      have e68 : Ext w6 w8 := h8.ext_of h7.ext (by rw [h7.new]; exact Nat.le_refl _)
      have o58 := only_trans o56 (only_ext _ e68)
      have o28 := only_trans o25 o58
      refine ⟨[], [.pointer (some ⟨g4, 0, none⟩), .pointer (some ⟨g9, 0, none⟩), .pointer (some ⟨g10, 0, none⟩)], rfl, rfl, ?_⟩
      refine (ContainsFuncW_spec (newL_only h2 o28 (by decide)) (by omega) rfl (p := fun x => coversB x (g.getD i guestZ) (g.getD j guestZ)) fun x w' e => coverAt_spec (hg.ext ((e6.trans e68).trans e)) (e.heap (o28 _ _ _ _ (M2.get 0 rfl) (by decide))) (e.heap (o58 _ _ _ _ h5.here (by decide))) (e.heap h8.here) hlt hlt2 x).mono ?_
      rintro v w9 ⟨rfl, e89⟩
      have e69 := e68.trans e89
      have rlen := rowTo_len ws g i j
      have next : IntKind.i64.wrap ((j : Int) + 1) = ((j + 1 : Nat) : Int) := fit ⟨by omega, by omega⟩
      refine brE_mk (fun hc => ?_) (fun hc => ?_)
      · refine ⟨.int .i64 (i : Nat), cell_of_block (e89.heap (o58 _ _ _ _ h5.here (by decide))) rfl, ?_⟩
        refine ⟨.int .i64 (j : Nat), cell_of_block (e89.heap h8.here) rfl, ?_⟩
        intro g11 w10 h10
        refine ⟨rfl, rfl, rfl, w.heap.size, _, _, (IPair.mk (i : Nat) (j : Nat)).cells, (ho6.ext e69).ext h10.ext, Nat.le_trans e6.size (Nat.le_trans e69.size h10.ext.size), Nat.le_of_ble_eq_true rfl, rfl, rfl, .inr ⟨g11, 0, rfl, Rd.of_block h10.here⟩, rfl, rfl, by rw [List.length_append]; omega, by rw [List.length_append]; simp only [maxLen]; omega, ?_⟩
        intro v' w11 ho11 hg11 hpl
        refine ⟨_, next, ?_⟩
        have ho10 := (ho6.ext e69).ext h10.ext
        have e10 := (e6.trans e69).trans h10.ext
        refine ⟨(j + 1, v'), ⟨rfl, rfl, rfl, rfl, rfl, rfl, rfl, rfl, trivial⟩, ⟨hlt2, ?_, app_ext e10 ho10 hg11, only_trans o56 (only_trans (only_ext _ (e69.trans h10.ext)) (only_app ho10 hg11))⟩, by show g.length - (j + 1) < g.length - j; omega⟩
        have hcc : ws.any (fun w => coversB w (g.getD i guestZ) (g.getD j guestZ)) = true := hc
        show NewL _ _ _ _ _ _ (pairsTo ws g i ++ rowTo ws g i (j + 1))
        rw [rowTo_succ, hcc, if_pos rfl, ← List.append_assoc]
        generalize pairsTo ws g i ++ rowTo ws g i j = P at ho11 ⊢
        unfold NewL
        rw [List.flatMap_append, List.length_append]
        have : ([⟨(i : Int), (j : Int)⟩] : List IPair).flatMap IPair.cells = (IPair.mk (i : Nat) (j : Nat)).cells := rfl
        rw [this]
        exact ho11
      · refine ⟨_, next, ?_⟩
        refine ⟨(j + 1, u), ⟨rfl, rfl, rfl, rfl, rfl, rfl, rfl, rfl, trivial⟩, ⟨hlt2, ?_, e6.trans e69, only_trans o56 (only_ext _ e69)⟩, by show g.length - (j + 1) < g.length - j; omega⟩
        have hcc : ws.any (fun w => coversB w (g.getD i guestZ) (g.getD j guestZ)) = false := hc
        show NewL _ _ _ _ _ _ (pairsTo ws g i ++ rowTo ws g i (j + 1))
        rw [rowTo_succ, hcc, if_neg (by decide), List.append_nil]
        exact ho6.ext e69
    · have hj : j = g.length := by have : ¬ (j : Int) < (g.length : Nat) := hge2; omega
      refine ⟨((i + 1 : Nat) : Int), fit ⟨by omega, by omega⟩, ?_⟩
      refine ⟨(i + 1, u), ⟨rfl, rfl, rfl, rfl, rfl, trivial⟩, ⟨hlt, ?_, e6, only_trans o25 o56⟩, by show g.length - (i + 1) < g.length - i; omega⟩
      show NewL _ _ _ _ _ _ (pairsTo ws g (i + 1))
      rw [pairsTo_succ, ← hj]
      exact ho6
  · have hi : i = g.length := by have : ¬ (i : Int) < (g.length : Nat) := hge; omega
    rw [hi] at ho
    exact ⟨ho, e3⟩

theorem pairsL_nil (g : List Guest) : (if g.length > 24 then [] else pairsL [] g) = [] := by
  split
  · rfl
  · unfold pairsL rowPairs
    simp
theorem Dues_nil (w : World) (day : Int) : CallsV C.P 47 #[.pointer none, .int .i64 day] w fun v w' => RowD w.heap.size w' v [] ∧ Ext w w' := by
  refine callsV_of C_ok (args := [_, _]) (plans := []) Tryz.func47 rfl Tryz.ntmps47 (by kernel_rfl) (Nat.le_of_ble_eq_true rfl) ?_
  refine (asOf_nil w day).mono ?_
  rintro v w1 ⟨s, rfl, hs⟩
  refine (owed_spec hs.is Acc.nil (by decide) fun hp hrow hB => sortStable_small hrow hB (by have := rowD_len hrow; have := hp.length_eq; have h0 : (dueL []).length = 0 := rfl; omega) rfl cmpDue ordDue).mono ?_
  rintro v w2 ⟨h2, e2⟩
  exact ⟨NewL.base h2 hs.ext.size, hs.ext.trans e2⟩
theorem Owes_nil (w : World) {debt cred : Int} (hd : In64 debt) (hc : In64 cred) (day : Int) :
    CallsV C.P 37 #[.pointer none, .int .i64 debt, .int .i64 cred, .int .i64 day] w fun v w' => v = .tuple #[dueZ.val, .bool false] ∧ Ext w w' := by
  refine callsV_of C_ok (args := [_, _, _, _]) (plans := []) Tryz.func37 rfl Tryz.ntmps37 (by kernel_rfl) (Nat.le_of_ble_eq_true rfl) ?_
  intro g8 w1 h1
  have M1 := (Mem.start w).alloc h1
  refine (asOf_nil w1 day).mono ?_
  rintro v w2 ⟨s, rfl, hs⟩
  have M2 := M1.grow hs.ext
  refine ⟨_, cell_of_block (i := 3) hs.is.block rfl, ?_⟩
  refine ⟨.tuple #[.int .i64 0, .bool false], mapLGet C_ok (te := ty3) (x := sidesV cred debt) (sidesKey hc hd) hs.is.dues sidesK rfl rfl rfl rfl rfl rfl (.inr ⟨rfl, rfl, fun u hu => by cases hu⟩), ?_⟩
  refine ⟨rfl, _, _, M2.get 0 rfl, Nat.le_of_ble_eq_true rfl, rfl, ?_⟩
  intro w3 h3
  have M3 : Mem w w3 [(g8, .cells dueZ.cells.toArray 74 (0, 0))] := M2.put 0 rfl h3
  refine ⟨dueZ.cells, rfl, M3.rd 0 rfl, ?_⟩
  exact ⟨rfl, M3.ext⟩
theorem Debt_nil (w : World) (frm to day : Int) : CallsV C.P 31 #[.pointer none, .int .i64 frm, .int .i64 to, .int .i64 day] w fun v w' => (∃ n : Int, v = .int .i64 n ∧ n = 0) ∧ Ext w w' := by
  refine callsV_of C_ok (args := [_, _, _, _]) (plans := plans31) Tryz.func31 rfl Tryz.ntmps31 (by kernel_rfl) (Nat.le_of_ble_eq_true rfl) ?_
  refine (asOf_nil w day).mono ?_
  rintro v w1 ⟨s, rfl, hs⟩
  obtain ⟨A, c, hv, hr, _⟩ := reads_of_owns hs.is.gifts
  generalize hn : (giftL []).length = n at hv
  have hn0 : n = 0 := by rw [← hn]; rfl
  refine ⟨.slice A n c, cell_of_block (i := 4) hs.is.block (by show some s.vG = _; rw [hv]), ?_⟩
  refine loopE C_ok (fun (_ : Unit) => [(10, .int .i64 0), (20, .int .i64 (n : Nat)), (21, .int .i64 0)]) (fun _ w' => w' = w1) (fun _ => 0) () ⟨rfl, rfl, rfl, trivial⟩ rfl ?_
  rintro _ w2 rfl
  refine brE_false (decide_eq_false (by show ¬ (0 : Int) < (n : Nat); omega)) ?_
  exact ⟨⟨0, rfl, rfl⟩, hs.ext⟩

theorem begin_nil (x : Entry) (w : World) : CallsV C.P 122 #[.pointer none, x.val] w fun v w' => (∃ e : Int, v = .int .i64 e ∧ e = 3) ∧ Ext w w' := by
  refine callsV_of C_ok (args := [_, _]) (plans := plans122) Tryz.func122 rfl Tryz.ntmps122 (by kernel_rfl) (Nat.le_of_ble_eq_true rfl) ?_
  intro g1 w1 h1
  refine ⟨_, eqNilP _ _ _, ?_⟩
  exact ⟨⟨3, rfl, rfl⟩, h1.ext⟩
theorem Do_nil (x : Entry) (fv : Value) (w : World) : CallsV C.P 71 #[.pointer none, fv, x.val] w fun v w' => (∃ e : Int, v = .int .i64 e ∧ e = 3) ∧ Ext w w' := by
  refine callsV_of C_ok (args := [_, _, _]) (plans := plans71) Tryz.func71 rfl Tryz.ntmps71 (by kernel_rfl) (Nat.le_of_ble_eq_true rfl) ?_
  intro g1 w1 h1
  have M1 : Mem w w1 [(g1, .cells x.cells.toArray 39 (0, 0))] := (Mem.start w).alloc h1
  refine ⟨x.cells, rfl, M1.rd 0 rfl, ?_⟩
  refine (begin_nil x w1).mono ?_
  rintro v w2 ⟨⟨e, rfl, he⟩, e2⟩
  refine brE_ndec (fun _ => ?_) (fun h => absurd (show e = 0 from h) (by omega))
  exact ⟨⟨e, rfl, he⟩, M1.ext.trans e2⟩
theorem SetRate_nil {day c n : Int} (hc : 0 ≤ c ∧ c ≤ 255) (w : World) : CallsV C.P 65 #[.pointer none, .int .i64 day, .int .u8 c, .int .i64 n] w fun v w' => (∃ e : Int, v = .int .i64 e ∧ e = 3) ∧ Ext w w' := by
  refine callsV_of C_ok (args := [_, _, _, _]) (plans := []) Tryz.func65 rfl Tryz.ntmps65 (by kernel_rfl) (Nat.le_of_ble_eq_true rfl) ?_
  refine ⟨c, fit ⟨by omega, by omega⟩, ?_⟩
  exact (Do_nil (rateE day c n) _ w).mono fun v w' hv => hv
theorem SetCeiling_nil {day s n : Int} (w : World) : CallsV C.P 69 #[.pointer none, .int .i64 day, .int .i64 s, .int .i64 n] w fun v w' => (∃ e : Int, v = .int .i64 e ∧ e = 3) ∧ Ext w w' := by
  refine callsV_of C_ok (args := [_, _, _, _]) (plans := []) Tryz.func69 rfl Tryz.ntmps69 (by kernel_rfl) (Nat.le_of_ble_eq_true rfl) ?_
  exact (Do_nil (ceilE day s n) _ w).mono fun v w' hv => hv
theorem End_nil {day i : Int} (w : World) : CallsV C.P 29 #[.pointer none, .int .i64 day, .int .i64 i] w fun v w' => (∃ e : Int, v = .int .i64 e ∧ e = 3) ∧ Ext w w' := by
  refine callsV_of C_ok (args := [_, _, _]) (plans := []) Tryz.func29 rfl Tryz.ntmps29 (by kernel_rfl) (Nat.le_of_ble_eq_true rfl) ?_
  exact (Do_nil (endE day i) _ w).mono fun v w' hv => hv
theorem Take_nil {day i : Int} (w : World) : CallsV C.P 67 #[.pointer none, .int .i64 day, .int .i64 i] w fun v w' => (∃ e : Int, v = .int .i64 e ∧ e = 3) ∧ Ext w w' := by
  refine callsV_of C_ok (args := [_, _, _]) (plans := []) Tryz.func67 rfl Tryz.ntmps67 (by kernel_rfl) (Nat.le_of_ble_eq_true rfl) ?_
  exact (Do_nil (takeE day i) _ w).mono fun v w' hv => hv
theorem Refuse_nil {day i : Int} (w : World) : CallsV C.P 70 #[.pointer none, .int .i64 day, .int .i64 i] w fun v w' => (∃ e : Int, v = .int .i64 e ∧ e = 3) ∧ Ext w w' := by
  refine callsV_of C_ok (args := [_, _, _]) (plans := []) Tryz.func70 rfl Tryz.ntmps70 (by kernel_rfl) (Nat.le_of_ble_eq_true rfl) ?_
  exact (Do_nil (refuseE day i) _ w).mono fun v w' hv => hv
theorem next_nil {f1 f2 : Value} {g2 : Nat} {c2 : Array Value} (w : World) : CallsV C.P 87 #[.pointer none, f1, f2, .int .i64 500, .func (.func g2) #[] c2] w fun v w' => (∃ n e : Int, v = .tuple #[.int .i64 n, .int .i64 e] ∧ n = 0 ∧ e = 3) ∧ Ext w w' := by
  refine callsV_of C_ok (args := [_, _, _, _, _]) (plans := []) Tryz.func87 rfl Tryz.ntmps87 (by kernel_rfl) (Nat.le_of_ble_eq_true rfl) ?_
  intro g9 w1 h1
  refine ⟨_, eqNilP _ _ _, ?_⟩
  exact ⟨⟨0, 3, rfl, rfl, rfl⟩, h1.ext⟩
theorem Grant_nil (x : Waiv) (fv : Value) (w : World) : CallsV C.P 33 #[.pointer none, fv, x.val] w fun v w' => (∃ n e : Int, v = .tuple #[.int .i64 n, .int .i64 e] ∧ n = 0 ∧ e = 3) ∧ Ext w w' := by
  refine callsV_of C_ok (args := [_, _, _]) (plans := []) Tryz.func33 rfl Tryz.ntmps33 (by kernel_rfl) (Nat.le_of_ble_eq_true rfl) ?_
  intro g3 w1 h1
  have M1 : Mem w w1 [(g3, .cells #[.pointer none] 26 (0, 0))] := (Mem.start w).alloc h1
  intro g5 w2 h2
  have M2 := M1.alloc h2
  refine ⟨.pointer none, M2.cell 1 rfl rfl, ?_⟩
  refine ⟨[], [.pointer (some ⟨g3, 0, none⟩)], rfl, rfl, ?_⟩
  refine ⟨[], [.pointer (some ⟨g5, 0, none⟩)], rfl, rfl, ?_⟩
  refine (next_nil w2).mono ?_
  rintro v w3 ⟨⟨n, e, rfl, hn, he⟩, e3⟩
  exact ⟨⟨n, e, rfl, hn, he⟩, M2.ext.trans e3⟩
theorem Offer_nil {day frm to cur n ret : Int} (w : World) : CallsV C.P 66 #[.pointer none, .int .i64 day, .int .i64 frm, .int .i64 to, .int .u8 cur, .int .i64 n, .int .i64 ret] w fun v w' => (∃ n e : Int, v = .tuple #[.int .i64 n, .int .i64 e] ∧ n = 0 ∧ e = 3) ∧ Ext w w' := by
  refine callsV_of C_ok (args := [_, _, _, _, _, _, _]) (plans := []) Tryz.func66 rfl Tryz.ntmps66 (by kernel_rfl) (Nat.le_of_ble_eq_true rfl) ?_
  intro g7 w1 a1
  have M1 : Mem w w1 [(g7, .cells #[.pointer none] 26 (0, 0))] := (Mem.start w).alloc a1
  intro g8 w2 a2
  have M2 := M1.alloc a2
  intro g9 w3 a3
  have M3 := M2.alloc a3
  intro g10 w4 a4
  have M4 := M3.alloc a4
  intro g11 w5 a5
  have M5 := M4.alloc a5
  intro g12 w6 a6
  have M6 := M5.alloc a6
  intro g13 w7 a7
  have M := M6.alloc a7
  refine ⟨.pointer none, M.cell 6 rfl rfl, ?_⟩
  refine ⟨[], [.pointer (some ⟨g7, 0, none⟩)], rfl, rfl, ?_⟩
  refine ⟨[], [.pointer (some ⟨g8, 0, none⟩), .pointer (some ⟨g9, 0, none⟩), .pointer (some ⟨g10, 0, none⟩), .pointer (some ⟨g11, 0, none⟩), .pointer (some ⟨g12, 0, none⟩), .pointer (some ⟨g13, 0, none⟩)], rfl, rfl, ?_⟩
  refine (next_nil w7).mono ?_
  rintro v w8 ⟨⟨n, e, rfl, hn, he⟩, e3⟩
  exact ⟨⟨n, e, rfl, hn, he⟩, M.ext.trans e3⟩
set_option maxRecDepth 100000 in
theorem did_nil {w : World} (fv : Value) {o : Opn} (ho : o.Nums) : CallsV C.P 18 #[.pointer none, fv, o.val] w fun v w' => (∃ n e : Int, v = .tuple #[.int .i64 n, .int .i64 e] ∧ n = 0 ∧ e = 3) ∧ Ext w w' := by
  have hx := ho.x
  refine callsV_of C_ok (args := [_, _, _]) (plans := []) Tryz.func18 rfl Tryz.ntmps18 (by kernel_rfl) (Nat.le_of_ble_eq_true rfl) ?_
  intro g5 w1 h1
  have M1 : Mem w w1 [(g5, .cells o.cells.toArray 41 (0, 0))] := (Mem.start w).alloc h1
  refine ⟨o.x.cells, rfl, (M1.rd 0 rfl).part o.x_part, ?_⟩
  intro g8 w2 h2
  have M2 := M1.alloc h2
  refine ⟨rfl, _, _, M2.get 0 rfl, Nat.le_of_ble_eq_true rfl, rfl, ?_⟩
  intro w3 h3
  have M : Mem w w3 [(g8, .cells o.x.cells.toArray 39 (0, 0)), (g5, .cells o.cells.toArray 41 (0, 0))] := M2.put 0 rfl h3
  clear M1 M2 h1 h2 h3
  refine ⟨_, M.cell 1 rfl rfl, ?_⟩
  refine ⟨by decide, opK o, by unfold opK; exact Int.tmod_eq_emod_of_nonneg ho.kind.1, ?_⟩
  refine brE_dec (fun k1 => ?_) (fun k1 => ?_)
  · have k1 : opK o = 1 := k1
    refine ⟨o.x.w.cells, rfl, (M.rd 0 rfl).part o.x.w_part, ?_⟩
    refine (Grant_nil o.x.w fv w3).mono ?_
    rintro v w' ⟨⟨n, e, rfl, hn, he⟩, e'⟩
    exact ⟨⟨n, e, rfl, hn, he⟩, M.ext.trans e'⟩
  have k1 : ¬ opK o = 1 := k1
  refine brE_dec (fun k2 => ?_) (fun k2 => ?_)
  · have k2 : opK o = 2 := k2
    refine ⟨_, M.cell 0 rfl rfl, ?_⟩
    refine ⟨_, M.cell 0 rfl rfl, ?_⟩
    refine ⟨_, M.cell 0 rfl rfl, ?_⟩
    refine ⟨_, M.cell 0 rfl rfl, ?_⟩
    refine ⟨_, M.cell 0 rfl rfl, ?_⟩
    refine ⟨_, M.cell 0 rfl rfl, ?_⟩
    refine (Offer_nil w3).mono ?_
    rintro v w' ⟨⟨n, e, rfl, hn, he⟩, e'⟩
    exact ⟨⟨n, e, rfl, hn, he⟩, M.ext.trans e'⟩
  have k2 : ¬ opK o = 2 := k2
  refine brE_dec (fun k3 => ?_) (fun k3 => ?_)
  · have k3 : opK o = 3 := k3
    refine ⟨_, M.cell 0 rfl rfl, ?_⟩
    refine ⟨_, M.cell 0 rfl rfl, ?_⟩
    refine ⟨_, M.cell 0 rfl rfl, ?_⟩
    refine (SetRate_nil hx.g.cur w3).mono ?_
    rintro v w' ⟨⟨e, rfl, he⟩, e'⟩
    exact ⟨⟨0, e, rfl, rfl, he⟩, M.ext.trans e'⟩
  have k3 : ¬ opK o = 3 := k3
  refine brE_dec (fun k4 => ?_) (fun k4 => ?_)
  · have k4 : opK o = 4 := k4
    refine ⟨_, M.cell 0 rfl rfl, ?_⟩
    refine ⟨_, M.cell 0 rfl rfl, ?_⟩
    refine ⟨_, M.cell 0 rfl rfl, ?_⟩
    refine (SetCeiling_nil w3).mono ?_
    rintro v w' ⟨⟨e, rfl, he⟩, e'⟩
    exact ⟨⟨0, e, rfl, rfl, he⟩, M.ext.trans e'⟩
  have k4 : ¬ opK o = 4 := k4
  refine brE_dec (fun k5 => ?_) (fun k5 => ?_)
  · have k5 : opK o = 5 := k5
    refine ⟨_, M.cell 0 rfl rfl, ?_⟩
    refine ⟨_, M.cell 0 rfl rfl, ?_⟩
    refine (End_nil w3).mono ?_
    rintro v w' ⟨⟨e, rfl, he⟩, e'⟩
    exact ⟨⟨0, e, rfl, rfl, he⟩, M.ext.trans e'⟩
  have k5 : ¬ opK o = 5 := k5
  refine brE_dec (fun k6 => ?_) (fun k6 => ?_)
  · have k6 : opK o = 6 := k6
    refine ⟨_, M.cell 0 rfl rfl, ?_⟩
    refine ⟨_, M.cell 0 rfl rfl, ?_⟩
    refine (Take_nil w3).mono ?_
    rintro v w' ⟨⟨e, rfl, he⟩, e'⟩
    exact ⟨⟨0, e, rfl, rfl, he⟩, M.ext.trans e'⟩
  have k6 : ¬ opK o = 6 := k6
  refine brE_dec (fun k7 => ?_) (fun k7 => ?_)
  · have k7 : opK o = 7 := k7
    refine ⟨_, M.cell 0 rfl rfl, ?_⟩
    refine ⟨_, M.cell 0 rfl rfl, ?_⟩
    refine (Refuse_nil w3).mono ?_
    rintro v w' ⟨⟨e, rfl, he⟩, e'⟩
    exact ⟨⟨0, e, rfl, rfl, he⟩, M.ext.trans e'⟩
  have k7 : ¬ opK o = 7 := k7
  refine ⟨o.x.cells, rfl, M.rd 0 rfl, ?_⟩
  refine (Do_nil o.x fv w3).mono ?_
  rintro v w' ⟨⟨e, rfl, he⟩, e'⟩
  exact ⟨⟨0, e, rfl, rfl, he⟩, M.ext.trans e'⟩
theorem eqD_at (x y : Operand) (p q : Due) (v : Value) (hv : v = q.val) : EqIs C.P .eql 74 x y p.val v (decide (p = q)) := by rw [hv]; exact eqD x y p q
theorem newL_zero {α : Type} {enc : α → List Value} {T k B : Nat} {w : World} {v : Value} (h : NewL enc T k B w v []) : ∃ A n c, v = .slice A n c ∧ n = 0 := by
  obtain ⟨A, c, e, _⟩ := NewL.hl h
  exact ⟨A, _, c, e, rfl⟩

set_option maxRecDepth 100000 in
set_option maxHeartbeats 2000000 in
theorem DuesNil_spec {w : World} {A G : Option Addr} {f : List Fact} {g : List Guest} {c cg : Nat} (hf : HF w A f c) {o : Opn} (ho : o.Nums) (hg : HL Guest.cells w G g cg) (T : TabP w) {a b day : Int} (h1 : In64 a) (h2 : In64 b) :
    CallsV C.P 13 #[.slice A f.length c, o.val, .slice G g.length cg, .int .i64 a, .int .i64 b, .int .i64 day] w fun v w' => v = .bool true ∧ Ext w w' := by
  have hgcap := hg.cap
  refine callsV_of C_ok (args := [_, _, _, _, _, _]) (plans := plans13) Tryz.func13 rfl Tryz.ntmps13 (by kernel_rfl) (Nat.le_of_ble_eq_true rfl) ?_
  intro g7 w1 a1
  have M1 : Mem w w1 [(g7, .cells o.cells.toArray 41 (0, 0))] := (Mem.start w).alloc a1
  refine (few_spec (B := none) (s := []) (d := 0) (hf.ext M1.ext) (Nat.zero_le _)).mono ?_
  rintro v w2 ⟨⟨bf, rfl, hb⟩, rfl⟩
  refine brE_mk (fun c1 => ?_) (fun c1 => ?_)
  · refine (grants_spec w2 (tabP_ext T M1.ext)).mono ?_
    rintro v w3 ⟨rfl, e3⟩
    exact ⟨rfl, M1.ext.trans e3⟩
  refine brE_dec (fun c2 => ?_) (fun c2 => ?_)
  · refine (grants_spec w2 (tabP_ext T M1.ext)).mono ?_
    rintro v w3 ⟨rfl, e3⟩
    exact ⟨rfl, M1.ext.trans e3⟩
  refine ⟨o.cells, rfl, M1.rd 0 rfl, ?_⟩
  refine (did_nil _ ho).mono ?_
  rintro v w3 ⟨⟨n, e, rfl, hn, he⟩, e3⟩
  have M3 := M1.grow e3
  refine (Owes_nil w3 h1 h2 day).mono ?_
  rintro v w4 ⟨hv, e4⟩
  obtain ⟨is, his, rfl⟩ : ∃ is : Bool, is = false ∧ v = .tuple #[dueZ.val, .bool is] := ⟨false, rfl, hv⟩
  have M4 := M3.grow e4
  intro g16 w5 h5
  have M5 := M4.alloc h5
  refine ⟨rfl, _, _, M5.get 0 rfl, Nat.le_of_ble_eq_true rfl, rfl, ?_⟩
  intro w6 h6
  have M6 : Mem w w6 [(g16, .cells dueZ.cells.toArray 74 (0, 0)), (g7, .cells o.cells.toArray 41 (0, 0))] := M5.put 0 rfl h6
  refine (Entries_nil w6).mono ?_
  rintro v w7 ⟨h7, e7⟩
  obtain ⟨A7, n7, c7, rfl, hn7⟩ := newL_zero h7
  refine brE_dec (fun _ => ?_) (fun h => absurd (show ((n7 : Nat) : Int) = 0 by omega) h)
  refine (Waivers_nil (w := w7) day).mono ?_
  rintro v w8 ⟨h8, e8⟩
  obtain ⟨A8, n8, c8, rfl, hn8⟩ := newL_zero h8
  refine brE_dec (fun _ => ?_) (fun h => absurd (show ((n8 : Nat) : Int) = 0 by omega) h)
  refine (Pairs_nil (hg.ext (M6.ext.trans (e7.trans e8))) day).mono ?_
  rintro v w9 ⟨h9, e9⟩
  rw [pairsL_nil] at h9
  obtain ⟨A9, n9, c9, rfl, hn9⟩ := newL_zero h9
  refine brE_dec (fun _ => ?_) (fun h => absurd (show ((n9 : Nat) : Int) = 0 by omega) h)
  refine (Dues_nil w9 day).mono ?_
  rintro v w10 ⟨h10, e10⟩
  obtain ⟨A10, n10, c10, rfl, hn10⟩ := newL_zero h10
  refine brE_dec (fun _ => ?_) (fun h => absurd (show ((n10 : Nat) : Int) = 0 by omega) h)
  refine (Gifts_nil (w := w10) a day).mono ?_
  rintro v w11 ⟨h11, e11⟩
  obtain ⟨A11, n11, c11, rfl, hn11⟩ := newL_zero h11
  refine brE_dec (fun _ => ?_) (fun h => absurd (show ((n11 : Nat) : Int) = 0 by omega) h)
  refine (Overdue_nil (w := w11) day).mono ?_
  rintro v w12 ⟨h12, e12⟩
  obtain ⟨A12, n12, c12, rfl, hn12⟩ := newL_zero h12
  refine brE_dec (fun _ => ?_) (fun h => absurd (show ((n12 : Nat) : Int) = 0 by omega) h)
  refine (Sight_nil w12 a day).mono ?_
  rintro v w13 ⟨h13, e13⟩
  obtain ⟨A13, n13, c13, rfl, hn13⟩ := newL_zero h13
  have M13 := ((((((M6.grow e7).grow e8).grow e9).grow e10).grow e11).grow e12).grow e13
  refine (grants_spec w13 (tabP_ext T M13.ext)).mono ?_
  rintro v w14 ⟨hv, e14⟩
  subst hv
  have M14 := M13.grow e14
  refine brE_dec (fun _ => ?_) (fun h => absurd hn h)
  refine brE_dec (fun _ => ?_) (fun h => absurd he h)
  refine ⟨dueZ.cells, rfl, M14.rd 0 rfl, ?_⟩
  obtain ⟨qd, hqd⟩ : ∃ q : Due, q = dueZ := ⟨_, rfl⟩
  obtain ⟨pd, hpd⟩ : ∃ q : Due, q = dueZ := ⟨_, rfl⟩
  refine ⟨decide (pd = qd), by have := eqD_at (.tmp 102) (.tmp 103) pd qd dueZ.val (by rw [hqd]); rw [hpd] at this ⊢; exact this, ?_⟩
  refine brE_true (decide_eq_true (hpd.trans hqd.symm)) ?_
  subst his
  refine brE_true (decide_eq_true (show ((n13 : Nat) : Int) = 0 by omega)) ?_
  refine (Day_nil w14).mono ?_
  rintro v w15 ⟨⟨n15, rfl, hn15⟩, rfl⟩
  refine brE_dec (fun _ => ?_) (fun h => absurd hn15 h)
  refine (Debt_nil w15 a b day).mono ?_
  rintro v w16 ⟨⟨n16, rfl, hn16⟩, e16⟩
  have M16 := M14.grow e16
  refine brE_dec (fun _ => ?_) (fun h => absurd hn16 h)
  refine brE_dec (fun c5 => ?_) (fun c5 => ?_)
  · exact ⟨rfl, M16.ext⟩
  · have c5 : 0 < g.length := by have : ¬ ((g.length : Nat) : Int) = 0 := c5; omega
    obtain ⟨b1, o1, hA1, hr1⟩ := (hg.ext M16.ext).at Guest.len (by omega) c5
    refine ⟨0, b1, o1, rfl, c5, hA1, ?_⟩
    refine ⟨g[0].cells, rfl, hr1, ?_⟩
    refine ⟨0, b1, o1, rfl, c5, hA1, ?_⟩
    refine ⟨g[0].cells, rfl, hr1, ?_⟩
    refine (Covers_nil (w := w16) g[0] g[0] day).mono ?_
    rintro v w17 ⟨rfl, e17⟩
    exact ⟨rfl, M16.ext.trans e17⟩

end Go.Proofs.YtcnbpfecgokhiaaGreatDoor

namespace Go.Proofs.YtcnbpfecgokhiaaGreatDoor
open Go.Eng Go.RowKit Go.ChangeShapes Go.WideShapes Go.ChangeAt
open Go.ChangeMaps (open_string shut_string)

set_option maxRecDepth 100000 in
theorem duesNil_lifted (os : Os) (started : os.Started) (H : Type) (enc : TypeId × Value → H) :
    ReturnsInHanded {} Tryz.checked os 13 .any (fun w args => (Rows.duesNilSpec.pre enc Tryz.prog Tryz.f13 Rows.duesNilRow.domain false w args ∧ laidMet Tryz.prog laidL w) ∧ sizedMet enc Tryz.prog Tryz.f13 (OpenSpec.ofChange Rows.duesNilSpec) false w args)
      (Rows.duesNilSpec.post enc Tryz.prog Tryz.f13 false true false false) := by
  refine returnsInHanded_of_change_and (C := Tryz.checked) (X := fun w _ => laidMet Tryz.prog laidL w) (fun _ _ _ hh h => h.of_heap hh) own started (by kernel_rfl) Tryz.func13
    (ChangeSpec.witness_at (enc := enc) (C := Tryz.checked) (os := os) (X := fun w _ => laidMet Tryz.prog laidL w) false (laidWorld os) #[.slice none 0 0, .agg #[.int .u8 0, .int .u8 0, .int .i64 0, .int .i64 0, .int .i64 0, .int .i64 0, .int .i64 0, .int .i64 0, .int .i64 0, .int .i64 0, .int .i64 0, .int .i64 0, .int .i64 0, .int .i64 0, .int .i64 0, .int .i64 0, .int .u8 0, .int .i64 0, .int .i64 0, .int .u8 0, .int .i64 0, .int .i64 0, .int .i64 0, .int .i64 0, .int .i64 0], .slice none 0 0, .int .i64 0, .int .i64 0, .int .i64 0] 8 rfl (by kernel_rfl) (by kernel_rfl) (by kernel_rfl) (by kernel_rfl) (by kernel_rfl) (laidWorld_met os _)) ?_
  intro W base args ds gs before hval0 hW _ hsz0 hL _
  have T := tabs_of_laid hL
  have hval : ∀ (j : Nat) t v, Tryz.f13.params[j]? = some t → args[j]? = some v → Value.okWide Tryz.prog W .any base t v := hval0
  have hW' := hW
  obtain ⟨p, q, hA0, hV, rfl, hfz, hnd⟩ := hW
  have hA : DataW.TrodAll enc Tryz.prog W 0 (fun _ => true) true [22, 41, 61, 3, 3, 3] args.toList ds p := hA0
  obtain ⟨v0, v1, v2, v3, v4, v5, d0, d1, d2, d3, d4, d5, p0, p1, p2, p3, p4, p5, rfl, rfl, rfl, h0, h1, h2, h3, h4, h5⟩ := trodAll_n6 hA
  obtain ⟨rfl, rfl⟩ := trodVars_none hV
  obtain ⟨A0, l0, c0, rfl, hf0⟩ := open_facts (hval 0 22 v0 rfl rfl) h0
  obtain ⟨x1, rfl, hx1⟩ := open_vO (hval 1 41 v1 rfl rfl) h1
  obtain ⟨A2, l2, c2, rfl, hs2, ns2⟩ := open_list Guest.len (by omega) (fun y => ⟨.i64, _, rfl⟩) underUs cellsU open_cU (hval 2 61 v2 rfl rfl) h2
  obtain ⟨i3, rfl, _, _, wf3⟩ := open_int under3 (hval 3 3 v3 rfl rfl) h3
  obtain ⟨i4, rfl, _, _, wf4⟩ := open_int under3 (hval 4 3 v4 rfl rfl) h4
  obtain ⟨i5, rfl, _, _, wf5⟩ := open_int under3 (hval 5 3 v5 rfl rfl) h5
  refine (DuesNil_spec hf0 hx1 hs2 T (wf_in64 wf3) (wf_in64 wf4) W (Same.refl W)).mono ?_
  rintro e W' ⟨⟨v, w'', rfl, ⟨rfl, he⟩, hs⟩, _⟩
  have he' : Ext W W' := he.same_right hs
  refine ⟨_, rfl, ?_⟩
  refine ⟨[d0, d1, d2, d3, d4, d5], [], (p0 ++ (p1 ++ (p2 ++ (p3 ++ (p4 ++ (p5)))))) ++ [], [], p0 ++ (p1 ++ (p2 ++ (p3 ++ (p4 ++ (p5))))), [], hW', ?_, ?_, rfl, Below.frame he' _, fun h => by cases h⟩
  · exact trodAll_mk1 (shut_bool under4 true)
  · exact trodAll_mkn6 (Below.trod laidOut recFs rowFs h0 he' fun x hx => hW'.lt x (by simp [hx])) (Below.trod laidOut recO6 rowO6 h1 he' fun x hx => hW'.lt x (by simp [hx])) (Below.trod laidOut recUs rowUs h2 he' fun x hx => hW'.lt x (by simp [hx])) (Below.trod laidOut rec3 row3 h3 he' fun x hx => hW'.lt x (by simp [hx])) (Below.trod laidOut rec3 row3 h4 he' fun x hx => hW'.lt x (by simp [hx])) (Below.trod laidOut rec3 row3 h5 he' fun x hx => hW'.lt x (by simp [hx]))

set_option maxHeartbeats 4000000 in
theorem duesNil_closed : joinedFacts Tryz.pinned.checked.prog 13 Tryz.f13 Rows.duesNilSpec Rows.duesNilRow = true := by
  unfold joinedFacts
  iterate 31 refine Bool.and_eq_true_iff.2 ⟨?_, ?_⟩
  · as_aux_lemma => kernel_rfl
  · exact kLaid
  · exact kMaps
  · as_aux_lemma => kernel_rfl
  · as_aux_lemma => kernel_rfl
  · as_aux_lemma => kernel_rfl
  · exact kStops
  · as_aux_lemma => kernel_rfl
  · exact kKnobs
  · as_aux_lemma => kernel_rfl
  · as_aux_lemma => kernel_rfl
  · as_aux_lemma => kernel_rfl
  · as_aux_lemma => kernel_rfl
  · as_aux_lemma => kernel_rfl
  · as_aux_lemma => kernel_rfl
  · as_aux_lemma => kernel_rfl
  · as_aux_lemma => kernel_rfl
  · as_aux_lemma => kernel_rfl
  · as_aux_lemma => kernel_rfl
  · as_aux_lemma => kernel_rfl
  · as_aux_lemma => kernel_rfl
  · as_aux_lemma => kernel_rfl
  · exact beq_iff_eq.2 kPlain.symm
  · as_aux_lemma => kernel_rfl
  · exact kHeard
  · exact kEnter
  · exact beq_iff_eq.2 kLifts.symm
  · as_aux_lemma => kernel_rfl
  · as_aux_lemma => kernel_rfl
  · as_aux_lemma => kernel_rfl
  · as_aux_lemma => kernel_rfl
  · as_aux_lemma => kernel_rfl

theorem duesNil_named : Tryz.pinned.checked.prog.funcNamed Rows.duesNilRow.func = some 13 := by kernel_rfl
theorem duesNil_func : Tryz.pinned.checked.prog.funcs[13]? = some Tryz.f13 := Tryz.func13
theorem duesNil_inst : Tryz.f13.isInstance Tryz.pinned.checked.prog Rows.duesNilRow.origin Rows.duesNilRow.targs := of_decide_eq_true (by kernel_rfl)
theorem duesNil_wrap : Tryz.f13.isWrapper Tryz.pinned.checked.prog Rows.duesNilRow.wrapper Rows.duesNilRow.mainSum := by
  unfold Func.isWrapper; first | (rw [if_pos (by decide +kernel)]; kernel_rfl) | (rw [if_neg (by decide +kernel)]; exact ⟨rfl, rfl⟩)
theorem duesNil_text : Rows.duesNilRow.wfByText (OpenSpec.ofChange Rows.duesNilSpec) = true := by kernel_rfl
theorem duesNil_main : Tryz.pinned.checked.prog.mainIs = some (Rows.duesNilCard.stood.harness.1, Rows.duesNilCard.stood.harness.2.toList) := by kernel_rfl
theorem duesNil_looks : true = Tryz.pinned.checked.prog.looks [] := by kernel_rfl
theorem duesNil_goes : false = Rows.duesNilRow.goesBy Tryz.pinned.checked.prog := by kernel_rfl
theorem duesNil_stand : (Tryz.f13.params.toList.all fun t => !Tryz.pinned.checked.prog.wantsStandIn t) = true := by kernel_rfl

theorem duesNil_holds : Rows.DuesNilSaid :=
  OpenClaim.holds_of_wide 13 Tryz.f13 rfl rfl rfl rfl rfl rfl rfl ⟨rfl, rfl, rfl, rfl, rfl⟩ rfl rfl rfl rfl rfl duesNil_named duesNil_func duesNil_closed duesNil_inst duesNil_wrap
    (fun os started H enc _ => duesNil_lifted os started H enc)

theorem duesNil : Rows.DuesNilCardSaid :=
  Claim7.holds_tied_plain_at .later [] [.data, .data, .data] true Rows.duesNilCard.stood.harness true
    duesNil_holds (fun _ h => by cases h) duesNil_text (fun _ h => by cases h) duesNil_row_tie rfl ⟨rfl, rfl⟩ duesNil_main rfl
    (fun f fn hf hfn => by
      obtain rfl : f = 13 := Option.some.inj (duesNil_named.symm.trans hf) |>.symm
      obtain rfl : fn = Tryz.f13 := (Option.some.inj (duesNil_func.symm.trans hfn)).symm
      refine ⟨duesNil_looks, fun j t ht => ?_⟩
      have hm : t ∈ Tryz.f13.params.toList := by
        have := Array.mem_of_getElem? ht
        simpa using this
      exact Bool.not_eq_true' _ |>.mp (List.all_eq_true.1 duesNil_stand t hm))
    duesNil_goes

#print axioms duesNil
end Go.Proofs.YtcnbpfecgokhiaaGreatDoor
