/- a part of the proof: steps, walks and plain laws that the law below stands on; no condition. -/
import Derived.Test.YtcnbpfecgokhiaaGreatDoorDWk
import Derived.Test.YtcnbpfecgokhiaaGreatDoorDUb
set_option linter.unusedVariables false
set_option linter.unusedSimpArgs false
set_option linter.unnecessarySimpa false
set_option linter.unusedSectionVars false
namespace Go.Proofs.YtcnbpfecgokhiaaGreatDoor
open Go.Eng Go.RowKit
open Go.Maps (Keyed)

theorem Guest.len (x : Guest) : x.cells.length = 2 := rfl
def rowTo (ws : List Waiv) (g : List Guest) (a j : Nat) : List IPair := (List.range j).flatMap fun b => if ws.any (fun w => coversB w (g.getD a guestZ) (g.getD b guestZ)) = true then [⟨(a : Int), (b : Int)⟩] else []
def pairsTo (ws : List Waiv) (g : List Guest) (i : Nat) : List IPair := (List.range i).flatMap fun a => rowPairs ws g a
theorem rowTo_succ (ws : List Waiv) (g : List Guest) (a j : Nat) : rowTo ws g a (j + 1) = rowTo ws g a j ++ if ws.any (fun w => coversB w (g.getD a guestZ) (g.getD j guestZ)) = true then [⟨(a : Int), (j : Int)⟩] else [] := by
  unfold rowTo; rw [List.range_succ, List.flatMap_append, List.flatMap_singleton]
theorem pairsTo_succ (ws : List Waiv) (g : List Guest) (i : Nat) : pairsTo ws g (i + 1) = pairsTo ws g i ++ rowTo ws g i g.length := by
  unfold pairsTo; rw [List.range_succ, List.flatMap_append, List.flatMap_singleton]; rfl
theorem rowTo_len (ws : List Waiv) (g : List Guest) (a : Nat) : ∀ j, (rowTo ws g a j).length ≤ j
  | 0 => Nat.le_refl _
  | j + 1 => by
    rw [rowTo_succ, List.length_append]
    have := rowTo_len ws g a j
    split <;> simp <;> omega
theorem pairsTo_len (ws : List Waiv) (g : List Guest) : ∀ i, (pairsTo ws g i).length ≤ i * g.length
  | 0 => by simp [pairsTo]
  | i + 1 => by
    rw [pairsTo_succ, List.length_append, Nat.add_mul, Nat.one_mul]
    have := pairsTo_len ws g i
    have := rowTo_len ws g i g.length
    omega

theorem coverAt_spec {w : World} {A : Option Addr} {g : List Guest} {c : Nat} {g4 g9 g10 t4 t9 t10 a b : Nat} (hg : HL Guest.cells w A g c) (h4 : w.heap[g4]? = some (.cells #[.slice A g.length c] t4 (0, 0)))
    (h9 : w.heap[g9]? = some (.cells #[.int .i64 (a : Nat)] t9 (0, 0))) (h10 : w.heap[g10]? = some (.cells #[.int .i64 (b : Nat)] t10 (0, 0))) (ha : a < g.length) (hb : b < g.length) (x : Waiv) :
    CallsV C.P 85 (#[] ++ [x.val].toArray ++ #[.pointer (some ⟨g4, 0, none⟩), .pointer (some ⟨g9, 0, none⟩), .pointer (some ⟨g10, 0, none⟩)]) w fun v w' => v = .bool (coversB x (g.getD a guestZ) (g.getD b guestZ)) ∧ Ext w w' := by
  have ea : g.getD a guestZ = g[a] := by rw [List.getD_eq_getElem?_getD, List.getElem?_eq_getElem ha]; rfl
  have eb : g.getD b guestZ = g[b] := by rw [List.getD_eq_getElem?_getD, List.getElem?_eq_getElem hb]; rfl
  rw [ea, eb]
  refine callsV_of C_ok (args := [_, _, _, _]) (plans := plans85) Tryz.func85 rfl Tryz.ntmps85 (by kernel_rfl) (Nat.le_of_ble_eq_true rfl) ?_
  intro g2 w1 h1
  have M1 : Mem w w1 [(g2, .cells x.cells.toArray 35 (0, 0))] := (Mem.start w).alloc h1
  obtain ⟨b1, o1, hA1, hr1⟩ := (hg.ext M1.ext).at Guest.len (by omega) ha
  obtain ⟨b2, o2, hA2, hr2⟩ := (hg.ext M1.ext).at Guest.len (by omega) hb
  have e4 := M1.ext.heap h4
  refine ⟨x.cells, rfl, M1.rd 0 rfl, ?_⟩
  refine ⟨.slice A g.length c, cell_of_block e4 rfl, ?_⟩
  refine ⟨.int .i64 (a : Nat), cell_of_block (M1.ext.heap h9) rfl, ?_⟩
  refine ⟨a, b1, o1, rfl, ha, hA1, ?_⟩
  refine ⟨g[a].cells, rfl, hr1, ?_⟩
  refine ⟨.slice A g.length c, cell_of_block e4 rfl, ?_⟩
  refine ⟨.int .i64 (b : Nat), cell_of_block (M1.ext.heap h10) rfl, ?_⟩
  refine ⟨b, b2, o2, rfl, hb, hA2, ?_⟩
  refine ⟨g[b].cells, rfl, hr2, ?_⟩
  exact (covers_spec x g[a] g[b] w1).mono fun v w' hv => ⟨hv.1, M1.ext.trans hv.2⟩

theorem only_trans {t0 : Nat} {a b c : World} (h : Only t0 a b) (k : Only t0 b c) : Only t0 a c := fun q cs t fr hq hne => k q cs t fr (h q cs t fr hq hne) hne
theorem newL_only {α : Type} {enc : α → List Value} {T k B t0 n c : Nat} {A : Option Addr} {w w' : World} {l : List α} (h : NewL enc T k B w (.slice A n c) l) (o : Only t0 w w') (hne : T ≠ t0) : Reads w' A (l.flatMap enc) := by
  obtain ⟨A', c', e, hr, _⟩ := reads_of_owns (ownsRow_only h o hne)
  cases e
  exact hr

set_option maxRecDepth 100000 in
theorem Pairs_spec {w : World} {l : LV} {es : List Entry} (h : LedgerIs w l es) (hl : es.length ≤ 2 ^ 16) {A : Option Addr} {g : List Guest} {c : Nat} (hg : HL Guest.cells w A g c) (day : Int) :
    CallsV C.P 32 #[l.ptr, .slice A g.length c, .int .i64 day] w fun v w' => NewL IPair.cells 67 2 w.heap.size w' v (pairsAt es g day) ∧ Ext w w' := by
  have hwl := waiversAt_length es day
  have hcap := hg.cap
  refine callsV_of C_ok (args := [_, _, _]) (plans := []) Tryz.func32 rfl Tryz.ntmps32 (by kernel_rfl) (Nat.le_of_ble_eq_true rfl) ?_
  intro g4 w1 h1
  have M1 : Mem w w1 [(g4, .cells #[.slice A g.length c] 61 (0, 0))] := (Mem.start w).alloc h1
  refine ⟨_, M1.cell 0 rfl rfl, ?_⟩
  refine brE_dec (fun b1 => ?_) (fun b1 => ?_)
  · have b1 : (g.length : Int) > 24 := b1
    have e : pairsAt es g day = [] := if_pos (by omega)
    rw [e]
    exact ⟨newL_nil, M1.ext⟩
  have b1 : ¬ (g.length : Int) > 24 := b1
  have hgl : g.length ≤ 24 := by omega
  have e : pairsAt es g day = pairsTo (waiversAt es day) g g.length := if_neg (by omega)
  rw [e]
  refine (Waivers_spec (h.ext M1.ext) hl day).mono ?_
  rintro v w2 ⟨h2, e2⟩
  obtain ⟨A2, c2, rfl, hr2⟩ := h2.hl
  have M2 := M1.grow e2
  generalize waiversAt es day = ws at *
  refine ⟨_, M2.cell 0 rfl rfl, ?_⟩
  refine loopE C_ok (fun (p : Nat × Value) => [(4, .pointer (some ⟨g4, 0, none⟩)), (7, .slice A2 ws.length c2), (8, p.2), (18, .int .i64 g.length), (19, .int .i64 p.1)])
    (fun p w' => p.1 ≤ g.length ∧ NewL IPair.cells 67 2 w.heap.size w' p.2 (pairsTo ws g p.1) ∧ Ext w w' ∧ Only 67 w2 w') (fun p => g.length - p.1) (0, .slice none 0 0) ⟨rfl, rfl, rfl, rfl, rfl, trivial⟩
    ⟨Nat.zero_le _, newL_nil, M2.ext, only_ext _ (Ext.refl _)⟩ ?_
  rintro ⟨i, v⟩ w3 ⟨hi', ho', e3, o23⟩
  have hi : i ≤ g.length := hi'
  have ho : NewL IPair.cells 67 2 w.heap.size w3 v (pairsTo ws g i) := ho'
  clear hi' ho'
  refine brE_dec (fun hlt => ?_) (fun hge => ?_)
  · have hlt : i < g.length := by have : (i : Int) < (g.length : Nat) := hlt; omega
    intro g9 w4 h4
    refine ⟨rfl, _, _, h4.here, Nat.le_of_ble_eq_true rfl, rfl, ?_⟩
    intro w5 h5
    have h5 : Put w4 g9 (.cells #[.int .i64 (i : Nat)] 3 (0, 0)) w5 := h5
    have e35 : Ext w3 w5 := h5.ext_of h4.ext (by rw [h4.new]; exact Nat.le_refl _)
    have o25 := only_trans o23 (only_ext _ e35)
    refine ⟨_, cell_of_block (o25 _ _ _ _ (M2.get 0 rfl) (by decide)) rfl, ?_⟩
    have plen := pairsTo_len ws g i
    have pl : (pairsTo ws g i).length ≤ 24 * 24 := Nat.le_trans plen (Nat.mul_le_mul (by omega) hgl)
    refine loopE C_ok (fun (p : Nat × Value) => [(4, .pointer (some ⟨g4, 0, none⟩)), (7, .slice A2 ws.length c2), (8, p.2), (9, .pointer (some ⟨g9, 0, none⟩)), (18, .int .i64 g.length), (19, .int .i64 i), (23, .int .i64 g.length), (24, .int .i64 p.1)])
      (fun p w' => p.1 ≤ g.length ∧ NewL IPair.cells 67 2 w.heap.size w' p.2 (pairsTo ws g i ++ rowTo ws g i p.1) ∧ Ext w w' ∧ Only 67 w5 w') (fun p => g.length - p.1) (0, v) ⟨rfl, rfl, rfl, rfl, rfl, rfl, rfl, rfl, trivial⟩
      ⟨Nat.zero_le _, by show NewL _ _ _ _ _ _ (pairsTo ws g i ++ []); rw [List.append_nil]; exact ho.ext e35, e3.trans e35, only_ext _ (Ext.refl _)⟩ ?_
    rintro ⟨j, u⟩ w6 ⟨hj', ho', e6, o56⟩
    have hj : j ≤ g.length := hj'
    have ho6 : NewL IPair.cells 67 2 w.heap.size w6 u (pairsTo ws g i ++ rowTo ws g i j) := ho'
    clear hj' ho'
    refine brE_dec (fun hlt2 => ?_) (fun hge2 => ?_)
    · have hlt2 : j < g.length := by have : (j : Int) < (g.length : Nat) := hlt2; omega
      intro g10 w7 h7
      refine ⟨rfl, _, _, h7.here, Nat.le_of_ble_eq_true rfl, rfl, ?_⟩
      intro w8 h8
      have h8 : Put w7 g10 (.cells #[.int .i64 (j : Nat)] 3 (0, 0)) w8 := h8
      have e68 : Ext w6 w8 := h8.ext_of h7.ext (by rw [h7.new]; exact Nat.le_refl _)
      have o58 := only_trans o56 (only_ext _ e68)
      have o28 := only_trans o25 o58
      refine ⟨[], [.pointer (some ⟨g4, 0, none⟩), .pointer (some ⟨g9, 0, none⟩), .pointer (some ⟨g10, 0, none⟩)], rfl, rfl, ?_⟩
      refine (ContainsFuncW_spec (newL_only h2 o28 (by decide)) (by omega) rfl (p := fun x => coversB x (g.getD i guestZ) (g.getD j guestZ)) fun x w' e => coverAt_spec (hg.ext ((e6.trans e68).trans e)) (e.heap (o28 _ _ _ _ (M2.get 0 rfl) (by decide))) (e.heap (o58 _ _ _ _ h5.here (by decide))) (e.heap h8.here) hlt hlt2 x).mono ?_
      rintro v w9 ⟨rfl, e89⟩
      have e69 := e68.trans e89
      have rlen := rowTo_len ws g i j
      have next : IntKind.i64.wrap ((j : Int) + 1) = ((j + 1 : Nat) : Int) := fit ⟨by omega, by omega⟩
      refine brE_mk (fun hc => ?_) (fun hc => ?_)
      · refine ⟨.int .i64 (i : Nat), cell_of_block (e89.heap (o58 _ _ _ _ h5.here (by decide))) rfl, ?_⟩
        refine ⟨.int .i64 (j : Nat), cell_of_block (e89.heap h8.here) rfl, ?_⟩
        intro g11 w10 h10
        refine ⟨rfl, rfl, rfl, w.heap.size, _, _, (IPair.mk (i : Nat) (j : Nat)).cells, (ho6.ext e69).ext h10.ext, Nat.le_trans e6.size (Nat.le_trans e69.size h10.ext.size), Nat.le_of_ble_eq_true rfl, rfl, rfl, .inr ⟨g11, 0, rfl, Rd.of_block h10.here⟩, rfl, rfl, by rw [List.length_append]; omega, by rw [List.length_append]; simp only [maxLen]; omega, ?_⟩
        intro v' w11 ho11 hg11 hpl
        refine ⟨_, next, ?_⟩
        have ho10 := (ho6.ext e69).ext h10.ext
        have e10 := (e6.trans e69).trans h10.ext
        refine ⟨(j + 1, v'), ⟨rfl, rfl, rfl, rfl, rfl, rfl, rfl, rfl, trivial⟩, ⟨hlt2, ?_, app_ext e10 ho10 hg11, only_trans o56 (only_trans (only_ext _ (e69.trans h10.ext)) (only_app ho10 hg11))⟩, by show g.length - (j + 1) < g.length - j; omega⟩
        have hcc : ws.any (fun w => coversB w (g.getD i guestZ) (g.getD j guestZ)) = true := hc
        show NewL _ _ _ _ _ _ (pairsTo ws g i ++ rowTo ws g i (j + 1))
        rw [rowTo_succ, hcc, if_pos rfl, ← List.append_assoc]
        generalize pairsTo ws g i ++ rowTo ws g i j = P at ho11 ⊢
        unfold NewL
        rw [List.flatMap_append, List.length_append]
        have : ([⟨(i : Int), (j : Int)⟩] : List IPair).flatMap IPair.cells = (IPair.mk (i : Nat) (j : Nat)).cells := rfl
        rw [this]
        exact ho11
      · refine ⟨_, next, ?_⟩
        refine ⟨(j + 1, u), ⟨rfl, rfl, rfl, rfl, rfl, rfl, rfl, rfl, trivial⟩, ⟨hlt2, ?_, e6.trans e69, only_trans o56 (only_ext _ e69)⟩, by show g.length - (j + 1) < g.length - j; omega⟩
        have hcc : ws.any (fun w => coversB w (g.getD i guestZ) (g.getD j guestZ)) = false := hc
        show NewL _ _ _ _ _ _ (pairsTo ws g i ++ rowTo ws g i (j + 1))
        rw [rowTo_succ, hcc, if_neg (by decide), List.append_nil]
        exact ho6.ext e69
    · have hj : j = g.length := by have : ¬ (j : Int) < (g.length : Nat) := hge2; omega
      refine ⟨((i + 1 : Nat) : Int), fit ⟨by omega, by omega⟩, ?_⟩
      refine ⟨(i + 1, u), ⟨rfl, rfl, rfl, rfl, rfl, trivial⟩, ⟨hlt, ?_, e6, only_trans o25 o56⟩, by show g.length - (i + 1) < g.length - i; omega⟩
      show NewL _ _ _ _ _ _ (pairsTo ws g (i + 1))
      rw [pairsTo_succ, ← hj]
      exact ho6
  · have hi : i = g.length := by have : ¬ (i : Int) < (g.length : Nat) := hge; omega
    rw [hi] at ho
    exact ⟨ho, e3⟩

end Go.Proofs.YtcnbpfecgokhiaaGreatDoor

namespace Go.Proofs.YtcnbpfecgokhiaaGreatDoor
open Go.Eng Go.RowKit
open Go.Maps (Keyed)

theorem debtW_bound {gs : List Gift} (h : GiftsOk gs) (frm to : Int) {x : Gift} (hx : x ∈ gs) : 0 ≤ debtW gs frm to x ∧ debtW gs frm to x ≤ 1000000000000 := by
  obtain ⟨i, hi, rfl⟩ := List.getElem_of_mem hx
  have := h.worth i hi
  have := metL_bounds h gs[i].id
  unfold debtW
  split
  · rw [Int.max_def]; split <;> omega
  · omega

set_option maxRecDepth 100000 in
theorem Debt_spec {w : World} {l : LV} {es : List Entry} (h : LedgerIs w l es) (hl : es.length ≤ 2 ^ 16) (frm to day : Int) :
    CallsV C.P 31 #[l.ptr, .int .i64 frm, .int .i64 to, .int .i64 day] w fun v w' => v = .int .i64 (debtAt es frm to day) ∧ Ext w w' := by
  have hG := (acc_ok (acc_asOf h.acc day)).gifts
  have hgl := hG.len
  refine callsV_of C_ok (args := [_, _, _, _]) (plans := plans31) Tryz.func31 rfl Tryz.ntmps31 (by kernel_rfl) (Nat.le_of_ble_eq_true rfl) ?_
  refine (asOf_spec h hl day).mono ?_
  rintro v w1 ⟨s, rfl, hs⟩
  obtain ⟨A, c, hv, hr, _⟩ := reads_of_owns hs.is.gifts
  unfold debtAt debtL
  have hB := hs.is.block
  obtain ⟨fm, mm, hfm⟩ := hs.is.mets
  have e1 := hs.ext
  generalize hgs : giftL (asOfL es day) = gs at *
  refine ⟨.slice A gs.length c, cell_of_block (i := 4) hB (by show some s.vG = _; rw [hv]), ?_⟩
  refine loopE C_ok (fun (p : Nat × Int) => [(1, .int .i64 frm), (2, .int .i64 to), (9, .pointer (some ⟨s.gs, 0, none⟩)), (10, .int .i64 p.2), (19, .slice A gs.length c), (20, .int .i64 gs.length), (21, .int .i64 p.1)])
    (fun p w' => p.1 ≤ gs.length ∧ p.2 = ((gs.take p.1).map (debtW gs frm to)).sum ∧ Ext w1 w') (fun p => gs.length - p.1) (0, 0) ⟨rfl, rfl, rfl, rfl, rfl, rfl, rfl, trivial⟩
    ⟨Nat.zero_le _, rfl, Ext.refl _⟩ ?_
  rintro ⟨i, n⟩ w2 ⟨hi', hn', e2⟩
  have hi : i ≤ gs.length := hi'
  have hn : n = ((gs.take i).map (debtW gs frm to)).sum := hn'
  clear hi' hn'
  refine brE_dec (fun hlt => ?_) (fun hge => ?_)
  · have hlt : i < gs.length := by have : (i : Int) < (gs.length : Nat) := hlt; omega
    have nb := sum_bounds (debtW gs frm to) 1000000000000 (gs.take i) fun x hx => debtW_bound hG frm to (List.mem_of_mem_take hx)
    rw [← hn, List.length_take] at nb
    have mb := metL_bounds hG gs[i].id
    have wb := hG.worth i hlt
    have hid := hG.ids i hlt
    have hnext : ((gs.take (i + 1)).map (debtW gs frm to)).sum = n + debtW gs frm to gs[i] := by
      rw [List.take_succ_eq_append_getElem hlt, List.map_append, List.sum_append, ← hn]; simp
    have next : IntKind.i64.wrap ((i : Int) + 1) = ((i + 1 : Nat) : Int) := fit ⟨by omega, by omega⟩
    obtain ⟨b, o, hA, hc⟩ := Reads.elem Gift.len (by omega) (hr.ext e2) hlt
    refine ⟨i, b, o, rfl, hlt, hA, ?_⟩
    refine ⟨gs[i].cells, rfl, hc, ?_⟩
    intro g3 w3 h3
    refine ⟨rfl, _, _, h3.here, Nat.le_of_ble_eq_true rfl, rfl, ?_⟩
    intro w4 h4
    have h4 : Put w3 g3 (.cells gs[i].cells.toArray 37 (0, 0)) w4 := h4
    have e24 : Ext w2 w4 := h4.ext_of h3.ext (by rw [h3.new]; exact Nat.le_refl _)
    refine ⟨gs[i].cells, rfl, Rd.of_block h4.here, ?_⟩
    refine (debt_spec gs[i] w4).mono ?_
    rintro v w5 ⟨rfl, e45⟩
    have e25 := e24.trans e45
    have hg5 := e45.heap h4.here
    have no : debtW gs frm to gs[i] = 0 → IntKind.i64.wrap ((i : Int) + 1) = ((i + 1 : Nat) : Int) ∧ n = ((gs.take (i + 1)).map (debtW gs frm to)).sum := fun e => ⟨next, by rw [hnext, e, Int.add_zero]⟩
    refine brE_mk (fun c1 => ?_) (fun c1 => ?_)
    · refine ⟨_, cell_of_block (i := 2) hg5 rfl, ?_⟩
      refine brE_dec (fun c2 => ?_) (fun c2 => ?_)
      · have c2 : gs[i].frm = to := c2
        refine ⟨_, cell_of_block (i := 3) hg5 rfl, ?_⟩
        refine brE_dec (fun c3 => ?_) (fun c3 => ?_)
        · have c3 : gs[i].to = frm := c3
          have hw : debtW gs frm to gs[i] = max 0 (gs[i].worth - metL gs gs[i].id) := by unfold debtW; rw [if_pos ⟨c1, c2, c3⟩]
          refine ⟨_, cell_of_block (i := 6) hg5 rfl, ?_⟩
          refine ⟨_, cell_of_block (i := 5) ((e2.trans e25).heap hB) rfl, ?_⟩
          refine ⟨_, cell_of_block (i := 0) hg5 rfl, ?_⟩
          refine ⟨.int .i64 (metL gs gs[i].id), mapGet1 C_ok (te := ty3) (x := .int .i64 gs[i].id) (intKey ⟨by omega, by omega⟩) (mm.ext (e2.trans e25)) intK rfl rfl rfl rfl rfl rfl (by rw [hfm _ (by omega)]; exact numV_getD _), ?_⟩
          refine ⟨gs[i].worth - metL gs gs[i].id, fit ⟨by omega, by omega⟩, ?_⟩
          refine ⟨_, maxQ rfl rfl rfl rfl, ?_⟩
          rw [← hw]
          have wb2 := debtW_bound hG frm to (List.getElem_mem hlt)
          refine ⟨n + debtW gs frm to gs[i], fit ⟨by omega, by omega⟩, ?_⟩
          refine ⟨_, next, ?_⟩
          exact ⟨(i + 1, n + debtW gs frm to gs[i]), ⟨rfl, rfl, rfl, rfl, rfl, rfl, rfl, trivial⟩, ⟨hlt, hnext.symm, e2.trans e25⟩, by show gs.length - (i + 1) < gs.length - i; omega⟩
        · have c3 : ¬ gs[i].to = frm := c3
          have hz := no (by unfold debtW; rw [if_neg (fun e => c3 e.2.2)])
          refine ⟨_, hz.1, ?_⟩
          exact ⟨(i + 1, n), ⟨rfl, rfl, rfl, rfl, rfl, rfl, rfl, trivial⟩, ⟨hlt, hz.2, e2.trans e25⟩, by show gs.length - (i + 1) < gs.length - i; omega⟩
      · have c2 : ¬ gs[i].frm = to := c2
        have hz := no (by unfold debtW; rw [if_neg (fun e => c2 e.2.1)])
        refine ⟨_, hz.1, ?_⟩
        exact ⟨(i + 1, n), ⟨rfl, rfl, rfl, rfl, rfl, rfl, rfl, trivial⟩, ⟨hlt, hz.2, e2.trans e25⟩, by show gs.length - (i + 1) < gs.length - i; omega⟩
    · have hz := no (by unfold debtW; rw [if_neg (fun e => by rw [c1] at e; exact absurd e.1 (by decide))])
      refine ⟨_, hz.1, ?_⟩
      exact ⟨(i + 1, n), ⟨rfl, rfl, rfl, rfl, rfl, rfl, rfl, trivial⟩, ⟨hlt, hz.2, e2.trans e25⟩, by show gs.length - (i + 1) < gs.length - i; omega⟩
  · have hi : i = gs.length := by have : ¬ (i : Int) < (gs.length : Nat) := hge; omega
    rw [hi, List.take_length] at hn
    exact ⟨congrArg _ hn, e1.trans e2⟩

theorem Owes_spec {w : World} {l : LV} {es : List Entry} (h : LedgerIs w l es) (hl : es.length ≤ 2 ^ 16) {debt cred : Int} (hd : In64 debt) (hc : In64 cred) (day : Int) :
    CallsV C.P 37 #[l.ptr, .int .i64 debt, .int .i64 cred, .int .i64 day] w fun v w' => v = .tuple #[(owesAt es debt cred day).1.val, .bool (owesAt es debt cred day).2] ∧ Ext w w' := by
  refine callsV_of C_ok (args := [_, _, _, _]) (plans := []) Tryz.func37 rfl Tryz.ntmps37 (by kernel_rfl) (Nat.le_of_ble_eq_true rfl) ?_
  intro g8 w1 h1
  have M1 := (Mem.start w).alloc h1
  refine (asOf_spec (h.ext M1.ext) hl day).mono ?_
  rintro v w2 ⟨s, rfl, hs⟩
  have M2 := M1.grow hs.ext
  refine ⟨_, cell_of_block (i := 3) hs.is.block rfl, ?_⟩
  cases hf : owesL (dueL (asOfL es day)) cred debt with
  | some x =>
    obtain ⟨hx, hx1, hx2⟩ := owes_find hf
    have ho : owesAt es debt cred day = (x, true) := by unfold owesAt; rw [hf]
    refine ⟨.tuple #[.int .i64 x.waiver, .bool true], mapLGet C_ok (te := ty3) (x := sidesV cred debt) (sidesKey hc hd) hs.is.dues sidesK rfl rfl rfl rfl rfl rfl (.inl ⟨rfl, dueP_mem.2 ⟨x, hx, hx1, hx2, rfl⟩⟩), ?_⟩
    refine ⟨rfl, _, _, M2.get 0 rfl, Nat.le_of_ble_eq_true rfl, rfl, ?_⟩
    intro w3 h3
    have ex : x = ⟨cred, debt, x.waiver⟩ := by rw [← hx1, ← hx2]
    have M3 : Mem w w3 [(g8, .cells (Due.mk cred debt x.waiver).cells.toArray 74 (0, 0))] := M2.put 0 rfl h3
    refine ⟨(Due.mk cred debt x.waiver).cells, rfl, M3.rd 0 rfl, ?_⟩
    rw [ho]
    exact ⟨by rw [ex]; rfl, M3.ext⟩
  | none =>
    have hno := owes_none hf
    have ho : owesAt es debt cred day = (dueZ, false) := by unfold owesAt; rw [hf]
    refine ⟨.tuple #[.int .i64 0, .bool false], mapLGet C_ok (te := ty3) (x := sidesV cred debt) (sidesKey hc hd) hs.is.dues sidesK rfl rfl rfl rfl rfl rfl (.inr ⟨rfl, rfl, fun u hu => by
      obtain ⟨d, hd1, hd2, hd3, _⟩ := dueP_mem.1 hu
      exact hno d hd1 ⟨hd2, hd3⟩⟩), ?_⟩
    refine ⟨rfl, _, _, M2.get 0 rfl, Nat.le_of_ble_eq_true rfl, rfl, ?_⟩
    intro w3 h3
    have M3 : Mem w w3 [(g8, .cells dueZ.cells.toArray 74 (0, 0))] := M2.put 0 rfl h3
    refine ⟨dueZ.cells, rfl, M3.rd 0 rfl, ?_⟩
    rw [ho]
    exact ⟨rfl, M3.ext⟩

end Go.Proofs.YtcnbpfecgokhiaaGreatDoor
