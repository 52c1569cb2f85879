/- Dues: the operations of a ledger. -/
import Derived.Test.YtcnbpfecgokhiaaGreatDoorDWi
set_option linter.unusedVariables false
set_option linter.unusedSimpArgs false
set_option linter.unnecessarySimpa false
set_option linter.unusedSectionVars false
namespace Go.Proofs.YtcnbpfecgokhiaaGreatDoor
open Go.Eng Go.RowKit

theorem hf_nil (w : World) : HF w none [] 0 := ⟨(fun x hx => by cases hx), .inl rfl, Nat.le_refl _, Nat.zero_le _⟩
/-- Facts matter for waivers alone. -/
theorem doF_any {x : Entry} (hk : x.kind ≠ 3) (f g : List Fact) (es : List Entry) : doF f es x = doF g es x := by
  unfold doF doE refusedE
  rw [if_neg hk, if_neg hk]
theorem in64_0 : In64 0 := ⟨by decide, by decide⟩
theorem waivZ_nums : waivZ.Nums := ⟨in64_0, in64_0, in64_0, in64_0, in64_0, in64_0, in64_0, in64_0, in64_0⟩
theorem giftZ_nums : giftZ.Nums := ⟨in64_0, in64_0, in64_0, in64_0, ⟨by decide, by decide⟩, in64_0, in64_0, ⟨by decide, by decide⟩, in64_0, in64_0⟩
theorem rateE_nums {day c n : Int} (h1 : In64 day) (h2 : 0 ≤ c ∧ c ≤ 255) (h3 : In64 n) : (rateE day c n).Nums := ⟨(by show (0 : Int) ≤ 1 ∧ (1 : Int) ≤ 255; decide), h1, waivZ_nums, giftZ_nums, ⟨by show -9223372036854775808 ≤ c; omega, by show c ≤ 9223372036854775807; omega⟩, in64_0, h3⟩
theorem ceilE_nums {day s n : Int} (h1 : In64 day) (h2 : In64 s) (h3 : In64 n) : (ceilE day s n).Nums := ⟨(by show (0 : Int) ≤ 2 ∧ (2 : Int) ≤ 255; decide), h1, waivZ_nums, giftZ_nums, h2, in64_0, h3⟩
theorem endE_nums {day i : Int} (h1 : In64 day) (h2 : In64 i) : (endE day i).Nums := ⟨(by show (0 : Int) ≤ 4 ∧ (4 : Int) ≤ 255; decide), h1, { waivZ_nums with id := h2 }, giftZ_nums, in64_0, in64_0, in64_0⟩
theorem takeE_nums {day i : Int} (h1 : In64 day) (h2 : In64 i) : (takeE day i).Nums := ⟨(by show (0 : Int) ≤ 6 ∧ (6 : Int) ≤ 255; decide), h1, waivZ_nums, { giftZ_nums with id := h2 }, in64_0, in64_0, in64_0⟩
theorem refuseE_nums {day i : Int} (h1 : In64 day) (h2 : In64 i) : (refuseE day i).Nums := ⟨(by show (0 : Int) ≤ 7 ∧ (7 : Int) ≤ 255; decide), h1, waivZ_nums, { giftZ_nums with id := h2 }, in64_0, in64_0, in64_0⟩

theorem SetRate_spec {w : World} {l : LV} {es : List Entry} (h : LedgerIs w l es) (hl : es.length ≤ 2 ^ 16) {day c n : Int} (h1 : In64 day) (h2 : 0 ≤ c ∧ c ≤ 255) (h3 : In64 n) (f : List Fact) :
    CallsV C.P 65 #[l.ptr, .int .i64 day, .int .u8 c, .int .i64 n] w fun v w' => v = .int .i64 (doF f es (rateE day c n)) ∧ LdGo w l (addL (doF f es (rateE day c n)) es (rateE day c n)) w' := by
  rw [doF_any (x := rateE day c n) (show (1 : Int) ≠ 3 by decide) f []]
  refine callsV_of C_ok (args := [_, _, _, _]) (plans := []) Tryz.func65 rfl Tryz.ntmps65 (by kernel_rfl) (Nat.le_of_ble_eq_true rfl) ?_
  refine ⟨c, fit ⟨by omega, by omega⟩, ?_⟩
  exact (Do_spec h hl (rateE_nums h1 h2 h3) (hf_nil w) (Nat.zero_le _)).mono fun v w' hv => hv
theorem SetCeiling_spec {w : World} {l : LV} {es : List Entry} (h : LedgerIs w l es) (hl : es.length ≤ 2 ^ 16) {day s n : Int} (h1 : In64 day) (h2 : In64 s) (h3 : In64 n) (f : List Fact) :
    CallsV C.P 69 #[l.ptr, .int .i64 day, .int .i64 s, .int .i64 n] w fun v w' => v = .int .i64 (doF f es (ceilE day s n)) ∧ LdGo w l (addL (doF f es (ceilE day s n)) es (ceilE day s n)) w' := by
  rw [doF_any (x := ceilE day s n) (show (2 : Int) ≠ 3 by decide) f []]
  refine callsV_of C_ok (args := [_, _, _, _]) (plans := []) Tryz.func69 rfl Tryz.ntmps69 (by kernel_rfl) (Nat.le_of_ble_eq_true rfl) ?_
  exact (Do_spec h hl (ceilE_nums h1 h2 h3) (hf_nil w) (Nat.zero_le _)).mono fun v w' hv => hv
theorem End_spec {w : World} {l : LV} {es : List Entry} (h : LedgerIs w l es) (hl : es.length ≤ 2 ^ 16) {day i : Int} (h1 : In64 day) (h2 : In64 i) (f : List Fact) :
    CallsV C.P 29 #[l.ptr, .int .i64 day, .int .i64 i] w fun v w' => v = .int .i64 (doF f es (endE day i)) ∧ LdGo w l (addL (doF f es (endE day i)) es (endE day i)) w' := by
  rw [doF_any (x := endE day i) (show (4 : Int) ≠ 3 by decide) f []]
  refine callsV_of C_ok (args := [_, _, _]) (plans := []) Tryz.func29 rfl Tryz.ntmps29 (by kernel_rfl) (Nat.le_of_ble_eq_true rfl) ?_
  exact (Do_spec h hl (endE_nums h1 h2) (hf_nil w) (Nat.zero_le _)).mono fun v w' hv => hv
theorem Take_spec {w : World} {l : LV} {es : List Entry} (h : LedgerIs w l es) (hl : es.length ≤ 2 ^ 16) {day i : Int} (h1 : In64 day) (h2 : In64 i) (f : List Fact) :
    CallsV C.P 67 #[l.ptr, .int .i64 day, .int .i64 i] w fun v w' => v = .int .i64 (doF f es (takeE day i)) ∧ LdGo w l (addL (doF f es (takeE day i)) es (takeE day i)) w' := by
  rw [doF_any (x := takeE day i) (show (6 : Int) ≠ 3 by decide) f []]
  refine callsV_of C_ok (args := [_, _, _]) (plans := []) Tryz.func67 rfl Tryz.ntmps67 (by kernel_rfl) (Nat.le_of_ble_eq_true rfl) ?_
  exact (Do_spec h hl (takeE_nums h1 h2) (hf_nil w) (Nat.zero_le _)).mono fun v w' hv => hv
theorem Refuse_spec {w : World} {l : LV} {es : List Entry} (h : LedgerIs w l es) (hl : es.length ≤ 2 ^ 16) {day i : Int} (h1 : In64 day) (h2 : In64 i) (f : List Fact) :
    CallsV C.P 70 #[l.ptr, .int .i64 day, .int .i64 i] w fun v w' => v = .int .i64 (doF f es (refuseE day i)) ∧ LdGo w l (addL (doF f es (refuseE day i)) es (refuseE day i)) w' := by
  rw [doF_any (x := refuseE day i) (show (7 : Int) ≠ 3 by decide) f []]
  refine callsV_of C_ok (args := [_, _, _]) (plans := []) Tryz.func70 rfl Tryz.ntmps70 (by kernel_rfl) (Nat.le_of_ble_eq_true rfl) ?_
  exact (Do_spec h hl (refuseE_nums h1 h2) (hf_nil w) (Nat.zero_le _)).mono fun v w' hv => hv

/-! ### the next number -/
theorem reads_but {w w1 : World} {A : Option Addr} {cs : List Value} (h : Reads w A cs) {gx : Nat} (hg : w.heap.size ≤ gx) (e : Ext w w1) : cs = [] ∨ ∃ b o, A = some ⟨b, o, none⟩ ∧ b ≠ gx ∧ Rd w1 b o cs := by
  rcases h with h | ⟨b, o, hA, hr⟩
  · exact .inl h
  · cases cs with
    | nil => exact .inl rfl
    | cons v r =>
      have hlt : b < w.heap.size := block_lt_of_cell (hr 0 v rfl)
      exact .inr ⟨b, o, hA, by omega, hr.ext e⟩
def LdBut (gx : Nat) (w : World) (l : LV) (es : List Entry) (w' : World) : Prop := ∃ l', l'.gl = l.gl ∧ LedgerIs w' l' es ∧ Keep (fun k => ¬ l.has k ∧ k ≠ gx) w w' ∧ ∀ k, l'.has k → l.has k ∨ w.heap.size ≤ k

set_option maxRecDepth 100000 in
theorem next_spec {w : World} {l : LV} {es : List Entry} (h : LedgerIs w l es) (hl : es.length ≤ 2 ^ 16) {A : Option Addr} {f : List Fact} {c : Nat} (hf : HF w A f c) (hfl : f.length ≤ 2 ^ 20) {x : Entry} (hx : x.Nums)
    {g1 g2 gx n : Nat} {c1 c2 : Array Value} (hn : n < 500) (hg1 : C.can g1 = true) (hg2 : C.can g2 = true) (hgx : ¬ l.has gx) (hfx : fcells f = [] ∨ ∃ b o, A = some ⟨b, o, none⟩ ∧ b ≠ gx ∧ Rd w b o (fcells f))
    (have_ : ∀ w', Ext w w' → CallsV C.P g1 (#[] ++ ([] : List Value).toArray ++ c1) w' fun v w'' => v = .int .i64 (n : Nat) ∧ Ext w' w'')
    (with_ : ∀ w', Ext w w' → CallsV C.P g2 (#[] ++ [.int .i64 ((n + 1 : Nat) : Int)].toArray ++ c2) w' fun v w'' => v = x.val ∧ Keep (fun k => k ≠ gx) w' w'') :
    CallsV C.P 87 #[l.ptr, .slice A f.length c, .func (.func g1) #[] c1, .int .i64 500, .func (.func g2) #[] c2] w fun v w' => v = .tuple #[.int .i64 (if doF f es x = 0 then ((n + 1 : Nat) : Int) else 0), .int .i64 (doF f es x)] ∧ LdBut gx w l (addL (doF f es x) es x) w' := by
  refine callsV_of C_ok (args := [_, _, _, _, _]) (plans := []) Tryz.func87 rfl Tryz.ntmps87 (by kernel_rfl) (Nat.le_of_ble_eq_true rfl) ?_
  intro g9 w1 h1
  have M1 : Mem w w1 [(g9, .cells #[.func (.func g2) #[] c2] 133 (0, 0))] := (Mem.start w).alloc h1
  refine ⟨_, eqNilP _ _ _, ?_⟩
  refine brE_true hg1 ?_
  refine (have_ w1 M1.ext).mono ?_
  rintro v w2 ⟨rfl, e2⟩
  have M2 := M1.grow e2
  refine ⟨((n + 1 : Nat) : Int), fit ⟨by omega, by omega⟩, ?_⟩
  refine brE_true (decide_eq_true (by show ((n + 1 : Nat) : Int) ≤ 500; omega)) ?_
  refine ⟨_, M2.cell 0 rfl rfl, ?_⟩
  refine brE_true hg2 ?_
  refine (with_ w2 M2.ext).mono ?_
  rintro v w3 ⟨rfl, k3⟩
  have h3 : LedgerIs w3 l es := (h.ext M2.ext).keep fun k hk => k3.block k (fun e => hgx (e ▸ hk)) (Nat.lt_of_lt_of_le (h.lt hk) M2.ext.size)
  have hf3 : HF w3 A f c := ⟨hf.nums, by
    rcases hfx with hr | ⟨b, o, hA, hb, hr⟩
    · exact .inl hr
    · exact .inr ⟨b, o, hA, k3.rd (D := fun k => k ≠ gx) hb (hr.ext M2.ext)⟩, hf.len, hf.cap⟩
  have k13 : Keep (fun k => ¬ l.has k ∧ k ≠ gx) w w3 := keep_trans (keep_ext M2.ext) k3 fun q hq _ => hq.2
  refine (Do_spec h3 hl hx hf3 hfl).mono ?_
  rintro v w4 ⟨rfl, l4, hg4, hi4, hk4, hn4⟩
  have goal : LdBut gx w l (addL (doF f es x) es x) w4 := ⟨l4, hg4, hi4, keep_trans k13 hk4 fun q hq _ => hq.1, fun k hk => (hn4 k hk).imp id fun h => Nat.le_trans k13.size h⟩
  refine brE_ndec (fun b => ?_) (fun b => ?_)
  · have b : ¬ doF f es x = 0 := b
    exact ⟨by rw [if_neg b], goal⟩
  · have b : doF f es x = 0 := b
    exact ⟨by rw [if_pos b, b], goal⟩

theorem grantE_nums {es : List Entry} {x : Waiv} (hx : x.Nums) (hl : (waivL es).length ≤ 2 ^ 16) : (grantE es x).Nums := ⟨(by show (0 : Int) ≤ 3 ∧ (3 : Int) ≤ 255; decide), hx.day, { hx with id := ⟨by show -9223372036854775808 ≤ (((waivL es).length + 1 : Nat) : Int); omega, by show (((waivL es).length + 1 : Nat) : Int) ≤ 9223372036854775807; omega⟩ }, giftZ_nums, in64_0, in64_0, in64_0⟩

theorem grants_len {w : World} {l : LV} {es : List Entry} (h : LedgerIs w l es) {g : Nat} (hg : w.heap[g]? = some (.cells #[l.ptr] 26 (0, 0))) :
    CallsV C.P 88 (#[] ++ ([] : List Value).toArray ++ #[.pointer (some ⟨g, 0, none⟩)]) w fun v w' => v = .int .i64 ((waivL es).length : Nat) ∧ Ext w w' := by
  obtain ⟨A, c, hv, _, _⟩ := reads_of_owns h.st.waivs
  refine callsV_of C_ok (args := [_]) (plans := []) Tryz.func88 rfl Tryz.ntmps88 (by kernel_rfl) (Nat.le_of_ble_eq_true rfl) ?_
  refine ⟨l.ptr, cell_of_block hg rfl, ?_⟩
  refine ⟨_, cell_of_block (i := 1) h.block rfl, ?_⟩
  refine ⟨.slice A (waivL es).length c, cell_of_block (i := 2) h.st.block (by show some l.s.vW = _; rw [hv]), ?_⟩
  exact ⟨rfl, Ext.refl _⟩
theorem gifts_len {w : World} {l : LV} {es : List Entry} (h : LedgerIs w l es) {g : Nat} (hg : w.heap[g]? = some (.cells #[l.ptr] 26 (0, 0))) :
    CallsV C.P 120 (#[] ++ ([] : List Value).toArray ++ #[.pointer (some ⟨g, 0, none⟩)]) w fun v w' => v = .int .i64 ((giftL es).length : Nat) ∧ Ext w w' := by
  obtain ⟨A, c, hv, _, _⟩ := reads_of_owns h.st.gifts
  refine callsV_of C_ok (args := [_]) (plans := []) Tryz.func120 rfl Tryz.ntmps120 (by kernel_rfl) (Nat.le_of_ble_eq_true rfl) ?_
  refine ⟨l.ptr, cell_of_block hg rfl, ?_⟩
  refine ⟨_, cell_of_block (i := 1) h.block rfl, ?_⟩
  refine ⟨.slice A (giftL es).length c, cell_of_block (i := 4) h.st.block (by show some l.s.vG = _; rw [hv]), ?_⟩
  exact ⟨rfl, Ext.refl _⟩

theorem grants_with {w : World} {x : Waiv} {g : Nat} (hg : w.heap[g]? = some (.cells x.cells.toArray 35 (0, 0))) (i : Int) :
    CallsV C.P 89 (#[] ++ [.int .i64 i].toArray ++ #[.pointer (some ⟨g, 0, none⟩)]) w fun v w' => v = (Entry.mk 3 x.day { x with id := i } giftZ 0 0 0).val ∧ Keep (fun k => k ≠ g) w w' := by
  suffices hQ : ∀ Q : Value → World → Prop, (∀ v w', v = (Entry.mk 3 x.day { x with id := i } giftZ 0 0 0).val ∧ Keep (fun k => k ≠ g) w w' → Q v w') → CallsV C.P 89 (#[] ++ [.int .i64 i].toArray ++ #[.pointer (some ⟨g, 0, none⟩)]) w Q from hQ _ fun _ _ h => h
  intro Q hQ
  refine callsV_of C_ok (args := [_, _]) (plans := []) Tryz.func89 rfl Tryz.ntmps89 (by kernel_rfl) (Nat.le_of_ble_eq_true rfl) ?_
  intro g3 w1 h1
  have hg1 := h1.ext.heap hg
  have hne : g3 ≠ g := fun e => by have := lt_of_heap hg; rw [h1.new] at e; omega
  refine ⟨rfl, _, _, hg1, Nat.le_of_ble_eq_true rfl, rfl, ?_⟩
  intro w2 h2
  have h2 : Put w1 g (.cells ({ x with id := i } : Waiv).cells.toArray 35 (0, 0)) w2 := h2
  have hg3 : w2.heap[g3]? = _ := (h2.there g3 hne).trans h1.here
  refine ⟨_, cell_of_block (i := 1) h2.here rfl, ?_⟩
  refine ⟨({ x with id := i } : Waiv).cells, rfl, Rd.of_block h2.here, ?_⟩
  refine ⟨rfl, _, _, hg3, Nat.le_of_ble_eq_true rfl, rfl, ?_⟩
  intro w3 h3
  have h3 : Put w2 g3 (.cells (Entry.mk 3 x.day { x with id := i } giftZ 0 0 0).cells.toArray 39 (0, 0)) w3 := h3
  refine ⟨(Entry.mk 3 x.day { x with id := i } giftZ 0 0 0).cells, rfl, Rd.of_block h3.here, ?_⟩
  refine hQ _ _ ⟨rfl, ?_⟩
  have k2 : Keep (fun k => k ≠ g) w w2 := (keep_ext h1.ext).put h2 (fun e => e rfl)
  exact ⟨h3.os.trans k2.os, h3.tape.trans k2.tape, h3.output.trans k2.output, by rw [h3.size]; exact k2.size, fun k hk hlt => by rw [h3.there k (fun e => by rw [e, h1.new] at hlt; omega)]; exact k2.block k hk hlt⟩

set_option maxRecDepth 100000 in
theorem Grant_spec {w : World} {l : LV} {es : List Entry} (h : LedgerIs w l es) (hl : es.length ≤ 400) {A : Option Addr} {f : List Fact} {c : Nat} (hf : HF w A f c) (hfl : f.length ≤ 2 ^ 20) {x : Waiv} (hx : x.Nums) :
    CallsV C.P 33 #[l.ptr, .slice A f.length c, x.val] w fun v w' => v = .tuple #[.int .i64 (if doF f es (grantE es x) = 0 then (((waivL es).length + 1 : Nat) : Int) else 0), .int .i64 (doF f es (grantE es x))] ∧ LdGo w l (addL (doF f es (grantE es x)) es (grantE es x)) w' := by
  have hwl := waivL_length es
  refine callsV_of C_ok (args := [_, _, _]) (plans := []) Tryz.func33 rfl Tryz.ntmps33 (by kernel_rfl) (Nat.le_of_ble_eq_true rfl) ?_
  intro g3 w1 h1
  have M1 := (Mem.start w).alloc h1
  intro g5 w2 h2
  have M2 : Mem w w2 [(g5, .cells x.cells.toArray 35 (0, 0)), (g3, .cells #[l.ptr] 26 (0, 0))] := M1.alloc h2
  refine ⟨l.ptr, M2.cell 1 rfl rfl, ?_⟩
  refine ⟨[], [.pointer (some ⟨g3, 0, none⟩)], rfl, rfl, ?_⟩
  refine ⟨[], [.pointer (some ⟨g5, 0, none⟩)], rfl, rfl, ?_⟩
  have h5 : ¬ l.has g5 := fun hq => by have := h.lt hq; have := M2.new 0 rfl; omega
  refine (next_spec (h.ext M2.ext) (by omega) (hf.ext M2.ext) hfl (x := grantE es x) (grantE_nums hx (by omega)) (n := (waivL es).length) (gx := g5) (by omega) rfl rfl h5 (reads_but hf.reads (M2.new 0 rfl) M2.ext)
    (fun w' e => grants_len ((h.ext M2.ext).ext e) (e.heap (M2.get 1 rfl))) (fun w' e => grants_with (e.heap (M2.get 0 rfl)) _)).mono ?_
  rintro v w3 ⟨rfl, l3, hg3, hi3, hk3, hn3⟩
  refine ⟨rfl, l3, hg3, hi3, keep_trans (keep_ext M2.ext) hk3 fun q hq hlt => ⟨hq, fun e => by have := M2.new 0 rfl; omega⟩, fun k hk => (hn3 k hk).imp id fun h => Nat.le_trans M2.ext.size h⟩

theorem offerE_nums {es : List Entry} {day frm to cur n ret : Int} (h1 : In64 day) (h2 : In64 frm) (h3 : In64 to) (h4 : 0 ≤ cur ∧ cur ≤ 255) (h5 : In64 n) (h6 : In64 ret) (hl : (giftL es).length ≤ 2 ^ 16) : (offerE es day frm to cur n ret).Nums :=
  ⟨(by show (0 : Int) ≤ 5 ∧ (5 : Int) ≤ 255; decide), h1, waivZ_nums, ⟨⟨by show -9223372036854775808 ≤ (((giftL es).length + 1 : Nat) : Int); omega, by show (((giftL es).length + 1 : Nat) : Int) ≤ 9223372036854775807; omega⟩, h1, h2, h3, h4, h5, in64_0, (by show (0 : Int) ≤ 0 ∧ (0 : Int) ≤ 255; decide), in64_0, h6⟩, in64_0, in64_0, in64_0⟩
set_option maxRecDepth 100000 in
theorem Offer_spec {w : World} {l : LV} {es : List Entry} (h : LedgerIs w l es) (hl : es.length ≤ 400) {day frm to cur n ret : Int} (h1 : In64 day) (h2 : In64 frm) (h3 : In64 to) (h4 : 0 ≤ cur ∧ cur ≤ 255) (h5 : In64 n) (h6 : In64 ret) (f : List Fact) :
    CallsV C.P 66 #[l.ptr, .int .i64 day, .int .i64 frm, .int .i64 to, .int .u8 cur, .int .i64 n, .int .i64 ret] w fun v w' =>
      v = .tuple #[.int .i64 (if doF f es (offerE es day frm to cur n ret) = 0 then (((giftL es).length + 1 : Nat) : Int) else 0), .int .i64 (doF f es (offerE es day frm to cur n ret))] ∧ LdGo w l (addL (doF f es (offerE es day frm to cur n ret)) es (offerE es day frm to cur n ret)) w' := by
  rw [doF_any (x := offerE es day frm to cur n ret) (show (5 : Int) ≠ 3 by decide) f []]
  have hgl := giftL_length es
  refine callsV_of C_ok (args := [_, _, _, _, _, _, _]) (plans := []) Tryz.func66 rfl Tryz.ntmps66 (by kernel_rfl) (Nat.le_of_ble_eq_true rfl) ?_
  intro g7 w1 a1
  have M1 := (Mem.start w).alloc a1
  intro g8 w2 a2
  have M2 := M1.alloc a2
  intro g9 w3 a3
  have M3 := M2.alloc a3
  intro g10 w4 a4
  have M4 := M3.alloc a4
  intro g11 w5 a5
  have M5 := M4.alloc a5
  intro g12 w6 a6
  have M6 := M5.alloc a6
  intro g13 w7 a7
  have M7 := M6.alloc a7
  have M : Mem w w7 [(g13, .cells #[.int .i64 ret] 3 (0, 0)), (g12, .cells #[.int .i64 n] 3 (0, 0)), (g11, .cells #[.int .u8 cur] 5 (0, 0)), (g10, .cells #[.int .i64 to] 3 (0, 0)), (g9, .cells #[.int .i64 frm] 3 (0, 0)), (g8, .cells #[.int .i64 day] 3 (0, 0)), (g7, .cells #[l.ptr] 26 (0, 0))] := M7
  clear M1 M2 M3 M4 M5 M6 M7
  refine ⟨l.ptr, M.cell 6 rfl rfl, ?_⟩
  refine ⟨[], [.pointer (some ⟨g7, 0, none⟩)], rfl, rfl, ?_⟩
  refine ⟨[], [.pointer (some ⟨g8, 0, none⟩), .pointer (some ⟨g9, 0, none⟩), .pointer (some ⟨g10, 0, none⟩), .pointer (some ⟨g11, 0, none⟩), .pointer (some ⟨g12, 0, none⟩), .pointer (some ⟨g13, 0, none⟩)], rfl, rfl, ?_⟩
  have h13 : ¬ l.has g13 := fun hq => by have := h.lt hq; have := M.new 0 rfl; omega
  refine (next_spec (h.ext M.ext) (by omega) (hf_nil w7) (Nat.zero_le _) (x := offerE es day frm to cur n ret) (offerE_nums h1 h2 h3 h4 h5 h6 (by omega)) (n := (giftL es).length) (gx := g13) (by omega) rfl rfl h13 (.inl rfl)
    (fun w' e => gifts_len ((h.ext M.ext).ext e) (e.heap (M.get 6 rfl))) (fun w' e => (gifts_with (e.heap (M.get 5 rfl)) (e.heap (M.get 4 rfl)) (e.heap (M.get 3 rfl)) (e.heap (M.get 2 rfl)) (e.heap (M.get 1 rfl)) (e.heap (M.get 0 rfl)) _).mono fun v w'' hv => ⟨hv.1, keep_ext hv.2⟩)).mono ?_
  rintro v w8 ⟨rfl, l3, hg3, hi3, hk3, hn3⟩
  refine ⟨rfl, l3, hg3, hi3, keep_trans (keep_ext M.ext) hk3 fun q hq hlt => ⟨hq, fun e => by have := M.new 0 rfl; omega⟩, fun k hk => (hn3 k hk).imp id fun h => Nat.le_trans M.ext.size h⟩

end Go.Proofs.YtcnbpfecgokhiaaGreatDoor
