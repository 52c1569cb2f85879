/- a part of the proof: steps, walks and plain laws that the law below stands on; no condition. -/
import Derived.Test.YtcnbpfecgokhiaaGreatDoorDSa
import Derived.Test.YtcnbpfecgokhiaaGreatDoorDSb
import Derived.Test.YtcnbpfecgokhiaaGreatDoorDSc
import Derived.Test.YtcnbpfecgokhiaaGreatDoorDSd
import Derived.Test.YtcnbpfecgokhiaaGreatDoorDSe
import Derived.Test.YtcnbpfecgokhiaaGreatDoorDSf
import Derived.Test.YtcnbpfecgokhiaaGreatDoorDSg
import Derived.Test.YtcnbpfecgokhiaaGreatDoorDSh
import Derived.Sort.Walk0
import Derived.Ground.SlsfProg
import Derived.Scope
import Derived.Laws.StructEq
set_option linter.unusedVariables false
set_option linter.unusedSimpArgs false
set_option linter.unnecessarySimpa false
set_option linter.unusedSectionVars false
namespace Go.Proofs.YtcnbpfecgokhiaaGreatDoor
open Go.Eng Go.RowKit
theorem hf_nil (w : World) : HF w none [] 0 := ⟨(fun x hx => by cases hx), .inl rfl, Nat.le_refl _, Nat.zero_le _⟩
/-- Facts matter for waivers alone. -/
theorem doF_any {x : Entry} (hk : x.kind ≠ 3) (f g : List Fact) (es : List Entry) : doF f es x = doF g es x := by
  unfold doF doE refusedE
  rw [if_neg hk, if_neg hk]
theorem in64_0 : In64 0 := ⟨by decide, by decide⟩
theorem waivZ_nums : waivZ.Nums := ⟨in64_0, in64_0, in64_0, in64_0, in64_0, in64_0, in64_0, in64_0, in64_0⟩
theorem giftZ_nums : giftZ.Nums := ⟨in64_0, in64_0, in64_0, in64_0, ⟨by decide, by decide⟩, in64_0, in64_0, ⟨by decide, by decide⟩, in64_0, in64_0⟩
theorem rateE_nums {day c n : Int} (h1 : In64 day) (h2 : 0 ≤ c ∧ c ≤ 255) (h3 : In64 n) : (rateE day c n).Nums := ⟨(by show (0 : Int) ≤ 1 ∧ (1 : Int) ≤ 255; decide), h1, waivZ_nums, giftZ_nums, ⟨by show -9223372036854775808 ≤ c; omega, by show c ≤ 9223372036854775807; omega⟩, in64_0, h3⟩
theorem ceilE_nums {day s n : Int} (h1 : In64 day) (h2 : In64 s) (h3 : In64 n) : (ceilE day s n).Nums := ⟨(by show (0 : Int) ≤ 2 ∧ (2 : Int) ≤ 255; decide), h1, waivZ_nums, giftZ_nums, h2, in64_0, h3⟩
theorem endE_nums {day i : Int} (h1 : In64 day) (h2 : In64 i) : (endE day i).Nums := ⟨(by show (0 : Int) ≤ 4 ∧ (4 : Int) ≤ 255; decide), h1, { waivZ_nums with id := h2 }, giftZ_nums, in64_0, in64_0, in64_0⟩
theorem takeE_nums {day i : Int} (h1 : In64 day) (h2 : In64 i) : (takeE day i).Nums := ⟨(by show (0 : Int) ≤ 6 ∧ (6 : Int) ≤ 255; decide), h1, waivZ_nums, { giftZ_nums with id := h2 }, in64_0, in64_0, in64_0⟩
theorem refuseE_nums {day i : Int} (h1 : In64 day) (h2 : In64 i) : (refuseE day i).Nums := ⟨(by show (0 : Int) ≤ 7 ∧ (7 : Int) ≤ 255; decide), h1, waivZ_nums, { giftZ_nums with id := h2 }, in64_0, in64_0, in64_0⟩
theorem SetRate_spec {w : World} {l : LV} {es : List Entry} (h : LedgerIs w l es) (hl : es.length ≤ 2 ^ 16) {day c n : Int} (h1 : In64 day) (h2 : 0 ≤ c ∧ c ≤ 255) (h3 : In64 n) (f : List Fact) :
    CallsV C.P 65 #[l.ptr, .int .i64 day, .int .u8 c, .int .i64 n] w fun v w' => v = .int .i64 (doF f es (rateE day c n)) ∧ LdGo w l (addL (doF f es (rateE day c n)) es (rateE day c n)) w' := by
  rw [doF_any (x := rateE day c n) (show (1 : Int) ≠ 3 by decide) f []]
  refine callsV_of C_ok (args := [_, _, _, _]) (plans := []) Tryz.func65 rfl Tryz.ntmps65 (by kernel_rfl) (Nat.le_of_ble_eq_true rfl) ?_
  refine ⟨c, fit ⟨by omega, by omega⟩, ?_⟩
  exact (Do_spec h hl (rateE_nums h1 h2 h3) (hf_nil w) (Nat.zero_le _)).mono fun v w' hv => hv
theorem SetCeiling_spec {w : World} {l : LV} {es : List Entry} (h : LedgerIs w l es) (hl : es.length ≤ 2 ^ 16) {day s n : Int} (h1 : In64 day) (h2 : In64 s) (h3 : In64 n) (f : List Fact) :
    CallsV C.P 69 #[l.ptr, .int .i64 day, .int .i64 s, .int .i64 n] w fun v w' => v = .int .i64 (doF f es (ceilE day s n)) ∧ LdGo w l (addL (doF f es (ceilE day s n)) es (ceilE day s n)) w' := by
  rw [doF_any (x := ceilE day s n) (show (2 : Int) ≠ 3 by decide) f []]
  refine callsV_of C_ok (args := [_, _, _, _]) (plans := []) Tryz.func69 rfl Tryz.ntmps69 (by kernel_rfl) (Nat.le_of_ble_eq_true rfl) ?_
  exact (Do_spec h hl (ceilE_nums h1 h2 h3) (hf_nil w) (Nat.zero_le _)).mono fun v w' hv => hv
theorem End_spec {w : World} {l : LV} {es : List Entry} (h : LedgerIs w l es) (hl : es.length ≤ 2 ^ 16) {day i : Int} (h1 : In64 day) (h2 : In64 i) (f : List Fact) :
    CallsV C.P 29 #[l.ptr, .int .i64 day, .int .i64 i] w fun v w' => v = .int .i64 (doF f es (endE day i)) ∧ LdGo w l (addL (doF f es (endE day i)) es (endE day i)) w' := by
  rw [doF_any (x := endE day i) (show (4 : Int) ≠ 3 by decide) f []]
  refine callsV_of C_ok (args := [_, _, _]) (plans := []) Tryz.func29 rfl Tryz.ntmps29 (by kernel_rfl) (Nat.le_of_ble_eq_true rfl) ?_
  exact (Do_spec h hl (endE_nums h1 h2) (hf_nil w) (Nat.zero_le _)).mono fun v w' hv => hv
theorem Take_spec {w : World} {l : LV} {es : List Entry} (h : LedgerIs w l es) (hl : es.length ≤ 2 ^ 16) {day i : Int} (h1 : In64 day) (h2 : In64 i) (f : List Fact) :
    CallsV C.P 67 #[l.ptr, .int .i64 day, .int .i64 i] w fun v w' => v = .int .i64 (doF f es (takeE day i)) ∧ LdGo w l (addL (doF f es (takeE day i)) es (takeE day i)) w' := by
  rw [doF_any (x := takeE day i) (show (6 : Int) ≠ 3 by decide) f []]
  refine callsV_of C_ok (args := [_, _, _]) (plans := []) Tryz.func67 rfl Tryz.ntmps67 (by kernel_rfl) (Nat.le_of_ble_eq_true rfl) ?_
  exact (Do_spec h hl (takeE_nums h1 h2) (hf_nil w) (Nat.zero_le _)).mono fun v w' hv => hv
theorem Refuse_spec {w : World} {l : LV} {es : List Entry} (h : LedgerIs w l es) (hl : es.length ≤ 2 ^ 16) {day i : Int} (h1 : In64 day) (h2 : In64 i) (f : List Fact) :
    CallsV C.P 70 #[l.ptr, .int .i64 day, .int .i64 i] w fun v w' => v = .int .i64 (doF f es (refuseE day i)) ∧ LdGo w l (addL (doF f es (refuseE day i)) es (refuseE day i)) w' := by
  rw [doF_any (x := refuseE day i) (show (7 : Int) ≠ 3 by decide) f []]
  refine callsV_of C_ok (args := [_, _, _]) (plans := []) Tryz.func70 rfl Tryz.ntmps70 (by kernel_rfl) (Nat.le_of_ble_eq_true rfl) ?_
  exact (Do_spec h hl (refuseE_nums h1 h2) (hf_nil w) (Nat.zero_le _)).mono fun v w' hv => hv
theorem reads_but {w w1 : World} {A : Option Addr} {cs : List Value} (h : Reads w A cs) {gx : Nat} (hg : w.heap.size ≤ gx) (e : Ext w w1) : cs = [] ∨ ∃ b o, A = some ⟨b, o, none⟩ ∧ b ≠ gx ∧ Rd w1 b o cs := by
  rcases h with h | ⟨b, o, hA, hr⟩
  · exact .inl h
  · cases cs with
    | nil => exact .inl rfl
    | cons v r =>
      have hlt : b < w.heap.size := block_lt_of_cell (hr 0 v rfl)
      exact .inr ⟨b, o, hA, by omega, hr.ext e⟩
def LdBut (gx : Nat) (w : World) (l : LV) (es : List Entry) (w' : World) : Prop := ∃ l', l'.gl = l.gl ∧ LedgerIs w' l' es ∧ Keep (fun k => ¬ l.has k ∧ k ≠ gx) w w' ∧ ∀ k, l'.has k → l.has k ∨ w.heap.size ≤ k
set_option maxRecDepth 100000 in
theorem next_spec {w : World} {l : LV} {es : List Entry} (h : LedgerIs w l es) (hl : es.length ≤ 2 ^ 16) {A : Option Addr} {f : List Fact} {c : Nat} (hf : HF w A f c) (hfl : f.length ≤ 2 ^ 20) {x : Entry} (hx : x.Nums)
    {g1 g2 gx n : Nat} {c1 c2 : Array Value} (hn : n < 500) (hg1 : C.can g1 = true) (hg2 : C.can g2 = true) (hgx : ¬ l.has gx) (hfx : fcells f = [] ∨ ∃ b o, A = some ⟨b, o, none⟩ ∧ b ≠ gx ∧ Rd w b o (fcells f))
    (have_ : ∀ w', Ext w w' → CallsV C.P g1 (#[] ++ ([] : List Value).toArray ++ c1) w' fun v w'' => v = .int .i64 (n : Nat) ∧ Ext w' w'')
    (with_ : ∀ w', Ext w w' → CallsV C.P g2 (#[] ++ [.int .i64 ((n + 1 : Nat) : Int)].toArray ++ c2) w' fun v w'' => v = x.val ∧ Keep (fun k => k ≠ gx) w' w'') :
    CallsV C.P 87 #[l.ptr, .slice A f.length c, .func (.func g1) #[] c1, .int .i64 500, .func (.func g2) #[] c2] w fun v w' => v = .tuple #[.int .i64 (if doF f es x = 0 then ((n + 1 : Nat) : Int) else 0), .int .i64 (doF f es x)] ∧ LdBut gx w l (addL (doF f es x) es x) w' := by
  refine callsV_of C_ok (args := [_, _, _, _, _]) (plans := []) Tryz.func87 rfl Tryz.ntmps87 (by kernel_rfl) (Nat.le_of_ble_eq_true rfl) ?_
  intro g9 w1 h1
  have M1 : Mem w w1 [(g9, .cells #[.func (.func g2) #[] c2] 133 (0, 0))] := (Mem.start w).alloc h1
  refine ⟨_, eqNilP _ _ _, ?_⟩
  refine brE_true hg1 ?_
  refine (have_ w1 M1.ext).mono ?_
  rintro v w2 ⟨rfl, e2⟩
  have M2 := M1.grow e2
  refine ⟨((n + 1 : Nat) : Int), fit ⟨by omega, by omega⟩, ?_⟩
  refine brE_true (decide_eq_true (by show ((n + 1 : Nat) : Int) ≤ 500; omega)) ?_
  refine ⟨_, M2.cell 0 rfl rfl, ?_⟩
  refine brE_true hg2 ?_
  refine (with_ w2 M2.ext).mono ?_
  rintro v w3 ⟨rfl, k3⟩
  have h3 : LedgerIs w3 l es := (h.ext M2.ext).keep fun k hk => k3.block k (fun e => hgx (e ▸ hk)) (Nat.lt_of_lt_of_le (h.lt hk) M2.ext.size)
  have hf3 : HF w3 A f c := ⟨hf.nums, by
    rcases hfx with hr | ⟨b, o, hA, hb, hr⟩
    · exact .inl hr
    · exact .inr ⟨b, o, hA, k3.rd (D := fun k => k ≠ gx) hb (hr.ext M2.ext)⟩, hf.len, hf.cap⟩
  have k13 : Keep (fun k => ¬ l.has k ∧ k ≠ gx) w w3 := keep_trans (keep_ext M2.ext) k3 fun q hq _ => hq.2
  refine (Do_spec h3 hl hx hf3 hfl).mono ?_
  rintro v w4 ⟨rfl, l4, hg4, hi4, hk4, hn4⟩
  have goal : LdBut gx w l (addL (doF f es x) es x) w4 := ⟨l4, hg4, hi4, keep_trans k13 hk4 fun q hq _ => hq.1, fun k hk => (hn4 k hk).imp id fun h => Nat.le_trans k13.size h⟩
  refine brE_ndec (fun b => ?_) (fun b => ?_)
  · have b : ¬ doF f es x = 0 := b
    exact ⟨by rw [if_neg b], goal⟩
  · have b : doF f es x = 0 := b
    exact ⟨by rw [if_pos b, b], goal⟩
theorem grantE_nums {es : List Entry} {x : Waiv} (hx : x.Nums) (hl : (waivL es).length ≤ 2 ^ 16) : (grantE es x).Nums := ⟨(by show (0 : Int) ≤ 3 ∧ (3 : Int) ≤ 255; decide), hx.day, { hx with id := ⟨by show -9223372036854775808 ≤ (((waivL es).length + 1 : Nat) : Int); omega, by show (((waivL es).length + 1 : Nat) : Int) ≤ 9223372036854775807; omega⟩ }, giftZ_nums, in64_0, in64_0, in64_0⟩
theorem grants_len {w : World} {l : LV} {es : List Entry} (h : LedgerIs w l es) {g : Nat} (hg : w.heap[g]? = some (.cells #[l.ptr] 26 (0, 0))) :
    CallsV C.P 88 (#[] ++ ([] : List Value).toArray ++ #[.pointer (some ⟨g, 0, none⟩)]) w fun v w' => v = .int .i64 ((waivL es).length : Nat) ∧ Ext w w' := by
  obtain ⟨A, c, hv, _, _⟩ := reads_of_owns h.st.waivs
  refine callsV_of C_ok (args := [_]) (plans := []) Tryz.func88 rfl Tryz.ntmps88 (by kernel_rfl) (Nat.le_of_ble_eq_true rfl) ?_
  refine ⟨l.ptr, cell_of_block hg rfl, ?_⟩
  refine ⟨_, cell_of_block (i := 1) h.block rfl, ?_⟩
  refine ⟨.slice A (waivL es).length c, cell_of_block (i := 2) h.st.block (by show some l.s.vW = _; rw [hv]), ?_⟩
  exact ⟨rfl, Ext.refl _⟩
theorem gifts_len {w : World} {l : LV} {es : List Entry} (h : LedgerIs w l es) {g : Nat} (hg : w.heap[g]? = some (.cells #[l.ptr] 26 (0, 0))) :
    CallsV C.P 120 (#[] ++ ([] : List Value).toArray ++ #[.pointer (some ⟨g, 0, none⟩)]) w fun v w' => v = .int .i64 ((giftL es).length : Nat) ∧ Ext w w' := by
  obtain ⟨A, c, hv, _, _⟩ := reads_of_owns h.st.gifts
  refine callsV_of C_ok (args := [_]) (plans := []) Tryz.func120 rfl Tryz.ntmps120 (by kernel_rfl) (Nat.le_of_ble_eq_true rfl) ?_
  refine ⟨l.ptr, cell_of_block hg rfl, ?_⟩
  refine ⟨_, cell_of_block (i := 1) h.block rfl, ?_⟩
  refine ⟨.slice A (giftL es).length c, cell_of_block (i := 4) h.st.block (by show some l.s.vG = _; rw [hv]), ?_⟩
  exact ⟨rfl, Ext.refl _⟩
theorem grants_with {w : World} {x : Waiv} {g : Nat} (hg : w.heap[g]? = some (.cells x.cells.toArray 35 (0, 0))) (i : Int) :
    CallsV C.P 89 (#[] ++ [.int .i64 i].toArray ++ #[.pointer (some ⟨g, 0, none⟩)]) w fun v w' => v = (Entry.mk 3 x.day { x with id := i } giftZ 0 0 0).val ∧ Keep (fun k => k ≠ g) w w' := by
  suffices hQ : ∀ Q : Value → World → Prop, (∀ v w', v = (Entry.mk 3 x.day { x with id := i } giftZ 0 0 0).val ∧ Keep (fun k => k ≠ g) w w' → Q v w') → CallsV C.P 89 (#[] ++ [.int .i64 i].toArray ++ #[.pointer (some ⟨g, 0, none⟩)]) w Q from hQ _ fun _ _ h => h
  intro Q hQ
  refine callsV_of C_ok (args := [_, _]) (plans := []) Tryz.func89 rfl Tryz.ntmps89 (by kernel_rfl) (Nat.le_of_ble_eq_true rfl) ?_
  intro g3 w1 h1
  have hg1 := h1.ext.heap hg
  have hne : g3 ≠ g := fun e => by have := lt_of_heap hg; rw [h1.new] at e; omega
  refine ⟨rfl, _, _, hg1, Nat.le_of_ble_eq_true rfl, rfl, ?_⟩
  intro w2 h2
  have h2 : Put w1 g (.cells ({ x with id := i } : Waiv).cells.toArray 35 (0, 0)) w2 := h2
  have hg3 : w2.heap[g3]? = _ := (h2.there g3 hne).trans h1.here
  refine ⟨_, cell_of_block (i := 1) h2.here rfl, ?_⟩
  refine ⟨({ x with id := i } : Waiv).cells, rfl, Rd.of_block h2.here, ?_⟩
  refine ⟨rfl, _, _, hg3, Nat.le_of_ble_eq_true rfl, rfl, ?_⟩
  intro w3 h3
  have h3 : Put w2 g3 (.cells (Entry.mk 3 x.day { x with id := i } giftZ 0 0 0).cells.toArray 39 (0, 0)) w3 := h3
  refine ⟨(Entry.mk 3 x.day { x with id := i } giftZ 0 0 0).cells, rfl, Rd.of_block h3.here, ?_⟩
  refine hQ _ _ ⟨rfl, ?_⟩
  have k2 : Keep (fun k => k ≠ g) w w2 := (keep_ext h1.ext).put h2 (fun e => e rfl)
  exact ⟨h3.os.trans k2.os, h3.tape.trans k2.tape, h3.output.trans k2.output, by rw [h3.size]; exact k2.size, fun k hk hlt => by rw [h3.there k (fun e => by rw [e, h1.new] at hlt; omega)]; exact k2.block k hk hlt⟩
set_option maxRecDepth 100000 in
theorem Grant_spec {w : World} {l : LV} {es : List Entry} (h : LedgerIs w l es) (hl : es.length ≤ 400) {A : Option Addr} {f : List Fact} {c : Nat} (hf : HF w A f c) (hfl : f.length ≤ 2 ^ 20) {x : Waiv} (hx : x.Nums) :
    CallsV C.P 33 #[l.ptr, .slice A f.length c, x.val] w fun v w' => v = .tuple #[.int .i64 (if doF f es (grantE es x) = 0 then (((waivL es).length + 1 : Nat) : Int) else 0), .int .i64 (doF f es (grantE es x))] ∧ LdGo w l (addL (doF f es (grantE es x)) es (grantE es x)) w' := by
  have hwl := waivL_length es
  refine callsV_of C_ok (args := [_, _, _]) (plans := []) Tryz.func33 rfl Tryz.ntmps33 (by kernel_rfl) (Nat.le_of_ble_eq_true rfl) ?_
  intro g3 w1 h1
  have M1 := (Mem.start w).alloc h1
  intro g5 w2 h2
  have M2 : Mem w w2 [(g5, .cells x.cells.toArray 35 (0, 0)), (g3, .cells #[l.ptr] 26 (0, 0))] := M1.alloc h2
  refine ⟨l.ptr, M2.cell 1 rfl rfl, ?_⟩
  refine ⟨[], [.pointer (some ⟨g3, 0, none⟩)], rfl, rfl, ?_⟩
  refine ⟨[], [.pointer (some ⟨g5, 0, none⟩)], rfl, rfl, ?_⟩
  have h5 : ¬ l.has g5 := fun hq => by have := h.lt hq; have := M2.new 0 rfl; omega
  refine (next_spec (h.ext M2.ext) (by omega) (hf.ext M2.ext) hfl (x := grantE es x) (grantE_nums hx (by omega)) (n := (waivL es).length) (gx := g5) (by omega) rfl rfl h5 (reads_but hf.reads (M2.new 0 rfl) M2.ext)
    (fun w' e => grants_len ((h.ext M2.ext).ext e) (e.heap (M2.get 1 rfl))) (fun w' e => grants_with (e.heap (M2.get 0 rfl)) _)).mono ?_
  rintro v w3 ⟨rfl, l3, hg3, hi3, hk3, hn3⟩
  refine ⟨rfl, l3, hg3, hi3, keep_trans (keep_ext M2.ext) hk3 fun q hq hlt => ⟨hq, fun e => by have := M2.new 0 rfl; omega⟩, fun k hk => (hn3 k hk).imp id fun h => Nat.le_trans M2.ext.size h⟩
theorem offerE_nums {es : List Entry} {day frm to cur n ret : Int} (h1 : In64 day) (h2 : In64 frm) (h3 : In64 to) (h4 : 0 ≤ cur ∧ cur ≤ 255) (h5 : In64 n) (h6 : In64 ret) (hl : (giftL es).length ≤ 2 ^ 16) : (offerE es day frm to cur n ret).Nums :=
  ⟨(by show (0 : Int) ≤ 5 ∧ (5 : Int) ≤ 255; decide), h1, waivZ_nums, ⟨⟨by show -9223372036854775808 ≤ (((giftL es).length + 1 : Nat) : Int); omega, by show (((giftL es).length + 1 : Nat) : Int) ≤ 9223372036854775807; omega⟩, h1, h2, h3, h4, h5, in64_0, (by show (0 : Int) ≤ 0 ∧ (0 : Int) ≤ 255; decide), in64_0, h6⟩, in64_0, in64_0, in64_0⟩
set_option maxRecDepth 100000 in
theorem Offer_spec {w : World} {l : LV} {es : List Entry} (h : LedgerIs w l es) (hl : es.length ≤ 400) {day frm to cur n ret : Int} (h1 : In64 day) (h2 : In64 frm) (h3 : In64 to) (h4 : 0 ≤ cur ∧ cur ≤ 255) (h5 : In64 n) (h6 : In64 ret) (f : List Fact) :
    CallsV C.P 66 #[l.ptr, .int .i64 day, .int .i64 frm, .int .i64 to, .int .u8 cur, .int .i64 n, .int .i64 ret] w fun v w' =>
      v = .tuple #[.int .i64 (if doF f es (offerE es day frm to cur n ret) = 0 then (((giftL es).length + 1 : Nat) : Int) else 0), .int .i64 (doF f es (offerE es day frm to cur n ret))] ∧ LdGo w l (addL (doF f es (offerE es day frm to cur n ret)) es (offerE es day frm to cur n ret)) w' := by
  rw [doF_any (x := offerE es day frm to cur n ret) (show (5 : Int) ≠ 3 by decide) f []]
  have hgl := giftL_length es
  refine callsV_of C_ok (args := [_, _, _, _, _, _, _]) (plans := []) Tryz.func66 rfl Tryz.ntmps66 (by kernel_rfl) (Nat.le_of_ble_eq_true rfl) ?_
  intro g7 w1 a1
  have M1 := (Mem.start w).alloc a1
  intro g8 w2 a2
  have M2 := M1.alloc a2
  intro g9 w3 a3
  have M3 := M2.alloc a3
  intro g10 w4 a4
  have M4 := M3.alloc a4
  intro g11 w5 a5
  have M5 := M4.alloc a5
  intro g12 w6 a6
  have M6 := M5.alloc a6
  intro g13 w7 a7
  have M7 := M6.alloc a7
  have M : Mem w w7 [(g13, .cells #[.int .i64 ret] 3 (0, 0)), (g12, .cells #[.int .i64 n] 3 (0, 0)), (g11, .cells #[.int .u8 cur] 5 (0, 0)), (g10, .cells #[.int .i64 to] 3 (0, 0)), (g9, .cells #[.int .i64 frm] 3 (0, 0)), (g8, .cells #[.int .i64 day] 3 (0, 0)), (g7, .cells #[l.ptr] 26 (0, 0))] := M7
  clear M1 M2 M3 M4 M5 M6 M7
  refine ⟨l.ptr, M.cell 6 rfl rfl, ?_⟩
  refine ⟨[], [.pointer (some ⟨g7, 0, none⟩)], rfl, rfl, ?_⟩
  refine ⟨[], [.pointer (some ⟨g8, 0, none⟩), .pointer (some ⟨g9, 0, none⟩), .pointer (some ⟨g10, 0, none⟩), .pointer (some ⟨g11, 0, none⟩), .pointer (some ⟨g12, 0, none⟩), .pointer (some ⟨g13, 0, none⟩)], rfl, rfl, ?_⟩
  have h13 : ¬ l.has g13 := fun hq => by have := h.lt hq; have := M.new 0 rfl; omega
  refine (next_spec (h.ext M.ext) (by omega) (hf_nil w7) (Nat.zero_le _) (x := offerE es day frm to cur n ret) (offerE_nums h1 h2 h3 h4 h5 h6 (by omega)) (n := (giftL es).length) (gx := g13) (by omega) rfl rfl h13 (.inl rfl)
    (fun w' e => gifts_len ((h.ext M.ext).ext e) (e.heap (M.get 6 rfl))) (fun w' e => (gifts_with (e.heap (M.get 5 rfl)) (e.heap (M.get 4 rfl)) (e.heap (M.get 3 rfl)) (e.heap (M.get 2 rfl)) (e.heap (M.get 1 rfl)) (e.heap (M.get 0 rfl)) _).mono fun v w'' hv => ⟨hv.1, keep_ext hv.2⟩)).mono ?_
  rintro v w8 ⟨rfl, l3, hg3, hi3, hk3, hn3⟩
  refine ⟨rfl, l3, hg3, hi3, keep_trans (keep_ext M.ext) hk3 fun q hq hlt => ⟨hq, fun e => by have := M.new 0 rfl; omega⟩, fun k hk => (hn3 k hk).imp id fun h => Nat.le_trans M.ext.size h⟩
end Go.Proofs.YtcnbpfecgokhiaaGreatDoor
namespace Go.Proofs.YtcnbpfecgokhiaaGreatDoor
open Go.Eng Go.RowKit
/-- A state made since a world. -/
structure StNew (w0 w : World) (s : SV) (es : List Entry) : Prop where
  is : StateIs w s es
  new : ∀ k, s.has k → w0.heap.size ≤ k
  ext : Ext w0 w
theorem StNew.go {w0 w w' : World} {s : SV} {es es' : List Entry} (h : StNew w0 w s es) (k : StGo w s es' w') : ∃ s', s'.gs = s.gs ∧ StNew w0 w' s' es' := by
  obtain ⟨s', hg, hi, hk, hn⟩ := k
  refine ⟨s', hg, hi, fun q hq => ?_, ⟨hk.os.trans h.ext.os, hk.tape.trans h.ext.tape, hk.output.trans h.ext.output, Nat.le_trans h.ext.size hk.size, fun q hq => ?_⟩⟩
  · rcases hn q hq with h1 | h1
    · exact h.new q h1
    · exact Nat.le_trans h.ext.size h1
  · rw [hk.block q (fun h1 => by have := h.new q h1; omega) (Nat.lt_of_lt_of_le hq h.ext.size)]
    exact h.ext.block q hq
theorem StNew.then {w0 w w' : World} {s : SV} {es : List Entry} (h : StNew w0 w s es) (e : Ext w w') : StNew w0 w' s es := ⟨h.is.ext e, h.new, h.ext.trans e⟩
theorem asOf_step {es : List Entry} (hA : Acc es) {i : Nat} (hi : i < es.length) {day : Int} (hd : es[i].day ≤ day) : ∃ sg, doE sg (asOfL (es.take i) day) es[i] = 0 := by
  have h1 : asOfL (es.take i) day = es.take i := asOf_all fun x hx => by
    obtain ⟨j, hj, rfl⟩ := List.getElem_of_mem hx
    rw [List.length_take] at hj
    rw [List.getElem_take]
    have := List.pairwise_iff_getElem.1 (acc_ok hA).days j i (by omega) hi (by omega)
    omega
  rw [h1]
  have h2 := acc_front hA (i + 1)
  rw [List.take_succ_eq_append_getElem hi] at h2
  exact (acc_inv h2).2
theorem asOf_take_succ {es : List Entry} {i : Nat} (hi : i < es.length) (day : Int) : asOfL (es.take (i + 1)) day = asOfL (es.take i) day ++ if es[i].day ≤ day then [es[i]] else [] := by
  rw [List.take_succ_eq_append_getElem hi, asOf_snoc]
theorem asOfL_length (es : List Entry) (day : Int) : (asOfL es day).length ≤ es.length := List.length_filter_le _ _
set_option maxRecDepth 100000 in
theorem asOf_spec {w : World} {l : LV} {es : List Entry} (h : LedgerIs w l es) (hl : es.length ≤ 2 ^ 16) (day : Int) :
    CallsV C.P 79 #[l.ptr, .int .i64 day] w fun v w' => ∃ s : SV, v = .pointer (some ⟨s.gs, 0, none⟩) ∧ StNew w w' s (asOfL es day) := by
  obtain ⟨A, c, hv, hr, _⟩ := reads_of_owns h.row
  refine callsV_of C_ok (args := [_, _]) (plans := []) Tryz.func79 rfl Tryz.ntmps79 (by kernel_rfl) (Nat.le_of_ble_eq_true rfl) ?_
  refine (newState_spec w).mono ?_
  rintro v w1 ⟨⟨s0, rfl, hs0, hn0⟩, e1⟩
  have hvc : w1.cell? ⟨l.gl, 0, none⟩ = some (.slice A es.length c) := cell_of_block (e1.heap h.block) (by show some l.vE = _; rw [hv])
  refine ⟨_, eqNilP _ _ _, ?_⟩
  refine ⟨_, hvc, ?_⟩
  refine loopE C_ok (fun (i : Nat) => [(1, .int .i64 day), (5, .pointer (some ⟨s0.gs, 0, none⟩)), (15, .slice A es.length c), (16, .int .i64 es.length), (17, .int .i64 i)])
    (fun i w' => i ≤ es.length ∧ ∃ s : SV, s.gs = s0.gs ∧ StNew w w' s (asOfL (es.take i) day)) (fun i => es.length - i) 0 ⟨rfl, rfl, rfl, rfl, rfl, trivial⟩
    ⟨Nat.zero_le _, s0, rfl, by rw [List.take_zero]; exact hs0, hn0, e1⟩ ?_
  rintro i w2 ⟨hi, s, hgs, hst⟩
  refine brE_dec (fun hlt => ?_) (fun hge => ?_)
  · have hlt : i < es.length := by have : (i : Int) < (es.length : Nat) := hlt; omega
    obtain ⟨b, o, hA, hc⟩ := Reads.elem Entry.len (by omega) (hr.ext hst.ext) hlt
    refine ⟨i, b, o, rfl, hlt, hA, ?_⟩
    refine ⟨es[i].cells, rfl, hc, ?_⟩
    intro g3 w3 h3
    refine ⟨rfl, _, _, h3.here, Nat.le_of_ble_eq_true rfl, rfl, ?_⟩
    intro w4 h4
    have h4 : Put w3 g3 (.cells es[i].cells.toArray 39 (0, 0)) w4 := h4
    have e24 : Ext w2 w4 := h4.ext_of h3.ext (by rw [h3.new]; exact Nat.le_refl _)
    have hst4 := hst.then e24
    refine ⟨_, cell_of_block (i := 1) h4.here rfl, ?_⟩
    have hnext := asOf_take_succ hlt day
    refine brE_dec (fun hd => ?_) (fun hd => ?_)
    · have hd : es[i].day ≤ day := hd
      rw [if_pos hd] at hnext
      obtain ⟨sg, hsg⟩ := asOf_step h.acc hlt hd
      refine ⟨es[i].cells, rfl, Rd.of_block h4.here, ?_⟩
      have hdo := do_spec hst4.is (acc_asOf (acc_front h.acc i) day) (h.nums _ (List.getElem_mem hlt)) hsg
      rw [hgs] at hdo
      refine hdo.mono ?_
      intro v w5 hgo
      obtain ⟨s5, hg5, hs5⟩ := hst4.go hgo
      refine ⟨((i + 1 : Nat) : Int), fit ⟨by omega, by omega⟩, ?_⟩
      exact ⟨i + 1, ⟨rfl, rfl, rfl, rfl, rfl, trivial⟩, ⟨hlt, s5, hg5.trans hgs, by rw [hnext]; exact hs5⟩, by show es.length - (i + 1) < es.length - i; omega⟩
    · have hd : ¬ es[i].day ≤ day := hd
      rw [if_neg hd, List.append_nil] at hnext
      refine ⟨((i + 1 : Nat) : Int), fit ⟨by omega, by omega⟩, ?_⟩
      exact ⟨i + 1, ⟨rfl, rfl, rfl, rfl, rfl, trivial⟩, ⟨hlt, s, hgs, by rw [hnext]; exact hst4⟩, by show es.length - (i + 1) < es.length - i; omega⟩
  · have hge : i = es.length := by have : ¬ (i : Int) < (es.length : Nat) := hge; omega
    rw [hge, List.take_length] at hst
    exact ⟨s, by rw [hgs], hst⟩
theorem ext_below {w w1 w2 : World} {B : Nat} (e : Ext w w1) (h : Below B w1 w2) (hB : w.heap.size ≤ B) : Ext w w2 :=
  ⟨h.os.trans e.os, h.tape.trans e.tape, h.output.trans e.output, Nat.le_trans e.size h.size, fun k hk => (h.block k (by omega)).trans (e.block k hk)⟩
theorem below_heap {B : Nat} {w w' : World} (h : Below B w w') {k : Nat} (hk : k < B) {o : Obj} (hv : w.heap[k]? = some o) : w'.heap[k]? = some o := by rw [h.block k hk]; exact hv
theorem StNew.waivs {w0 w : World} {s : SV} {es : List Entry} (h : StNew w0 w s es) : NewL Waiv.cells 35 9 w0.heap.size w s.vW (waivL es) := owns_from h.is.waivs fun k hk => h.new k (.inr (.inr (.inr (.inr (.inr (.inl hk))))))
theorem StNew.gifts {w0 w : World} {s : SV} {es : List Entry} (h : StNew w0 w s es) : NewL Gift.cells 37 10 w0.heap.size w s.vG (giftL es) := owns_from h.is.gifts fun k hk => h.new k (.inr (.inr (.inr (.inr (.inr (.inr hk))))))
theorem off_spec {w : World} {g : Nat} {day : Int} (hg : w.heap[g]? = some (.cells #[.int .i64 day] 3 (0, 0))) (x : Waiv) :
    CallsV C.P 80 (#[] ++ [x.val].toArray ++ #[.pointer (some ⟨g, 0, none⟩)]) w fun v w' => v = .bool (!forceB day x) ∧ Ext w w' := by
  refine callsV_of C_ok (args := [_, _]) (plans := []) Tryz.func80 rfl Tryz.ntmps80 (by kernel_rfl) (Nat.le_of_ble_eq_true rfl) ?_
  intro g2 w1 h1
  have M1 : Mem w w1 [(g2, .cells x.cells.toArray 35 (0, 0))] := (Mem.start w).alloc h1
  refine ⟨.int .i64 day, cell_of_block (M1.ext.heap hg) rfl, ?_⟩
  refine ⟨_, M1.cell 0 rfl rfl, ?_⟩
  refine brE_dec (fun c1 => ?_) (fun c1 => ?_)
  · have c1 : day < x.since := c1
    exact ⟨congrArg _ (by unfold forceB; rw [decide_eq_false (by omega)]; rfl), M1.ext⟩
  have c1 : ¬ day < x.since := c1
  refine ⟨.int .i64 day, cell_of_block (M1.ext.heap hg) rfl, ?_⟩
  refine ⟨_, M1.cell 0 rfl rfl, ?_⟩
  refine ⟨congrArg _ ?_, M1.ext⟩
  show decide (x.til ≤ day) = _
  unfold forceB
  rw [decide_eq_true (by omega : x.since ≤ day), Bool.true_and]
  by_cases h : x.til ≤ day
  · rw [decide_eq_true h, decide_eq_false (by omega)]; rfl
  · rw [decide_eq_false h, decide_eq_true (by omega)]; rfl
theorem Waivers_spec {w : World} {l : LV} {es : List Entry} (h : LedgerIs w l es) (hl : es.length ≤ 2 ^ 16) (day : Int) :
    CallsV C.P 28 #[l.ptr, .int .i64 day] w fun v w' => NewL Waiv.cells 35 9 w.heap.size w' v (waiversAt es day) ∧ Ext w w' := by
  have hwl := waivL_length (asOfL es day)
  have hal := asOfL_length es day
  refine callsV_of C_ok (args := [_, _]) (plans := []) Tryz.func28 rfl Tryz.ntmps28 (by kernel_rfl) (Nat.le_of_ble_eq_true rfl) ?_
  intro g3 w1 h1
  have M1 : Mem w w1 [(g3, .cells #[.int .i64 day] 3 (0, 0))] := (Mem.start w).alloc h1
  refine ⟨_, M1.cell 0 rfl rfl, ?_⟩
  refine (asOf_spec (h.ext M1.ext) hl day).mono ?_
  rintro v w2 ⟨s, rfl, hs⟩
  refine ⟨s.vW, cell_of_block (i := 2) hs.is.block rfl, ?_⟩
  refine ⟨[], [.pointer (some ⟨g3, 0, none⟩)], rfl, rfl, ?_⟩
  have hg3 := lt_of_heap (M1.get 0 rfl)
  refine (DeleteFuncW_spec hs.waivs hs.ext.size (by omega) rfl (p := fun x => !forceB day x) fun x w' hb => off_spec (below_heap hb hg3 (hs.ext.heap (M1.get 0 rfl))) x).mono ?_
  rintro v w3 ⟨h3, b3⟩
  have e : ((waivL (asOfL es day)).filter fun x => !(!forceB day x)) = waiversAt es day := by
    unfold waiversAt
    refine List.filter_congr fun x _ => Bool.not_not _
  rw [e] at h3
  exact ⟨h3.base M1.ext.size, ext_below (M1.ext.trans hs.ext) b3 M1.ext.size⟩
theorem notSides_spec {w : World} {g : Nat} {st : Int} (hg : w.heap[g]? = some (.cells #[.int .i64 st] 3 (0, 0))) (x : Gift) :
    CallsV C.P 82 (#[] ++ [x.val].toArray ++ #[.pointer (some ⟨g, 0, none⟩)]) w fun v w' => v = .bool (!(decide (x.frm = st) || decide (x.to = st))) ∧ Ext w w' := by
  refine callsV_of C_ok (args := [_, _]) (plans := []) Tryz.func82 rfl Tryz.ntmps82 (by kernel_rfl) (Nat.le_of_ble_eq_true rfl) ?_
  intro g2 w1 h1
  have M1 : Mem w w1 [(g2, .cells x.cells.toArray 37 (0, 0))] := (Mem.start w).alloc h1
  refine ⟨_, M1.cell 0 rfl rfl, ?_⟩
  refine ⟨.int .i64 st, cell_of_block (M1.ext.heap hg) rfl, ?_⟩
  refine brE_ndec (fun c1 => ?_) (fun c1 => ?_)
  · have c1 : ¬ x.frm = st := c1
    refine ⟨_, M1.cell 0 rfl rfl, ?_⟩
    refine ⟨.int .i64 st, cell_of_block (M1.ext.heap hg) rfl, ?_⟩
    refine ⟨congrArg _ ?_, M1.ext⟩
    show (!decide (x.to = st)) = _
    rw [decide_eq_false c1, Bool.false_or]
  · have c1 : x.frm = st := c1
    exact ⟨congrArg _ (by rw [decide_eq_true c1]; rfl), M1.ext⟩
theorem Gifts_spec {w : World} {l : LV} {es : List Entry} (h : LedgerIs w l es) (hl : es.length ≤ 2 ^ 16) (st day : Int) :
    CallsV C.P 30 #[l.ptr, .int .i64 st, .int .i64 day] w fun v w' => NewL Gift.cells 37 10 w.heap.size w' v (giftsAt es st day) ∧ Ext w w' := by
  have hwl := giftL_length (asOfL es day)
  have hal := asOfL_length es day
  refine callsV_of C_ok (args := [_, _, _]) (plans := []) Tryz.func30 rfl Tryz.ntmps30 (by kernel_rfl) (Nat.le_of_ble_eq_true rfl) ?_
  intro g3 w1 h1
  have M1 : Mem w w1 [(g3, .cells #[.int .i64 st] 3 (0, 0))] := (Mem.start w).alloc h1
  refine (asOf_spec (h.ext M1.ext) hl day).mono ?_
  rintro v w2 ⟨s, rfl, hs⟩
  refine ⟨s.vG, cell_of_block (i := 4) hs.is.block rfl, ?_⟩
  refine ⟨[], [.pointer (some ⟨g3, 0, none⟩)], rfl, rfl, ?_⟩
  have hg3 := lt_of_heap (M1.get 0 rfl)
  refine (DeleteFuncG_spec hs.gifts hs.ext.size (by omega) rfl (p := fun x => !(decide (x.frm = st) || decide (x.to = st))) fun x w' hb => notSides_spec (below_heap hb hg3 (hs.ext.heap (M1.get 0 rfl))) x).mono ?_
  rintro v w3 ⟨h3, b3⟩
  have e : ((giftL (asOfL es day)).filter fun x => !(!(decide (x.frm = st) || decide (x.to = st)))) = giftsAt es st day := by
    unfold giftsAt
    refine List.filter_congr fun x _ => Bool.not_not _
  rw [e] at h3
  exact ⟨h3.base M1.ext.size, ext_below (M1.ext.trans hs.ext) b3 M1.ext.size⟩
/-- Days of gifts are days. -/
theorem offer_plain {sg : Int} {es : List Entry} {x : Entry} (hk : x.kind = 5) (hx : doE sg es x = 0) : x.g.answered = 0 := by
  obtain ⟨_, hw, _⟩ := form_okE (do_zero hx).1
  have h5 : wantE x = ⟨x.kind, x.day, waivZ, plainG x.g, 0, 0, 0⟩ := by
    unfold wantE; rw [if_neg (by omega), if_neg (by omega), if_neg (by omega), if_pos hk]
  rw [h5] at hw
  have : x.g = plainG x.g := by rw [hw]; rfl
  rw [this]; rfl
theorem answered_ok {es : List Entry} (h : Acc es) : ∀ g ∈ giftL es, 0 ≤ g.answered ∧ g.answered ≤ 100000 := by
  induction h with
  | nil => intro g hg; cases hg
  | @snoc es x sg hA hx ih =>
    obtain ⟨hf, _, _⟩ := do_zero hx
    obtain ⟨hok, _, hd⟩ := form_okE hf
    have set_ok : ∀ {gs : List Gift} {k : Nat} (hk : k < gs.length) {y : Gift}, (∀ g ∈ gs, 0 ≤ g.answered ∧ g.answered ≤ 100000) → (0 ≤ y.answered ∧ y.answered ≤ 100000) → ∀ g ∈ gs.set k y, 0 ≤ g.answered ∧ g.answered ≤ 100000 := by
      intro gs k hk y hall hy g hg
      rcases List.mem_or_eq_of_mem_set hg with hg | rfl
      · exact hall g hg
      · exact hy
    by_cases h5 : x.kind = 5
    · intro g hg
      rw [(offer_gift h5 hx).1] at hg
      rcases List.mem_append.1 hg with hg | hg
      · exact ih g hg
      · rw [List.mem_singleton.1 hg]
        show 0 ≤ x.g.answered ∧ x.g.answered ≤ 100000
        rw [offer_plain h5 hx]; omega
    by_cases h6 : x.kind = 6
    · obtain ⟨k, hl, hid, hst⟩ := ans_parts (.inl h6) hx
      have hG := gift_take h6 hl hid
      have h1 := set_ok hl (y := takeG x.day (giftL es)[k]) ih hd
      rw [hG]
      dsimp only
      split
      · exact h1
      · split
        · intro g hg
          unfold updAt at hg
          rcases List.mem_or_eq_of_mem_set hg with hg | rfl
          · exact h1 g hg
          · show 0 ≤ (atN ((giftL es).set k (takeG x.day (giftL es)[k])) (giftL es)[k].returns).answered ∧ (atN ((giftL es).set k (takeG x.day (giftL es)[k])) (giftL es)[k].returns).answered ≤ 100000
            unfold atN
            by_cases hlt : ((giftL es)[k].returns - 1).toNat < ((giftL es).set k (takeG x.day (giftL es)[k])).length
            · rw [List.getD_eq_getElem?_getD, List.getElem?_eq_getElem hlt]
              exact h1 _ (List.getElem_mem hlt)
            · rw [List.getD_eq_getElem?_getD, List.getElem?_eq_none (by omega)]
              exact ⟨by decide, by decide⟩
        · exact h1
    by_cases h7 : x.kind = 7
    · obtain ⟨k, hl, hid, hst⟩ := ans_parts (.inr h7) hx
      rw [gift_refuse h7 hl hid]
      exact set_ok hl ih hd
    rw [gift_plain h5 h6 h7]; exact ih
def lateB (day : Int) (x : Gift) : Bool := !debtB x || decide (day ≤ IntKind.i64.wrap (x.answered + 365))
theorem notDue_spec {w : World} {g : Nat} {day : Int} (hg : w.heap[g]? = some (.cells #[.int .i64 day] 3 (0, 0))) (x : Gift) :
    CallsV C.P 106 (#[] ++ [x.val].toArray ++ #[.pointer (some ⟨g, 0, none⟩)]) w fun v w' => v = .bool (lateB day x) ∧ Ext w w' := by
  refine callsV_of C_ok (args := [_, _]) (plans := []) Tryz.func106 rfl Tryz.ntmps106 (by kernel_rfl) (Nat.le_of_ble_eq_true rfl) ?_
  intro g2 w1 h1
  have M1 : Mem w w1 [(g2, .cells x.cells.toArray 37 (0, 0))] := (Mem.start w).alloc h1
  refine ⟨x.cells, rfl, M1.rd 0 rfl, ?_⟩
  refine (debt_spec x w1).mono ?_
  rintro v w2 ⟨rfl, e2⟩
  have M2 := M1.grow e2
  refine brE_mk (fun c1 => ?_) (fun c1 => ?_)
  · exact ⟨congrArg _ (by unfold lateB; rw [c1]; rfl), M2.ext⟩
  refine ⟨.int .i64 day, cell_of_block (M2.ext.heap hg) rfl, ?_⟩
  refine ⟨_, M2.cell 0 rfl rfl, ?_⟩
  refine ⟨_, rfl, ?_⟩
  exact ⟨congrArg _ (by unfold lateB; rw [c1]; rfl), M2.ext⟩
theorem Overdue_spec {w : World} {l : LV} {es : List Entry} (h : LedgerIs w l es) (hl : es.length ≤ 2 ^ 16) (day : Int) :
    CallsV C.P 57 #[l.ptr, .int .i64 day] w fun v w' => NewL Gift.cells 37 10 w.heap.size w' v (overdueAt es day) ∧ Ext w w' := by
  have hwl := giftL_length (asOfL es day)
  have hal := asOfL_length es day
  refine callsV_of C_ok (args := [_, _]) (plans := []) Tryz.func57 rfl Tryz.ntmps57 (by kernel_rfl) (Nat.le_of_ble_eq_true rfl) ?_
  intro g3 w1 h1
  have M1 : Mem w w1 [(g3, .cells #[.int .i64 day] 3 (0, 0))] := (Mem.start w).alloc h1
  refine ⟨_, M1.cell 0 rfl rfl, ?_⟩
  refine (asOf_spec (h.ext M1.ext) hl day).mono ?_
  rintro v w2 ⟨s, rfl, hs⟩
  refine ⟨s.vG, cell_of_block (i := 4) hs.is.block rfl, ?_⟩
  refine ⟨[], [.pointer (some ⟨g3, 0, none⟩)], rfl, rfl, ?_⟩
  have hg3 := lt_of_heap (M1.get 0 rfl)
  refine (DeleteFuncG_spec hs.gifts hs.ext.size (by omega) rfl (p := lateB day) fun x w' hb => notDue_spec (below_heap hb hg3 (hs.ext.heap (M1.get 0 rfl))) x).mono ?_
  rintro v w3 ⟨h3, b3⟩
  have e : ((giftL (asOfL es day)).filter fun x => !lateB day x) = overdueAt es day := by
    unfold overdueAt
    refine List.filter_congr fun x hx => ?_
    have := answered_ok (acc_asOf h.acc day) x hx
    unfold lateB
    rw [fit (show In64 (x.answered + 365) from ⟨by omega, by omega⟩), Bool.not_or, Bool.not_not]
    congr 1
    by_cases h : day ≤ x.answered + 365
    · rw [decide_eq_true h, decide_eq_false (by omega)]; rfl
    · rw [decide_eq_false h, decide_eq_true (by omega)]; rfl
  rw [e] at h3
  exact ⟨h3.base M1.ext.size, ext_below (M1.ext.trans hs.ext) b3 M1.ext.size⟩
theorem coverOf_spec {w : World} {g5 g6 : Nat} {u o : Guest} (h5 : w.heap[g5]? = some (.cells u.cells.toArray 70 (0, 0))) (h6 : w.heap[g6]? = some (.cells o.cells.toArray 70 (0, 0))) (x : Waiv) :
    CallsV C.P 90 (#[] ++ [x.val].toArray ++ #[.pointer (some ⟨g5, 0, none⟩), .pointer (some ⟨g6, 0, none⟩)]) w fun v w' => v = .bool (coversB x u o) ∧ Ext w w' := by
  refine callsV_of C_ok (args := [_, _, _]) (plans := []) Tryz.func90 rfl Tryz.ntmps90 (by kernel_rfl) (Nat.le_of_ble_eq_true rfl) ?_
  intro g2 w1 h1
  have M1 : Mem w w1 [(g2, .cells x.cells.toArray 35 (0, 0))] := (Mem.start w).alloc h1
  refine ⟨x.cells, rfl, M1.rd 0 rfl, ?_⟩
  refine ⟨u.cells, rfl, Rd.of_block (M1.ext.heap h5), ?_⟩
  refine ⟨o.cells, rfl, Rd.of_block (M1.ext.heap h6), ?_⟩
  exact (covers_spec x u o w1).mono fun v w' hv => ⟨hv.1, M1.ext.trans hv.2⟩
theorem waiversAt_length (es : List Entry) (day : Int) : (waiversAt es day).length ≤ es.length :=
  Nat.le_trans (List.length_filter_le _ _) (Nat.le_trans (waivL_length _) (asOfL_length es day))
theorem Covers_spec {w : World} {l : LV} {es : List Entry} (h : LedgerIs w l es) (hl : es.length ≤ 2 ^ 16) (u o : Guest) (day : Int) :
    CallsV C.P 35 #[l.ptr, u.val, o.val, .int .i64 day] w fun v w' => v = .bool (coversAt es u o day) ∧ Ext w w' := by
  have hwl := waiversAt_length es day
  refine callsV_of C_ok (args := [_, _, _, _]) (plans := []) Tryz.func35 rfl Tryz.ntmps35 (by kernel_rfl) (Nat.le_of_ble_eq_true rfl) ?_
  intro g5 w1 h1
  have M1 := (Mem.start w).alloc h1
  intro g6 w2 h2
  have M2 : Mem w w2 [(g6, .cells o.cells.toArray 70 (0, 0)), (g5, .cells u.cells.toArray 70 (0, 0))] := M1.alloc h2
  refine (Waivers_spec (h.ext M2.ext) hl day).mono ?_
  rintro v w3 ⟨h3, e3⟩
  obtain ⟨A, c, rfl, hr⟩ := h3.hl
  refine ⟨[], [.pointer (some ⟨g5, 0, none⟩), .pointer (some ⟨g6, 0, none⟩)], rfl, rfl, ?_⟩
  refine (ContainsFuncW_spec hr.reads (by omega) rfl (p := fun x => coversB x u o) fun x w' e => coverOf_spec ((e3.trans e).heap (M2.get 1 rfl)) ((e3.trans e).heap (M2.get 0 rfl)) x).mono ?_
  rintro v w4 ⟨rfl, e4⟩
  exact ⟨rfl, M2.ext.trans (e3.trans e4)⟩
end Go.Proofs.YtcnbpfecgokhiaaGreatDoor
namespace Go.Proofs.YtcnbpfecgokhiaaGreatDoor
open Go.Eng Go.RowKit
theorem Opn.len (x : Opn) : x.cells.length = 25 := rfl
structure Opn.Nums (o : Opn) : Prop where
  kind : 0 ≤ o.kind ∧ o.kind ≤ 255
  x : o.x.Nums
theorem Opn.x_part (o : Opn) : ∀ i v, o.x.cells[i]? = some v → o.cells[1 + i]? = some v := by
  intro i v h
  unfold Opn.cells
  rw [Nat.add_comm, List.getElem?_cons_succ]; exact h
theorem few_spec {w : World} {A B : Option Addr} {f : List Fact} {s : List Opn} {c d : Nat} (hf : HF w A f c) (hs : s.length ≤ 9223372036854775807) :
    CallsV C.P 15 #[.slice A f.length c, .slice B s.length d] w fun v w' => (∃ b, v = .bool b ∧ (b = true → f.length ≤ 40 ∧ s.length ≤ 80)) ∧ w' = w := by
  have hcap := hf.cap
  refine callsV_of C_ok (args := [_, _]) (plans := []) Tryz.func15 rfl Tryz.ntmps15 (by kernel_rfl) (Nat.le_of_ble_eq_true rfl) ?_
  refine brE_dec (fun c1 => ?_) (fun c1 => ?_)
  · exact ⟨⟨false, rfl, fun h => by cases h⟩, rfl⟩
  have c1 : ¬ ((f.length : Nat) : Int) > 40 := c1
  refine brE_dec (fun c2 => ?_) (fun c2 => ?_)
  · exact ⟨⟨false, rfl, fun h => by cases h⟩, rfl⟩
  have c2 : ¬ ((s.length : Nat) : Int) > 80 := c2
  refine loopE C_ok (fun (i : Nat) => [(0, .slice A f.length c), (5, .int .i64 (i : Nat))]) (fun i w' => i ≤ f.length ∧ w' = w) (fun i => f.length - i) 0 ⟨rfl, rfl, trivial⟩ ⟨Nat.zero_le _, rfl⟩ ?_
  rintro i w1 ⟨hi, rfl⟩
  refine brE_dec (fun hlt => ?_) (fun hge => ?_)
  · have hlt : i < f.length := by have : (i : Int) < (f.length : Nat) := hlt; omega
    obtain ⟨b, o, hA, hc⟩ := Reads.fact hf.reads hlt
    refine ⟨i, b, o, rfl, hlt, hA, ?_⟩
    refine ⟨_, hc 8 _ rfl, ?_⟩
    refine brE_dec (fun c3 => ?_) (fun c3 => ?_)
    · exact ⟨⟨false, rfl, fun h => by cases h⟩, rfl⟩
    refine ⟨((i + 1 : Nat) : Int), fit ⟨by omega, by omega⟩, ?_⟩
    exact ⟨i + 1, ⟨rfl, rfl, trivial⟩, ⟨hlt, rfl⟩, by show f.length - (i + 1) < f.length - i; omega⟩
  · exact ⟨⟨true, rfl, fun _ => ⟨by omega, by omega⟩⟩, rfl⟩
theorem LdGo.of_ext {w w1 w' : World} {l : LV} {es : List Entry} (k : LdGo w1 l es w') (e : Ext w w1) : LdGo w l es w' := by
  obtain ⟨l', h1, h2, h3, h4⟩ := k
  exact ⟨l', h1, h2, keep_trans (keep_ext e) h3 fun _ hq _ => hq, fun k hk => (h4 k hk).imp id fun h => Nat.le_trans e.size h⟩
theorem didN_off {f : List Fact} {es : List Entry} {o : Opn} (h1 : opK o ≠ 1) (h2 : opK o ≠ 2) : didN f es o = 0 := by
  unfold didN
  rw [if_neg h1, if_neg h2]
  split <;> rfl
set_option maxRecDepth 100000 in
set_option maxHeartbeats 1000000 in
theorem did_spec {w : World} {l : LV} {es : List Entry} (h : LedgerIs w l es) (hl : es.length ≤ 400) {A : Option Addr} {f : List Fact} {c : Nat} (hf : HF w A f c) (hfl : f.length ≤ 2 ^ 20) {o : Opn} (ho : o.Nums) :
    CallsV C.P 18 #[l.ptr, .slice A f.length c, o.val] w fun v w' => v = .tuple #[.int .i64 (didN f es o), .int .i64 (didE f es o)] ∧ LdGo w l (didL f es o) w' := by
  have hx := ho.x
  refine callsV_of C_ok (args := [_, _, _]) (plans := []) Tryz.func18 rfl Tryz.ntmps18 (by kernel_rfl) (Nat.le_of_ble_eq_true rfl) ?_
  intro g5 w1 h1
  have M1 : Mem w w1 [(g5, .cells o.cells.toArray 41 (0, 0))] := (Mem.start w).alloc h1
  refine ⟨o.x.cells, rfl, (M1.rd 0 rfl).part o.x_part, ?_⟩
  intro g8 w2 h2
  have M2 := M1.alloc h2
  refine ⟨rfl, _, _, M2.get 0 rfl, Nat.le_of_ble_eq_true rfl, rfl, ?_⟩
  intro w3 h3
  have M : Mem w w3 [(g8, .cells o.x.cells.toArray 39 (0, 0)), (g5, .cells o.cells.toArray 41 (0, 0))] := M2.put 0 rfl h3
  clear M1 M2 h1 h2 h3
  have hL := h.ext M.ext
  have hF := hf.ext M.ext
  refine ⟨_, M.cell 1 rfl rfl, ?_⟩
  refine ⟨by decide, opK o, by unfold opK; exact Int.tmod_eq_emod_of_nonneg ho.kind.1, ?_⟩
  refine brE_dec (fun k1 => ?_) (fun k1 => ?_)
  · have k1 : opK o = 1 := k1
    have e0 : opE es o = grantE es o.x.w := by unfold opE; rw [if_pos k1]
    have e1 : didE f es o = doF f es (grantE es o.x.w) := by unfold didE; rw [e0]
    have e2 : didL f es o = addL (doF f es (grantE es o.x.w)) es (grantE es o.x.w) := by unfold didL; rw [e1, e0]
    have e3 : didN f es o = if doF f es (grantE es o.x.w) = 0 then (((waivL es).length + 1 : Nat) : Int) else 0 := by unfold didN; rw [e1]; rw [if_pos k1]
    refine ⟨o.x.w.cells, rfl, (M.rd 0 rfl).part o.x.w_part, ?_⟩
    refine (Grant_spec hL hl hF hfl hx.w).mono ?_
    rintro v w' ⟨rfl, hgo⟩
    exact ⟨by rw [e3, e1], by rw [e2]; exact hgo.of_ext M.ext⟩
  have k1 : ¬ opK o = 1 := k1
  refine brE_dec (fun k2 => ?_) (fun k2 => ?_)
  · have k2 : opK o = 2 := k2
    have e0 : opE es o = offerE es o.x.day o.x.g.frm o.x.g.to o.x.g.cur o.x.g.n o.x.g.returns := by unfold opE; rw [if_neg k1, if_pos k2]
    have e1 : didE f es o = doF f es (offerE es o.x.day o.x.g.frm o.x.g.to o.x.g.cur o.x.g.n o.x.g.returns) := by unfold didE; rw [e0]
    have e2 : didL f es o = addL (doF f es (offerE es o.x.day o.x.g.frm o.x.g.to o.x.g.cur o.x.g.n o.x.g.returns)) es (offerE es o.x.day o.x.g.frm o.x.g.to o.x.g.cur o.x.g.n o.x.g.returns) := by unfold didL; rw [e1, e0]
    have e3 : didN f es o = if doF f es (offerE es o.x.day o.x.g.frm o.x.g.to o.x.g.cur o.x.g.n o.x.g.returns) = 0 then (((giftL es).length + 1 : Nat) : Int) else 0 := by unfold didN; rw [e1]; rw [if_neg k1, if_pos k2]
    refine ⟨_, M.cell 0 rfl rfl, ?_⟩
    refine ⟨_, M.cell 0 rfl rfl, ?_⟩
    refine ⟨_, M.cell 0 rfl rfl, ?_⟩
    refine ⟨_, M.cell 0 rfl rfl, ?_⟩
    refine ⟨_, M.cell 0 rfl rfl, ?_⟩
    refine ⟨_, M.cell 0 rfl rfl, ?_⟩
    refine (Offer_spec hL hl hx.day hx.g.frm hx.g.to hx.g.cur hx.g.n hx.g.returns f).mono ?_
    rintro v w' ⟨rfl, hgo⟩
    exact ⟨by rw [e3, e1], by rw [e2]; exact hgo.of_ext M.ext⟩
  have k2 : ¬ opK o = 2 := k2
  refine brE_dec (fun k3 => ?_) (fun k3 => ?_)
  · have k3 : opK o = 3 := k3
    have e0 : opE es o = rateE o.x.day o.x.g.cur o.x.n := by unfold opE; rw [if_neg k1, if_neg k2, if_pos k3]
    have e1 : didE f es o = doF f es (rateE o.x.day o.x.g.cur o.x.n) := by unfold didE; rw [e0]
    have e2 : didL f es o = addL (doF f es (rateE o.x.day o.x.g.cur o.x.n)) es (rateE o.x.day o.x.g.cur o.x.n) := by unfold didL; rw [e1, e0]
    have e3 : didN f es o = 0 := didN_off k1 k2
    refine ⟨_, M.cell 0 rfl rfl, ?_⟩
    refine ⟨_, M.cell 0 rfl rfl, ?_⟩
    refine ⟨_, M.cell 0 rfl rfl, ?_⟩
    refine (SetRate_spec hL (by omega) hx.day hx.g.cur hx.n f).mono ?_
    rintro v w' ⟨rfl, hgo⟩
    exact ⟨by rw [e3, e1], by rw [e2]; exact hgo.of_ext M.ext⟩
  have k3 : ¬ opK o = 3 := k3
  refine brE_dec (fun k4 => ?_) (fun k4 => ?_)
  · have k4 : opK o = 4 := k4
    have e0 : opE es o = ceilE o.x.day o.x.a o.x.n := by unfold opE; rw [if_neg k1, if_neg k2, if_neg k3, if_pos k4]
    have e1 : didE f es o = doF f es (ceilE o.x.day o.x.a o.x.n) := by unfold didE; rw [e0]
    have e2 : didL f es o = addL (doF f es (ceilE o.x.day o.x.a o.x.n)) es (ceilE o.x.day o.x.a o.x.n) := by unfold didL; rw [e1, e0]
    have e3 : didN f es o = 0 := didN_off k1 k2
    refine ⟨_, M.cell 0 rfl rfl, ?_⟩
    refine ⟨_, M.cell 0 rfl rfl, ?_⟩
    refine ⟨_, M.cell 0 rfl rfl, ?_⟩
    refine (SetCeiling_spec hL (by omega) hx.day hx.a hx.n f).mono ?_
    rintro v w' ⟨rfl, hgo⟩
    exact ⟨by rw [e3, e1], by rw [e2]; exact hgo.of_ext M.ext⟩
  have k4 : ¬ opK o = 4 := k4
  refine brE_dec (fun k5 => ?_) (fun k5 => ?_)
  · have k5 : opK o = 5 := k5
    have e0 : opE es o = endE o.x.day o.x.w.id := by unfold opE; rw [if_neg k1, if_neg k2, if_neg k3, if_neg k4, if_pos k5]
    have e1 : didE f es o = doF f es (endE o.x.day o.x.w.id) := by unfold didE; rw [e0]
    have e2 : didL f es o = addL (doF f es (endE o.x.day o.x.w.id)) es (endE o.x.day o.x.w.id) := by unfold didL; rw [e1, e0]
    have e3 : didN f es o = 0 := didN_off k1 k2
    refine ⟨_, M.cell 0 rfl rfl, ?_⟩
    refine ⟨_, M.cell 0 rfl rfl, ?_⟩
    refine (End_spec hL (by omega) hx.day hx.w.id f).mono ?_
    rintro v w' ⟨rfl, hgo⟩
    exact ⟨by rw [e3, e1], by rw [e2]; exact hgo.of_ext M.ext⟩
  have k5 : ¬ opK o = 5 := k5
  refine brE_dec (fun k6 => ?_) (fun k6 => ?_)
  · have k6 : opK o = 6 := k6
    have e0 : opE es o = takeE o.x.day o.x.g.id := by unfold opE; rw [if_neg k1, if_neg k2, if_neg k3, if_neg k4, if_neg k5, if_pos k6]
    have e1 : didE f es o = doF f es (takeE o.x.day o.x.g.id) := by unfold didE; rw [e0]
    have e2 : didL f es o = addL (doF f es (takeE o.x.day o.x.g.id)) es (takeE o.x.day o.x.g.id) := by unfold didL; rw [e1, e0]
    have e3 : didN f es o = 0 := didN_off k1 k2
    refine ⟨_, M.cell 0 rfl rfl, ?_⟩
    refine ⟨_, M.cell 0 rfl rfl, ?_⟩
    refine (Take_spec hL (by omega) hx.day hx.g.id f).mono ?_
    rintro v w' ⟨rfl, hgo⟩
    exact ⟨by rw [e3, e1], by rw [e2]; exact hgo.of_ext M.ext⟩
  have k6 : ¬ opK o = 6 := k6
  refine brE_dec (fun k7 => ?_) (fun k7 => ?_)
  · have k7 : opK o = 7 := k7
    have e0 : opE es o = refuseE o.x.day o.x.g.id := by unfold opE; rw [if_neg k1, if_neg k2, if_neg k3, if_neg k4, if_neg k5, if_neg k6, if_pos k7]
    have e1 : didE f es o = doF f es (refuseE o.x.day o.x.g.id) := by unfold didE; rw [e0]
    have e2 : didL f es o = addL (doF f es (refuseE o.x.day o.x.g.id)) es (refuseE o.x.day o.x.g.id) := by unfold didL; rw [e1, e0]
    have e3 : didN f es o = 0 := didN_off k1 k2
    refine ⟨_, M.cell 0 rfl rfl, ?_⟩
    refine ⟨_, M.cell 0 rfl rfl, ?_⟩
    refine (Refuse_spec hL (by omega) hx.day hx.g.id f).mono ?_
    rintro v w' ⟨rfl, hgo⟩
    exact ⟨by rw [e3, e1], by rw [e2]; exact hgo.of_ext M.ext⟩
  have k7 : ¬ opK o = 7 := k7
  have e0 : opE es o = o.x := by unfold opE; rw [if_neg k1, if_neg k2, if_neg k3, if_neg k4, if_neg k5, if_neg k6, if_neg k7]
  have e1 : didE f es o = doF f es o.x := by unfold didE; rw [e0]
  have e2 : didL f es o = addL (doF f es o.x) es o.x := by unfold didL; rw [e1, e0]
  have e3 : didN f es o = 0 := didN_off k1 k2
  refine ⟨o.x.cells, rfl, M.rd 0 rfl, ?_⟩
  refine (Do_spec hL (by omega) hx hF hfl).mono ?_
  rintro v w' ⟨rfl, hgo⟩
  exact ⟨by rw [e3, e1], by rw [e2]; exact hgo.of_ext M.ext⟩
theorem Opn.part_at {w : World} {A : Option Addr} {s : List Opn} {c i : Nat} (h : HL Opn.cells w A s c) (hi : i < s.length) : ∃ b o, A = some ⟨b, o, none⟩ ∧ Rd w b (o + i * 25) s[i].cells := h.at Opn.len (by omega) hi
set_option maxRecDepth 100000 in
theorem built_spec {w : World} {A B : Option Addr} {f : List Fact} {s : List Opn} {c d : Nat} (hf : HF w A f c) (hfl : f.length ≤ 2 ^ 20) (hs : HL Opn.cells w B s d) (hsl : s.length ≤ 400) (hn : ∀ o ∈ s, o.Nums) :
    CallsV C.P 26 #[.slice A f.length c, .slice B s.length d] w fun v w' => ∃ l : LV, v = l.ptr ∧ LdNew w w' l (builtL f s) := by
  refine callsV_of C_ok (args := [_, _]) (plans := []) Tryz.func26 rfl Tryz.ntmps26 (by kernel_rfl) (Nat.le_of_ble_eq_true rfl) ?_
  refine (New_spec w).mono ?_
  rintro v w1 ⟨l0, rfl, h0⟩
  refine loopE C_ok (fun (i : Nat) => [(0, .slice A f.length c), (1, .slice B s.length d), (5, l0.ptr), (6, .int .i64 (i : Nat))])
    (fun i w' => i ≤ s.length ∧ ∃ l : LV, l.gl = l0.gl ∧ LdNew w w' l (builtL f (s.take i))) (fun i => s.length - i) 0 ⟨rfl, rfl, rfl, rfl, trivial⟩ ⟨Nat.zero_le _, l0, rfl, by rw [List.take_zero]; exact h0⟩ ?_
  rintro i w2 ⟨hi, l, hgl, hl⟩
  have hptr : l.ptr = l0.ptr := by unfold LV.ptr; rw [hgl]
  refine brE_dec (fun hlt => ?_) (fun hge => ?_)
  · have hlt : i < s.length := by have : (i : Int) < (s.length : Nat) := hlt; omega
    obtain ⟨b, o, hB, hr⟩ := Opn.part_at (hs.ext hl.ext) hlt
    refine ⟨i, b, o, rfl, hlt, hB, ?_⟩
    refine ⟨s[i].cells, rfl, hr, ?_⟩
    have hlen := (acc_built f (s.take i)).2
    rw [List.length_take] at hlen
    have hd := did_spec hl.is (by omega) (hf.ext hl.ext) hfl (hn s[i] (List.getElem_mem hlt))
    rw [hptr] at hd
    refine hd.mono ?_
    rintro v w3 ⟨rfl, hgo⟩
    obtain ⟨l3, hg3, h3⟩ := hl.go hgo
    refine ⟨((i + 1 : Nat) : Int), fit ⟨by omega, by omega⟩, ?_⟩
    exact ⟨i + 1, ⟨rfl, rfl, rfl, rfl, trivial⟩, ⟨hlt, l3, hg3.trans hgl, by rw [built_take hlt]; exact h3⟩, by show s.length - (i + 1) < s.length - i; omega⟩
  · have hi : i = s.length := by have : ¬ (i : Int) < (s.length : Nat) := hge; omega
    rw [hi, List.take_length] at hl
    exact ⟨l, hptr.symm, hl⟩
end Go.Proofs.YtcnbpfecgokhiaaGreatDoor
namespace Go.Proofs.YtcnbpfecgokhiaaGreatDoor
structure OrdB {α : Type} (lt : α → α → Bool) : Prop where
  asym : ∀ x y, lt x y = true → lt y x = false
  ntr : ∀ x y z, lt y x = false → lt z y = false → lt z x = false
abbrev SortedB {α : Type} (lt : α → α → Bool) (l : List α) : Prop := l.Pairwise fun x y => lt y x = false
section
variable {α : Type} {lt : α → α → Bool}
theorem swap_split {P Y S : List α} {x y : α} : ((P ++ x :: (Y ++ y :: S)).set P.length y).set (P.length + 1 + Y.length) x = P ++ y :: (Y ++ x :: S) := by
  rw [List.set_append_right _ _ (Nat.le_refl _), Nat.sub_self, List.set_cons_zero, List.set_append_right _ _ (by omega), show P.length + 1 + Y.length - P.length = Y.length + 1 by omega, List.set_cons_succ, List.set_append_right _ _ (Nat.le_refl _), Nat.sub_self, List.set_cons_zero]
theorem get_mid {P S : List α} {x : α} (h : P.length < (P ++ x :: S).length) : (P ++ x :: S)[P.length] = x := by simp
theorem get_mid2 {P Y S : List α} {x y : α} {k : Nat} (hk : k = P.length + 1 + Y.length) (h : k < (P ++ x :: (Y ++ y :: S)).length) : (P ++ x :: (Y ++ y :: S))[k] = y := by
  subst hk
  rw [List.getElem_append_right (by omega)]
  simp only [show P.length + 1 + Y.length - P.length = Y.length + 1 by omega, List.getElem_cons_succ]
  rw [List.getElem_append_right (Nat.le_refl _)]
  simp
theorem sorted_insert {M1 M2 : List α} {x : α} (h : SortedB lt (M1 ++ M2)) (h1 : ∀ z ∈ M1, lt x z = false) (h2 : ∀ z ∈ M2, lt z x = false) : SortedB lt (M1 ++ x :: M2) := by
  obtain ⟨a, b, c⟩ := List.pairwise_append.1 h
  refine List.pairwise_append.2 ⟨a, List.pairwise_cons.2 ⟨fun z hz => h2 z hz, b⟩, fun z hz y hy => ?_⟩
  rcases List.mem_cons.1 hy with rfl | hy
  · exact h1 z hz
  · exact c z hz y hy
theorem sorted_last (O : OrdB lt) {M : List α} {x y : α} (h : SortedB lt (M ++ [y])) (hx : lt x y = false) : ∀ z ∈ M ++ [y], lt x z = false := by
  intro z hz
  obtain ⟨_, _, c⟩ := List.pairwise_append.1 h
  rcases List.mem_append.1 hz with hz | hz
  · exact O.ntr z y x (c z hz y (by simp)) hx
  · rw [List.mem_singleton.1 hz]; exact hx
theorem sorted_at {l : List α} (h : SortedB lt l) {i j : Nat} (hi : i < l.length) (hj : j < l.length) (hij : i < j) : lt l[j] l[i] = false := List.pairwise_iff_getElem.1 h i j hi hj hij
theorem sorted_le (O : OrdB lt) {l : List α} (h : SortedB lt l) {i j : Nat} (hi : i < l.length) (hj : j < l.length) (hij : i ≤ j) : lt l[j] l[i] = false := by
  rcases Nat.lt_or_ge i j with h' | h'
  · exact sorted_at h hi hj h'
  · obtain rfl : i = j := by omega
    cases e : lt l[i] l[i] with
    | false => rfl
    | true => exact absurd (O.asym _ _ e) (by rw [e]; decide)
/-- What a search finds: all before it are below, all from it on are not. -/
theorem search_yes (O : OrdB lt) {l : List α} (h : SortedB lt l) {x : α} {k : Nat} (hk : k < l.length) (hx : lt l[k] x = true) {t : Nat} (ht : t ≤ k) : lt (l[t]'(by omega)) x = true := by
  cases e : lt (l[t]'(by omega)) x with
  | true => rfl
  | false =>
    have h1 := sorted_le O h (by omega : t < l.length) hk ht
    have := O.ntr x _ _ e h1
    rw [hx] at this; cases this
theorem search_no (O : OrdB lt) {l : List α} (h : SortedB lt l) {x : α} {k : Nat} (hk : k < l.length) (hx : lt l[k] x = false) {t : Nat} (ht : k ≤ t) (htl : t < l.length) : lt l[t] x = false :=
  O.ntr x _ _ hx (sorted_le O h hk htl ht)
theorem search_yes' (O : OrdB lt) {l : List α} (h : SortedB lt l) {x : α} {k : Nat} (hk : k < l.length) (hx : lt x l[k] = false) {t : Nat} (ht : t ≤ k) : lt x (l[t]'(by omega)) = false :=
  O.ntr _ _ x (sorted_le O h (by omega : t < l.length) hk ht) hx
theorem search_no' (O : OrdB lt) {l : List α} (h : SortedB lt l) {x : α} {k : Nat} (hk : k < l.length) (hx : lt x l[k] = true) {t : Nat} (ht : k ≤ t) (htl : t < l.length) : lt x l[t] = true := by
  cases e : lt x l[t] with
  | true => rfl
  | false =>
    have h1 := sorted_le O h hk htl ht
    have := O.ntr _ _ x h1 e
    rw [hx] at this; cases this
theorem mem_take_at {l : List α} {k : Nat} {z : α} (h : z ∈ l.take k) : ∃ t, ∃ ht : t < l.length, t < k ∧ z = l[t] := by
  obtain ⟨t, ht, rfl⟩ := List.getElem_of_mem h
  rw [List.length_take] at ht
  exact ⟨t, by omega, by omega, by rw [List.getElem_take]⟩
theorem mem_drop_at {l : List α} {k : Nat} {z : α} (h : z ∈ l.drop k) : ∃ t, ∃ ht : t < l.length, k ≤ t ∧ z = l[t] := by
  obtain ⟨t, ht, rfl⟩ := List.getElem_of_mem h
  rw [List.length_drop] at ht
  exact ⟨k + t, by omega, by omega, by rw [List.getElem_drop]⟩
/-- One element into a sorted list. -/
theorem merge_one (O : OrdB lt) {B : List α} (h : SortedB lt B) {x : α} {k : Nat} (h1 : ∀ t (ht : t < B.length), t < k → lt B[t] x = true) (h2 : ∀ t (ht : t < B.length), k ≤ t → lt B[t] x = false) : SortedB lt (B.take k ++ x :: B.drop k) := by
  refine sorted_insert (by rw [List.take_append_drop]; exact h) (fun z hz => ?_) (fun z hz => ?_)
  · obtain ⟨t, ht, hk, rfl⟩ := mem_take_at hz
    exact O.asym _ _ (h1 t ht hk)
  · obtain ⟨t, ht, hk, rfl⟩ := mem_drop_at hz
    exact h2 t ht hk
theorem merge_one' (O : OrdB lt) {A : List α} (h : SortedB lt A) {x : α} {k : Nat} (h1 : ∀ t (ht : t < A.length), t < k → lt x A[t] = false) (h2 : ∀ t (ht : t < A.length), k ≤ t → lt x A[t] = true) : SortedB lt (A.take k ++ x :: A.drop k) := by
  refine sorted_insert (by rw [List.take_append_drop]; exact h) (fun z hz => ?_) (fun z hz => ?_)
  · obtain ⟨t, ht, hk, rfl⟩ := mem_take_at hz
    exact h1 t ht hk
  · obtain ⟨t, ht, hk, rfl⟩ := mem_drop_at hz
    exact O.asym _ _ (h2 t ht hk)
/-- Two halves whose middles are turned. -/
theorem merge_halves {A1 A2 B1 B2 X Y : List α} (h1 : ∀ x ∈ A1, ∀ y ∈ B2, lt y x = false) (h2 : ∀ x ∈ B1, ∀ y ∈ A2, lt y x = false) (hA : SortedB lt (A1 ++ A2)) (hB : SortedB lt (B1 ++ B2))
    (hX : SortedB lt X) (hXp : X.Perm (A1 ++ B1)) (hY : SortedB lt Y) (hYp : Y.Perm (A2 ++ B2)) : SortedB lt (X ++ Y) ∧ (X ++ Y).Perm (A1 ++ A2 ++ (B1 ++ B2)) := by
  obtain ⟨_, _, cA⟩ := List.pairwise_append.1 hA
  obtain ⟨_, _, cB⟩ := List.pairwise_append.1 hB
  refine ⟨List.pairwise_append.2 ⟨hX, hY, fun x hx y hy => ?_⟩, ?_⟩
  · rcases List.mem_append.1 (hXp.mem_iff.1 hx) with hx | hx <;> rcases List.mem_append.1 (hYp.mem_iff.1 hy) with hy | hy
    · exact cA x hx y hy
    · exact h1 x hx y hy
    · exact h2 x hx y hy
    · exact cB x hx y hy
  · refine (hXp.append hYp).trans ?_
    rw [List.append_assoc, List.append_assoc]
    refine List.Perm.append_left A1 ?_
    rw [← List.append_assoc, ← List.append_assoc]
    exact List.Perm.append_right B2 List.perm_append_comm
end
end Go.Proofs.YtcnbpfecgokhiaaGreatDoor
namespace Go.Proofs.YtcnbpfecgokhiaaGreatDoor
open Go.Eng Go.RowKit
theorem offrow {w : World} {base e size n g t : Nat} {v : Value} {xs : List Value} {c : Array Value} {fr : Nat × Nat} (h : w.ownsRow base e size v n xs) (hg : w.heap[g]? = some (.cells c t fr)) (hne : t ≠ e) : v.ownBlock ≠ some g := fun hv => by
  obtain ⟨_, cur, hc⟩ := owns_at h hv
  rw [hg] at hc
  simp at hc
  exact hne hc.2.1
theorem row_openB {α : Type} {enc : α → List Value} {k e : Nat} (hk : ∀ x, (enc x).length = k) (k0 : 0 < k) {B : Nat} {w : World} {v : Value} {l : List α} (h : w.ownsRow B e k v l.length (l.flatMap enc)) {i : Nat} (hi : i < l.length) :
    ∃ g cap, ∃ cur : List Value, v = .slice (some ⟨g, 0, none⟩) l.length cap ∧ w.heap[g]? = some (.cells cur.toArray e (0, 0)) ∧ 0 + i * k + k ≤ cur.length ∧ v.ownBlock = some g ∧ Rd w g (0 + i * k) (enc l[i]) ∧
      ∀ (c : Nat) (vs : List Value) (y : α) (w' : World), splice (enc l[i]) c vs = enc y → c + vs.length ≤ k → Put w g (.cells (splice cur (0 + i * k + c) vs).toArray e (0, 0)) w' → w'.ownsRow B e k v (l.set i y).length ((l.set i y).flatMap enc) := by
  have hv : ∃ g cap, v = .slice (some ⟨g, 0, none⟩) l.length cap := by
    obtain ⟨_, ⟨_, h0⟩ | ⟨g, cap, cur, hv, _⟩⟩ := h
    · omega
    · exact ⟨g, cap, hv⟩
  obtain ⟨g, cap, rfl⟩ := hv
  obtain ⟨cur, hg, _, hn, _, _, hxl, ht, hput⟩ := ownsRow_open h
  have hb : (i + 1) * k ≤ l.length * k := Nat.mul_le_mul_right k hi
  rw [Nat.add_mul, Nat.one_mul] at hb
  obtain ⟨A, c2, hA, hr, _⟩ := reads_of_owns h
  refine ⟨g, cap, cur, rfl, hg, by omega, rfl, ?_, fun c vs y w' h1 h2 h3 => ?_⟩
  · cases hA
    obtain ⟨b, o, hb2, hrd⟩ := Reads.elem hk k0 hr hi
    cases hb2
    exact hrd
  · have := hput (0 + i * k + c) vs w' (by omega) h3
    rw [Nat.zero_add, flat_field hk hi h1 h2] at this
    rw [List.length_set]
    exact this
theorem refDay_spec {w : World} {A : Option Addr} {es : List Entry} {c : Nat} (h : HL Entry.cells w A es c) : CallsV C.P 21 #[.agg #[.slice A es.length c]] w fun v w' => v = .int .i64 (lastDay es) ∧ Ext w w' := by
  have hcap := h.cap
  refine callsV_of C_ok (args := [_]) (plans := []) Tryz.func21 rfl Tryz.ntmps21 (by kernel_rfl) (Nat.le_of_ble_eq_true rfl) ?_
  intro g1 w1 h1
  have M1 : Mem w w1 [(g1, .cells #[.slice A es.length c] 30 (0, 0))] := (Mem.start w).alloc h1
  refine ⟨_, M1.cell 0 rfl rfl, ?_⟩
  refine brE_dec (fun b1 => ?_) (fun b1 => ?_)
  · have b1 : ((es.length : Nat) : Int) = 0 := b1
    have e : es = [] := List.length_eq_zero_iff.1 (by omega)
    exact ⟨by rw [e]; rfl, M1.ext⟩
  have b1 : ¬ ((es.length : Nat) : Int) = 0 := b1
  refine ⟨_, M1.cell 0 rfl rfl, ?_⟩
  refine ⟨_, M1.cell 0 rfl rfl, ?_⟩
  refine ⟨((es.length - 1 : Nat) : Int), by show IntKind.i64.wrap (((es.length : Nat) : Int) - 1) = _; rw [fit ⟨by omega, by omega⟩]; omega, ?_⟩
  obtain ⟨b, o, hA, hrd⟩ := Reads.elem Entry.len (by omega) (h.ext M1.ext).reads (i := es.length - 1) (by omega)
  refine ⟨es.length - 1, b, o, rfl, (by omega : es.length - 1 < es.length), hA, ?_⟩
  refine ⟨_, hrd 1 _ rfl, ?_⟩
  refine ⟨congrArg _ ?_, M1.ext⟩
  unfold lastDay
  rw [List.getLast?_eq_getElem?, List.getElem?_eq_getElem (by omega)]; rfl
set_option maxRecDepth 100000 in
theorem refAsOf_spec {w : World} {A : Option Addr} {es : List Entry} {c : Nat} (h : HL Entry.cells w A es c) (hl : es.length ≤ 2 ^ 16) (day : Int) :
    CallsV C.P 101 #[.agg #[.slice A es.length c], .int .i64 day] w fun v w' => (∃ v', v = .agg #[v'] ∧ NewL Entry.cells 39 24 w.heap.size w' v' (asOfL es day)) ∧ Ext w w' := by
  refine callsV_of C_ok (args := [_, _]) (plans := plans101) Tryz.func101 rfl Tryz.ntmps101 (by kernel_rfl) (Nat.le_of_ble_eq_true rfl) ?_
  intro g1 w1 h1
  have M1 := (Mem.start w).alloc h1
  intro g4 w2 h2
  have M2 := M1.alloc h2
  intro g5 w3 h3
  have M3 : Mem w w3 [(g5, .cells #[.slice none 0 0] 30 (0, 0)), (g4, .cells #[.slice none 0 0] 30 (0, 0)), (g1, .cells #[.slice A es.length c] 30 (0, 0))] := M2.alloc h3
  clear M1 M2
  refine loopE C_ok (fun (p : Nat × Value) => [(1, .int .i64 day), (2, .pointer (some ⟨g1, 0, none⟩)), (4, .pointer (some ⟨g4, 0, none⟩)), (5, .pointer (some ⟨g5, 0, none⟩)), (6, .int .i64 p.1)])
    (fun p w' => p.1 ≤ es.length ∧ Mem w w' [(g5, .cells #[p.2] 30 (0, 0)), (g4, .cells #[.slice none 0 0] 30 (0, 0)), (g1, .cells #[.slice A es.length c] 30 (0, 0))] ∧ NewL Entry.cells 39 24 w.heap.size w' p.2 (asOfL (es.take p.1) day)) (fun p => es.length - p.1) (0, .slice none 0 0) ⟨rfl, rfl, rfl, rfl, rfl, trivial⟩
    ⟨Nat.zero_le _, M3, newL_nil⟩ ?_
  rintro ⟨i, v⟩ w4 ⟨hi', M4', ho'⟩
  have hi : i ≤ es.length := hi'
  have M4 : Mem w w4 [(g5, .cells #[v] 30 (0, 0)), (g4, .cells #[.slice none 0 0] 30 (0, 0)), (g1, .cells #[.slice A es.length c] 30 (0, 0))] := M4'
  have ho : NewL Entry.cells 39 24 w.heap.size w4 v (asOfL (es.take i) day) := ho'
  clear hi' M4' ho'
  refine ⟨_, M4.cell 2 rfl rfl, ?_⟩
  refine brE_dec (fun hlt => ?_) (fun hge => ?_)
  · have hlt : i < es.length := by have : (i : Int) < (es.length : Nat) := hlt; omega
    obtain ⟨b, o, hA, hc⟩ := Reads.elem Entry.len (by omega) (h.ext M4.ext).reads hlt
    have next : IntKind.i64.wrap ((i : Int) + 1) = ((i + 1 : Nat) : Int) := fit ⟨by omega, by omega⟩
    have hal : (asOfL (es.take i) day).length ≤ es.length := Nat.le_trans (List.length_filter_le _ _) (by rw [List.length_take]; omega)
    have hsucc : asOfL (es.take (i + 1)) day = asOfL (es.take i) day ++ if es[i].day ≤ day then [es[i]] else [] := by rw [List.take_succ_eq_append_getElem hlt, asOf_snoc]
    refine ⟨_, M4.cell 2 rfl rfl, ?_⟩
    refine ⟨i, b, o, rfl, hlt, hA, ?_⟩
    refine ⟨_, hc 1 _ rfl, ?_⟩
    refine brE_dec (fun hd => ?_) (fun hd => ?_)
    · have hd : es[i].day ≤ day := hd
      rw [if_pos hd] at hsucc
      refine ⟨_, M4.cell 0 rfl rfl, ?_⟩
      refine ⟨_, M4.cell 2 rfl rfl, ?_⟩
      refine ⟨i, b, o, rfl, hlt, hA, ?_⟩
      refine ⟨es[i].cells, rfl, hc, ?_⟩
      intro g7 w5 h5
      refine ⟨h5.ext, ?_⟩
      have M5 := M4.grow h5.ext
      have ho5 := ho.ext h5.ext
      refine ⟨rfl, rfl, rfl, w.heap.size, _, _, es[i].cells, ho5, M5.ext.size, Nat.le_of_ble_eq_true rfl, rfl, rfl, .inr ⟨g7, 0, rfl, Rd.of_block h5.here⟩, rfl, rfl, by omega, by simp only [maxLen]; omega, ?_⟩
      intro v6 w6 ho6 hg6 hpl
      have M6 : Mem w w6 [(g5, .cells #[v] 30 (0, 0)), (g4, .cells #[.slice none 0 0] 30 (0, 0)), (g1, .cells #[.slice A es.length c] 30 (0, 0))] := M5.grown hg6 (fun k hk => (ho5.lt k hk).1) (fun p hp => by
        have : ∃ cs, w5.heap[p.1]? = some (.cells cs 30 (0, 0)) := by
          simp only [List.mem_cons, List.not_mem_nil, or_false] at hp
          rcases hp with rfl | rfl | rfl
          · exact ⟨_, M5.get 0 rfl⟩
          · exact ⟨_, M5.get 1 rfl⟩
          · exact ⟨_, M5.get 2 rfl⟩
        obtain ⟨cs, hcs⟩ := this
        exact fun e => offrow ho5 hcs (by decide) e.symm)
      obtain ⟨A6, c6, rfl, _, _⟩ := reads_of_owns ho6
      refine ⟨rfl, _, _, M6.get 0 rfl, Nat.le_of_ble_eq_true rfl, rfl, ?_⟩
      intro w7 h7
      have M7 := M6.put 0 rfl h7
      refine ⟨_, next, ?_⟩
      refine ⟨(i + 1, _), ⟨rfl, rfl, rfl, rfl, rfl, trivial⟩, ⟨hlt, M7, ?_⟩, by show es.length - (i + 1) < es.length - i; omega⟩
      show NewL _ _ _ _ _ _ (asOfL (es.take (i + 1)) day)
      rw [hsucc]
      unfold NewL
      rw [List.length_append, List.flatMap_append]
      have := ownsRow_put ho6 h7 (offrow ho6 (M6.get 0 rfl) (by decide))
      simpa using this
    · have hd : ¬ es[i].day ≤ day := hd
      rw [if_neg hd, List.append_nil] at hsucc
      refine ⟨_, next, ?_⟩
      exact ⟨(i + 1, v), ⟨rfl, rfl, rfl, rfl, rfl, trivial⟩, ⟨hlt, M4, by show NewL _ _ _ _ _ _ (asOfL (es.take (i + 1)) day); rw [hsucc]; exact ho⟩, by show es.length - (i + 1) < es.length - i; omega⟩
  · have hi : i = es.length := by have : ¬ (i : Int) < (es.length : Nat) := hge; omega
    rw [hi, List.take_length] at ho
    obtain ⟨A5, c5, rfl, _, _⟩ := reads_of_owns ho
    refine ⟨[_], rfl, M4.rd 0 rfl, ?_⟩
    refine ⟨rfl, _, _, M4.get 1 rfl, Nat.le_of_ble_eq_true rfl, rfl, ?_⟩
    intro w5 h5
    have M5 := M4.put 1 rfl h5
    refine ⟨[_], rfl, M5.rd 1 rfl, ?_⟩
    exact ⟨⟨_, rfl, ownsRow_put ho h5 (offrow ho (M4.get 1 rfl) (by decide))⟩, M5.ext⟩
theorem acc_at {es : List Entry} (hA : Acc es) {i : Nat} (hi : i < es.length) : ∃ sg, doE sg (es.take i) es[i] = 0 := by
  have h2 := acc_front hA (i + 1)
  rw [List.take_succ_eq_append_getElem hi] at h2
  exact (acc_inv h2).2
set_option maxRecDepth 100000 in
theorem Granted_spec {w : World} {A : Option Addr} {es : List Entry} {c : Nat} (h : HL Entry.cells w A es c) (hl : es.length ≤ 2 ^ 16) (hA : Acc es) :
    CallsV C.P 102 #[.agg #[.slice A es.length c]] w fun v w' => NewL Waiv.cells 35 9 w.heap.size w' v (waivL es) ∧ Ext w w' := by
  refine callsV_of C_ok (args := [_]) (plans := []) Tryz.func102 rfl Tryz.ntmps102 (by kernel_rfl) (Nat.le_of_ble_eq_true rfl) ?_
  intro g1 w1 h1
  have M1 : Mem w w1 [(g1, .cells #[.slice A es.length c] 30 (0, 0))] := (Mem.start w).alloc h1
  refine loopE C_ok (fun (p : Nat × Value) => [(1, .pointer (some ⟨g1, 0, none⟩)), (3, p.2), (4, .int .i64 p.1)])
    (fun p w' => p.1 ≤ es.length ∧ NewL Waiv.cells 35 9 w.heap.size w' p.2 (waivL (es.take p.1)) ∧ Mem w w' [(g1, .cells #[.slice A es.length c] 30 (0, 0))]) (fun p => es.length - p.1) (0, .slice none 0 0) ⟨rfl, rfl, rfl, trivial⟩
    ⟨Nat.zero_le _, newL_nil, M1⟩ ?_
  rintro ⟨i, v⟩ w2 ⟨hi', ho', M2'⟩
  have hi : i ≤ es.length := hi'
  have ho : NewL Waiv.cells 35 9 w.heap.size w2 v (waivL (es.take i)) := ho'
  have M2 : Mem w w2 [(g1, .cells #[.slice A es.length c] 30 (0, 0))] := M2'
  clear hi' ho' M2'
  refine ⟨_, M2.cell 0 rfl rfl, ?_⟩
  refine brE_dec (fun hlt => ?_) (fun hge => ?_)
  · have hlt : i < es.length := by have : (i : Int) < (es.length : Nat) := hlt; omega
    obtain ⟨b, o, hAd, hc⟩ := Reads.elem Entry.len (by omega) (h.ext M2.ext).reads hlt
    have next : IntKind.i64.wrap ((i : Int) + 1) = ((i + 1 : Nat) : Int) := fit ⟨by omega, by omega⟩
    have hwl : (waivL (es.take i)).length ≤ es.length := Nat.le_trans (waivL_length _) (by rw [List.length_take]; omega)
    have hsucc : waivL (es.take (i + 1)) = waivS (waivL (es.take i)) es[i] := by rw [List.take_succ_eq_append_getElem hlt, waivL_snoc]
    obtain ⟨sg, hdo⟩ := acc_at hA hlt
    refine ⟨_, M2.cell 0 rfl rfl, ?_⟩
    refine ⟨i, b, o, rfl, hlt, hAd, ?_⟩
    refine ⟨es[i].cells, rfl, hc, ?_⟩
    intro g5 w3 h3
    have M3 := M2.alloc h3
    refine ⟨rfl, _, _, M3.get 0 rfl, Nat.le_of_ble_eq_true rfl, rfl, ?_⟩
    intro w4 h4
    have M4 : Mem w w4 [(g5, .cells es[i].cells.toArray 39 (0, 0)), (g1, .cells #[.slice A es.length c] 30 (0, 0))] := M3.put 0 rfl h4
    have ho4 : NewL Waiv.cells 35 9 w.heap.size w4 v (waivL (es.take i)) := ownsRow_put (ho.ext h3.ext) h4 (offrow (ho.ext h3.ext) h3.here (by decide))
    clear M3 h3 h4 ho
    refine ⟨_, M4.cell 0 rfl rfl, ?_⟩
    refine brE_dec (fun k3 => ?_) (fun k3 => ?_)
    · have k3 : es[i].kind = 3 := k3
      refine ⟨es[i].w.cells, rfl, (M4.rd 0 rfl).part es[i].w_part, ?_⟩
      intro g6 w5 h5
      have ho5 := ho4.ext h5.ext
      have M5 := M4.grow h5.ext
      refine ⟨rfl, rfl, rfl, w.heap.size, _, _, es[i].w.cells, ho5, M5.ext.size, Nat.le_of_ble_eq_true rfl, rfl, rfl, .inr ⟨g6, 0, rfl, Rd.of_block h5.here⟩, rfl, rfl, by omega, by simp only [maxLen]; omega, ?_⟩
      intro v6 w6 ho6 hg6 hpl
      have M6 : Mem w w6 [(g5, .cells es[i].cells.toArray 39 (0, 0)), (g1, .cells #[.slice A es.length c] 30 (0, 0))] := M5.grown hg6 (fun k hk => (ho5.lt k hk).1) (fun p hp => by
        simp only [List.mem_cons, List.not_mem_nil, or_false] at hp
        rcases hp with rfl | rfl
        · exact fun e => offrow ho5 (M5.get 0 rfl) (by decide) e.symm
        · exact fun e => offrow ho5 (M5.get 1 rfl) (by decide) e.symm)
      refine ⟨_, M6.cell 0 rfl rfl, ?_⟩
      refine brE_false (decide_eq_false (by omega)) ?_
      refine ⟨_, next, ?_⟩
      refine ⟨(i + 1, v6), ⟨rfl, rfl, rfl, trivial⟩, ⟨hlt, ?_, M6.tail⟩, by show es.length - (i + 1) < es.length - i; omega⟩
      show NewL _ _ _ _ _ _ (waivL (es.take (i + 1)))
      have : waivS (waivL (es.take i)) es[i] = waivL (es.take i) ++ [es[i].w] := by unfold waivS; rw [if_pos k3]
      rw [hsucc, this]
      unfold NewL
      rw [List.length_append, List.flatMap_append]
      simpa using ho6
    have k3 : ¬ es[i].kind = 3 := k3
    refine ⟨_, M4.cell 0 rfl rfl, ?_⟩
    refine brE_dec (fun k4 => ?_) (fun k4 => ?_)
    · have k4 : es[i].kind = 4 := k4
      obtain ⟨k, hlk, hid⟩ : ∃ k, ∃ _ : k < (waivL (es.take i)).length, es[i].w.id = ((k + 1 : Nat) : Int) := by
        obtain ⟨hf, _, hr⟩ := do_zero hdo
        obtain ⟨hok, _, _⟩ := form_okE hf
        unfold refusedE at hr
        rw [if_neg k3, if_pos k4] at hr
        have h1 : 1 ≤ es[i].w.id := by
          unfold okE at hok
          rw [if_neg (by omega), if_neg (by omega), if_neg (by omega), if_pos k4, decide_eq_true_eq] at hok
          omega
        split at hr
        · cases hr
        obtain ⟨k, hk, he⟩ := num_of (n := (waivL (es.take i)).length) (i := es[i].w.id) h1 (by omega)
        exact ⟨k, hk, he⟩
      obtain ⟨g, cap, cur, hv, hg, hb, hown, hrd, hput⟩ := row_openB (enc := Waiv.cells) Waiv.len (by omega) ho4 hlk
      subst hv
      refine ⟨_, M4.cell 0 rfl rfl, ?_⟩
      have hsub : IntKind.i64.wrap (es[i].w.id - 1) = (k : Int) := by rw [hid, fit ⟨by omega, by omega⟩]; omega
      refine ⟨(k : Int), hsub, ?_⟩
      refine ⟨k, g, 0, rfl, hlk, rfl, ?_⟩
      refine ⟨(waivL (es.take i))[k].cells, rfl, hrd, ?_⟩
      intro g6 w5 h5
      have M5 := M4.alloc h5
      refine ⟨rfl, _, _, M5.get 0 rfl, Nat.le_of_ble_eq_true rfl, rfl, ?_⟩
      intro w6 h6
      have M6 := M5.put 0 rfl h6
      refine ⟨_, M6.cell 0 rfl rfl, ?_⟩
      refine ⟨_, M6.cell 1 rfl rfl, ?_⟩
      refine ⟨_, M6.cell 0 rfl rfl, ?_⟩
      refine ⟨_, maxQ rfl rfl rfl rfl, ?_⟩
      refine ⟨_, minQ rfl rfl rfl rfl, ?_⟩
      refine ⟨rfl, _, _, M6.get 0 rfl, Nat.le_of_ble_eq_true rfl, rfl, ?_⟩
      intro w7 h7
      have M7 : Mem w w7 [(g6, .cells (endW es[i].day (waivL (es.take i))[k]).cells.toArray 35 (0, 0)), (g5, .cells es[i].cells.toArray 39 (0, 0)), (g1, .cells #[.slice A es.length c] 30 (0, 0))] := M6.put 0 rfl h7
      have e47 : Ext w4 w7 := ((Mem.start w4).alloc h5 |>.put 0 rfl h6 |>.put 0 rfl h7).ext
      have hne : g ≠ g6 := fun e => by have := lt_of_heap hg; rw [e, h5.new] at this; omega
      have ho7 := ho4.ext e47
      obtain ⟨g', cap', cur', hv', hg', hb', hown', hrd', hput'⟩ := row_openB (enc := Waiv.cells) Waiv.len (by omega) ho7 hlk
      cases hv'
      refine ⟨_, M7.cell 1 rfl rfl, ?_⟩
      refine ⟨(k : Int), hsub, ?_⟩
      refine ⟨(endW es[i].day (waivL (es.take i))[k]).cells, rfl, M7.rd 0 rfl, ?_⟩
      refine ⟨k, g, 0, rfl, hlk, rfl, ?_⟩
      refine ⟨rfl, _, _, hg', by show 0 + k * 9 + 9 ≤ _; omega, rfl, ?_⟩
      intro w8 h8
      have hrow := hput' 0 _ (endW es[i].day (waivL (es.take i))[k]) w8 rfl (Nat.le_of_ble_eq_true rfl) h8
      have hgn : w.heap.size ≤ g := (ho4.lt g rfl).1
      have M8 : Mem w w8 [(g1, .cells #[.slice A es.length c] 30 (0, 0))] := by
        have Ma : Mem w w7 [(g, .cells cur'.toArray 35 (0, 0)), (g1, .cells #[.slice A es.length c] 30 (0, 0))] := M7.tail.tail.add hg' hgn (fun p hp => by
          simp only [List.tail_cons, List.mem_cons, List.not_mem_nil, or_false] at hp
          rw [hp]
          intro e
          have e : g1 = g := e
          have := M7.get 2 rfl
          rw [e, hg'] at this
          simp at this)
        exact (Ma.put 0 rfl h8).tail
      refine ⟨_, next, ?_⟩
      refine ⟨(i + 1, _), ⟨rfl, rfl, rfl, trivial⟩, ⟨by show i + 1 ≤ es.length; omega, ?_, M8⟩, by show es.length - (i + 1) < es.length - i; omega⟩
      show NewL _ _ _ _ _ _ (waivL (es.take (i + 1)))
      have : waivS (waivL (es.take i)) es[i] = (waivL (es.take i)).set k (endW es[i].day (waivL (es.take i))[k]) := by unfold waivS; rw [if_neg k3, if_pos k4, hid, updAt_eq hlk]
      rw [hsucc, this]
      exact hrow
    · have k4 : ¬ es[i].kind = 4 := k4
      refine ⟨_, next, ?_⟩
      refine ⟨(i + 1, v), ⟨rfl, rfl, rfl, trivial⟩, ⟨hlt, ?_, M4.tail⟩, by show es.length - (i + 1) < es.length - i; omega⟩
      show NewL _ _ _ _ _ _ (waivL (es.take (i + 1)))
      have : waivS (waivL (es.take i)) es[i] = waivL (es.take i) := by unfold waivS; rw [if_neg k3, if_neg k4]
      rw [hsucc, this]
      exact ho4
  · have hi : i = es.length := by have : ¬ (i : Int) < (es.length : Nat) := hge; omega
    rw [hi, List.take_length] at ho
    exact ⟨ho, M2.ext⟩
theorem refRate_spec {w : World} {A : Option Addr} {es : List Entry} {c : Nat} (h : HL Entry.cells w A es c) (hl : es.length ≤ 2 ^ 16) {k : Int} (hk : 0 ≤ k ∧ k ≤ 255) :
    CallsV C.P 146 #[.slice A es.length c, .int .u8 k] w fun v w' => v = .int .i64 (rateL es k) ∧ Ext w w' := by
  refine callsV_of C_ok (args := [_, _]) (plans := []) Tryz.func146 rfl Tryz.ntmps146 (by kernel_rfl) (Nat.le_of_ble_eq_true rfl) ?_
  refine loopE C_ok (fun (p : Nat × Int) => [(0, .slice A es.length c), (1, .int .u8 k), (5, .int .i64 p.2), (6, .int .i64 p.1)])
    (fun p w' => p.1 ≤ es.length ∧ p.2 = rateL (es.take p.1) k ∧ Ext w w') (fun p => es.length - p.1) (0, 0) ⟨rfl, rfl, rfl, rfl, trivial⟩ ⟨Nat.zero_le _, rfl, Ext.refl _⟩ ?_
  rintro ⟨i, n⟩ w1 ⟨hi', hn', e1⟩
  have hi : i ≤ es.length := hi'
  have hn : n = rateL (es.take i) k := hn'
  clear hi' hn'
  refine brE_dec (fun hlt => ?_) (fun hge => ?_)
  · have hlt : i < es.length := by have : (i : Int) < (es.length : Nat) := hlt; omega
    obtain ⟨b, o, hAd, hc⟩ := Reads.elem Entry.len (by omega) (h.ext e1).reads hlt
    have next : IntKind.i64.wrap ((i : Int) + 1) = ((i + 1 : Nat) : Int) := fit ⟨by omega, by omega⟩
    have hsucc : rateL (es.take (i + 1)) k = rateS n k es[i] := by rw [List.take_succ_eq_append_getElem hlt, rateL_snoc, hn]
    refine ⟨i, b, o, rfl, hlt, hAd, ?_⟩
    refine ⟨_, hc 0 _ rfl, ?_⟩
    refine brE_dec (fun c1 => ?_) (fun c1 => ?_)
    · have c1 : es[i].kind = 1 := c1
      refine ⟨i, b, o, rfl, hlt, hAd, ?_⟩
      refine ⟨_, hc 21 _ rfl, ?_⟩
      refine ⟨k, fit ⟨by omega, by omega⟩, ?_⟩
      refine brE_dec (fun c2 => ?_) (fun c2 => ?_)
      · have c2 : es[i].a = k := c2
        refine ⟨i, b, o, rfl, hlt, hAd, ?_⟩
        refine ⟨_, hc 23 _ rfl, ?_⟩
        refine ⟨_, next, ?_⟩
        exact ⟨(i + 1, es[i].n), ⟨rfl, rfl, rfl, rfl, trivial⟩, ⟨hlt, by rw [hsucc]; unfold rateS; rw [if_pos ⟨c1, c2⟩], e1⟩, by show es.length - (i + 1) < es.length - i; omega⟩
      · have c2 : ¬ es[i].a = k := c2
        refine ⟨_, next, ?_⟩
        exact ⟨(i + 1, n), ⟨rfl, rfl, rfl, rfl, trivial⟩, ⟨hlt, by rw [hsucc]; unfold rateS; rw [if_neg (fun e => c2 e.2)], e1⟩, by show es.length - (i + 1) < es.length - i; omega⟩
    · have c1 : ¬ es[i].kind = 1 := c1
      refine ⟨_, next, ?_⟩
      exact ⟨(i + 1, n), ⟨rfl, rfl, rfl, rfl, trivial⟩, ⟨hlt, by rw [hsucc]; unfold rateS; rw [if_neg (fun e => c1 e.1)], e1⟩, by show es.length - (i + 1) < es.length - i; omega⟩
  · have hi : i = es.length := by have : ¬ (i : Int) < (es.length : Nat) := hge; omega
    rw [hi, List.take_length] at hn
    exact ⟨congrArg _ hn, e1⟩
theorem refCeil_spec {w : World} {A : Option Addr} {es : List Entry} {c : Nat} (h : HL Entry.cells w A es c) (hl : es.length ≤ 2 ^ 16) (k : Int) :
    CallsV C.P 175 #[.slice A es.length c, .int .i64 k] w fun v w' => v = .int .i64 (ceilL es k) ∧ Ext w w' := by
  refine callsV_of C_ok (args := [_, _]) (plans := []) Tryz.func175 rfl Tryz.ntmps175 (by kernel_rfl) (Nat.le_of_ble_eq_true rfl) ?_
  refine loopE C_ok (fun (p : Nat × Int) => [(0, .slice A es.length c), (1, .int .i64 k), (5, .int .i64 p.2), (6, .int .i64 p.1)])
    (fun p w' => p.1 ≤ es.length ∧ p.2 = ceilL (es.take p.1) k ∧ Ext w w') (fun p => es.length - p.1) (0, 0) ⟨rfl, rfl, rfl, rfl, trivial⟩ ⟨Nat.zero_le _, rfl, Ext.refl _⟩ ?_
  rintro ⟨i, n⟩ w1 ⟨hi', hn', e1⟩
  have hi : i ≤ es.length := hi'
  have hn : n = ceilL (es.take i) k := hn'
  clear hi' hn'
  refine brE_dec (fun hlt => ?_) (fun hge => ?_)
  · have hlt : i < es.length := by have : (i : Int) < (es.length : Nat) := hlt; omega
    obtain ⟨b, o, hAd, hc⟩ := Reads.elem Entry.len (by omega) (h.ext e1).reads hlt
    have next : IntKind.i64.wrap ((i : Int) + 1) = ((i + 1 : Nat) : Int) := fit ⟨by omega, by omega⟩
    have hsucc : ceilL (es.take (i + 1)) k = ceilS n k es[i] := by rw [List.take_succ_eq_append_getElem hlt, ceilL_snoc, hn]
    refine ⟨i, b, o, rfl, hlt, hAd, ?_⟩
    refine ⟨_, hc 0 _ rfl, ?_⟩
    refine brE_dec (fun c1 => ?_) (fun c1 => ?_)
    · have c1 : es[i].kind = 2 := c1
      refine ⟨i, b, o, rfl, hlt, hAd, ?_⟩
      refine ⟨_, hc 21 _ rfl, ?_⟩
      refine brE_dec (fun c2 => ?_) (fun c2 => ?_)
      · have c2 : es[i].a = k := c2
        refine ⟨i, b, o, rfl, hlt, hAd, ?_⟩
        refine ⟨_, hc 23 _ rfl, ?_⟩
        refine ⟨_, next, ?_⟩
        exact ⟨(i + 1, es[i].n), ⟨rfl, rfl, rfl, rfl, trivial⟩, ⟨hlt, by rw [hsucc]; unfold ceilS; rw [if_pos ⟨c1, c2⟩], e1⟩, by show es.length - (i + 1) < es.length - i; omega⟩
      · have c2 : ¬ es[i].a = k := c2
        refine ⟨_, next, ?_⟩
        exact ⟨(i + 1, n), ⟨rfl, rfl, rfl, rfl, trivial⟩, ⟨hlt, by rw [hsucc]; unfold ceilS; rw [if_neg (fun e => c2 e.2)], e1⟩, by show es.length - (i + 1) < es.length - i; omega⟩
    · have c1 : ¬ es[i].kind = 2 := c1
      refine ⟨_, next, ?_⟩
      exact ⟨(i + 1, n), ⟨rfl, rfl, rfl, rfl, trivial⟩, ⟨hlt, by rw [hsucc]; unfold ceilS; rw [if_neg (fun e => c1 e.1)], e1⟩, by show es.length - (i + 1) < es.length - i; omega⟩
  · have hi : i = es.length := by have : ¬ (i : Int) < (es.length : Nat) := hge; omega
    rw [hi, List.take_length] at hn
    exact ⟨congrArg _ hn, e1⟩
end Go.Proofs.YtcnbpfecgokhiaaGreatDoor
namespace Go.Proofs.YtcnbpfecgokhiaaGreatDoor
open Go.Eng Go.RowKit
abbrev RowD (B : Nat) (w : World) (v : Value) (l : List Due) : Prop := NewL Due.cells 74 3 B w v l
/-- A comparison by a function value. -/
def CmpD (gd : Nat) (cb : Array Value) (lt : Due → Due → Bool) : Prop := ∀ (x y : Due) (w : World), CallsV C.P gd (#[] ++ [x.val, y.val].toArray ++ cb) w fun v w' => (∃ k : Int, v = .int .i64 k ∧ (k < 0 ↔ lt x y = true)) ∧ Ext w w'
theorem rowD_at {B : Nat} {w : World} {A : Option Addr} {n c : Nat} {l : List Due} (h : RowD B w (.slice A n c) l) {i : Nat} (hi : i < l.length) : ∃ g, A = some ⟨g, 0, none⟩ ∧ B ≤ g ∧ Rd w g (0 + i * 3) l[i].cells ∧ n = l.length := by
  obtain ⟨g, cap, cur, hv, hg, hb, hown, hrd, hput⟩ := row_openB (enc := Due.cells) Due.len (by omega) h hi
  cases hv
  exact ⟨g, rfl, (h.lt g rfl).1, hrd, rfl⟩
theorem rowD_swap {B : Nat} {w : World} {A : Option Addr} {n c : Nat} {l : List Due} (h : RowD B w (.slice A n c) l) {i j : Nat} (hi : i < l.length) (hj : j < l.length) : ∃ g, ∃ cur : List Value, A = some ⟨g, 0, none⟩ ∧ w.heap[g]? = some (.cells cur.toArray 74 (0, 0)) ∧ 0 + i * 3 + 3 ≤ cur.length ∧
    ∀ w1, Put w g (.cells (splice cur (0 + i * 3) l[j].cells).toArray 74 (0, 0)) w1 → ∃ cur1 : List Value, w1.heap[g]? = some (.cells cur1.toArray 74 (0, 0)) ∧ 0 + j * 3 + 3 ≤ cur1.length ∧
      ∀ w2, Put w1 g (.cells (splice cur1 (0 + j * 3) l[i].cells).toArray 74 (0, 0)) w2 → RowD B w2 (.slice A n c) ((l.set i l[j]).set j l[i]) ∧ Below B w w2 := by
  obtain ⟨g, cap, cur, hv, hg, hb, hown, hrd, hput⟩ := row_openB (enc := Due.cells) Due.len (by omega) h hi
  cases hv
  have hB := (h.lt g rfl).1
  refine ⟨g, cur, rfl, hg, hb, fun w1 h1 => ?_⟩
  have r1 := hput 0 l[j].cells l[j] w1 rfl (Nat.le_of_ble_eq_true rfl) h1
  have hj1 : j < (l.set i l[j]).length := by rw [List.length_set]; exact hj
  obtain ⟨g', cap', cur', hv', hg', hb', hown', hrd', hput'⟩ := row_openB (enc := Due.cells) Due.len (by omega) r1 hj1
  have eg : g' = g := Option.some.inj (hown'.symm.trans hown)
  subst eg
  refine ⟨cur', hg', hb', fun w2 h2 => ⟨?_, below_put (put_below h1 hB) h2 hB⟩⟩
  exact hput' 0 l[i].cells l[i] w2 rfl (Nat.le_of_ble_eq_true rfl) h2
theorem swap_adj {α : Type} {P S : List α} {x y : α} : ((P ++ y :: x :: S).set (P.length + 1) y).set P.length x = P ++ x :: y :: S := by
  rw [List.set_append_right _ _ (by omega), show P.length + 1 - P.length = 1 by omega, List.set_append_right _ _ (Nat.le_refl _), Nat.sub_self]
  rfl
theorem get_adj0 {α : Type} {P S : List α} {x y : α} (h : P.length < (P ++ y :: x :: S).length) : (P ++ y :: x :: S)[P.length] = y := by simp
theorem get_adj1 {α : Type} {P S : List α} {x y : α} (h : P.length + 1 < (P ++ y :: x :: S).length) : (P ++ y :: x :: S)[P.length + 1] = x := by
  rw [List.getElem_append_right (by omega)]; simp
set_option maxRecDepth 100000 in
set_option maxHeartbeats 1000000 in
theorem insSort_spec {B : Nat} {w : World} {A : Option Addr} {n c gd a b : Nat} {cb : Array Value} {lt : Due → Due → Bool} {P M S : List Due} (ho : RowD B w (.slice A n c) (P ++ (M ++ S))) (hB : B ≤ w.heap.size) (hn : n ≤ 2 ^ 30) (ha : a = P.length) (hb : b = a + M.length) (hgd : C.can gd = true) (hcmp : CmpD gd cb lt) (O : OrdB lt) :
    CallsV C.P 238 #[.slice A n c, .int .i64 (a : Nat), .int .i64 (b : Nat), .func (.func gd) #[] cb] w fun _ w' => ∃ M', M'.Perm M ∧ SortedB lt M' ∧ RowD B w' (.slice A n c) (P ++ (M' ++ S)) ∧ Below B w w' := by
  have hlen : n = (P ++ (M ++ S)).length := by
    obtain ⟨A', c', e, _⟩ := NewL.hl ho
    cases e; rfl
  have hln : n = P.length + (M.length + S.length) := by rw [hlen, List.length_append, List.length_append]
  refine callsV_of C_ok (args := [_, _, _, _]) (plans := plans238) Tryz.func238 rfl Tryz.ntmps238 (by kernel_rfl) (Nat.le_of_ble_eq_true rfl) ?_
  refine ⟨((a + 1 : Nat) : Int), fit ⟨by omega, by omega⟩, ?_⟩
  refine loopE C_ok (fun (p : Nat × List Due) => [(0, .slice A n c), (1, .int .i64 (a : Nat)), (2, .int .i64 (b : Nat)), (3, .func (.func gd) #[] cb), (8, .int .i64 ((a + p.1 : Nat) : Int))])
    (fun p w' => 1 ≤ p.1 ∧ p.2.Perm (M.take p.1) ∧ SortedB lt p.2 ∧ RowD B w' (.slice A n c) (P ++ (p.2 ++ (M.drop p.1 ++ S))) ∧ Below B w w') (fun p => M.length - p.1) (1, M.take 1) ⟨rfl, rfl, rfl, rfl, rfl, trivial⟩
    ⟨Nat.le_refl _, List.Perm.refl _, ?_, ?_, Below.refl _ _⟩ ?_
  · show SortedB lt (M.take 1)
    cases M with
    | nil => exact List.Pairwise.nil
    | cons x r => simp [SortedB]
  · show RowD B w (.slice A n c) (P ++ (M.take 1 ++ (M.drop 1 ++ S)))
    rw [← List.append_assoc (M.take 1), List.take_append_drop]; exact ho
  rintro ⟨k, M1⟩ w1 ⟨hk', hp', hs', ho', b1⟩
  have hk : 1 ≤ k := hk'
  have hp : M1.Perm (M.take k) := hp'
  have hs : SortedB lt M1 := hs'
  have ho1 : RowD B w1 (.slice A n c) (P ++ (M1 ++ (M.drop k ++ S))) := ho'
  clear hk' hp' hs' ho'
  refine brE_dec (fun hlt => ?_) (fun hge => ?_)
  · have hlt : k < M.length := by have : ((a + k : Nat) : Int) < (b : Nat) := hlt; omega
    have hM1 : M1.length = k := by rw [hp.length_eq, List.length_take]; omega
    generalize hx : M[k] = x
    have hdrop : M.drop k = x :: M.drop (k + 1) := by rw [← hx]; exact List.drop_eq_getElem_cons hlt
    rw [hdrop] at ho1
    refine loopE C_ok (fun (p : List Due × List Due) => [(0, .slice A n c), (1, .int .i64 (a : Nat)), (2, .int .i64 (b : Nat)), (3, .func (.func gd) #[] cb), (8, .int .i64 ((a + k : Nat) : Int)), (9, .int .i64 ((a + p.1.length : Nat) : Int))])
      (fun p w' => M1 = p.1 ++ p.2 ∧ (∀ z ∈ p.2, lt x z = true) ∧ RowD B w' (.slice A n c) (P ++ (p.1 ++ x :: (p.2 ++ (M.drop (k + 1) ++ S)))) ∧ Below B w w') (fun p => p.1.length) (M1, []) ⟨rfl, rfl, rfl, rfl, rfl, congrArg (fun q : Nat => some (Value.int IntKind.i64 ((a + q : Nat) : Int))) hM1.symm, trivial⟩
      ⟨(List.append_nil _).symm, (fun z hz => by cases hz), ho1, b1⟩ ?_
    rintro ⟨Q, R⟩ w2 ⟨hQR', hR', ho', b2⟩
    have hQR : M1 = Q ++ R := hQR'
    have hR : ∀ z ∈ R, lt x z = true := hR'
    have ho2 : RowD B w2 (.slice A n c) (P ++ (Q ++ x :: (R ++ (M.drop (k + 1) ++ S)))) := ho'
    clear hQR' hR' ho'
    have hQl : Q.length ≤ k := by rw [← hM1, hQR, List.length_append]; omega
    -- when the place is found
    have done : ∀ w3, (∀ z ∈ Q, lt x z = false) → RowD B w3 (.slice A n c) (P ++ (Q ++ x :: (R ++ (M.drop (k + 1) ++ S)))) → (Q ++ x :: R).Perm (M.take (k + 1)) ∧ SortedB lt (Q ++ x :: R) ∧ RowD B w3 (.slice A n c) (P ++ ((Q ++ x :: R) ++ (M.drop (k + 1) ++ S))) := fun w3 hq h3 => by
      refine ⟨?_, sorted_insert (by rw [← hQR]; exact hs) hq fun z hz => O.asym _ _ (hR z hz), ?_⟩
      · rw [List.take_succ_eq_append_getElem hlt, hx]
        refine List.perm_middle.trans ?_
        rw [← hQR]
        exact (List.Perm.cons x hp).trans (List.perm_append_singleton x (M.take k)).symm
      · have : (Q ++ x :: R) ++ (M.drop (k + 1) ++ S) = Q ++ x :: (R ++ (M.drop (k + 1) ++ S)) := by simp
        rw [this]; exact h3
    have fin : ∀ w3, (∀ z ∈ Q, lt x z = false) → RowD B w3 (.slice A n c) (P ++ (Q ++ x :: (R ++ (M.drop (k + 1) ++ S)))) → Below B w w3 → IntKind.i64.wrap (((a + k : Nat) : Int) + 1) = ((a + (k + 1) : Nat) : Int) := fun _ _ _ _ => fit ⟨by omega, by omega⟩
    refine brE_dec (fun hj => ?_) (fun hj => ?_)
    · have hj : 0 < Q.length := by have : ((a + Q.length : Nat) : Int) > (a : Nat) := hj; omega
      obtain ⟨I, y, rfl⟩ : ∃ I y, Q = I ++ [y] := ⟨Q.dropLast, Q.getLast (by intro e; rw [e] at hj; exact Nat.lt_irrefl _ hj), (List.dropLast_concat_getLast _).symm⟩
      have hIl : (I ++ [y]).length = I.length + 1 := by simp
      have eL : P ++ ((I ++ [y]) ++ x :: (R ++ (M.drop (k + 1) ++ S))) = (P ++ I) ++ y :: x :: (R ++ (M.drop (k + 1) ++ S)) := by simp
      rw [eL] at ho2
      have hpl : (P ++ I).length = a + I.length := by rw [List.length_append, ha]
      have hLl : ((P ++ I) ++ y :: x :: (R ++ (M.drop (k + 1) ++ S))).length = n := by
        obtain ⟨A', c', e, _⟩ := NewL.hl ho2
        cases e; rfl
      have hi0 : (P ++ I).length < ((P ++ I) ++ y :: x :: (R ++ (M.drop (k + 1) ++ S))).length := by simp only [List.length_append, List.length_cons]; omega
      have hi1 : (P ++ I).length + 1 < ((P ++ I) ++ y :: x :: (R ++ (M.drop (k + 1) ++ S))).length := by simp only [List.length_append, List.length_cons]; omega
      have sub1 : IntKind.i64.wrap (((a + (I ++ [y]).length : Nat) : Int) - 1) = ((a + I.length : Nat) : Int) := by rw [hIl, fit ⟨by omega, by omega⟩]; omega
      have idx1 : a + (I ++ [y]).length = (P ++ I).length + 1 := by rw [hIl, hpl]; omega
      have idx0 : a + I.length = (P ++ I).length := hpl.symm
      obtain ⟨g1, hA1, _, hr1, _⟩ := rowD_at ho2 hi1
      obtain ⟨g0, hA0, _, hr0, _⟩ := rowD_at ho2 hi0
      rw [get_adj1 hi1] at hr1
      rw [get_adj0 hi0] at hr0
      refine ⟨a + (I ++ [y]).length, g1, 0, rfl, by rw [idx1, ← hLl]; exact hi1, hA1, ?_⟩
      refine ⟨x.cells, rfl, by rw [idx1]; exact hr1, ?_⟩
      refine ⟨((a + I.length : Nat) : Int), sub1, ?_⟩
      refine ⟨a + I.length, g0, 0, rfl, by rw [idx0, ← hLl]; exact hi0, hA0, ?_⟩
      refine ⟨y.cells, rfl, by rw [idx0]; exact hr0, ?_⟩
      refine brE_true hgd ?_
      refine (hcmp x y w2).mono ?_
      rintro v w3 ⟨⟨z, rfl, hz⟩, e3⟩
      have ho3 := ho2.ext e3
      have b3 : Below B w w3 := b2.trans (e3.mono (Nat.le_trans hB b2.size))
      refine brE_dec (fun hc => ?_) (fun hc => ?_)
      · have hc : z < 0 := hc
        have hlt2 := hz.1 hc
        obtain ⟨g, cur, hA, hg, hb1, hput⟩ := rowD_swap ho3 hi1 hi0
        have hrd := rowD_at ho3 hi1
        have hrd0 := rowD_at ho3 hi0
        rw [get_adj1 hi1] at hrd
        rw [get_adj0 hi0] at hrd0
        obtain ⟨g1', hA1', _, hr1', _⟩ := hrd
        obtain ⟨g0', hA0', _, hr0', _⟩ := hrd0
        rw [get_adj1 hi1, get_adj0 hi0, swap_adj] at hput
        refine ⟨((a + I.length : Nat) : Int), sub1, ?_⟩
        refine ⟨((a + I.length : Nat) : Int), sub1, ?_⟩
        refine ⟨a + I.length, g0', 0, rfl, by rw [idx0, ← hLl]; exact hi0, hA0', ?_⟩
        refine ⟨y.cells, rfl, by rw [idx0]; exact hr0', ?_⟩
        refine ⟨a + (I ++ [y]).length, g1', 0, rfl, by rw [idx1, ← hLl]; exact hi1, hA1', ?_⟩
        refine ⟨x.cells, rfl, by rw [idx1]; exact hr1', ?_⟩
        refine ⟨a + (I ++ [y]).length, g, 0, rfl, by rw [idx1, ← hLl]; exact hi1, hA, ?_⟩
        rw [idx1]
        refine ⟨rfl, _, _, hg, hb1, rfl, ?_⟩
        intro w4 h4
        obtain ⟨cur1, hg1, hb2, hput2⟩ := hput w4 h4
        refine ⟨a + I.length, g, 0, rfl, by rw [idx0, ← hLl]; exact hi0, hA, ?_⟩
        rw [idx0]
        refine ⟨rfl, _, _, hg1, hb2, rfl, ?_⟩
        intro w5 h5
        obtain ⟨ho5, b5⟩ := hput2 w5 h5
        rw [← idx1]
        refine ⟨((a + I.length : Nat) : Int), sub1, ?_⟩
        refine ⟨(I, y :: R), ⟨rfl, rfl, rfl, rfl, rfl, rfl, trivial⟩, ⟨?_, ?_, ?_, b3.trans b5⟩, by show I.length < (I ++ [y]).length; rw [hIl]; omega⟩
        · show M1 = I ++ y :: R
          rw [hQR]; simp
        · intro z hz
          rcases List.mem_cons.1 hz with rfl | hz
          · exact hlt2
          · exact hR z hz
        · show RowD B w5 (.slice A n c) (P ++ (I ++ x :: ((y :: R) ++ (M.drop (k + 1) ++ S))))
          have : P ++ (I ++ x :: ((y :: R) ++ (M.drop (k + 1) ++ S))) = (P ++ I) ++ x :: y :: (R ++ (M.drop (k + 1) ++ S)) := by simp
          rw [this]; exact ho5
      · have hc : ¬ z < 0 := hc
        have hnl : lt x y = false := by
          cases e : lt x y with
          | false => rfl
          | true => exact absurd (hz.2 e) hc
        have hall : ∀ z ∈ I ++ [y], lt x z = false := sorted_last O (by rw [hQR] at hs; exact (List.pairwise_append.1 hs).1) hnl
        rw [← eL] at ho3
        obtain ⟨d1, d2, d3⟩ := done w3 hall ho3
        refine ⟨((a + (k + 1) : Nat) : Int), fin w3 hall ho3 b3, ?_⟩
        exact ⟨(k + 1, (I ++ [y]) ++ x :: R), ⟨rfl, rfl, rfl, rfl, rfl, trivial⟩, ⟨by show 1 ≤ k + 1; omega, d1, d2, d3, b3⟩, by show M.length - (k + 1) < M.length - k; omega⟩
    · have hj : Q = [] := List.length_eq_zero_iff.1 (by have : ¬ ((a + Q.length : Nat) : Int) > (a : Nat) := hj; omega)
      have hall : ∀ z ∈ Q, lt x z = false := fun z hz => by rw [hj] at hz; cases hz
      obtain ⟨d1, d2, d3⟩ := done w2 hall ho2
      refine ⟨((a + (k + 1) : Nat) : Int), fin w2 hall ho2 b2, ?_⟩
      exact ⟨(k + 1, Q ++ x :: R), ⟨rfl, rfl, rfl, rfl, rfl, trivial⟩, ⟨by show 1 ≤ k + 1; omega, d1, d2, d3, b2⟩, by show M.length - (k + 1) < M.length - k; omega⟩
  · have hge : M.length ≤ k := by have : ¬ ((a + k : Nat) : Int) < (b : Nat) := hge; omega
    rw [List.take_of_length_le hge] at hp
    rw [List.drop_eq_nil_of_le hge] at ho1
    exact ⟨M1, hp, hs, ho1, b1⟩
end Go.Proofs.YtcnbpfecgokhiaaGreatDoor
namespace Go.Proofs.YtcnbpfecgokhiaaGreatDoor
open Go.Eng Go.RowKit
open Go.Maps (Keyed)
theorem rowD_len {B : Nat} {w : World} {A : Option Addr} {n c : Nat} {l : List Due} (h : RowD B w (.slice A n c) l) : n = l.length := by
  obtain ⟨A', c', e, _⟩ := NewL.hl h
  cases e; rfl
theorem stable_small {B : Nat} {w : World} {A : Option Addr} {n c gd : Nat} {cb : Array Value} {lt : Due → Due → Bool} {M : List Due} (ho : RowD B w (.slice A n c) M) (hB : B ≤ w.heap.size) (hn : n < 20) (hgd : C.can gd = true) (hcmp : CmpD gd cb lt) (O : OrdB lt) :
    CallsV C.P 198 #[.slice A n c, .int .i64 (n : Nat), .func (.func gd) #[] cb] w fun _ w' => ∃ M', M'.Perm M ∧ SortedB lt M' ∧ RowD B w' (.slice A n c) M' ∧ Below B w w' := by
  refine callsV_of C_ok (args := [_, _, _]) (plans := []) Tryz.func198 rfl Tryz.ntmps198 (by kernel_rfl) (Nat.le_of_ble_eq_true rfl) ?_
  refine loopE C_ok (fun (_ : Unit) => [(0, .slice A n c), (1, .int .i64 (n : Nat)), (2, .func (.func gd) #[] cb), (6, .int .i64 20), (7, .int .i64 0), (8, .int .i64 20)]) (fun _ w' => w' = w) (fun _ => 0) () ⟨rfl, rfl, rfl, rfl, rfl, rfl, trivial⟩ rfl ?_
  rintro _ w1 rfl
  refine brE_false (decide_eq_false (by show ¬ (20 : Int) ≤ (n : Nat); omega)) ?_
  have hl := rowD_len ho
  refine (insSort_spec (P := []) (M := M) (S := []) (a := 0) (b := n) (by rw [List.nil_append, List.append_nil]; exact ho) hB (by omega) rfl (by omega) hgd hcmp O).mono ?_
  rintro v w2 ⟨M', h1, h2, h3, h4⟩
  rw [List.nil_append, List.append_nil] at h3
  refine loopE C_ok (fun (_ : Unit) => [(1, .int .i64 (n : Nat)), (6, .int .i64 20)]) (fun _ w' => w' = w2) (fun _ => 0) () ⟨rfl, rfl, trivial⟩ rfl ?_
  rintro _ w3 rfl
  refine brE_false (decide_eq_false (by show ¬ (20 : Int) < (n : Nat); omega)) ?_
  exact ⟨M', h1, h2, h3, h4⟩
theorem sortStable_small {B : Nat} {w : World} {A : Option Addr} {n c gd : Nat} {cb : Array Value} {lt : Due → Due → Bool} {M : List Due} (ho : RowD B w (.slice A n c) M) (hB : B ≤ w.heap.size) (hn : n < 20) (hgd : C.can gd = true) (hcmp : CmpD gd cb lt) (O : OrdB lt) :
    CallsV C.P 173 #[.slice A n c, .func (.func gd) #[] cb] w fun _ w' => ∃ M', M'.Perm M ∧ SortedB lt M' ∧ RowD B w' (.slice A n c) M' ∧ Below B w w' := by
  refine callsV_of C_ok (args := [_, _]) (plans := []) Tryz.func173 rfl Tryz.ntmps173 (by kernel_rfl) (Nat.le_of_ble_eq_true rfl) ?_
  exact (stable_small ho hB hn hgd hcmp O).mono fun v w' h => h
/-- A list as a new one, in order, if 'sort' sorts lists as long as it. -/
theorem sortedD_spec {w : World} {A : Option Addr} {n c gd : Nat} {cb : Array Value} {lt : Due → Due → Bool} {l : List Due} (hr : Reads w A (l.flatMap Due.cells)) (hn : n = l.length) (hl : l.length ≤ 2 ^ 20) (hgd : C.can gd = true)
    (sort : ∀ {B : Nat} {w : World} {A : Option Addr} {c : Nat}, RowD B w (.slice A n c) l → B ≤ w.heap.size → CallsV C.P 173 #[.slice A n c, .func (.func gd) #[] cb] w fun _ w' => ∃ M', M'.Perm l ∧ SortedB lt M' ∧ RowD B w' (.slice A n c) M' ∧ Below B w w') :
    CallsV C.P 140 #[.slice A n c, .func (.func gd) #[] cb] w fun v w' => ∃ M', M'.Perm l ∧ SortedB lt M' ∧ RowD w.heap.size w' v M' ∧ Ext w w' := by
  subst hn
  refine callsV_of C_ok (args := [_, _]) (plans := []) Tryz.func140 rfl Tryz.ntmps140 (by kernel_rfl) (Nat.le_of_ble_eq_true rfl) ?_
  refine (CloneD_spec hr hl).mono ?_
  rintro v w1 ⟨h1, e1⟩
  obtain ⟨A1, c1, rfl, _⟩ := NewL.hl h1
  refine (sort h1 e1.size).mono ?_
  rintro v w2 ⟨M', p2, s2, h2, b2⟩
  exact ⟨M', p2, s2, h2, ext_below e1 b2 (Nat.le_refl _)⟩
theorem isNaND_spec (a : Int) (w : World) : CallsV C.P 174 #[.int .i64 a] w fun v w' => v = .bool false ∧ w' = w := by
  refine callsV_of C_ok (args := [_]) (plans := []) Tryz.func174 rfl Tryz.ntmps174 (by kernel_rfl) (Nat.le_of_ble_eq_true rfl) ?_
  exact ⟨congrArg _ (show (!decide (a = a)) = false by simp), rfl⟩
def cmpK (a b : Int) : Int := if a < b then -1 else if a > b then 1 else 0
theorem CompareD_spec (a b : Int) (w : World) : CallsV C.P 143 #[.int .i64 a, .int .i64 b] w fun v w' => v = .int .i64 (cmpK a b) ∧ w' = w := by
  refine callsV_of C_ok (args := [_, _]) (plans := []) Tryz.func143 rfl Tryz.ntmps143 (by kernel_rfl) (Nat.le_of_ble_eq_true rfl) ?_
  refine (isNaND_spec a w).mono ?_
  rintro v w1 ⟨rfl, rfl⟩
  refine (isNaND_spec b w1).mono ?_
  rintro v w2 ⟨rfl, rfl⟩
  refine brE_dec (fun c1 => ?_) (fun c1 => ?_)
  · have c1 : a < b := c1
    exact ⟨congrArg _ (by unfold cmpK; rw [if_pos c1]), rfl⟩
  have c1 : ¬ a < b := c1
  refine brE_dec (fun c2 => ?_) (fun c2 => ?_)
  · have c2 : a > b := c2
    exact ⟨congrArg _ (by unfold cmpK; rw [if_neg c1, if_pos c2]), rfl⟩
  · have c2 : ¬ a > b := c2
    exact ⟨congrArg _ (by unfold cmpK; rw [if_neg c1, if_neg c2]), rfl⟩
theorem OrD_spec {w : World} {g : Nat} {a b : Int} (hg : w.heap[g]? = some (.cells #[.int .i64 a, .int .i64 b] 3 (0, 0))) :
    CallsV C.P 142 #[.slice (some ⟨g, 0, none⟩) 2 2] w fun v w' => v = .int .i64 (if a ≠ 0 then a else b) ∧ w' = w := by
  refine callsV_of C_ok (args := [_]) (plans := []) Tryz.func142 rfl Tryz.ntmps142 (by kernel_rfl) (Nat.le_of_ble_eq_true rfl) ?_
  refine loopE C_ok (fun (i : Nat) => [(3, .int .i64 0), (6, .slice (some ⟨g, 0, none⟩) 2 2), (7, .int .i64 2), (8, .int .i64 (i : Nat))]) (fun i w' => w' = w ∧ i ≤ 2 ∧ (0 < i → a = 0) ∧ (1 < i → b = 0)) (fun i => 2 - i) 0 ⟨rfl, rfl, rfl, rfl, trivial⟩ ⟨rfl, by omega, fun h => absurd h (by omega), fun h => absurd h (by omega)⟩ ?_
  rintro i w1 ⟨rfl, hi, h0, h1⟩
  refine brE_dec (fun hlt => ?_) (fun hge => ?_)
  · have hlt : i < 2 := by have : (i : Int) < 2 := hlt; omega
    refine ⟨i, g, 0, rfl, hlt, rfl, ?_⟩
    rcases (show i = 0 ∨ i = 1 by omega) with rfl | rfl
    · refine ⟨.int .i64 a, cell_of_block hg rfl, ?_⟩
      refine brE_ndec (fun c => ?_) (fun c => ?_)
      · have c : ¬ a = 0 := c
        exact ⟨congrArg _ (by rw [if_pos c]), rfl⟩
      · have c : a = 0 := c
        refine ⟨1, rfl, ?_⟩
        exact ⟨1, ⟨rfl, rfl, rfl, rfl, trivial⟩, ⟨rfl, by omega, fun _ => c, fun h => absurd h (by omega)⟩, by decide⟩
    · refine ⟨.int .i64 b, cell_of_block hg rfl, ?_⟩
      refine brE_ndec (fun c => ?_) (fun c => ?_)
      · exact ⟨congrArg _ (by rw [if_neg (fun h => h (h0 (by omega)))]), rfl⟩
      · have c : b = 0 := c
        refine ⟨2, rfl, ?_⟩
        exact ⟨2, ⟨rfl, rfl, rfl, rfl, trivial⟩, ⟨rfl, by omega, fun _ => h0 (by omega), fun _ => c⟩, by decide⟩
  · have hi2 : i = 2 := by have : ¬ (i : Int) < 2 := hge; omega
    exact ⟨congrArg _ (by rw [if_neg (fun h => h (h0 (by omega))), h1 (by omega)]), rfl⟩
theorem cmpDue : CmpD 141 #[] dueLt := by
  intro x y w
  refine callsV_of C_ok (args := [_, _]) (plans := plans141) Tryz.func141 rfl Tryz.ntmps141 (by kernel_rfl) (Nat.le_of_ble_eq_true rfl) ?_
  intro g2 w1 h1
  have M1 := (Mem.start w).alloc h1
  intro g3 w2 h2
  have M2 : Mem w w2 [(g3, .cells y.cells.toArray 74 (0, 0)), (g2, .cells x.cells.toArray 74 (0, 0))] := M1.alloc h2
  refine ⟨_, M2.cell 1 rfl rfl, ?_⟩
  refine ⟨_, M2.cell 0 rfl rfl, ?_⟩
  refine ⟨_, M2.cell 1 rfl rfl, ?_⟩
  refine ⟨_, M2.cell 0 rfl rfl, ?_⟩
  refine (CompareD_spec x.cred y.cred w2).mono ?_
  rintro v w3 ⟨rfl, rfl⟩
  refine ⟨Ext.refl _, ?_⟩
  refine (CompareD_spec x.debt y.debt w3).mono ?_
  rintro v w4 ⟨rfl, rfl⟩
  intro g4 w5 h5
  have M5 := M2.alloc h5
  refine (OrD_spec h5.here).mono ?_
  rintro v w6 ⟨rfl, rfl⟩
  refine ⟨⟨_, rfl, ?_⟩, M5.ext⟩
  unfold cmpK dueLt
  by_cases h1 : x.cred < y.cred
  · rw [if_pos h1, if_pos (by decide), decide_eq_true h1]; simp
  · by_cases h2 : x.cred > y.cred
    · rw [if_neg h1, if_pos h2, if_pos (by decide), decide_eq_false h1, decide_eq_false (by omega)]; simp
    · rw [if_neg h1, if_neg h2, if_neg (fun h => h rfl), decide_eq_false h1, decide_eq_true (by omega : x.cred = y.cred)]
      by_cases h3 : x.debt < y.debt
      · rw [if_pos h3, decide_eq_true h3]; simp
      · rw [if_neg h3, decide_eq_false h3]
        by_cases h4 : x.debt > y.debt
        · rw [if_pos h4]; simp
        · rw [if_neg h4]; simp
theorem ordDue : OrdB dueLt := by
  refine ⟨fun x y h => ?_, fun x y z h1 h2 => ?_⟩
  · rw [dueLt_iff] at h
    cases e : dueLt y x with
    | false => rfl
    | true => rw [dueLt_iff] at e; omega
  · cases e : dueLt z x with
    | false => rfl
    | true =>
      have n1 : ¬ dueLt y x = true := by rw [h1]; decide
      have n2 : ¬ dueLt z y = true := by rw [h2]; decide
      rw [dueLt_iff] at e n1 n2
      omega
def unP (p : Value × Value) : Due := match p.1.cells.toList, p.2 with
  | [.int _ a, .int _ b], .int _ c => ⟨a, b, c⟩
  | _, _ => dueZ
theorem unP_dueP (d : Due) : unP (dueP d) = d := rfl
theorem perm_dueP {a b : List Due} (h : (a.map dueP).Perm (b.map dueP)) : a.Perm b := by
  have := h.map unP
  rw [List.map_map, List.map_map] at this
  have e : unP ∘ dueP = id := funext unP_dueP
  rw [e, List.map_id, List.map_id] at this
  exact this
set_option maxRecDepth 100000 in
theorem owed_spec {w : World} {s : SV} {es : List Entry} (h : StateIs w s es) (hA : Acc es) (hl : (dueL es).length ≤ 2 ^ 16)
    (sort : ∀ {B : Nat} {w : World} {A : Option Addr} {n c : Nat} {l : List Due}, l.Perm (dueL es) → RowD B w (.slice A n c) l → B ≤ w.heap.size → CallsV C.P 173 #[.slice A n c, .func (.func 141) #[] #[]] w fun _ w' => ∃ M', M'.Perm l ∧ SortedB dueLt M' ∧ RowD B w' (.slice A n c) M' ∧ Below B w w') :
    CallsV C.P 98 #[.pointer (some ⟨s.gs, 0, none⟩)] w fun v w' => RowD w.heap.size w' v (sortDue (dueL es)) ∧ Ext w w' := by
  refine callsV_of C_ok (args := [_]) (plans := []) Tryz.func98 rfl Tryz.ntmps98 (by kernel_rfl) (Nat.le_of_ble_eq_true rfl) ?_
  refine ⟨_, cell_of_block (i := 3) h.block rfl, ?_⟩
  refine walkStart C_ok h.dues rfl rfl rfl rfl ?_
  intro r w1 e1 hr W1
  have hbl : s.bD < w.heap.size := h.dues.lt
  have hbr : s.bD ≠ r := by omega
  refine loopE C_ok (fun (p : List (Value × Value) × List Due × Value) => [(3, p.2.2), (10, .pointer (some ⟨r, 0, none⟩))])
    (fun p w' => Walks w' s.bD r p.1 ∧ (p.2.1.map dueP ++ p.1).Perm ((dueL es).map dueP) ∧ RowD w.heap.size w' p.2.2 p.2.1 ∧ Ext w w') (fun p => p.1.length) ((dueL es).map dueP, [], .slice none 0 0) ⟨rfl, rfl, trivial⟩
    ⟨W1, List.Perm.refl _, newL_nil, e1⟩ ?_
  rintro ⟨D, acc, v⟩ w2 ⟨W2', hp', ho', e2⟩
  have W2 : Walks w2 s.bD r D := W2'
  have hp : (acc.map dueP ++ D).Perm ((dueL es).map dueP) := hp'
  have ho : RowD w.heap.size w2 v acc := ho'
  clear W2' hp' ho'
  have hal : acc.length + D.length = (dueL es).length := by
    have := hp.length_eq
    rw [List.length_append, List.length_map, List.length_map] at this; exact this
  refine walkNextE C_ok W2 hbr rfl rfl (fun hD => ?_) (fun p D' hpD o' w3 h3 W3 hat => ?_)
  · subst hD
    rw [List.append_nil] at hp
    have hpa := perm_dueP hp
    obtain ⟨A, c, rfl, hhl⟩ := NewL.hl ho
    refine (sortedD_spec hhl.reads rfl (by have := hpa.length_eq; omega) rfl (fun hrow hB => sort hpa hrow hB)).mono ?_
    rintro v w3 ⟨M', p3, s3, h3, e3⟩
    have e : M' = sortDue (dueL es) := sortDue_eq (p3.trans hpa) s3 (acc_ok hA).dues
    rw [← e]
    exact ⟨NewL.base h3 e2.size, e2.trans e3⟩
  · obtain ⟨d, rfl⟩ : ∃ d : Due, p = dueP d := by
      have : p ∈ (dueL es).map dueP := hp.mem_iff.1 (List.mem_append_right _ (hpD.mem_iff.2 (List.mem_cons_self ..)))
      obtain ⟨d, _, rfl⟩ := List.mem_map.1 this
      exact ⟨d, rfl⟩
    have e3 : Ext w w3 := h3.ext_of e2 hr
    have hr2 := W2.lt.2
    have ho3 : RowD w.heap.size w3 v acc := ownsRow_put ho h3 (fun e => by
      obtain ⟨_, cur, hc⟩ := owns_at ho e
      obtain ⟨es', clk, since, seen, c0, _, h2, _⟩ := W2
      rw [h2] at hc; cases hc)
    refine ⟨_, entryQ hat rfl rfl, ?_⟩
    intro g4 w4 h4
    have hnr : g4 ≠ r := fun e => by
      have := W3.lt.2
      rw [h4.new] at e; omega
    have hnb : g4 ≠ s.bD := fun e => by
      have := W3.lt.1
      rw [h4.new] at e; omega
    refine ⟨rfl, _, _, h4.here, Nat.le_of_ble_eq_true rfl, rfl, ?_⟩
    intro w5 h5
    have h5 : Put w4 g4 (.cells #[.int .i64 d.cred, .int .i64 d.debt] 136 (0, 0)) w5 := h5
    have e35 : Ext w3 w5 := h5.ext_of h4.ext (by rw [h4.new]; exact Nat.le_refl _)
    refine ⟨.int .i64 d.cred, cell_of_block h5.here rfl, ?_⟩
    refine ⟨.int .i64 d.debt, cell_of_block h5.here rfl, ?_⟩
    intro g6 w6 h6
    have e36 := e35.trans h6.ext
    have ho6 := ho3.ext e36
    refine ⟨rfl, rfl, rfl, w.heap.size, _, _, d.cells, ho6, Nat.le_trans e3.size e36.size, Nat.le_of_ble_eq_true rfl, rfl, rfl, .inr ⟨g6, 0, rfl, Rd.of_block h6.here⟩, rfl, rfl, by omega, by simp only [maxLen]; omega, ?_⟩
    intro v7 w7 ho7 hg7 hpl
    have W6 : Walks w6 s.bD r D' := W3.keep (e36.block _ W3.lt.1) (e36.block _ W3.lt.2)
    have W7 : Walks w7 s.bD r D' := by
      refine W6.keep (hg7.block _ W6.lt.1 (fun e => ?_)) (hg7.block _ W6.lt.2 (fun e => ?_))
      · obtain ⟨_, cur, hc⟩ := owns_at ho6 e.symm
        obtain ⟨es', clk, since, seen, c0, h1, h2, _⟩ := W6
        rw [h1] at hc; cases hc
      · obtain ⟨_, cur, hc⟩ := owns_at ho6 e.symm
        obtain ⟨es', clk, since, seen, c0, h1, h2, _⟩ := W6
        rw [h2] at hc; cases hc
    refine ⟨(D', acc ++ [d], v7), ⟨rfl, rfl, trivial⟩, ⟨W7, ?_, ?_, app_ext (e3.trans e36) ho6 hg7⟩, ?_⟩
    · show ((acc ++ [d]).map dueP ++ D').Perm _
      rw [List.map_append, List.append_assoc]
      exact (List.Perm.append_left _ hpD.symm).trans hp
    · show RowD w.heap.size w7 v7 (acc ++ [d])
      unfold RowD NewL
      rw [List.length_append, List.flatMap_append]
      simpa using ho7
    · show D'.length < D.length
      rw [hpD.length_eq]; simp
/-- The dues of a ledger, if lists as long as they are sorted. -/
theorem Dues_spec {w : World} {l : LV} {es : List Entry} (h : LedgerIs w l es) (hl : es.length ≤ 2 ^ 16) (day : Int) (hd : (dueL (asOfL es day)).length ≤ 2 ^ 16)
    (sort : ∀ {B : Nat} {w : World} {A : Option Addr} {n c : Nat} {l : List Due}, l.Perm (dueL (asOfL es day)) → RowD B w (.slice A n c) l → B ≤ w.heap.size → CallsV C.P 173 #[.slice A n c, .func (.func 141) #[] #[]] w fun _ w' => ∃ M', M'.Perm l ∧ SortedB dueLt M' ∧ RowD B w' (.slice A n c) M' ∧ Below B w w') :
    CallsV C.P 47 #[l.ptr, .int .i64 day] w fun v w' => RowD w.heap.size w' v (duesAt es day) ∧ Ext w w' := by
  refine callsV_of C_ok (args := [_, _]) (plans := []) Tryz.func47 rfl Tryz.ntmps47 (by kernel_rfl) (Nat.le_of_ble_eq_true rfl) ?_
  refine (asOf_spec h hl day).mono ?_
  rintro v w1 ⟨s, rfl, hs⟩
  refine (owed_spec hs.is (acc_asOf h.acc day) hd sort).mono ?_
  rintro v w2 ⟨h2, e2⟩
  exact ⟨NewL.base h2 hs.ext.size, hs.ext.trans e2⟩
theorem Dues_small {w : World} {l : LV} {es : List Entry} (h : LedgerIs w l es) (hl : es.length ≤ 2 ^ 16) (day : Int) (hd : (dueL (asOfL es day)).length < 20) :
    CallsV C.P 47 #[l.ptr, .int .i64 day] w fun v w' => RowD w.heap.size w' v (duesAt es day) ∧ Ext w w' :=
  Dues_spec h hl day (by omega) fun hp hrow hB => sortStable_small hrow hB (by have := rowD_len hrow; have := hp.length_eq; omega) rfl cmpDue ordDue
end Go.Proofs.YtcnbpfecgokhiaaGreatDoor
