/- a part of the proof: steps, walks and plain laws that the law below stands on; no condition. -/
import Derived.Test.YtcnbpfecgokhiaaGreatDoorDWd
import Derived.Test.YtcnbpfecgokhiaaGreatDoorDWg
import Derived.Test.YtcnbpfecgokhiaaGreatDoorDWh
set_option linter.unusedVariables false
set_option linter.unusedSimpArgs false
set_option linter.unnecessarySimpa false
set_option linter.unusedSectionVars false
namespace Go.Proofs.YtcnbpfecgokhiaaGreatDoor
open Go.Eng Go.RowKit
open Go.Maps (Keyed)

theorem underL : Tryz.prog.underlying 26 = some (.pointer (Tryz.prog.pointee 26)) := by kernel_rfl
theorem eqNilP (x y : Operand) (p : Option Addr) : EqIs C.P .eql 26 x y (.pointer p) (.pointer none) p.isNone := by
  intro w
  have hu : C.P.underlying 26 = some (.pointer (C.P.pointee 26)) := underL
  have h1 : (eqGuard .eql 26 x y (.pointer p) (.pointer none)).run C.P w = .ok () w := by simp [eqGuard]
  rw [Sem.run_bind, h1]
  simp only [Result.andThen_ok]
  exact run_eql_pointer_nil _ _ _ hu

theorem New_spec (w : World) : CallsV C.P 17 #[] w fun v w' => ∃ l : LV, v = l.ptr ∧ LdNew w w' l [] := by
  refine callsV_of C_ok (args := []) (plans := []) Tryz.func17 rfl Tryz.ntmps17 (by kernel_rfl) (Nat.le_of_ble_eq_true rfl) ?_
  refine (newState_spec w).mono ?_
  rintro v w1 ⟨⟨s, rfl, hs, hn⟩, e1⟩
  intro g w2 h2
  refine ⟨⟨g, .slice none 0 0, s⟩, rfl, ⟨h2.here, World.ownsRow_nil _ _ _ _, hs.ext h2.ext, .nil, fun x hx => by cases hx⟩, ?_, e1.trans h2.ext⟩
  rintro k (hk | hk | hk)
  · rw [hk]; show w.heap.size ≤ g; rw [h2.new]; exact e1.size
  · cases hk
  · exact hn k hk

theorem lastDay_get {es : List Entry} (h : 0 < es.length) : lastDay es = (es[es.length - 1]'(by omega)).day := by
  unfold lastDay
  rw [List.getLast?_eq_getElem?, List.getElem?_eq_getElem (by omega)]; rfl

theorem Day_spec {w : World} {l : LV} {es : List Entry} (h : LedgerIs w l es) (hl : es.length ≤ 2 ^ 20) : CallsV C.P 20 #[l.ptr] w fun v w' => v = .int .i64 (lastDay es) ∧ w' = w := by
  obtain ⟨A, c, hv, hr, _⟩ := reads_of_owns h.row
  refine callsV_of C_ok (args := [_]) (plans := plans20) Tryz.func20 rfl Tryz.ntmps20 (by kernel_rfl) (Nat.le_of_ble_eq_true rfl) ?_
  have hvc : w.cell? ⟨l.gl, 0, none⟩ = some (.slice A es.length c) := cell_of_block h.block (by show some l.vE = _; rw [hv])
  refine ⟨_, eqNilP _ _ _, ?_⟩
  refine ⟨_, hvc, ?_⟩
  refine brE_dec (fun b1 => ?_) (fun b1 => ?_)
  · have b1 : ((es.length : Nat) : Int) = 0 := b1
    have : es = [] := List.length_eq_zero_iff.1 (by omega)
    subst this
    exact ⟨rfl, rfl⟩
  have b1 : ¬ ((es.length : Nat) : Int) = 0 := b1
  refine ⟨_, hvc, ?_⟩
  refine ⟨_, hvc, ?_⟩
  refine ⟨((es.length - 1 : Nat) : Int), by show IntKind.i64.wrap (((es.length : Nat) : Int) - 1) = _; rw [fit ⟨by omega, by omega⟩]; omega, ?_⟩
  obtain ⟨b, o, hA, hrd⟩ := Reads.elem Entry.len (by omega) hr (i := es.length - 1) (by omega)
  refine ⟨es.length - 1, b, o, rfl, (by omega : es.length - 1 < es.length), hA, ?_⟩
  refine ⟨_, hrd 1 _ rfl, ?_⟩
  exact ⟨congrArg _ (lastDay_get (by omega)).symm, rfl⟩

theorem Entries_spec {w : World} {l : LV} {es : List Entry} (h : LedgerIs w l es) (hl : es.length ≤ 2 ^ 20) : CallsV C.P 23 #[l.ptr] w fun v w' => NewL Entry.cells 39 24 w.heap.size w' v es ∧ Ext w w' := by
  obtain ⟨A, c, hv, hr, _⟩ := reads_of_owns h.row
  refine callsV_of C_ok (args := [_]) (plans := []) Tryz.func23 rfl Tryz.ntmps23 (by kernel_rfl) (Nat.le_of_ble_eq_true rfl) ?_
  have hvc : w.cell? ⟨l.gl, 0, none⟩ = some (.slice A es.length c) := cell_of_block h.block (by show some l.vE = _; rw [hv])
  refine ⟨_, eqNilP _ _ _, ?_⟩
  refine ⟨_, hvc, ?_⟩
  refine (CloneE_spec hr hl).mono ?_
  rintro v w1 ⟨h1, e1⟩
  exact ⟨h1, e1⟩

/-- The first errors. -/
def beginE (es : List Entry) (x : Entry) : Int := if formX x = false then 1 else if x.day < lastDay es then 7 else 0
theorem begin_spec {w : World} {l : LV} {es : List Entry} (h : LedgerIs w l es) (hl : es.length ≤ 2 ^ 20) {x : Entry} (hx : x.Nums) : CallsV C.P 122 #[l.ptr, x.val] w fun v w' => v = .int .i64 (beginE es x) ∧ Ext w w' := by
  refine callsV_of C_ok (args := [_, _]) (plans := plans122) Tryz.func122 rfl Tryz.ntmps122 (by kernel_rfl) (Nat.le_of_ble_eq_true rfl) ?_
  intro g1 w1 h1
  have M1 : Mem w w1 [(g1, .cells x.cells.toArray 39 (0, 0))] := (Mem.start w).alloc h1
  refine ⟨_, eqNilP _ _ _, ?_⟩
  refine ⟨x.cells, rfl, M1.rd 0 rfl, ?_⟩
  refine (formed_spec x hx w1).mono ?_
  rintro v w2 ⟨rfl, e2⟩
  have M2 := M1.grow e2
  refine brE_mk (fun b1 => ?_) (fun b1 => ?_)
  · have b1 : formX x = false := by simpa using b1
    exact ⟨congrArg _ (by unfold beginE; rw [if_pos b1]), M2.ext⟩
  have b1 : formX x = true := by simpa using b1
  refine ⟨_, M2.cell 0 rfl rfl, ?_⟩
  refine (Day_spec (h.ext M2.ext) hl).mono ?_
  rintro v w3 ⟨rfl, rfl⟩
  refine ⟨Ext.refl _, ?_⟩
  refine brE_dec (fun b2 => ?_) (fun b2 => ?_)
  · have b2 : x.day < lastDay es := b2
    exact ⟨congrArg _ (by unfold beginE; rw [if_neg (by rw [b1]; decide), if_pos b2]), M2.ext⟩
  · have b2 : ¬ x.day < lastDay es := b2
    exact ⟨congrArg _ (by unfold beginE; rw [if_neg (by rw [b1]; decide), if_neg b2]), M2.ext⟩

set_option maxRecDepth 100000 in
theorem Do_spec {w : World} {l : LV} {es : List Entry} (h : LedgerIs w l es) (hl : es.length ≤ 2 ^ 16) {x : Entry} (hx : x.Nums) {A : Option Addr} {f : List Fact} {c : Nat} (hf : HF w A f c) (hfl : f.length ≤ 2 ^ 20) :
    CallsV C.P 71 #[l.ptr, .slice A f.length c, x.val] w fun v w' => v = .int .i64 (doF f es x) ∧ LdGo w l (addL (doF f es x) es x) w' := by
  refine callsV_of C_ok (args := [_, _, _]) (plans := plans71) Tryz.func71 rfl Tryz.ntmps71 (by kernel_rfl) (Nat.le_of_ble_eq_true rfl) ?_
  intro g1 w1 h1
  have M1 : Mem w w1 [(g1, .cells x.cells.toArray 39 (0, 0))] := (Mem.start w).alloc h1
  refine ⟨x.cells, rfl, M1.rd 0 rfl, ?_⟩
  refine (begin_spec (h.ext M1.ext) (by omega) hx).mono ?_
  rintro v w2 ⟨rfl, e2⟩
  have M2 := M1.grow e2
  refine brE_ndec (fun b1 => ?_) (fun b1 => ?_)
  · have b1 : ¬ beginE es x = 0 := b1
    have hd : doF f es x = beginE es x := by
      unfold doF doE beginE at *
      split
      · rfl
      · rename_i h1
        rw [if_neg h1] at b1
        split
        · rfl
        · rename_i h2; rw [if_neg h2] at b1; exact absurd rfl b1
    refine ⟨congrArg _ hd.symm, ?_⟩
    have : addL (doF f es x) es x = es := by unfold addL; rw [if_neg (by rw [hd]; exact b1)]
    rw [this]
    exact LdGo.ext h M2.ext
  have b1 : beginE es x = 0 := b1
  have hform : formX x = true := by
    unfold beginE at b1
    split at b1
    · cases b1
    · rename_i h1; simpa using h1
  have hday : ¬ x.day < lastDay es := by
    unfold beginE at b1
    rw [if_neg (by rw [hform]; decide)] at b1
    split at b1
    · cases b1
    · assumption
  have hd : doF f es x = refusedE (sgF f x.w) es x := by
    unfold doF doE
    rw [if_neg (by rw [hform]; decide), if_neg hday]
  have h2' := h.ext M2.ext
  refine ⟨_, cell_of_block (i := 1) h2'.block rfl, ?_⟩
  refine ⟨x.cells, rfl, M2.rd 0 rfl, ?_⟩
  refine (refused_spec h2'.st h.acc hx hform (hf.ext M2.ext) hfl).mono ?_
  rintro v w3 ⟨rfl, e3⟩
  have M3 := M2.grow e3
  rw [hd]
  refine brE_ndec (fun b2 => ?_) (fun b2 => ?_)
  · have b2 : ¬ refusedE (sgF f x.w) es x = 0 := b2
    refine ⟨rfl, ?_⟩
    have : addL (refusedE (sgF f x.w) es x) es x = es := by unfold addL; rw [if_neg b2]
    rw [this]
    exact LdGo.ext h M3.ext
  have b2 : refusedE (sgF f x.w) es x = 0 := b2
  have hdo : doE (sgF f x.w) es x = 0 := by rw [← b2, ← hd]; rfl
  have hadd : addL (refusedE (sgF f x.w) es x) es x = es ++ [x] := by unfold addL; rw [if_pos b2]
  have h3 := h.ext M3.ext
  refine ⟨_, cell_of_block (i := 1) h3.block rfl, ?_⟩
  refine ⟨x.cells, rfl, M3.rd 0 rfl, ?_⟩
  refine (do_spec h3.st h.acc hx hdo).mono ?_
  rintro v w4 ⟨s4, hgs4, hst4, hk4, hn4⟩
  -- the ledger's own blocks are as they were
  have keep4 : Keep (fun k => ¬ l.s.has k) w w4 := keep_trans (keep_ext M3.ext) hk4 fun _ hq _ => hq
  have hb4 : w4.heap[l.gl]? = some (.cells l.cells.toArray 112 (0, 0)) := hk4.heap h3.offS h3.block
  have hrow4 : w4.ownsRow 0 39 24 l.vE es.length (es.flatMap Entry.cells) := owns_same h3.row fun k hk => hk4.block k (h3.offE hk).1 (h3.lt (.inr (.inl hk)))
  have hg4 : w4.heap[g1]? = some (.cells x.cells.toArray 39 (0, 0)) := hk4.heap (fun hq => by have := h.st.lt hq; have := M3.new 0 rfl; omega) (M3.get 0 rfl)
  obtain ⟨A4, c4, hv4, _, _⟩ := reads_of_owns hrow4
  refine ⟨.slice A4 es.length c4, cell_of_block (i := 0) hb4 (by show some l.vE = _; rw [hv4]), ?_⟩
  refine ⟨x.cells, rfl, Rd.of_block hg4, ?_⟩
  intro g5 w5 h5
  refine ⟨h5.ext, ?_⟩
  have hrow5 := ownsRow_ext hrow4 h5.ext
  rw [hv4] at hrow5
  refine ⟨rfl, rfl, rfl, 0, _, _, x.cells, hrow5, Nat.zero_le _, Nat.le_of_ble_eq_true rfl, rfl, rfl, .inr ⟨g5, 0, rfl, Rd.of_block h5.here⟩, rfl, rfl, by omega, by simp only [maxLen]; omega, ?_⟩
  intro v6 w6 ho6 hg6 hpl
  have hb5 := h5.ext.heap hb4
  have offg : ∀ k, (Value.slice A4 es.length c4).ownBlock = some k → k ≠ l.gl := fun k hk => (h3.offE (by rw [hv4]; exact hk)).2
  have hb6 : w6.heap[l.gl]? = some (.cells l.cells.toArray 112 (0, 0)) := by
    rw [hg6.block _ (lt_of_heap hb5) (fun e => offg _ e.symm rfl)]; exact hb5
  obtain ⟨A6, c6, rfl, _, _⟩ := reads_of_owns ho6
  refine ⟨rfl, _, _, hb6, Nat.le_of_ble_eq_true rfl, rfl, ?_⟩
  intro w7 h7
  rw [hadd]
  refine ⟨congrArg _ b2.symm, ?_⟩
  -- the new state's blocks stay
  have st5 : StateIs w5 s4 (es ++ [x]) := hst4.ext h5.ext
  have offR : ∀ k, (Value.slice A4 es.length c4).ownBlock = some k → ¬ s4.has k := fun k hk hq => by
    obtain ⟨_, cur, e⟩ := owns_at hrow5 hk
    exact st5.off e (by decide) (by decide) (by decide) hq
  have offL : ¬ s4.has l.gl := st5.off hb5 (by decide) (by decide) (by decide)
  have st7 : StateIs w7 s4 (es ++ [x]) := st5.keep fun k hk => by
    rw [h7.there k (fun e => offL (e ▸ hk)), hg6.block k (st5.lt hk) (fun e => offR k e.symm hk)]
  generalize hl' : (LV.mk l.gl (.slice A6 (es.length + 1) c6) s4) = l'
  have hrow7 : w7.ownsRow 0 39 24 (.slice A6 (es.length + 1) c6) (es.length + 1) (es.flatMap Entry.cells ++ x.cells) := ownsRow_put ho6 h7 (fun e => by
    obtain ⟨_, cur, hc⟩ := owns_at ho6 e
    rw [hb6] at hc; simp at hc)
  refine ⟨l', by rw [← hl'], ⟨?_, ?_, ?_, .snoc _ h.acc hdo, ?_⟩, ?_, ?_⟩
  · have h7' : Put w6 l.gl (.cells #[.slice A6 (es.length + 1) c6, .pointer (some ⟨l.s.gs, 0, none⟩)] 112 (0, 0)) w7 := h7
    rw [← hl']
    show w7.heap[l.gl]? = some (.cells #[.slice A6 (es.length + 1) c6, .pointer (some ⟨s4.gs, 0, none⟩)] 112 (0, 0))
    rw [hgs4]
    exact h7'.here
  · rw [← hl', List.length_append, List.flatMap_append]
    have := hrow7
    simpa using this
  · rw [← hl']; exact st7
  · intro y hy
    rcases List.mem_append.1 hy with hy | hy
    · exact h.nums y hy
    · rw [List.mem_singleton.1 hy]; exact hx
  · have k4 : Keep (fun k => ¬ l.has k) w w4 := keep_trans (keep_ext M3.ext) hk4 fun q hq _ hs => hq (.inr (.inr hs))
    exact ((k4.ext h5.ext).grown hg6 (fun k hk hn => hn (.inr (.inl (by rw [hv4]; exact hk))))).put h7 (fun hn => hn (.inl rfl))
  · intro k hk
    rw [← hl'] at hk
    rcases hk with hk | hk | hk
    · exact .inl (.inl hk)
    · rcases hpl.2 k hk with h6 | h6
      · exact .inl (.inr (.inl (by rw [hv4]; exact h6)))
      · exact .inr (Nat.le_trans (Nat.le_trans keep4.size h5.ext.size) h6)
    · rcases hn4 k hk with h6 | h6
      · exact .inl (.inr (.inr h6))
      · exact .inr (Nat.le_trans M3.ext.size h6)

end Go.Proofs.YtcnbpfecgokhiaaGreatDoor

namespace Go.Proofs.YtcnbpfecgokhiaaGreatDoor
open Go.Eng Go.RowKit

set_option maxHeartbeats 8000000 in
set_option maxRecDepth 100000 in
theorem gifts_with {w : World} {b1 b2 b3 b4 b5 b6 t1 t4 : Nat} {day frm to cur n ret : Int} (h1 : w.heap[b1]? = some (.cells #[.int .i64 day] t1 (0, 0))) (h2 : w.heap[b2]? = some (.cells #[.int .i64 frm] t1 (0, 0))) (h3 : w.heap[b3]? = some (.cells #[.int .i64 to] t1 (0, 0)))
    (h4 : w.heap[b4]? = some (.cells #[.int .u8 cur] t4 (0, 0))) (h5 : w.heap[b5]? = some (.cells #[.int .i64 n] t1 (0, 0))) (h6 : w.heap[b6]? = some (.cells #[.int .i64 ret] t1 (0, 0))) (i : Int) :
    CallsV C.P 121 (#[] ++ [.int .i64 i].toArray ++ #[.pointer (some ⟨b1, 0, none⟩), .pointer (some ⟨b2, 0, none⟩), .pointer (some ⟨b3, 0, none⟩), .pointer (some ⟨b4, 0, none⟩), .pointer (some ⟨b5, 0, none⟩), .pointer (some ⟨b6, 0, none⟩)]) w
      fun v w' => v = (Entry.mk 5 day waivZ ⟨i, day, frm, to, cur, n, 0, 0, 0, ret⟩ 0 0 0).val ∧ Ext w w' := by
  refine callsV_of C_ok (args := [_, _, _, _, _, _, _]) (plans := []) Tryz.func121 rfl Tryz.ntmps121 (by kernel_rfl) (Nat.le_of_ble_eq_true rfl) ?_
  intro g3 w1 a1
  have M1 := (Mem.start w).alloc a1
  refine ⟨_, cell_of_block (M1.ext.heap h1) rfl, ?_⟩
  refine ⟨_, cell_of_block (M1.ext.heap h1) rfl, ?_⟩
  refine ⟨_, cell_of_block (M1.ext.heap h2) rfl, ?_⟩
  refine ⟨_, cell_of_block (M1.ext.heap h3) rfl, ?_⟩
  refine ⟨_, cell_of_block (M1.ext.heap h4) rfl, ?_⟩
  refine ⟨_, cell_of_block (M1.ext.heap h5) rfl, ?_⟩
  refine ⟨_, cell_of_block (M1.ext.heap h6) rfl, ?_⟩
  refine ⟨by kernel_rfl, _, _, M1.get 0 rfl, Nat.le_of_ble_eq_true (by kernel_rfl), by kernel_rfl, ?_⟩
  intro w2 a2
  have a2 := put_eq a2 (o' := .cells (Entry.mk 5 day waivZ ⟨i, day, frm, to, cur, n, 0, 0, 0, ret⟩ 0 0 0).cells.toArray 39 (0, 0)) (by kernel_rfl)
  have M2 : Mem w w2 [(g3, .cells (Entry.mk 5 day waivZ ⟨i, day, frm, to, cur, n, 0, 0, 0, ret⟩ 0 0 0).cells.toArray 39 (0, 0))] := M1.put 0 rfl a2
  refine ⟨(Entry.mk 5 day waivZ ⟨i, day, frm, to, cur, n, 0, 0, 0, ret⟩ 0 0 0).cells, rfl, M2.rd 0 rfl, ?_⟩
  exact ⟨rfl, M2.ext⟩

end Go.Proofs.YtcnbpfecgokhiaaGreatDoor
