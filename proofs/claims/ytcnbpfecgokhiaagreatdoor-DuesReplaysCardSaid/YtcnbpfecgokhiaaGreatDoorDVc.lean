/- a part of the proof: steps, walks and plain laws that the law below stands on; no condition. -/
import Derived.Test.YtcnbpfecgokhiaaGreatDoorDVb
import Derived.Test.YtcnbpfecgokhiaaGreatDoorDWd
import Derived.Test.YtcnbpfecgokhiaaGreatDoorDWj
set_option linter.unusedVariables false
set_option linter.unusedSimpArgs false
set_option linter.unnecessarySimpa false
set_option linter.unusedSectionVars false
namespace Go.Proofs.YtcnbpfecgokhiaaGreatDoor
open Go.Eng Go.RowKit

theorem oneE (l : List Entry) : (l.flatMap Entry.cells).all (·.oneCell') = true := by
  rw [List.all_eq_true]
  intro v hv
  obtain ⟨x, _, hx⟩ := List.mem_flatMap.1 hv
  simp [Entry.cells] at hx
  rcases hx with rfl | rfl | rfl | rfl | rfl | rfl | rfl | rfl | rfl | rfl | rfl | rfl | rfl | rfl | rfl | rfl | rfl | rfl | rfl | rfl | rfl | rfl | rfl | rfl <;> rfl
theorem someE {w : World} {A : Option Addr} {l : List Entry} (h : Reads w A (l.flatMap Entry.cells)) : (A.isSome || Nat.beq l.length 0) = true := by
  cases A with
  | some a => rfl
  | none =>
    rcases h with h | ⟨b, o, hA, _⟩
    · have := congrArg List.length h
      rw [flat_length Entry.len] at this
      have : l.length * 24 = 0 := this
      have hl : l = [] := List.length_eq_zero_iff.1 (by omega)
      subst hl; rfl
    · cases hA

/-- A list that is the one that came in, or lies in a new block. -/
def Fresh (w : World) (A A' : Option Addr) (l l' : List Entry) : Prop := (A' = A ∧ l' = l) ∨ ∀ ad : Addr, A' = some ad → w.heap.size ≤ ad.block
theorem Fresh.of_ext {w0 w : World} {A A' : Option Addr} {l l' : List Entry} (h : Fresh w A A' l l') (e : Ext w0 w) : Fresh w0 A A' l l' := h.imp id fun k ad ha => Nat.le_trans e.size (k ad ha)

theorem ext_empty {w w' : World} {g t : Nat} (hg : w.heap[g]? = some (Obj.cells #[] t (0, 0))) (hgr : w.grownBy w' (some g)) (he : w'.heap[g]? = some (Obj.cells #[] t (0, 0))) : Ext w w' :=
  ⟨hgr.os, hgr.tape, hgr.output, hgr.size, fun k hk => if h : k = g then by rw [h, hg, he] else hgr.block k hk (fun e => h (Option.some.inj e))⟩

set_option maxRecDepth 100000 in
theorem refDo_spec {w : World} {A : Option Addr} {es : List Entry} {c : Nat} (h : HL Entry.cells w A es c) (hl : es.length ≤ 2 ^ 16) (hA : Acc es) {x : Entry} (hx : x.Nums) {B : Option Addr} {f : List Fact} {d : Nat} (hf : HF w B f d) (hfl : f.length ≤ 2 ^ 20) :
    CallsV C.P 74 #[.agg #[.slice A es.length c], .slice B f.length d, x.val] w fun v w' => (∃ A' c', v = .tuple #[.agg #[.slice A' (addL (doF f es x) es x).length c'], .int .i64 (doF f es x)] ∧ HL Entry.cells w' A' (addL (doF f es x) es x) c' ∧ Fresh w A A' es (addL (doF f es x) es x)) ∧ Ext w w' := by
  refine callsV_of C_ok (args := [_, _, _]) (plans := plans74) Tryz.func74 rfl Tryz.ntmps74 (by kernel_rfl) (Nat.le_of_ble_eq_true rfl) ?_
  intro g3 w1 h1
  have M1 : Mem w w1 [(g3, .cells #[.slice A es.length c] 30 (0, 0))] := (Mem.start w).alloc h1
  intro g5 w2 h2
  have M2 : Mem w w2 [(g5, .cells x.cells.toArray 39 (0, 0)), (g3, .cells #[.slice A es.length c] 30 (0, 0))] := M1.alloc h2
  intro g6 w3 h3
  have M3 : Mem w w3 [(g6, .cells #[.slice none 0 0] 30 (0, 0)), (g5, .cells x.cells.toArray 39 (0, 0)), (g3, .cells #[.slice A es.length c] 30 (0, 0))] := M2.alloc h3
  clear M1 M2 h1 h2 h3
  refine ⟨[_], rfl, M3.rd 2 rfl, ?_⟩
  refine ⟨x.cells, rfl, M3.rd 1 rfl, ?_⟩
  refine (Refused_spec (h.ext M3.ext) hl hA hx (hf.ext M3.ext) hfl).mono ?_
  rintro v w4 ⟨rfl, e4⟩
  have M4 := M3.grow e4
  refine brE_ndec (fun b1 => ?_) (fun b1 => ?_)
  · have b1 : ¬ doF f es x = 0 := b1
    refine ⟨[_], rfl, M4.rd 2 rfl, ?_⟩
    refine ⟨rfl, _, _, M4.get 0 rfl, Nat.le_of_ble_eq_true rfl, rfl, ?_⟩
    intro w5 h5
    have M5 := M4.put 0 rfl h5
    refine ⟨[_], rfl, M5.rd 0 rfl, ?_⟩
    have hadd : addL (doF f es x) es x = es := by unfold addL; rw [if_neg b1]
    rw [hadd]
    exact ⟨⟨A, c, rfl, h.ext M5.ext, .inl ⟨rfl, rfl⟩⟩, M5.ext⟩
  have b1 : doF f es x = 0 := b1
  have hadd : addL (doF f es x) es x = es ++ [x] := by unfold addL; rw [if_pos b1]
  rw [hadd, b1]
  clear e4 M3
  refine ⟨_, M4.cell 2 rfl rfl, ?_⟩
  refine ⟨x.cells, rfl, M4.rd 1 rfl, ?_⟩
  refine ⟨?forkA, ?forkB⟩
  case forkA =>
    intro g0 w5 h0
    have e0 : Ext w4 w5 := h0.ext
    refine ⟨h0.ext, ?_⟩
    have ho0 : w5.ownsRow w4.heap.size 39 24 (.slice (some ⟨g0, 0, none⟩) 0 0) 0 [] := owns_block (cs := []) h0.here (by rw [h0.new]; exact Nat.le_refl _) rfl (Nat.zero_le _)
    refine ⟨?forkC, ?forkD⟩
    case forkC =>
      refine ⟨rfl, rfl, rfl, w4.heap.size, 0, [], es.flatMap Entry.cells, ho0, e0.size, Nat.le_of_ble_eq_true rfl, rfl, flat_length Entry.len es, (h.ext (M4.ext.trans e0)).reads, someE (h.ext (M4.ext.trans e0)).reads, oneE es, by omega, by simp only [maxLen]; omega, ?_⟩
      intro vr w6 hor hgr hpl
      have er : Ext w4 w6 := app_ext e0 ho0 hgr
      have hem := hpl.1.2 g0 _ h0.here
      have ex : Ext w5 w6 := ext_empty h0.here hgr hem
      refine ⟨ex, ?_⟩
      have hor' : NewL Entry.cells 39 24 w4.heap.size w6 vr es := by
        unfold NewL
        rw [Nat.zero_add, List.nil_append] at hor
        exact hor
      obtain ⟨Ar, cr, rfl, _, _⟩ := reads_of_owns hor'
      intro g7 w7 h7
      have e47 : Ext w4 w7 := er.trans h7.ext
      refine ⟨h7.ext, ?_⟩
      have ho7 : NewL Entry.cells 39 24 w4.heap.size w7 (.slice Ar es.length cr) es := hor'.ext h7.ext
      have hx7 : Rd w7 g7 0 x.cells := Rd.of_block h7.here
      refine ⟨rfl, rfl, rfl, w4.heap.size, _, _, x.cells, ho7, e47.size, Nat.le_of_ble_eq_true rfl, rfl, rfl, .inr ⟨g7, 0, rfl, hx7⟩, rfl, rfl, by omega, by simp only [maxLen]; omega, ?_⟩
      intro v8 w8 ho8 hg8 _
      have e48 : Ext w4 w8 := app_ext e47 ho7 hg8
      have M8 := M4.grow e48
      have ho8' : NewL Entry.cells 39 24 w4.heap.size w8 v8 (es ++ [x]) := by
        unfold NewL
        rw [List.length_append, List.flatMap_append]
        simpa using ho8
      obtain ⟨A8, c8, rfl, hH8⟩ := ho8'.hl
      refine ⟨rfl, _, _, M8.get 0 rfl, Nat.le_of_ble_eq_true rfl, rfl, ?_⟩
      intro w9 h9
      have M9 := M8.put 0 rfl h9
      refine ⟨[_], rfl, M9.rd 0 rfl, ?_⟩
      have ho9 : NewL Entry.cells 39 24 w4.heap.size w9 (.slice A8 (es ++ [x]).length c8) (es ++ [x]) := ownsRow_put ho8' h9 (offrow ho8' (M8.get 0 rfl) (by decide))
      obtain ⟨A9, c9, hv9, hH9⟩ := ho9.hl
      injection hv9 with q1 q2 q3
      subst q1 q3
      exact ⟨⟨_, _, rfl, hH9, .inr fun ad had => Nat.le_trans M4.ext.size (ho9.lt ad.block (by rw [had]; rfl)).1⟩, M9.ext⟩
    case forkD =>
      intro g7 w6 h7
      have e46 : Ext w4 w6 := e0.trans h7.ext
      refine ⟨h7.ext, ?_⟩
      have ho6 : w6.ownsRow w4.heap.size 39 24 (.slice (some ⟨g0, 0, none⟩) 0 0) 0 [] := ownsRow_ext ho0 h7.ext
      have hne : g7 ≠ g0 := fun e => by have := lt_of_heap h0.here; rw [← e, h7.new] at this; omega
      have N6 : Mem w4 w6 [(g7, .cells x.cells.toArray 39 (0, 0))] := ((Mem.start w4).grow e0).alloc h7
      refine ⟨rfl, rfl, rfl, w4.heap.size, 0, [], es.flatMap Entry.cells, ho6, e46.size, Nat.le_of_ble_eq_true rfl, rfl, flat_length Entry.len es, (h.ext (M4.ext.trans e46)).reads, someE (h.ext (M4.ext.trans e46)).reads, oneE es, by omega, by simp only [maxLen]; omega, ?_⟩
      intro vr w7 hor hgr hpl
      have er : Ext w4 w7 := app_ext e46 ho6 hgr
      have hem := hpl.1.2 g0 _ (h7.ext.heap h0.here)
      have ex : Ext w6 w7 := ext_empty (h7.ext.heap h0.here) hgr hem
      refine ⟨ex, ?_⟩
      have hor' : NewL Entry.cells 39 24 w4.heap.size w7 vr es := by
        unfold NewL
        rw [Nat.zero_add, List.nil_append] at hor
        exact hor
      obtain ⟨Ar, cr, rfl, _, _⟩ := reads_of_owns hor'
      have e47 := er
      have ho7 := hor'
      have N7 := N6.grown hgr (fun k hk => (ho6.lt k hk).1) (fun p hp => by
        rw [List.mem_singleton.1 hp]
        intro e
        injection e with e
        exact hne e)
      have hx7 : Rd w7 g7 0 x.cells := N7.rd 0 rfl
      refine ⟨rfl, rfl, rfl, w4.heap.size, _, _, x.cells, ho7, e47.size, Nat.le_of_ble_eq_true rfl, rfl, rfl, .inr ⟨g7, 0, rfl, hx7⟩, rfl, rfl, by omega, by simp only [maxLen]; omega, ?_⟩
      intro v8 w8 ho8 hg8 _
      have e48 : Ext w4 w8 := app_ext e47 ho7 hg8
      have M8 := M4.grow e48
      have ho8' : NewL Entry.cells 39 24 w4.heap.size w8 v8 (es ++ [x]) := by
        unfold NewL
        rw [List.length_append, List.flatMap_append]
        simpa using ho8
      obtain ⟨A8, c8, rfl, hH8⟩ := ho8'.hl
      refine ⟨rfl, _, _, M8.get 0 rfl, Nat.le_of_ble_eq_true rfl, rfl, ?_⟩
      intro w9 h9
      have M9 := M8.put 0 rfl h9
      refine ⟨[_], rfl, M9.rd 0 rfl, ?_⟩
      have ho9 : NewL Entry.cells 39 24 w4.heap.size w9 (.slice A8 (es ++ [x]).length c8) (es ++ [x]) := ownsRow_put ho8' h9 (offrow ho8' (M8.get 0 rfl) (by decide))
      obtain ⟨A9, c9, hv9, hH9⟩ := ho9.hl
      injection hv9 with q1 q2 q3
      subst q1 q3
      exact ⟨⟨_, _, rfl, hH9, .inr fun ad had => Nat.le_trans M4.ext.size (ho9.lt ad.block (by rw [had]; rfl)).1⟩, M9.ext⟩
  case forkB =>
    intro g7 w5 h7
    refine ⟨h7.ext, ?_⟩
    intro g0 w6 h0
    have e0 : Ext w4 w6 := (h7.ext.trans h0.ext)
    refine ⟨h0.ext, ?_⟩
    have ho0 : w6.ownsRow w4.heap.size 39 24 (.slice (some ⟨g0, 0, none⟩) 0 0) 0 [] := owns_block (cs := []) h0.here (by rw [h0.new]; exact h7.ext.size) rfl (Nat.zero_le _)
    have ho6 := ho0
    have hne : g7 ≠ g0 := fun e => by have := lt_of_heap h7.here; rw [e, h0.new] at this; omega
    have N6 : Mem w4 w6 [(g7, .cells x.cells.toArray 39 (0, 0))] := ((Mem.start w4).alloc h7).grow h0.ext
    refine ⟨rfl, rfl, rfl, w4.heap.size, 0, [], es.flatMap Entry.cells, ho6, e0.size, Nat.le_of_ble_eq_true rfl, rfl, flat_length Entry.len es, (h.ext (M4.ext.trans e0)).reads, someE (h.ext (M4.ext.trans e0)).reads, oneE es, by omega, by simp only [maxLen]; omega, ?_⟩
    intro vr w7 hor hgr hpl
    have er : Ext w4 w7 := app_ext e0 ho6 hgr
    have hem := hpl.1.2 g0 _ h0.here
    have ex : Ext w6 w7 := ext_empty h0.here hgr hem
    refine ⟨ex, ?_⟩
    have hor' : NewL Entry.cells 39 24 w4.heap.size w7 vr es := by
      unfold NewL
      rw [Nat.zero_add, List.nil_append] at hor
      exact hor
    obtain ⟨Ar, cr, rfl, _, _⟩ := reads_of_owns hor'
    have e47 := er
    have ho7 := hor'
    have N7 := N6.grown hgr (fun k hk => (ho6.lt k hk).1) (fun p hp => by
      rw [List.mem_singleton.1 hp]
      intro e
      injection e with e
      exact hne e)
    have hx7 : Rd w7 g7 0 x.cells := N7.rd 0 rfl
    refine ⟨rfl, rfl, rfl, w4.heap.size, _, _, x.cells, ho7, e47.size, Nat.le_of_ble_eq_true rfl, rfl, rfl, .inr ⟨g7, 0, rfl, hx7⟩, rfl, rfl, by omega, by simp only [maxLen]; omega, ?_⟩
    intro v8 w8 ho8 hg8 _
    have e48 : Ext w4 w8 := app_ext e47 ho7 hg8
    have M8 := M4.grow e48
    have ho8' : NewL Entry.cells 39 24 w4.heap.size w8 v8 (es ++ [x]) := by
      unfold NewL
      rw [List.length_append, List.flatMap_append]
      simpa using ho8
    obtain ⟨A8, c8, rfl, hH8⟩ := ho8'.hl
    refine ⟨rfl, _, _, M8.get 0 rfl, Nat.le_of_ble_eq_true rfl, rfl, ?_⟩
    intro w9 h9
    have M9 := M8.put 0 rfl h9
    refine ⟨[_], rfl, M9.rd 0 rfl, ?_⟩
    have ho9 : NewL Entry.cells 39 24 w4.heap.size w9 (.slice A8 (es ++ [x]).length c8) (es ++ [x]) := ownsRow_put ho8' h9 (offrow ho8' (M8.get 0 rfl) (by decide))
    obtain ⟨A9, c9, hv9, hH9⟩ := ho9.hl
    injection hv9 with q1 q2 q3
    subst q1 q3
    exact ⟨⟨_, _, rfl, hH9, .inr fun ad had => Nat.le_trans M4.ext.size (ho9.lt ad.block (by rw [had]; rfl)).1⟩, M9.ext⟩

end Go.Proofs.YtcnbpfecgokhiaaGreatDoor

namespace Go.Proofs.YtcnbpfecgokhiaaGreatDoor
open Go.Eng Go.RowKit

theorem hl_put {w w' : World} {A : Option Addr} {l : List Entry} {c g t n m : Nat} {fr : Nat × Nat} {B : Option Addr} {o : Obj} (h : HL Entry.cells w A l c) (hg : w.heap[g]? = some (.cells #[.slice B n m] t fr)) (p : Put w g o w') : HL Entry.cells w' A l c := by
  refine ⟨?_, h.len, h.cap⟩
  rcases h.reads with h0 | ⟨b, i, hA, hr⟩
  · exact .inl h0
  cases l with
  | nil => exact .inl rfl
  | cons x r =>
    have hne : b ≠ g := fun e => by
      have h0 := hr 0 (.int .u8 x.kind) rfl
      rw [e] at h0
      unfold World.cell? at h0
      simp only [hg] at h0
      cases i with
      | zero => simp at h0
      | succ j => simp at h0
    exact .inr ⟨b, i, hA, fun k v hv => by rw [← hr k v hv]; exact World.cell?_of_block (p.there b hne)⟩

set_option maxRecDepth 100000 in
theorem refGrantN_spec {w : World} {A : Option Addr} {es : List Entry} {c : Nat} (h : HL Entry.cells w A es c) (hl : es.length ≤ 400) (hA : Acc es) {x : Waiv} (hx : x.Nums) {B : Option Addr} {f : List Fact} {d : Nat} (hf : HF w B f d) (hfl : f.length ≤ 2 ^ 20) :
    CallsV C.P 72 #[.agg #[.slice A es.length c], .slice B f.length d, x.val] w fun v w' =>
      (∃ A' c', v = .tuple #[.agg #[.slice A' (addL (doF f es (grantE es x)) es (grantE es x)).length c'], .int .i64 (if doF f es (grantE es x) = 0 then (((waivL es).length + 1 : Nat) : Int) else 0), .int .i64 (doF f es (grantE es x))] ∧
        HL Entry.cells w' A' (addL (doF f es (grantE es x)) es (grantE es x)) c' ∧ Fresh w A A' es (addL (doF f es (grantE es x)) es (grantE es x))) ∧ Ext w w' := by
  have hwl : (waivL es).length ≤ 400 := Nat.le_trans (waivL_length es) hl
  have hen := grantE_nums (es := es) hx (by omega)
  obtain ⟨y, hy⟩ : ∃ y : Waiv, y = { x with id := (((waivL es).length + 1 : Nat) : Int) } := ⟨_, rfl⟩
  obtain ⟨e, he⟩ : ∃ e : Entry, e = ⟨3, y.day, y, giftZ, 0, 0, 0⟩ := ⟨_, rfl⟩
  have heq : grantE es x = e := by rw [he, hy]; rfl
  rw [heq] at hen ⊢
  refine callsV_of C_ok (args := [_, _, _]) (plans := []) Tryz.func72 rfl Tryz.ntmps72 (by kernel_rfl) (Nat.le_of_ble_eq_true rfl) ?_
  intro g3 w1 h1
  have M1 : Mem w w1 [(g3, .cells #[.slice A es.length c] 30 (0, 0))] := (Mem.start w).alloc h1
  intro g5 w2 h2
  have M2 : Mem w w2 [(g5, .cells x.cells.toArray 35 (0, 0)), (g3, .cells #[.slice A es.length c] 30 (0, 0))] := M1.alloc h2
  intro g6 w3 h3
  have M3 : Mem w w3 [(g6, .cells #[.slice none 0 0] 30 (0, 0)), (g5, .cells x.cells.toArray 35 (0, 0)), (g3, .cells #[.slice A es.length c] 30 (0, 0))] := M2.alloc h3
  clear M1 M2 h1 h2 h3
  refine ⟨[_], rfl, M3.rd 2 rfl, ?_⟩
  refine (Granted_spec (h.ext M3.ext) (by omega) hA).mono ?_
  rintro v w4 ⟨hv, e4⟩
  obtain ⟨Aw, cw, rfl, _⟩ := hv.hl
  have M4 := M3.grow e4
  refine ⟨(((waivL es).length + 1 : Nat) : Int), fit ⟨by omega, by omega⟩, ?_⟩
  refine ⟨_, minQ (c := (((waivL es).length + 1 : Nat) : Int)) (by omega) rfl rfl rfl, ?_⟩
  refine ⟨rfl, _, _, M4.get 1 rfl, Nat.le_of_ble_eq_true rfl, rfl, ?_⟩
  intro w5 h5
  have M5 : Mem w w5 [(g6, .cells #[.slice none 0 0] 30 (0, 0)), (g5, .cells y.cells.toArray 35 (0, 0)), (g3, .cells #[.slice A es.length c] 30 (0, 0))] := by rw [hy]; exact M4.put 1 rfl h5
  refine ⟨_, M5.cell 1 rfl rfl, ?_⟩
  refine ⟨y.cells, rfl, M5.rd 1 rfl, ?_⟩
  intro g10 w6 h6
  have M6 := M5.alloc h6
  refine ⟨rfl, _, _, M6.get 0 rfl, Nat.le_of_ble_eq_true rfl, rfl, ?_⟩
  intro w7 h7
  have M7 : Mem w w7 [(g10, .cells e.cells.toArray 39 (0, 0)), (g6, .cells #[.slice none 0 0] 30 (0, 0)), (g5, .cells y.cells.toArray 35 (0, 0)), (g3, .cells #[.slice A es.length c] 30 (0, 0))] := by rw [he]; exact M6.put 0 rfl h7
  refine ⟨[_], rfl, M7.rd 3 rfl, ?_⟩
  refine ⟨e.cells, rfl, M7.rd 0 rfl, ?_⟩
  refine (refDo_spec (h.ext M7.ext) (by omega) hA hen (hf.ext M7.ext) hfl).mono ?_
  rintro v w8 ⟨⟨A', c', rfl, hH, hFr⟩, e8⟩
  have M8 := M7.grow e8
  intro g11 w9 h9
  have M9 := M8.alloc h9
  refine ⟨rfl, _, _, M9.get 0 rfl, Nat.le_of_ble_eq_true rfl, rfl, ?_⟩
  intro w10 h10
  have M10 := M9.put 0 rfl h10
  have e10 : Ext w8 w10 := h10.ext_of h9.ext (by rw [h9.new]; exact Nat.le_refl _)
  refine brE_ndec (fun b1 => ?_) (fun b1 => ?_)
  · have b1 : ¬ doF f es e = 0 := b1
    refine ⟨[_], rfl, M10.rd 0 rfl, ?_⟩
    refine ⟨rfl, _, _, M10.get 2 rfl, Nat.le_of_ble_eq_true rfl, rfl, ?_⟩
    intro w11 h11
    have M11 := M10.put 2 rfl h11
    refine ⟨[_], rfl, M11.rd 2 rfl, ?_⟩
    exact ⟨⟨A', c', by rw [if_neg b1], hl_put (hH.ext e10) (M10.get 2 rfl) h11, hFr.of_ext M7.ext⟩, M11.ext⟩
  · have b1 : doF f es e = 0 := b1
    refine ⟨[_], rfl, M10.rd 0 rfl, ?_⟩
    refine ⟨rfl, _, _, M10.get 2 rfl, Nat.le_of_ble_eq_true rfl, rfl, ?_⟩
    intro w11 h11
    have M11 := M10.put 2 rfl h11
    refine ⟨[_], rfl, M11.rd 2 rfl, ?_⟩
    exact ⟨⟨A', c', by rw [if_pos b1], hl_put (hH.ext e10) (M10.get 2 rfl) h11, hFr.of_ext M7.ext⟩, M11.ext⟩

end Go.Proofs.YtcnbpfecgokhiaaGreatDoor

namespace Go.Proofs.YtcnbpfecgokhiaaGreatDoor
open Go.Eng Go.RowKit

set_option maxRecDepth 100000 in
set_option maxHeartbeats 3000000 in
theorem refOfferN_spec {w : World} {A : Option Addr} {es : List Entry} {c : Nat} (h : HL Entry.cells w A es c) (hl : es.length ≤ 400) (hA : Acc es) {day frm to cur n ret : Int} (h1 : In64 day) (h2 : In64 frm) (h3 : In64 to) (h4 : 0 ≤ cur ∧ cur ≤ 255) (h5 : In64 n) (h6 : In64 ret) (f : List Fact) :
    CallsV C.P 73 #[.agg #[.slice A es.length c], .int .i64 day, .int .i64 frm, .int .i64 to, .int .u8 cur, .int .i64 n, .int .i64 ret] w fun v w' =>
      (∃ A' c', v = .tuple #[.agg #[.slice A' (addL (doF f es (offerE es day frm to cur n ret)) es (offerE es day frm to cur n ret)).length c'], .int .i64 (if doF f es (offerE es day frm to cur n ret) = 0 then (((giftL es).length + 1 : Nat) : Int) else 0), .int .i64 (doF f es (offerE es day frm to cur n ret))] ∧
        HL Entry.cells w' A' (addL (doF f es (offerE es day frm to cur n ret)) es (offerE es day frm to cur n ret)) c' ∧ Fresh w A A' es (addL (doF f es (offerE es day frm to cur n ret)) es (offerE es day frm to cur n ret))) ∧ Ext w w' := by
  have hgl : (giftL es).length ≤ 400 := Nat.le_trans (giftL_length es) hl
  have hen := offerE_nums (es := es) h1 h2 h3 h4 h5 h6 (by omega)
  have hany : doF f es (offerE es day frm to cur n ret) = doF [] es (offerE es day frm to cur n ret) := doF_any (by show ¬ (5 : Int) = 3; decide) f [] es
  rw [hany]
  obtain ⟨y, hy⟩ : ∃ y : Gift, y = ⟨(((giftL es).length + 1 : Nat) : Int), day, frm, to, cur, n, 0, 0, 0, ret⟩ := ⟨_, rfl⟩
  obtain ⟨e, he⟩ : ∃ e : Entry, e = ⟨5, day, waivZ, y, 0, 0, 0⟩ := ⟨_, rfl⟩
  have heq : offerE es day frm to cur n ret = e := by rw [he, hy]; rfl
  rw [heq] at hen ⊢
  clear hany heq
  refine callsV_of C_ok (args := [_, _, _, _, _, _, _]) (plans := []) Tryz.func73 rfl Tryz.ntmps73 (by kernel_rfl) (Nat.le_of_ble_eq_true rfl) ?_
  intro g7 w1 k1
  have M1 : Mem w w1 [(g7, .cells #[.slice A es.length c] 30 (0, 0))] := (Mem.start w).alloc k1
  intro g14 w2 k2
  have M2 : Mem w w2 [(g14, .cells #[.slice none 0 0] 30 (0, 0)), (g7, .cells #[.slice A es.length c] 30 (0, 0))] := M1.alloc k2
  clear M1 k1 k2
  refine ⟨[_], rfl, M2.rd 1 rfl, ?_⟩
  refine (Given_spec (h.ext M2.ext) (by omega) hA).mono ?_
  rintro v w3 ⟨hv, e3⟩
  obtain ⟨Ag, cg, rfl, _⟩ := hv.hl
  have M3 := M2.grow e3
  refine ⟨(((giftL es).length + 1 : Nat) : Int), fit ⟨by omega, by omega⟩, ?_⟩
  refine ⟨_, minQ (c := (((giftL es).length + 1 : Nat) : Int)) (by omega) rfl rfl rfl, ?_⟩
  intro g18 w4 k4
  have M4 := M3.alloc k4
  refine ⟨by kernel_rfl, _, _, M4.get 0 rfl, Nat.le_of_ble_eq_true (by kernel_rfl), by kernel_rfl, ?_⟩
  intro w5 k5
  have k5 := put_eq k5 (o' := .cells (Gift.mk (((giftL es).length + 1 : Nat) : Int) day frm to cur n 0 0 0 ret).cells.toArray 37 (0, 0)) (by kernel_rfl)
  have M5 : Mem w w5 [(g18, .cells y.cells.toArray 37 (0, 0)), (g14, .cells #[.slice none 0 0] 30 (0, 0)), (g7, .cells #[.slice A es.length c] 30 (0, 0))] := by rw [hy]; exact M4.put 0 rfl k5
  refine brE_dec (fun hb => absurd (show (((giftL es).length + 1 : Nat) : Int) > 500 from hb) (by omega)) (fun _ => ?_)
  refine ⟨[_], rfl, M5.rd 2 rfl, ?_⟩
  refine ⟨y.cells, rfl, M5.rd 0 rfl, ?_⟩
  have hcl := refDo_spec (h.ext M5.ext) (by omega) hA hen (hf_nil w5) (Nat.zero_le _)
  have hval : e.val = .agg (#[.int .u8 5, .int .i64 day, .int .i64 0, .int .i64 0, .int .i64 0, .int .i64 0, .int .i64 0, .int .i64 0, .int .i64 0, .int .i64 0, .int .i64 0, .int .i64 y.id, .int .i64 y.day, .int .i64 y.frm, .int .i64 y.to, .int .u8 y.cur, .int .i64 y.n, .int .i64 y.worth, .int .u8 y.state, .int .i64 y.answered, .int .i64 y.returns, .int .i64 0, .int .i64 0, .int .i64 0]) := by rw [he]; rfl
  rw [hval] at hcl
  refine hcl.mono ?_
  rintro v w8 ⟨⟨A', c', rfl, hH, hFr⟩, e8⟩
  have M8 := M5.grow e8
  intro g11 w9 h9
  have M9 := M8.alloc h9
  refine ⟨rfl, _, _, M9.get 0 rfl, Nat.le_of_ble_eq_true rfl, rfl, ?_⟩
  intro w10 h10
  have M10 := M9.put 0 rfl h10
  have e10 : Ext w8 w10 := h10.ext_of h9.ext (by rw [h9.new]; exact Nat.le_refl _)
  refine brE_ndec (fun b1 => ?_) (fun b1 => ?_)
  · have b1 : ¬ doF [] es e = 0 := b1
    refine ⟨[_], rfl, M10.rd 0 rfl, ?_⟩
    refine ⟨rfl, _, _, M10.get 2 rfl, Nat.le_of_ble_eq_true rfl, rfl, ?_⟩
    intro w11 h11
    have M11 := M10.put 2 rfl h11
    refine ⟨[_], rfl, M11.rd 2 rfl, ?_⟩
    exact ⟨⟨A', c', by rw [if_neg b1], hl_put (hH.ext e10) (M10.get 2 rfl) h11, hFr.of_ext M5.ext⟩, M11.ext⟩
  · have b1 : doF [] es e = 0 := b1
    refine ⟨[_], rfl, M10.rd 0 rfl, ?_⟩
    refine ⟨rfl, _, _, M10.get 2 rfl, Nat.le_of_ble_eq_true rfl, rfl, ?_⟩
    intro w11 h11
    have M11 := M10.put 2 rfl h11
    refine ⟨[_], rfl, M11.rd 2 rfl, ?_⟩
    exact ⟨⟨A', c', by rw [if_pos b1], hl_put (hH.ext e10) (M10.get 2 rfl) h11, hFr.of_ext M5.ext⟩, M11.ext⟩

end Go.Proofs.YtcnbpfecgokhiaaGreatDoor
