/- Dues: the reference: what an operation is expected to do. -/
import Derived.Test.YtcnbpfecgokhiaaGreatDoorDVc
import Derived.Test.YtcnbpfecgokhiaaGreatDoorDYb
set_option linter.unusedVariables false
set_option linter.unusedSimpArgs false
set_option linter.unnecessarySimpa false
set_option linter.unusedSectionVars false
namespace Go.Proofs.YtcnbpfecgokhiaaGreatDoor
open Go.Eng Go.RowKit

set_option maxRecDepth 100000 in
set_option maxHeartbeats 4000000 in
theorem expected_spec {w : World} {A : Option Addr} {es : List Entry} {c : Nat} (h : HL Entry.cells w A es c) (hl : es.length ≤ 400) (hA : Acc es) {B : Option Addr} {f : List Fact} {d : Nat} (hf : HF w B f d) (hfl : f.length ≤ 2 ^ 20) {o : Opn} (ho : o.Nums) :
    CallsV C.P 19 #[.agg #[.slice A es.length c], .slice B f.length d, o.val] w fun v w' =>
      (∃ A' c', v = .tuple #[.agg #[.slice A' (didL f es o).length c'], .int .i64 (didN f es o), .int .i64 (didE f es o)] ∧ HL Entry.cells w' A' (didL f es o) c' ∧ Fresh w A A' es (didL f es o)) ∧ Ext w w' := by
  have hx := ho.x
  obtain ⟨e, he⟩ : ∃ e, e = opE es o := ⟨_, rfl⟩
  have e1 : didE f es o = doF f es e := by unfold didE; rw [he]
  have e2 : didL f es o = addL (doF f es e) es e := by unfold didL; rw [e1, he]
  rw [e2, e1]
  refine callsV_of C_ok (args := [_, _, _]) (plans := []) Tryz.func19 rfl Tryz.ntmps19 (by kernel_rfl) (Nat.le_of_ble_eq_true rfl) ?_
  intro g3 w1 h1
  have M1 : Mem w w1 [(g3, .cells #[.slice A es.length c] 30 (0, 0))] := (Mem.start w).alloc h1
  intro g5 w2 h2
  have M2 : Mem w w2 [(g5, .cells o.cells.toArray 41 (0, 0)), (g3, .cells #[.slice A es.length c] 30 (0, 0))] := M1.alloc h2
  intro g6 w3 h3
  have M3 : Mem w w3 [(g6, .cells #[.slice none 0 0] 30 (0, 0)), (g5, .cells o.cells.toArray 41 (0, 0)), (g3, .cells #[.slice A es.length c] 30 (0, 0))] := M2.alloc h3
  refine ⟨o.x.cells, rfl, (M3.rd 1 rfl).part o.x_part, ?_⟩
  intro g9 w4 h4
  have M4 := M3.alloc h4
  refine ⟨rfl, _, _, M4.get 0 rfl, Nat.le_of_ble_eq_true rfl, rfl, ?_⟩
  intro w5 h5
  have M : Mem w w5 [(g9, .cells o.x.cells.toArray 39 (0, 0)), (g6, .cells #[.slice none 0 0] 30 (0, 0)), (g5, .cells o.cells.toArray 41 (0, 0)), (g3, .cells #[.slice A es.length c] 30 (0, 0))] := M4.put 0 rfl h5
  clear M1 M2 M3 M4 h1 h2 h3 h4 h5
  refine ⟨_, M.cell 2 rfl rfl, ?_⟩
  refine ⟨by decide, opK o, by unfold opK; exact Int.tmod_eq_emod_of_nonneg ho.kind.1, ?_⟩
  refine brE_dec (fun k1 => ?_) (fun k1 => ?_)
  · have k1 : opK o = 1 := k1
    have e0 : grantE es o.x.w = e := by rw [he]; unfold opE; rw [if_pos k1]
    have e3 : didN f es o = if doF f es e = 0 then (((waivL es).length + 1 : Nat) : Int) else 0 := by unfold didN; rw [e1, if_pos k1]
    refine ⟨[_], rfl, M.rd 3 rfl, ?_⟩
    refine ⟨o.x.w.cells, rfl, (M.rd 0 rfl).part o.x.w_part, ?_⟩
    have hcl := refGrantN_spec (h.ext M.ext) hl hA hx.w (hf.ext M.ext) hfl
    rw [e0] at hcl
    refine (hcl).mono ?_
    rintro v w8 ⟨⟨A', c', rfl, hH, hFr⟩, e8⟩
    have M8 := M.grow e8
    refine ⟨rfl, _, _, M8.get 1 rfl, Nat.le_of_ble_eq_true rfl, rfl, ?_⟩
    intro w9 h9
    have M9 := M8.put 1 rfl h9
    refine ⟨[_], rfl, M9.rd 1 rfl, ?_⟩
    exact ⟨⟨A', c', by rw [e3], hl_put hH (M8.get 1 rfl) h9, hFr.of_ext M.ext⟩, M9.ext⟩
  have k1 : ¬ opK o = 1 := k1
  refine brE_dec (fun k2 => ?_) (fun k2 => ?_)
  · have k2 : opK o = 2 := k2
    have e0 : offerE es o.x.day o.x.g.frm o.x.g.to o.x.g.cur o.x.g.n o.x.g.returns = e := by rw [he]; unfold opE; rw [if_neg k1, if_pos k2]
    have e3 : didN f es o = if doF f es e = 0 then (((giftL es).length + 1 : Nat) : Int) else 0 := by unfold didN; rw [e1, if_neg k1, if_pos k2]
    refine ⟨[_], rfl, M.rd 3 rfl, ?_⟩
    refine ⟨_, M.cell 0 rfl rfl, ?_⟩
    refine ⟨_, M.cell 0 rfl rfl, ?_⟩
    refine ⟨_, M.cell 0 rfl rfl, ?_⟩
    refine ⟨_, M.cell 0 rfl rfl, ?_⟩
    refine ⟨_, M.cell 0 rfl rfl, ?_⟩
    refine ⟨_, M.cell 0 rfl rfl, ?_⟩
    have hcl := refOfferN_spec (h.ext M.ext) hl hA hx.day hx.g.frm hx.g.to hx.g.cur hx.g.n hx.g.returns f
    rw [e0] at hcl
    refine (hcl).mono ?_
    rintro v w8 ⟨⟨A', c', rfl, hH, hFr⟩, e8⟩
    have M8 := M.grow e8
    refine ⟨rfl, _, _, M8.get 1 rfl, Nat.le_of_ble_eq_true rfl, rfl, ?_⟩
    intro w9 h9
    have M9 := M8.put 1 rfl h9
    refine ⟨[_], rfl, M9.rd 1 rfl, ?_⟩
    exact ⟨⟨A', c', by rw [e3], hl_put hH (M8.get 1 rfl) h9, hFr.of_ext M.ext⟩, M9.ext⟩
  have k2 : ¬ opK o = 2 := k2
  refine brE_dec (fun k3 => ?_) (fun k3 => ?_)
  · have k3 : opK o = 3 := k3
    have e0 : e = rateE o.x.day o.x.g.cur o.x.n := by rw [he]; unfold opE; rw [if_neg k1, if_neg k2, if_pos k3]
    have hen : e.Nums := by rw [e0]; exact rateE_nums hx.day hx.g.cur hx.n
    refine ⟨_, M.cell 0 rfl rfl, ?_⟩
    refine ⟨_, M.cell 0 rfl rfl, ?_⟩
    refine ⟨o.x.g.cur, fit ⟨by have := hx.g.cur; omega, by have := hx.g.cur; omega⟩, ?_⟩
    refine ⟨_, M.cell 0 rfl rfl, ?_⟩
    refine ⟨by kernel_rfl, _, _, M.get 0 rfl, Nat.le_of_ble_eq_true (by kernel_rfl), by kernel_rfl, ?_⟩
    intro w6 h6
    have h6 := put_eq h6 (o' := .cells (rateE o.x.day o.x.g.cur o.x.n).cells.toArray 39 (0, 0)) (by kernel_rfl)
    have M6 : Mem w w6 [(g9, .cells e.cells.toArray 39 (0, 0)), (g6, .cells #[.slice none 0 0] 30 (0, 0)), (g5, .cells o.cells.toArray 41 (0, 0)), (g3, .cells #[.slice A es.length c] 30 (0, 0))] := by rw [e0]; exact M.put 0 rfl h6
    refine ⟨[_], rfl, M6.rd 3 rfl, ?_⟩
    refine ⟨e.cells, rfl, M6.rd 0 rfl, ?_⟩
    refine (refDo_spec (h.ext M6.ext) (by omega) hA hen (hf.ext M6.ext) hfl).mono ?_
    rintro v w8 ⟨⟨A', c', rfl, hH, hFr⟩, e8⟩
    have M8 := M6.grow e8
    intro g10 w9 h9
    have M9 := M8.alloc h9
    refine ⟨rfl, _, _, M9.get 0 rfl, Nat.le_of_ble_eq_true rfl, rfl, ?_⟩
    intro w10 h10
    have M10 := M9.put 0 rfl h10
    have e10 : Ext w8 w10 := h10.ext_of h9.ext (by rw [h9.new]; exact Nat.le_refl _)
    refine ⟨[_], rfl, M10.rd 0 rfl, ?_⟩
    refine ⟨rfl, _, _, M10.get 2 rfl, Nat.le_of_ble_eq_true rfl, rfl, ?_⟩
    intro w11 h11
    have M11 := M10.put 2 rfl h11
    refine ⟨[_], rfl, M11.rd 2 rfl, ?_⟩
    exact ⟨⟨A', c', by rw [didN_off k1 k2], hl_put (hH.ext e10) (M10.get 2 rfl) h11, hFr.of_ext M6.ext⟩, M11.ext⟩
  have k3 : ¬ opK o = 3 := k3
  refine brE_dec (fun k4 => ?_) (fun k4 => ?_)
  · have k4 : opK o = 4 := k4
    have e0 : e = ceilE o.x.day o.x.a o.x.n := by rw [he]; unfold opE; rw [if_neg k1, if_neg k2, if_neg k3, if_pos k4]
    have hen : e.Nums := by rw [e0]; exact ceilE_nums hx.day hx.a hx.n
    refine ⟨_, M.cell 0 rfl rfl, ?_⟩
    refine ⟨_, M.cell 0 rfl rfl, ?_⟩
    refine ⟨_, M.cell 0 rfl rfl, ?_⟩
    refine ⟨by kernel_rfl, _, _, M.get 0 rfl, Nat.le_of_ble_eq_true (by kernel_rfl), by kernel_rfl, ?_⟩
    intro w6 h6
    have h6 := put_eq h6 (o' := .cells (ceilE o.x.day o.x.a o.x.n).cells.toArray 39 (0, 0)) (by kernel_rfl)
    have M6 : Mem w w6 [(g9, .cells e.cells.toArray 39 (0, 0)), (g6, .cells #[.slice none 0 0] 30 (0, 0)), (g5, .cells o.cells.toArray 41 (0, 0)), (g3, .cells #[.slice A es.length c] 30 (0, 0))] := by rw [e0]; exact M.put 0 rfl h6
    refine ⟨[_], rfl, M6.rd 3 rfl, ?_⟩
    refine ⟨e.cells, rfl, M6.rd 0 rfl, ?_⟩
    refine (refDo_spec (h.ext M6.ext) (by omega) hA hen (hf.ext M6.ext) hfl).mono ?_
    rintro v w8 ⟨⟨A', c', rfl, hH, hFr⟩, e8⟩
    have M8 := M6.grow e8
    intro g10 w9 h9
    have M9 := M8.alloc h9
    refine ⟨rfl, _, _, M9.get 0 rfl, Nat.le_of_ble_eq_true rfl, rfl, ?_⟩
    intro w10 h10
    have M10 := M9.put 0 rfl h10
    have e10 : Ext w8 w10 := h10.ext_of h9.ext (by rw [h9.new]; exact Nat.le_refl _)
    refine ⟨[_], rfl, M10.rd 0 rfl, ?_⟩
    refine ⟨rfl, _, _, M10.get 2 rfl, Nat.le_of_ble_eq_true rfl, rfl, ?_⟩
    intro w11 h11
    have M11 := M10.put 2 rfl h11
    refine ⟨[_], rfl, M11.rd 2 rfl, ?_⟩
    exact ⟨⟨A', c', by rw [didN_off k1 k2], hl_put (hH.ext e10) (M10.get 2 rfl) h11, hFr.of_ext M6.ext⟩, M11.ext⟩
  have k4 : ¬ opK o = 4 := k4
  refine brE_dec (fun k5 => ?_) (fun k5 => ?_)
  · have k5 : opK o = 5 := k5
    have e0 : e = endE o.x.day o.x.w.id := by rw [he]; unfold opE; rw [if_neg k1, if_neg k2, if_neg k3, if_neg k4, if_pos k5]
    have hen : e.Nums := by rw [e0]; exact endE_nums hx.day hx.w.id
    refine ⟨_, M.cell 0 rfl rfl, ?_⟩
    refine ⟨_, M.cell 0 rfl rfl, ?_⟩
    refine ⟨by kernel_rfl, _, _, M.get 0 rfl, Nat.le_of_ble_eq_true (by kernel_rfl), by kernel_rfl, ?_⟩
    intro w6 h6
    have h6 := put_eq h6 (o' := .cells (endE o.x.day o.x.w.id).cells.toArray 39 (0, 0)) (by kernel_rfl)
    have M6 : Mem w w6 [(g9, .cells e.cells.toArray 39 (0, 0)), (g6, .cells #[.slice none 0 0] 30 (0, 0)), (g5, .cells o.cells.toArray 41 (0, 0)), (g3, .cells #[.slice A es.length c] 30 (0, 0))] := by rw [e0]; exact M.put 0 rfl h6
    refine ⟨[_], rfl, M6.rd 3 rfl, ?_⟩
    refine ⟨e.cells, rfl, M6.rd 0 rfl, ?_⟩
    refine (refDo_spec (h.ext M6.ext) (by omega) hA hen (hf.ext M6.ext) hfl).mono ?_
    rintro v w8 ⟨⟨A', c', rfl, hH, hFr⟩, e8⟩
    have M8 := M6.grow e8
    intro g10 w9 h9
    have M9 := M8.alloc h9
    refine ⟨rfl, _, _, M9.get 0 rfl, Nat.le_of_ble_eq_true rfl, rfl, ?_⟩
    intro w10 h10
    have M10 := M9.put 0 rfl h10
    have e10 : Ext w8 w10 := h10.ext_of h9.ext (by rw [h9.new]; exact Nat.le_refl _)
    refine ⟨[_], rfl, M10.rd 0 rfl, ?_⟩
    refine ⟨rfl, _, _, M10.get 2 rfl, Nat.le_of_ble_eq_true rfl, rfl, ?_⟩
    intro w11 h11
    have M11 := M10.put 2 rfl h11
    refine ⟨[_], rfl, M11.rd 2 rfl, ?_⟩
    exact ⟨⟨A', c', by rw [didN_off k1 k2], hl_put (hH.ext e10) (M10.get 2 rfl) h11, hFr.of_ext M6.ext⟩, M11.ext⟩
  have k5 : ¬ opK o = 5 := k5
  refine brE_dec (fun k6 => ?_) (fun k6 => ?_)
  · have k6 : opK o = 6 := k6
    have e0 : e = takeE o.x.day o.x.g.id := by rw [he]; unfold opE; rw [if_neg k1, if_neg k2, if_neg k3, if_neg k4, if_neg k5, if_pos k6]
    have hen : e.Nums := by rw [e0]; exact takeE_nums hx.day hx.g.id
    refine ⟨_, M.cell 0 rfl rfl, ?_⟩
    refine ⟨_, M.cell 0 rfl rfl, ?_⟩
    refine ⟨by kernel_rfl, _, _, M.get 0 rfl, Nat.le_of_ble_eq_true (by kernel_rfl), by kernel_rfl, ?_⟩
    intro w6 h6
    have h6 := put_eq h6 (o' := .cells (takeE o.x.day o.x.g.id).cells.toArray 39 (0, 0)) (by kernel_rfl)
    have M6 : Mem w w6 [(g9, .cells e.cells.toArray 39 (0, 0)), (g6, .cells #[.slice none 0 0] 30 (0, 0)), (g5, .cells o.cells.toArray 41 (0, 0)), (g3, .cells #[.slice A es.length c] 30 (0, 0))] := by rw [e0]; exact M.put 0 rfl h6
    refine ⟨[_], rfl, M6.rd 3 rfl, ?_⟩
    refine ⟨e.cells, rfl, M6.rd 0 rfl, ?_⟩
    refine (refDo_spec (h.ext M6.ext) (by omega) hA hen (hf.ext M6.ext) hfl).mono ?_
    rintro v w8 ⟨⟨A', c', rfl, hH, hFr⟩, e8⟩
    have M8 := M6.grow e8
    intro g10 w9 h9
    have M9 := M8.alloc h9
    refine ⟨rfl, _, _, M9.get 0 rfl, Nat.le_of_ble_eq_true rfl, rfl, ?_⟩
    intro w10 h10
    have M10 := M9.put 0 rfl h10
    have e10 : Ext w8 w10 := h10.ext_of h9.ext (by rw [h9.new]; exact Nat.le_refl _)
    refine ⟨[_], rfl, M10.rd 0 rfl, ?_⟩
    refine ⟨rfl, _, _, M10.get 2 rfl, Nat.le_of_ble_eq_true rfl, rfl, ?_⟩
    intro w11 h11
    have M11 := M10.put 2 rfl h11
    refine ⟨[_], rfl, M11.rd 2 rfl, ?_⟩
    exact ⟨⟨A', c', by rw [didN_off k1 k2], hl_put (hH.ext e10) (M10.get 2 rfl) h11, hFr.of_ext M6.ext⟩, M11.ext⟩
  have k6 : ¬ opK o = 6 := k6
  refine brE_dec (fun k7 => ?_) (fun k7 => ?_)
  · have k7 : opK o = 7 := k7
    have e0 : e = refuseE o.x.day o.x.g.id := by rw [he]; unfold opE; rw [if_neg k1, if_neg k2, if_neg k3, if_neg k4, if_neg k5, if_neg k6, if_pos k7]
    have hen : e.Nums := by rw [e0]; exact refuseE_nums hx.day hx.g.id
    refine ⟨_, M.cell 0 rfl rfl, ?_⟩
    refine ⟨_, M.cell 0 rfl rfl, ?_⟩
    refine ⟨by kernel_rfl, _, _, M.get 0 rfl, Nat.le_of_ble_eq_true (by kernel_rfl), by kernel_rfl, ?_⟩
    intro w6 h6
    have h6 := put_eq h6 (o' := .cells (refuseE o.x.day o.x.g.id).cells.toArray 39 (0, 0)) (by kernel_rfl)
    have M6 : Mem w w6 [(g9, .cells e.cells.toArray 39 (0, 0)), (g6, .cells #[.slice none 0 0] 30 (0, 0)), (g5, .cells o.cells.toArray 41 (0, 0)), (g3, .cells #[.slice A es.length c] 30 (0, 0))] := by rw [e0]; exact M.put 0 rfl h6
    refine ⟨[_], rfl, M6.rd 3 rfl, ?_⟩
    refine ⟨e.cells, rfl, M6.rd 0 rfl, ?_⟩
    refine (refDo_spec (h.ext M6.ext) (by omega) hA hen (hf.ext M6.ext) hfl).mono ?_
    rintro v w8 ⟨⟨A', c', rfl, hH, hFr⟩, e8⟩
    have M8 := M6.grow e8
    intro g10 w9 h9
    have M9 := M8.alloc h9
    refine ⟨rfl, _, _, M9.get 0 rfl, Nat.le_of_ble_eq_true rfl, rfl, ?_⟩
    intro w10 h10
    have M10 := M9.put 0 rfl h10
    have e10 : Ext w8 w10 := h10.ext_of h9.ext (by rw [h9.new]; exact Nat.le_refl _)
    refine ⟨[_], rfl, M10.rd 0 rfl, ?_⟩
    refine ⟨rfl, _, _, M10.get 2 rfl, Nat.le_of_ble_eq_true rfl, rfl, ?_⟩
    intro w11 h11
    have M11 := M10.put 2 rfl h11
    refine ⟨[_], rfl, M11.rd 2 rfl, ?_⟩
    exact ⟨⟨A', c', by rw [didN_off k1 k2], hl_put (hH.ext e10) (M10.get 2 rfl) h11, hFr.of_ext M6.ext⟩, M11.ext⟩
  have k7 : ¬ opK o = 7 := k7
  have e0 : e = o.x := by rw [he]; unfold opE; rw [if_neg k1, if_neg k2, if_neg k3, if_neg k4, if_neg k5, if_neg k6, if_neg k7]
  have hen : e.Nums := by rw [e0]; exact hx
  rw [← e0] at M
  refine ⟨[_], rfl, M.rd 3 rfl, ?_⟩
  refine ⟨e.cells, rfl, M.rd 0 rfl, ?_⟩
  refine (refDo_spec (h.ext M.ext) (by omega) hA hen (hf.ext M.ext) hfl).mono ?_
  rintro v w8 ⟨⟨A', c', rfl, hH, hFr⟩, e8⟩
  have M8 := M.grow e8
  intro g10 w9 h9
  have M9 := M8.alloc h9
  refine ⟨rfl, _, _, M9.get 0 rfl, Nat.le_of_ble_eq_true rfl, rfl, ?_⟩
  intro w10 h10
  have M10 := M9.put 0 rfl h10
  have e10 : Ext w8 w10 := h10.ext_of h9.ext (by rw [h9.new]; exact Nat.le_refl _)
  refine ⟨[_], rfl, M10.rd 0 rfl, ?_⟩
  refine ⟨rfl, _, _, M10.get 2 rfl, Nat.le_of_ble_eq_true rfl, rfl, ?_⟩
  intro w11 h11
  have M11 := M10.put 2 rfl h11
  refine ⟨[_], rfl, M11.rd 2 rfl, ?_⟩
  exact ⟨⟨A', c', by rw [didN_off k1 k2], hl_put (hH.ext e10) (M10.get 2 rfl) h11, hFr.of_ext M.ext⟩, M11.ext⟩

end Go.Proofs.YtcnbpfecgokhiaaGreatDoor
