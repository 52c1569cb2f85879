/- Dues: what is so as of a day. -/
import Derived.Test.YtcnbpfecgokhiaaGreatDoorDWj
import Derived.Test.YtcnbpfecgokhiaaGreatDoorDUb
set_option linter.unusedVariables false
set_option linter.unusedSimpArgs false
set_option linter.unnecessarySimpa false
set_option linter.unusedSectionVars false
namespace Go.Proofs.YtcnbpfecgokhiaaGreatDoor
open Go.Eng Go.RowKit

/-- A state made since a world. -/
structure StNew (w0 w : World) (s : SV) (es : List Entry) : Prop where
  is : StateIs w s es
  new : ∀ k, s.has k → w0.heap.size ≤ k
  ext : Ext w0 w
theorem StNew.go {w0 w w' : World} {s : SV} {es es' : List Entry} (h : StNew w0 w s es) (k : StGo w s es' w') : ∃ s', s'.gs = s.gs ∧ StNew w0 w' s' es' := by
  obtain ⟨s', hg, hi, hk, hn⟩ := k
  refine ⟨s', hg, hi, fun q hq => ?_, ⟨hk.os.trans h.ext.os, hk.tape.trans h.ext.tape, hk.output.trans h.ext.output, Nat.le_trans h.ext.size hk.size, fun q hq => ?_⟩⟩
  · rcases hn q hq with h1 | h1
    · exact h.new q h1
    · exact Nat.le_trans h.ext.size h1
  · rw [hk.block q (fun h1 => by have := h.new q h1; omega) (Nat.lt_of_lt_of_le hq h.ext.size)]
    exact h.ext.block q hq
theorem StNew.then {w0 w w' : World} {s : SV} {es : List Entry} (h : StNew w0 w s es) (e : Ext w w') : StNew w0 w' s es := ⟨h.is.ext e, h.new, h.ext.trans e⟩

theorem asOf_step {es : List Entry} (hA : Acc es) {i : Nat} (hi : i < es.length) {day : Int} (hd : es[i].day ≤ day) : ∃ sg, doE sg (asOfL (es.take i) day) es[i] = 0 := by
  have h1 : asOfL (es.take i) day = es.take i := asOf_all fun x hx => by
    obtain ⟨j, hj, rfl⟩ := List.getElem_of_mem hx
    rw [List.length_take] at hj
    rw [List.getElem_take]
    have := List.pairwise_iff_getElem.1 (acc_ok hA).days j i (by omega) hi (by omega)
    omega
  rw [h1]
  have h2 := acc_front hA (i + 1)
  rw [List.take_succ_eq_append_getElem hi] at h2
  exact (acc_inv h2).2
theorem asOf_take_succ {es : List Entry} {i : Nat} (hi : i < es.length) (day : Int) : asOfL (es.take (i + 1)) day = asOfL (es.take i) day ++ if es[i].day ≤ day then [es[i]] else [] := by
  rw [List.take_succ_eq_append_getElem hi, asOf_snoc]
theorem asOfL_length (es : List Entry) (day : Int) : (asOfL es day).length ≤ es.length := List.length_filter_le _ _

set_option maxRecDepth 100000 in
theorem asOf_spec {w : World} {l : LV} {es : List Entry} (h : LedgerIs w l es) (hl : es.length ≤ 2 ^ 16) (day : Int) :
    CallsV C.P 79 #[l.ptr, .int .i64 day] w fun v w' => ∃ s : SV, v = .pointer (some ⟨s.gs, 0, none⟩) ∧ StNew w w' s (asOfL es day) := by
  obtain ⟨A, c, hv, hr, _⟩ := reads_of_owns h.row
  refine callsV_of C_ok (args := [_, _]) (plans := []) Tryz.func79 rfl Tryz.ntmps79 (by kernel_rfl) (Nat.le_of_ble_eq_true rfl) ?_
  refine (newState_spec w).mono ?_
  rintro v w1 ⟨⟨s0, rfl, hs0, hn0⟩, e1⟩
  have hvc : w1.cell? ⟨l.gl, 0, none⟩ = some (.slice A es.length c) := cell_of_block (e1.heap h.block) (by show some l.vE = _; rw [hv])
  refine ⟨_, eqNilP _ _ _, ?_⟩
  refine ⟨_, hvc, ?_⟩
  refine loopE C_ok (fun (i : Nat) => [(1, .int .i64 day), (5, .pointer (some ⟨s0.gs, 0, none⟩)), (15, .slice A es.length c), (16, .int .i64 es.length), (17, .int .i64 i)])
    (fun i w' => i ≤ es.length ∧ ∃ s : SV, s.gs = s0.gs ∧ StNew w w' s (asOfL (es.take i) day)) (fun i => es.length - i) 0 ⟨rfl, rfl, rfl, rfl, rfl, trivial⟩
    ⟨Nat.zero_le _, s0, rfl, by rw [List.take_zero]; exact hs0, hn0, e1⟩ ?_
  rintro i w2 ⟨hi, s, hgs, hst⟩
  refine brE_dec (fun hlt => ?_) (fun hge => ?_)
  · have hlt : i < es.length := by have : (i : Int) < (es.length : Nat) := hlt; omega
    obtain ⟨b, o, hA, hc⟩ := Reads.elem Entry.len (by omega) (hr.ext hst.ext) hlt
    refine ⟨i, b, o, rfl, hlt, hA, ?_⟩
    refine ⟨es[i].cells, rfl, hc, ?_⟩
    intro g3 w3 h3
    refine ⟨rfl, _, _, h3.here, Nat.le_of_ble_eq_true rfl, rfl, ?_⟩
    intro w4 h4
    have h4 : Put w3 g3 (.cells es[i].cells.toArray 39 (0, 0)) w4 := h4
    have e24 : Ext w2 w4 := h4.ext_of h3.ext (by rw [h3.new]; exact Nat.le_refl _)
    have hst4 := hst.then e24
    refine ⟨_, cell_of_block (i := 1) h4.here rfl, ?_⟩
    have hnext := asOf_take_succ hlt day
    refine brE_dec (fun hd => ?_) (fun hd => ?_)
    · have hd : es[i].day ≤ day := hd
      rw [if_pos hd] at hnext
      obtain ⟨sg, hsg⟩ := asOf_step h.acc hlt hd
      refine ⟨es[i].cells, rfl, Rd.of_block h4.here, ?_⟩
      have hdo := do_spec hst4.is (acc_asOf (acc_front h.acc i) day) (h.nums _ (List.getElem_mem hlt)) hsg
      rw [hgs] at hdo
      refine hdo.mono ?_
      intro v w5 hgo
      obtain ⟨s5, hg5, hs5⟩ := hst4.go hgo
      refine ⟨((i + 1 : Nat) : Int), fit ⟨by omega, by omega⟩, ?_⟩
      exact ⟨i + 1, ⟨rfl, rfl, rfl, rfl, rfl, trivial⟩, ⟨hlt, s5, hg5.trans hgs, by rw [hnext]; exact hs5⟩, by show es.length - (i + 1) < es.length - i; omega⟩
    · have hd : ¬ es[i].day ≤ day := hd
      rw [if_neg hd, List.append_nil] at hnext
      refine ⟨((i + 1 : Nat) : Int), fit ⟨by omega, by omega⟩, ?_⟩
      exact ⟨i + 1, ⟨rfl, rfl, rfl, rfl, rfl, trivial⟩, ⟨hlt, s, hgs, by rw [hnext]; exact hst4⟩, by show es.length - (i + 1) < es.length - i; omega⟩
  · have hge : i = es.length := by have : ¬ (i : Int) < (es.length : Nat) := hge; omega
    rw [hge, List.take_length] at hst
    exact ⟨s, by rw [hgs], hst⟩

/-! ### lists made of a state's rows -/
theorem ext_below {w w1 w2 : World} {B : Nat} (e : Ext w w1) (h : Below B w1 w2) (hB : w.heap.size ≤ B) : Ext w w2 :=
  ⟨h.os.trans e.os, h.tape.trans e.tape, h.output.trans e.output, Nat.le_trans e.size h.size, fun k hk => (h.block k (by omega)).trans (e.block k hk)⟩
theorem below_heap {B : Nat} {w w' : World} (h : Below B w w') {k : Nat} (hk : k < B) {o : Obj} (hv : w.heap[k]? = some o) : w'.heap[k]? = some o := by rw [h.block k hk]; exact hv
theorem StNew.waivs {w0 w : World} {s : SV} {es : List Entry} (h : StNew w0 w s es) : NewL Waiv.cells 35 9 w0.heap.size w s.vW (waivL es) := owns_from h.is.waivs fun k hk => h.new k (.inr (.inr (.inr (.inr (.inr (.inl hk))))))
theorem StNew.gifts {w0 w : World} {s : SV} {es : List Entry} (h : StNew w0 w s es) : NewL Gift.cells 37 10 w0.heap.size w s.vG (giftL es) := owns_from h.is.gifts fun k hk => h.new k (.inr (.inr (.inr (.inr (.inr (.inr hk))))))

theorem off_spec {w : World} {g : Nat} {day : Int} (hg : w.heap[g]? = some (.cells #[.int .i64 day] 3 (0, 0))) (x : Waiv) :
    CallsV C.P 80 (#[] ++ [x.val].toArray ++ #[.pointer (some ⟨g, 0, none⟩)]) w fun v w' => v = .bool (!forceB day x) ∧ Ext w w' := by
  refine callsV_of C_ok (args := [_, _]) (plans := []) Tryz.func80 rfl Tryz.ntmps80 (by kernel_rfl) (Nat.le_of_ble_eq_true rfl) ?_
  intro g2 w1 h1
  have M1 : Mem w w1 [(g2, .cells x.cells.toArray 35 (0, 0))] := (Mem.start w).alloc h1
  refine ⟨.int .i64 day, cell_of_block (M1.ext.heap hg) rfl, ?_⟩
  refine ⟨_, M1.cell 0 rfl rfl, ?_⟩
  refine brE_dec (fun c1 => ?_) (fun c1 => ?_)
  · have c1 : day < x.since := c1
    exact ⟨congrArg _ (by unfold forceB; rw [decide_eq_false (by omega)]; rfl), M1.ext⟩
  have c1 : ¬ day < x.since := c1
  refine ⟨.int .i64 day, cell_of_block (M1.ext.heap hg) rfl, ?_⟩
  refine ⟨_, M1.cell 0 rfl rfl, ?_⟩
  refine ⟨congrArg _ ?_, M1.ext⟩
  show decide (x.til ≤ day) = _
  unfold forceB
  rw [decide_eq_true (by omega : x.since ≤ day), Bool.true_and]
  by_cases h : x.til ≤ day
  · rw [decide_eq_true h, decide_eq_false (by omega)]; rfl
  · rw [decide_eq_false h, decide_eq_true (by omega)]; rfl

theorem Waivers_spec {w : World} {l : LV} {es : List Entry} (h : LedgerIs w l es) (hl : es.length ≤ 2 ^ 16) (day : Int) :
    CallsV C.P 28 #[l.ptr, .int .i64 day] w fun v w' => NewL Waiv.cells 35 9 w.heap.size w' v (waiversAt es day) ∧ Ext w w' := by
  have hwl := waivL_length (asOfL es day)
  have hal := asOfL_length es day
  refine callsV_of C_ok (args := [_, _]) (plans := []) Tryz.func28 rfl Tryz.ntmps28 (by kernel_rfl) (Nat.le_of_ble_eq_true rfl) ?_
  intro g3 w1 h1
  have M1 : Mem w w1 [(g3, .cells #[.int .i64 day] 3 (0, 0))] := (Mem.start w).alloc h1
  refine ⟨_, M1.cell 0 rfl rfl, ?_⟩
  refine (asOf_spec (h.ext M1.ext) hl day).mono ?_
  rintro v w2 ⟨s, rfl, hs⟩
  refine ⟨s.vW, cell_of_block (i := 2) hs.is.block rfl, ?_⟩
  refine ⟨[], [.pointer (some ⟨g3, 0, none⟩)], rfl, rfl, ?_⟩
  have hg3 := lt_of_heap (M1.get 0 rfl)
  refine (DeleteFuncW_spec hs.waivs hs.ext.size (by omega) rfl (p := fun x => !forceB day x) fun x w' hb => off_spec (below_heap hb hg3 (hs.ext.heap (M1.get 0 rfl))) x).mono ?_
  rintro v w3 ⟨h3, b3⟩
  have e : ((waivL (asOfL es day)).filter fun x => !(!forceB day x)) = waiversAt es day := by
    unfold waiversAt
    refine List.filter_congr fun x _ => Bool.not_not _
  rw [e] at h3
  exact ⟨h3.base M1.ext.size, ext_below (M1.ext.trans hs.ext) b3 M1.ext.size⟩

theorem notSides_spec {w : World} {g : Nat} {st : Int} (hg : w.heap[g]? = some (.cells #[.int .i64 st] 3 (0, 0))) (x : Gift) :
    CallsV C.P 82 (#[] ++ [x.val].toArray ++ #[.pointer (some ⟨g, 0, none⟩)]) w fun v w' => v = .bool (!(decide (x.frm = st) || decide (x.to = st))) ∧ Ext w w' := by
  refine callsV_of C_ok (args := [_, _]) (plans := []) Tryz.func82 rfl Tryz.ntmps82 (by kernel_rfl) (Nat.le_of_ble_eq_true rfl) ?_
  intro g2 w1 h1
  have M1 : Mem w w1 [(g2, .cells x.cells.toArray 37 (0, 0))] := (Mem.start w).alloc h1
  refine ⟨_, M1.cell 0 rfl rfl, ?_⟩
  refine ⟨.int .i64 st, cell_of_block (M1.ext.heap hg) rfl, ?_⟩
  refine brE_ndec (fun c1 => ?_) (fun c1 => ?_)
  · have c1 : ¬ x.frm = st := c1
    refine ⟨_, M1.cell 0 rfl rfl, ?_⟩
    refine ⟨.int .i64 st, cell_of_block (M1.ext.heap hg) rfl, ?_⟩
    refine ⟨congrArg _ ?_, M1.ext⟩
    show (!decide (x.to = st)) = _
    rw [decide_eq_false c1, Bool.false_or]
  · have c1 : x.frm = st := c1
    exact ⟨congrArg _ (by rw [decide_eq_true c1]; rfl), M1.ext⟩

theorem Gifts_spec {w : World} {l : LV} {es : List Entry} (h : LedgerIs w l es) (hl : es.length ≤ 2 ^ 16) (st day : Int) :
    CallsV C.P 30 #[l.ptr, .int .i64 st, .int .i64 day] w fun v w' => NewL Gift.cells 37 10 w.heap.size w' v (giftsAt es st day) ∧ Ext w w' := by
  have hwl := giftL_length (asOfL es day)
  have hal := asOfL_length es day
  refine callsV_of C_ok (args := [_, _, _]) (plans := []) Tryz.func30 rfl Tryz.ntmps30 (by kernel_rfl) (Nat.le_of_ble_eq_true rfl) ?_
  intro g3 w1 h1
  have M1 : Mem w w1 [(g3, .cells #[.int .i64 st] 3 (0, 0))] := (Mem.start w).alloc h1
  refine (asOf_spec (h.ext M1.ext) hl day).mono ?_
  rintro v w2 ⟨s, rfl, hs⟩
  refine ⟨s.vG, cell_of_block (i := 4) hs.is.block rfl, ?_⟩
  refine ⟨[], [.pointer (some ⟨g3, 0, none⟩)], rfl, rfl, ?_⟩
  have hg3 := lt_of_heap (M1.get 0 rfl)
  refine (DeleteFuncG_spec hs.gifts hs.ext.size (by omega) rfl (p := fun x => !(decide (x.frm = st) || decide (x.to = st))) fun x w' hb => notSides_spec (below_heap hb hg3 (hs.ext.heap (M1.get 0 rfl))) x).mono ?_
  rintro v w3 ⟨h3, b3⟩
  have e : ((giftL (asOfL es day)).filter fun x => !(!(decide (x.frm = st) || decide (x.to = st)))) = giftsAt es st day := by
    unfold giftsAt
    refine List.filter_congr fun x _ => Bool.not_not _
  rw [e] at h3
  exact ⟨h3.base M1.ext.size, ext_below (M1.ext.trans hs.ext) b3 M1.ext.size⟩

/-- Days of gifts are days. -/
theorem offer_plain {sg : Int} {es : List Entry} {x : Entry} (hk : x.kind = 5) (hx : doE sg es x = 0) : x.g.answered = 0 := by
  obtain ⟨_, hw, _⟩ := form_okE (do_zero hx).1
  have h5 : wantE x = ⟨x.kind, x.day, waivZ, plainG x.g, 0, 0, 0⟩ := by
    unfold wantE; rw [if_neg (by omega), if_neg (by omega), if_neg (by omega), if_pos hk]
  rw [h5] at hw
  have : x.g = plainG x.g := by rw [hw]; rfl
  rw [this]; rfl
theorem answered_ok {es : List Entry} (h : Acc es) : ∀ g ∈ giftL es, 0 ≤ g.answered ∧ g.answered ≤ 100000 := by
  induction h with
  | nil => intro g hg; cases hg
  | @snoc es x sg hA hx ih =>
    obtain ⟨hf, _, _⟩ := do_zero hx
    obtain ⟨hok, _, hd⟩ := form_okE hf
    have set_ok : ∀ {gs : List Gift} {k : Nat} (hk : k < gs.length) {y : Gift}, (∀ g ∈ gs, 0 ≤ g.answered ∧ g.answered ≤ 100000) → (0 ≤ y.answered ∧ y.answered ≤ 100000) → ∀ g ∈ gs.set k y, 0 ≤ g.answered ∧ g.answered ≤ 100000 := by
      intro gs k hk y hall hy g hg
      rcases List.mem_or_eq_of_mem_set hg with hg | rfl
      · exact hall g hg
      · exact hy
    by_cases h5 : x.kind = 5
    · intro g hg
      rw [(offer_gift h5 hx).1] at hg
      rcases List.mem_append.1 hg with hg | hg
      · exact ih g hg
      · rw [List.mem_singleton.1 hg]
        show 0 ≤ x.g.answered ∧ x.g.answered ≤ 100000
        rw [offer_plain h5 hx]; omega
    by_cases h6 : x.kind = 6
    · obtain ⟨k, hl, hid, hst⟩ := ans_parts (.inl h6) hx
      have hG := gift_take h6 hl hid
      have h1 := set_ok hl (y := takeG x.day (giftL es)[k]) ih hd
      rw [hG]
      dsimp only
      split
      · exact h1
      · split
        · intro g hg
          unfold updAt at hg
          rcases List.mem_or_eq_of_mem_set hg with hg | rfl
          · exact h1 g hg
          · show 0 ≤ (atN ((giftL es).set k (takeG x.day (giftL es)[k])) (giftL es)[k].returns).answered ∧ (atN ((giftL es).set k (takeG x.day (giftL es)[k])) (giftL es)[k].returns).answered ≤ 100000
            unfold atN
            by_cases hlt : ((giftL es)[k].returns - 1).toNat < ((giftL es).set k (takeG x.day (giftL es)[k])).length
            · rw [List.getD_eq_getElem?_getD, List.getElem?_eq_getElem hlt]
              exact h1 _ (List.getElem_mem hlt)
            · rw [List.getD_eq_getElem?_getD, List.getElem?_eq_none (by omega)]
              exact ⟨by decide, by decide⟩
        · exact h1
    by_cases h7 : x.kind = 7
    · obtain ⟨k, hl, hid, hst⟩ := ans_parts (.inr h7) hx
      rw [gift_refuse h7 hl hid]
      exact set_ok hl ih hd
    rw [gift_plain h5 h6 h7]; exact ih

def lateB (day : Int) (x : Gift) : Bool := !debtB x || decide (day ≤ IntKind.i64.wrap (x.answered + 365))
theorem notDue_spec {w : World} {g : Nat} {day : Int} (hg : w.heap[g]? = some (.cells #[.int .i64 day] 3 (0, 0))) (x : Gift) :
    CallsV C.P 106 (#[] ++ [x.val].toArray ++ #[.pointer (some ⟨g, 0, none⟩)]) w fun v w' => v = .bool (lateB day x) ∧ Ext w w' := by
  refine callsV_of C_ok (args := [_, _]) (plans := []) Tryz.func106 rfl Tryz.ntmps106 (by kernel_rfl) (Nat.le_of_ble_eq_true rfl) ?_
  intro g2 w1 h1
  have M1 : Mem w w1 [(g2, .cells x.cells.toArray 37 (0, 0))] := (Mem.start w).alloc h1
  refine ⟨x.cells, rfl, M1.rd 0 rfl, ?_⟩
  refine (debt_spec x w1).mono ?_
  rintro v w2 ⟨rfl, e2⟩
  have M2 := M1.grow e2
  refine brE_mk (fun c1 => ?_) (fun c1 => ?_)
  · exact ⟨congrArg _ (by unfold lateB; rw [c1]; rfl), M2.ext⟩
  refine ⟨.int .i64 day, cell_of_block (M2.ext.heap hg) rfl, ?_⟩
  refine ⟨_, M2.cell 0 rfl rfl, ?_⟩
  refine ⟨_, rfl, ?_⟩
  exact ⟨congrArg _ (by unfold lateB; rw [c1]; rfl), M2.ext⟩

theorem Overdue_spec {w : World} {l : LV} {es : List Entry} (h : LedgerIs w l es) (hl : es.length ≤ 2 ^ 16) (day : Int) :
    CallsV C.P 57 #[l.ptr, .int .i64 day] w fun v w' => NewL Gift.cells 37 10 w.heap.size w' v (overdueAt es day) ∧ Ext w w' := by
  have hwl := giftL_length (asOfL es day)
  have hal := asOfL_length es day
  refine callsV_of C_ok (args := [_, _]) (plans := []) Tryz.func57 rfl Tryz.ntmps57 (by kernel_rfl) (Nat.le_of_ble_eq_true rfl) ?_
  intro g3 w1 h1
  have M1 : Mem w w1 [(g3, .cells #[.int .i64 day] 3 (0, 0))] := (Mem.start w).alloc h1
  refine ⟨_, M1.cell 0 rfl rfl, ?_⟩
  refine (asOf_spec (h.ext M1.ext) hl day).mono ?_
  rintro v w2 ⟨s, rfl, hs⟩
  refine ⟨s.vG, cell_of_block (i := 4) hs.is.block rfl, ?_⟩
  refine ⟨[], [.pointer (some ⟨g3, 0, none⟩)], rfl, rfl, ?_⟩
  have hg3 := lt_of_heap (M1.get 0 rfl)
  refine (DeleteFuncG_spec hs.gifts hs.ext.size (by omega) rfl (p := lateB day) fun x w' hb => notDue_spec (below_heap hb hg3 (hs.ext.heap (M1.get 0 rfl))) x).mono ?_
  rintro v w3 ⟨h3, b3⟩
  have e : ((giftL (asOfL es day)).filter fun x => !lateB day x) = overdueAt es day := by
    unfold overdueAt
    refine List.filter_congr fun x hx => ?_
    have := answered_ok (acc_asOf h.acc day) x hx
    unfold lateB
    rw [fit (show In64 (x.answered + 365) from ⟨by omega, by omega⟩), Bool.not_or, Bool.not_not]
    congr 1
    by_cases h : day ≤ x.answered + 365
    · rw [decide_eq_true h, decide_eq_false (by omega)]; rfl
    · rw [decide_eq_false h, decide_eq_true (by omega)]; rfl
  rw [e] at h3
  exact ⟨h3.base M1.ext.size, ext_below (M1.ext.trans hs.ext) b3 M1.ext.size⟩

/-! ### covered -/
theorem coverOf_spec {w : World} {g5 g6 : Nat} {u o : Guest} (h5 : w.heap[g5]? = some (.cells u.cells.toArray 70 (0, 0))) (h6 : w.heap[g6]? = some (.cells o.cells.toArray 70 (0, 0))) (x : Waiv) :
    CallsV C.P 90 (#[] ++ [x.val].toArray ++ #[.pointer (some ⟨g5, 0, none⟩), .pointer (some ⟨g6, 0, none⟩)]) w fun v w' => v = .bool (coversB x u o) ∧ Ext w w' := by
  refine callsV_of C_ok (args := [_, _, _]) (plans := []) Tryz.func90 rfl Tryz.ntmps90 (by kernel_rfl) (Nat.le_of_ble_eq_true rfl) ?_
  intro g2 w1 h1
  have M1 : Mem w w1 [(g2, .cells x.cells.toArray 35 (0, 0))] := (Mem.start w).alloc h1
  refine ⟨x.cells, rfl, M1.rd 0 rfl, ?_⟩
  refine ⟨u.cells, rfl, Rd.of_block (M1.ext.heap h5), ?_⟩
  refine ⟨o.cells, rfl, Rd.of_block (M1.ext.heap h6), ?_⟩
  exact (covers_spec x u o w1).mono fun v w' hv => ⟨hv.1, M1.ext.trans hv.2⟩

theorem waiversAt_length (es : List Entry) (day : Int) : (waiversAt es day).length ≤ es.length :=
  Nat.le_trans (List.length_filter_le _ _) (Nat.le_trans (waivL_length _) (asOfL_length es day))

theorem Covers_spec {w : World} {l : LV} {es : List Entry} (h : LedgerIs w l es) (hl : es.length ≤ 2 ^ 16) (u o : Guest) (day : Int) :
    CallsV C.P 35 #[l.ptr, u.val, o.val, .int .i64 day] w fun v w' => v = .bool (coversAt es u o day) ∧ Ext w w' := by
  have hwl := waiversAt_length es day
  refine callsV_of C_ok (args := [_, _, _, _]) (plans := []) Tryz.func35 rfl Tryz.ntmps35 (by kernel_rfl) (Nat.le_of_ble_eq_true rfl) ?_
  intro g5 w1 h1
  have M1 := (Mem.start w).alloc h1
  intro g6 w2 h2
  have M2 : Mem w w2 [(g6, .cells o.cells.toArray 70 (0, 0)), (g5, .cells u.cells.toArray 70 (0, 0))] := M1.alloc h2
  refine (Waivers_spec (h.ext M2.ext) hl day).mono ?_
  rintro v w3 ⟨h3, e3⟩
  obtain ⟨A, c, rfl, hr⟩ := h3.hl
  refine ⟨[], [.pointer (some ⟨g5, 0, none⟩), .pointer (some ⟨g6, 0, none⟩)], rfl, rfl, ?_⟩
  refine (ContainsFuncW_spec hr.reads (by omega) rfl (p := fun x => coversB x u o) fun x w' e => coverOf_spec ((e3.trans e).heap (M2.get 1 rfl)) ((e3.trans e).heap (M2.get 0 rfl)) x).mono ?_
  rintro v w4 ⟨rfl, e4⟩
  exact ⟨rfl, M2.ext.trans (e3.trans e4)⟩

end Go.Proofs.YtcnbpfecgokhiaaGreatDoor
