/- Dues: why an entry cannot be done. -/
import Derived.Test.YtcnbpfecgokhiaaGreatDoorDWg
import Derived.Test.YtcnbpfecgokhiaaGreatDoorDBe
import Derived.Test.YtcnbpfecgokhiaaGreatDoorDCd
set_option linter.unusedVariables false
set_option linter.unusedSimpArgs false
set_option linter.unnecessarySimpa false
set_option linter.unusedSectionVars false
namespace Go.Proofs.YtcnbpfecgokhiaaGreatDoor
open Go.Eng Go.RowKit
open Go.Maps (Keyed)

theorem signs_spec {w : World} {A : Option Addr} {f : List Fact} {c : Nat} (hf : HF w A f c) (hl : f.length ≤ 2 ^ 20) (x : Waiv) :
    CallsV C.P 93 #[.slice A f.length c, x.val] w fun v w' => v = .bool (decide (leastL (atL x.day x.day f) x.signer x.giver ≤ 2)) ∧ Ext w w' := by
  refine callsV_of C_ok (args := [_, _]) (plans := []) Tryz.func93 rfl Tryz.ntmps93 (by kernel_rfl) (Nat.le_of_ble_eq_true rfl) ?_
  intro g1 w1 h1
  have M1 : Mem w w1 [(g1, .cells x.cells.toArray 35 (0, 0))] := (Mem.start w).alloc h1
  refine ⟨_, M1.cell 0 rfl rfl, ?_⟩
  refine ⟨_, M1.cell 0 rfl rfl, ?_⟩
  refine ⟨_, M1.cell 0 rfl rfl, ?_⟩
  refine ⟨_, M1.cell 0 rfl rfl, ?_⟩
  refine (HoldsClass_spec (hf.ext M1.ext) hl _ _ _ _).mono ?_
  rintro v w2 ⟨rfl, e2⟩
  exact ⟨rfl, M1.ext.trans e2⟩

set_option maxRecDepth 100000 in
theorem granted_spec {w : World} {s : SV} {es : List Entry} (h : StateIs w s es) (hA : Acc es) {x : Waiv} (hx : x.Nums) {A : Option Addr} {f : List Fact} {c : Nat} (hf : HF w A f c) (hl : f.length ≤ 2 ^ 20) :
    CallsV C.P 152 #[.pointer (some ⟨s.gs, 0, none⟩), .slice A f.length c, x.val] w fun v w' => v = .int .i64 (grantedE (sgF f x) es x) ∧ Ext w w' := by
  obtain ⟨Aw, cw, hvw, _, _⟩ := reads_of_owns h.waivs
  have hwl := (acc_ok hA).wlen
  refine callsV_of C_ok (args := [_, _, _]) (plans := plans152) Tryz.func152 rfl Tryz.ntmps152 (by kernel_rfl) (Nat.le_of_ble_eq_true rfl) ?_
  intro g1 w1 h1
  have M1 : Mem w w1 [(g1, .cells x.cells.toArray 35 (0, 0))] := (Mem.start w).alloc h1
  have hs := h.ext M1.ext
  have hvc : w1.cell? ⟨s.gs, 2, none⟩ = some (.slice Aw (waivL es).length cw) := cell_of_block hs.block (by show some s.vW = _; rw [hvw])
  refine ⟨_, hvc, ?_⟩
  refine brE_dec (fun b1 => ?_) (fun b1 => ?_)
  · have b1 : (500 : Int) ≤ ((waivL es).length : Nat) := b1
    exact ⟨congrArg _ (by unfold grantedE; rw [if_pos (by omega)]), M1.ext⟩
  have b1 : ¬ (500 : Int) ≤ ((waivL es).length : Nat) := b1
  refine ⟨_, M1.cell 0 rfl rfl, ?_⟩
  refine ⟨_, hvc, ?_⟩
  refine ⟨(((waivL es).length + 1 : Nat) : Int), fit ⟨by omega, by omega⟩, ?_⟩
  refine brE_ndec (fun b2 => ?_) (fun b2 => ?_)
  · have b2 : ¬ x.id = (((waivL es).length + 1 : Nat) : Int) := b2
    exact ⟨congrArg _ (by unfold grantedE; rw [if_neg (by omega), if_pos (by omega)]), M1.ext⟩
  have b2 : x.id = (((waivL es).length + 1 : Nat) : Int) := b2
  refine (Check_spec (hf.ext M1.ext) hl).mono ?_
  rintro v w2 ⟨rfl, e2⟩
  have M2 := M1.grow e2
  refine brE_ndec (fun b3 => ?_) (fun b3 => ?_)
  · have b3 : ¬ (chkF f).2 = 0 := b3
    exact ⟨congrArg _ (by unfold grantedE sgF; rw [if_neg (by omega), if_neg (by omega), if_pos b3, if_pos b3]), M2.ext⟩
  have b3 : (chkF f).2 = 0 := b3
  refine ⟨x.cells, rfl, M2.rd 0 rfl, ?_⟩
  refine (signs_spec (hf.ext M2.ext) hl x).mono ?_
  rintro v w3 ⟨rfl, e3⟩
  have M3 := M2.grow e3
  have hs3 := h.ext M3.ext
  refine brE_mk (fun b4 => ?_) (fun b4 => ?_)
  · have b4 : ¬ leastL (atL x.day x.day f) x.signer x.giver ≤ 2 := by simpa using b4
    have hsg : sgF f x = 60 := by unfold sgF; rw [if_neg (fun h => h b3), if_neg b4]
    exact ⟨congrArg _ (by unfold grantedE; rw [if_neg (by omega), if_neg (by omega), hsg, if_pos (by decide)]), M3.ext⟩
  have b4 : leastL (atL x.day x.day f) x.signer x.giver ≤ 2 := by simpa using b4
  have hg : grantedE (sgF f x) es x = if owesB (dueL es) x.giver x.taker = true then 61 else 0 := by
    have hsg : sgF f x = 0 := by unfold sgF; rw [if_neg (fun h => h b3), if_pos b4]
    unfold grantedE
    rw [if_neg (by omega), if_neg (by omega), hsg, if_neg (by decide)]
  refine ⟨_, cell_of_block (i := 3) hs3.block rfl, ?_⟩
  refine ⟨_, M3.cell 0 rfl rfl, ?_⟩
  refine ⟨_, M3.cell 0 rfl rfl, ?_⟩
  by_cases ho : owesB (dueL es) x.giver x.taker = true
  · obtain ⟨d, hd1, hd2⟩ := owes_iff.1 ho
    refine ⟨.tuple #[.int .i64 d.waiver, .bool true], mapLGet C_ok (te := ty3) (x := sidesV x.giver x.taker) (sidesKey hx.giver hx.taker) hs3.dues sidesK rfl rfl rfl rfl rfl rfl (.inl ⟨rfl, dueP_mem.2 ⟨d, hd1, hd2.1, hd2.2, rfl⟩⟩), ?_⟩
    exact ⟨congrArg _ (by rw [hg, if_pos ho]), M3.ext⟩
  · have hno : ∀ u, (sidesV x.giver x.taker, u) ∉ (dueL es).map dueP := fun u hu => by
      obtain ⟨d, hd1, hd2, hd3, _⟩ := dueP_mem.1 hu
      exact ho (owes_iff.2 ⟨d, hd1, hd2, hd3⟩)
    refine ⟨.tuple #[.int .i64 0, .bool false], mapLGet C_ok (te := ty3) (x := sidesV x.giver x.taker) (sidesKey hx.giver hx.taker) hs3.dues sidesK rfl rfl rfl rfl rfl rfl (.inr ⟨rfl, rfl, hno⟩), ?_⟩
    exact ⟨congrArg _ (by rw [hg, if_neg ho]), M3.ext⟩

/-- The gifts, as they are read. -/
theorem StateIs.gift {w : World} {s : SV} {es : List Entry} (h : StateIs w s es) {k : Nat} (hk : k < (giftL es).length) : ∃ A c b o, s.vG = .slice A (giftL es).length c ∧ A = some ⟨b, o, none⟩ ∧ Rd w b (o + k * 10) (giftL es)[k].cells := by
  obtain ⟨A, c, hv, hr, _⟩ := reads_of_owns h.gifts
  obtain ⟨b, o, hA, hrd⟩ := Reads.elem Gift.len (by omega) hr hk
  exact ⟨A, c, b, o, hv, hA, hrd⟩
theorem StateIs.waiv {w : World} {s : SV} {es : List Entry} (h : StateIs w s es) {k : Nat} (hk : k < (waivL es).length) : ∃ A c b o, s.vW = .slice A (waivL es).length c ∧ A = some ⟨b, o, none⟩ ∧ Rd w b (o + k * 9) (waivL es)[k].cells := by
  obtain ⟨A, c, hv, hr, _⟩ := reads_of_owns h.waivs
  obtain ⟨b, o, hA, hrd⟩ := Reads.elem Waiv.len (by omega) hr hk
  exact ⟨A, c, b, o, hv, hA, hrd⟩

set_option maxRecDepth 100000 in
theorem offered_spec {w : World} {s : SV} {es : List Entry} (h : StateIs w s es) (hA : Acc es) {x : Gift} (hx : x.Nums) (hn : 1 ≤ x.n ∧ x.n ≤ 1000000) (hret : 0 ≤ x.returns) :
    CallsV C.P 153 #[.pointer (some ⟨s.gs, 0, none⟩), x.val] w fun v w' => v = .int .i64 (offeredE es x) ∧ Ext w w' := by
  obtain ⟨Ag, cg, hvg, _, _⟩ := reads_of_owns h.gifts
  have hgl := (acc_ok hA).gifts.len
  have hrate := (acc_ok hA).rate x.cur
  have hceil := (acc_ok hA).ceil x.to
  have hcur := hx.cur
  refine callsV_of C_ok (args := [_, _]) (plans := plans153) Tryz.func153 rfl Tryz.ntmps153 (by kernel_rfl) (Nat.le_of_ble_eq_true rfl) ?_
  intro g1 w1 h1
  have M1 : Mem w w1 [(g1, .cells x.cells.toArray 37 (0, 0))] := (Mem.start w).alloc h1
  have hs := h.ext M1.ext
  have hvc : w1.cell? ⟨s.gs, 4, none⟩ = some (.slice Ag (giftL es).length cg) := cell_of_block hs.block (by show some s.vG = _; rw [hvg])
  obtain ⟨fr, mr, hfr⟩ := hs.rates
  refine ⟨_, hvc, ?_⟩
  refine brE_dec (fun b1 => ?_) (fun b1 => ?_)
  · have b1 : (500 : Int) ≤ ((giftL es).length : Nat) := b1
    exact ⟨congrArg _ (by unfold offeredE; rw [if_pos (by omega)]), M1.ext⟩
  have b1 : ¬ (500 : Int) ≤ ((giftL es).length : Nat) := b1
  refine ⟨_, M1.cell 0 rfl rfl, ?_⟩
  refine ⟨_, hvc, ?_⟩
  refine ⟨(((giftL es).length + 1 : Nat) : Int), fit ⟨by omega, by omega⟩, ?_⟩
  refine brE_ndec (fun b2 => ?_) (fun b2 => ?_)
  · have b2 : ¬ x.id = (((giftL es).length + 1 : Nat) : Int) := b2
    exact ⟨congrArg _ (by unfold offeredE; rw [if_neg (by omega), if_pos (by omega)]), M1.ext⟩
  have b2 : x.id = (((giftL es).length + 1 : Nat) : Int) := b2
  refine ⟨_, cell_of_block (i := 0) hs.block rfl, ?_⟩
  refine ⟨_, M1.cell 0 rfl rfl, ?_⟩
  refine ⟨x.cur, fit ⟨by omega, by omega⟩, ?_⟩
  refine ⟨.int .i64 (rateL es x.cur), mapGet1 C_ok (te := ty3) (x := .int .i64 x.cur) (intKey ⟨by omega, by omega⟩) mr intK rfl rfl rfl rfl rfl rfl (by rw [hfr]; exact numV_getD _), ?_⟩
  refine brE_dec (fun b3 => ?_) (fun b3 => ?_)
  · have b3 : rateL es x.cur = 0 := b3
    exact ⟨congrArg _ (by unfold offeredE; rw [if_neg (by omega), if_neg (by omega), if_pos b3]), M1.ext⟩
  have b3 : ¬ rateL es x.cur = 0 := b3
  refine ⟨_, M1.cell 0 rfl rfl, ?_⟩
  refine ⟨_, hvc, ?_⟩
  refine brE_dec (fun b4 => ?_) (fun b4 => ?_)
  · have b4 : x.returns > ((giftL es).length : Nat) := b4
    exact ⟨congrArg _ (by unfold offeredE; rw [if_neg (by omega), if_neg (by omega), if_neg b3, if_pos (by omega)]), M1.ext⟩
  have b4 : ¬ x.returns > ((giftL es).length : Nat) := b4
  have hof : offeredE es x = if x.returns > 0 ∧ (let r := atN (giftL es) x.returns; ¬ (r.frm = x.to ∧ r.to = x.frm ∧ r.returns = 0 ∧ r.state = 2)) then 8 else if ceilL es x.to > 0 ∧ x.n * rateL es x.cur > ceilL es x.to then 2 else 0 := by
    unfold offeredE
    rw [if_neg (by omega), if_neg (by omega), if_neg b3, if_neg b4]
  refine ⟨_, M1.cell 0 rfl rfl, ?_⟩
  refine brE_dec (fun b5 => ?yes) (fun b5 => ?no)
  case' yes =>
    have b5 : x.returns > 0 := b5
    obtain ⟨j, hj, hje⟩ := num_of (n := (giftL es).length) (i := x.returns) (by omega) (by omega)
    obtain ⟨A, c, b, o, hv, hA', hrd⟩ := hs.gift hj
    have hat : atN (giftL es) x.returns = (giftL es)[j] := by rw [hje]; exact atN_get hj
    rw [hat] at hof
    refine ⟨.slice A (giftL es).length c, cell_of_block (i := 4) hs.block (by show some s.vG = _; rw [hv]), ?_⟩
    refine ⟨_, M1.cell 0 rfl rfl, ?_⟩
    refine ⟨(j : Int), by show IntKind.i64.wrap (x.returns - 1) = _; rw [hje, fit ⟨by omega, by omega⟩]; omega, ?_⟩
    refine ⟨j, b, o, rfl, hj, hA', ?_⟩
    refine ⟨(giftL es)[j].cells, rfl, hrd, ?_⟩
    intro g5 w2 h2
    refine ⟨h2.ext, ?_⟩
    have M2 := M1.alloc h2
    refine ⟨rfl, _, _, M2.get 0 rfl, Nat.le_of_ble_eq_true rfl, rfl, ?_⟩
    intro w3 h3
    have M3 : Mem w w3 [(g5, .cells (giftL es)[j].cells.toArray 37 (0, 0)), (g1, .cells x.cells.toArray 37 (0, 0))] := M2.put 0 rfl h3
    refine ⟨_, M3.cell 0 rfl rfl, ?_⟩
    refine ⟨_, M3.cell 1 rfl rfl, ?_⟩
    refine brE_ndec (fun c1 => ?_) (fun c1 => ?_)
    · have c1 : ¬ (giftL es)[j].frm = x.to := c1
      exact ⟨congrArg _ (by rw [hof, if_pos ⟨b5, fun e => c1 e.1⟩]), M3.ext⟩
    have c1 : (giftL es)[j].frm = x.to := c1
    refine ⟨_, M3.cell 0 rfl rfl, ?_⟩
    refine ⟨_, M3.cell 1 rfl rfl, ?_⟩
    refine brE_ndec (fun c2 => ?_) (fun c2 => ?_)
    · have c2 : ¬ (giftL es)[j].to = x.frm := c2
      exact ⟨congrArg _ (by rw [hof, if_pos ⟨b5, fun e => c2 e.2.1⟩]), M3.ext⟩
    have c2 : (giftL es)[j].to = x.frm := c2
    refine ⟨_, M3.cell 0 rfl rfl, ?_⟩
    refine brE_ndec (fun c3 => ?_) (fun c3 => ?_)
    · have c3 : ¬ (giftL es)[j].returns = 0 := c3
      exact ⟨congrArg _ (by rw [hof, if_pos ⟨b5, fun e => c3 e.2.2.1⟩]), M3.ext⟩
    have c3 : (giftL es)[j].returns = 0 := c3
    refine ⟨_, M3.cell 0 rfl rfl, ?_⟩
    refine brE_ndec (fun c4 => ?_) (fun c4 => ?_)
    · have c4 : ¬ (giftL es)[j].state = 2 := c4
      exact ⟨congrArg _ (by rw [hof, if_pos ⟨b5, fun e => c4 e.2.2.2⟩]), M3.ext⟩
    have c4 : (giftL es)[j].state = 2 := c4
    rw [if_neg (fun e => e.2 ⟨c1, c2, c3, c4⟩)] at hof
    have ez := M3.ext
    have gz := M3.get 1 rfl
  case' no =>
    have b5 : ¬ x.returns > 0 := b5
    rw [if_neg (fun e => b5 e.1)] at hof
    have ez := M1.ext
    have gz := M1.get 0 rfl
  all_goals
    have hz := h.ext ez
    obtain ⟨fc, mc, hfc⟩ := hz.ceils
    refine ⟨_, cell_of_block (i := 1) hz.block rfl, ?_⟩
    refine ⟨_, cell_of_block gz rfl, ?_⟩
    refine ⟨.tuple #[.int .i64 (ceilL es x.to), .bool (!decide (ceilL es x.to = 0))], mapGet2 C_ok (te := ty3) (x := .int .i64 x.to) (intKey hx.to) mc intK rfl rfl rfl rfl rfl rfl (by rw [hfc]; exact numV_getD _) (by rw [hfc]; exact numV_some _), ?_⟩
    refine brE_ndec (fun d1 => ?_) (fun d1 => ?_)
    · have d1 : ¬ ceilL es x.to = 0 := d1
      refine ⟨x.cells, rfl, Rd.of_block gz, ?_⟩
      refine (worth_spec hz hrate hn hcur).mono ?_
      rintro v w4 ⟨rfl, e4⟩
      refine brE_dec (fun d2 => ?_) (fun d2 => ?_)
      · have d2 : x.n * rateL es x.cur > ceilL es x.to := d2
        exact ⟨congrArg _ (by rw [hof, if_pos ⟨by omega, d2⟩]), ez.trans e4⟩
      · have d2 : ¬ x.n * rateL es x.cur > ceilL es x.to := d2
        exact ⟨congrArg _ (by rw [hof, if_neg (fun e => d2 e.2)]), ez.trans e4⟩
    · have d1 : ceilL es x.to = 0 := d1
      exact ⟨congrArg _ (by rw [hof, if_neg (fun e => by omega)]), ez⟩

theorem end_id {x : Entry} (hf : formX x = true) (hk : x.kind = 4) : 1 ≤ x.w.id ∧ x.w.id ≤ 500 := by
  obtain ⟨hok, _, _⟩ := form_okE hf
  unfold okE at hok
  rw [if_neg (by omega), if_neg (by omega), if_neg (by omega), if_pos hk, decide_eq_true_eq] at hok
  exact hok
theorem ans_id {x : Entry} (hf : formX x = true) (hk : x.kind = 6 ∨ x.kind = 7) : 1 ≤ x.g.id ∧ x.g.id ≤ 500 := by
  obtain ⟨hok, _, _⟩ := form_okE hf
  unfold okE at hok
  rw [if_neg (by omega), if_neg (by omega), if_neg (by omega), if_neg (by omega), if_neg (by omega), if_pos hk, decide_eq_true_eq] at hok
  exact hok
theorem offer_nums {x : Entry} (hf : formX x = true) (hk : x.kind = 5) : (1 ≤ x.g.n ∧ x.g.n ≤ 1000000) ∧ 0 ≤ x.g.returns := by
  obtain ⟨hok, _, _⟩ := form_okE hf
  rw [okE_5 hk] at hok
  unfold rightG at hok
  simp only [Bool.and_eq_true, decide_eq_true_eq] at hok
  exact ⟨hok.1.2, hok.1.1.1.1.2.1⟩

set_option maxRecDepth 100000 in
theorem refused_spec {w : World} {s : SV} {es : List Entry} (h : StateIs w s es) (hA : Acc es) {x : Entry} (hx : x.Nums) (hform : formX x = true) {A : Option Addr} {f : List Fact} {c : Nat} (hf : HF w A f c) (hl : f.length ≤ 2 ^ 20) :
    CallsV C.P 123 #[.pointer (some ⟨s.gs, 0, none⟩), .slice A f.length c, x.val] w fun v w' => v = .int .i64 (refusedE (sgF f x.w) es x) ∧ Ext w w' := by
  have hkind := ok_kind (form_okE hform).1
  have hwl := (acc_ok hA).wlen
  have hgl := (acc_ok hA).gifts.len
  refine callsV_of C_ok (args := [_, _, _]) (plans := plans123) Tryz.func123 rfl Tryz.ntmps123 (by kernel_rfl) (Nat.le_of_ble_eq_true rfl) ?_
  intro g1 w1 h1
  have M1 : Mem w w1 [(g1, .cells x.cells.toArray 39 (0, 0))] := (Mem.start w).alloc h1
  have hs := h.ext M1.ext
  refine ⟨_, M1.cell 0 rfl rfl, ?_⟩
  refine brE_dec (fun k3 => ?_) (fun k3 => ?_)
  · have k3 : x.kind = 3 := k3
    refine ⟨x.w.cells, rfl, (M1.rd 0 rfl).part x.w_part, ?_⟩
    refine (granted_spec hs hA hx.w (hf.ext M1.ext) hl).mono ?_
    rintro v w2 ⟨rfl, e2⟩
    exact ⟨congrArg _ (by unfold refusedE; rw [if_pos k3]), M1.ext.trans e2⟩
  have k3 : ¬ x.kind = 3 := k3
  refine brE_dec (fun k4 => ?_) (fun k4 => ?_)
  · have k4 : x.kind = 4 := k4
    have hid := end_id hform k4
    have hr : refusedE (sgF f x.w) es x = if x.w.id > (waivL es).length then 5 else if (atN (waivL es) x.w.id).til ≤ x.day then 8 else 0 := by
      unfold refusedE; rw [if_neg k3, if_pos k4]
    obtain ⟨Aw, cw, hvw, _, _⟩ := reads_of_owns h.waivs
    refine ⟨_, M1.cell 0 rfl rfl, ?_⟩
    refine ⟨.slice Aw (waivL es).length cw, cell_of_block (i := 2) hs.block (by show some s.vW = _; rw [hvw]), ?_⟩
    refine brE_dec (fun b1 => ?_) (fun b1 => ?_)
    · have b1 : x.w.id > ((waivL es).length : Nat) := b1
      exact ⟨congrArg _ (by rw [hr, if_pos b1]), M1.ext⟩
    have b1 : ¬ x.w.id > ((waivL es).length : Nat) := b1
    obtain ⟨j, hj, hje⟩ := num_of (n := (waivL es).length) (i := x.w.id) (by omega) (by omega)
    obtain ⟨A', c', b, o, hv, hA', hrd⟩ := hs.waiv hj
    have hat : atN (waivL es) x.w.id = (waivL es)[j] := by rw [hje]; exact atN_get hj
    rw [hat, if_neg b1] at hr
    refine ⟨.slice A' (waivL es).length c', cell_of_block (i := 2) hs.block (by show some s.vW = _; rw [hv]), ?_⟩
    refine ⟨_, M1.cell 0 rfl rfl, ?_⟩
    refine ⟨(j : Int), by show IntKind.i64.wrap (x.w.id - 1) = _; rw [hje, fit ⟨by omega, by omega⟩]; omega, ?_⟩
    refine ⟨j, b, o, rfl, hj, hA', ?_⟩
    refine ⟨_, hrd 8 _ rfl, ?_⟩
    refine ⟨_, M1.cell 0 rfl rfl, ?_⟩
    refine brE_dec (fun b2 => ?_) (fun b2 => ?_)
    · have b2 : (waivL es)[j].til ≤ x.day := b2
      exact ⟨congrArg _ (by rw [hr, if_pos b2]), M1.ext⟩
    · have b2 : ¬ (waivL es)[j].til ≤ x.day := b2
      exact ⟨congrArg _ (by rw [hr, if_neg b2]), M1.ext⟩
  have k4 : ¬ x.kind = 4 := k4
  refine brE_dec (fun k5 => ?_) (fun k5 => ?_)
  · have k5 : x.kind = 5 := k5
    obtain ⟨hn, hret⟩ := offer_nums hform k5
    refine ⟨x.g.cells, rfl, (M1.rd 0 rfl).part x.g_part, ?_⟩
    refine (offered_spec hs hA hx.g hn hret).mono ?_
    rintro v w2 ⟨rfl, e2⟩
    exact ⟨congrArg _ (by unfold refusedE; rw [if_neg k3, if_neg k4, if_pos k5]), M1.ext.trans e2⟩
  have k5 : ¬ x.kind = 5 := k5
  have ans : x.kind = 6 ∨ x.kind = 7 → refusedE (sgF f x.w) es x = if x.g.id > (giftL es).length then 5 else if ¬ (atN (giftL es) x.g.id).state = 1 then 8 else 0 := fun k => by
    unfold refusedE; rw [if_neg k3, if_neg k4, if_neg k5, if_pos k]
  obtain ⟨Ag, cg, hvg, _, _⟩ := reads_of_owns h.gifts
  refine brE_dec (fun k6 => ?k6) (fun k6 => ?no)
  case' no =>
    have k6 : ¬ x.kind = 6 := k6
    refine brE_dec (fun k7 => ?k7) (fun k7 => ?k8)
  case k8 =>
    have k7 : ¬ x.kind = 7 := k7
    exact ⟨congrArg _ (by unfold refusedE; rw [if_neg k3, if_neg k4, if_neg k5, if_neg (by omega)]), M1.ext⟩
  case' k6 =>
    have kk : x.kind = 6 ∨ x.kind = 7 := .inl k6
    refine brE_true (decide_eq_true k6) ?_
  case' k7 => have kk : x.kind = 6 ∨ x.kind = 7 := .inr k7
  all_goals
    have hid := ans_id hform kk
    have hr := ans kk
    refine ⟨_, M1.cell 0 rfl rfl, ?_⟩
    refine ⟨.slice Ag (giftL es).length cg, cell_of_block (i := 4) hs.block (by show some s.vG = _; rw [hvg]), ?_⟩
    refine brE_dec (fun b1 => ?_) (fun b1 => ?_)
    · have b1 : x.g.id > ((giftL es).length : Nat) := b1
      exact ⟨congrArg _ (by rw [hr, if_pos b1]), M1.ext⟩
    have b1 : ¬ x.g.id > ((giftL es).length : Nat) := b1
    obtain ⟨j, hj, hje⟩ := num_of (n := (giftL es).length) (i := x.g.id) (by omega) (by omega)
    obtain ⟨A', c', b, o, hv, hA', hrd⟩ := hs.gift hj
    have hat : atN (giftL es) x.g.id = (giftL es)[j] := by rw [hje]; exact atN_get hj
    rw [hat, if_neg b1] at hr
    refine ⟨.slice A' (giftL es).length c', cell_of_block (i := 4) hs.block (by show some s.vG = _; rw [hv]), ?_⟩
    refine ⟨_, M1.cell 0 rfl rfl, ?_⟩
    refine ⟨(j : Int), by show IntKind.i64.wrap (x.g.id - 1) = _; rw [hje, fit ⟨by omega, by omega⟩]; omega, ?_⟩
    refine ⟨j, b, o, rfl, hj, hA', ?_⟩
    refine ⟨_, hrd 7 _ rfl, ?_⟩
    refine brE_ndec (fun b2 => ?_) (fun b2 => ?_)
    · have b2 : ¬ (giftL es)[j].state = 1 := b2
      exact ⟨congrArg _ (by rw [hr, if_pos b2]), M1.ext⟩
    · have b2 : (giftL es)[j].state = 1 := b2
      exact ⟨congrArg _ (by rw [hr, if_neg (fun e => e b2)]), M1.ext⟩

end Go.Proofs.YtcnbpfecgokhiaaGreatDoor
