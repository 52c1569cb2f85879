/- The laws of the dues: the chapter's examples. -/
import Derived.Test.YtcnbpfecgokhiaaGreatDoorDYb
import Derived.Test.YtcnbpfecgokhiaaGreatDoorDWm
import Derived.Test.YtcnbpfecgokhiaaGreatDoorDWn
import Derived.Test.YtcnbpfecgokhiaaGreatDoorDWo
set_option linter.unusedVariables false
set_option linter.unusedSimpArgs false
set_option linter.unnecessarySimpa false
set_option linter.unusedSectionVars false
namespace Go.Proofs.YtcnbpfecgokhiaaGreatDoor
open Go.Eng Go.RowKit

def offL : List Fact := [⟨1, 0, 1, 1, 0, 1, 0, 0, ⟨#[97, 118, 105, 97]⟩⟩, ⟨2, 0, 1, 2, 0, 1, 0, 0, ⟨#[98, 111, 114, 100, 117, 114, 105, 97]⟩⟩, ⟨3, 0, 2, 11, 1, 1, 0, 0, ⟨#[]⟩⟩, ⟨4, 0, 2, 21, 2, 1, 0, 0, ⟨#[]⟩⟩]
def gw1 : Waiv := ⟨0, 3, 11, 1, 2, 0, 0, 5, 9⟩
def gw2 : Waiv := ⟨0, 3, 21, 1, 2, 0, 0, 5, 9⟩
def gw3 : Waiv := ⟨0, 4, 21, 2, 1, 0, 11, 6, 7⟩
def gx1 : Entry := ⟨3, 3, { gw1 with id := 1 }, giftZ, 0, 0, 0⟩
def gx2 : Entry := ⟨3, 4, { gw3 with id := 2 }, giftZ, 0, 0, 0⟩
def gx3 : Entry := ⟨1, 8, waivZ, giftZ, 1, 0, 240⟩
def gx4 : Entry := ⟨5, 8, waivZ, ⟨1, 8, 1, 2, 1, 4, 0, 0, 0, 0⟩, 0, 0, 0⟩
def gx5 : Entry := ⟨6, 9, waivZ, { giftZ with id := 1 }, 0, 0, 0⟩
def gr1 : List Entry := [gx1]
def gr2 : List Entry := [gx1, gx2]
def gr3 : List Entry := [gx1, gx2, gx3]
def gr4 : List Entry := [gx1, gx2, gx3, gx4]
def gr5 : List Entry := [gx1, gx2, gx3, gx4, gx5]

theorem d1 : doF offL [] (grantE [] gw1) = 0 := by kernel_rfl
theorem d2 : doF offL gr1 (grantE gr1 gw2) = 60 := by kernel_rfl
theorem d3 : doF offL gr1 (grantE gr1 gw1) = 61 := by kernel_rfl
theorem d4 : doF offL gr1 (grantE gr1 gw3) = 0 := by kernel_rfl
theorem d5 : doF offL gr2 (rateE 8 1 240) = 0 := by kernel_rfl
theorem d6 : doF offL gr3 (offerE gr3 8 1 2 1 4 0) = 0 := by kernel_rfl
theorem d7 : doF offL gr4 (takeE 9 1) = 0 := by kernel_rfl
theorem q1 : duesAt gr1 3 = [⟨1, 2, 1⟩] := by kernel_rfl
theorem q1l : (dueL (asOfL gr1 3)).length = 1 := by kernel_rfl
theorem q2 : pairsAt gr1 [⟨11, 1⟩, ⟨21, 2⟩] 5 = [⟨0, 1⟩] := by kernel_rfl
theorem q3 : duesAt gr5 4 = [] := by kernel_rfl
theorem q3l : (dueL (asOfL gr5 4)).length = 0 := by kernel_rfl
theorem q4 : debtAt gr5 2 1 8 = 0 := by kernel_rfl
theorem q5 : debtAt gr5 2 1 9 = 960 := by kernel_rfl
theorem q6 : overdueAt gr5 374 = [] := by kernel_rfl
theorem q7 : (overdueAt gr5 375).length = 1 := by kernel_rfl
theorem q8 : formX gx1 = true := by kernel_rfl
theorem q9 : entryL gx1 = [51, 32, 103, 114, 97, 110, 116, 32, 49, 32, 49, 49, 32, 49, 32, 50, 32, 48, 32, 48, 32, 53, 32, 57] := by kernel_rfl

theorem in64_small {n : Int} (h : 0 ≤ n ∧ n ≤ 1000) : In64 n := ⟨by omega, by omega⟩
theorem gw1_nums : gw1.Nums := ⟨in64_small (by decide), in64_small (by decide), in64_small (by decide), in64_small (by decide), in64_small (by decide), in64_small (by decide), in64_small (by decide), in64_small (by decide), in64_small (by decide)⟩
theorem gw2_nums : gw2.Nums := ⟨in64_small (by decide), in64_small (by decide), in64_small (by decide), in64_small (by decide), in64_small (by decide), in64_small (by decide), in64_small (by decide), in64_small (by decide), in64_small (by decide)⟩
theorem gw3_nums : gw3.Nums := ⟨in64_small (by decide), in64_small (by decide), in64_small (by decide), in64_small (by decide), in64_small (by decide), in64_small (by decide), in64_small (by decide), in64_small (by decide), in64_small (by decide)⟩

/-- A list that lies apart from a ledger. -/
def ApartL (w : World) (l : LV) (A : Option Addr) : Prop := ∀ b o, A = some ⟨b, o, none⟩ → b < w.heap.size ∧ ¬ l.has b
theorem LdNew.goF {w0 w w' : World} {l : LV} {es es' : List Entry} {A : Option Addr} {f : List Fact} {c : Nat} (h : LdNew w0 w l es) (k : LdGo w l es' w') (hf : HF w A f c) (ha : ApartL w l A) :
    ∃ l', l'.gl = l.gl ∧ LdNew w0 w' l' es' ∧ HF w' A f c ∧ ApartL w' l' A := by
  obtain ⟨l1, hg1, hi1, hk1, hn1⟩ := k
  have hext : Ext w0 w' := ⟨hk1.os.trans h.ext.os, hk1.tape.trans h.ext.tape, hk1.output.trans h.ext.output, Nat.le_trans h.ext.size hk1.size, fun q hq => by
    rw [hk1.block q (fun h1 => by have := h.new q h1; omega) (Nat.lt_of_lt_of_le hq h.ext.size)]
    exact h.ext.block q hq⟩
  refine ⟨l1, hg1, ⟨hi1, fun q hq => ?_, hext⟩, ⟨hf.nums, ?_, hf.len, hf.cap⟩, fun b o hA => ⟨Nat.lt_of_lt_of_le (ha b o hA).1 hk1.size, fun hb => ?_⟩⟩
  · rcases hn1 q hq with h1 | h1
    · exact h.new q h1
    · exact Nat.le_trans h.ext.size h1
  · rcases hf.reads with hr | ⟨b, o, hA, hr⟩
    · exact .inl hr
    · exact .inr ⟨b, o, hA, hk1.rd (D := fun k => ¬ l.has k) (ha b o hA).2 hr⟩
  · rcases hn1 b hb with h1 | h1
    · exact (ha b o hA).2 h1
    · have := (ha b o hA).1; omega
theorem apart_ext {w w' : World} {l : LV} {A : Option Addr} (h : ApartL w l A) (e : Ext w w') : ApartL w' l A := fun b o hA => ⟨Nat.lt_of_lt_of_le (h b o hA).1 e.size, (h b o hA).2⟩

theorem offices_spec (w : World) : CallsV C.P 64 #[] w fun v w' => ∃ g, v = .slice (some ⟨g, 0, none⟩) offL.length 4 ∧ w.heap.size ≤ g ∧ g < w'.heap.size ∧ HF w' (some ⟨g, 0, none⟩) offL 4 ∧ Ext w w' := by
  refine callsV_of C_ok (args := []) (plans := []) Tryz.func64 rfl Tryz.ntmps64 (by kernel_rfl) (Nat.le_of_ble_eq_true rfl) ?_
  intro g w1 h1
  have h1 : Alloc w g (.cells (fcells offL).toArray 81 (0, 0)) w1 := h1
  refine ⟨g, rfl, by rw [h1.new]; exact Nat.le_refl _, lt_of_heap h1.here, ⟨?_, reads_block h1.here, by decide, by decide⟩, h1.ext⟩
  intro x hx
  simp [offL] at hx
  rcases hx with rfl | rfl | rfl | rfl <;> exact ⟨in64_small (by decide), in64_small (by decide), by decide, in64_small (by decide), in64_small (by decide), in64_small (by decide), in64_small (by decide), in64_small (by decide), by decide⟩

theorem G_grant {w : World} {l l0 : LV} {es es' : List Entry} {A : Option Addr} {c : Nat} {x : Waiv} {n0 e0 : Int} (h : LedgerIs w l es) (hg : l.gl = l0.gl) (hl : es.length ≤ 400) (hf : HF w A offL c) (hx : x.Nums) (he : doF offL es (grantE es x) = e0)
    (hn : (if e0 = 0 then (((waivL es).length + 1 : Nat) : Int) else 0) = n0) (hes : addL e0 es (grantE es x) = es') :
    CallsV C.P 33 #[l0.ptr, .slice A offL.length c, x.val] w fun v w' => ∃ n e : Int, v = .tuple #[.int .i64 n, .int .i64 e] ∧ n = n0 ∧ e = e0 ∧ LdGo w l es' w' := by
  have hp : l0.ptr = l.ptr := by unfold LV.ptr; rw [hg]
  rw [hp]
  refine (Grant_spec h hl hf (by decide) hx).mono ?_
  rintro v w' ⟨hv, hgo⟩
  rw [he, hes] at hgo
  exact ⟨_, _, hv, by rw [he]; exact hn, he, hgo⟩
theorem neqD_at (x y : Operand) (p q : Due) (v : Value) (hv : v = q.val) : EqIs C.P .neq 74 x y p.val v (!decide (p = q)) := by rw [hv]; exact neqD x y p q
theorem neqP_at (x y : Operand) (p q : IPair) (v : Value) (hv : v = q.val) : EqIs C.P .neq 67 x y p.val v (!decide (p = q)) := by rw [hv]; exact neqP x y p q
theorem ptr_eq {l l0 : LV} (hg : l.gl = l0.gl) : l.ptr = l0.ptr := by unfold LV.ptr; rw [hg]

set_option maxRecDepth 100000 in
set_option maxHeartbeats 4000000 in
theorem grants_spec (w : World) (T : TabP w) : CallsV C.P 16 #[] w fun v w' => v = .bool true ∧ Ext w w' := by
  refine callsV_of C_ok (args := []) (plans := []) Tryz.func16 rfl Tryz.ntmps16 (by kernel_rfl) (Nat.le_of_ble_eq_true rfl) ?_
  refine (New_spec w).mono ?_
  rintro v w1 ⟨l, rfl, n1⟩
  refine (offices_spec w1).mono ?_
  rintro v w2 ⟨g2, rfl, hg2, hg2', hf2, e2⟩
  have n2 := n1.then e2
  have a2 : ApartL w2 l (some ⟨g2, 0, none⟩) := fun b o hA => by
    cases hA
    exact ⟨hg2', fun hb => by have := n1.is.lt hb; omega⟩
  refine (G_grant n2.is rfl (by decide) hf2 gw1_nums d1 (n0 := 1) rfl (es' := gr1) rfl).mono ?_
  rintro v w3 ⟨rn1, re1, rfl, hrn1, hre1, go3⟩
  obtain ⟨l3, hl3, n3, hf3, a3⟩ := n2.goF go3 hf2 a2
  refine (G_grant n3.is hl3 (by decide) hf3 gw2_nums d2 (n0 := 0) rfl (es' := gr1) rfl).mono ?_
  rintro v w4 ⟨rn2, re2, rfl, hrn2, hre2, go4⟩
  obtain ⟨l4, hl4, n4, hf4, a4⟩ := n3.goF go4 hf3 a3
  have hl4 := hl4.trans hl3
  refine (G_grant n4.is hl4 (by decide) hf4 gw1_nums d3 (n0 := 0) rfl (es' := gr1) rfl).mono ?_
  rintro v w5 ⟨rn3, re3, rfl, hrn3, hre3, go5⟩
  obtain ⟨l5, hl5, n5, hf5, a5⟩ := n4.goF go5 hf4 a4
  have hl5 := hl5.trans hl4
  have D5 := Dues_small n5.is (by decide) 3 (by rw [q1l]; decide)
  rw [ptr_eq hl5] at D5
  have q1' := q1
  generalize duesAt gr1 3 = ds at D5 q1'
  refine D5.mono ?_
  rintro v w6 ⟨h6, e6⟩
  have n6 := n5.then e6
  have hf6 := hf5.ext e6
  have a6 := apart_ext a5 e6
  intro g7 w7 h7
  have n7 := n6.then h7.ext
  have hf7 := hf6.ext h7.ext
  have a7 := apart_ext a6 h7.ext
  have P7 := Pairs_spec n7.is (by decide) (A := some ⟨g7, 0, none⟩) (g := [⟨11, 1⟩, ⟨21, 2⟩]) (c := 2) ⟨reads_block h7.here, by decide, by decide⟩ 5
  rw [ptr_eq hl5] at P7
  have q2' := q2
  generalize pairsAt gr1 [⟨11, 1⟩, ⟨21, 2⟩] 5 = ps at P7 q2'
  refine P7.mono ?_
  rintro v w8 ⟨h8, e8⟩
  have n8 := n7.then e8
  have hf8 := hf7.ext e8
  have a8 := apart_ext a7 e8
  have hd6 := h6.ext (h7.ext.trans e8)
  have hdl : ds.length = 1 := by rw [q1']; rfl
  have hpl : ps.length = 1 := by rw [q2']; rfl
  obtain ⟨Ad, cd, rfl, hdr⟩ := hd6.hl
  obtain ⟨Ap, cp, rfl, hpr⟩ := h8.hl
  obtain ⟨bd, od, hAd, hrd⟩ := hdr.at Due.len (by omega) (i := 0) (by omega)
  obtain ⟨bp, op, hAp, hrp⟩ := hpr.at IPair.len (by omega) (i := 0) (by omega)
  have hd0 : ds[0] = ⟨1, 2, 1⟩ := by simp [q1']
  have hp0 : ps[0] = ⟨0, 1⟩ := by simp [q2']
  refine brE_ndec (fun h => absurd hrn1 h) (fun _ => ?_)
  refine brE_ndec (fun h => absurd hre1 h) (fun _ => ?_)
  refine brE_ndec (fun h => absurd hre2 h) (fun _ => ?_)
  refine brE_ndec (fun h => absurd hre3 h) (fun _ => ?_)
  refine brE_ndec (fun h => absurd (by show ((ds.length : Nat) : Int) = 1; rw [hdl]; rfl) h) (fun _ => ?_)
  refine ⟨0, bd, od, rfl, by show 0 < ds.length; omega, hAd, ?_⟩
  refine ⟨ds[0].cells, rfl, hrd, ?_⟩
  obtain ⟨qd, hqd⟩ : ∃ q : Due, q = ⟨1, 2, 1⟩ := ⟨_, rfl⟩
  rw [← hqd] at hd0
  refine ⟨_, neqD_at _ _ ds[0] qd _ (by rw [hqd]; rfl), ?_⟩
  refine brE_ndec (fun h => absurd hd0 h) (fun _ => ?_)
  refine brE_ndec (fun h => absurd (by show ((ps.length : Nat) : Int) = 1; rw [hpl]; rfl) h) (fun _ => ?_)
  refine ⟨0, bp, op, rfl, by show 0 < ps.length; omega, hAp, ?_⟩
  refine ⟨ps[0].cells, rfl, hrp, ?_⟩
  obtain ⟨qp, hqp⟩ : ∃ q : IPair, q = ⟨0, 1⟩ := ⟨_, rfl⟩
  rw [← hqp] at hp0
  refine ⟨_, neqP_at _ _ ps[0] qp _ (by rw [hqp]; rfl), ?_⟩
  refine brE_ndec (fun h => absurd hp0 h) (fun _ => ?_)
  refine (G_grant n8.is hl5 (by decide) hf8 gw3_nums d4 (n0 := 2) rfl (es' := gr2) rfl).mono ?_
  rintro v w9 ⟨rn4, re4, rfl, hrn4, hre4, go9⟩
  obtain ⟨l9, hl9, n9, hf9, a9⟩ := n8.goF go9 hf8 a8
  have hl9 := hl9.trans hl5
  have S9 := SetRate_spec n9.is (by decide) (day := 8) (c := 1) (n := 240) (in64_small (by decide)) (by decide) (in64_small (by decide)) offL
  rw [ptr_eq hl9, d5] at S9
  refine S9.mono ?_
  rintro v w10 ⟨hv, go10⟩
  obtain ⟨re5, hre5, rfl⟩ : ∃ e : Int, e = 0 ∧ v = .int .i64 e := ⟨0, rfl, hv⟩
  obtain ⟨l10, hl10, n10, hf10, a10⟩ := n9.goF (es' := gr3) go10 hf9 a9
  have hl10 := hl10.trans hl9
  have O10 := Offer_spec n10.is (by decide) (day := 8) (frm := 1) (to := 2) (cur := 1) (n := 4) (ret := 0) (in64_small (by decide)) (in64_small (by decide)) (in64_small (by decide)) (by decide) (in64_small (by decide)) (in64_small (by decide)) offL
  rw [ptr_eq hl10, d6] at O10
  refine O10.mono ?_
  rintro v w11 ⟨hv, go11⟩
  obtain ⟨rn6, re6, hrn6, hre6, rfl⟩ : ∃ n e : Int, n = 1 ∧ e = 0 ∧ v = .tuple #[.int .i64 n, .int .i64 e] := ⟨1, 0, rfl, rfl, hv⟩
  obtain ⟨l11, hl11, n11, hf11, a11⟩ := n10.goF (es' := gr4) go11 hf10 a10
  have hl11 := hl11.trans hl10
  have T11 := Take_spec n11.is (by decide) (day := 9) (i := 1) (in64_small (by decide)) (in64_small (by decide)) offL
  rw [ptr_eq hl11, d7] at T11
  refine T11.mono ?_
  rintro v w12 ⟨hv, go12⟩
  obtain ⟨re7, hre7, rfl⟩ : ∃ e : Int, e = 0 ∧ v = .int .i64 e := ⟨0, rfl, hv⟩
  obtain ⟨l12, hl12, n12, hf12, a12⟩ := n11.goF (es' := gr5) go12 hf11 a11
  have hl12 := hl12.trans hl11
  have E12 := Entries_spec n12.is (by decide)
  rw [ptr_eq hl12] at E12
  refine E12.mono ?_
  rintro v w13 ⟨h13, e13⟩
  have n13 := n12.then e13
  obtain ⟨A13, c13, rfl, hr13⟩ := h13.hl
  obtain ⟨b13, o13, hA13, hrd13⟩ := hr13.at Entry.len (by omega) (i := 0) (by decide)
  refine ⟨0, b13, o13, rfl, by decide, hA13, ?_⟩
  refine ⟨gx1.cells, rfl, hrd13, ?_⟩
  have hx1 : gx1.Nums := ⟨by decide, in64_small (by decide), { gw1_nums with id := in64_small (by decide) }, giftZ_nums, in64_0, in64_0, in64_0⟩
  refine (Write6_spec gx1 hx1 w13 (tabP_ext T n13.ext)).mono ?_
  rintro v w14 ⟨hv, e14⟩
  rw [if_pos q8, if_pos q8, q9] at hv
  obtain ⟨ss, re8, hss, hre8, rfl⟩ : ∃ (s : ByteArray) (e : Int), s = tx [51, 32, 103, 114, 97, 110, 116, 32, 49, 32, 49, 49, 32, 49, 32, 50, 32, 48, 32, 48, 32, 53, 32, 57] ∧ e = 0 ∧ v = .tuple #[.string s, .int .i64 e] := ⟨_, 0, rfl, rfl, hv⟩
  have n14 := n13.then e14
  refine brE_dec (fun _ => ?_) (fun h => absurd hrn4 h)
  refine brE_dec (fun _ => ?_) (fun h => absurd hre4 h)
  refine brE_dec (fun _ => ?_) (fun h => absurd hre5 h)
  refine brE_dec (fun _ => ?_) (fun h => absurd hrn6 h)
  refine brE_dec (fun _ => ?_) (fun h => absurd hre6 h)
  refine brE_dec (fun _ => ?_) (fun h => absurd hre7 h)
  refine brE_dec (fun _ => ?_) (fun h => absurd hre8 h)
  have D14 := Dues_small n14.is (by decide) 4 (by rw [q3l]; decide)
  rw [ptr_eq hl12] at D14
  have q3' := q3
  generalize duesAt gr5 4 = ds2 at D14 q3'
  refine D14.mono ?_
  rintro v w15 ⟨h15, e15⟩
  have n15 := n14.then e15
  have hdl2 : ds2.length = 0 := by rw [q3']; rfl
  obtain ⟨A15, c15, rfl, _⟩ := h15.hl
  refine brE_dec (fun _ => ?_) (fun h => absurd (by show ((ds2.length : Nat) : Int) = 0; rw [hdl2]; rfl) h)
  have B15 := Debt_spec n15.is (by decide) 2 1 8
  rw [ptr_eq hl12] at B15
  refine B15.mono ?_
  rintro v w16 ⟨hv, e16⟩
  obtain ⟨x16, hx16, rfl⟩ : ∃ e : Int, e = 0 ∧ v = .int .i64 e := ⟨_, q4, hv⟩
  have n16 := n15.then e16
  refine brE_dec (fun _ => ?_) (fun h => absurd hx16 h)
  have B16 := Debt_spec n16.is (by decide) 2 1 9
  rw [ptr_eq hl12] at B16
  refine B16.mono ?_
  rintro v w17 ⟨hv, e17⟩
  obtain ⟨x17, hx17, rfl⟩ : ∃ e : Int, e = 960 ∧ v = .int .i64 e := ⟨_, q5, hv⟩
  have n17 := n16.then e17
  refine brE_dec (fun _ => ?_) (fun h => absurd hx17 h)
  have V17 := Overdue_spec n17.is (by decide) 374
  rw [ptr_eq hl12] at V17
  refine V17.mono ?_
  rintro v w18 ⟨h18, e18⟩
  have n18 := n17.then e18
  have q6' : (overdueAt gr5 374).length = 0 := by rw [q6]; rfl
  generalize overdueAt gr5 374 = od1 at h18 q6'
  obtain ⟨A18, c18, rfl, _⟩ := h18.hl
  refine brE_dec (fun _ => ?_) (fun h => absurd (by show ((od1.length : Nat) : Int) = 0; rw [q6']; rfl) h)
  have V18 := Overdue_spec n18.is (by decide) 375
  rw [ptr_eq hl12] at V18
  refine V18.mono ?_
  rintro v w19 ⟨h19, e19⟩
  have n19 := n18.then e19
  have q7' := q7
  generalize overdueAt gr5 375 = od2 at h19 q7'
  obtain ⟨A19, c19, rfl, _⟩ := h19.hl
  refine brE_dec (fun _ => ?_) (fun h => absurd (by show ((od2.length : Nat) : Int) = 1; rw [q7']; rfl) h)
  refine ⟨_, eqStr _ _ ss _, ?_⟩
  exact ⟨congrArg _ (decide_eq_true hss), n19.ext⟩

end Go.Proofs.YtcnbpfecgokhiaaGreatDoor
