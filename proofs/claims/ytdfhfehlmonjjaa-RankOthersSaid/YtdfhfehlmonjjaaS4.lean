/- The law RankOthers. -/
import Derived.Test.YtdfhfehlmonjjaaS3
namespace Go.Proofs.Ytdfhfehlmonjjaa
open Go.Eng Go.RowKit

theorem RankOthers_spec {N M : Int} {A B P K : Option Addr} {xs ys : List Arrow} {c d pc kc : Nat} {ps : List (Int × Int)} {keep : List Int} {w : World} (h : HRel w N A xs c) (k : HRel w M B ys d) (hr : Reads w P (prCells ps)) (hp : ∀ p ∈ ps, In64 p.1 ∧ In64 p.2) (hk : Reads w K (ints keep)) :
    CallsV C.P 12 #[relVal N A xs.length c, relVal M B ys.length d, .slice P ps.length pc, .slice K keep.length kc] w fun v w' => v = .bool true ∧ Ext w w' := by
  refine callsV_of C_ok (args := [_, _, _, _]) (plans := []) Try.func12 rfl Try.ntmps12 (by kernel_rfl) (Nat.le_of_ble_eq_true rfl) ?_
  intro g4 w1 h1
  intro g5 w2 h2
  have M2 : Mem w w2 [(g5, .cells #[.int .i64 M, .slice B ys.length d] 24 (0, 0)), (g4, .cells #[.int .i64 N, .slice A xs.length c] 24 (0, 0))] := ((Mem.start w).alloc h1).alloc h2
  have stop : ∀ {w' : World}, Ext w w' → CallsV C.P 16 #[] w' fun v w'' => v = .bool true ∧ Ext w w'' := fun e => (stands_spec _).mono fun v w'' hh => ⟨hh.1, e.trans hh.2⟩
  refine ⟨[.int .i64 N, .slice A xs.length c], rfl, M2.rd 1 rfl, ?_⟩
  refine (huge_spec w2).mono ?_
  rintro v w3 ⟨rfl, e3⟩
  have M3 := M2.grow e3
  refine brE_dec (fun _ => ?_) (fun h6 => ?_)
  · exact stop M3.ext
  have hx6 : xs.length ≤ 600 := by have : ¬ (xs.length : Int) > 600 := h6; omega
  refine ⟨[.int .i64 M, .slice B ys.length d], rfl, M3.rd 0 rfl, ?_⟩
  refine (huge_spec w3).mono ?_
  rintro v w4 ⟨rfl, e4⟩
  have M4 := M3.grow e4
  refine brE_dec (fun _ => ?_) (fun h6 => ?_)
  · exact stop M4.ext
  refine brE_dec (fun _ => ?_) (fun h6 => ?_)
  · exact stop M4.ext
  have hp6 : ps.length ≤ 60 := by have : ¬ (ps.length : Int) > 60 := h6; omega
  refine brE_dec (fun _ => ?_) (fun h6 => ?_)
  · exact stop M4.ext
  have hk6 : keep.length ≤ 60 := by have : ¬ (keep.length : Int) > 60 := h6; omega
  refine ⟨[.int .i64 N, .slice A xs.length c], rfl, M4.rd 1 rfl, ?_⟩
  refine (Waive_spec (h.ext M4.ext) (by omega) hp (hr.ext M4.ext) (by omega)).mono ?_
  rintro v w5 ⟨⟨u, hv5, A5, c5, rfl, ho5⟩, e5⟩
  subst hv5
  generalize hN1 : (if chk N xs = 0 then N else 0) = N1 at *
  generalize hL1 : (if chk N xs = 0 then waiveL xs ps else []) = L1 at *
  obtain ⟨A5', c5', e, hr5, _⟩ := reads_of_owns ho5
  cases e
  have hl1 := ownsRow_len ho5
  have M5 := M4.grow e5
  intro g9 w6 h6
  have M6 := M5.alloc h6
  refine ⟨rfl, _, _, M6.get 0 rfl, Nat.le_of_ble_eq_true rfl, rfl, ?_⟩
  intro w7 h7
  have M7 : Mem w w7 [(g9, .cells #[.int .i64 N1, .slice A5 L1.length c5] 24 (0, 0)), (g5, .cells #[.int .i64 M, .slice B ys.length d] 24 (0, 0)), (g4, .cells #[.int .i64 N, .slice A xs.length c] 24 (0, 0))] := M6.put 0 rfl h7
  have e57 : Ext w5 w7 := h7.ext_of h6.ext (by rw [h6.new]; exact Nat.le_refl _)
  refine ⟨[.int .i64 N, .slice A xs.length c], rfl, M7.rd 2 rfl, ?_⟩
  refine (refWaive_spec (h.ext M7.ext) (by omega) (hr.ext M7.ext) (by omega)).mono ?_
  rw [hN1, hL1]
  rintro v w8 ⟨⟨u, hv8, A8, c8, rfl, ho8⟩, e8⟩
  subst hv8
  obtain ⟨A8', c8', e, hr8, _⟩ := reads_of_owns ho8
  cases e
  have M8 := M7.grow e8
  intro g11 w9 h9
  have M9 := M8.alloc h9
  refine ⟨rfl, _, _, M9.get 0 rfl, Nat.le_of_ble_eq_true rfl, rfl, ?_⟩
  intro w10 h10
  have M10 : Mem w w10 [(g11, .cells #[.int .i64 N1, .slice A8 L1.length c8] 24 (0, 0)), (g9, .cells #[.int .i64 N1, .slice A5 L1.length c5] 24 (0, 0)), (g5, .cells #[.int .i64 M, .slice B ys.length d] 24 (0, 0)), (g4, .cells #[.int .i64 N, .slice A xs.length c] 24 (0, 0))] := M9.put 0 rfl h10
  have e810 : Ext w8 w10 := h10.ext_of h9.ext (by rw [h9.new]; exact Nat.le_refl _)
  refine ⟨[.int .i64 N, .slice A xs.length c], rfl, M10.rd 3 rfl, ?_⟩
  refine (Restrict_spec (h.ext M10.ext) (by omega) (hk.ext M10.ext) hk6).mono ?_
  rintro v w11 ⟨⟨u, hv11, A11, c11, rfl, ho11⟩, e11⟩
  subst hv11
  generalize hN2 : (if restrictE N xs keep = 0 then (keep.length : Int) else 0) = N2 at *
  generalize hL2 : (if restrictE N xs keep = 0 then restrictL N xs keep else []) = L2 at *
  obtain ⟨A11', c11', e, hr11, _⟩ := reads_of_owns ho11
  cases e
  have hl2 := ownsRow_len ho11
  have M11 := M10.grow e11
  intro g13 w12 h12
  have M12 := M11.alloc h12
  refine ⟨rfl, _, _, M12.get 0 rfl, Nat.le_of_ble_eq_true rfl, rfl, ?_⟩
  intro w13 h13
  have M13 : Mem w w13 [(g13, .cells #[.int .i64 N2, .slice A11 L2.length c11] 24 (0, 0)), (g11, .cells #[.int .i64 N1, .slice A8 L1.length c8] 24 (0, 0)), (g9, .cells #[.int .i64 N1, .slice A5 L1.length c5] 24 (0, 0)), (g5, .cells #[.int .i64 M, .slice B ys.length d] 24 (0, 0)), (g4, .cells #[.int .i64 N, .slice A xs.length c] 24 (0, 0))] := M12.put 0 rfl h13
  have e1113 : Ext w11 w13 := h13.ext_of h12.ext (by rw [h12.new]; exact Nat.le_refl _)
  refine ⟨[.int .i64 N, .slice A xs.length c], rfl, M13.rd 4 rfl, ?_⟩
  refine (refRestrict_spec (h.ext M13.ext) (hk.ext M13.ext) hk6).mono ?_
  rw [hN2, hL2]
  rintro v w14 ⟨⟨u, hv14, A14, c14, rfl, ho14⟩, e14⟩
  subst hv14
  obtain ⟨A14', c14', e, hr14, _⟩ := reads_of_owns ho14
  cases e
  have M14 := M13.grow e14
  intro g15 w15 h15
  have M15 := M14.alloc h15
  refine ⟨rfl, _, _, M15.get 0 rfl, Nat.le_of_ble_eq_true rfl, rfl, ?_⟩
  intro w16 h16
  have M16 : Mem w w16 [(g15, .cells #[.int .i64 N2, .slice A14 L2.length c14] 24 (0, 0)), (g13, .cells #[.int .i64 N2, .slice A11 L2.length c11] 24 (0, 0)), (g11, .cells #[.int .i64 N1, .slice A8 L1.length c8] 24 (0, 0)), (g9, .cells #[.int .i64 N1, .slice A5 L1.length c5] 24 (0, 0)), (g5, .cells #[.int .i64 M, .slice B ys.length d] 24 (0, 0)), (g4, .cells #[.int .i64 N, .slice A xs.length c] 24 (0, 0))] := M15.put 0 rfl h16
  have e1416 : Ext w14 w16 := h16.ext_of h15.ext (by rw [h15.new]; exact Nat.le_refl _)
  refine ⟨[.int .i64 N, .slice A xs.length c], rfl, M16.rd 5 rfl, ?_⟩
  refine ⟨[.int .i64 M, .slice B ys.length d], rfl, M16.rd 4 rfl, ?_⟩
  refine (Changed_spec (h.ext M16.ext) (k.ext M16.ext)).mono ?_
  rintro v w17 ⟨⟨u17, rfl, ho17⟩, e17⟩
  generalize hL3 : changedL N xs M ys = L3 at *
  obtain ⟨A17, c17, rfl, hr17, _⟩ := reads_of_owns ho17
  have hl3 := ownsRow_len ho17
  have M17 := M16.grow e17
  refine ⟨[.int .i64 N, .slice A xs.length c], rfl, M17.rd 5 rfl, ?_⟩
  refine ⟨[.int .i64 M, .slice B ys.length d], rfl, M17.rd 4 rfl, ?_⟩
  refine (refChanged_spec (h.ext M17.ext) (k.ext M17.ext)).mono ?_
  rw [hL3]
  rintro v w18 ⟨⟨u18, rfl, ho18⟩, e18⟩
  obtain ⟨A18, c18, rfl, hr18, _⟩ := reads_of_owns ho18
  have M18 := M17.grow e18
  refine (stands_spec w18).mono ?_
  rintro v w19 ⟨rfl, e19⟩
  have M19 := M18.grow e19
  refine brE_true (by simp) ?_
  refine brE_true (by simp) ?_
  refine brE_true (by simp) ?_
  have e1619 : Ext w16 w19 := (e17.trans e18).trans e19
  have e1019 : Ext w10 w19 := ((e11.trans e1113).trans (e14.trans e1416)).trans e1619
  refine ⟨[.int .i64 N1, .slice A5 L1.length c5], rfl, M19.rd 3 rfl, ?_⟩
  refine ⟨[.int .i64 N1, .slice A8 L1.length c8], rfl, M19.rd 2 rfl, ?_⟩
  refine (Same_spec (hr5.ext (((e57.trans e8).trans e810).trans e1019)) (hr8.ext (e810.trans e1019)) (by omega)).mono ?_
  rintro v w20 ⟨rfl, e20⟩
  have M20 := M19.grow e20
  refine ⟨[.int .i64 N2, .slice A11 L2.length c11], rfl, M20.rd 1 rfl, ?_⟩
  refine ⟨[.int .i64 N2, .slice A14 L2.length c14], rfl, M20.rd 0 rfl, ?_⟩
  refine (Same_spec (hr11.ext ((((e1113.trans e14).trans e1416).trans e1619).trans e20)) (hr14.ext ((e1416.trans e1619).trans e20)) (by omega)).mono ?_
  rintro v w21 ⟨rfl, e21⟩
  have M21 := M20.grow e21
  refine (SamePairs_spec (hr17.ext (((e18.trans e19).trans e20).trans e21)) (hr18.ext ((e19.trans e20).trans e21)) (by omega)).mono ?_
  rintro v w22 ⟨rfl, e22⟩
  exact ⟨rfl, M21.ext.trans e22⟩

end Go.Proofs.Ytdfhfehlmonjjaa
