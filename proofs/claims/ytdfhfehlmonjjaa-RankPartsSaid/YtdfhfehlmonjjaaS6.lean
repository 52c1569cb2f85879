/- The law RankParts: the walk. -/
import Derived.Test.YtdfhfehlmonjjaaS5
namespace Go.Proofs.Ytdfhfehlmonjjaa
open Go.Eng Go.RowKit

theorem RankParts_spec {N : Int} {A K : Option Addr} {xs : List Arrow} {c kc : Nat} {keep : List Int} {w : World} (h : HRel w N A xs c) (hk : Reads w K (ints keep)) :
    CallsV C.P 13 #[relVal N A xs.length c, .slice K keep.length kc] w fun v w' => v = .bool true ∧ Ext w w' := by
  refine callsV_of C_ok (args := [_, _]) (plans := plans13) Try.func13 rfl Try.ntmps13 (by kernel_rfl) (Nat.le_of_ble_eq_true rfl) ?_
  intro g2 w1 h1
  have M1 := (Mem.start w).alloc h1
  have stop : ∀ {w' : World}, Ext w w' → CallsV C.P 16 #[] w' fun v w'' => v = .bool true ∧ Ext w w'' := fun e => (stands_spec _).mono fun v w'' hh => ⟨hh.1, e.trans hh.2⟩
  refine ⟨[.int .i64 N, .slice A xs.length c], rfl, M1.rd 0 rfl, ?_⟩
  refine (huge_spec w1).mono ?_
  rintro v w2 ⟨rfl, e2⟩
  have M2 := M1.grow e2
  refine brE_dec (fun _ => ?_) (fun h6 => ?_)
  · exact stop M2.ext
  have hx6 : xs.length ≤ 600 := by have : ¬ (xs.length : Int) > 600 := h6; omega
  refine brE_dec (fun _ => ?_) (fun h6 => ?_)
  · exact stop M2.ext
  have hk6 : keep.length ≤ 60 := by have : ¬ (keep.length : Int) > 60 := h6; omega
  refine ⟨[.int .i64 N, .slice A xs.length c], rfl, M2.rd 0 rfl, ?_⟩
  refine (Restrict_spec (h.ext M2.ext) (by omega) (hk.ext M2.ext) hk6).mono ?_
  rintro v w3 ⟨⟨u, hv3, A3, c3, rfl, ho3⟩, e3⟩
  subst hv3
  have M3 := M2.grow e3
  intro g5 w4 h4
  have M4 := M3.alloc h4
  refine ⟨rfl, _, _, M4.get 0 rfl, Nat.le_of_ble_eq_true rfl, rfl, ?_⟩
  intro w5 h5
  have e35 : Ext w3 w5 := h5.ext_of h4.ext (by rw [h4.new]; exact Nat.le_refl _)
  refine brE_mk (fun hb => ?_) (fun hb => ?_)
  · have he : restrictE N xs keep ≠ 0 := by simpa using hb
    rw [if_neg he, if_neg he] at h5
    have M5 : Mem w w5 [(g5, .cells #[.int .i64 0, .slice A3 0 c3] 24 (0, 0)), (g2, .cells #[.int .i64 N, .slice A xs.length c] 24 (0, 0))] := M4.put 0 rfl h5
    refine (stands_spec w5).mono ?_
    rintro v w6 ⟨rfl, e6⟩
    have M6 := M5.grow e6
    refine ⟨_, M6.cell 0 rfl rfl, ?_⟩
    refine ⟨_, M6.cell 0 rfl rfl, ?_⟩
    exact ⟨rfl, M6.ext⟩
  have he : restrictE N xs keep = 0 := by simpa using hb
  rw [if_pos he, if_pos he] at h5
  rw [if_pos he] at ho3
  have hv : chk N xs = 0 := by
    unfold restrictE at he
    by_cases hv : chk N xs = 0
    · exact hv
    · rw [if_neg hv] at he; exact absurd he hv
  have hk0 : keepErr N [] keep = 0 := by rw [restrictE, if_pos hv] at he; exact he
  have hok := valid_of_chk hv
  have hlo := hok.lo
  have hhi := hok.hi
  obtain ⟨hin, hn, _⟩ := keepErr_zero hk0
  have hK := keep_len hok hin hn
  have hRv := restrict_valid hok hin hn
  have harr := fun i j hi hj => arrow_restrict hok hin hn (i := i) (j := j) hi hj
  have hchn := fun i j hi hj l hh => chain_restrict hok hin (i := i) (j := j) hi hj (l := l) hh
  have hRl : (restrictL N xs keep).length ≤ 3600 := Nat.le_trans (listR_length N xs keep keep.length) (Nat.le_trans (Nat.mul_le_mul hk6 hk6) (by decide))
  generalize hR : restrictL N xs keep = R at *
  have M5 : Mem w w5 [(g5, .cells #[.int .i64 keep.length, .slice A3 R.length c3] 24 (0, 0)), (g2, .cells #[.int .i64 N, .slice A xs.length c] 24 (0, 0))] := M4.put 0 rfl h5
  obtain ⟨A3', c3', e, hr3, hc3⟩ := reads_of_owns ho3
  cases e
  have hl3 := ownsRow_len ho3
  have hpart : HRel w5 keep.length A3 R c3 := by
    have ho5 := ownsRow_ext ho3 e35
    refine ⟨⟨by omega, by omega⟩, fun x hx => ?_, hr3.ext e35, hc3, hl3⟩
    obtain ⟨k1, k2, k3, k4, k5, k6, k7, k8, k9⟩ := goodA_spec (hRv.goodAll x hx)
    exact ⟨⟨by omega, by omega⟩, ⟨by omega, by omega⟩, ⟨by omega, by omega⟩, ⟨by omega, by omega⟩⟩
  refine loopE C_ok (fun (i : Nat) => [(1, .slice K keep.length kc), (2, .pointer (some ⟨g2, 0, none⟩)), (5, .pointer (some ⟨g5, 0, none⟩)), (7, .int .i64 i)])
    (fun i w' => i ≤ keep.length ∧ Ext w5 w') (fun i => keep.length - i) 0
    ⟨rfl, rfl, rfl, rfl, trivial⟩ ⟨Nat.zero_le _, Ext.refl _⟩ ?_
  rintro i w6 ⟨hi, e56⟩
  have M6 := M5.grow e56
  refine ⟨_, M6.cell 0 rfl rfl, ?_⟩
  refine brE_dec (fun hlt => ?_) (fun hge => ?_)
  case' refine_2 =>
    refine (stands_spec w6).mono ?_
    rintro v w7 ⟨rfl, e7⟩
    have M7 := M6.grow e7
    refine ⟨_, M7.cell 0 rfl rfl, ?_⟩
    exact ⟨by simp, M7.ext⟩
  have hlti : i < keep.length := by have : (i : Int) < (keep.length : Nat) := hlt; omega
  refine loopE C_ok (fun (j : Nat) => [(1, .slice K keep.length kc), (2, .pointer (some ⟨g2, 0, none⟩)), (5, .pointer (some ⟨g5, 0, none⟩)), (7, .int .i64 i), (8, .int .i64 j)])
    (fun j w' => j ≤ keep.length ∧ Ext w5 w') (fun j => keep.length - j) 0
    ⟨rfl, rfl, rfl, rfl, rfl, trivial⟩ ⟨Nat.zero_le _, e56⟩ ?_
  rintro j w7 ⟨hj, e57⟩
  have M7 := M5.grow e57
  refine ⟨_, M7.cell 0 rfl rfl, ?_⟩
  refine brE_dec (fun hlt => ?_) (fun hge => ?_)
  case' refine_2 =>
    have : j = keep.length := by have : ¬ (j : Int) < (keep.length : Nat) := hge; omega
    subst this
    refine ⟨((i + 1 : Nat) : Int), fit ⟨by omega, by omega⟩, ?_⟩
    exact ⟨i + 1, ⟨rfl, rfl, rfl, rfl, trivial⟩, ⟨hlti, e57⟩, by omega⟩
  have hltj : j < keep.length := by have : (j : Int) < (keep.length : Nat) := hlt; omega
  refine ⟨[.int .i64 keep.length, .slice A3 R.length c3], rfl, M7.rd 0 rfl, ?_⟩
  refine (Arrow_spec (hpart.ext e57) (by omega) i j).mono ?_
  rintro v w8 ⟨rfl, e8⟩
  rw [harr i j hlti hltj]
  intro g9 w9 h9
  have M9 := (M7.grow e8).alloc h9
  refine ⟨rfl, _, _, M9.get 0 rfl, Nat.le_of_ble_eq_true rfl, rfl, ?_⟩
  intro w10 h10
  have e710 : Ext w7 w10 := h10.ext_of (e8.trans h9.ext) (by rw [h9.new]; exact e8.size)
  have e510 := e57.trans e710
  have M10 := M5.grow e510
  have hg9 : w10.heap[g9]? = some (.cells (((arrowS N xs keep[i] keep[j]).map fun x => (⟨(i : Int), (j : Int), x.rule, x.wt⟩ : Arrow)).getD arrowZ).cells.toArray 43 (0, 0)) := h10.here
  obtain ⟨b1, o1, hB1, hc1⟩ := Reads.int (hk.ext M10.ext) hlti
  obtain ⟨b2, o2, hB2, hc2⟩ := Reads.int (hk.ext M10.ext) hltj
  refine ⟨[.int .i64 N, .slice A xs.length c], rfl, M10.rd 1 rfl, ?_⟩
  refine ⟨i, b1, o1, rfl, hlti, hB1, ?_⟩
  refine ⟨_, by simpa using hc1, ?_⟩
  refine ⟨j, b2, o2, rfl, hltj, hB2, ?_⟩
  refine ⟨_, by simpa using hc2, ?_⟩
  refine ⟨?A, ?B⟩
  case' A =>
    refine (Arrow_spec (h.ext M10.ext) (by omega) keep[i] keep[j]).mono ?_
    rintro v11 w11 ⟨rfl, e11⟩
    refine ⟨e11, ?_⟩
    intro g11 w12 h12
    refine ⟨h12.ext, ?_⟩
    have e1012 : Ext w10 w12 := e11.trans h12.ext
    have hnew : w10.heap.size ≤ g11 := by rw [h12.new]; exact e11.size
    have hcell : w12.heap[g11]? = some (.cells ty43.zero.cells 43 (0, 0)) := h12.here
  case' B =>
    intro g11 w11 h11
    refine ⟨h11.ext, ?_⟩
    refine (Arrow_spec (h.ext (M10.ext.trans h11.ext)) (by omega) keep[i] keep[j]).mono ?_
    rintro v12 w12 ⟨rfl, e12⟩
    refine ⟨e12, ?_⟩
    have e1012 : Ext w10 w12 := h11.ext.trans e12
    have hnew : w10.heap.size ≤ g11 := by rw [h11.new]; exact Nat.le_refl _
    have hcell : w12.heap[g11]? = some (.cells ty43.zero.cells 43 (0, 0)) := e12.heap h11.here
  all_goals
    clear hc1 hc2
    generalize arrowS N xs keep[i] keep[j] = r at *
    refine ⟨rfl, _, _, hcell, Nat.le_of_ble_eq_true rfl, rfl, ?_⟩
    intro w13 h13
    have h13 : Put w12 g11 (.cells (r.getD arrowZ).cells.toArray 43 (0, 0)) w13 := h13
    have e1013 : Ext w10 w13 := h13.ext_of e1012 hnew
    have hg9' := e1013.heap hg9
    have e513 := e510.trans e1013
    have M13 := M5.grow e513
    refine ⟨_, neqBool _ _ _ _, ?_⟩
    refine brE_false (by cases r <;> rfl) ?_
    refine ⟨_, cell_of_block hg9' rfl, ?_⟩
    refine ⟨_, cell_of_block h13.here rfl, ?_⟩
    refine brE_false (by cases r <;> simp [arrowZ]) ?_
    refine ⟨_, cell_of_block hg9' rfl, ?_⟩
    refine ⟨_, cell_of_block h13.here rfl, ?_⟩
    refine brE_false (by cases r <;> simp [arrowZ]) ?_
    refine ⟨[.int .i64 keep.length, .slice A3 R.length c3], rfl, M13.rd 0 rfl, ?_⟩
    refine (Chain_spec (hpart.ext e513) i j).mono ?_
    intro v w14 hc14
    obtain ⟨A14, c14, rfl, hr14, hl14⟩ := hc14.read
    have e514 := e513.trans hc14.2
    have hch : (chainS keep.length R i j).isSome = true → (∀ p ∈ (chainS keep.length R i j).getD [], 0 ≤ p ∧ p < (keep.length : Nat)) ∧ checkS N xs keep[i] keep[j] (namesL keep ((chainS keep.length R i j).getD [])) = true := by
      intro hs
      obtain ⟨l, hl⟩ := Option.isSome_iff_exists.1 hs
      rw [hl]
      exact hchn i j hlti hltj l (chain_checks hl)
    have hch0 : (∀ p ∈ (chainS keep.length R i j).getD [], 0 ≤ p ∧ p < (keep.length : Nat)) := by
      cases hs : chainS keep.length R i j with
      | none => intro p hp; cases hp
      | some l => rw [hs] at hch; exact (hch rfl).1
    have hl25 := chain_len (N := (keep.length : Nat)) (xs := R) (a := i) (b := j)
    generalize chainS keep.length R i j = s at *
    generalize s.getD [] = l at *
    refine loopE C_ok (fun (t : Nat × Value) => [(1, .slice K keep.length kc), (2, .pointer (some ⟨g2, 0, none⟩)), (5, .pointer (some ⟨g5, 0, none⟩)), (7, .int .i64 i), (8, .int .i64 j), (13, .slice A14 l.length c14), (14, .bool s.isSome), (15, t.2), (16, .int .i64 t.1)])
      (fun t w' => t.1 ≤ l.length ∧ Ext w14 w' ∧ w'.ownsRow w14.heap.size 3 1 t.2 (namesL keep (l.take t.1)).length (ints (namesL keep (l.take t.1)))) (fun t => l.length - t.1) (0, .slice none 0 0)
      ⟨rfl, rfl, rfl, rfl, rfl, rfl, rfl, rfl, rfl, trivial⟩ ⟨Nat.zero_le _, Ext.refl _, World.ownsRow_nil _ _ _ _⟩ ?_
    rintro ⟨k, v⟩ w15 ⟨hkl, e1415, ho15⟩
    have hkl : k ≤ l.length := hkl
    have ho15 : w15.ownsRow w14.heap.size 3 1 v (namesL keep (l.take k)).length (ints (namesL keep (l.take k))) := ho15
    have e515 := e514.trans e1415
    have M15 := M5.grow e515
    refine brE_dec (fun hlt => ?_) (fun hge => ?_)
    · have hltk : k < l.length := by have : (k : Int) < (l.length : Nat) := hlt; omega
      obtain ⟨hp1, hp2⟩ := hch0 l[k] (List.getElem_mem _)
      obtain ⟨p, hp⟩ := Int.eq_ofNat_of_zero_le hp1
      have hpl : p < keep.length := by omega
      obtain ⟨b3, o3, hB3, hc3'⟩ := Reads.int (hr14.ext e1415) hltk
      obtain ⟨b4, o4, hB4, hc4⟩ := Reads.int (hk.ext M15.ext) hpl
      rw [hp] at hc3'
      have hnl : (namesL keep (l.take k)).length = k := by rw [namesL, List.length_map, List.length_take]; omega
      have hnt := namesL_take (keep := keep) hltk
      have gp : keep.getD l[k].toNat 0 = keep[p] := by rw [hp]; simp [List.getD_eq_getElem?_getD, hpl]
      rw [gp] at hnt
      refine ⟨k, b3, o3, rfl, hltk, hB3, ?_⟩
      refine ⟨.int .i64 (p : Int), by simpa using hc3', ?_⟩
      refine ⟨p, b4, o4, rfl, hpl, hB4, ?_⟩
      refine ⟨_, by simpa using hc4, ?_⟩
      intro g17 w16 h16
      have ho16 := ownsRow_ext ho15 h16.ext
      have e16 := e1415.trans h16.ext
      refine ⟨rfl, rfl, rfl, w14.heap.size, _, _, [.int .i64 keep[p]], ho16, e16.size, Nat.lt_add_one 0, rfl, rfl, .inr ⟨g17, 0, rfl, Rd.of_block h16.here⟩, rfl, rfl, by omega, by simp only [maxLen]; omega, ?_⟩
      intro v17 w17 ho17 hg17 _
      refine ⟨((k + 1 : Nat) : Int), fit ⟨by omega, by omega⟩, ?_⟩
      refine ⟨(k + 1, v17), ⟨rfl, rfl, rfl, rfl, rfl, rfl, rfl, rfl, rfl, trivial⟩, ⟨hltk, app_ext e16 ho16 hg17, ?_⟩, by show l.length - (k + 1) < l.length - k; omega⟩
      show w17.ownsRow _ _ _ v17 (namesL keep (l.take (k + 1))).length (ints (namesL keep (l.take (k + 1))))
      rw [hnt, List.length_append, ints_append]
      exact ho17
    · have : k = l.length := by have : ¬ (k : Int) < (l.length : Nat) := hge; omega
      subst this
      rw [List.take_length] at ho15
      have next : ∀ {w' : World}, Ext w5 w' → j + 1 ≤ keep.length ∧ Ext w5 w' := fun e => ⟨hltj, e⟩
      have hnl := ownsRow_len ho15
      obtain ⟨A15, c15, rfl, hr15, _⟩ := reads_of_owns ho15
      refine brE_mk (fun hs => ?_) (fun hs => ?_)
      · obtain ⟨_, hchk⟩ := hch hs
        obtain ⟨b3, o3, hB3, hc3'⟩ := Reads.int (hk.ext M15.ext) hlti
        obtain ⟨b4, o4, hB4, hc4⟩ := Reads.int (hk.ext M15.ext) hltj
        refine ⟨[.int .i64 N, .slice A xs.length c], rfl, M15.rd 1 rfl, ?_⟩
        refine ⟨i, b3, o3, rfl, hlti, hB3, ?_⟩
        refine ⟨_, by simpa using hc3', ?_⟩
        refine ⟨j, b4, o4, rfl, hltj, hB4, ?_⟩
        refine ⟨_, by simpa using hc4, ?_⟩
        refine (CheckChain_spec (h.ext M15.ext) keep[i] keep[j] hr15 hnl).mono ?_
        rintro v w16 ⟨hv16, e16⟩
        rw [hchk] at hv16
        subst hv16
        refine ⟨((j + 1 : Nat) : Int), fit ⟨by omega, by omega⟩, ?_⟩
        exact ⟨j + 1, ⟨rfl, rfl, rfl, rfl, rfl, trivial⟩, next (e515.trans e16), by omega⟩
      · refine ⟨((j + 1 : Nat) : Int), fit ⟨by omega, by omega⟩, ?_⟩
        exact ⟨j + 1, ⟨rfl, rfl, rfl, rfl, rfl, trivial⟩, next e515, by omega⟩

end Go.Proofs.Ytdfhfehlmonjjaa
