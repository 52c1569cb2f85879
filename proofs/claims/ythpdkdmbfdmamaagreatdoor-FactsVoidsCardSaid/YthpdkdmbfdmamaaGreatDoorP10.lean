/- Proved: for every list of facts and four numbers the law FactsVoids returns true, and its arguments read behind the call as they did before; what the library's variables hold is tied to the program's text. No further condition. -/
import Derived.Test.YthpdkdmbfdmamaaGreatDoorGDf
import Derived.Test.YthpdkdmbfdmamaaGreatDoorGDd
import Derived.Test.YthpdkdmbfdmamaaGreatDoorGDe
set_option linter.unusedVariables false
set_option linter.unusedSimpArgs false
set_option linter.unnecessarySimpa false
set_option linter.unusedSectionVars false
namespace Go.Proofs.YthpdkdmbfdmamaaGreatDoor
open Go.Eng Go.RowKit

theorem voidF_nums {n id k : Int} (hn : In64 n) (hid : In64 id) (hk : In64 k) : (voidF n id k).Nums := by
  have z64 : In64 0 := ⟨by decide, by decide⟩
  exact ⟨hid, hk, ⟨by show (0 : Int) ≤ 11; decide, by show (11 : Int) ≤ 255; decide⟩, z64, hn, z64, z64, z64, Nat.zero_le _⟩
theorem wo_length {l : List Fact} {i : Nat} : (wo l i).length ≤ l.length := by
  unfold wo; rw [List.length_append, List.length_take, List.length_drop]; omega
theorem newF_snoc {B : Nat} {w : World} {v : Value} {l : List Fact} {x : Fact} (h : w.ownsRow B 29 9 v (l.length + 1) (fcells l ++ x.cells)) : NewF B w v (l ++ [x]) := by
  unfold NewF
  rw [fcells_append, fcells_one, List.length_append]
  exact h

set_option maxRecDepth 100000 in
set_option maxHeartbeats 1000000 in
theorem FactsVoids_spec {w : World} {A : Option Addr} {l : List Fact} {c : Nat} (h : HF w A l c) (T : Tabs w) {which id other k : Int} (hid : In64 id) (hot : In64 other) (hk : In64 k) :
    CallsW C.P 10 #[.slice A l.length c, .int .i64 which, .int .i64 id, .int .i64 other, .int .i64 k] w fun v w' => v = .bool true ∧ Ext w w' := by
  refine callsV_of Cw_ok (args := [_, _, _, _, _]) (plans := plans10) Tryz.func10 rfl Tryz.ntmps10 (by kernel_rfl) (Nat.le_of_ble_eq_true rfl) ?_
  have hcap := h.cap
  have hlc := h.len
  refine brE_dec (fun ha => ?_) (fun ha => ?_)
  · refine (alive_spec w T).mono ?_
    rintro v w2 ⟨rfl, e2⟩
    exact ⟨rfl, e2⟩
  have ha : ¬ (l.length : Int) > 30 := ha
  have hl : l.length ≤ 30 := by omega
  refine (voids_spec h (by omega) hid hk).weak.mono ?_
  rintro _ w1 ⟨hv, e1⟩
  rcases hv with ⟨x, r, rfl⟩ | ⟨i, hi, rfl, hval, r, rfl, ho1⟩
  · intro g11 w2 h2
    refine ⟨rfl, _, _, h2.here, Nat.le_of_ble_eq_true rfl, rfl, ?_⟩
    intro w3 h3
    have e3 : Ext w1 w3 := h3.ext_of h2.ext (by rw [h2.new]; exact Nat.le_refl _)
    refine (alive_spec w3 (T.ext (e1.trans e3))).mono ?_
    rintro v w4 ⟨rfl, e4⟩
    exact ⟨rfl, (e1.trans e3).trans e4⟩
  have hx := h.nums _ (List.getElem_mem hi)
  have hVn := voidF_nums hx.id hid hk
  have hV11 : (voidF l[i].id id k).kind = 11 := rfl
  have hVw : (voidF l[i].id id k).what = l[i].id := rfl
  have hVk : (voidF l[i].id id k).known = k := rfl
  have honce := void_once (k := k) hval hi hV11 hVw hVk
  generalize voidF l[i].id id k = V at *
  have hnums : ∀ x ∈ l ++ [V], x.Nums := nums_append h.nums fun x hx => by rw [List.mem_singleton.1 hx]; exact hVn
  obtain ⟨A1, c1, rfl, hf1⟩ := ho1.hf hnums
  have hll : (l ++ [V]).length = l.length + 1 := by simp
  have hlen1 : (l ++ [V]).length ≤ 31 := by omega
  intro g11 w2 h2
  refine ⟨rfl, _, _, h2.here, Nat.le_of_ble_eq_true rfl, rfl, ?_⟩
  intro wS hS
  have hS : Put w2 g11 (.cells V.cells.toArray 29 (0, 0)) wS := hS
  have e1S : Ext w1 wS := hS.ext_of h2.ext (by rw [h2.new]; exact Nat.le_refl _)
  have e0S := e1.trans e1S
  have rV : Rd wS g11 0 V.cells := Rd.of_block hS.here
  have hfS := h.ext e0S
  have hf1S := hf1.ext e1S
  have hcS : l.length ≤ c := h.len
  clear hS h2
  refine ⟨0, i, rfl, rfl, Nat.zero_le _, by omega, ?_⟩
  refine ⟨((i + 1 : Nat) : Int), fit ⟨by omega, by omega⟩, ?_⟩
  refine ⟨i + 1, l.length, rfl, rfl, hi, hcS, ?_⟩
  intro g w3 h3
  have ho3 : w3.ownsRow wS.heap.size 29 9 (.slice (some ⟨g, 0, none⟩) 0 0) 0 [] := owns_block (cs := []) h3.here (by rw [h3.new]; exact Nat.le_refl _) rfl (Nat.zero_le _)
  have hti : (l.take i).length = i := by rw [List.length_take]; omega
  have hdi : (l.drop (i + 1)).length = l.length - (i + 1) := List.length_drop
  have rf := Reads.front (c := c) (i := i) (hfS.reads.ext h3.ext)
  refine ⟨rfl, rfl, rfl, wS.heap.size, 0, [], fcells (l.take i), ho3, h3.ext.size, Nat.le_of_ble_eq_true rfl, rfl, by rw [fcells_length, hti]; rfl, rf, by have := someF rf; rw [hti] at this; exact this, oneF _, by omega, by simp only [maxLen]; omega, ?_⟩
  intro v4 w4 ho4 hg4 _
  have e4 : Ext wS w4 := app_ext h3.ext ho3 hg4
  have ho4 : NewF wS.heap.size w4 v4 (l.take i) := by
    unfold NewF
    rw [hti]
    have ho4 : w4.ownsRow wS.heap.size 29 9 v4 (0 + i) ([] ++ fcells (l.take i)) := ho4
    rw [Nat.zero_add, List.nil_append] at ho4
    exact ho4
  have rb := Reads.back (c := c) (i := i + 1) (hfS.reads.ext e4) hi hcS
  refine ⟨rfl, rfl, rfl, wS.heap.size, (l.take i).length, fcells (l.take i), fcells (l.drop (i + 1)), ho4, e4.size, Nat.le_of_ble_eq_true rfl, rfl, by rw [fcells_length, hdi], rb, by have := someF rb; rw [hdi] at this; exact this, oneF _, by omega, by simp only [maxLen]; omega, ?_⟩
  intro v5 w5 ho5 hg5 _
  have e5 : Ext wS w5 := app_ext e4 ho4 hg5
  have ho5 : NewF wS.heap.size w5 v5 (wo l i) := by
    unfold NewF wo
    rw [List.length_append, fcells_append, hdi]
    exact ho5
  have hwn : ∀ x ∈ wo l i, x.Nums := fun x hx => by
    rcases List.mem_append.1 hx with hx | hx
    · exact h.nums x (List.mem_of_mem_take hx)
    · exact h.nums x (List.mem_of_mem_drop hx)
  obtain ⟨A5, c5, rfl, hf5⟩ := ho5.hf hwn
  have hwl := wo_length (l := l) (i := i)
  have hc1 := countL_length k (l ++ [V])
  have hc2 := countL_length k (wo l i)
  have hc3 := countL_length k l
  refine ⟨V.cells, rfl, rV.ext e5, ?_⟩
  have hf1' := hf1S.ext e5
  refine ⟨?A, ?B⟩
  case' A =>
    refine (Counting_spec hf1' (by omega) k).weak.mono ?_
    rintro v wR ⟨hoA, eR⟩
    refine ⟨eR, ?_⟩
    obtain ⟨AA, cA, rfl, hrA, _⟩ := hoA.slice
    refine ⟨?A1, ?A2⟩
  case' A1 =>
    refine (Counting_spec (hf5.ext eR) (by omega) k).weak.mono ?_
    rintro vB w7 ⟨hoB, e7⟩
    refine ⟨e7, ?_⟩
    intro g7 wZ h7
    refine ⟨h7.ext, ?_⟩
    have eZ := e7.trans h7.ext
    have hoB := hoB.ext h7.ext
    have r7 : Rd wZ g7 0 V.cells := Rd.of_block h7.here
  case' A2 =>
    intro g7 w7 h7
    refine ⟨h7.ext, ?_⟩
    refine (Counting_spec (hf5.ext (eR.trans h7.ext)) (by omega) k).weak.mono ?_
    rintro vB wZ ⟨hoB, e7⟩
    refine ⟨e7, ?_⟩
    have eZ := h7.ext.trans e7
    have hoB := hoB.base h7.ext.size
    have r7 : Rd wZ g7 0 V.cells := (Rd.of_block h7.here).ext e7
  case' B =>
    intro g7 w6 h7
    refine ⟨h7.ext, ?_⟩
    refine (Counting_spec (hf1'.ext h7.ext) (by omega) k).weak.mono ?_
    rintro v wR ⟨hoA, eR'⟩
    refine ⟨eR', ?_⟩
    obtain ⟨AA, cA, rfl, hrA, _⟩ := hoA.slice
    have eR := h7.ext.trans eR'
    refine (Counting_spec (hf5.ext eR) (by omega) k).weak.mono ?_
    rintro vB wZ ⟨hoB, eZ⟩
    refine ⟨eZ, ?_⟩
    have r7 : Rd wZ g7 0 V.cells := (Rd.of_block h7.here).ext (eR'.trans eZ)
  case A1 =>
    refine ⟨rfl, rfl, rfl, wR.heap.size, _, _, V.cells, hoB, eZ.size, Nat.le_of_ble_eq_true rfl, rfl, rfl, .inr ⟨g7, 0, rfl, r7⟩, rfl, rfl, by omega, by simp only [maxLen]; omega, ?_⟩
    intro v8 w8 ho8 hg8 _
    have e8 : Ext wR w8 := app_ext eZ hoB hg8
    have ho8 := newF_snoc ho8
    obtain ⟨A8, c8, rfl, hr8, _⟩ := ho8.slice
    have s := SameFacts_spec (c := cA) (d := c8) (hrA.ext e8) hr8 (by omega)
    rw [decide_eq_true honce] at s
    refine s.weak.mono ?_
    rintro _ w9 ⟨rfl, rfl⟩
    have eT : Ext wS w9 := e5.trans (eR.trans e8)
    clear s hoB eZ hg8 ho8 r7
    refine (voids_spec (hf1S.ext eT) (by omega) hot hk).weak.mono ?_
    rintro _ w10 ⟨hv, e10⟩
    rcases hv with ⟨x, r, rfl⟩ | ⟨j, hj, hjl, hval2, r, rfl, ho10⟩
    · intro g15 w11 h11
      refine ⟨rfl, _, _, h11.here, Nat.le_of_ble_eq_true rfl, rfl, ?_⟩
      intro w12 h12
      have e12 : Ext w10 w12 := h12.ext_of h11.ext (by rw [h11.new]; exact Nat.le_refl _)
      have eE := (e0S.trans eT).trans (e10.trans e12)
      refine (alive_spec w12 (T.ext eE)).mono ?_
      rintro v w13 ⟨rfl, e13⟩
      exact ⟨rfl, eE.trans e13⟩
    have hjl : j = l.length := by omega
    subst hjl
    have hVe : (l ++ [V])[l.length] = V := by simp
    rw [hVe] at hval2 ho10 ⊢
    have hUn := voidF_nums hVn.id hot hk
    have hU11 : (voidF V.id other k).kind = 11 := rfl
    have hUw : (voidF V.id other k).what = V.id := rfl
    have hUk : (voidF V.id other k).known = k := rfl
    have htwice := void_twice (k := k) hval2 hU11 hUw hUk
    generalize voidF V.id other k = U at *
    have hnums2 : ∀ x ∈ (l ++ [V]) ++ [U], x.Nums := nums_append hnums fun x hx => by rw [List.mem_singleton.1 hx]; exact hUn
    obtain ⟨A10, c10, rfl, hf10⟩ := ho10.hf hnums2
    have hll2 : ((l ++ [V]) ++ [U]).length = l.length + 2 := by simp
    intro g15 w11 h11
    refine ⟨rfl, _, _, h11.here, Nat.le_of_ble_eq_true rfl, rfl, ?_⟩
    intro w12 h12
    have h12 : Put w11 g15 (.cells U.cells.toArray 29 (0, 0)) w12 := h12
    have e12 : Ext w10 w12 := h12.ext_of h11.ext (by rw [h11.new]; exact Nat.le_refl _)
    have eE := (e0S.trans eT).trans (e10.trans e12)
    refine (alive_spec w12 (T.ext eE)).mono ?_
    rintro v wQ ⟨rfl, e13⟩
    have eQ := eE.trans e13
    have hf13 := (hf10.ext e12).ext e13
    have hc4 := countL_length k ((l ++ [V]) ++ [U])
    refine ⟨U.cells, rfl, (Rd.of_block h12.here).ext e13, ?_⟩
    refine ⟨?P1, ?Q1⟩
    case' P1 =>
      refine (Counting_spec hf13 (by omega) k).weak.mono ?_
      rintro v wR ⟨hoA, eR⟩
      refine ⟨eR, ?_⟩
      obtain ⟨AA, cA, rfl, hrA, _⟩ := hoA.slice
      refine ⟨?R1, ?S1⟩
    case' R1 =>
      refine (Counting_spec (h.ext (eQ.trans eR)) (by omega) k).weak.mono ?_
      rintro vB w7 ⟨hoB, e7⟩
      refine ⟨e7, ?_⟩
      intro g7 wZ h7
      refine ⟨h7.ext, ?_⟩
      have eZ := e7.trans h7.ext
      have hoB := hoB.ext h7.ext
      have r7 : Rd wZ g7 0 U.cells := Rd.of_block h7.here
    case' S1 =>
      intro g7 w7 h7
      refine ⟨h7.ext, ?_⟩
      refine (Counting_spec (h.ext ((eQ.trans eR).trans h7.ext)) (by omega) k).weak.mono ?_
      rintro vB wZ ⟨hoB, e7⟩
      refine ⟨e7, ?_⟩
      have eZ := h7.ext.trans e7
      have hoB := hoB.base h7.ext.size
      have r7 : Rd wZ g7 0 U.cells := (Rd.of_block h7.here).ext e7
    case' Q1 =>
      intro g7 w6 h7
      refine ⟨h7.ext, ?_⟩
      refine (Counting_spec (hf13.ext h7.ext) (by omega) k).weak.mono ?_
      rintro v wR ⟨hoA, eR'⟩
      refine ⟨eR', ?_⟩
      obtain ⟨AA, cA, rfl, hrA, _⟩ := hoA.slice
      have eR := h7.ext.trans eR'
      refine (Counting_spec (h.ext (eQ.trans eR)) (by omega) k).weak.mono ?_
      rintro vB wZ ⟨hoB, eZ⟩
      refine ⟨eZ, ?_⟩
      have r7 : Rd wZ g7 0 U.cells := (Rd.of_block h7.here).ext (eR'.trans eZ)
    all_goals
      refine ⟨rfl, rfl, rfl, wR.heap.size, _, _, U.cells, hoB, eZ.size, Nat.le_of_ble_eq_true rfl, rfl, rfl, .inr ⟨g7, 0, rfl, r7⟩, rfl, rfl, by omega, by simp only [maxLen]; omega, ?_⟩
      intro v8 w8 ho8 hg8 _
      have e8 : Ext wR w8 := app_ext eZ hoB hg8
      have ho8 := newF_snoc ho8
      obtain ⟨A8, c8, rfl, hr8, _⟩ := ho8.slice
      have s := SameFacts_spec (c := cA) (d := c8) (hrA.ext e8) hr8 (by omega)
      rw [decide_eq_true htwice] at s
      refine s.weak.mono ?_
      rintro _ w9 ⟨rfl, rfl⟩
      exact ⟨rfl, eQ.trans (eR.trans e8)⟩
  case A2 =>
    refine ⟨rfl, rfl, rfl, wR.heap.size, _, _, V.cells, hoB, eZ.size, Nat.le_of_ble_eq_true rfl, rfl, rfl, .inr ⟨g7, 0, rfl, r7⟩, rfl, rfl, by omega, by simp only [maxLen]; omega, ?_⟩
    intro v8 w8 ho8 hg8 _
    have e8 : Ext wR w8 := app_ext eZ hoB hg8
    have ho8 := newF_snoc ho8
    obtain ⟨A8, c8, rfl, hr8, _⟩ := ho8.slice
    have s := SameFacts_spec (c := cA) (d := c8) (hrA.ext e8) hr8 (by omega)
    rw [decide_eq_true honce] at s
    refine s.weak.mono ?_
    rintro _ w9 ⟨rfl, rfl⟩
    have eT : Ext wS w9 := e5.trans (eR.trans e8)
    clear s hoB eZ hg8 ho8 r7
    refine (voids_spec (hf1S.ext eT) (by omega) hot hk).weak.mono ?_
    rintro _ w10 ⟨hv, e10⟩
    rcases hv with ⟨x, r, rfl⟩ | ⟨j, hj, hjl, hval2, r, rfl, ho10⟩
    · intro g15 w11 h11
      refine ⟨rfl, _, _, h11.here, Nat.le_of_ble_eq_true rfl, rfl, ?_⟩
      intro w12 h12
      have e12 : Ext w10 w12 := h12.ext_of h11.ext (by rw [h11.new]; exact Nat.le_refl _)
      have eE := (e0S.trans eT).trans (e10.trans e12)
      refine (alive_spec w12 (T.ext eE)).mono ?_
      rintro v w13 ⟨rfl, e13⟩
      exact ⟨rfl, eE.trans e13⟩
    have hjl : j = l.length := by omega
    subst hjl
    have hVe : (l ++ [V])[l.length] = V := by simp
    rw [hVe] at hval2 ho10 ⊢
    have hUn := voidF_nums hVn.id hot hk
    have hU11 : (voidF V.id other k).kind = 11 := rfl
    have hUw : (voidF V.id other k).what = V.id := rfl
    have hUk : (voidF V.id other k).known = k := rfl
    have htwice := void_twice (k := k) hval2 hU11 hUw hUk
    generalize voidF V.id other k = U at *
    have hnums2 : ∀ x ∈ (l ++ [V]) ++ [U], x.Nums := nums_append hnums fun x hx => by rw [List.mem_singleton.1 hx]; exact hUn
    obtain ⟨A10, c10, rfl, hf10⟩ := ho10.hf hnums2
    have hll2 : ((l ++ [V]) ++ [U]).length = l.length + 2 := by simp
    intro g15 w11 h11
    refine ⟨rfl, _, _, h11.here, Nat.le_of_ble_eq_true rfl, rfl, ?_⟩
    intro w12 h12
    have h12 : Put w11 g15 (.cells U.cells.toArray 29 (0, 0)) w12 := h12
    have e12 : Ext w10 w12 := h12.ext_of h11.ext (by rw [h11.new]; exact Nat.le_refl _)
    have eE := (e0S.trans eT).trans (e10.trans e12)
    refine (alive_spec w12 (T.ext eE)).mono ?_
    rintro v wQ ⟨rfl, e13⟩
    have eQ := eE.trans e13
    have hf13 := (hf10.ext e12).ext e13
    have hc4 := countL_length k ((l ++ [V]) ++ [U])
    refine ⟨U.cells, rfl, (Rd.of_block h12.here).ext e13, ?_⟩
    refine ⟨?P2, ?Q2⟩
    case' P2 =>
      refine (Counting_spec hf13 (by omega) k).weak.mono ?_
      rintro v wR ⟨hoA, eR⟩
      refine ⟨eR, ?_⟩
      obtain ⟨AA, cA, rfl, hrA, _⟩ := hoA.slice
      refine ⟨?R2, ?S2⟩
    case' R2 =>
      refine (Counting_spec (h.ext (eQ.trans eR)) (by omega) k).weak.mono ?_
      rintro vB w7 ⟨hoB, e7⟩
      refine ⟨e7, ?_⟩
      intro g7 wZ h7
      refine ⟨h7.ext, ?_⟩
      have eZ := e7.trans h7.ext
      have hoB := hoB.ext h7.ext
      have r7 : Rd wZ g7 0 U.cells := Rd.of_block h7.here
    case' S2 =>
      intro g7 w7 h7
      refine ⟨h7.ext, ?_⟩
      refine (Counting_spec (h.ext ((eQ.trans eR).trans h7.ext)) (by omega) k).weak.mono ?_
      rintro vB wZ ⟨hoB, e7⟩
      refine ⟨e7, ?_⟩
      have eZ := h7.ext.trans e7
      have hoB := hoB.base h7.ext.size
      have r7 : Rd wZ g7 0 U.cells := (Rd.of_block h7.here).ext e7
    case' Q2 =>
      intro g7 w6 h7
      refine ⟨h7.ext, ?_⟩
      refine (Counting_spec (hf13.ext h7.ext) (by omega) k).weak.mono ?_
      rintro v wR ⟨hoA, eR'⟩
      refine ⟨eR', ?_⟩
      obtain ⟨AA, cA, rfl, hrA, _⟩ := hoA.slice
      have eR := h7.ext.trans eR'
      refine (Counting_spec (h.ext (eQ.trans eR)) (by omega) k).weak.mono ?_
      rintro vB wZ ⟨hoB, eZ⟩
      refine ⟨eZ, ?_⟩
      have r7 : Rd wZ g7 0 U.cells := (Rd.of_block h7.here).ext (eR'.trans eZ)
    all_goals
      refine ⟨rfl, rfl, rfl, wR.heap.size, _, _, U.cells, hoB, eZ.size, Nat.le_of_ble_eq_true rfl, rfl, rfl, .inr ⟨g7, 0, rfl, r7⟩, rfl, rfl, by omega, by simp only [maxLen]; omega, ?_⟩
      intro v8 w8 ho8 hg8 _
      have e8 : Ext wR w8 := app_ext eZ hoB hg8
      have ho8 := newF_snoc ho8
      obtain ⟨A8, c8, rfl, hr8, _⟩ := ho8.slice
      have s := SameFacts_spec (c := cA) (d := c8) (hrA.ext e8) hr8 (by omega)
      rw [decide_eq_true htwice] at s
      refine s.weak.mono ?_
      rintro _ w9 ⟨rfl, rfl⟩
      exact ⟨rfl, eQ.trans (eR.trans e8)⟩
  case B =>
    refine ⟨rfl, rfl, rfl, wR.heap.size, _, _, V.cells, hoB, eZ.size, Nat.le_of_ble_eq_true rfl, rfl, rfl, .inr ⟨g7, 0, rfl, r7⟩, rfl, rfl, by omega, by simp only [maxLen]; omega, ?_⟩
    intro v8 w8 ho8 hg8 _
    have e8 : Ext wR w8 := app_ext eZ hoB hg8
    have ho8 := newF_snoc ho8
    obtain ⟨A8, c8, rfl, hr8, _⟩ := ho8.slice
    have s := SameFacts_spec (c := cA) (d := c8) (hrA.ext e8) hr8 (by omega)
    rw [decide_eq_true honce] at s
    refine s.weak.mono ?_
    rintro _ w9 ⟨rfl, rfl⟩
    have eT : Ext wS w9 := e5.trans (eR.trans e8)
    clear s hoB eZ hg8 ho8 r7
    refine (voids_spec (hf1S.ext eT) (by omega) hot hk).weak.mono ?_
    rintro _ w10 ⟨hv, e10⟩
    rcases hv with ⟨x, r, rfl⟩ | ⟨j, hj, hjl, hval2, r, rfl, ho10⟩
    · intro g15 w11 h11
      refine ⟨rfl, _, _, h11.here, Nat.le_of_ble_eq_true rfl, rfl, ?_⟩
      intro w12 h12
      have e12 : Ext w10 w12 := h12.ext_of h11.ext (by rw [h11.new]; exact Nat.le_refl _)
      have eE := (e0S.trans eT).trans (e10.trans e12)
      refine (alive_spec w12 (T.ext eE)).mono ?_
      rintro v w13 ⟨rfl, e13⟩
      exact ⟨rfl, eE.trans e13⟩
    have hjl : j = l.length := by omega
    subst hjl
    have hVe : (l ++ [V])[l.length] = V := by simp
    rw [hVe] at hval2 ho10 ⊢
    have hUn := voidF_nums hVn.id hot hk
    have hU11 : (voidF V.id other k).kind = 11 := rfl
    have hUw : (voidF V.id other k).what = V.id := rfl
    have hUk : (voidF V.id other k).known = k := rfl
    have htwice := void_twice (k := k) hval2 hU11 hUw hUk
    generalize voidF V.id other k = U at *
    have hnums2 : ∀ x ∈ (l ++ [V]) ++ [U], x.Nums := nums_append hnums fun x hx => by rw [List.mem_singleton.1 hx]; exact hUn
    obtain ⟨A10, c10, rfl, hf10⟩ := ho10.hf hnums2
    have hll2 : ((l ++ [V]) ++ [U]).length = l.length + 2 := by simp
    intro g15 w11 h11
    refine ⟨rfl, _, _, h11.here, Nat.le_of_ble_eq_true rfl, rfl, ?_⟩
    intro w12 h12
    have h12 : Put w11 g15 (.cells U.cells.toArray 29 (0, 0)) w12 := h12
    have e12 : Ext w10 w12 := h12.ext_of h11.ext (by rw [h11.new]; exact Nat.le_refl _)
    have eE := (e0S.trans eT).trans (e10.trans e12)
    refine (alive_spec w12 (T.ext eE)).mono ?_
    rintro v wQ ⟨rfl, e13⟩
    have eQ := eE.trans e13
    have hf13 := (hf10.ext e12).ext e13
    have hc4 := countL_length k ((l ++ [V]) ++ [U])
    refine ⟨U.cells, rfl, (Rd.of_block h12.here).ext e13, ?_⟩
    refine ⟨?P3, ?Q3⟩
    case' P3 =>
      refine (Counting_spec hf13 (by omega) k).weak.mono ?_
      rintro v wR ⟨hoA, eR⟩
      refine ⟨eR, ?_⟩
      obtain ⟨AA, cA, rfl, hrA, _⟩ := hoA.slice
      refine ⟨?R3, ?S3⟩
    case' R3 =>
      refine (Counting_spec (h.ext (eQ.trans eR)) (by omega) k).weak.mono ?_
      rintro vB w7 ⟨hoB, e7⟩
      refine ⟨e7, ?_⟩
      intro g7 wZ h7
      refine ⟨h7.ext, ?_⟩
      have eZ := e7.trans h7.ext
      have hoB := hoB.ext h7.ext
      have r7 : Rd wZ g7 0 U.cells := Rd.of_block h7.here
    case' S3 =>
      intro g7 w7 h7
      refine ⟨h7.ext, ?_⟩
      refine (Counting_spec (h.ext ((eQ.trans eR).trans h7.ext)) (by omega) k).weak.mono ?_
      rintro vB wZ ⟨hoB, e7⟩
      refine ⟨e7, ?_⟩
      have eZ := h7.ext.trans e7
      have hoB := hoB.base h7.ext.size
      have r7 : Rd wZ g7 0 U.cells := (Rd.of_block h7.here).ext e7
    case' Q3 =>
      intro g7 w6 h7
      refine ⟨h7.ext, ?_⟩
      refine (Counting_spec (hf13.ext h7.ext) (by omega) k).weak.mono ?_
      rintro v wR ⟨hoA, eR'⟩
      refine ⟨eR', ?_⟩
      obtain ⟨AA, cA, rfl, hrA, _⟩ := hoA.slice
      have eR := h7.ext.trans eR'
      refine (Counting_spec (h.ext (eQ.trans eR)) (by omega) k).weak.mono ?_
      rintro vB wZ ⟨hoB, eZ⟩
      refine ⟨eZ, ?_⟩
      have r7 : Rd wZ g7 0 U.cells := (Rd.of_block h7.here).ext (eR'.trans eZ)
    all_goals
      refine ⟨rfl, rfl, rfl, wR.heap.size, _, _, U.cells, hoB, eZ.size, Nat.le_of_ble_eq_true rfl, rfl, rfl, .inr ⟨g7, 0, rfl, r7⟩, rfl, rfl, by omega, by simp only [maxLen]; omega, ?_⟩
      intro v8 w8 ho8 hg8 _
      have e8 : Ext wR w8 := app_ext eZ hoB hg8
      have ho8 := newF_snoc ho8
      obtain ⟨A8, c8, rfl, hr8, _⟩ := ho8.slice
      have s := SameFacts_spec (c := cA) (d := c8) (hrA.ext e8) hr8 (by omega)
      rw [decide_eq_true htwice] at s
      refine s.weak.mono ?_
      rintro _ w9 ⟨rfl, rfl⟩
      exact ⟨rfl, eQ.trans (eR.trans e8)⟩

end Go.Proofs.YthpdkdmbfdmamaaGreatDoor

namespace Go.Proofs.YthpdkdmbfdmamaaGreatDoor
open Go.Eng Go.RowKit Go.ChangeShapes Go.WideShapes Go.ChangeAt
open Go.ChangeMaps (open_string shut_string)

set_option maxRecDepth 100000 in
theorem factsVoids_lifted (os : Os) (started : os.Started) (H : Type) (enc : TypeId × Value → H) :
    ReturnsInHanded {} Tryz.checked os 10 .any (fun w args => (Rows.factsVoidsSpec.pre enc Tryz.prog Tryz.f10 Rows.factsVoidsRow.domain false w args ∧ laidMet Tryz.prog laidL w) ∧ sizedMet enc Tryz.prog Tryz.f10 (OpenSpec.ofChange Rows.factsVoidsSpec) false w args)
      (Rows.factsVoidsSpec.post enc Tryz.prog Tryz.f10 false true false false) := by
  refine returnsInHanded_of_change_and (C := Tryz.checked) (X := fun w _ => laidMet Tryz.prog laidL w) (fun _ _ _ hh h => h.of_heap hh) own started (by kernel_rfl) Tryz.func10
    (ChangeSpec.witness_at (enc := enc) (C := Tryz.checked) (os := os) (X := fun w _ => laidMet Tryz.prog laidL w) false (laidWorld os) #[.slice none 0 0, .int .i64 0, .int .i64 0, .int .i64 0, .int .i64 0] 8 rfl (by kernel_rfl) (by kernel_rfl) (by kernel_rfl) (by kernel_rfl) (by kernel_rfl) (laidWorld_met os _)) ?_
  intro W base args ds gs before hval0 hW _ hsz0 hL _
  have T := tabs_of_laid hL
  have hval : ∀ (j : Nat) t v, Tryz.f10.params[j]? = some t → args[j]? = some v → Value.okWide Tryz.prog W .any base t v := hval0
  have hW' := hW
  obtain ⟨p, q, hA0, hV, rfl, hfz, hnd⟩ := hW
  have hA : DataW.TrodAll enc Tryz.prog W 0 (fun _ => true) true [22, 3, 3, 3, 3] args.toList ds p := hA0
  obtain ⟨v0, v1, v2, v3, v4, d0, d1, d2, d3, d4, p0, p1, p2, p3, p4, rfl, rfl, rfl, h0, h1, h2, h3, h4⟩ := trodAll_n5 hA
  obtain ⟨rfl, rfl⟩ := trodVars_none hV
  obtain ⟨A0, l0, c0, rfl, hf0⟩ := open_facts (hval 0 22 v0 rfl rfl) h0
  obtain ⟨i1, rfl, _, _, wf1⟩ := open_int under3 (hval 1 3 v1 rfl rfl) h1
  obtain ⟨i2, rfl, _, _, wf2⟩ := open_int under3 (hval 2 3 v2 rfl rfl) h2
  obtain ⟨i3, rfl, _, _, wf3⟩ := open_int under3 (hval 3 3 v3 rfl rfl) h3
  obtain ⟨i4, rfl, _, _, wf4⟩ := open_int under3 (hval 4 3 v4 rfl rfl) h4
  refine (FactsVoids_spec hf0 T (wf_in64 wf2) (wf_in64 wf3) (wf_in64 wf4) W (Same.refl W)).mono ?_
  rintro e W' ⟨⟨v, w'', rfl, ⟨rfl, he⟩, hs⟩, _⟩
  have he' : Ext W W' := he.same_right hs
  refine ⟨_, rfl, ?_⟩
  refine ⟨[d0, d1, d2, d3, d4], [], (p0 ++ (p1 ++ (p2 ++ (p3 ++ (p4))))) ++ [], [], p0 ++ (p1 ++ (p2 ++ (p3 ++ (p4)))), [], hW', ?_, ?_, rfl, Below.frame he' _, fun h => by cases h⟩
  · exact trodAll_mk1 (shut_bool under4 true)
  · exact trodAll_mkn5 (Below.trod laidOut recFs rowFs h0 he' fun x hx => hW'.lt x (by simp [hx])) (Below.trod laidOut rec3 row3 h1 he' fun x hx => hW'.lt x (by simp [hx])) (Below.trod laidOut rec3 row3 h2 he' fun x hx => hW'.lt x (by simp [hx])) (Below.trod laidOut rec3 row3 h3 he' fun x hx => hW'.lt x (by simp [hx])) (Below.trod laidOut rec3 row3 h4 he' fun x hx => hW'.lt x (by simp [hx]))

set_option maxHeartbeats 4000000 in
theorem factsVoids_closed : joinedFacts Tryz.pinned.checked.prog 10 Tryz.f10 Rows.factsVoidsSpec Rows.factsVoidsRow = true := by
  unfold joinedFacts
  iterate 31 refine Bool.and_eq_true_iff.2 ⟨?_, ?_⟩
  · as_aux_lemma => kernel_rfl
  · exact kLaid
  · exact kMaps
  · as_aux_lemma => kernel_rfl
  · as_aux_lemma => kernel_rfl
  · as_aux_lemma => kernel_rfl
  · exact kStops
  · as_aux_lemma => kernel_rfl
  · exact kKnobs
  · as_aux_lemma => kernel_rfl
  · as_aux_lemma => kernel_rfl
  · as_aux_lemma => kernel_rfl
  · as_aux_lemma => kernel_rfl
  · as_aux_lemma => kernel_rfl
  · as_aux_lemma => kernel_rfl
  · as_aux_lemma => kernel_rfl
  · as_aux_lemma => kernel_rfl
  · as_aux_lemma => kernel_rfl
  · as_aux_lemma => kernel_rfl
  · as_aux_lemma => kernel_rfl
  · as_aux_lemma => kernel_rfl
  · as_aux_lemma => kernel_rfl
  · exact beq_iff_eq.2 kPlain.symm
  · as_aux_lemma => kernel_rfl
  · exact kHeard
  · exact kEnter
  · exact beq_iff_eq.2 kLifts.symm
  · as_aux_lemma => kernel_rfl
  · as_aux_lemma => kernel_rfl
  · as_aux_lemma => kernel_rfl
  · as_aux_lemma => kernel_rfl
  · as_aux_lemma => kernel_rfl

theorem factsVoids_named : Tryz.pinned.checked.prog.funcNamed Rows.factsVoidsRow.func = some 10 := by kernel_rfl
theorem factsVoids_func : Tryz.pinned.checked.prog.funcs[10]? = some Tryz.f10 := Tryz.func10
theorem factsVoids_inst : Tryz.f10.isInstance Tryz.pinned.checked.prog Rows.factsVoidsRow.origin Rows.factsVoidsRow.targs := of_decide_eq_true (by kernel_rfl)
theorem factsVoids_wrap : Tryz.f10.isWrapper Tryz.pinned.checked.prog Rows.factsVoidsRow.wrapper Rows.factsVoidsRow.mainSum := by
  unfold Func.isWrapper; first | (rw [if_pos (by decide +kernel)]; kernel_rfl) | (rw [if_neg (by decide +kernel)]; exact ⟨rfl, rfl⟩)
theorem factsVoids_text : Rows.factsVoidsRow.wfByText (OpenSpec.ofChange Rows.factsVoidsSpec) = true := by kernel_rfl
theorem factsVoids_main : Tryz.pinned.checked.prog.mainIs = some (Rows.factsVoidsCard.stood.harness.1, Rows.factsVoidsCard.stood.harness.2.toList) := by kernel_rfl
theorem factsVoids_looks : true = Tryz.pinned.checked.prog.looks [] := by kernel_rfl
theorem factsVoids_goes : false = Rows.factsVoidsRow.goesBy Tryz.pinned.checked.prog := by kernel_rfl
theorem factsVoids_stand : (Tryz.f10.params.toList.all fun t => !Tryz.pinned.checked.prog.wantsStandIn t) = true := by kernel_rfl

theorem factsVoids_holds : Rows.FactsVoidsSaid :=
  OpenClaim.holds_of_wide 10 Tryz.f10 rfl rfl rfl rfl rfl rfl rfl ⟨rfl, rfl, rfl, rfl, rfl⟩ rfl rfl rfl rfl rfl factsVoids_named factsVoids_func factsVoids_closed factsVoids_inst factsVoids_wrap
    (fun os started H enc _ => factsVoids_lifted os started H enc)

theorem factsVoids : Rows.FactsVoidsCardSaid :=
  Claim7.holds_tied_plain_at .later [] [.data, .data, .data, .sentinel, .sentinel] true Rows.factsVoidsCard.stood.harness true
    factsVoids_holds (fun _ h => by cases h) factsVoids_text (fun _ h => by cases h) factsVoids_row_tie rfl ⟨rfl, rfl⟩ factsVoids_main rfl
    (fun f fn hf hfn => by
      obtain rfl : f = 10 := Option.some.inj (factsVoids_named.symm.trans hf) |>.symm
      obtain rfl : fn = Tryz.f10 := (Option.some.inj (factsVoids_func.symm.trans hfn)).symm
      refine ⟨factsVoids_looks, fun j t ht => ?_⟩
      have hm : t ∈ Tryz.f10.params.toList := by
        have := Array.mem_of_getElem? ht
        simpa using this
      exact Bool.not_eq_true' _ |>.mp (List.all_eq_true.1 factsVoids_stand t hm))
    factsVoids_goes

#print axioms factsVoids
end Go.Proofs.YthpdkdmbfdmamaaGreatDoor
