/- rank.Before, and the reference's Before and CheckChain. -/
import Derived.Test.YtdfhfehlmonjjaaR29
namespace Go.Proofs.Ytdfhfehlmonjjaa
open Go.Eng Go.RowKit

noncomputable def beforeL (N : Int) (xs : List Arrow) (a : Int) : List Int := if chk N xs = 0 ∧ inR N a = true then membersTo (fun b => reach (toM xs) b a.toNat) N.toNat else []

theorem beforeL_no {N : Int} {xs : List Arrow} {a : Int} (h : ¬ (chk N xs = 0 ∧ inR N a = true)) : beforeL N xs a = [] := by rw [beforeL, if_neg h]

theorem Before_spec {N : Int} {A : Option Addr} {xs : List Arrow} {c : Nat} {w : World} (h : HRel w N A xs c) (a : Int) :
    CallsV C.P 35 #[relVal N A xs.length c, .int .i64 a] w fun v w' => NewInts w w' v (beforeL N xs a) ∧ Ext w w' := by
  refine callsV_of C_ok (args := [_, _]) (plans := []) Try.func35 rfl Try.ntmps35 (by kernel_rfl) (Nat.le_of_ble_eq_true rfl) ?_
  intro g1 w1 h1
  have M1 := (Mem.start w).alloc h1
  refine ⟨[.int .i64 N, .slice A xs.length c], rfl, M1.rd 0 rfl, ?_⟩
  by_cases hv : chk N xs = 0
  · have hok := valid_of_chk hv
    have hN := hok.hi
    refine (open_yes (h.ext M1.ext) hok).mono ?_
    rintro v w2 ⟨g, rfl, hg, hw, he⟩
    have M2 := M1.grow he
    intro g3 w3 h3
    have M3 := M2.alloc h3
    refine (has_spec (xs := [a]) (hw.ext h3.ext) ⟨hok.lo, hok.hi⟩ (.inr ⟨g3, 0, rfl, M3.rd 0 rfl⟩) (by simp)).mono ?_
    rintro v w4 ⟨rfl, he4⟩
    have M4 := M3.grow he4
    have e1 : [a].all (inR N) = inR N a := by simp
    rw [e1]
    refine brE_mk (fun hb => ?_) (fun hb => ?_)
    · rw [Bool.not_eq_true'] at hb
      rw [beforeL_no (fun hh => by rw [hb] at hh; cases hh.2)]
      exact ⟨World.ownsRow_nil _ _ _ _, M4.ext⟩
    · rw [Bool.not_eq_false'] at hb
      rw [beforeL, if_pos ⟨hv, hb⟩]
      obtain ⟨p, rfl, hp⟩ := inR_nat hb
      obtain ⟨n, rfl⟩ := Int.eq_ofNat_of_zero_le hok.lo
      have hp24 : p < 24 := by omega
      have hw4 := (hw.ext h3.ext).ext he4
      refine ⟨_, hw4.n, ?_⟩
      refine loopE C_ok (fun (s : Nat × Value) => [(1, .int .i64 p), (5, .pointer (some ⟨g, 0, none⟩)), (7, s.2), (26, .int .i64 n), (27, .int .i64 s.1)])
        (fun s w' => s.1 ≤ n ∧ Ext w w' ∧ Web w' g n (toM xs) (reach (toM xs)) ∧ NewInts w w' s.2 (membersTo (fun b => reach (toM xs) b p) s.1)) (fun s => n - s.1) (0, .slice none 0 0) ⟨rfl, rfl, rfl, rfl, rfl, trivial⟩
        ⟨Nat.zero_le _, M4.ext, hw4, World.ownsRow_nil _ _ _ _⟩ ?_
      rintro ⟨b, v⟩ w5 ⟨hb, E5, hw5, ho⟩
      have hb : b ≤ n := hb
      have ho : NewInts w w5 v (membersTo (fun b => reach (toM xs) b p) b) := ho
      refine brE_dec (fun hlt => ?_) (fun hge => ?_)
      · have hlt : b < n := by have : (b : Int) < n := hlt; omega
        have hs := membersTo_succ (fun b => reach (toM xs) b p) b
        have hml := membersTo_length (fun b => reach (toM xs) b p) b
        have next : IntKind.i64.wrap ((b : Int) + 1) = ((b + 1 : Nat) : Int) := fit ⟨by omega, by omega⟩
        refine ⟨b, rfl, by omega, ?_⟩
        refine ⟨p, rfl, hp24, ?_⟩
        refine ⟨_, hw5.reach (by omega) hp24, ?_⟩
        refine brE_mk (fun hr => ?_) (fun hr => ?_)
        · rw [if_pos hr] at hs
          intro g6 w6 h6
          have ho6 : w6.ownsRow w.heap.size 3 1 v (membersTo (fun b => reach (toM xs) b p) b).length (ints (membersTo (fun b => reach (toM xs) b p) b)) := ownsRow_ext ho h6.ext
          refine ⟨rfl, rfl, rfl, w.heap.size, _, _, [.int .i64 b], ho6, (E5.trans h6.ext).size, Nat.lt_add_one 0, rfl, rfl, .inr ⟨g6, 0, rfl, Rd.of_block h6.here⟩, rfl, rfl, by omega, by simp only [maxLen]; omega, ?_⟩
          intro v7 w7 ho7 hg7 _
          refine ⟨_, next, ?_⟩
          refine ⟨(b + 1, v7), ⟨rfl, rfl, rfl, rfl, rfl, trivial⟩, ⟨hlt, app_ext (E5.trans h6.ext) ho6 hg7, only_app ho6 hg7 _ _ _ _ (hw5.ext h6.ext) (by decide), ?_⟩, by show n - (b + 1) < n - b; omega⟩
          show w7.ownsRow _ _ _ _ _ _
          rw [hs, List.length_append, ints_append]
          exact ho7
        · rw [if_neg (by rw [hr]; decide)] at hs
          refine ⟨_, next, ?_⟩
          refine ⟨(b + 1, v), ⟨rfl, rfl, rfl, rfl, rfl, trivial⟩, ⟨hlt, E5, hw5, ?_⟩, by show n - (b + 1) < n - b; omega⟩
          show w5.ownsRow _ _ _ _ _ _
          rw [hs]
          exact ho
      · have : b = n := by have : ¬ (b : Int) < n := hge; omega
        subst this
        exact ⟨ho, E5⟩
  · refine (open_no (h.ext M1.ext) hv).mono ?_
    rintro v w2 ⟨rfl, he⟩
    rw [beforeL_no (fun hh => hv hh.1)]
    exact ⟨World.ownsRow_nil _ _ _ _, (M1.grow he).ext⟩


set_option maxRecDepth 100000 in
theorem refBefore_spec {N : Int} {A : Option Addr} {xs : List Arrow} {c : Nat} {w : World} (h : HRel w N A xs c) (a : Int) :
    CallsV C.P 36 #[relVal N A xs.length c, .int .i64 a] w fun v w' => NewInts w w' v (beforeL N xs a) ∧ Ext w w' := by
  refine callsV_of C_ok (args := [_, _]) (plans := []) Try.func36 rfl Try.ntmps36 (by kernel_rfl) (Nat.le_of_ble_eq_true rfl) ?_
  intro g1 w1 h1
  have M1 := (Mem.start w).alloc h1
  refine ⟨[.int .i64 N, .slice A xs.length c], rfl, M1.rd 0 rfl, ?_⟩
  refine (refCheck_spec (h.ext M1.ext)).mono ?_
  rintro v w2 ⟨rfl, e2⟩
  have M2 := M1.grow e2
  refine brE_mk (fun hb0 => ?_) (fun hb0 => ?_)
  · have hv : chk N xs ≠ 0 := by simpa using hb0
    rw [beforeL_no (fun hh => hv hh.1)]
    exact ⟨World.ownsRow_nil _ _ _ _, M2.ext⟩
  have hv : chk N xs = 0 := by simpa using hb0
  have hok := valid_of_chk hv
  have hN := hok.hi
  refine ⟨[.int .i64 N, .slice A xs.length c], rfl, M2.rd 0 rfl, ?_⟩
  refine (refIn_spec N A xs.length c a w2).mono ?_
  rintro v w3 ⟨rfl, e3⟩
  have M3 := M2.grow e3
  refine brE_mk (fun hb => ?_) (fun hb => ?_)
  · rw [Bool.not_eq_true'] at hb
    rw [beforeL_no (fun hh => by rw [hb] at hh; cases hh.2)]
    exact ⟨World.ownsRow_nil _ _ _ _, M3.ext⟩
  rw [Bool.not_eq_false'] at hb
  rw [beforeL, if_pos ⟨hv, hb⟩]
  obtain ⟨p, rfl, hp⟩ := inR_nat hb
  obtain ⟨n, rfl⟩ := Int.eq_ofNat_of_zero_le hok.lo
  have hp24 : p < 24 := by omega
  refine ⟨[.int .i64 n, .slice A xs.length c], rfl, M3.rd 0 rfl, ?_⟩
  refine (Reach_spec (h.ext M3.ext) hok).mono ?_
  rintro v w4 ⟨rfl, e4⟩
  have M4 := M3.grow e4
  intro g5 w5 h5
  have M5 := M4.alloc h5
  refine ⟨mat_size _, _, _, M5.get 0 rfl, Nat.le_of_ble_eq_true rfl, bools_one 576 _, ?_⟩
  intro w6 h6
  have h6 : Put w5 g5 (.cells (mat (reach (toM xs))).toArray 93 (0, 0)) w6 := by
    have := mat_copy (reach (toM xs)) fun _ _ => false
    rw [← mat_zero] at this
    rw [← this]; exact h6
  have M6 := M5.put 0 rfl h6
  generalize reach (toM xs) = R at *
  have hn : n ≤ 24 := by omega
  refine loopE C_ok (fun (s : Nat × Value) => [(1, .int .i64 p), (2, .pointer (some ⟨g1, 0, none⟩)), (5, .pointer (some ⟨g5, 0, none⟩)), (6, s.2), (7, .int .i64 s.1)])
    (fun s w' => s.1 ≤ n ∧ Ext w w' ∧ w'.heap[g5]? = some (.cells (mat R).toArray 93 (0, 0)) ∧ w'.heap[g1]? = some (.cells #[.int .i64 n, .slice A xs.length c] 24 (0, 0)) ∧ NewInts w w' s.2 (membersTo (fun b => R b p) s.1)) (fun s => n - s.1) (0, .slice none 0 0) ⟨rfl, rfl, rfl, rfl, rfl, trivial⟩
    ⟨Nat.zero_le _, M6.ext, M6.get 0 rfl, M6.get 1 rfl, World.ownsRow_nil _ _ _ _⟩ ?_
  rintro ⟨b, v⟩ w5 ⟨hb, E5, hm5, hr5, ho⟩
  have hb : b ≤ n := hb
  have ho : NewInts w w5 v (membersTo (fun b => R b p) b) := ho
  refine ⟨_, cell_of_block hr5 rfl, ?_⟩
  refine brE_dec (fun hlt => ?_) (fun hge => ?_)
  · have hlt : b < n := by have : (b : Int) < n := hlt; omega
    have hb24 : b < 24 := by omega
    have hs := membersTo_succ (fun b => R b p) b
    have hml := membersTo_length (fun b => R b p) b
    have next : IntKind.i64.wrap ((b : Int) + 1) = ((b + 1 : Nat) : Int) := fit ⟨by omega, by omega⟩
    refine ⟨b, rfl, hb24, ?_⟩
    refine ⟨p, rfl, hp24, ?_⟩
    refine ⟨_, mat_cell hm5 hb24 hp24, ?_⟩
    refine brE_mk (fun hr => ?_) (fun hr => ?_)
    · rw [if_pos hr] at hs
      intro g6 w6 h6
      have ho6 : w6.ownsRow w.heap.size 3 1 v (membersTo (fun b => R b p) b).length (ints (membersTo (fun b => R b p) b)) := ownsRow_ext ho h6.ext
      refine ⟨rfl, rfl, rfl, w.heap.size, _, _, [.int .i64 b], ho6, (E5.trans h6.ext).size, Nat.lt_add_one 0, rfl, rfl, .inr ⟨g6, 0, rfl, Rd.of_block h6.here⟩, rfl, rfl, by omega, by simp only [maxLen]; omega, ?_⟩
      intro v7 w7 ho7 hg7 _
      have o7 := only_app ho6 hg7
      refine ⟨_, next, ?_⟩
      refine ⟨(b + 1, v7), ⟨rfl, rfl, rfl, rfl, rfl, trivial⟩, ⟨hlt, app_ext (E5.trans h6.ext) ho6 hg7, o7 _ _ _ _ (h6.ext.heap hm5) (by decide), o7 _ _ _ _ (h6.ext.heap hr5) (by decide), ?_⟩, by show n - (b + 1) < n - b; omega⟩
      show w7.ownsRow _ _ _ _ _ _
      rw [hs, List.length_append, ints_append]
      exact ho7
    · rw [if_neg (by rw [hr]; decide)] at hs
      refine ⟨_, next, ?_⟩
      refine ⟨(b + 1, v), ⟨rfl, rfl, rfl, rfl, rfl, trivial⟩, ⟨hlt, E5, hm5, hr5, ?_⟩, by show n - (b + 1) < n - b; omega⟩
      show w5.ownsRow _ _ _ _ _ _
      rw [hs]
      exact ho
  · have : b = n := by have : ¬ (b : Int) < n := hge; omega
    subst this
    exact ⟨ho, E5⟩

set_option maxRecDepth 100000 in
theorem refCheckChain_spec {N : Int} {A B : Option Addr} {xs : List Arrow} {c d : Nat} {w : World} (h : HRel w N A xs c) (a b : Int) {l : List Int} (hr : Reads w B (ints l)) (hl : l.length ≤ 9223372036854775807) :
    CallsV C.P 34 #[relVal N A xs.length c, .int .i64 a, .int .i64 b, .slice B l.length d] w fun v w' => v = .bool (checkS N xs a b l) ∧ Ext w w' := by
  refine callsV_of C_ok (args := [_, _, _, _]) (plans := plans34) Try.func34 rfl Try.ntmps34 (by kernel_rfl) (Nat.le_of_ble_eq_true rfl) ?_
  intro g1 w1 h1
  have M1 := (Mem.start w).alloc h1
  refine ⟨[.int .i64 N, .slice A xs.length c], rfl, M1.rd 0 rfl, ?_⟩
  refine (refCheck_spec (h.ext M1.ext)).mono ?_
  rintro v w2 ⟨rfl, e2⟩
  have M2 := M1.grow e2
  refine brE_mk (fun hb0 => ?_) (fun hb0 => ?_)
  · have hv : chk N xs ≠ 0 := by simpa using hb0
    exact ⟨by simp [checkS, hv], M2.ext⟩
  have hv : chk N xs = 0 := by simpa using hb0
  have hok := valid_of_chk hv
  have hN := hok.hi
  have hr2 := hr.ext M2.ext
  refine brE_dec (fun h2 => ?_) (fun h2 => ?_)
  · have h2 : l.length < 2 := by omega
    exact ⟨by simp only [checkS, chainOk, h2, decide_true, Bool.not_true, Bool.and_false, Bool.false_and], M2.ext⟩
  have h2 : 2 ≤ l.length := by omega
  obtain ⟨bb, oo, hB, hc0⟩ := Reads.int hr2 (i := 0) (by omega)
  refine ⟨0, bb, oo, rfl, by omega, hB, ?_⟩
  refine ⟨_, by simpa using hc0, ?_⟩
  have hhead := head_at (l := l) (by omega)
  refine brE_mk (fun hb3 => ?_) (fun hb3 => ?_)
  · have : l[0] ≠ a := by simpa using hb3
    exact ⟨by simp [checkS, chainOk, hhead, this], M2.ext⟩
  have hb3 : l[0] = a := by simpa using hb3
  obtain ⟨bb, oo, hB, hc1⟩ := Reads.int hr2 (i := l.length - 1) (by omega)
  refine ⟨((l.length - 1 : Nat) : Int), by rw [fit ⟨by omega, by omega⟩]; omega, ?_⟩
  refine ⟨l.length - 1, bb, oo, rfl, by omega, hB, ?_⟩
  refine ⟨_, by simpa using hc1, ?_⟩
  have hlast : l.getLast? = some l[l.length - 1] := by rw [List.getLast?_eq_getElem?]; simp
  refine brE_mk (fun hb4 => ?_) (fun hb4 => ?_)
  · have : l[l.length - 1] ≠ b := by simpa using hb4
    exact ⟨by simp [checkS, chainOk, hlast, this], M2.ext⟩
  have hb4 : l[l.length - 1] = b := by simpa using hb4
  have h2' : ¬ l.length < 2 := by omega
  have hno : ∀ i (hi : i < l.length), inR N l[i] = false → checkS N xs a b l = false := fun i hi hf => by
    have : l.all (inR N) = false := List.all_eq_false.2 ⟨l[i], List.getElem_mem hi, by rw [hf]; decide⟩
    simp only [checkS, chainOk, this, Bool.and_false, Bool.false_and]
  have hfin : (∀ i (hi : i < l.length), inR N l[i] = true) → checkS N xs a b l = linksB (toM xs) l := fun hall => by
    have h3 : l.all (inR N) = true := List.all_eq_true.2 fun x hx => by
      obtain ⟨i, hi, rfl⟩ := List.getElem_of_mem hx
      exact hall i hi
    have ha := hall 0 (by omega)
    have hb := hall (l.length - 1) (by omega)
    rw [hb3] at ha
    rw [hb4] at hb
    rw [checkS, chainOk, ha, hb, h3, hhead, hlast, hb3, hb4, hv]
    simp [h2']
  have hlk : linksB (toM xs) l = false → checkS N xs a b l = false := fun hf => by simp only [checkS, chainOk, hf, Bool.and_false]
  refine ⟨[.int .i64 N, .slice A xs.length c], rfl, M2.rd 0 rfl, ?_⟩
  refine (steps_spec (h.ext M2.ext) hok).mono ?_
  rintro v w3 ⟨rfl, e3⟩
  have M3 := M2.grow e3
  intro g4 w4 h4
  have M4 := M3.alloc h4
  refine ⟨mat_size _, _, _, M4.get 0 rfl, Nat.le_of_ble_eq_true rfl, bools_one 576 _, ?_⟩
  intro w5 h5
  have h5 : Put w4 g4 (.cells (mat (toM xs)).toArray 93 (0, 0)) w5 := by
    have := mat_copy (toM xs) fun _ _ => false
    rw [← mat_zero] at this
    rw [← this]; exact h5
  have M5 := M4.put 0 rfl h5
  refine loopE C_ok (fun (i : Nat) => [(3, .slice B l.length d), (4, .pointer (some ⟨g1, 0, none⟩)), (9, .pointer (some ⟨g4, 0, none⟩)), (10, .int .i64 i)])
    (fun i w' => Ext w5 w' ∧ i ≤ l.length ∧ (∀ j (hj : j < l.length), j < i → inR N l[j] = true) ∧ ∀ j (hj : j + 1 < l.length), j + 1 < i → toM xs (l[j]).toNat (l[j + 1]).toNat = true) (fun i => l.length - i) 0 ⟨rfl, rfl, rfl, rfl, trivial⟩
    ⟨Ext.refl _, Nat.zero_le _, fun j _ hj => absurd hj (Nat.not_lt_zero _), fun j _ hj => absurd hj (Nat.not_lt_zero _)⟩ ?_
  rintro i w6 ⟨E6, hi, hin, hall⟩
  have M6 := M5.grow E6
  refine brE_dec (fun hlt => ?_) (fun hge => ?_)
  · have hlt : i < l.length := by have : (i : Int) < (l.length : Nat) := hlt; omega
    have hr6 := hr.ext M6.ext
    obtain ⟨b2, o2, hB2, hc2⟩ := Reads.int hr6 (i := i) hlt
    refine ⟨[.int .i64 N, .slice A xs.length c], rfl, M6.rd 1 rfl, ?_⟩
    refine ⟨i, b2, o2, rfl, hlt, hB2, ?_⟩
    refine ⟨_, by simpa using hc2, ?_⟩
    refine (refIn_spec N A xs.length c l[i] w6).mono ?_
    rintro v w7 ⟨rfl, e7⟩
    have M7 := M6.grow e7
    refine brE_mk (fun hb => ?_) (fun hb => ?_)
    · rw [Bool.not_eq_true'] at hb
      exact ⟨by rw [hno i hlt hb], M7.ext⟩
    rw [Bool.not_eq_false'] at hb
    have next : IntKind.i64.wrap ((i : Int) + 1) = ((i + 1 : Nat) : Int) := fit ⟨by omega, by omega⟩
    have hin' : ∀ j (hj : j < l.length), j < i + 1 → inR N l[j] = true := fun j hj hji => by
      rcases Nat.lt_or_ge j i with h | h
      · exact hin j hj h
      · obtain rfl : j = i := by omega
        exact hb
    refine brE_dec (fun hi0 => ?_) (fun hi0 => ?_)
    · obtain ⟨k, rfl⟩ : ∃ k, i = k + 1 := ⟨i - 1, by have : (i : Int) > 0 := hi0; omega⟩
      have hr7 := hr.ext M7.ext
      obtain ⟨b1, o1, hB1, hc1⟩ := Reads.int hr7 (i := k) (by omega)
      obtain ⟨b2, o2, hB2, hc2⟩ := Reads.int hr7 (i := k + 1) hlt
      obtain ⟨p, ep, hp⟩ := inR_nat (hin k (by omega) (by omega))
      obtain ⟨q, eq, hq⟩ := inR_nat hb
      rw [ep] at hc1
      rw [eq] at hc2
      refine ⟨(k : Int), by rw [fit ⟨by omega, by omega⟩]; omega, ?_⟩
      refine ⟨k, b1, o1, rfl, (by omega : k < l.length), hB1, ?_⟩
      refine ⟨_, by simpa using hc1, ?_⟩
      refine ⟨k + 1, b2, o2, rfl, hlt, hB2, ?_⟩
      refine ⟨_, by simpa using hc2, ?_⟩
      refine ⟨p, rfl, by omega, ?_⟩
      refine ⟨q, rfl, by omega, ?_⟩
      refine ⟨_, mat_cell (M7.get 0 rfl) (by omega) (by omega), ?_⟩
      refine brE_mk (fun hb5 => ?_) (fun hb5 => ?_)
      · refine ⟨?_, M7.ext⟩
        rw [hlk]
        cases hx : linksB (toM xs) l with
        | false => rfl
        | true =>
          have := linksB_at.1 hx k hlt
          rw [ep, eq] at this
          simp at this
          rw [this] at hb5; cases hb5
      · have hb5 : toM xs p q = true := by simpa using hb5
        refine ⟨_, next, ?_⟩
        refine ⟨k + 1 + 1, ⟨rfl, rfl, rfl, rfl, trivial⟩, ⟨E6.trans e7, hlt, hin', fun j hj hj1 => ?_⟩, by omega⟩
        rcases Nat.lt_or_ge (j + 1) (k + 1) with h | h
        · exact hall j hj h
        · obtain rfl : j = k := by omega
          rw [ep, eq]; simpa using hb5
    · obtain rfl : i = 0 := by have : ¬ (i : Int) > 0 := hi0; omega
      refine ⟨_, next, ?_⟩
      exact ⟨0 + 1, ⟨rfl, rfl, rfl, rfl, trivial⟩, ⟨E6.trans e7, hlt, hin', fun j hj hj1 => by omega⟩, by omega⟩
  · have : i = l.length := by have : ¬ (i : Int) < (l.length : Nat) := hge; omega
    subst this
    refine ⟨?_, M6.ext⟩
    rw [hfin fun i hi => hin i hi hi, linksB_at.2 fun j hj => hall j hj hj]

end Go.Proofs.Ytdfhfehlmonjjaa
