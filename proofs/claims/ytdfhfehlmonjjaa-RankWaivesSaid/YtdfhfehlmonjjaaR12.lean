/- slices.Grow, slices.Concat; rank: Settled. -/
import Derived.Test.YtdfhfehlmonjjaaR11
namespace Go.Proofs.Ytdfhfehlmonjjaa
open Go.Eng Go.RowKit

theorem Grow_spec (w : World) {i : Int} (hi0 : 0 ≤ i) (hi : i ≤ 4096) :
    CallsV C.P 85 #[.slice none 0 0, .int .i64 i] w fun v w' => NewInts w w' v [] ∧ Ext w w' := by
  refine callsV_of C_ok (args := [_, _]) (plans := []) Try.func85 rfl Try.ntmps85 (by kernel_rfl) (Nat.le_of_ble_eq_true rfl) ?_
  refine brE_dec (fun h => by have h : i < 0 := h; omega) (fun _ => ?_)
  refine ⟨_, capQ C_ok rfl rfl rfl rfl, ?_⟩
  refine ⟨0, rfl, ?_⟩
  refine ⟨i, by rw [fit ⟨by omega, by omega⟩]; omega, ?_⟩
  refine brE_dec (fun h => ?_) (fun h => ?_)
  · have h : i > 0 := h
    obtain ⟨n, rfl⟩ := Int.eq_ofNat_of_zero_le hi0
    have h : 0 < n := by omega
    refine ⟨_, capQ C_ok rfl rfl rfl rfl, ?_⟩
    refine ⟨0, 0, rfl, rfl, Nat.le_refl _, Nat.le_refl _, ?_⟩
    refine appendMake (n := n) C_ok rfl rfl rfl rfl rfl rfl rfl rfl rfl h (by simp only [maxLen]; omega) (by omega) ?_
    intro g cap w1 e1 ho
    refine ⟨0, 0, rfl, rfl, Nat.le_refl _, Nat.zero_le _, ?_⟩
    refine ⟨?_, e1⟩
    have := ownsRow_cut ho (Nat.zero_le n)
    have e : (if cap = 0 then some (⟨g, 0, none⟩ : Addr) else (some (⟨g, 0, none⟩ : Addr)).map (·.add (0 * 1))) = some ⟨g, 0, none⟩ := by
      split <;> rfl
    show w1.ownsRow _ _ _ (.slice (if cap = 0 then some (⟨g, 0, none⟩ : Addr) else (some (⟨g, 0, none⟩ : Addr)).map (·.add (0 * 1))) 0 cap) _ _
    rw [e]
    show w1.ownsRow _ _ _ _ 0 []
    simpa using this
  · exact ⟨World.ownsRow_nil _ _ _ _, Ext.refl _⟩


theorem flat_take {L : List (List Int)} {i : Nat} (hi : i < L.length) : (L.take (i + 1)).flatten = (L.take i).flatten ++ L[i] := by
  rw [List.take_succ_eq_append_getElem hi, List.flatten_append]; simp

theorem flat_le {L : List (List Int)} {k : Nat} (h : ∀ l ∈ L, l.length ≤ k) : L.flatten.length ≤ L.length * k := by
  induction L with
  | nil => simp
  | cons l L ih =>
    have h1 := h l (by simp)
    have h2 := ih fun l hl => h l (by simp [hl])
    simp only [List.flatten_cons, List.length_append, List.length_cons, Nat.succ_mul]
    omega

theorem flat_take_le {L : List (List Int)} {k : Nat} (h : ∀ l ∈ L, l.length ≤ k) (i : Nat) : (L.take i).flatten.length ≤ L.length * k := by
  have := flat_le (L := L.take i) fun l hl => h l (List.mem_of_mem_take hl)
  have h2 : (L.take i).length * k ≤ L.length * k := Nat.mul_le_mul_right _ (by simp; omega)
  omega

theorem Concat_spec {w : World} {A : Option Addr} {c : Nat} {L : List (List Int)} {us : List Value} (hr : RList w A L us) (hL : L.length ≤ 24) (h24 : ∀ l ∈ L, l.length ≤ 24) (hne : ∀ l ∈ L, l ≠ []) :
    CallsV C.P 62 #[.slice A L.length c] w fun v w' => NewInts w w' v L.flatten ∧ Ext w w' := by
  refine callsV_of C_ok (args := [_]) (plans := []) Try.func62 rfl Try.ntmps62 (by kernel_rfl) (Nat.le_of_ble_eq_true rfl) ?_
  have hb0 : L.length * 24 ≤ 24 * 24 := Nat.mul_le_mul_right _ hL
  refine loopE C_ok (fun (i : Nat) => [(0, .slice A L.length c), (3, .int .i64 ((L.take i).flatten.length : Nat)), (9, .slice A L.length c), (10, .int .i64 L.length), (11, .int .i64 i)])
    (fun i w' => i ≤ L.length ∧ w' = w) (fun i => L.length - i) 0 ⟨rfl, rfl, rfl, rfl, rfl, trivial⟩ ⟨Nat.zero_le _, rfl⟩ ?_
  rintro i w1 ⟨hi, rfl⟩
  refine brE_dec (fun hlt => ?_) (fun hge => ?_)
  · have hlt : i < L.length := by omega
    obtain ⟨A', c', hu, _⟩ := hr.row i hlt
    rcases hr.reads with h0 | ⟨b, o, hA, hrd⟩
    · subst h0; simp at hu
    refine ⟨i, b, o, rfl, hlt, hA, ?_⟩
    refine ⟨_, by have := hrd i _ hu; simpa using this, ?_⟩
    have h1 := flat_take_le h24 (i + 1)
    have h2 := flat_take hlt
    have h3 : (L.take (i + 1)).flatten.length = (L.take i).flatten.length + L[i].length := by rw [h2, List.length_append]
    refine ⟨(((L.take (i + 1)).flatten.length : Nat) : Int), by rw [h3, fit ⟨by omega, by omega⟩]; omega, ?_⟩
    refine brE_dec (fun h => by have h : (((L.take (i + 1)).flatten.length : Nat) : Int) < 0 := h; omega) (fun _ => ?_)
    refine ⟨((i + 1 : Nat) : Int), fit ⟨by omega, by omega⟩, ?_⟩
    exact ⟨i + 1, ⟨rfl, rfl, rfl, rfl, rfl, trivial⟩, ⟨hlt, rfl⟩, by omega⟩
  · have : i = L.length := by omega
    subst this
    rw [List.take_length]
    have h1 := flat_le h24
    refine (Grow_spec w1 (i := (L.flatten.length : Nat)) (by omega) (by omega)).mono ?_
    rintro v w2 ⟨hg, e2⟩
    refine loopE C_ok (fun (s : Nat × Value) => [(6, s.2), (25, .slice A L.length c), (26, .int .i64 L.length), (27, .int .i64 s.1)])
      (fun s w' => s.1 ≤ L.length ∧ Ext w1 w' ∧ NewInts w1 w' s.2 (L.take s.1).flatten) (fun s => L.length - s.1) (0, v) ⟨rfl, rfl, rfl, rfl, trivial⟩ ⟨Nat.zero_le _, e2, hg⟩ ?_
    rintro ⟨i, v3⟩ w3 ⟨hi, e3, ho⟩
    have hi : i ≤ L.length := hi
    have ho : NewInts w1 w3 v3 (L.take i).flatten := ho
    refine brE_dec (fun hlt => ?_) (fun hge => ?_)
    · have hlt : i < L.length := by have : (i : Int) < L.length := hlt; omega
      obtain ⟨A', c', hu, hr'⟩ := hr.row i hlt
      rcases hr.reads with h0 | ⟨b, o, hA, hrd⟩
      · subst h0; simp at hu
      refine ⟨i, b, o, rfl, hlt, hA, ?_⟩
      refine ⟨_, by have := (hrd.ext e3) i _ hu; simpa using this, ?_⟩
      have hn0 := hne L[i] (List.getElem_mem _)
      rcases hr' with h0 | ⟨b', o', rfl, hrd'⟩
      · have := congrArg List.length h0
        rw [ints_length] at this
        exact absurd (List.length_eq_zero_iff.1 this) hn0
      have h1 := flat_take_le h24 (i + 1)
      have h2 := flat_take hlt
      have h3 : (L.take (i + 1)).flatten.length = (L.take i).flatten.length + L[i].length := by rw [h2, List.length_append]
      refine ⟨rfl, rfl, rfl, w1.heap.size, (L.take i).flatten.length, ints (L.take i).flatten, ints L[i], ho, e3.size, Nat.lt_add_one 0, rfl, by rw [ints_length]; simp, .inr ⟨b', o', rfl, hrd'.ext e3⟩, rfl, by simp [ints, Value.oneCell'], by omega, by simp only [maxLen]; omega, ?_⟩
      intro v4 w4 ho4 hg4 _
      refine ⟨((i + 1 : Nat) : Int), fit ⟨by omega, by omega⟩, ?_⟩
      refine ⟨(i + 1, v4), ⟨rfl, rfl, rfl, rfl, trivial⟩, ⟨hlt, app_ext e3 ho hg4, ?_⟩, by show L.length - (i + 1) < L.length - i; omega⟩
      show w4.ownsRow _ _ _ _ _ _
      rw [h2, List.length_append, ints_append]
      exact ho4
    · have : i = L.length := by have : ¬ (i : Int) < L.length := hge; omega
      subst this
      rw [List.take_length] at ho
      exact ⟨ho, e3⟩

theorem compsF_props {n : Nat} {R : Nat → Nat → Bool} (hn : n ≤ 24) : ∀ (m : Nat) (D : Nat → Bool), (compsF n R m D).length ≤ m ∧ ∀ l ∈ compsF n R m D, ∃ a < n, l = members (compS n R a)
  | 0, D => ⟨by simp [compsF], fun l h => by simp [compsF] at h⟩
  | m + 1, D => by
    rw [compsF]
    cases hf : (List.range n).find? fun a => !(D a || precS n R a (compS n R a) D) with
    | none => exact ⟨by simp, fun l h => by simp at h⟩
    | some a =>
      have ih := compsF_props (R := R) hn m (orS D (compS n R a))
      refine ⟨by simpa using ih.1, fun l hl => ?_⟩
      rcases List.mem_cons.1 hl with rfl | hl
      · exact ⟨a, List.mem_range.1 (List.mem_of_find?_eq_some hf), rfl⟩
      · exact ih.2 l hl

theorem members_ne {S : Nat → Bool} {a : Nat} (ha : a < 24) (h : S a = true) : members S ≠ [] := by
  obtain ⟨i, hi, _⟩ := members_mem ha h
  intro e
  rw [e] at hi
  simp at hi

theorem compsL_props {n : Nat} {R : Nat → Nat → Bool} (hn : n ≤ 24) : (compsL n R).length ≤ 24 ∧ (∀ l ∈ compsL n R, l.length ≤ 24) ∧ ∀ l ∈ compsL n R, l ≠ [] := by
  have h := compsF_props (R := R) hn 24 fun _ => false
  refine ⟨h.1, fun l hl => ?_, fun l hl => ?_⟩
  · obtain ⟨a, _, rfl⟩ := h.2 l hl
    exact membersTo_length _ 24
  · obtain ⟨a, ha, rfl⟩ := h.2 l hl
    exact members_ne (by omega) (comp_refl ha)

theorem compsV_props {N : Int} {xs : List Arrow} : (compsV N xs).length ≤ 24 ∧ (∀ l ∈ compsV N xs, l.length ≤ 24) ∧ ∀ l ∈ compsV N xs, l ≠ [] := by
  unfold compsV
  split
  · rename_i h
    have hok := valid_of_chk h
    have := hok.hi
    exact compsL_props (by omega)
  · exact ⟨by simp, fun l h => by simp at h, fun l h => by simp at h⟩

noncomputable def settledB (N : Int) (xs : List Arrow) : Bool := decide (chk N xs = 0) && decide (unsetL N xs = [])
noncomputable def settledL (N : Int) (xs : List Arrow) : List Int := if settledB N xs then (compsV N xs).flatten else []

theorem Settled_spec {N : Int} {A : Option Addr} {xs : List Arrow} {c : Nat} {w : World} (h : HRel w N A xs c) :
    CallsV C.P 20 #[relVal N A xs.length c] w fun v w' => (∃ u, v = .tuple #[u, .bool (settledB N xs)] ∧ NewInts w w' u (settledL N xs)) ∧ Ext w w' := by
  refine callsV_of C_ok (args := [_]) (plans := []) Try.func20 rfl Try.ntmps20 (by kernel_rfl) (Nat.le_of_ble_eq_true rfl) ?_
  intro g1 w1 h1
  have M1 := (Mem.start w).alloc h1
  refine ⟨[.int .i64 N, .slice A xs.length c], rfl, M1.rd 0 rfl, ?_⟩
  refine (Unsettled_spec (h.ext M1.ext)).mono ?_
  rintro v w2 ⟨⟨u, rfl, hp⟩, e2⟩
  have M2 := M1.grow e2
  refine brE_mk (fun hb => ?_) (fun hb => ?_)
  · have : chk N xs ≠ 0 := by simpa using hb
    refine ⟨⟨.slice none 0 0, ?_, ?_⟩, M2.ext⟩
    · simp [settledB, this]
    · simp [settledL, settledB, this]; exact World.ownsRow_nil _ _ _ _
  · have hv : chk N xs = 0 := by simpa using hb
    obtain ⟨A3, c3, rfl, _, _⟩ := reads_of_owns hp
    refine brE_dec (fun hg => ?_) (fun hg => ?_)
    · have : unsetL N xs ≠ [] := by intro e; rw [e] at hg; simp at hg
      refine ⟨⟨.slice none 0 0, ?_, ?_⟩, M2.ext⟩
      · simp [settledB, this]
      · simp [settledL, settledB, this]; exact World.ownsRow_nil _ _ _ _
    · have hn : unsetL N xs = [] := by
        cases hx : unsetL N xs with
        | nil => rfl
        | cons a l => rw [hx] at hg; simp at hg
      have hs : settledB N xs = true := by simp [settledB, hv, hn]
      refine ⟨[.int .i64 N, .slice A xs.length c], rfl, M2.rd 0 rfl, ?_⟩
      refine (Components_spec (h.ext M2.ext)).mono ?_
      rintro v w3 ⟨hl, e3⟩
      obtain ⟨A4, c4, us, rfl, hrl⟩ := hl.read
      have hpr := compsV_props (N := N) (xs := xs)
      refine (Concat_spec hrl hpr.1 hpr.2.1 hpr.2.2).mono ?_
      rintro v w4 ⟨ho, e4⟩
      refine ⟨⟨v, by rw [hs], ?_⟩, (M2.ext.trans e3).trans e4⟩
      rw [settledL, if_pos hs]
      exact ownsRow_base ho (M2.ext.trans e3).size

end Go.Proofs.Ytdfhfehlmonjjaa
