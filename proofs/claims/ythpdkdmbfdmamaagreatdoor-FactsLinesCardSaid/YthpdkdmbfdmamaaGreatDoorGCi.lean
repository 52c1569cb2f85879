/- a part of the proof: steps, walks and plain laws that the law below stands on; no condition. -/
import Derived.Test.YthpdkdmbfdmamaaGreatDoorGCd
import Derived.Test.YthpdkdmbfdmamaaGreatDoorGBe
set_option linter.unusedVariables false
set_option linter.unusedSimpArgs false
set_option linter.unnecessarySimpa false
set_option linter.unusedSectionVars false
namespace Go.Proofs.YthpdkdmbfdmamaaGreatDoor
open Go.Eng Go.RowKit

theorem Credentials_spec {w : World} {A : Option Addr} {l : List Fact} {c : Nat} (h : HF w A l c) (hl : l.length ≤ 2 ^ 20) (k day n s : Int) :
    CallsV C.P 75 #[.slice A l.length c, .int .i64 k, .int .i64 day, .int .i64 n, .int .i64 s] w fun v w' => v = .int .i64 (credL (atL k day l) n s) ∧ Ext w w' := by
  refine callsV_of C_ok (args := [_, _, _, _, _]) (plans := []) Tryz.func75 rfl Tryz.ntmps75 (by kernel_rfl) (Nat.le_of_ble_eq_true rfl) ?_
  intro g8 u1 h8
  have M8 := (Mem.start w).alloc h8
  intro g9 u2 h9
  have M9 := M8.alloc h9
  refine (look_spec (h.ext M9.ext) hl k day).mono ?_
  rintro v w1 ⟨hK, e1⟩
  have M1 := M9.grow e1
  have hkl := atL_length k day l
  generalize atL k day l = K at *
  obtain ⟨AK, cK, rfl, hrK, _⟩ := hK.slice
  refine ⟨[], [.pointer (some ⟨g8, 0, none⟩), .pointer (some ⟨g9, 0, none⟩)], rfl, rfl, ?_⟩
  refine (last_spec (p := credB n s) hrK (by omega) rfl fun x w' e => Credentials1_spec x w' (e.heap (M1.get 1 rfl)) (e.heap (M1.get 0 rfl))).mono ?_
  rintro v w2 ⟨rfl, e2⟩
  have M2 := M1.grow e2
  unfold credL
  cases hlast : lastP (credB n s) K with
  | none =>
    intro g w3 h3
    have M3 := M2.alloc h3
    refine ⟨rfl, _, _, h3.here, Nat.le_of_ble_eq_true rfl, rfl, ?_⟩
    intro w4 h4
    exact ⟨rfl, (M3.put 0 rfl h4).ext⟩
  | some y =>
    intro g w3 h3
    have M3 := M2.alloc h3
    refine ⟨rfl, _, _, h3.here, Nat.le_of_ble_eq_true rfl, rfl, ?_⟩
    intro w4 h4
    have h4 : Put w3 g (.cells y.cells.toArray 29 (0, 0)) w4 := h4
    refine ⟨_, cell_of_block h4.here rfl, ?_⟩
    exact ⟨rfl, (M3.put 0 rfl h4).ext⟩

theorem spouseL_some {c : List Fact} {p : Int} {y : Fact} (h : lastP (marriedB p) c = some y) : spouseL c p = if (deadB c y.who || deadB c y.other) = true then (0, false) else if y.who = p then (y.other, true) else (y.who, true) := by
  unfold spouseL; rw [h]
theorem spouseL_none {c : List Fact} {p : Int} (h : lastP (marriedB p) c = none) : spouseL c p = (0, false) := by
  unfold spouseL; rw [h]
theorem Spouse_spec {w : World} {A : Option Addr} {l : List Fact} {c : Nat} (h : HF w A l c) (hl : l.length ≤ 2 ^ 20) (k day n : Int) :
    CallsV C.P 55 #[.slice A l.length c, .int .i64 k, .int .i64 day, .int .i64 n] w fun v w' => v = .tuple #[.int .i64 (spouseL (atL k day l) n).1, .bool (spouseL (atL k day l) n).2] ∧ Ext w w' := by
  refine callsV_of C_ok (args := [_, _, _, _]) (plans := []) Tryz.func55 rfl Tryz.ntmps55 (by kernel_rfl) (Nat.le_of_ble_eq_true rfl) ?_
  intro g7 u1 h7
  have M7 := (Mem.start w).alloc h7
  refine (look_spec (h.ext M7.ext) hl k day).mono ?_
  rintro v w1 ⟨hK, e1⟩
  have M1 := M7.grow e1
  have hkl := atL_length k day l
  generalize atL k day l = K at *
  obtain ⟨AK, cK, rfl, hrK, _⟩ := hK.slice
  have hKl : K.length ≤ 2 ^ 20 := by omega
  refine ⟨[], [.pointer (some ⟨g7, 0, none⟩)], rfl, rfl, ?_⟩
  refine (last_spec (p := marriedB n) hrK hKl rfl fun x w' e => Spouse1_spec x w' (e.heap (M1.get 0 rfl))).mono ?_
  rintro v w2 ⟨rfl, e2⟩
  have M2 := M1.grow e2
  have hr2 := hrK.ext e2
  cases hlast : lastP (marriedB n) K with
  | none =>
    intro g w3 h3
    have M3 := M2.alloc h3
    refine ⟨rfl, _, _, h3.here, Nat.le_of_ble_eq_true rfl, rfl, ?_⟩
    intro w4 h4
    exact ⟨by rw [spouseL_none hlast], (M3.put 0 rfl h4).ext⟩
  | some y =>
    have hsp := spouseL_some hlast
    intro g w3 h3
    have M3 := M2.alloc h3
    refine ⟨rfl, _, _, h3.here, Nat.le_of_ble_eq_true rfl, rfl, ?_⟩
    intro w4 h4
    have h4 : Put w3 g (.cells y.cells.toArray 29 (0, 0)) w4 := h4
    have e24 : Ext w2 w4 := h4.ext_of h3.ext (by rw [h3.new]; exact Nat.le_refl _)
    have M4 : Mem w w4 [(g, .cells y.cells.toArray 29 (0, 0)), (g7, .cells #[.int .i64 n] 3 (0, 0))] := M3.put 0 rfl h4
    refine ⟨_, M4.cell 0 rfl rfl, ?_⟩
    refine (vdead_spec (hr2.ext e24) hKl y.who).mono ?_
    rintro v w5 ⟨rfl, e5⟩
    have M5 := M4.grow e5
    refine brE_mk (fun a1 => ?_) (fun a1 => ?_)
    · rw [a1, Bool.true_or, if_pos rfl] at hsp
      exact ⟨by rw [hsp], M5.ext⟩
    rw [a1, Bool.false_or] at hsp
    refine ⟨_, M5.cell 0 rfl rfl, ?_⟩
    refine (vdead_spec ((hr2.ext e24).ext e5) hKl y.other).mono ?_
    rintro v w6 ⟨rfl, e6⟩
    have M6 := M5.grow e6
    refine brE_mk (fun a2 => ?_) (fun a2 => ?_)
    · rw [a2, if_pos rfl] at hsp
      exact ⟨by rw [hsp], M6.ext⟩
    rw [a2, if_neg (by decide)] at hsp
    refine ⟨_, M6.cell 0 rfl rfl, ?_⟩
    refine ⟨_, M6.cell 1 rfl rfl, ?_⟩
    refine brE_dec (fun a3 => ?_) (fun a3 => ?_)
    · have a3 : y.who = n := a3
      rw [if_pos a3] at hsp
      refine ⟨_, M6.cell 0 rfl rfl, ?_⟩
      exact ⟨by rw [hsp]; rfl, M6.ext⟩
    · have a3 : ¬ y.who = n := a3
      rw [if_neg a3] at hsp
      refine ⟨_, M6.cell 0 rfl rfl, ?_⟩
      exact ⟨by rw [hsp]; rfl, M6.ext⟩

set_option maxRecDepth 100000 in
theorem Visit_spec {w : World} {A : Option Addr} {l : List Fact} {c : Nat} (h : HF w A l c) (hl : l.length ≤ 2 ^ 20) (k day n s : Int) :
    CallsV C.P 77 #[.slice A l.length c, .int .i64 k, .int .i64 day, .int .i64 n, .int .i64 s] w fun v w' => v = .int .i64 (visitL (atL k day l) n s) ∧ Ext w w' := by
  refine callsV_of C_ok (args := [_, _, _, _, _]) (plans := []) Tryz.func77 rfl Tryz.ntmps77 (by kernel_rfl) (Nat.le_of_ble_eq_true rfl) ?_
  refine (look_spec h hl k day).mono ?_
  rintro v w1 ⟨hK, e1⟩
  have hkl := atL_length k day l
  generalize atL k day l = K at *
  obtain ⟨AK, cK, rfl, hrK, _⟩ := hK.slice
  have hKl : K.length ≤ 2 ^ 20 := by omega
  unfold visitL
  refine loopE C_ok (fun (t : Nat × Int × Bool) => [(3, .int .i64 n), (4, .int .i64 s), (11, .int .i64 t.2.1), (12, .bool t.2.2), (18, .slice AK K.length cK), (19, .int .i64 K.length), (20, .int .i64 t.1)])
    (fun t w' => t.1 ≤ K.length ∧ Ext w1 w' ∧ (t.2.1, t.2.2) = visitAt n s (0, false) (K.take t.1)) (fun t => K.length - t.1) (0, 0, false)
    ⟨rfl, rfl, rfl, rfl, rfl, rfl, rfl, trivial⟩ ⟨Nat.zero_le _, Ext.refl _, rfl⟩ ?_
  rintro ⟨i, a, b⟩ w2 ⟨hi', e2, hv'⟩
  have hi : i ≤ K.length := hi'
  have hv : (a, b) = visitAt n s (0, false) (K.take i) := hv'
  clear hi' hv'
  refine brE_dec (fun hlt => ?_) (fun hge => ?_)
  · have hlt : i < K.length := by have : (i : Int) < (K.length : Nat) := hlt; omega
    have next : IntKind.i64.wrap ((i : Int) + 1) = ((i + 1 : Nat) : Int) := fit ⟨by omega, by omega⟩
    have step : visitAt n s (0, false) (K.take (i + 1)) = if (visitB n s K[i] && (!b || decide (K[i].other < a))) = true then (K[i].other, true) else (a, b) := by
      rw [List.take_succ_eq_append_getElem hlt, visitAt_snoc, ← hv]
    obtain ⟨b1, o, hA, hc⟩ := Reads.fact (hrK.ext e2) hlt
    refine ⟨i, b1, o, rfl, hlt, hA, ?_⟩
    refine ⟨K[i].cells, rfl, hc, ?_⟩
    intro g w3 h3
    refine ⟨rfl, _, _, h3.here, Nat.le_of_ble_eq_true rfl, rfl, ?_⟩
    intro w4 h4
    have h4 : Put w3 g (.cells K[i].cells.toArray 29 (0, 0)) w4 := h4
    have e24 : Ext w2 w4 := h4.ext_of h3.ext (by rw [h3.new]; exact Nat.le_refl _)
    have skip : (visitB n s K[i] && (!b || decide (K[i].other < a))) = false → i + 1 ≤ K.length ∧ Ext w1 w4 ∧ (a, b) = visitAt n s (0, false) (K.take (i + 1)) := fun h => by
      rw [step, h, if_neg (by decide)]
      exact ⟨hlt, e2.trans e24, rfl⟩
    have take : (visitB n s K[i] && (!b || decide (K[i].other < a))) = true → i + 1 ≤ K.length ∧ Ext w1 w4 ∧ (K[i].other, true) = visitAt n s (0, false) (K.take (i + 1)) := fun h => by
      rw [step, h, if_pos rfl]
      exact ⟨hlt, e2.trans e24, rfl⟩
    refine ⟨_, cell_of_block h4.here rfl, ?_⟩
    refine brE_dec (fun a1 => ?_) (fun a1 => ?_)
    case' refine_2 =>
      have a1 : ¬ K[i].kind = 8 := a1
      refine ⟨_, next, ?_⟩
      exact ⟨(i + 1, a, b), ⟨rfl, rfl, rfl, rfl, rfl, rfl, rfl, trivial⟩, skip (by unfold visitB; rw [decide_eq_false fun h => a1 h.1]; rfl), by show K.length - (i + 1) < K.length - i; omega⟩
    have a1 : K[i].kind = 8 := a1
    refine ⟨_, cell_of_block h4.here rfl, ?_⟩
    refine brE_dec (fun a2 => ?_) (fun a2 => ?_)
    case' refine_2 =>
      have a2 : ¬ K[i].who = n := a2
      refine ⟨_, next, ?_⟩
      exact ⟨(i + 1, a, b), ⟨rfl, rfl, rfl, rfl, rfl, rfl, rfl, trivial⟩, skip (by unfold visitB; rw [decide_eq_false fun h => a2 h.2.1]; rfl), by show K.length - (i + 1) < K.length - i; omega⟩
    have a2 : K[i].who = n := a2
    refine ⟨_, cell_of_block h4.here rfl, ?_⟩
    refine brE_dec (fun a3 => ?_) (fun a3 => ?_)
    case' refine_2 =>
      have a3 : ¬ K[i].what = s := a3
      refine ⟨_, next, ?_⟩
      exact ⟨(i + 1, a, b), ⟨rfl, rfl, rfl, rfl, rfl, rfl, rfl, trivial⟩, skip (by unfold visitB; rw [decide_eq_false fun h => a3 h.2.2]; rfl), by show K.length - (i + 1) < K.length - i; omega⟩
    have a3 : K[i].what = s := a3
    have hvb : visitB n s K[i] = true := decide_eq_true ⟨a1, a2, a3⟩
    refine brE_mk (fun a4 => ?_) (fun a4 => ?_)
    · refine ⟨_, cell_of_block h4.here rfl, ?_⟩
      refine ⟨_, next, ?_⟩
      exact ⟨(i + 1, K[i].other, true), ⟨rfl, rfl, rfl, rfl, rfl, rfl, rfl, trivial⟩, take (by rw [hvb, a4]; rfl), by show K.length - (i + 1) < K.length - i; omega⟩
    refine ⟨_, cell_of_block h4.here rfl, ?_⟩
    refine brE_dec (fun a5 => ?_) (fun a5 => ?_)
    · have a5 : K[i].other < a := a5
      refine ⟨_, cell_of_block h4.here rfl, ?_⟩
      refine ⟨_, next, ?_⟩
      exact ⟨(i + 1, K[i].other, true), ⟨rfl, rfl, rfl, rfl, rfl, rfl, rfl, trivial⟩, take (by rw [hvb, decide_eq_true a5, Bool.or_true]; rfl), by show K.length - (i + 1) < K.length - i; omega⟩
    · have a5 : ¬ K[i].other < a := a5
      refine ⟨_, next, ?_⟩
      exact ⟨(i + 1, a, b), ⟨rfl, rfl, rfl, rfl, rfl, rfl, rfl, trivial⟩, skip (by rw [hvb, a4, decide_eq_false a5]; rfl), by show K.length - (i + 1) < K.length - i; omega⟩
  · have : i = K.length := by have : ¬ (i : Int) < (K.length : Nat) := hge; omega
    subst this
    rw [List.take_length] at hv
    exact ⟨by rw [← hv], e1.trans e2⟩

end Go.Proofs.YthpdkdmbfdmamaaGreatDoor

namespace Go.Proofs.YthpdkdmbfdmamaaGreatDoor
open Go.Eng Go.RowKit

theorem sortD_nodup_length {l : List Int} (h : l.Nodup) : (sortD l).length = l.length := by
  have hn : (sortD l).Nodup := (sortD_asc l).imp fun h e => by subst e; exact Int.lt_irrefl _ h
  exact ((List.perm_ext_iff_of_nodup hn h).2 fun x => mem_sortD).length_eq
theorem nodup_length_le {a l : List Int} (hn : a.Nodup) (h : ∀ x ∈ a, x ∈ l) : a.length ≤ l.length := by
  rw [← sortD_nodup_length hn]
  exact asc_length (sortD_asc a) fun x hx => h x (mem_sortD.1 hx)

theorem HF.at_nums {w : World} {A : Option Addr} {l : List Fact} {c : Nat} (h : HF w A l c) (k day : Int) : ∀ x ∈ atL k day l, x.Nums := fun x hx => h.nums x (atL_sub hx)

set_option maxRecDepth 100000 in
theorem Principal_spec {w : World} {A : Option Addr} {l : List Fact} {c : Nat} (h : HF w A l c) (hl : l.length ≤ 2 ^ 20) (k day p : Int) (hp : In64 p) :
    CallsV C.P 58 #[.slice A l.length c, .int .i64 k, .int .i64 day, .int .i64 p] w fun v w' => v = .tuple #[.int .i64 (princL (atL k day l) p).1, .bool (princL (atL k day l) p).2] ∧ Ext w w' := by
  refine callsV_of C_ok (args := [_, _, _, _]) (plans := []) Tryz.func58 rfl Tryz.ntmps58 (by kernel_rfl) (Nat.le_of_ble_eq_true rfl) ?_
  refine (look_spec h hl k day).mono ?_
  rintro v w1 ⟨hK, e1⟩
  have hkl := atL_length k day l
  have hKn := h.at_nums k day
  generalize atL k day l = K at *
  obtain ⟨AK, cK, rfl, hrK, _⟩ := hK.slice
  have hKl : K.length ≤ 2 ^ 20 := by omega
  intro gm w2 h2
  intro g12 w3 h3
  refine ⟨rfl, _, _, h3.here, Nat.le_of_ble_eq_true rfl, rfl, ?_⟩
  intro w4 h4
  have h4 : Put w3 g12 (.cells #[.int .i64 p] 3 (0, 0)) w4 := h4
  have hgm : w1.heap.size ≤ gm := by rw [h2.new]; exact Nat.le_refl _
  have hne : gm ≠ g12 := by rw [h2.new, h3.new, h2.size]; omega
  have M4 : Mem w1 w4 [(g12, .cells #[.int .i64 p] 3 (0, 0))] := (((Mem.start w1).grow h2.ext).alloc h3).put 0 rfl h4
  have s4 : SetIs w4 gm [] := (SetIs.empty (h3.ext.heap h2.here)).other h4 hne
  have hstart : princL K p = princAt K (K.length + 2 - 0) [] p := rfl
  refine loopE C_ok (fun (t : List Int × Int) => [(10, .slice AK K.length cK), (11, .map (some gm)), (12, .pointer (some ⟨g12, 0, none⟩))])
    (fun t w' => Mem w1 w' [(g12, .cells #[.int .i64 t.2] 3 (0, 0))] ∧ SetIs w' gm t.1 ∧ t.1.Nodup ∧ (∀ x ∈ t.1, x ∈ p :: K.map Fact.other) ∧ t.2 ∈ p :: K.map Fact.other ∧ princL K p = princAt K (K.length + 2 - t.1.length) t.1 t.2) (fun t => K.length + 2 - t.1.length) ([], p)
    ⟨rfl, rfl, rfl, trivial⟩ ⟨M4, s4, List.nodup_nil, (fun _ h => by cases h), by simp, hstart⟩ ?_
  rintro ⟨met, q⟩ w5 ⟨M5', s5', hnd', hsub', hq', hpr'⟩
  have M5 : Mem w1 w5 [(g12, .cells #[.int .i64 q] 3 (0, 0))] := M5'
  have s5 : SetIs w5 gm met := s5'
  have hnd : met.Nodup := hnd'
  have hsub : ∀ x ∈ met, x ∈ p :: K.map Fact.other := hsub'
  have hq : q ∈ p :: K.map Fact.other := hq'
  have hpr : princL K p = princAt K (K.length + 2 - met.length) met q := hpr'
  clear M5' s5' hnd' hsub' hq' hpr'
  have hlen := nodup_length_le hnd hsub
  simp only [List.length_cons, List.length_map] at hlen
  obtain ⟨n, hn⟩ : ∃ n, K.length + 2 - met.length = n + 1 := ⟨K.length + 1 - met.length, by omega⟩
  rw [hn, princAt] at hpr
  have hq64 : In64 q := by
    rcases List.mem_cons.1 hq with rfl | hq
    · exact hp
    · obtain ⟨x, hx, rfl⟩ := List.mem_map.1 hq
      exact (hKn x hx).other
  obtain ⟨f, hf, hf2⟩ := s5
  refine ⟨_, M5.cell 0 rfl rfl, ?_⟩
  refine ⟨_, mapGet1 C_ok (te := ty4) (x := .int .i64 q) (intKey hq64) hf intK rfl rfl rfl rfl rfl rfl (set_get hf2 _), ?_⟩
  refine brE_mk (fun a1 => ?_) (fun a1 => ?_)
  · rw [if_pos (of_decide_eq_true a1)] at hpr
    exact ⟨by rw [hpr], e1.trans M5.ext⟩
  have a1 : q ∉ met := of_decide_eq_false a1
  rw [if_neg a1] at hpr
  refine ⟨_, M5.cell 0 rfl rfl, ?_⟩
  refine mapPut C_ok rfl rfl (x := .int .i64 q) rfl rfl rfl rfl intK (intKey hq64) hf ?_
  intro o6 w6 h6 hf6
  have s6 : SetIs w6 gm (met ++ [q]) := set_put hf2 hf6
  have M6 : Mem w1 w6 [(g12, .cells #[.int .i64 q] 3 (0, 0))] := M5.grown h6.grownBy (fun q hq => by cases hq; exact hgm) (fun p hp => by
    simp at hp
    subst hp
    exact fun e => hne (by injection e with e; exact e.symm))
  have hnd6 : (met ++ [q]).Nodup := List.nodup_append.2 ⟨hnd, by simp, fun x hx y hy e => by rw [List.mem_singleton.1 hy] at e; subst e; exact a1 hx⟩
  have hsub6 : ∀ x ∈ met ++ [q], x ∈ p :: K.map Fact.other := fun x hx => by
    rcases List.mem_append.1 hx with hx | hx
    · exact hsub x hx
    · rw [List.mem_singleton.1 hx]; exact hq
  refine ⟨[], [.pointer (some ⟨g12, 0, none⟩)], rfl, rfl, ?_⟩
  refine (last_spec (p := deputyB q) (hrK.ext M6.ext) hKl rfl fun x w' e => Principal1_spec x w' (e.heap (M6.get 0 rfl))).mono ?_
  rintro v w7 ⟨rfl, e7⟩
  have M7 := M6.grow e7
  have s7 := s6.ext e7
  cases hlast : lastP (deputyB q) K with
  | none =>
    have hnx : nextL K q = none := by unfold nextL; rw [hlast]; rfl
    rw [hnx] at hpr
    intro g13 w8 h8
    refine ⟨rfl, _, _, h8.here, Nat.le_of_ble_eq_true rfl, rfl, ?_⟩
    intro w9 h9
    have e79 : Ext w7 w9 := h9.ext_of h8.ext (by rw [h8.new]; exact Nat.le_refl _)
    have M9 := M7.grow e79
    obtain ⟨es, clk, hes, hsz⟩ := (s7.ext e79).size
    rw [sortD_nodup_length hnd6, List.length_append] at hsz
    refine ⟨es, clk, hes, ?_⟩
    refine brE_dec (fun b1 => ?_) (fun b1 => ?_)
    · have b1 : (es.size : Int) = 1 := b1
      have hm0 : met.length = 0 := by simp at hsz; omega
      have hpr : princL K p = if met.length = 0 then (0, false) else (q, true) := hpr
      rw [if_pos hm0] at hpr
      exact ⟨by rw [hpr], e1.trans M9.ext⟩
    · have b1 : ¬ (es.size : Int) = 1 := b1
      have hm0 : ¬ met.length = 0 := by simp at hsz; omega
      have hpr : princL K p = if met.length = 0 then (0, false) else (q, true) := hpr
      rw [if_neg hm0] at hpr
      refine ⟨_, M9.cell 0 rfl rfl, ?_⟩
      exact ⟨by rw [hpr]; rfl, e1.trans M9.ext⟩
  | some y =>
    have hnx : nextL K q = some y.other := by unfold nextL; rw [hlast]; rfl
    rw [hnx] at hpr
    have hpr : princL K p = princAt K n (met ++ [q]) y.other := hpr
    have hy := lastP_some hlast
    intro g13 w8 h8
    refine ⟨rfl, _, _, h8.here, Nat.le_of_ble_eq_true rfl, rfl, ?_⟩
    intro w9 h9
    have h9 : Put w8 g13 (.cells y.cells.toArray 29 (0, 0)) w9 := h9
    have e79 : Ext w7 w9 := h9.ext_of h8.ext (by rw [h8.new]; exact Nat.le_refl _)
    have M9 := M7.grow e79
    refine ⟨_, cell_of_block h9.here rfl, ?_⟩
    refine ⟨rfl, _, _, M9.get 0 rfl, Nat.le_of_ble_eq_true rfl, rfl, ?_⟩
    intro w10 h10
    have M10 := M9.put 0 rfl h10
    refine ⟨(met ++ [q], y.other), ⟨rfl, rfl, rfl, trivial⟩, ⟨M10, (s7.ext e79).other h10 hne, hnd6, hsub6, ?_, ?_⟩, ?_⟩
    · exact List.mem_cons_of_mem _ (List.mem_map.2 ⟨y, hy.1, rfl⟩)
    · show princL K p = princAt K (K.length + 2 - (met ++ [q]).length) (met ++ [q]) y.other
      rw [hpr, show K.length + 2 - (met ++ [q]).length = n by simp; omega]
    · show K.length + 2 - (met ++ [q]).length < K.length + 2 - met.length
      simp; omega

end Go.Proofs.YthpdkdmbfdmamaaGreatDoor
