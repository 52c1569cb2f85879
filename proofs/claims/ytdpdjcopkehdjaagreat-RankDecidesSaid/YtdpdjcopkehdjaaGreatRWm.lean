/- a part of the proof: steps, walks and plain laws that the law below stands on; no condition. -/
import Derived.Test.YtdpdjcopkehdjaaGreatRWa
import Derived.Test.YtdpdjcopkehdjaaGreatRWb
import Derived.Test.YtdpdjcopkehdjaaGreatRWc
import Derived.Test.YtdpdjcopkehdjaaGreatRWd
import Derived.Test.YtdpdjcopkehdjaaGreatRWe
import Derived.Test.YtdpdjcopkehdjaaGreatRWf
import Derived.Test.YtdpdjcopkehdjaaGreatRWg
import Derived.Test.YtdpdjcopkehdjaaGreatRWh
import Derived.Test.YtdpdjcopkehdjaaGreatRWi
import Derived.Test.YtdpdjcopkehdjaaGreatRWj
import Derived.Test.YtdpdjcopkehdjaaGreatRWk
import Derived.Test.YtdpdjcopkehdjaaGreatRWl
import Derived.Shelf.Strings.OnBuilder
import Derived.Shelf.Strconv.AtoiAll
import Derived.Shelf.Strconv.Itoa3
import Derived.Shelf.Strings.Search2
import Derived.KernelRfl
import Derived.Test.YtdpdjcopkehdjaaGreatProg
import Derived.WideLaws
import Derived.Maps.RangeRun
import Derived.Carry
set_option linter.unusedVariables false
set_option linter.unusedSimpArgs false
set_option linter.unnecessarySimpa false
set_option linter.unusedSectionVars false
namespace Go.Proofs.YtdpdjcopkehdjaaGreat.Rk
open Go.Eng Go.RowKit
def firstE (e0 e1 e2 e3 : Int) : Int := if e0 ≠ 0 then e0 else if e1 ≠ 0 then e1 else if e2 ≠ 0 then e2 else e3
theorem first_spec {w : World} {gF f0 f1 f2 f3 : Nat} {c0 c1 c2 c3 : Array Value} {e0 e1 e2 e3 : Int} (hF : w.heap[gF]? = some (.cells #[.func (.func f0) #[] c0, .func (.func f1) #[] c1, .func (.func f2) #[] c2, .func (.func f3) #[] c3] 142 (0, 0)))
    (g0 : C.can f0 = true) (g1 : C.can f1 = true) (g2 : C.can f2 = true) (g3 : C.can f3 = true)
    (k0 : ∀ w', Ext w w' → CallsV C.P f0 (#[] ++ ([] : List Value).toArray ++ c0) w' fun v w'' => v = .int .i64 e0 ∧ Ext w' w'')
    (k1 : ∀ w', Ext w w' → CallsV C.P f1 (#[] ++ ([] : List Value).toArray ++ c1) w' fun v w'' => v = .int .i64 e1 ∧ Ext w' w'')
    (k2 : ∀ w', Ext w w' → CallsV C.P f2 (#[] ++ ([] : List Value).toArray ++ c2) w' fun v w'' => v = .int .i64 e2 ∧ Ext w' w'')
    (k3 : ∀ w', Ext w w' → CallsV C.P f3 (#[] ++ ([] : List Value).toArray ++ c3) w' fun v w'' => v = .int .i64 e3 ∧ Ext w' w'') :
    CallsV C.P 73 #[.slice (some ⟨gF, 0, none⟩) 4 4] w fun v w' => v = .int .i64 (firstE e0 e1 e2 e3) ∧ Ext w w' := by
  refine callsV_of C_ok (args := [_]) (plans := []) Tryz.func73 rfl Tryz.ntmps73 (by kernel_rfl) (Nat.le_of_ble_eq_true rfl) ?_
  refine loopE C_ok (fun (i : Nat) => [(6, .slice (some ⟨gF, 0, none⟩) 4 4), (7, .int .i64 4), (8, .int .i64 (i : Nat))])
    (fun i w' => i ≤ 4 ∧ Ext w w' ∧ (0 < i → e0 = 0) ∧ (1 < i → e1 = 0) ∧ (2 < i → e2 = 0) ∧ (3 < i → e3 = 0)) (fun i => 4 - i) 0 ⟨rfl, rfl, rfl, trivial⟩
    ⟨Nat.zero_le _, Ext.refl _, (fun h => absurd h (by omega)), (fun h => absurd h (by omega)), (fun h => absurd h (by omega)), (fun h => absurd h (by omega))⟩ ?_
  rintro i w1 ⟨hi, e, z0, z1, z2, z3⟩
  refine brE_dec (fun hlt => ?_) (fun hge => ?_)
  · have hlt : i < 4 := by have : (i : Int) < 4 := hlt; omega
    have next : IntKind.i64.wrap ((i : Int) + 1) = ((i + 1 : Nat) : Int) := fit ⟨by omega, by omega⟩
    refine ⟨i, gF, 0, rfl, hlt, rfl, ?_⟩
    rcases (show i = 0 ∨ i = 1 ∨ i = 2 ∨ i = 3 by omega) with rfl | rfl | rfl | rfl
    · refine ⟨_, cell_of_block (i := 0) (e.heap hF) rfl, ?_⟩
      refine brE_true g0 ?_
      refine (k0 w1 e).mono ?_
      rintro v w2 ⟨rfl, e2'⟩
      refine brE_ndec (fun b => ?_) (fun b => ?_)
      · have b : e0 ≠ 0 := b
        exact ⟨congrArg _ (by unfold firstE; rw [if_pos b]), e.trans e2'⟩
      · have b : e0 = 0 := b
        refine ⟨_, next, ?_⟩
        exact ⟨1, ⟨rfl, rfl, rfl, trivial⟩, ⟨by omega, e.trans e2', fun _ => b, (fun h => absurd h (by omega)), (fun h => absurd h (by omega)), (fun h => absurd h (by omega))⟩, by decide⟩
    · refine ⟨_, cell_of_block (i := 1) (e.heap hF) rfl, ?_⟩
      refine brE_true g1 ?_
      refine (k1 w1 e).mono ?_
      rintro v w2 ⟨rfl, e2'⟩
      have q0 := z0 (by omega)
      refine brE_ndec (fun b => ?_) (fun b => ?_)
      · have b : e1 ≠ 0 := b
        exact ⟨congrArg _ (by unfold firstE; rw [if_neg (fun h => h q0), if_pos b]), e.trans e2'⟩
      · have b : e1 = 0 := b
        refine ⟨_, next, ?_⟩
        exact ⟨2, ⟨rfl, rfl, rfl, trivial⟩, ⟨by omega, e.trans e2', fun _ => q0, fun _ => b, (fun h => absurd h (by omega)), (fun h => absurd h (by omega))⟩, by decide⟩
    · refine ⟨_, cell_of_block (i := 2) (e.heap hF) rfl, ?_⟩
      refine brE_true g2 ?_
      refine (k2 w1 e).mono ?_
      rintro v w2 ⟨rfl, e2'⟩
      have q0 := z0 (by omega)
      have q1 := z1 (by omega)
      refine brE_ndec (fun b => ?_) (fun b => ?_)
      · have b : e2 ≠ 0 := b
        exact ⟨congrArg _ (by unfold firstE; rw [if_neg (fun h => h q0), if_neg (fun h => h q1), if_pos b]), e.trans e2'⟩
      · have b : e2 = 0 := b
        refine ⟨_, next, ?_⟩
        exact ⟨3, ⟨rfl, rfl, rfl, trivial⟩, ⟨by omega, e.trans e2', fun _ => q0, fun _ => q1, fun _ => b, (fun h => absurd h (by omega))⟩, by decide⟩
    · refine ⟨_, cell_of_block (i := 3) (e.heap hF) rfl, ?_⟩
      refine brE_true g3 ?_
      refine (k3 w1 e).mono ?_
      rintro v w2 ⟨rfl, e2'⟩
      have q0 := z0 (by omega)
      have q1 := z1 (by omega)
      have q2 := z2 (by omega)
      refine brE_ndec (fun b => ?_) (fun b => ?_)
      · have b : e3 ≠ 0 := b
        exact ⟨congrArg _ (by unfold firstE; rw [if_neg (fun h => h q0), if_neg (fun h => h q1), if_neg (fun h => h q2)]), e.trans e2'⟩
      · have b : e3 = 0 := b
        refine ⟨_, next, ?_⟩
        exact ⟨4, ⟨rfl, rfl, rfl, trivial⟩, ⟨by omega, e.trans e2', fun _ => q0, fun _ => q1, fun _ => q2, fun _ => b⟩, by decide⟩
  · have hi4 : i = 4 := by have : ¬ (i : Int) < 4 := hge; omega
    have q0 := z0 (by omega)
    have q1 := z1 (by omega)
    have q2 := z2 (by omega)
    have q3 := z3 (by omega)
    exact ⟨congrArg _ (by unfold firstE; rw [if_neg (fun h => h q0), if_neg (fun h => h q1), if_neg (fun h => h q2), q3]), e⟩
def chkR (f : List Fact) (re : Int) (s : Scn) (gs : List (Int × Int)) : Int := firstE (chkF f).2 re (schk s) (gchk gs)
theorem check_spec {w : World} {A B : Option Addr} {f : List Fact} {c d : Nat} {gs : List (Int × Int)} {p : Option Addr} {re : Int} (hf : HF w A f c) (hl : f.length ≤ 2 ^ 20) (s : Scn) (hr : Reads w B (prCells gs))
    (hR : ∀ w' g5, Ext w w' → w'.heap[g5]? = some (.cells #[.pointer p] 104 (0, 0)) → CallsV C.P 75 (#[] ++ ([] : List Value).toArray ++ #[.pointer (some ⟨g5, 0, none⟩)]) w' fun v w'' => v = .int .i64 re ∧ Ext w' w'') :
    CallsV C.P 39 #[.slice A f.length c, .pointer p, s.val, .slice B gs.length d] w fun v w' => v = .int .i64 (chkR f re s gs) ∧ Ext w w' := by
  refine callsV_of C_ok (args := [_, _, _, _]) (plans := []) Tryz.func39 rfl Tryz.ntmps39 (by kernel_rfl) (Nat.le_of_ble_eq_true rfl) ?_
  intro g4 w1 h1
  have M1 : Mem w w1 [(g4, .cells #[.slice A f.length c] 22 (0, 0))] := (Mem.start w).alloc h1
  intro g5 w2 h2
  have M2 : Mem w w2 [(g5, .cells #[.pointer p] 104 (0, 0)), (g4, .cells #[.slice A f.length c] 22 (0, 0))] := M1.alloc h2
  intro g6 w3 h3
  have M3 : Mem w w3 [(g6, .cells s.cells.toArray 24 (0, 0)), (g5, .cells #[.pointer p] 104 (0, 0)), (g4, .cells #[.slice A f.length c] 22 (0, 0))] := M2.alloc h3
  intro g7 w4 h4
  have M4 : Mem w w4 [(g7, .cells #[.slice B gs.length d] 25 (0, 0)), (g6, .cells s.cells.toArray 24 (0, 0)), (g5, .cells #[.pointer p] 104 (0, 0)), (g4, .cells #[.slice A f.length c] 22 (0, 0))] := M3.alloc h4
  refine ⟨[], [.pointer (some ⟨g4, 0, none⟩)], rfl, rfl, ?_⟩
  refine ⟨[], [.pointer (some ⟨g5, 0, none⟩)], rfl, rfl, ?_⟩
  refine ⟨[], [.pointer (some ⟨g6, 0, none⟩)], rfl, rfl, ?_⟩
  refine ⟨[], [.pointer (some ⟨g7, 0, none⟩)], rfl, rfl, ?_⟩
  intro gF w5 h5
  have M5 := M4.alloc h5
  have hF := h5.here
  refine (first_spec (e0 := (chkF f).2) (e1 := re) (e2 := schk s) (e3 := gchk gs) hF rfl rfl rfl rfl (fun w' e => ?_) (fun w' e => ?_) (fun w' e => ?_) (fun w' e => ?_)).mono ?_
  · have M := M5.grow e
    refine callsV_of C_ok (args := [_]) (plans := []) Tryz.func74 rfl Tryz.ntmps74 (by kernel_rfl) (Nat.le_of_ble_eq_true rfl) ?_
    refine ⟨_, M.cell 4 rfl rfl, ?_⟩
    refine (Go.Proofs.YtdpdjcopkehdjaaGreat.Check_spec (hf.ext M.ext) hl).mono ?_
    rintro v w6 ⟨rfl, e6⟩
    exact ⟨rfl, e6⟩
  · exact hR w' g5 (M5.grow e).ext ((M5.grow e).get 3 rfl)
  · have M := M5.grow e
    refine callsV_of C_ok (args := [_]) (plans := []) Tryz.func77 rfl Tryz.ntmps77 (by kernel_rfl) (Nat.le_of_ble_eq_true rfl) ?_
    refine ⟨s.cells, rfl, M.rd 2 rfl, ?_⟩
    exact (CheckScene_spec s w').mono fun v w'' h => h
  · have M := M5.grow e
    refine callsV_of C_ok (args := [_]) (plans := []) Tryz.func79 rfl Tryz.ntmps79 (by kernel_rfl) (Nat.le_of_ble_eq_true rfl) ?_
    refine ⟨_, M.cell 1 rfl rfl, ?_⟩
    exact (CheckGuests_spec (hr.ext M.ext)).mono fun v w'' h => h
  · rintro v w6 ⟨rfl, e6⟩
    exact ⟨rfl, M5.ext.trans e6⟩
theorem underRp : Tryz.prog.underlying 104 = some (.pointer (Tryz.prog.pointee 104)) := by kernel_rfl
theorem eqNilR (x y : Operand) (p : Option Addr) : EqIs C.P .eql 104 x y (.pointer p) (.pointer none) p.isNone := by
  intro w
  have hu : C.P.underlying 104 = some (.pointer (C.P.pointee 104)) := underRp
  have h1 : (eqGuard .eql 104 x y (.pointer p) (.pointer none)).run C.P w = .ok () w := by simp [eqGuard]
  rw [Sem.run_bind, h1]
  simp only [Result.andThen_ok]
  exact run_eql_pointer_nil _ _ _ hu
theorem noRules {w : World} {g5 : Nat} (h : w.heap[g5]? = some (.cells #[.pointer none] 104 (0, 0))) : CallsV C.P 75 (#[] ++ ([] : List Value).toArray ++ #[.pointer (some ⟨g5, 0, none⟩)]) w fun v w' => v = .int .i64 0 ∧ Ext w w' := by
  refine callsV_of C_ok (args := [_]) (plans := []) Tryz.func75 rfl Tryz.ntmps75 (by kernel_rfl) (Nat.le_of_ble_eq_true rfl) ?_
  refine ⟨_, cell_of_block (i := 0) h rfl, ?_⟩
  refine ⟨_, eqNilR _ _ _, ?_⟩
  exact ⟨rfl, Ext.refl _⟩
theorem check0_spec {w : World} {A B : Option Addr} {f : List Fact} {c d : Nat} {gs : List (Int × Int)} (hf : HF w A f c) (hl : f.length ≤ 2 ^ 20) (s : Scn) (hr : Reads w B (prCells gs)) :
    CallsV C.P 39 #[.slice A f.length c, .pointer none, s.val, .slice B gs.length d] w fun v w' => v = .int .i64 (chkR f 0 s gs) ∧ Ext w w' :=
  check_spec hf hl s hr fun _ _ _ h => noRules h
def profsOf (f : List Fact) (s : Scn) (gs : List (Int × Int)) : List Prof := gs.map (profOf f s)
theorem prRd {w : World} {B : Option Addr} {gs : List (Int × Int)} (h : Reads w B (prCells gs)) {i : Nat} (hi : i < gs.length) : ∃ b o, B = some ⟨b, o, none⟩ ∧ Rd w b (o + i * 2) (guestCells gs[i]) :=
  Reads.elem (enc := fun p : Int × Int => guestCells p) (k := 2) (fun _ => rfl) (by omega) h hi
set_option maxRecDepth 100000 in
theorem profiles_spec {w : World} {A B : Option Addr} {f : List Fact} {c d : Nat} {gs : List (Int × Int)} (hf : HF w A f c) (hl : f.length ≤ 2 ^ 20) (s : Scn) (hr : Reads w B (prCells gs)) (hg : ∀ g ∈ gs, In64 g.1) (hgl : gs.length ≤ 2 ^ 20) :
    CallsV C.P 40 #[.slice A f.length c, s.val, .slice B gs.length d] w fun v w' => NewL Prof.cells 38 7 w.heap.size w' v (profsOf f s gs) ∧ Ext w w' := by
  refine callsV_of C_ok (args := [_, _, _]) (plans := []) Tryz.func40 rfl Tryz.ntmps40 (by kernel_rfl) (Nat.le_of_ble_eq_true rfl) ?_
  intro g4 w1 h1
  have M1 : Mem w w1 [(g4, .cells s.cells.toArray 24 (0, 0))] := (Mem.start w).alloc h1
  refine loopE C_ok (fun (p : Nat × Value) => [(0, .slice A f.length c), (4, .pointer (some ⟨g4, 0, none⟩)), (7, p.2), (10, .slice B gs.length d), (11, .int .i64 gs.length), (12, .int .i64 (p.1 : Nat))])
    (fun p w' => p.1 ≤ gs.length ∧ NewL Prof.cells 38 7 w1.heap.size w' p.2 (profsOf f s (gs.take p.1)) ∧ Ext w1 w') (fun p => gs.length - p.1) (0, .slice none 0 0) ⟨rfl, rfl, rfl, rfl, rfl, rfl, trivial⟩
    ⟨Nat.zero_le _, newL_nil, Ext.refl _⟩ ?_
  rintro ⟨i, v⟩ w2 ⟨hi', ho', e2⟩
  have hi : i ≤ gs.length := hi'
  have ho : NewL Prof.cells 38 7 w1.heap.size w2 v (profsOf f s (gs.take i)) := ho'
  clear hi' ho'
  have hlen : (profsOf f s (gs.take i)).length ≤ i := by unfold profsOf; rw [List.length_map, List.length_take]; omega
  refine brE_dec (fun hlt => ?_) (fun hge => ?_)
  · have hlti : i < gs.length := by have : (i : Int) < (gs.length : Nat) := hlt; omega
    have next : IntKind.i64.wrap ((i : Int) + 1) = ((i + 1 : Nat) : Int) := fit ⟨by omega, by omega⟩
    obtain ⟨g, hge⟩ : ∃ g, g = gs[i] := ⟨_, rfl⟩
    have hs : profsOf f s (gs.take (i + 1)) = profsOf f s (gs.take i) ++ [profOf f s g] := by unfold profsOf; rw [List.take_succ_eq_append_getElem hlti, List.map_append, ← hge]; rfl
    have hg1 : In64 g.1 := by rw [hge]; exact hg _ (List.getElem_mem hlti)
    have M2 := M1.grow e2
    obtain ⟨b, o, hB, hc⟩ := prRd (hr.ext M2.ext) hlti
    rw [← hge] at hc
    refine ⟨i, b, o, rfl, hlti, hB, ?_⟩
    refine ⟨guestCells g, rfl, hc, ?_⟩
    intro g9 w3 h3
    refine ⟨rfl, _, _, h3.here, Nat.le_of_ble_eq_true rfl, rfl, ?_⟩
    intro w4 h4
    have e24 : Ext w2 w4 := h4.ext_of h3.ext (by rw [h3.new]; exact Nat.le_refl _)
    have M4 := M2.grow e24
    have h4 : Put w3 g9 (.cells (guestCells g).toArray 44 (0, 0)) w4 := h4
    refine ⟨s.cells, rfl, M4.rd 0 rfl, ?_⟩
    refine ⟨guestCells g, rfl, Rd.of_block h4.here, ?_⟩
    refine (profile_spec (hf.ext M4.ext) hl s hg1).mono ?_
    rintro v' w5 ⟨rfl, e5⟩
    intro g6 w6 h6
    have e26 := (e24.trans e5).trans h6.ext
    have ho6 := ho.ext e26
    refine ⟨rfl, rfl, rfl, w1.heap.size, _, _, (profOf f s g).cells, ho6, (e2.trans e26).size, Nat.le_of_ble_eq_true rfl, rfl, rfl, .inr ⟨g6, 0, rfl, Rd.of_block h6.here⟩, rfl, rfl, by omega, by simp only [maxLen]; omega, ?_⟩
    intro v7 w7 ho7 hg7 hpl
    refine ⟨_, next, ?_⟩
    refine ⟨(i + 1, v7), ⟨rfl, rfl, rfl, rfl, rfl, rfl, trivial⟩, ⟨hlti, ?_, app_ext (e2.trans e26) ho6 hg7⟩, by show gs.length - (i + 1) < gs.length - i; omega⟩
    show NewL _ _ _ _ _ _ (profsOf f s (gs.take (i + 1)))
    rw [hs]
    unfold NewL
    rw [List.length_append, List.flatMap_append]
    simpa using ho7
  · have hie : i = gs.length := by have : ¬ (i : Int) < (gs.length : Nat) := hge; omega
    rw [hie, List.take_length] at ho
    exact ⟨ho.base M1.ext.size, M1.ext.trans e2⟩
def profsR (f : List Fact) (s : Scn) (gs : List (Int × Int)) : List Prof := if chkR f 0 s gs = 0 then profsOf f s gs else []
theorem gchk_len {gs : List (Int × Int)} (h : gchk gs = 0) : gs.length ≤ 24 := by
  unfold gchk at h
  split at h
  · cases h
  · omega
theorem chkR_zero {f : List Fact} {re : Int} {s : Scn} {gs : List (Int × Int)} (h : chkR f re s gs = 0) : (chkF f).2 = 0 ∧ re = 0 ∧ schk s = 0 ∧ gchk gs = 0 := by
  unfold chkR firstE at h
  by_cases h0 : (chkF f).2 = 0
  · rw [if_neg (fun e => e h0)] at h
    by_cases h1 : re = 0
    · rw [if_neg (fun e => e h1)] at h
      by_cases h2 : schk s = 0
      · rw [if_neg (fun e => e h2)] at h
        exact ⟨h0, h1, h2, h⟩
      · rw [if_pos h2] at h; exact absurd h h2
    · rw [if_pos h1] at h; exact absurd h h1
  · rw [if_pos h0] at h; exact absurd h h0
set_option maxRecDepth 100000 in
theorem Profiles_spec {w : World} {A B : Option Addr} {f : List Fact} {c d : Nat} {gs : List (Int × Int)} (hf : HF w A f c) (hl : f.length ≤ 2 ^ 20) (s : Scn) (hr : Reads w B (prCells gs)) (hg : ∀ g ∈ gs, In64 g.1) :
    CallsV C.P 12 #[.slice A f.length c, s.val, .slice B gs.length d] w fun v w' => (∃ v', v = .tuple #[v', .int .i64 (chkR f 0 s gs)] ∧ NewL Prof.cells 38 7 w.heap.size w' v' (profsR f s gs)) ∧ Ext w w' := by
  refine callsV_of C_ok (args := [_, _, _]) (plans := []) Tryz.func12 rfl Tryz.ntmps12 (by kernel_rfl) (Nat.le_of_ble_eq_true rfl) ?_
  intro g4 w1 h1
  have M1 : Mem w w1 [(g4, .cells s.cells.toArray 24 (0, 0))] := (Mem.start w).alloc h1
  refine ⟨s.cells, rfl, M1.rd 0 rfl, ?_⟩
  refine (check0_spec (hf.ext M1.ext) hl s (hr.ext M1.ext)).mono ?_
  rintro v w2 ⟨rfl, e2⟩
  have M2 := M1.grow e2
  refine brE_ndec (fun b => ?_) (fun b => ?_)
  · have b : chkR f 0 s gs ≠ 0 := b
    refine ⟨⟨_, rfl, ?_⟩, M2.ext⟩
    have : profsR f s gs = [] := if_neg b
    rw [this]; exact newL_nil
  have b : chkR f 0 s gs = 0 := b
  have hgl := gchk_len (chkR_zero b).2.2.2
  refine ⟨s.cells, rfl, M2.rd 0 rfl, ?_⟩
  refine (profiles_spec (hf.ext M2.ext) hl s (hr.ext M2.ext) hg (by omega)).mono ?_
  rintro v w3 ⟨hv, e3⟩
  refine ⟨⟨_, by rw [b], ?_⟩, M2.ext.trans e3⟩
  have : profsR f s gs = profsOf f s gs := if_pos b
  rw [this]; exact hv.base M2.ext.size
end Go.Proofs.YtdpdjcopkehdjaaGreat.Rk
namespace Go.Proofs.YtdpdjcopkehdjaaGreat.Rk
open Go.Eng Go.RowKit
def fewR (f : List Fact) (n m : Nat) : Prop := f.length ≤ 60 ∧ n ≤ 30 ∧ m ≤ 30
theorem fewR_spec {w : World} {A R B : Option Addr} {f : List Fact} {c n nc m d : Nat} (hf : HF w A f c) :
    CallsV C.P 10 #[.slice A f.length c, .agg #[.slice R n nc], .slice B m d] w fun v w' => (∃ b, v = .bool b ∧ (b = true → fewR f n m)) ∧ Ext w w' := by
  have hcap := hf.cap
  refine callsV_of C_ok (args := [_, _, _]) (plans := []) Tryz.func10 rfl Tryz.ntmps10 (by kernel_rfl) (Nat.le_of_ble_eq_true rfl) ?_
  intro g4 w1 h1
  refine brE_dec (fun c1 => ?_) (fun c1 => ?_)
  · exact ⟨⟨false, rfl, fun h => by cases h⟩, h1.ext⟩
  have c1 : ¬ ((f.length : Nat) : Int) > 60 := c1
  refine ⟨_, cell_of_block (i := 0) h1.here rfl, ?_⟩
  refine brE_dec (fun c2 => ?_) (fun c2 => ?_)
  · exact ⟨⟨false, rfl, fun h => by cases h⟩, h1.ext⟩
  have c2 : ¬ ((n : Nat) : Int) > 30 := c2
  refine brE_dec (fun c3 => ?_) (fun c3 => ?_)
  · exact ⟨⟨false, rfl, fun h => by cases h⟩, h1.ext⟩
  have c3 : ¬ ((m : Nat) : Int) > 30 := c3
  refine loopE C_ok (fun (i : Nat) => [(0, .slice A f.length c), (7, .int .i64 (i : Nat))]) (fun i w' => i ≤ f.length ∧ w' = w1) (fun i => f.length - i) 0 ⟨rfl, rfl, trivial⟩ ⟨Nat.zero_le _, rfl⟩ ?_
  rintro i w2 ⟨hi, rfl⟩
  refine brE_dec (fun hlt => ?_) (fun hge => ?_)
  · have hlt : i < f.length := by have : (i : Int) < (f.length : Nat) := hlt; omega
    obtain ⟨b, o, hA, hc⟩ := Reads.fact (hf.ext h1.ext).reads hlt
    refine ⟨i, b, o, rfl, hlt, hA, ?_⟩
    refine ⟨_, hc 8 _ rfl, ?_⟩
    refine brE_dec (fun c3 => ?_) (fun c3 => ?_)
    · exact ⟨⟨false, rfl, fun h => by cases h⟩, h1.ext⟩
    refine ⟨((i + 1 : Nat) : Int), fit ⟨by omega, by omega⟩, ?_⟩
    exact ⟨i + 1, ⟨rfl, rfl, trivial⟩, ⟨hlt, rfl⟩, by show f.length - (i + 1) < f.length - i; omega⟩
  · exact ⟨⟨true, rfl, fun _ => ⟨by omega, by omega, by omega⟩⟩, h1.ext⟩
end Go.Proofs.YtdpdjcopkehdjaaGreat.Rk
namespace Go.Proofs.YtdpdjcopkehdjaaGreat.Rk
open Go.Eng Go.RowKit
theorem someRules {w : World} {g5 g6 : Nat} {R : Option Addr} {l : List Rl} {c : Nat} (hR : HRs w R l c) (h6 : w.heap[g6]? = some (.cells #[.slice R l.length c] 29 (0, 0))) (h : w.heap[g5]? = some (.cells #[.pointer (some ⟨g6, 0, none⟩)] 104 (0, 0))) :
    CallsV C.P 75 (#[] ++ ([] : List Value).toArray ++ #[.pointer (some ⟨g5, 0, none⟩)]) w fun v w' => v = .int .i64 (chkRl l) ∧ Ext w w' := by
  refine callsV_of C_ok (args := [_]) (plans := []) Tryz.func75 rfl Tryz.ntmps75 (by kernel_rfl) (Nat.le_of_ble_eq_true rfl) ?_
  refine ⟨_, cell_of_block (i := 0) h rfl, ?_⟩
  refine ⟨_, eqNilR _ _ _, ?_⟩
  refine ⟨_, cell_of_block (i := 0) h rfl, ?_⟩
  refine ⟨[.slice R l.length c], rfl, Rd.of_block h6, ?_⟩
  exact (rulesCheck_spec hR).mono fun v w' h => h
theorem relL_mem {l : List Rl} {p : List Prof} {x : Arrow} (hx : x ∈ relL l p) : ∃ a b : Nat, a < p.length ∧ b < p.length ∧ a ≠ b ∧ x.fr = (a : Nat) ∧ x.to = (b : Nat) ∧ ∃ (n : Nat) (h : n < l.length), x.rule = (n : Nat) ∧ x.wt = l[n].weight ∧ ruledI l (p.getD a default) (p.getD b default) = (n : Nat) := by
  unfold relL at hx
  simp only [List.mem_flatMap, List.mem_range, mem_rwR] at hx
  obtain ⟨a, ha, b, hb, hab, hx⟩ := hx
  unfold arrF at hx
  split at hx
  · rename_i h0
    have hlt := ruledI_lt l (p.getD a default) (p.getD b default)
    obtain ⟨n, hn⟩ := Int.eq_ofNat_of_zero_le h0
    have hnl : n < l.length := by omega
    rw [List.mem_singleton.1 hx]
    exact ⟨a, b, ha, hb, hab, rfl, rfl, n, hnl, hn, by show wtOf l _ = _; rw [hn, wtOf_nat hnl], hn⟩
  · cases hx
theorem relL_len (l : List Rl) (p : List Prof) (hp : p.length ≤ 24) : (relL l p).length ≤ 24 * 48 := by
  rw [← (prog_perm l p).length_eq]
  have n3 := progTo_le l p p.length
  have n5 : p.length * (2 * p.length) ≤ 24 * 48 := Nat.mul_le_mul hp (by omega)
  omega
theorem relL_nums {l : List Rl} {p : List Prof} (hp : p.length ≤ 24) (hl : l.length ≤ 24) (hw : ∀ x ∈ l, In64 x.weight) : ∀ x ∈ relL l p, In64 x.fr ∧ In64 x.to ∧ In64 x.rule ∧ In64 x.wt := by
  intro x hx
  obtain ⟨a, b, ha, hb, _, e1, e2, n, hn, e3, e4, _⟩ := relL_mem hx
  refine ⟨?_, ?_, ?_, ?_⟩
  · rw [e1]; exact ⟨by omega, by omega⟩
  · rw [e2]; exact ⟨by omega, by omega⟩
  · rw [e3]; exact ⟨by omega, by omega⟩
  · rw [e4]; exact hw _ (List.getElem_mem hn)
set_option maxRecDepth 100000 in
set_option maxHeartbeats 4000000 in
theorem Relate_spec {w : World} {A R B Q : Option Addr} {f : List Fact} {l : List Rl} {c cl d e : Nat} {gs ps : List (Int × Int)} (hf : HF w A f c) (hl : f.length ≤ 2 ^ 20) (hR : HRs w R l cl) (s : Scn) (hr : Reads w B (prCells gs)) (hg : ∀ g ∈ gs, In64 g.1) (hps : ∀ p ∈ ps, In64 p.1 ∧ In64 p.2) (hrp : Reads w Q (prCells ps)) (hpl : ps.length ≤ 2 ^ 44) :
    CallsV C.P 18 #[.slice A f.length c, .agg #[.slice R l.length cl], s.val, .slice B gs.length d, .slice Q ps.length e] w fun v w' =>
      (∃ u, v = .tuple #[u, .int .i64 (chkR f (chkRl l) s gs)] ∧ NewRel w.heap.size w' u (if chkR f (chkRl l) s gs = 0 then ((gs.length : Nat) : Int) else 0) (if chkR f (chkRl l) s gs = 0 then waiveL (relL l (profsOf f s gs)) ps else [])) ∧ Ext w w' := by
  obtain ⟨k, hk⟩ : ∃ k, k = chkR f (chkRl l) s gs := ⟨_, rfl⟩
  rw [← hk]
  refine callsV_of C_ok (args := [_, _, _, _, _]) (plans := plans18) Tryz.func18 rfl Tryz.ntmps18 (by kernel_rfl) (Nat.le_of_ble_eq_true rfl) ?_
  intro g6 w1 h1
  have M : Mem w w1 [(g6, .cells #[.slice R l.length cl] 29 (0, 0))] := (Mem.start w).alloc h1
  intro g7 w2 h2
  have M : Mem w w2 [(g7, .cells s.cells.toArray 24 (0, 0)), (g6, .cells #[.slice R l.length cl] 29 (0, 0))] := M.alloc h2
  intro g10 w3 h3
  have M : Mem w w3 [(g10, .cells #[.int .i64 0, .slice none 0 0] 49 (0, 0)), (g7, .cells s.cells.toArray 24 (0, 0)), (g6, .cells #[.slice R l.length cl] 29 (0, 0))] := M.alloc h3
  clear h1 h2 h3
  refine ⟨s.cells, rfl, M.rd 1 rfl, ?_⟩
  have X := check_spec (p := some ⟨g6, 0, none⟩) (re := chkRl l) (c := c) (d := d) (hf.ext M.ext) hl s (hr.ext M.ext) (fun w' g5 e5 h5 => someRules ((hR.ext M.ext).ext e5) (e5.heap (M.get 2 rfl)) h5)
  rw [← hk] at X
  refine X.mono ?_
  rintro v w4 ⟨rfl, e4⟩
  have M := M.grow e4
  refine brE_ndec (fun c0 => ?_) (fun c0 => ?_)
  · have c0 : k ≠ 0 := c0
    refine ⟨rfl, _, _, M.get 0 rfl, Nat.le_of_ble_eq_true rfl, rfl, ?_⟩
    intro w5 h5
    have M := M.put 0 rfl h5
    refine ⟨[.int .i64 0, .slice none 0 0], rfl, M.rd 0 rfl, ?_⟩
    refine ⟨⟨_, rfl, ?_⟩, M.ext⟩
    rw [if_neg c0, if_neg c0]
    exact newRel_zero _ _
  have c0 : k = 0 := c0
  obtain ⟨_, hz, _, hgz⟩ := chkR_zero (hk.symm.trans c0)
  have hgl := gchk_len hgz
  obtain ⟨hl24, hgood⟩ := chkRl_zero hz
  have hpn : (profsOf f s gs).length = gs.length := List.length_map _
  refine ⟨[.slice R l.length cl], rfl, M.rd 2 rfl, ?_⟩
  refine ⟨s.cells, rfl, M.rd 1 rfl, ?_⟩
  refine (profiles_spec (hf.ext M.ext) hl s (hr.ext M.ext) hg (by omega)).mono ?_
  rintro v w5 ⟨hp5, e5⟩
  refine ⟨e5, ?_⟩
  have M := M.grow e5
  obtain ⟨P, cp, rfl, hHL⟩ := hp5.hl
  refine (relate_spec (hR.ext M.ext) hHL (by omega)).mono ?_
  rintro v w6 ⟨hrel, e6⟩
  have M := M.grow e6
  obtain ⟨N, hN⟩ : ∃ N : Int, N = ((profsOf f s gs).length : Nat) := ⟨_, rfl⟩
  rw [← hN] at hrel
  have hlen := relL_len l (profsOf f s gs) (by omega)
  obtain ⟨A6, c6, rfl, hrel6⟩ := hrel.hrel ⟨by omega, by omega⟩ (relL_nums (by omega) hl24 fun x hx => (hR.each x hx).weight) (by omega)
  have hs6 : w.heap.size ≤ w6.heap.size := M.ext.size
  have b10 : g10 < w6.heap.size := M.lt List.mem_cons_self
  refine (waive_spec hrel6 (by omega) hps (hrp.ext M.ext) hpl).mono ?_
  rintro v w7 ⟨⟨A7, c7, rfl, ho7⟩, e7⟩
  have M := M.grow e7
  obtain ⟨X7, hX7⟩ : ∃ X7, X7 = waiveL (relL l (profsOf f s gs)) ps := ⟨_, rfl⟩
  rw [← hX7] at ho7 ⊢
  refine ⟨rfl, _, _, M.get 0 rfl, Nat.le_of_ble_eq_true rfl, rfl, ?_⟩
  intro w8 h8
  have M8 := M.put 0 rfl h8
  refine ⟨[.int .i64 N, .slice A7 X7.length c7], rfl, M8.rd 0 rfl, ?_⟩
  refine ⟨⟨_, by rw [c0], ?_⟩, M8.ext⟩
  rw [if_pos c0, if_pos c0]
  refine ⟨A7, c7, ?_, ?_⟩
  · rw [hN, hpn]; rfl
  · exact ownsRow_base (ownsRow_put ho7 h8 (fun e => by have := (ho7.lt g10 e).1; omega)) hs6
end Go.Proofs.YtdpdjcopkehdjaaGreat.Rk
namespace Go.Proofs.YtdpdjcopkehdjaaGreat
theorem alphaL_len (a : List Fact) (lang lot : Int) : (alphaL a lang lot).length = (statesL a).length := by
  unfold alphaL
  rw [List.length_map, List.length_range, (orderL_perm a lang).length_eq]
end Go.Proofs.YtdpdjcopkehdjaaGreat
namespace Go.Proofs.YtdpdjcopkehdjaaGreat.Rk
open Go.Eng Go.RowKit
theorem chkG_forms : ∀ (l seen : List Fact), (chkG seen l).2 = 0 → ∀ x ∈ l, formE x = 0
  | [], _, _ => fun _ h => by cases h
  | y :: r, seen, h => by
    obtain ⟨hb, h⟩ := chkG_cons.1 h
    intro x hx
    rcases List.mem_cons.1 hx with rfl | hx
    · exact (behind_zero hb).1
    · exact chkG_forms r _ h x hx
theorem chkG_states : ∀ (l seen : List Fact), statesN seen ≤ 200 → (chkG seen l).2 = 0 → statesN (seen ++ l) ≤ 200
  | [], seen, hs, _ => by rw [List.append_nil]; exact hs
  | x :: r, seen, hs, h => by
    obtain ⟨hb, h⟩ := chkG_cons.1 h
    have hx := (behind_zero hb).2.2.2.2.2.2
    have h1 : statesN (seen ++ [x]) ≤ 200 := by
      rw [statesN_snoc]
      split
      · next hc =>
        have : ¬ 200 ≤ statesN seen := fun e => hx ⟨hc.1, hc.2, e⟩
        omega
      · omega
    have := chkG_states r (seen ++ [x]) h1 h
    rwa [List.append_assoc] at this
theorem states_le {f : List Fact} (k d : Int) : (statesL (atL k d f)).length ≤ statesN f := by
  unfold statesL statesN
  refine asc_length (sortD_asc _) fun x hx => ?_
  rw [mem_sortD] at hx ⊢
  unfold whos at hx ⊢
  obtain ⟨y, hy, rfl⟩ := List.mem_map.1 hx
  obtain ⟨h1, h2⟩ := List.mem_filter.1 hy
  exact List.mem_map.2 ⟨y, List.mem_filter.2 ⟨atL_sub h1, h2⟩, rfl⟩
theorem form_parts {x : Fact} (h : formE x = 0) : headB x = true ∧ rightB x = true := by
  unfold formE at h
  split at h
  · next hb =>
    rw [Bool.and_eq_true, Bool.and_eq_true] at hb
    exact ⟨hb.1.1, hb.2⟩
  · cases h
theorem visitAt_range {p s : Int} : ∀ (c : List Fact) (a : Int × Bool), (∀ x ∈ c, visitB p s x = true → 0 ≤ x.other ∧ x.other ≤ 2) → (0 ≤ a.1 ∧ a.1 ≤ 2) → 0 ≤ (visitAt p s a c).1 ∧ (visitAt p s a c).1 ≤ 2
  | [], a, _, h => h
  | x :: r, a, hc, h => by
    unfold visitAt
    refine visitAt_range r _ (fun y hy => hc y (List.mem_cons_of_mem _ hy)) ?_
    split
    · next hb => exact hc x List.mem_cons_self (by rw [Bool.and_eq_true] at hb; exact hb.1)
    · exact h
theorem visitL_range {a : List Fact} (hf : ∀ x ∈ a, formE x = 0) (p s : Int) : 0 ≤ visitL a p s ∧ visitL a p s ≤ 2 := by
  refine visitAt_range a _ (fun x hx hv => ?_) ⟨Int.le_refl _, by omega⟩
  have h8 : x.kind = 8 := (of_decide_eq_true hv).1
  have hr := (form_parts (hf x hx)).2
  unfold rightB at hr
  rw [if_neg (by omega), if_neg (by omega), if_neg (by omega), if_neg (by omega), if_neg (by omega), if_neg (by omega), if_pos h8, Bool.and_eq_true] at hr
  have := of_decide_eq_true hr.2
  omega
theorem classL_range (c : List Fact) (host p s : Int) : 1 ≤ (classL c host p s).1 ∧ (classL c host p s).1 ≤ 5 := by
  unfold classL
  simp only [classAt]
  repeat' split
  all_goals simp
theorem credL_range {a : List Fact} (hf : ∀ x ∈ a, formE x = 0) (p s : Int) : 0 ≤ credL a p s ∧ credL a p s ≤ 100001 := by
  unfold credL
  split
  · next x hx =>
    have hm : x ∈ a := (List.mem_filter.1 (List.mem_of_getLast? hx)).1
    have hh := (form_parts (hf x hm)).1
    unfold headB at hh
    simp only [Bool.and_eq_true, decide_eq_true_iff] at hh
    omega
  · omega
theorem letOf_range {a : List Fact} (h : (statesL a).length ≤ 200) (lang lot st : Int) : 0 ≤ letOf a lang lot st ∧ letOf a lang lot st ≤ 200 := by
  have hn := alphaL_len a lang lot
  unfold letOf letterL
  cases hf : (alphaL a lang lot).findIdx? (fun x => decide (x = st)) with
  | none => rw [if_neg (by simp)]; omega
  | some i =>
    have := (List.findIdx?_eq_some_iff_getElem.1 hf).1
    rw [if_pos rfl]
    show 0 ≤ ((i : Nat) : Int) ∧ ((i : Nat) : Int) ≤ 200
    omega
theorem profOf_ok {f : List Fact} (h : (chkF f).2 = 0) (s : Scn) (g : Int × Int) : (profOf f s g).Ok := by
  have hform : ∀ x ∈ atL s.known s.day f, formE x = 0 := fun x hx => chkG_forms f [] h x (atL_sub hx)
  have hst : (statesL (atL s.known s.day f)).length ≤ 200 := Nat.le_trans (states_le _ _) (by simpa using chkG_states f [] (by decide) h)
  obtain ⟨a, ha⟩ : ∃ a, a = atL s.known s.day f := ⟨_, rfl⟩
  rw [← ha] at hform hst
  have e : profOf f s g = profAt a s g := by rw [ha]; rfl
  rw [e]
  refine ⟨⟨?_, visitL_range hform _ _⟩, credL_range hform _ _, letOf_range hst _ _ _⟩
  show 1 ≤ clsOf _ _ _ _ ∧ clsOf _ _ _ _ ≤ 5
  unfold clsOf
  split <;> exact classL_range _ _ _ _
theorem relL_valid {l : List Rl} {p : List Prof} (hp : p.length ≤ 24) (hz : chkRl l = 0) : Valid ((p.length : Nat) : Int) (relL l p) := by
  obtain ⟨hl, hgood⟩ := chkRl_zero hz
  refine valid_of (by omega) (by omega) (fun x hx => ?_) (relL_sorted l p)
  obtain ⟨a, b, ha, hb, hab, e1, e2, n, hn, e3, e4, _⟩ := relL_mem hx
  have hw := (hgood _ (List.getElem_mem hn)).2.2
  unfold goodA
  simp only [Bool.and_eq_true, Bool.not_eq_true', decide_eq_true_iff, decide_eq_false_iff_not]
  omega
theorem rel_find {l : List Rl} {p : List Prof} (hp : p.length ≤ 24) (hz : chkRl l = 0) (ps : List (Int × Int)) {a b : Nat} (ha : a < p.length) (hb : b < p.length) :
    findA (waiveL (relL l p) ps) (a : Nat) (b : Nat) = if a ≠ b ∧ ruledI l (p.getD a default) (p.getD b default) ≥ 0 ∧ (((a : Nat) : Int), ((b : Nat) : Int)) ∉ ps
      then some ⟨(a : Nat), (b : Nat), ruledI l (p.getD a default) (p.getD b default), wtOf l (ruledI l (p.getD a default) (p.getD b default))⟩ else none := by
  have hv := (relL_valid hp hz).filter (fun x => !decide ((x.fr, x.to) ∈ ps))
  split
  · next hc =>
    obtain ⟨h1, h2, h3⟩ := hc
    have hm : (⟨(a : Nat), (b : Nat), ruledI l (p.getD a default) (p.getD b default), wtOf l (ruledI l (p.getD a default) (p.getD b default))⟩ : Arrow) ∈ waiveL (relL l p) ps := by
      refine waive_mem.2 ⟨?_, h3⟩
      unfold relL
      simp only [List.mem_flatMap, List.mem_range, mem_rwR]
      refine ⟨a, ha, b, hb, h1, ?_⟩
      unfold arrF
      rw [if_pos h2]
      exact List.mem_singleton.2 rfl
    obtain ⟨i, hi, e⟩ := List.getElem_of_mem hm
    rw [← e]
    refine findA_of hv hi ?_
    have e : (waiveL (relL l p) ps)[i] = _ := e
    show (waiveL (relL l p) ps)[i].fr = _ ∧ (waiveL (relL l p) ps)[i].to = _
    rw [e]
    exact ⟨rfl, rfl⟩
  · next hc =>
    refine findA_none fun j hj hh => hc ?_
    have hm := List.getElem_mem hj
    obtain ⟨h1, h3⟩ := waive_mem.1 hm
    obtain ⟨a', b', _, _, hab, e1, e2, n, _, _, _, e5⟩ := relL_mem h1
    have ea : a' = a := by have := e1.symm.trans hh.1; omega
    have eb : b' = b := by have := e2.symm.trans hh.2; omega
    subst ea eb
    rw [hh.1, hh.2] at h3
    exact ⟨hab, by rw [e5]; omega, h3⟩
end Go.Proofs.YtdpdjcopkehdjaaGreat.Rk
namespace Go.Proofs.YtdpdjcopkehdjaaGreat.Rk
open Go.Eng Go.RowKit
theorem waiveL_le (xs : List Arrow) (ps : List (Int × Int)) : (waiveL xs ps).length ≤ xs.length := List.length_filter_le _ _
end Go.Proofs.YtdpdjcopkehdjaaGreat.Rk
namespace Go.Proofs.YtdpdjcopkehdjaaGreat.Rk
open Go.Eng Go.RowKit
set_option maxRecDepth 100000 in
set_option maxHeartbeats 8000000 in
theorem RankDecides_spec {w : World} {A R B Q : Option Addr} {f : List Fact} {l : List Rl} {c cl d e : Nat} {gs ps : List (Int × Int)} (hf : HF w A f c) (hR : HRs w R l cl) (s : Scn) (hr : Reads w B (prCells gs)) (hg : ∀ g ∈ gs, In64 g.1) (hrp : Reads w Q (prCells ps)) (hps : ∀ p ∈ ps, In64 p.1 ∧ In64 p.2) :
    CallsV C.P 7 #[.slice A f.length c, .agg #[.slice R l.length cl], s.val, .slice B gs.length d, .slice Q ps.length e] w fun v w' => v = .bool true ∧ Ext w w' := by
  have stop : ∀ {w' : World}, Ext w w' → CallsV C.P 11 #[] w' fun v w'' => v = .bool true ∧ Ext w w'' := fun e => (stands_spec _).mono fun v w'' hh => ⟨hh.1, e.trans hh.2⟩
  refine callsV_of C_ok (args := [_, _, _, _, _]) (plans := plans7) Tryz.func7 rfl Tryz.ntmps7 (by kernel_rfl) (Nat.le_of_ble_eq_true rfl) ?_
  intro g6 w1 h1
  have M : Mem w w1 [(g6, .cells #[.slice R l.length cl] 29 (0, 0))] := (Mem.start w).alloc h1
  intro g7 w2 h2
  have M : Mem w w2 [(g7, .cells s.cells.toArray 24 (0, 0)), (g6, .cells #[.slice R l.length cl] 29 (0, 0))] := M.alloc h2
  refine ⟨[.slice R l.length cl], rfl, M.rd 1 rfl, ?_⟩
  refine (fewR_spec (hf.ext M.ext)).mono ?_
  rintro v w3 ⟨⟨b, rfl, hb⟩, e3⟩
  have M := M.grow e3
  refine brE_mk (fun b0 => ?_) (fun b0 => ?_)
  · refine (stop M.ext).mono ?_
    rintro v w4 ⟨rfl, ee⟩
    exact ⟨rfl, ee⟩
  have hfew := hb (by simpa using b0)
  clear hb b0
  refine brE_dec (fun c0 => ?_) (fun c0 => ?_)
  · refine (stop M.ext).mono ?_
    rintro v w4 ⟨rfl, ee⟩
    exact ⟨rfl, ee⟩
  have c0 : ¬ ((ps.length : Nat) : Int) > 60 := c0
  have hl : f.length ≤ 2 ^ 20 := by have := hfew.1; omega
  have hgl := hfew.2.2
  have hpl : ps.length ≤ 2 ^ 44 := by omega
  refine ⟨[.slice R l.length cl], rfl, M.rd 1 rfl, ?_⟩
  refine ⟨s.cells, rfl, M.rd 0 rfl, ?_⟩
  refine (Relate_spec (hf.ext M.ext) hl (hR.ext M.ext) s (hr.ext M.ext) hg hps (hrp.ext M.ext) hpl).mono ?_
  rintro v w4 ⟨⟨u1, rfl, A1, c1, rfl, ho1⟩, e4⟩
  have M := M.grow e4
  obtain ⟨k, hk⟩ : ∃ k, k = chkR f (chkRl l) s gs := ⟨_, rfl⟩
  obtain ⟨N, hN⟩ : ∃ N : Int, N = (if k = 0 then ((gs.length : Nat) : Int) else 0) := ⟨_, rfl⟩
  obtain ⟨X, hX⟩ : ∃ X, X = (if k = 0 then waiveL (relL l (profsOf f s gs)) ps else []) := ⟨_, rfl⟩
  rw [← hk, ← hX] at ho1
  rw [← hk, ← hN, ← hX]
  intro g11 w5 h5
  have M5 := M.alloc h5
  refine ⟨rfl, _, _, M5.get 0 rfl, Nat.le_of_ble_eq_true rfl, rfl, ?_⟩
  intro w6 h6
  have M : Mem w w6 [(g11, .cells #[.int .i64 N, .slice A1 X.length c1] 49 (0, 0)), (g7, .cells s.cells.toArray 24 (0, 0)), (g6, .cells #[.slice R l.length cl] 29 (0, 0))] := M5.put 0 rfl h6
  have ho6 := ownsRow_ext ho1 (h6.ext_of h5.ext (by rw [h5.new]; exact Nat.le_refl _))
  clear M5 h5 h6 ho1
  refine ⟨s.cells, rfl, M.rd 1 rfl, ?_⟩
  have Y := Profiles_spec (c := c) (d := d) (hf.ext M.ext) hl s (hr.ext M.ext) hg
  obtain ⟨k1, hk1⟩ : ∃ k1, k1 = chkR f 0 s gs := ⟨_, rfl⟩
  rw [← hk1] at Y
  refine Y.mono ?_
  clear Y
  rintro v w7 ⟨⟨v1, rfl, hp1⟩, e7⟩
  have M := M.grow e7
  have ho7 := ownsRow_ext ho6 e7
  obtain ⟨P, cp, rfl, hHL⟩ := hp1.hl
  obtain ⟨p, hp⟩ : ∃ p, p = profsR f s gs := ⟨_, rfl⟩
  rw [← hp] at hHL ⊢
  refine brE_ndec (fun k0 => ?_) (fun k0 => ?_)
  · have k0 : k ≠ 0 := k0
    have hN0 : N = 0 := by rw [hN, if_neg k0]
    have hX0 : X.length = 0 := by rw [hX, if_neg k0]; rfl
    refine (stands_spec w7).mono ?_
    rintro v w8 ⟨rfl, e8⟩
    have M := M.grow e8
    refine ⟨_, M.cell 0 (i := 0) rfl rfl, ?_⟩
    refine brE_dec (fun _ => ?_) (fun h => absurd hN0 h)
    refine ⟨_, M.cell 0 (i := 1) rfl rfl, ?_⟩
    refine ⟨congrArg Value.bool (decide_eq_true ?_), M.ext⟩
    show ((X.length : Nat) : Int) = 0
    omega
  have k0 : k = 0 := k0
  have hkz : chkR f (chkRl l) s gs = 0 := hk.symm.trans k0
  obtain ⟨hcf, hz, _, hgz⟩ := chkR_zero hkz
  have hk10 : k1 = 0 := by rw [hk1]; rw [hz] at hkz; exact hkz
  have hpp : p = profsOf f s gs := by rw [hp]; exact if_pos (hk1.symm.trans hk10)
  have hpn : p.length = gs.length := by rw [hpp]; exact List.length_map _
  have hgl24 := gchk_len hgz
  have hpok : ∀ x ∈ p, x.Ok := fun x hx => by
    rw [hpp] at hx
    obtain ⟨g, _, rfl⟩ := List.mem_map.1 hx
    exact profOf_ok hcf s g
  obtain ⟨hl24, hgood⟩ := chkRl_zero hz
  rw [if_pos k0] at hN hX
  rw [← hpp] at hX
  have hXv : Valid N X := by rw [hX, hN, ← hpn]; exact (relL_valid (by omega) hz).filter _
  have hfind : ∀ {a b : Nat}, a < p.length → b < p.length → arrowS N X (a : Nat) (b : Nat) = if a ≠ b ∧ ruledI l (p.getD a default) (p.getD b default) ≥ 0 ∧ (((a : Nat) : Int), ((b : Nat) : Int)) ∉ ps
      then some ⟨(a : Nat), (b : Nat), ruledI l (p.getD a default) (p.getD b default), wtOf l (ruledI l (p.getD a default) (p.getD b default))⟩ else none := by
    intro a b ha hb
    unfold arrowS
    rw [if_pos hXv.chk, hX]
    exact rel_find (by omega) hz ps ha hb
  have hXl : X.length ≤ 24 * 48 := by
    rw [hX]
    exact Nat.le_trans (waiveL_le _ _) (relL_len l p (by omega))
  have hrel : HRel w7 N A1 X c1 := by
    obtain ⟨A', c', q1, hr1, hc1⟩ := reads_of_owns ho7
    cases q1
    refine ⟨by rw [hN]; exact ⟨by omega, by omega⟩, fun x hx => ?_, hr1, hc1, by omega⟩
    rw [hX] at hx
    exact relL_nums (by omega) hl24 (fun y hy => (hR.each y hy).weight) x (waive_mem.1 hx).1
  obtain ⟨m, hm⟩ : ∃ m, m = p.length := ⟨_, rfl⟩
  obtain ⟨n, hn⟩ : ∃ n, n = gs.length := ⟨_, rfl⟩
  rw [← hm, ← hn]
  rw [← hn] at hN hpn hgl24
  refine brE_ndec (fun h => absurd hk10 h) (fun _ => ?_)
  refine ⟨_, M.cell 0 (i := 0) rfl rfl, ?_⟩
  refine brE_ndec (fun h => absurd hN h) (fun _ => ?_)
  refine brE_ndec (fun h => absurd (congrArg (fun n : Nat => (n : Int)) (hm.trans hpn)) h) (fun _ => ?_)
  refine loopE C_ok (fun (a : Nat) => [(3, .slice B n d), (4, .slice Q ps.length e), (6, .pointer (some ⟨g6, 0, none⟩)), (11, .pointer (some ⟨g11, 0, none⟩)), (13, .slice P m cp), (15, .int .i64 (a : Nat))])
    (fun a w' => a ≤ n ∧ Ext w7 w') (fun a => n - a) 0 ⟨rfl, rfl, rfl, rfl, rfl, rfl, trivial⟩ ⟨Nat.zero_le _, Ext.refl _⟩ ?_
  rintro a w8 ⟨hia, e8⟩
  refine brE_dec (fun hlt => ?_) (fun hge => ?_)
  · have hlta : a < n := by have : (a : Int) < (n : Nat) := hlt; omega
    have next : IntKind.i64.wrap ((a : Int) + 1) = ((a + 1 : Nat) : Int) := fit ⟨by omega, by omega⟩
    refine loopE C_ok (fun (b : Nat) => [(3, .slice B n d), (4, .slice Q ps.length e), (6, .pointer (some ⟨g6, 0, none⟩)), (11, .pointer (some ⟨g11, 0, none⟩)), (13, .slice P m cp), (15, .int .i64 (a : Nat)), (16, .int .i64 (b : Nat))])
      (fun b w' => b ≤ n ∧ Ext w7 w') (fun b => n - b) 0 ⟨rfl, rfl, rfl, rfl, rfl, rfl, rfl, trivial⟩ ⟨Nat.zero_le _, e8⟩ ?_
    rintro b w9 ⟨hib, e9⟩
    refine brE_dec (fun hlt2 => ?_) (fun hge2 => ?_)
    · have hltb : b < n := by have : (b : Int) < (n : Nat) := hlt2; omega
      have nextb : IntKind.i64.wrap ((b : Int) + 1) = ((b + 1 : Nat) : Int) := fit ⟨by omega, by omega⟩
      have step : n - (b + 1) < n - b := by omega
      have ham : a < p.length := by omega
      have hbm : b < p.length := by omega
      obtain ⟨x, hx⟩ : ∃ x, x = p[a] := ⟨_, rfl⟩
      obtain ⟨y, hy⟩ : ∃ y, y = p[b] := ⟨_, rfl⟩
      have gx : p.getD a default = x := by rw [List.getD_eq_getElem?_getD, List.getElem?_eq_getElem ham, hx]; rfl
      have gy : p.getD b default = y := by rw [List.getD_eq_getElem?_getD, List.getElem?_eq_getElem hbm, hy]; rfl
      have hF := hfind ham hbm
      rw [gx, gy] at hF
      obtain ⟨r0, hr0⟩ : ∃ r0, r0 = ruledI l x y := ⟨_, rfl⟩
      rw [← hr0] at hF
      have hlt0 := ruledI_lt l x y
      rw [← hr0] at hlt0
      obtain ⟨z, is, ea, his, hz0⟩ : ∃ (z : Arrow) (is : Bool), arrowVal (arrowS N X (a : Nat) (b : Nat)) = .tuple #[z.val, .bool is] ∧ is = decide (a ≠ b ∧ r0 ≥ 0 ∧ (((a : Nat) : Int), ((b : Nat) : Int)) ∉ ps) ∧ (is = true → z.rule = r0 ∧ z.wt = wtOf l r0) := by
        refine ⟨_, _, rfl, ?_, ?_⟩
        · rw [hF]
          split
          · next hc => exact (decide_eq_true hc).symm
          · next hc => exact (decide_eq_false hc).symm
        · rw [hF]
          split
          · exact fun _ => ⟨rfl, rfl⟩
          · exact fun h => by cases h
      have hde : decE l x y = 0 := by
        unfold decE
        rw [if_neg (fun h => h hz), if_pos ⟨hpok x (by rw [hx]; exact List.getElem_mem _), hpok y (by rw [hy]; exact List.getElem_mem _)⟩]
      obtain ⟨kd, rr, qq, hv, hk1', hr1', _, _⟩ := ver_parts l x y
      rw [← hr0] at hk1' hr1'
      have M9 := M.grow e9
      have N9 : Mem w7 w9 [] := ⟨e9, fun _ _ hm => (by cases hm), List.nodup_nil⟩
      refine ⟨[.int .i64 N, .slice A1 X.length c1], rfl, M9.rd 0 rfl, ?_⟩
      have Z := Arrow_spec (hrel.ext e9) (by omega) (a : Nat) (b : Nat)
      rw [ea] at Z
      refine Z.mono ?_
      clear Z
      rintro v w10 ⟨rfl, e10⟩
      intro g17 w11 h11
      have M11 := (M9.grow e10).alloc h11
      refine ⟨rfl, _, _, M11.get 0 rfl, Nat.le_of_ble_eq_true rfl, rfl, ?_⟩
      intro w12 h12
      have M12 : Mem w w12 [(g17, .cells z.cells.toArray 60 (0, 0)), (g11, .cells #[.int .i64 N, .slice A1 X.length c1] 49 (0, 0)), (g7, .cells s.cells.toArray 24 (0, 0)), (g6, .cells #[.slice R l.length cl] 29 (0, 0))] := M11.put 0 rfl h12
      have N12 : Mem w7 w12 [(g17, .cells z.cells.toArray 60 (0, 0))] := ((N9.grow e10).alloc h11).put 0 rfl h12
      clear M11 M9 N9 h11 h12
      obtain ⟨b1, o1, hA1, hc1⟩ := (hHL.ext N12.ext).at (k := 7) (fun _ => rfl) (by omega) ham
      obtain ⟨b2, o2, hA2, hc2⟩ := (hHL.ext N12.ext).at (k := 7) (fun _ => rfl) (by omega) hbm
      rw [← hx] at hc1
      rw [← hy] at hc2
      refine ⟨[.slice R l.length cl], rfl, M12.rd 3 rfl, ?_⟩
      refine ⟨a, b1, o1, rfl, by omega, hA1, ?_⟩
      refine ⟨x.cells, rfl, hc1, ?_⟩
      refine ⟨b, b2, o2, rfl, by omega, hA2, ?_⟩
      refine ⟨y.cells, rfl, hc2, ?_⟩
      obtain ⟨e0, he0⟩ : ∃ e0, e0 = decE l x y := ⟨_, rfl⟩
      have hD : ∀ w', Ext w w' → CallsV C.P 23 #[.agg #[.slice R l.length cl], x.val, y.val] w' fun v w'' => v = .tuple #[.agg (verC kd rr qq).toArray, .int .i64 e0] ∧ Ext w' w'' := by
        intro w' ee
        have Z := Decide_spec (hR.ext ee) x y
        rw [hv, ← he0] at Z
        exact Z
      have he00 : e0 = 0 := he0.trans hde
      refine ⟨?A, ?B⟩
      case' A =>
        refine (hD _ M12.ext).mono ?_
        rintro v w13 ⟨rfl, e13⟩
        refine ⟨e13, ?_⟩
        intro g19 w14 h14
        refine ⟨h14.ext, ?_⟩
        have M := (M12.grow e13).alloc h14
        have Nn := (N12.grow e13).alloc h14
        clear h14 e13
      case' B =>
        intro g19 w13 h13
        refine ⟨h13.ext, ?_⟩
        refine (hD _ (M12.ext.trans h13.ext)).mono ?_
        rintro v w14 ⟨rfl, e14⟩
        refine ⟨e14, ?_⟩
        have M := (M12.alloc h13).grow e14
        have Nn := (N12.alloc h13).grow e14
        clear h13 e14
      all_goals
        refine ⟨rfl, _, _, M.get 0 rfl, Nat.le_of_ble_eq_true rfl, rfl, ?_⟩
        intro w15 h15
        have M : Mem w w15 [(g19, .cells (verC kd rr qq).toArray 64 (0, 0)), (g17, .cells z.cells.toArray 60 (0, 0)), (g11, .cells #[.int .i64 N, .slice A1 X.length c1] 49 (0, 0)), (g7, .cells s.cells.toArray 24 (0, 0)), (g6, .cells #[.slice R l.length cl] 29 (0, 0))] := M.put 0 rfl h15
        have Nn := Nn.put 0 rfl h15
        by_cases hab : a = b
        · refine brE_ndec (fun h => absurd (congrArg (fun n : Nat => (n : Int)) hab) h) (fun _ => ?_)
          have his0 : is = false := by rw [his]; exact decide_eq_false (fun h => h.1 hab)
          subst his0
          refine brE_ndec (fun h => absurd he00 h) (fun _ => ?_)
          refine ⟨_, neqSame4 _ _ _, ?_⟩
          refine ⟨_, nextb, ?_⟩
          exact ⟨b + 1, ⟨rfl, rfl, rfl, rfl, rfl, rfl, rfl, trivial⟩, ⟨hltb, Nn.ext⟩, step⟩
        · refine brE_ndec (fun _ => ?_) (fun h => absurd (by have h : ((a : Nat) : Int) = (b : Nat) := h; omega) hab)
          refine ⟨_, M.cell 0 (i := 0) rfl rfl, ?_⟩
          by_cases hge0 : r0 ≥ 0
          · have er := hr1' hge0
            obtain ⟨j, hj⟩ := Int.eq_ofNat_of_zero_le hge0
            have hjl : j < l.length := by omega
            obtain ⟨bb, oo, hRR, hc8⟩ := (hR.ext M.ext).at hjl
            have his1 : is = !decide ((((a : Nat) : Int), ((b : Nat) : Int)) ∈ ps) := by
              rw [his]
              by_cases hin : (((a : Nat) : Int), ((b : Nat) : Int)) ∈ ps <;> simp [hab, hge0, hin]
            subst his1
            rcases hk1'.2 hge0 with k1 | k3
            · refine brE_true (decide_eq_true k1) ?_
              refine (Has_spec (hrp.ext M.ext) (by omega) _ _).mono ?_
              rintro v16 w16 ⟨rfl, rfl⟩
              refine brE_ndec (fun h => absurd he00 h) (fun _ => ?_)
              refine ⟨_, neqSame4 _ _ _, ?_⟩
              refine brE_mk (fun hi => ?_) (fun hi => ?_)
              · obtain ⟨z1, z2⟩ := hz0 hi
                refine ⟨_, M.cell 1 (i := 2) rfl rfl, ?_⟩
                refine ⟨_, M.cell 0 (i := 1) rfl rfl, ?_⟩
                refine brE_ndec (fun h => absurd (z1.trans er.symm) h) (fun _ => ?_)
                refine ⟨_, M.cell 1 (i := 3) rfl rfl, ?_⟩
                refine ⟨_, M.cell 4 rfl rfl, ?_⟩
                refine ⟨_, M.cell 1 (i := 2) rfl rfl, ?_⟩
                refine ⟨j, bb, oo, z1.trans hj, hjl, hRR, ?_⟩
                refine ⟨_, hc8 2 _ rfl, ?_⟩
                refine brE_ndec (fun h => absurd (show z.wt = l[j].weight by rw [z2, hj, wtOf_nat hjl]) h) (fun _ => ?_)
                refine ⟨_, nextb, ?_⟩
                exact ⟨b + 1, ⟨rfl, rfl, rfl, rfl, rfl, rfl, rfl, trivial⟩, ⟨hltb, Nn.ext⟩, step⟩
              · refine ⟨_, nextb, ?_⟩
                exact ⟨b + 1, ⟨rfl, rfl, rfl, rfl, rfl, rfl, rfl, trivial⟩, ⟨hltb, Nn.ext⟩, step⟩
            · refine brE_false (decide_eq_false (by omega)) ?_
              refine ⟨_, M.cell 0 (i := 0) rfl rfl, ?_⟩
              refine brE_true (decide_eq_true k3) ?_
              refine (Has_spec (hrp.ext M.ext) (by omega) _ _).mono ?_
              rintro v16 w16 ⟨rfl, rfl⟩
              refine brE_ndec (fun h => absurd he00 h) (fun _ => ?_)
              refine ⟨_, neqSame4 _ _ _, ?_⟩
              refine brE_mk (fun hi => ?_) (fun hi => ?_)
              · obtain ⟨z1, z2⟩ := hz0 hi
                refine ⟨_, M.cell 1 (i := 2) rfl rfl, ?_⟩
                refine ⟨_, M.cell 0 (i := 1) rfl rfl, ?_⟩
                refine brE_ndec (fun h => absurd (z1.trans er.symm) h) (fun _ => ?_)
                refine ⟨_, M.cell 1 (i := 3) rfl rfl, ?_⟩
                refine ⟨_, M.cell 4 rfl rfl, ?_⟩
                refine ⟨_, M.cell 1 (i := 2) rfl rfl, ?_⟩
                refine ⟨j, bb, oo, z1.trans hj, hjl, hRR, ?_⟩
                refine ⟨_, hc8 2 _ rfl, ?_⟩
                refine brE_ndec (fun h => absurd (show z.wt = l[j].weight by rw [z2, hj, wtOf_nat hjl]) h) (fun _ => ?_)
                refine ⟨_, nextb, ?_⟩
                exact ⟨b + 1, ⟨rfl, rfl, rfl, rfl, rfl, rfl, rfl, trivial⟩, ⟨hltb, Nn.ext⟩, step⟩
              · refine ⟨_, nextb, ?_⟩
                exact ⟨b + 1, ⟨rfl, rfl, rfl, rfl, rfl, rfl, rfl, trivial⟩, ⟨hltb, Nn.ext⟩, step⟩
          · have his0 : is = false := by rw [his]; exact decide_eq_false (fun h => hge0 h.2.1)
            subst his0
            refine brE_false (decide_eq_false (fun k1 => hge0 (hk1'.1 (.inl k1)))) ?_
            refine ⟨_, M.cell 0 (i := 0) rfl rfl, ?_⟩
            refine brE_false (decide_eq_false (fun k3 => hge0 (hk1'.1 (.inr k3)))) ?_
            refine brE_ndec (fun h => absurd he00 h) (fun _ => ?_)
            refine ⟨_, neqSame4 _ _ _, ?_⟩
            refine ⟨_, nextb, ?_⟩
            exact ⟨b + 1, ⟨rfl, rfl, rfl, rfl, rfl, rfl, rfl, trivial⟩, ⟨hltb, Nn.ext⟩, step⟩
    · refine ⟨_, next, ?_⟩
      exact ⟨a + 1, ⟨rfl, rfl, rfl, rfl, rfl, rfl, trivial⟩, ⟨hlta, e9⟩, by show n - (a + 1) < n - a; omega⟩
  · refine (stop (M.ext.trans e8)).mono ?_
    rintro v w9 ⟨rfl, ee⟩
    exact ⟨rfl, ee⟩
end Go.Proofs.YtdpdjcopkehdjaaGreat.Rk
namespace Go.Proofs.YtdpdjcopkehdjaaGreat.Rk
open Go.Eng Go.RowKit Go.ChangeShapes Go.WideShapes Go.ChangeAt
theorem flat_range {α : Type} {enc : α → List Value} {k : Nat} (hk : ∀ x, (enc x).length = k) (k0 : 0 < k) (f : Nat → α) (n i : Nat) (v : Value) (h : (((List.range n).map f).flatMap enc)[i]? = some v) : ∃ q j, q < n ∧ j < k ∧ i = q * k + j ∧ (enc (f q))[j]? = some v := by
  have hl := flat_length hk ((List.range n).map f)
  have hi := (List.getElem?_eq_some_iff.1 h).1
  rw [hl] at hi
  simp at hi
  have hq : i / k < n := Nat.div_lt_of_lt_mul (by rw [Nat.mul_comm]; exact hi)
  have hq' : i / k < ((List.range n).map f).length := by simpa using hq
  have hj : i % k < k := Nat.mod_lt _ k0
  have e : i / k * k + i % k = i := Nat.div_add_mod' i k
  refine ⟨i / k, i % k, hq, hj, e.symm, ?_⟩
  have := flat_get hk ((List.range n).map f) (i / k) (i % k) hq' hj
  rw [e, h] at this
  rw [this]
  simp
section
variable {H : Type} {enc : TypeId × Value → H} {W : World}
set_option maxRecDepth 100000 in
theorem open_row {α : Type} [Inhabited α] {ec : α → List Value} {k TS T n : Nat} {Pn : α → Prop} (hk : ∀ x, (ec x).length = k) (k0 : 0 < k) (hfirst : ∀ (a : Addr) (y : α), W.cell? a = (ec y)[0]? → a.spot = none)
    (hu : Tryz.prog.underlying TS = some (.slice T)) (hcl : Tryz.prog.cellsOf T = k)
    (ho : ∀ {cs : List Value} {x : DataW H × List MemPlace}, DataW.trod enc Tryz.prog W 0 (fun _ => true) true n T cs = some x → ∃ y : α, cs = ec y ∧ Pn y)
    {cs : List Value} {x : DataW H × List MemPlace} (h : DataW.trod enc Tryz.prog W 0 (fun _ => true) true (n + 1) TS cs = some x) :
    ∃ A l c, cs = [.slice A l.length c] ∧ HL ec W A l c ∧ ∀ y ∈ l, Pn y := by
  rcases DataW.trod_slice hu h with ⟨e1, _⟩ | ⟨a, len, cap, elems, rest, n', hn, e1, _, hb, hl, hm, hlen, hel, hsp, hns⟩
  · exact ⟨none, [], 0, e1, ⟨.inl rfl, Nat.le_refl _, by simp⟩, by simp⟩
  · obtain rfl : n = n' := by omega
    rw [hcl] at hel
    obtain ⟨f, hf2⟩ := Deep.choose_lt (n := len) (p := fun i (y : α) => W.cells? 0 (a.add (i * k)) k = some (ec y) ∧ Pn y) (fun i hi => by
      have h1 := hel i hi
      rw [List.getElem?_eq_getElem (by omega)] at h1
      obtain ⟨cs', h2, h3⟩ := Option.bind_eq_some_iff.1 h1
      obtain ⟨y, rfl, hy⟩ := ho h3
      exact ⟨y, h2, hy⟩)
    have hll : ((List.range len).map f).length = len := by simp
    refine ⟨some a, (List.range len).map f, cap, by rw [hll]; exact e1, ⟨?_, by rw [hll]; exact hl, by rw [hll]; simp only [maxLen] at hm; omega⟩, ?_⟩
    · by_cases h0 : len = 0
      · subst h0; exact .inl rfl
      · have hc : ∀ i < len, ∀ j < k, W.cell? ((a.add (i * k)).add j) = (ec (f i))[j]? := fun i hi j hj => (World.cells?_some (hf2 i (by omega)).1).2.2 j hj
        have hs : a.spot = none := by
          have h1 := hc 0 (by omega) 0 k0
          have e0 : (a.add (0 * k)).add 0 = a := by
            rw [Nat.zero_mul]; rfl
          rw [e0] at h1
          exact hfirst a _ h1
        obtain ⟨b, o, sp⟩ := a
        simp only at hs
        subst hs
        refine .inr ⟨b, o, rfl, fun i v hv => ?_⟩
        obtain ⟨q, j, hq, hj, rfl, hg⟩ := flat_range hk k0 f len i v hv
        have := hc q hq j hj
        rw [hg] at this
        rw [← this]
        rw [add_spot, add_spot, Nat.add_assoc]
    · intro y hy
      obtain ⟨i, hi, rfl⟩ := List.mem_map.1 hy
      exact (hf2 i (by have := List.mem_range.1 hi; omega)).2
theorem cellsT : Tryz.prog.cellsOf 70 = 5 := by kernel_rfl
theorem cellsTs : Tryz.prog.cellsOf 68 = 1 := by kernel_rfl
theorem cellsRl : Tryz.prog.cellsOf 72 = 8 := by kernel_rfl
theorem cellsRls : Tryz.prog.cellsOf 27 = 1 := by kernel_rfl
theorem cellsRs : Tryz.prog.cellsOf 29 = 1 := by kernel_rfl
theorem recRs : Tryz.prog.readableRec 29 = true := by kernel_rfl
theorem rowRs : (29 : TypeId) < Tryz.prog.types.size := of_decide_eq_true (by kernel_rfl)
theorem underTs : Tryz.prog.underlying 68 = some (.slice 70) := by kernel_rfl
theorem underRls : Tryz.prog.underlying 27 = some (.slice 72) := by kernel_rfl
theorem underT : Tryz.prog.underlying 70 = some (.struct #[⟨ "Op", 5, 0, false, "", "", 0⟩, ⟨ "Attr", 5, 1, false, "", "", 1⟩, ⟨ "Side", 5, 2, false, "", "", 2⟩, ⟨ "N", 3, 3, false, "", "", 8⟩, ⟨ "Of", 68, 4, false, "", "", 16⟩]) := by kernel_rfl
theorem underRl : Tryz.prog.underlying 72 = some (.struct #[⟨ "Name", 9, 0, false, "", "", 0⟩, ⟨ "Rank", 3, 1, false, "", "", 16⟩, ⟨ "Weight", 3, 2, false, "", "", 24⟩, ⟨ "If", 70, 3, false, "", "", 32⟩]) := by kernel_rfl
theorem underRs : Tryz.prog.underlying 29 = some (.struct #[⟨ "List", 27, 0, false, "", "", 0⟩]) := by kernel_rfl
theorem list5' {l : List Value} (h : l.length = 5) : ∃ a b c d e, l = [a, b, c, d, e] := by
  match l, h with
  | [a, b, c, d, e], _ => exact ⟨a, b, c, d, e, rfl⟩
set_option maxRecDepth 100000 in
theorem open_test (fuel : Nat) : ∀ {cs : List Value} {x : DataW H × List MemPlace}, DataW.trod enc Tryz.prog W 0 (fun _ => true) true fuel 70 cs = some x → ∃ t : Tst, cs = t.cells ∧ TestIs W t := by
  induction fuel using Nat.strongRecOn with
  | _ fuel ih =>
  intro cs x h
  obtain ⟨xs, n, hfu, _, hlen, hxs, hg⟩ := DataW.trod_struct underT h
  rw [cellsT] at hlen
  obtain ⟨a0, a1, a2, a3, a4, rfl⟩ := list5' hlen
  have some5 : ∀ i, i < 5 → ∃ y, xs[i]? = some y := fun i hi => ⟨_, List.getElem?_eq_getElem (by rw [hxs]; exact hi)⟩
  obtain ⟨y0, hy0⟩ := some5 0 (by omega)
  obtain ⟨y1, hy1⟩ := some5 1 (by omega)
  obtain ⟨y2, hy2⟩ := some5 2 (by omega)
  obtain ⟨y3, hy3⟩ := some5 3 (by omega)
  obtain ⟨y4, hy4⟩ := some5 4 (by omega)
  have f0 : DataW.trod enc Tryz.prog W 0 (fun _ => true) true n 5 (([a0, a1, a2, a3, a4].drop 0).take (Tryz.prog.cellsOf 5)) = xs[0]? := hg 0 _ rfl
  have f1 : DataW.trod enc Tryz.prog W 0 (fun _ => true) true n 5 (([a0, a1, a2, a3, a4].drop 1).take (Tryz.prog.cellsOf 5)) = xs[1]? := hg 1 _ rfl
  have f2 : DataW.trod enc Tryz.prog W 0 (fun _ => true) true n 5 (([a0, a1, a2, a3, a4].drop 2).take (Tryz.prog.cellsOf 5)) = xs[2]? := hg 2 _ rfl
  have f3 : DataW.trod enc Tryz.prog W 0 (fun _ => true) true n 3 (([a0, a1, a2, a3, a4].drop 3).take (Tryz.prog.cellsOf 3)) = xs[3]? := hg 3 _ rfl
  have f4 : DataW.trod enc Tryz.prog W 0 (fun _ => true) true n 68 (([a0, a1, a2, a3, a4].drop 4).take (Tryz.prog.cellsOf 68)) = xs[4]? := hg 4 _ rfl
  rw [cells5, hy0] at f0
  rw [cells5, hy1] at f1
  rw [cells5, hy2] at f2
  rw [cells3, hy3] at f3
  rw [cellsTs, hy4] at f4
  obtain ⟨z0, q0, _, w0⟩ := DataW.trod_int under5 f0
  obtain ⟨z1, q1, _, w1⟩ := DataW.trod_int under5 f1
  obtain ⟨z2, q2, _, w2⟩ := DataW.trod_int under5 f2
  obtain ⟨z3, q3, _, w3⟩ := DataW.trod_int under3 f3
  have hn : ∃ m, n = m + 1 := by
    cases n with
    | zero => simp [DataW.trod] at f4
    | succ m => exact ⟨m, rfl⟩
  obtain ⟨m, rfl⟩ := hn
  obtain ⟨A, l, c, q4, hHL, hkids⟩ := open_row (ec := Tst.cells) (k := 5) (n := m) (Pn := TestIs W) Tst.len (by omega) (fun a y h2 => by
    have h2 : W.cell? a = some (.int .u8 y.op) := h2
    unfold World.cell? at h2
    cases hsp : a.spot with
    | none => rfl
    | some s =>
      simp only [hsp] at h2
      split at h2 <;> simp at h2) underTs cellsT (fun hh => ih m (by omega) hh) f4
  simp at q0 q1 q2 q3 q4
  subst q0 q1 q2 q3 q4
  exact ⟨.mk z0 z1 z2 z3 A c l, rfl, .mk ⟨wf_u8 w0, wf_u8 w1, wf_u8 w2, wf_in64 w3⟩ hHL.reads hHL.len hHL.cap hkids⟩
set_option maxRecDepth 100000 in
theorem open_rule {fuel : Nat} {cs : List Value} {x : DataW H × List MemPlace} (h : DataW.trod enc Tryz.prog W 0 (fun _ => true) true fuel 72 cs = some x) : ∃ t : Rl, cs = t.cells ∧ RuleIs W t := by
  obtain ⟨xs, n, _, _, hlen, hxs, hg⟩ := DataW.trod_struct underRl h
  rw [cellsRl] at hlen
  have some4 : ∀ i, i < 4 → ∃ y, xs[i]? = some y := fun i hi => ⟨_, List.getElem?_eq_getElem (by rw [hxs]; exact hi)⟩
  obtain ⟨y0, hy0⟩ := some4 0 (by omega)
  obtain ⟨y1, hy1⟩ := some4 1 (by omega)
  obtain ⟨y2, hy2⟩ := some4 2 (by omega)
  obtain ⟨y3, hy3⟩ := some4 3 (by omega)
  have f0 : DataW.trod enc Tryz.prog W 0 (fun _ => true) true n 9 ((cs.drop 0).take (Tryz.prog.cellsOf 9)) = xs[0]? := hg 0 _ rfl
  have f1 : DataW.trod enc Tryz.prog W 0 (fun _ => true) true n 3 ((cs.drop 1).take (Tryz.prog.cellsOf 3)) = xs[1]? := hg 1 _ rfl
  have f2 : DataW.trod enc Tryz.prog W 0 (fun _ => true) true n 3 ((cs.drop 2).take (Tryz.prog.cellsOf 3)) = xs[2]? := hg 2 _ rfl
  have f3 : DataW.trod enc Tryz.prog W 0 (fun _ => true) true n 70 ((cs.drop 3).take (Tryz.prog.cellsOf 70)) = xs[3]? := hg 3 _ rfl
  rw [cells9, hy0] at f0
  rw [cells3, hy1] at f1
  rw [cells3, hy2] at f2
  rw [cellsT, hy3] at f3
  obtain ⟨s0, q0, _, w0⟩ := DataW.trod_string under9 f0
  obtain ⟨z1, q1, _, w1⟩ := DataW.trod_int under3 f1
  obtain ⟨z2, q2, _, w2⟩ := DataW.trod_int under3 f2
  obtain ⟨t, q3, ht⟩ := open_test n f3
  refine ⟨⟨s0, z1, z2, t⟩, ?_, ⟨by simpa [maxLen] using w0, wf_in64 w1, wf_in64 w2, ht⟩⟩
  match cs, hlen, q0, q1, q2, q3 with
  | [a0, a1, a2, a3, a4, a5, a6, a7], _, q0, q1, q2, q3 =>
    simp at q0 q1 q2 q3
    subst q0 q1 q2
    show _ = _ :: _ :: _ :: t.cells
    rw [← q3]
set_option maxRecDepth 100000 in
theorem open_rules {v : Value} {d : DataW H} {p : List MemPlace} {b0 : Nat} (hv : Value.okWide Tryz.prog W .any b0 29 v) (h : DataW.Trod enc Tryz.prog W 0 (fun _ => true) true 29 v d p) :
    ∃ R l c, v = .agg #[.slice R l.length c] ∧ HRs W R l c := by
  obtain ⟨cs, rfl, hsz⟩ := okWide_struct underRs hv
  obtain ⟨fuel, hf⟩ := h
  obtain ⟨xs, n, _, _, hlen, hxs, hg⟩ := DataW.trod_struct underRs hf
  obtain ⟨y0, hy0⟩ : ∃ y, xs[0]? = some y := ⟨_, List.getElem?_eq_getElem (by rw [hxs]; exact Nat.zero_lt_one)⟩
  have f0 : DataW.trod enc Tryz.prog W 0 (fun _ => true) true n 27 (((Value.agg cs).cells.toList.drop 0).take (Tryz.prog.cellsOf 27)) = xs[0]? := hg 0 _ rfl
  rw [cellsRls, hy0] at f0
  have hn : ∃ m, n = m + 1 := by
    cases n with
    | zero => simp [DataW.trod] at f0
    | succ m => exact ⟨m, rfl⟩
  obtain ⟨m, rfl⟩ := hn
  obtain ⟨R, l, c, q, hHL, hk⟩ := open_row (ec := Rl.cells) (k := 8) (n := m) (Pn := RuleIs W) Rl.len (by omega) (fun a y h2 => by
    have h2 : W.cell? a = some (.string y.name) := h2
    unfold World.cell? at h2
    cases hsp : a.spot with
    | none => rfl
    | some s =>
      simp only [hsp] at h2
      split at h2 <;> simp at h2) underRls cellsRl (fun hh => open_rule hh) f0
  refine ⟨R, l, c, ?_, hHL, hk⟩
  have hl1 : cs.toList.length = 1 := by simpa [cellsRs] using hsz
  congr 1
  apply Array.ext'
  have : (Value.agg cs).cells.toList = cs.toList := rfl
  rw [this] at q
  rw [List.drop_zero, List.take_of_length_le (by omega)] at q
  exact q
end
section
variable {H : Type} {enc : TypeId × Value → H} {P : Program} {w : World} {base : Nat} {spare : Nat → Bool} {held : Bool}
theorem trodAll_n5 {t0 t1 t2 t3 t4 : TypeId} {args : Array Value} {ds : List (DataW H)} {ps : List MemPlace} (h : DataW.TrodAll enc P w base spare held [t0, t1, t2, t3, t4] args.toList ds ps) :
    ∃ v0 v1 v2 v3 v4 d0 d1 d2 d3 d4 p0 p1 p2 p3 p4, args = #[v0, v1, v2, v3, v4] ∧ ds = [d0, d1, d2, d3, d4] ∧ ps = p0 ++ (p1 ++ (p2 ++ (p3 ++ (p4)))) ∧ DataW.Trod enc P w base spare held t0 v0 d0 p0 ∧ DataW.Trod enc P w base spare held t1 v1 d1 p1 ∧ DataW.Trod enc P w base spare held t2 v2 d2 p2 ∧ DataW.Trod enc P w base spare held t3 v3 d3 p3 ∧ DataW.Trod enc P w base spare held t4 v4 d4 p4 := by
  obtain ⟨v0, vs0, d0, ds0, p0, q0, hargs, rfl, rfl, h0, r0⟩ := trodAll_cons h
  obtain ⟨v1, vs1, d1, ds1, p1, q1, rfl, rfl, rfl, h1, r1⟩ := trodAll_cons r0
  obtain ⟨v2, vs2, d2, ds2, p2, q2, rfl, rfl, rfl, h2, r2⟩ := trodAll_cons r1
  obtain ⟨v3, vs3, d3, ds3, p3, q3, rfl, rfl, rfl, h3, r3⟩ := trodAll_cons r2
  obtain ⟨v4, vs4, d4, ds4, p4, q4, rfl, rfl, rfl, h4, r4⟩ := trodAll_cons r3
  obtain ⟨rfl, rfl, rfl⟩ := trodAll_nil r4
  exact ⟨v0, v1, v2, v3, v4, d0, d1, d2, d3, d4, p0, p1, p2, p3, p4, by cases args; simp_all, rfl, by simp, h0, h1, h2, h3, h4⟩
theorem trodAll_mkn5 {t0 t1 t2 t3 t4 : TypeId} {v0 v1 v2 v3 v4 : Value} {d0 d1 d2 d3 d4 : DataW H} {p0 p1 p2 p3 p4 : List MemPlace} (h0 : DataW.Trod enc P w base spare held t0 v0 d0 p0) (h1 : DataW.Trod enc P w base spare held t1 v1 d1 p1) (h2 : DataW.Trod enc P w base spare held t2 v2 d2 p2) (h3 : DataW.Trod enc P w base spare held t3 v3 d3 p3) (h4 : DataW.Trod enc P w base spare held t4 v4 d4 p4) :
    DataW.TrodAll enc P w base spare held [t0, t1, t2, t3, t4] [v0, v1, v2, v3, v4] [d0, d1, d2, d3, d4] (p0 ++ (p1 ++ (p2 ++ (p3 ++ (p4))))) := ⟨p0, _, h0, trodAll_mk4 h1 h2 h3 h4, rfl⟩
end
end Go.Proofs.YtdpdjcopkehdjaaGreat.Rk
