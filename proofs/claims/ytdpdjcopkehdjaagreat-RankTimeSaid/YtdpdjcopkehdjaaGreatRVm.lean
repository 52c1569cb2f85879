/- a part of the proof: steps, walks and plain laws that the law below stands on; no condition. -/
import Derived.Test.YtdpdjcopkehdjaaGreatRVa
import Derived.Test.YtdpdjcopkehdjaaGreatRVb
import Derived.Test.YtdpdjcopkehdjaaGreatRVc
import Derived.Test.YtdpdjcopkehdjaaGreatRVd
import Derived.Test.YtdpdjcopkehdjaaGreatRVe
import Derived.Test.YtdpdjcopkehdjaaGreatRVf
import Derived.Test.YtdpdjcopkehdjaaGreatRVg
import Derived.Test.YtdpdjcopkehdjaaGreatRVh
import Derived.Test.YtdpdjcopkehdjaaGreatRVi
import Derived.Test.YtdpdjcopkehdjaaGreatRVj
import Derived.Test.YtdpdjcopkehdjaaGreatRVk
import Derived.Test.YtdpdjcopkehdjaaGreatRVl
import Derived.Shelf.Strings.OnBuilder
import Derived.Shelf.Strconv.AtoiAll
import Derived.Shelf.Strconv.Itoa3
import Derived.Shelf.Strings.Search2
import Derived.KernelRfl
import Derived.Test.YtdpdjcopkehdjaaGreatProg
import Derived.WideLaws
import Derived.Maps.RangeRun
import Derived.Carry
set_option linter.unusedVariables false
set_option linter.unusedSimpArgs false
set_option linter.unnecessarySimpa false
set_option linter.unusedSectionVars false
namespace Go.Proofs.YtdpdjcopkehdjaaGreat.Rk
open Go.Eng Go.RowKit
theorem oneFr (l : List Fact) : (fcells l).all (·.oneCell') = true := by
  rw [List.all_eq_true]
  intro v hv
  obtain ⟨x, _, hx⟩ := List.mem_flatMap.1 hv
  simp [Fact.cells] at hx
  rcases hx with rfl | rfl | rfl | rfl | rfl | rfl | rfl | rfl | rfl <;> rfl
theorem someFr {w : World} {A : Option Addr} {l : List Fact} (h : Reads w A (fcells l)) : (A.isSome || Nat.beq l.length 0) = true := by
  cases A with
  | some a => rfl
  | none =>
    rcases h with h | ⟨b, o, hA, _⟩
    · have := congrArg List.length h
      rw [fcells_length] at this
      have h0 : l.length * 9 = 0 := this
      have : l.length = 0 := by omega
      rw [this]; rfl
    · cases hA
theorem appL_okR {l : List Fact} {x : Fact} (h : appE l x = 0) : appL l x = l ++ [x] ∧ (chkF (l ++ [x])).2 = 0 := by
  refine ⟨by unfold appL; rw [if_pos h], ?_⟩
  unfold appE at h
  split at h
  · rename_i h1; exact absurd h h1
  · exact h
def timeS (k : Int) (L : List Fact) (x : Fact) : List Fact := if x.known ≤ k then L else if appE L x = 0 then L ++ [x] else L
def timeL (k : Int) (L m : List Fact) : List Fact := m.foldl (timeS k) L
theorem timeL_step {k : Int} {L m : List Fact} {i : Nat} (hi : i < m.length) : timeL k L (m.take (i + 1)) = timeS k (timeL k L (m.take i)) m[i] := by
  unfold timeL
  rw [List.take_succ_eq_append_getElem hi, List.foldl_append]; rfl
theorem timeL_law {k : Int} {L : List Fact} (h : (chkF L).2 = 0) : ∀ (m : List Fact) (T : List Fact), (∀ x ∈ T, k < x.known) → (chkF (L ++ T)).2 = 0 →
    ∃ U : List Fact, timeL k (L ++ T) m = L ++ U ∧ (∀ x ∈ U, k < x.known) ∧ (chkF (L ++ U)).2 = 0 ∧ U.length ≤ T.length + m.length ∧ ∀ x ∈ U, x ∈ T ∨ x ∈ m
  | [], T, hT, hc => ⟨T, rfl, hT, hc, Nat.le_refl _, fun x hx => .inl hx⟩
  | y :: r, T, hT, hc => by
    have e : timeL k (L ++ T) (y :: r) = timeL k (timeS k (L ++ T) y) r := rfl
    have keep : timeS k (L ++ T) y = L ++ T → ∃ U : List Fact, timeL k (L ++ T) (y :: r) = L ++ U ∧ (∀ x ∈ U, k < x.known) ∧ (chkF (L ++ U)).2 = 0 ∧ U.length ≤ T.length + (y :: r).length ∧ ∀ x ∈ U, x ∈ T ∨ x ∈ y :: r := fun hs => by
      rw [e, hs]
      obtain ⟨U, h1, h2, h3, h4, h5⟩ := timeL_law h r T hT hc
      exact ⟨U, h1, h2, h3, by rw [List.length_cons]; omega, fun x hx => (h5 x hx).imp id (List.mem_cons_of_mem _)⟩
    by_cases h1 : y.known ≤ k
    · exact keep (if_pos h1)
    · by_cases h2 : appE (L ++ T) y = 0
      · have hs : timeS k (L ++ T) y = L ++ (T ++ [y]) := by
          unfold timeS
          rw [if_neg h1, if_pos h2, List.append_assoc]
        rw [e, hs]
        obtain ⟨U, g1, g2, g3, g4, g5⟩ := timeL_law h r (T ++ [y]) (fun x hx => by
          rcases List.mem_append.1 hx with hx | hx
          · exact hT x hx
          · rw [List.mem_singleton.1 hx]; omega) (by rw [← List.append_assoc]; exact (appL_okR h2).2)
        refine ⟨U, g1, g2, g3, by rw [List.length_append] at g4; rw [List.length_cons]; simp at g4; omega, fun x hx => ?_⟩
        rcases g5 x hx with hx | hx
        · rcases List.mem_append.1 hx with hx | hx
          · exact .inl hx
          · rw [List.mem_singleton.1 hx]; exact .inr List.mem_cons_self
        · exact .inr (List.mem_cons_of_mem _ hx)
      · exact keep (by unfold timeS; rw [if_neg h1, if_neg h2])
theorem timeL_all {k : Int} {L m : List Fact} (h : (chkF L).2 = 0) : ∃ U : List Fact, timeL k L m = L ++ U ∧ (∀ x ∈ U, k < x.known) ∧ (chkF (L ++ U)).2 = 0 ∧ U.length ≤ m.length ∧ ∀ x ∈ U, x ∈ m := by
  obtain ⟨U, h1, h2, h3, h4, h5⟩ := timeL_law (k := k) h m [] (fun x hx => by cases hx) (by rw [List.append_nil]; exact h)
  rw [List.append_nil] at h1
  exact ⟨U, h1, h2, h3, by simpa using h4, fun x hx => (h5 x hx).elim (fun e => by cases e) id⟩
set_option maxRecDepth 100000 in
set_option maxHeartbeats 8000000 in
theorem RankTime_spec {w : World} {A D R B : Option Addr} {f m : List Fact} {l : List Rl} {c cm cl d : Nat} {gs : List (Int × Int)} (hf : HF w A f c) (hm : HF w D m cm) (hR : HRs w R l cl) (s : Scn) (hr : Reads w B (prCells gs)) (hg : ∀ g ∈ gs, In64 g.1) :
    CallsV C.P 6 #[.slice A f.length c, .slice D m.length cm, .agg #[.slice R l.length cl], s.val, .slice B gs.length d] w fun v w' => v = .bool true ∧ Ext w w' := by
  have stop : ∀ {w' : World}, Ext w w' → CallsV C.P 11 #[] w' fun v w'' => v = .bool true ∧ Ext w w'' := fun e => (stands_spec _).mono fun v w'' hh => ⟨hh.1, e.trans hh.2⟩
  refine callsV_of C_ok (args := [_, _, _, _, _]) (plans := plans6) Tryz.func6 rfl Tryz.ntmps6 (by kernel_rfl) (Nat.le_of_ble_eq_true rfl) ?_
  intro g6 w1 h1
  have M : Mem w w1 [(g6, .cells #[.slice R l.length cl] 29 (0, 0))] := (Mem.start w).alloc h1
  intro g7 w2 h2
  have M : Mem w w2 [(g7, .cells s.cells.toArray 24 (0, 0)), (g6, .cells #[.slice R l.length cl] 29 (0, 0))] := M.alloc h2
  refine ⟨[.slice R l.length cl], rfl, M.rd 1 rfl, ?_⟩
  refine (fewR_spec (hf.ext M.ext)).mono ?_
  rintro v w3 ⟨⟨b, rfl, hb⟩, e3⟩
  have M := M.grow e3
  refine brE_mk (fun b0 => ?_) (fun b0 => ?_)
  · refine (stop M.ext).mono ?_
    rintro v w4 ⟨rfl, ee⟩
    exact ⟨rfl, ee⟩
  have hfew := hb (by simpa using b0)
  clear hb b0
  refine brE_dec (fun c0 => ?_) (fun c0 => ?_)
  · refine (stop M.ext).mono ?_
    rintro v w4 ⟨rfl, ee⟩
    exact ⟨rfl, ee⟩
  have c0 : ¬ ((m.length : Nat) : Int) > 20 := c0
  have hl : f.length ≤ 2 ^ 19 := by have := hfew.1; omega
  have hgl := hfew.2.2
  refine ⟨[.slice R l.length cl], rfl, M.rd 1 rfl, ?_⟩
  refine ⟨s.cells, rfl, M.rd 0 rfl, ?_⟩
  have noneR : ∀ w', Reads w' none (prCells ([] : List (Int × Int))) := fun _ => .inl rfl
  refine (Relate_spec (Q := none) (e := 0) (ps := []) (hf.ext M.ext) (by omega) (hR.ext M.ext) s (hr.ext M.ext) hg (fun p hp => by cases hp) (noneR _) (Nat.zero_le _)).mono ?_
  rintro v w4 ⟨⟨u1, rfl, A1, c1, rfl, ho1⟩, e4⟩
  have M := M.grow e4
  obtain ⟨k, hk⟩ : ∃ k, k = chkR f (chkRl l) s gs := ⟨_, rfl⟩
  obtain ⟨N, hN⟩ : ∃ N : Int, N = (if k = 0 then ((gs.length : Nat) : Int) else 0) := ⟨_, rfl⟩
  obtain ⟨X, hX⟩ : ∃ X, X = (if k = 0 then waiveL (relL l (profsOf f s gs)) [] else []) := ⟨_, rfl⟩
  have hXl : X.length ≤ 2 ^ 20 := by
    rw [hX]
    split
    · rename_i h0
      have hgl := gchk_len (chkR_zero (hk.symm.trans h0)).2.2.2
      have := relL_len l (profsOf f s gs) (by unfold profsOf; rw [List.length_map]; omega)
      have := waiveL_le (relL l (profsOf f s gs)) []
      omega
    · simp
  rw [← hk, ← hX] at ho1
  rw [← hk, ← hN, ← hX]
  intro g11 w5 h5
  have M5 := M.alloc h5
  refine ⟨rfl, _, _, M5.get 0 rfl, Nat.le_of_ble_eq_true rfl, rfl, ?_⟩
  intro w6 h6
  have M : Mem w w6 [(g11, .cells #[.int .i64 N, .slice A1 X.length c1] 49 (0, 0)), (g7, .cells s.cells.toArray 24 (0, 0)), (g6, .cells #[.slice R l.length cl] 29 (0, 0))] := M5.put 0 rfl h6
  have ho6 := ownsRow_ext ho1 (h6.ext_of h5.ext (by rw [h5.new]; exact Nat.le_refl _))
  clear M5 h5 h6 ho1
  refine brE_ndec (fun k0 => ?_) (fun k0 => ?_)
  · refine (stop M.ext).mono ?_
    rintro v w8 ⟨rfl, ee⟩
    exact ⟨rfl, ee⟩
  have k0 : k = 0 := k0
  have hkz : chkR f (chkRl l) s gs = 0 := hk.symm.trans k0
  obtain ⟨hcf, hz, _, hgz⟩ := chkR_zero hkz
  intro g w7 h7
  have M7 := M.grow h7.ext
  have hrl := hf.reads.ext M7.ext
  have ho2 : w7.ownsRow w6.heap.size 55 9 (.slice (some ⟨g, 0, none⟩) 0 0) 0 [] := owns_block (cs := []) h7.here (by rw [h7.new]; exact Nat.le_refl _) rfl (Nat.zero_le _)
  refine ⟨rfl, rfl, rfl, w6.heap.size, 0, [], fcells f, ho2, h7.ext.size, Nat.le_of_ble_eq_true rfl, rfl, fcells_length f, hrl, someFr hrl, oneFr f, by omega, by simp only [maxLen]; omega, ?_⟩
  intro v8 w8 ho8 hg8 _
  have e68 := app_ext h7.ext ho2 hg8
  rw [Nat.zero_add, List.nil_append] at ho8
  clear h7 M7 hrl ho2 hg8
  refine loopE C_ok (fun (t : Nat × Value) => [(1, .slice D m.length cm), (4, .slice B gs.length d), (7, .pointer (some ⟨g6, 0, none⟩)), (8, .pointer (some ⟨g7, 0, none⟩)), (11, .pointer (some ⟨g11, 0, none⟩)), (13, t.2), (14, .int .i64 (t.1 : Nat))])
    (fun t w' => t.1 ≤ m.length ∧ Ext w6 w' ∧ NewF w6.heap.size w' t.2 (timeL s.known f (m.take t.1))) (fun t => m.length - t.1) (0, v8) ⟨rfl, rfl, rfl, rfl, rfl, rfl, rfl, trivial⟩ ⟨Nat.zero_le _, e68, ho8⟩ ?_
  rintro ⟨i, v⟩ w9 ⟨hi', e9', ho9'⟩
  have hi : i ≤ m.length := hi'
  have e9 : Ext w6 w9 := e9'
  have ho9 : NewF w6.heap.size w9 v (timeL s.known f (m.take i)) := ho9'
  clear hi' e9' ho9'
  have M9 := M.grow e9
  obtain ⟨U, hU, hUk, hUc, hUl, hUm⟩ := timeL_all (k := s.known) (m := m.take i) hcf
  have hUl2 : U.length ≤ m.length := by rw [List.length_take] at hUl; omega
  have hUn : ∀ x ∈ f ++ U, x.Nums := fun x hx => by
    rcases List.mem_append.1 hx with hx | hx
    · exact hf.nums x hx
    · exact hm.nums x (List.mem_of_mem_take (hUm x hx))
  have hLl : (f ++ U).length ≤ 2 ^ 19 := by rw [List.length_append]; have := hfew.1; omega
  refine brE_dec (fun hlt => ?_) (fun hge => ?_)
  · have hlti : i < m.length := by have : (i : Int) < (m.length : Nat) := hlt; omega
    have next : IntKind.i64.wrap ((i : Int) + 1) = ((i + 1 : Nat) : Int) := fit ⟨by omega, by omega⟩
    have step : m.length - (i + 1) < m.length - i := by omega
    have hst := timeL_step (k := s.known) (L := f) hlti
    rw [hU] at hst
    rw [hU] at ho9
    obtain ⟨x, hx⟩ : ∃ x, x = m[i] := ⟨_, rfl⟩
    rw [← hx] at hst
    have hxn : x.Nums := by rw [hx]; exact hm.nums _ (List.getElem_mem hlti)
    obtain ⟨b, o, hA, hc⟩ := Reads.fact (hm.reads.ext M9.ext) hlti
    rw [← hx] at hc
    refine ⟨i, b, o, rfl, hlti, hA, ?_⟩
    refine ⟨_, hc 1 _ rfl, ?_⟩
    refine ⟨_, M9.cell 1 (i := 3) rfl rfl, ?_⟩
    refine brE_dec (fun hk1 => ?_) (fun hk1 => ?_)
    · have hk1 : x.known ≤ s.known := hk1
      have hst : timeL s.known f (m.take (i + 1)) = f ++ U := hst.trans (if_pos hk1)
      refine ⟨_, next, ?_⟩
      exact ⟨(i + 1, v), ⟨rfl, rfl, rfl, rfl, rfl, rfl, rfl, trivial⟩, ⟨hlti, e9, by show NewF _ _ _ (timeL s.known f (m.take (i + 1))); rw [hst]; exact ho9⟩, step⟩
    have hk1 : ¬ x.known ≤ s.known := hk1
    have hst : timeL s.known f (m.take (i + 1)) = if appE (f ++ U) x = 0 then (f ++ U) ++ [x] else f ++ U := hst.trans (if_neg hk1)
    obtain ⟨A9, c9, rfl, hF9⟩ := ho9.hf hUn
    refine ⟨i, b, o, rfl, hlti, hA, ?_⟩
    refine ⟨x.cells, rfl, hc, ?_⟩
    obtain ⟨e0, he0⟩ : ∃ e0, e0 = appE (f ++ U) x := ⟨_, rfl⟩
    have Z := Append_spec hF9 hLl hxn
    rw [← he0] at Z hst
    refine Z.mono ?_
    clear Z
    rintro u w10 ⟨⟨r, rfl, hor⟩, e10⟩
    refine brE_dec (fun h0 => ?_) (fun h0 => ?_)
    · have h0 : e0 = 0 := h0
      have hap := (appL_okR (he0.symm.trans h0)).1
      rw [if_pos h0] at hst
      refine ⟨_, next, ?_⟩
      refine ⟨(i + 1, r), ⟨rfl, rfl, rfl, rfl, rfl, rfl, rfl, trivial⟩, ⟨hlti, e9.trans e10, ?_⟩, step⟩
      show NewF _ _ _ (timeL s.known f (m.take (i + 1)))
      rw [hst, ← hap]
      exact hor.base e9.size
    · have h0 : ¬ e0 = 0 := h0
      rw [if_neg h0] at hst
      refine ⟨_, next, ?_⟩
      refine ⟨(i + 1, _), ⟨rfl, rfl, rfl, rfl, rfl, rfl, rfl, trivial⟩, ⟨hlti, e9.trans e10, ?_⟩, step⟩
      show NewF _ _ _ (timeL s.known f (m.take (i + 1)))
      rw [hst]
      exact ho9.ext e10
  · rw [hU] at ho9
    obtain ⟨A9, c9, rfl, hF9⟩ := ho9.hf hUn
    have hat : ∀ day, atL s.known day (f ++ U) = atL s.known day f := fun day => at_later hUk
    have hpr : profsOf (f ++ U) s gs = profsOf f s gs := by
      unfold profsOf
      refine List.map_congr_left fun g _ => ?_
      unfold profOf
      rw [hat]
    have hch : chkR (f ++ U) (chkRl l) s gs = k := by
      rw [hk]
      unfold chkR
      rw [hUc, hcf]
    refine ⟨[.slice R l.length cl], rfl, M9.rd 2 rfl, ?_⟩
    refine ⟨s.cells, rfl, M9.rd 1 rfl, ?_⟩
    have Z := Relate_spec (Q := none) (c := c9) (d := d) (e := 0) (ps := []) hF9 (by omega) (hR.ext M9.ext) s (hr.ext M9.ext) hg (fun p hp => by cases hp) (noneR _) (Nat.zero_le _)
    rw [hpr, hch, ← hN, ← hX] at Z
    refine Z.mono ?_
    clear Z
    rintro v w10 ⟨⟨u2, rfl, A2, c2, rfl, hp2⟩, e10⟩
    have M := M9.grow e10
    intro g17 w11 h11
    have M11 := M.alloc h11
    refine ⟨rfl, _, _, M11.get 0 rfl, Nat.le_of_ble_eq_true rfl, rfl, ?_⟩
    intro w12 h12
    have M : Mem w w12 [(g17, .cells #[.int .i64 N, .slice A2 X.length c2] 49 (0, 0)), (g11, .cells #[.int .i64 N, .slice A1 X.length c1] 49 (0, 0)), (g7, .cells s.cells.toArray 24 (0, 0)), (g6, .cells #[.slice R l.length cl] 29 (0, 0))] := M11.put 0 rfl h12
    have e12 := h12.ext_of h11.ext (by rw [h11.new]; exact Nat.le_refl _)
    clear M11 h11 h12
    refine (stands_spec w12).mono ?_
    rintro v w13 ⟨rfl, e13⟩
    have M := M.grow e13
    refine brE_dec (fun _ => ?_) (fun hne => absurd k0 hne)
    refine ⟨[.int .i64 N, .slice A1 X.length c1], rfl, M.rd 1 rfl, ?_⟩
    refine ⟨[.int .i64 N, .slice A2 X.length c2], rfl, M.rd 0 rfl, ?_⟩
    obtain ⟨A1', c1', q1, hr1, _⟩ := reads_of_owns (ownsRow_ext ho6 (e9.trans (e10.trans (e12.trans e13))))
    obtain ⟨A2', c2', q2, hr2, _⟩ := reads_of_owns (ownsRow_ext hp2 (e12.trans e13))
    cases q1
    cases q2
    refine (Same_spec hr1 hr2 (by omega)).mono ?_
    rintro v w14 ⟨rfl, e14⟩
    exact ⟨rfl, M.ext.trans e14⟩
end Go.Proofs.YtdpdjcopkehdjaaGreat.Rk
namespace Go.Proofs.YtdpdjcopkehdjaaGreat.Rk
open Go.Eng Go.RowKit Go.ChangeShapes Go.WideShapes Go.ChangeAt
theorem flat_range {α : Type} {enc : α → List Value} {k : Nat} (hk : ∀ x, (enc x).length = k) (k0 : 0 < k) (f : Nat → α) (n i : Nat) (v : Value) (h : (((List.range n).map f).flatMap enc)[i]? = some v) : ∃ q j, q < n ∧ j < k ∧ i = q * k + j ∧ (enc (f q))[j]? = some v := by
  have hl := flat_length hk ((List.range n).map f)
  have hi := (List.getElem?_eq_some_iff.1 h).1
  rw [hl] at hi
  simp at hi
  have hq : i / k < n := Nat.div_lt_of_lt_mul (by rw [Nat.mul_comm]; exact hi)
  have hq' : i / k < ((List.range n).map f).length := by simpa using hq
  have hj : i % k < k := Nat.mod_lt _ k0
  have e : i / k * k + i % k = i := Nat.div_add_mod' i k
  refine ⟨i / k, i % k, hq, hj, e.symm, ?_⟩
  have := flat_get hk ((List.range n).map f) (i / k) (i % k) hq' hj
  rw [e, h] at this
  rw [this]
  simp
section
variable {H : Type} {enc : TypeId × Value → H} {W : World}
set_option maxRecDepth 100000 in
theorem open_row {α : Type} [Inhabited α] {ec : α → List Value} {k TS T n : Nat} {Pn : α → Prop} (hk : ∀ x, (ec x).length = k) (k0 : 0 < k) (hfirst : ∀ (a : Addr) (y : α), W.cell? a = (ec y)[0]? → a.spot = none)
    (hu : Tryz.prog.underlying TS = some (.slice T)) (hcl : Tryz.prog.cellsOf T = k)
    (ho : ∀ {cs : List Value} {x : DataW H × List MemPlace}, DataW.trod enc Tryz.prog W 0 (fun _ => true) true n T cs = some x → ∃ y : α, cs = ec y ∧ Pn y)
    {cs : List Value} {x : DataW H × List MemPlace} (h : DataW.trod enc Tryz.prog W 0 (fun _ => true) true (n + 1) TS cs = some x) :
    ∃ A l c, cs = [.slice A l.length c] ∧ HL ec W A l c ∧ ∀ y ∈ l, Pn y := by
  rcases DataW.trod_slice hu h with ⟨e1, _⟩ | ⟨a, len, cap, elems, rest, n', hn, e1, _, hb, hl, hm, hlen, hel, hsp, hns⟩
  · exact ⟨none, [], 0, e1, ⟨.inl rfl, Nat.le_refl _, by simp⟩, by simp⟩
  · obtain rfl : n = n' := by omega
    rw [hcl] at hel
    obtain ⟨f, hf2⟩ := Deep.choose_lt (n := len) (p := fun i (y : α) => W.cells? 0 (a.add (i * k)) k = some (ec y) ∧ Pn y) (fun i hi => by
      have h1 := hel i hi
      rw [List.getElem?_eq_getElem (by omega)] at h1
      obtain ⟨cs', h2, h3⟩ := Option.bind_eq_some_iff.1 h1
      obtain ⟨y, rfl, hy⟩ := ho h3
      exact ⟨y, h2, hy⟩)
    have hll : ((List.range len).map f).length = len := by simp
    refine ⟨some a, (List.range len).map f, cap, by rw [hll]; exact e1, ⟨?_, by rw [hll]; exact hl, by rw [hll]; simp only [maxLen] at hm; omega⟩, ?_⟩
    · by_cases h0 : len = 0
      · subst h0; exact .inl rfl
      · have hc : ∀ i < len, ∀ j < k, W.cell? ((a.add (i * k)).add j) = (ec (f i))[j]? := fun i hi j hj => (World.cells?_some (hf2 i (by omega)).1).2.2 j hj
        have hs : a.spot = none := by
          have h1 := hc 0 (by omega) 0 k0
          have e0 : (a.add (0 * k)).add 0 = a := by
            rw [Nat.zero_mul]; rfl
          rw [e0] at h1
          exact hfirst a _ h1
        obtain ⟨b, o, sp⟩ := a
        simp only at hs
        subst hs
        refine .inr ⟨b, o, rfl, fun i v hv => ?_⟩
        obtain ⟨q, j, hq, hj, rfl, hg⟩ := flat_range hk k0 f len i v hv
        have := hc q hq j hj
        rw [hg] at this
        rw [← this]
        rw [add_spot, add_spot, Nat.add_assoc]
    · intro y hy
      obtain ⟨i, hi, rfl⟩ := List.mem_map.1 hy
      exact (hf2 i (by have := List.mem_range.1 hi; omega)).2
theorem cellsT : Tryz.prog.cellsOf 70 = 5 := by kernel_rfl
theorem cellsTs : Tryz.prog.cellsOf 68 = 1 := by kernel_rfl
theorem cellsRl : Tryz.prog.cellsOf 72 = 8 := by kernel_rfl
theorem cellsRls : Tryz.prog.cellsOf 27 = 1 := by kernel_rfl
theorem cellsRs : Tryz.prog.cellsOf 29 = 1 := by kernel_rfl
theorem recRs : Tryz.prog.readableRec 29 = true := by kernel_rfl
theorem rowRs : (29 : TypeId) < Tryz.prog.types.size := of_decide_eq_true (by kernel_rfl)
theorem underTs : Tryz.prog.underlying 68 = some (.slice 70) := by kernel_rfl
theorem underRls : Tryz.prog.underlying 27 = some (.slice 72) := by kernel_rfl
theorem underT : Tryz.prog.underlying 70 = some (.struct #[⟨ "Op", 5, 0, false, "", "", 0⟩, ⟨ "Attr", 5, 1, false, "", "", 1⟩, ⟨ "Side", 5, 2, false, "", "", 2⟩, ⟨ "N", 3, 3, false, "", "", 8⟩, ⟨ "Of", 68, 4, false, "", "", 16⟩]) := by kernel_rfl
theorem underRl : Tryz.prog.underlying 72 = some (.struct #[⟨ "Name", 9, 0, false, "", "", 0⟩, ⟨ "Rank", 3, 1, false, "", "", 16⟩, ⟨ "Weight", 3, 2, false, "", "", 24⟩, ⟨ "If", 70, 3, false, "", "", 32⟩]) := by kernel_rfl
theorem underRs : Tryz.prog.underlying 29 = some (.struct #[⟨ "List", 27, 0, false, "", "", 0⟩]) := by kernel_rfl
theorem list5' {l : List Value} (h : l.length = 5) : ∃ a b c d e, l = [a, b, c, d, e] := by
  match l, h with
  | [a, b, c, d, e], _ => exact ⟨a, b, c, d, e, rfl⟩
set_option maxRecDepth 100000 in
theorem open_test (fuel : Nat) : ∀ {cs : List Value} {x : DataW H × List MemPlace}, DataW.trod enc Tryz.prog W 0 (fun _ => true) true fuel 70 cs = some x → ∃ t : Tst, cs = t.cells ∧ TestIs W t := by
  induction fuel using Nat.strongRecOn with
  | _ fuel ih =>
  intro cs x h
  obtain ⟨xs, n, hfu, _, hlen, hxs, hg⟩ := DataW.trod_struct underT h
  rw [cellsT] at hlen
  obtain ⟨a0, a1, a2, a3, a4, rfl⟩ := list5' hlen
  have some5 : ∀ i, i < 5 → ∃ y, xs[i]? = some y := fun i hi => ⟨_, List.getElem?_eq_getElem (by rw [hxs]; exact hi)⟩
  obtain ⟨y0, hy0⟩ := some5 0 (by omega)
  obtain ⟨y1, hy1⟩ := some5 1 (by omega)
  obtain ⟨y2, hy2⟩ := some5 2 (by omega)
  obtain ⟨y3, hy3⟩ := some5 3 (by omega)
  obtain ⟨y4, hy4⟩ := some5 4 (by omega)
  have f0 : DataW.trod enc Tryz.prog W 0 (fun _ => true) true n 5 (([a0, a1, a2, a3, a4].drop 0).take (Tryz.prog.cellsOf 5)) = xs[0]? := hg 0 _ rfl
  have f1 : DataW.trod enc Tryz.prog W 0 (fun _ => true) true n 5 (([a0, a1, a2, a3, a4].drop 1).take (Tryz.prog.cellsOf 5)) = xs[1]? := hg 1 _ rfl
  have f2 : DataW.trod enc Tryz.prog W 0 (fun _ => true) true n 5 (([a0, a1, a2, a3, a4].drop 2).take (Tryz.prog.cellsOf 5)) = xs[2]? := hg 2 _ rfl
  have f3 : DataW.trod enc Tryz.prog W 0 (fun _ => true) true n 3 (([a0, a1, a2, a3, a4].drop 3).take (Tryz.prog.cellsOf 3)) = xs[3]? := hg 3 _ rfl
  have f4 : DataW.trod enc Tryz.prog W 0 (fun _ => true) true n 68 (([a0, a1, a2, a3, a4].drop 4).take (Tryz.prog.cellsOf 68)) = xs[4]? := hg 4 _ rfl
  rw [cells5, hy0] at f0
  rw [cells5, hy1] at f1
  rw [cells5, hy2] at f2
  rw [cells3, hy3] at f3
  rw [cellsTs, hy4] at f4
  obtain ⟨z0, q0, _, w0⟩ := DataW.trod_int under5 f0
  obtain ⟨z1, q1, _, w1⟩ := DataW.trod_int under5 f1
  obtain ⟨z2, q2, _, w2⟩ := DataW.trod_int under5 f2
  obtain ⟨z3, q3, _, w3⟩ := DataW.trod_int under3 f3
  have hn : ∃ m, n = m + 1 := by
    cases n with
    | zero => simp [DataW.trod] at f4
    | succ m => exact ⟨m, rfl⟩
  obtain ⟨m, rfl⟩ := hn
  obtain ⟨A, l, c, q4, hHL, hkids⟩ := open_row (ec := Tst.cells) (k := 5) (n := m) (Pn := TestIs W) Tst.len (by omega) (fun a y h2 => by
    have h2 : W.cell? a = some (.int .u8 y.op) := h2
    unfold World.cell? at h2
    cases hsp : a.spot with
    | none => rfl
    | some s =>
      simp only [hsp] at h2
      split at h2 <;> simp at h2) underTs cellsT (fun hh => ih m (by omega) hh) f4
  simp at q0 q1 q2 q3 q4
  subst q0 q1 q2 q3 q4
  exact ⟨.mk z0 z1 z2 z3 A c l, rfl, .mk ⟨wf_u8 w0, wf_u8 w1, wf_u8 w2, wf_in64 w3⟩ hHL.reads hHL.len hHL.cap hkids⟩
set_option maxRecDepth 100000 in
theorem open_rule {fuel : Nat} {cs : List Value} {x : DataW H × List MemPlace} (h : DataW.trod enc Tryz.prog W 0 (fun _ => true) true fuel 72 cs = some x) : ∃ t : Rl, cs = t.cells ∧ RuleIs W t := by
  obtain ⟨xs, n, _, _, hlen, hxs, hg⟩ := DataW.trod_struct underRl h
  rw [cellsRl] at hlen
  have some4 : ∀ i, i < 4 → ∃ y, xs[i]? = some y := fun i hi => ⟨_, List.getElem?_eq_getElem (by rw [hxs]; exact hi)⟩
  obtain ⟨y0, hy0⟩ := some4 0 (by omega)
  obtain ⟨y1, hy1⟩ := some4 1 (by omega)
  obtain ⟨y2, hy2⟩ := some4 2 (by omega)
  obtain ⟨y3, hy3⟩ := some4 3 (by omega)
  have f0 : DataW.trod enc Tryz.prog W 0 (fun _ => true) true n 9 ((cs.drop 0).take (Tryz.prog.cellsOf 9)) = xs[0]? := hg 0 _ rfl
  have f1 : DataW.trod enc Tryz.prog W 0 (fun _ => true) true n 3 ((cs.drop 1).take (Tryz.prog.cellsOf 3)) = xs[1]? := hg 1 _ rfl
  have f2 : DataW.trod enc Tryz.prog W 0 (fun _ => true) true n 3 ((cs.drop 2).take (Tryz.prog.cellsOf 3)) = xs[2]? := hg 2 _ rfl
  have f3 : DataW.trod enc Tryz.prog W 0 (fun _ => true) true n 70 ((cs.drop 3).take (Tryz.prog.cellsOf 70)) = xs[3]? := hg 3 _ rfl
  rw [cells9, hy0] at f0
  rw [cells3, hy1] at f1
  rw [cells3, hy2] at f2
  rw [cellsT, hy3] at f3
  obtain ⟨s0, q0, _, w0⟩ := DataW.trod_string under9 f0
  obtain ⟨z1, q1, _, w1⟩ := DataW.trod_int under3 f1
  obtain ⟨z2, q2, _, w2⟩ := DataW.trod_int under3 f2
  obtain ⟨t, q3, ht⟩ := open_test n f3
  refine ⟨⟨s0, z1, z2, t⟩, ?_, ⟨by simpa [maxLen] using w0, wf_in64 w1, wf_in64 w2, ht⟩⟩
  match cs, hlen, q0, q1, q2, q3 with
  | [a0, a1, a2, a3, a4, a5, a6, a7], _, q0, q1, q2, q3 =>
    simp at q0 q1 q2 q3
    subst q0 q1 q2
    show _ = _ :: _ :: _ :: t.cells
    rw [← q3]
set_option maxRecDepth 100000 in
theorem open_rules {v : Value} {d : DataW H} {p : List MemPlace} {b0 : Nat} (hv : Value.okWide Tryz.prog W .any b0 29 v) (h : DataW.Trod enc Tryz.prog W 0 (fun _ => true) true 29 v d p) :
    ∃ R l c, v = .agg #[.slice R l.length c] ∧ HRs W R l c := by
  obtain ⟨cs, rfl, hsz⟩ := okWide_struct underRs hv
  obtain ⟨fuel, hf⟩ := h
  obtain ⟨xs, n, _, _, hlen, hxs, hg⟩ := DataW.trod_struct underRs hf
  obtain ⟨y0, hy0⟩ : ∃ y, xs[0]? = some y := ⟨_, List.getElem?_eq_getElem (by rw [hxs]; exact Nat.zero_lt_one)⟩
  have f0 : DataW.trod enc Tryz.prog W 0 (fun _ => true) true n 27 (((Value.agg cs).cells.toList.drop 0).take (Tryz.prog.cellsOf 27)) = xs[0]? := hg 0 _ rfl
  rw [cellsRls, hy0] at f0
  have hn : ∃ m, n = m + 1 := by
    cases n with
    | zero => simp [DataW.trod] at f0
    | succ m => exact ⟨m, rfl⟩
  obtain ⟨m, rfl⟩ := hn
  obtain ⟨R, l, c, q, hHL, hk⟩ := open_row (ec := Rl.cells) (k := 8) (n := m) (Pn := RuleIs W) Rl.len (by omega) (fun a y h2 => by
    have h2 : W.cell? a = some (.string y.name) := h2
    unfold World.cell? at h2
    cases hsp : a.spot with
    | none => rfl
    | some s =>
      simp only [hsp] at h2
      split at h2 <;> simp at h2) underRls cellsRl (fun hh => open_rule hh) f0
  refine ⟨R, l, c, ?_, hHL, hk⟩
  have hl1 : cs.toList.length = 1 := by simpa [cellsRs] using hsz
  congr 1
  apply Array.ext'
  have : (Value.agg cs).cells.toList = cs.toList := rfl
  rw [this] at q
  rw [List.drop_zero, List.take_of_length_le (by omega)] at q
  exact q
end
section
variable {H : Type} {enc : TypeId × Value → H} {P : Program} {w : World} {base : Nat} {spare : Nat → Bool} {held : Bool}
theorem trodAll_n5 {t0 t1 t2 t3 t4 : TypeId} {args : Array Value} {ds : List (DataW H)} {ps : List MemPlace} (h : DataW.TrodAll enc P w base spare held [t0, t1, t2, t3, t4] args.toList ds ps) :
    ∃ v0 v1 v2 v3 v4 d0 d1 d2 d3 d4 p0 p1 p2 p3 p4, args = #[v0, v1, v2, v3, v4] ∧ ds = [d0, d1, d2, d3, d4] ∧ ps = p0 ++ (p1 ++ (p2 ++ (p3 ++ (p4)))) ∧ DataW.Trod enc P w base spare held t0 v0 d0 p0 ∧ DataW.Trod enc P w base spare held t1 v1 d1 p1 ∧ DataW.Trod enc P w base spare held t2 v2 d2 p2 ∧ DataW.Trod enc P w base spare held t3 v3 d3 p3 ∧ DataW.Trod enc P w base spare held t4 v4 d4 p4 := by
  obtain ⟨v0, vs0, d0, ds0, p0, q0, hargs, rfl, rfl, h0, r0⟩ := trodAll_cons h
  obtain ⟨v1, vs1, d1, ds1, p1, q1, rfl, rfl, rfl, h1, r1⟩ := trodAll_cons r0
  obtain ⟨v2, vs2, d2, ds2, p2, q2, rfl, rfl, rfl, h2, r2⟩ := trodAll_cons r1
  obtain ⟨v3, vs3, d3, ds3, p3, q3, rfl, rfl, rfl, h3, r3⟩ := trodAll_cons r2
  obtain ⟨v4, vs4, d4, ds4, p4, q4, rfl, rfl, rfl, h4, r4⟩ := trodAll_cons r3
  obtain ⟨rfl, rfl, rfl⟩ := trodAll_nil r4
  exact ⟨v0, v1, v2, v3, v4, d0, d1, d2, d3, d4, p0, p1, p2, p3, p4, by cases args; simp_all, rfl, by simp, h0, h1, h2, h3, h4⟩
theorem trodAll_mkn5 {t0 t1 t2 t3 t4 : TypeId} {v0 v1 v2 v3 v4 : Value} {d0 d1 d2 d3 d4 : DataW H} {p0 p1 p2 p3 p4 : List MemPlace} (h0 : DataW.Trod enc P w base spare held t0 v0 d0 p0) (h1 : DataW.Trod enc P w base spare held t1 v1 d1 p1) (h2 : DataW.Trod enc P w base spare held t2 v2 d2 p2) (h3 : DataW.Trod enc P w base spare held t3 v3 d3 p3) (h4 : DataW.Trod enc P w base spare held t4 v4 d4 p4) :
    DataW.TrodAll enc P w base spare held [t0, t1, t2, t3, t4] [v0, v1, v2, v3, v4] [d0, d1, d2, d3, d4] (p0 ++ (p1 ++ (p2 ++ (p3 ++ (p4))))) := ⟨p0, _, h0, trodAll_mk4 h1 h2 h3 h4, rfl⟩
end
end Go.Proofs.YtdpdjcopkehdjaaGreat.Rk
