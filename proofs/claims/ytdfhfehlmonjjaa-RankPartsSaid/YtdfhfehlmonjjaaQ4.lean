/- rank: the sample, stands, RankStands, RankTransitive, RankChains. -/
import Derived.Test.YtdfhfehlmonjjaaQ3
namespace Go.Proofs.Ytdfhfehlmonjjaa
open Go.Eng Go.RowKit

/-- Chains through the first 'k' guests alone. -/
def war (T : Nat → Nat → Bool) : Nat → Nat → Nat → Bool
  | 0, i, j => T i j
  | k + 1, i, j => war T k i j || (war T k i k && war T k k j)

theorem war_path {T : Nat → Nat → Bool} : ∀ {k i j : Nat}, war T k i j = true → Path T i j
  | 0, _, _, h => .one h
  | k + 1, i, j, h => by
    rw [war, Bool.or_eq_true, Bool.and_eq_true] at h
    rcases h with h | ⟨h1, h2⟩
    · exact war_path h
    · exact (war_path h1).trans (war_path h2)

theorem war_mono {T : Nat → Nat → Bool} {k i j : Nat} (h : war T k i j = true) : war T (k + 1) i j = true := by rw [war, h, Bool.true_or]
theorem war_of {T : Nat → Nat → Bool} {i j : Nat} (h : T i j = true) : ∀ k, war T k i j = true
  | 0 => h
  | k + 1 => war_mono (war_of h k)

theorem war_trans {T : Nat → Nat → Bool} : ∀ {k m i j : Nat}, m < k → war T k i m = true → war T k m j = true → war T k i j = true
  | 0, _, _, _, h, _, _ => absurd h (Nat.not_lt_zero _)
  | k + 1, m, i, j, h, h1, h2 => by
    rw [war, Bool.or_eq_true, Bool.and_eq_true] at h1 h2 ⊢
    by_cases hm : m = k
    · subst hm
      have a1 : war T m i m = true := h1.elim id And.left
      have a2 : war T m m j = true := h2.elim id And.right
      exact .inr ⟨a1, a2⟩
    · have hlt : m < k := by omega
      rcases h1 with h1 | ⟨h1, h1'⟩ <;> rcases h2 with h2 | ⟨h2, h2'⟩
      · exact .inl (war_trans hlt h1 h2)
      · exact .inr ⟨war_trans hlt h1 h2, h2'⟩
      · exact .inr ⟨h1, war_trans hlt h1' h2⟩
      · exact .inr ⟨h1, h2'⟩

theorem reach_war {n : Nat} {T : Nat → Nat → Bool} (hT : Inside n T) : reach T = war T n := by
  funext i j
  rw [Bool.eq_iff_iff, reach_iff]
  constructor
  · intro h
    induction h with
    | one h => exact war_of h n
    | step _ h ih => exact war_trans (hT _ _ h).1 ih (war_of h n)
  · exact war_path

def exX : List Arrow := [⟨0, 1, 0, 5⟩, ⟨1, 2, 0, 5⟩, ⟨2, 1, 0, 5⟩, ⟨2, 3, 0, 5⟩]
def exW : List Arrow := [⟨0, 1, 0, 5⟩, ⟨1, 2, 0, 5⟩, ⟨2, 3, 0, 5⟩]

theorem exX_valid : chk 4 exX = 0 := by decide
theorem exW_valid : chk 4 exW = 0 := by decide
theorem exX_reach : reach (toM exX) = war (toM exX) 4 := reach_war (valid_of_chk exX_valid).inside
theorem exW_reach : reach (toM exW) = war (toM exW) 4 := reach_war (valid_of_chk exW_valid).inside
theorem ex_waive : waiveL exX [(2, 1)] = exW := by decide

theorem exX_comps : compsV 4 exX = [[0], [1, 2], [3]] := by
  rw [compsV, if_pos exX_valid, exX_reach]
  rfl
theorem exW_comps : compsV 4 exW = [[0], [1], [2], [3]] := by
  rw [compsV, if_pos exW_valid, exW_reach]
  rfl
theorem exW_unset : unsetL 4 exW = [] := by
  rw [unsetL, if_pos exW_valid, exW_reach]
  rfl
theorem exW_settled : settledB 4 exW = true ∧ settledL 4 exW = [0, 1, 2, 3] := by
  have h : settledB 4 exW = true := by simp [settledB, exW_valid, exW_unset]
  refine ⟨h, ?_⟩
  rw [settledL, if_pos h, exW_comps]; rfl
theorem ex_changedE : changedE 4 exX 4 exW = 0 := by simp [changedE, exX_valid, exW_valid]
theorem ex_changedL : changedL 4 exX 4 exW = [(1, 2)] := by
  rw [changedL, if_pos ex_changedE, exX_reach, exW_reach]
  rfl
theorem ex_stand03 : standS 4 exX 0 3 = 1 := by rw [standS, if_pos exX_valid, exX_reach]; rfl
theorem ex_stand30 : standS 4 exX 3 0 = 2 := by rw [standS, if_pos exX_valid, exX_reach]; rfl
theorem ex_stand12 : standS 4 exX 1 2 = 3 := by rw [standS, if_pos exX_valid, exX_reach]; rfl
theorem ex_check : checkS 4 exX 1 3 [1, 2, 1, 2, 3] = true := by decide

theorem exT {a b : Nat} (h : toM exX a b = true) : (a = 0 ∧ b = 1) ∨ (a = 1 ∧ b = 2) ∨ (a = 2 ∧ b = 1) ∨ (a = 2 ∧ b = 3) := by
  simp [toM, exX] at h
  omega

theorem ex_d32 : dist (toM exX) 3 2 = 1 := dist_one.2 rfl
theorem ex_d31 : dist (toM exX) 3 1 = 2 := by
  have h1 : dist (toM exX) 3 1 ≠ 1 := fun h => by have := exT (dist_one.1 h); omega
  exact (dist_next (by omega)).2 ⟨by omega, 2, rfl, ex_d32⟩
theorem ex_d30 : dist (toM exX) 3 0 = 3 := by
  have h1 : dist (toM exX) 3 0 ≠ 1 := fun h => by have := exT (dist_one.1 h); omega
  have h2 : dist (toM exX) 3 0 ≠ 2 := fun h => by
    obtain ⟨_, y, hy, hd⟩ := (dist_next (by omega)).1 h
    have := exT hy
    have := exT (dist_one.1 hd)
    omega
  exact (dist_next (by omega)).2 ⟨by omega, 1, rfl, ex_d31⟩
theorem ex_d12 : dist (toM exX) 1 2 = 1 := dist_one.2 rfl
theorem ex_d11 : dist (toM exX) 1 1 = 2 := by
  have h1 : dist (toM exX) 1 1 ≠ 1 := fun h => by have := exT (dist_one.1 h); omega
  exact (dist_next (by omega)).2 ⟨by omega, 2, rfl, ex_d12⟩

theorem ex_m0 : members (toM exX 0) = [1] := by decide
theorem ex_m1 : members (toM exX 1) = [2] := by decide

theorem ex_chain03 : chainS 4 exX 0 3 = some [0, 1, 2, 3] := by
  have h : chk 4 exX = 0 ∧ (inR 4 0 && inR 4 3) = true ∧ reach (toM exX) (0 : Int).toNat (3 : Int).toNat = true := ⟨exX_valid, rfl, by rw [exX_reach]; rfl⟩
  rw [chainS, if_pos h]
  show some (chainL (toM exX) 0 3) = _
  simp [chainL, ex_d30, follow, ex_m0, ex_m1, ex_d31, ex_d32]
theorem ex_chain11 : chainS 4 exX 1 1 = some [1, 2, 1] := by
  have h : chk 4 exX = 0 ∧ (inR 4 1 && inR 4 1) = true ∧ reach (toM exX) (1 : Int).toNat (1 : Int).toNat = true := ⟨exX_valid, rfl, by rw [exX_reach]; rfl⟩
  rw [chainS, if_pos h]
  show some (chainL (toM exX) 1 1) = _
  simp [chainL, ex_d11, follow, ex_m1, ex_d12]
theorem ex_chain30 : chainS 4 exX 3 0 = none := by
  have h : ¬ (chk 4 exX = 0 ∧ (inR 4 3 && inR 4 0) = true ∧ reach (toM exX) (3 : Int).toNat (0 : Int).toNat = true) := fun h => by
    have := h.2.2
    rw [exX_reach] at this
    cases this
  rw [chainS, if_neg h]

end Go.Proofs.Ytdfhfehlmonjjaa

namespace Go.Proofs.Ytdfhfehlmonjjaa
open Go.Eng Go.RowKit

theorem SameInts_spec {w : World} {A B : Option Addr} {xs ys : List Int} {c d : Nat} (hx : Reads w A (ints xs)) (hy : Reads w B (ints ys)) (hl : xs.length ≤ 9223372036854775807) :
    CallsV C.P 32 #[.slice A xs.length c, .slice B ys.length d] w fun v w' => v = .bool (decide (xs = ys)) ∧ Ext w w' := by
  refine callsV_of C_ok (args := [_, _]) (plans := plans32) Try.func32 rfl Try.ntmps32 (by kernel_rfl) (Nat.le_of_ble_eq_true rfl) ?_
  refine brE_mk (fun hb => ?_) (fun hb => ?_)
  · have hb : ¬ (xs.length : Int) = (ys.length : Int) := by simpa using hb
    have hne : xs ≠ ys := fun e => hb (by rw [e])
    exact ⟨by rw [decide_eq_false hne], Ext.refl _⟩
  · have hb : (xs.length : Int) = (ys.length : Int) := by simpa using hb
    have hlen : xs.length = ys.length := by omega
    refine loopE C_ok (fun (i : Nat) => [(0, .slice A xs.length c), (1, .slice B ys.length d), (5, .int .i64 i)])
      (fun i w' => w' = w ∧ i ≤ xs.length ∧ xs.take i = ys.take i) (fun i => xs.length - i) 0 ⟨rfl, rfl, rfl, trivial⟩ ⟨rfl, Nat.zero_le _, rfl⟩ ?_
    rintro i w1 ⟨rfl, hi, ht⟩
    refine brE_dec (fun hlt => ?_) (fun hge => ?_)
    · have hlt : i < xs.length := by omega
      have hlt2 : i < ys.length := by omega
      obtain ⟨b1, o1, hA, hc1⟩ := Reads.int hx hlt
      obtain ⟨b2, o2, hB, hc2⟩ := Reads.int hy hlt2
      refine ⟨i, b1, o1, rfl, hlt, hA, ?_⟩
      refine ⟨_, by simpa using hc1, ?_⟩
      refine ⟨i, b2, o2, rfl, hlt2, hB, ?_⟩
      refine ⟨_, by simpa using hc2, ?_⟩
      refine brE_mk (fun hn => ?_) (fun hn => ?_)
      · have hn : ¬ xs[i] = ys[i] := by simpa using hn
        have hne : xs ≠ ys := fun e => hn (by subst e; rfl)
        exact ⟨by rw [decide_eq_false hne], Ext.refl _⟩
      · have hn : xs[i] = ys[i] := by simpa using hn
        refine ⟨((i + 1 : Nat) : Int), fit ⟨by omega, by omega⟩, ?_⟩
        exact ⟨i + 1, ⟨rfl, rfl, rfl, trivial⟩, ⟨rfl, hlt, by rw [List.take_succ_eq_append_getElem hlt, List.take_succ_eq_append_getElem hlt2, ht, hn]⟩, by omega⟩
    · have : i = xs.length := by omega
      subst this
      have e : xs = ys := by rw [List.take_length, hlen, List.take_length] at ht; exact ht
      exact ⟨by rw [decide_eq_true e], Ext.refl _⟩

theorem sample_spec (w : World) : CallsV C.P 57 #[] w fun v w' => NewRel w.heap.size w' v 4 exX ∧ Ext w w' := by
  refine callsV_of C_ok (args := []) (plans := []) Try.func57 rfl Try.ntmps57 (by kernel_rfl) (Nat.le_of_ble_eq_true rfl) ?_
  intro g0 w1 h1
  intro g5 w2 h2
  have M2 := ((Mem.start w).alloc h1).alloc h2
  refine ⟨rfl, _, _, M2.get 1 rfl, Nat.le_of_ble_eq_true rfl, rfl, ?_⟩
  intro w3 h3
  have M3 := M2.put 1 rfl h3
  refine ⟨[.int .i64 4, .slice (some ⟨g5, 0, none⟩) 4 4], rfl, M3.rd 1 rfl, ?_⟩
  refine ⟨⟨some ⟨g5, 0, none⟩, 4, rfl, ?_⟩, M3.ext⟩
  exact owns_block (M3.get 0 rfl) (M3.new 0 rfl) rfl (Nat.le_of_ble_eq_true rfl)

theorem under4 : Try.prog.underlying 4 = some .bool := by kernel_rfl

theorem eqFields_run {P : Program} {w : World} {d : Nat} {xs ys : Array Value} {f : Field → Bool} : ∀ {fs : List Field}, (∀ x ∈ fs, x.name ≠ "_" ∧ ∃ u v, (part x.type xs x.offset).run P w = .ok u w ∧ (part x.type ys x.offset).run P w = .ok v w ∧ (Op.equalIn d x.type u v).run P w = .ok (f x) w) →
    (Op.eqFields d xs ys fs).run P w = .ok (fs.all f) w
  | [], _ => by simp [Op.eqFields]
  | x :: r, h => by
    obtain ⟨hn, u, v, h1, h2, h3⟩ := h x (by simp)
    rw [Op.eqFields, if_pos hn]
    simp only [Sem.run_bind, h1, h2, h3, Result.andThen_ok, List.all_cons]
    cases hf : f x with
    | false => simp
    | true => simpa using eqFields_run fun y hy => h y (by simp [hy])

theorem eqInt_run {P : Program} {t : Nat} {k : IntKind} (hu : P.underlying t = some (.int k)) (w : World) (d : Nat) (k' : IntKind) (a b : Int) : (Op.equalIn (d + 1) t (.int k' a) (.int k' b)).run P w = .ok (decide (a = b)) w := by
  simp only [Op.equalIn, Sem.run_bind, run_underlying hu, Result.andThen_ok, if_true, Sem.run_pure]
  congr 1

theorem eq58 (x y : Operand) (p q : Int × Int) : EqIs C.P .eql 58 x y (prVal p) (prVal q) (decide (p = q)) := by
  intro w
  have hm : C.P.eqGuardType C.P.depth 58 = false := by kernel_rfl
  have hs : C.P.stoodInHeld 58 = false := by kernel_rfl
  have hf : Try.prog.fieldsOf 58 = #[⟨ "A", 3, 0, false, "", "", 0⟩, ⟨ "B", 3, 1, false, "", "", 8⟩] := by kernel_rfl
  have hu : C.P.underlying 58 = some (.struct (C.P.fieldsOf 58)) := by show Try.prog.underlying 58 = some (.struct (Try.prog.fieldsOf 58)); rw [hf]; exact u58
  rw [Sem.run_bind, prVal, prVal, run_eqGuard_agg w .eql 58 x y _ _ hm]
  simp only [Result.andThen_ok]
  rw [run_eql_struct, run_equalIn_struct w 9999 58 _ _ hu hs]
  have h3 : C.P.underlying 3 = some (.int .i64) := under3
  have hp : ∀ (i : Nat) (cs : Array Value) (v : Value), cs[i]? = some v → (part 3 cs i).run C.P w = .ok v w := by
    intro i cs v hv
    have := (C_ok.ti (t := 3) (ti := ty3) rfl).run_agg
    simp [part, this, ty3, TD.agg, hv]
  show ((Op.eqFields 9999 _ _ (Try.prog.fieldsOf 58).toList).run C.P w).andThen _ = _
  rw [hf]
  rw [eqFields_run (f := fun x => if x.offset = 0 then decide (p.1 = q.1) else decide (p.2 = q.2))]
  · obtain ⟨a, b⟩ := p
    obtain ⟨c, d⟩ := q
    simp
  · intro f hf
    simp only [List.mem_cons, List.not_mem_nil, or_false] at hf
    rcases hf with rfl | rfl
    · exact ⟨by decide, .int .i64 p.1, .int .i64 q.1, hp 0 _ _ rfl, hp 0 _ _ rfl, eqInt_run h3 w 9998 .i64 p.1 q.1⟩
    · exact ⟨by decide, .int .i64 p.2, .int .i64 q.2, hp 1 _ _ rfl, hp 1 _ _ rfl, eqInt_run h3 w 9998 .i64 p.2 q.2⟩

end Go.Proofs.Ytdfhfehlmonjjaa

namespace Go.Proofs.Ytdfhfehlmonjjaa
open Go.Eng Go.RowKit

theorem exX_nums : ∀ x ∈ exX, In64 x.fr ∧ In64 x.to ∧ In64 x.rule ∧ In64 x.wt := by decide
theorem exW_nums : ∀ x ∈ exW, In64 x.fr ∧ In64 x.to ∧ In64 x.rule ∧ In64 x.wt := by decide

theorem SameInts_yes {w : World} {A B : Option Addr} {xs : List Int} {c d : Nat} (hx : Reads w A (ints xs)) (hy : Reads w B (ints xs)) (hl : xs.length ≤ 9223372036854775807) :
    CallsV C.P 32 #[.slice A xs.length c, .slice B xs.length d] w fun v w' => v = .bool true ∧ Ext w w' :=
  (SameInts_spec hx hy hl).mono fun v w' h => ⟨by rw [h.1, decide_eq_true rfl], h.2⟩

theorem eq58_yes (x y : Operand) (p : Int × Int) : EqIs C.P .eql 58 x y (prVal p) (prVal p) true := by
  have := eq58 x y p p
  rwa [decide_eq_true rfl] at this

theorem reads_block {w : World} {g t : Nat} {cs : List Value} (h : w.heap[g]? = some (.cells cs.toArray t (0, 0))) : Reads w (some ⟨g, 0, none⟩) cs := .inr ⟨g, 0, rfl, Rd.of_block h⟩

set_option maxRecDepth 100000 in
theorem stands_spec (w : World) : CallsV C.P 16 #[] w fun v w' => v = .bool true ∧ Ext w w' := by
  refine callsV_of C_ok (args := []) (plans := []) Try.func16 rfl Try.ntmps16 (by kernel_rfl) (Nat.le_of_ble_eq_true rfl) ?_
  refine (sample_spec w).mono ?_
  rintro v w1 ⟨hn, e1⟩
  obtain ⟨A, c, rfl, hX1⟩ := hn.hrel (by decide) exX_nums (by decide)
  intro g1 w2 h2
  refine ⟨rfl, _, _, h2.here, Nat.le_of_ble_eq_true rfl, rfl, ?_⟩
  intro w3 h3
  have e13 : Ext w1 w3 := h3.ext_of h2.ext (by rw [h2.new]; exact Nat.le_refl _)
  have e3 : Ext w w3 := e1.trans e13
  have hX : HRel w3 4 A exX c := hX1.ext e13
  have hR : Rd w3 g1 0 [.int .i64 4, .slice A exX.length c] := Rd.of_block h3.here
  -- the chains
  refine ⟨[.int .i64 4, .slice A exX.length c], rfl, hR, ?_⟩
  refine (Chain_spec hX 0 3).mono ?_
  rintro v w4 hc4
  rw [ex_chain03] at hc4
  obtain ⟨⟨s4, rfl, hl4⟩, e4⟩ := hc4
  obtain ⟨A4, c4, rfl, hr4, _⟩ := hl4.slice
  refine ⟨[.int .i64 4, .slice A exX.length c], rfl, hR.ext e4, ?_⟩
  refine (Chain_spec (hX.ext e4) 1 1).mono ?_
  rintro v w5 hc5
  rw [ex_chain11] at hc5
  obtain ⟨⟨s5, rfl, hl5⟩, e5⟩ := hc5
  obtain ⟨A5, c5, rfl, hr5, _⟩ := hl5.slice
  have e35 := e4.trans e5
  refine ⟨[.int .i64 4, .slice A exX.length c], rfl, hR.ext e35, ?_⟩
  refine (Chain_spec (hX.ext e35) 3 0).mono ?_
  rintro v w6 hc6
  rw [ex_chain30] at hc6
  obtain ⟨rfl, e6⟩ := hc6
  have e36 := e35.trans e6
  -- the components
  refine ⟨[.int .i64 4, .slice A exX.length c], rfl, hR.ext e36, ?_⟩
  refine (Components_spec (hX.ext e36)).mono ?_
  rintro v w7 ⟨hl7, e7⟩
  rw [exX_comps] at hl7
  obtain ⟨A7, c7, us7, rfl, hr7⟩ := hl7.read
  have e37 := e36.trans e7
  -- waived
  refine ⟨[.int .i64 4, .slice A exX.length c], rfl, hR.ext e37, ?_⟩
  intro g38 w8 h8
  have e38 := e37.trans h8.ext
  refine (Waive_spec (ps := [(2, 1)]) (hX.ext e38) (by decide) (by decide) (.inr ⟨g38, 0, rfl, Rd.of_block h8.here⟩) (by decide)).mono ?_
  rintro v w9 ⟨⟨u9, hv9, hn9⟩, e9⟩
  rw [exX_valid] at hv9
  subst hv9
  rw [exX_valid, if_pos rfl, if_pos rfl, ex_waive] at hn9
  obtain ⟨A9, c9, rfl, hW9⟩ := hn9.hrel (by decide) exW_nums (by decide)
  have e39 := e38.trans e9
  intro g9 w10 h10
  refine ⟨rfl, _, _, h10.here, Nat.le_of_ble_eq_true rfl, rfl, ?_⟩
  intro w11 h11
  have e911 : Ext w9 w11 := h11.ext_of h10.ext (by rw [h10.new]; exact Nat.le_refl _)
  have e311 := e39.trans e911
  have hW : HRel w11 4 A9 exW c9 := hW9.ext e911
  have hRW : Rd w11 g9 0 [.int .i64 4, .slice A9 exW.length c9] := Rd.of_block h11.here
  -- settled
  refine ⟨[.int .i64 4, .slice A9 exW.length c9], rfl, hRW, ?_⟩
  refine (Settled_spec hW).mono ?_
  rintro v w12 ⟨⟨u12, hv12, hl12⟩, e12⟩
  rw [exW_settled.1] at hv12
  subst hv12
  rw [exW_settled.2] at hl12
  obtain ⟨A12, c12, rfl, hr12, _⟩ := hl12.slice
  have e312 := e311.trans e12
  -- changed
  refine ⟨[.int .i64 4, .slice A exX.length c], rfl, hR.ext e312, ?_⟩
  refine ⟨[.int .i64 4, .slice A9 exW.length c9], rfl, hRW.ext e12, ?_⟩
  refine (Changed_spec (hX.ext e312) (hW.ext e12)).mono ?_
  rintro v w13 ⟨⟨u13, hv13, hp13⟩, e13'⟩
  rw [ex_changedE] at hv13
  subst hv13
  rw [ex_changedL] at hp13
  obtain ⟨A13, c13, rfl, hr13, _⟩ := reads_of_owns hp13
  have e313 := e312.trans e13'
  -- the standings
  have hX13 := hX.ext e313
  refine ⟨[.int .i64 4, .slice A exX.length c], rfl, hR.ext e313, ?_⟩
  refine (Standing_spec hX13 0 3).mono ?_
  rintro v w14 ⟨hv14, e14⟩
  rw [ex_stand03] at hv14
  subst hv14
  have hX14 := hX13.ext e14
  refine ⟨[.int .i64 4, .slice A exX.length c], rfl, hR.ext (e313.trans e14), ?_⟩
  refine (Standing_spec hX14 3 0).mono ?_
  rintro v w15 ⟨hv15, e15⟩
  rw [ex_stand30] at hv15
  subst hv15
  have hX15 := hX14.ext e15
  have e315 := (e313.trans e14).trans e15
  refine ⟨[.int .i64 4, .slice A exX.length c], rfl, hR.ext e315, ?_⟩
  refine (Standing_spec hX15 1 2).mono ?_
  rintro v w16 ⟨hv16, e16⟩
  rw [ex_stand12] at hv16
  subst hv16
  have e316 := e315.trans e16
  -- the lists
  intro g17 w17 h17
  have e317 := e316.trans h17.ext
  have e417 : Ext w4 w17 := ((((((((((e5.trans e6).trans e7).trans h8.ext).trans e9).trans e911).trans e12).trans e13').trans e14).trans e15).trans e16).trans h17.ext
  refine (SameInts_yes (xs := [0, 1, 2, 3]) (hr4.ext e417) (reads_block h17.here) (by decide)).mono ?_
  rintro v w18 ⟨rfl, e18⟩
  intro g19 w19 h19
  have e519 : Ext w5 w19 := (((((((((((e6.trans e7).trans h8.ext).trans e9).trans e911).trans e12).trans e13').trans e14).trans e15).trans e16).trans h17.ext).trans e18).trans h19.ext
  refine (SameInts_yes (xs := [1, 2, 1]) (hr5.ext e519) (reads_block h19.here) (by decide)).mono ?_
  rintro v w20 ⟨rfl, e20⟩
  intro g21 w21 h21
  have e1721 : Ext w17 w21 := ((e18.trans h19.ext).trans e20).trans h21.ext
  have e1217 : Ext w12 w17 := (((e13'.trans e14).trans e15).trans e16).trans h17.ext
  refine (SameInts_yes (xs := [0, 1, 2, 3]) (hr12.ext (e1217.trans e1721)) (reads_block h21.here) (by decide)).mono ?_
  rintro v w22 ⟨rfl, e22⟩
  have e722 : Ext w7 w22 := ((((((h8.ext.trans e9).trans e911).trans e12).trans e1217).trans e1721)).trans e22
  have hr22 := hr7.ext e722
  obtain ⟨A', c', hu, hrow⟩ := hr22.row 1 (by decide)
  rcases hr22.reads with h0 | ⟨b, o, hA, hrd⟩
  · rw [h0] at hu; simp at hu
  refine ⟨1, b, o, rfl, (by decide : 1 < 3), hA, ?_⟩
  refine ⟨_, by simpa using hrd 1 _ hu, ?_⟩
  intro g23 w23 h23
  refine (SameInts_yes (xs := [1, 2]) (hrow.ext h23.ext) (reads_block h23.here) (by decide)).mono ?_
  rintro v w24 ⟨rfl, e24⟩
  have e1324 : Ext w13 w24 := ((((((e14.trans e15).trans e16).trans h17.ext).trans e1721).trans e22).trans h23.ext).trans e24
  -- the pair
  obtain ⟨b2, o2, hA2, hrd2⟩ := Reads.pair (ps := [((1 : Int), (2 : Int))]) (hr13.ext e1324) (i := 0) (by decide)
  refine ⟨0, b2, o2, rfl, (by decide : 0 < 1), hA2, ?_⟩
  refine ⟨[.int .i64 1, .int .i64 2], rfl, hrd2, ?_⟩
  refine ⟨true, eq58_yes _ _ (1, 2), ?_⟩
  have e324 : Ext w3 w24 := e313.trans e1324
  refine ⟨[.int .i64 4, .slice A exX.length c], rfl, hR.ext e324, ?_⟩
  intro g25 w25 h25
  refine (CheckChain_spec (hX.ext (e324.trans h25.ext)) 1 3 (l := [1, 2, 1, 2, 3]) (reads_block h25.here) (by decide)).mono ?_
  rintro v w26 ⟨hv26, e26⟩
  rw [ex_check] at hv26
  subst hv26
  exact ⟨rfl, ((e3.trans e324).trans h25.ext).trans e26⟩

end Go.Proofs.Ytdfhfehlmonjjaa

namespace Go.Proofs.Ytdfhfehlmonjjaa
open Go.Eng Go.RowKit

theorem huge_spec {N : Int} {A : Option Addr} {xs : List Arrow} {c : Nat} (w : World) : CallsV C.P 14 #[relVal N A xs.length c] w fun v w' => v = .bool (decide ((xs.length : Int) > 600)) ∧ Ext w w' := by
  refine callsV_of C_ok (args := [_]) (plans := []) Try.func14 rfl Try.ntmps14 (by kernel_rfl) (Nat.le_of_ble_eq_true rfl) ?_
  intro g1 w1 h1
  have M1 := (Mem.start w).alloc h1
  refine ⟨_, M1.cell 0 rfl rfl, ?_⟩
  exact ⟨rfl, M1.ext⟩

theorem neqBool (x y : Operand) (a b : Bool) : EqIs C.P .neq 4 x y (.bool a) (.bool b) (a != b) := by
  intro w
  have hu : C.P.underlying 4 = some .bool := under4
  have h1 : (eqGuard .neq 4 x y (.bool a) (.bool b)).run C.P w = .ok () w := by simp [eqGuard]
  rw [Sem.run_bind, h1]
  simp only [Result.andThen_ok]
  have h2 := run_equalIn_bool' (P := C.P) w 9999 4 a b hu
  simp only [binOp]
  simp [Op.equal, Op.maxDepth, h2]
  cases a <;> cases b <;> rfl

theorem Chain_flag {N : Int} {A : Option Addr} {xs : List Arrow} {c : Nat} {w : World} (h : HRel w N A xs c) (hv : chk N xs = 0) {a b : Nat} (ha : (a : Int) < N) (hb : (b : Int) < N) :
    CallsV C.P 18 #[relVal N A xs.length c, .int .i64 a, .int .i64 b] w fun v w' => (∃ s, v = .tuple #[s, .bool (reach (toM xs) a b)]) ∧ Ext w w' := by
  refine (Chain_spec h a b).mono ?_
  rintro v w1 hc
  have hin : (inR N a && inR N b) = true := by simp; omega
  cases hr : reach (toM xs) a b with
  | false =>
    have e : chainS N xs a b = none := by rw [chainS, if_neg]; rintro ⟨_, _, h3⟩; rw [show (a : Int).toNat = a from rfl, show (b : Int).toNat = b from rfl, hr] at h3; cases h3
    rw [e] at hc
    exact ⟨⟨_, hc.1⟩, hc.2⟩
  | true =>
    have e : chainS N xs a b = some (chainL (toM xs) a b) := by rw [chainS, if_pos ⟨hv, hin, hr⟩]; rfl
    rw [e] at hc
    obtain ⟨⟨s, hs, _⟩, he⟩ := hc
    exact ⟨⟨s, hs⟩, he⟩

theorem Standing_at {N : Int} {A : Option Addr} {xs : List Arrow} {c : Nat} {w : World} (h : HRel w N A xs c) (hv : chk N xs = 0) {a b : Nat} (ha : (a : Int) < N) (hb : (b : Int) < N) :
    CallsV C.P 17 #[relVal N A xs.length c, .int .i64 a, .int .i64 b] w fun v w' => v = .int .u8 (standR (reach (toM xs)) a b) ∧ Ext w w' := by
  refine (Standing_spec h a b).mono ?_
  rintro v w1 ⟨hs, he⟩
  have hin : (inR N a && inR N b) = true := by simp; omega
  rw [standS, if_pos hv, if_pos hin] at hs
  exact ⟨hs, he⟩

theorem RankStands_spec {N : Int} {A : Option Addr} {xs : List Arrow} {c : Nat} {w : World} (h : HRel w N A xs c) : CallsV C.P 3 #[relVal N A xs.length c] w fun v w' => v = .bool true ∧ Ext w w' := by
  refine callsV_of C_ok (args := [_]) (plans := []) Try.func3 rfl Try.ntmps3 (by kernel_rfl) (Nat.le_of_ble_eq_true rfl) ?_
  intro g1 w1 h1
  have M1 := (Mem.start w).alloc h1
  refine ⟨[.int .i64 N, .slice A xs.length c], rfl, M1.rd 0 rfl, ?_⟩
  refine (huge_spec w1).mono ?_
  rintro v w2 ⟨rfl, e2⟩
  have M2 := M1.grow e2
  have stop : ∀ {w' : World}, Ext w w' → CallsV C.P 16 #[] w' fun v w'' => v = .bool true ∧ Ext w w'' := fun e => (stands_spec _).mono fun v w'' hh => ⟨hh.1, e.trans hh.2⟩
  refine brE_mk (fun hh => ?_) (fun hh => ?_)
  · exact stop M2.ext
  refine ⟨[.int .i64 N, .slice A xs.length c], rfl, M2.rd 0 rfl, ?_⟩
  refine (Check_spec (h.ext M2.ext)).mono ?_
  rintro v w3 ⟨rfl, e3⟩
  have M3 := M2.grow e3
  refine brE_mk (fun hb => ?_) (fun hb => ?_)
  · exact stop M3.ext
  have hv : chk N xs = 0 := by simpa using hb
  have hok := valid_of_chk hv
  have hlo := hok.lo
  have hhi := hok.hi
  refine loopE C_ok (fun (a : Nat) => [(1, .pointer (some ⟨g1, 0, none⟩)), (3, .int .i64 a)])
    (fun a w' => a ≤ N ∧ Mem w w' [(g1, .cells #[.int .i64 N, .slice A xs.length c] 24 (0, 0))]) (fun a => N.toNat - a) 0 ⟨rfl, rfl, trivial⟩ ⟨hlo, M3⟩ ?_
  rintro a w4 ⟨ha, M4⟩
  refine ⟨_, M4.cell 0 rfl rfl, ?_⟩
  refine brE_dec (fun hlt => ?_) (fun hge => ?_)
  · refine loopE C_ok (fun (b : Nat) => [(1, .pointer (some ⟨g1, 0, none⟩)), (3, .int .i64 a), (4, .int .i64 b)])
      (fun b w' => b ≤ N ∧ Mem w w' [(g1, .cells #[.int .i64 N, .slice A xs.length c] 24 (0, 0))]) (fun b => N.toNat - b) 0 ⟨rfl, rfl, rfl, trivial⟩ ⟨hlo, M4⟩ ?_
    rintro b w5 ⟨hb5, M5⟩
    refine ⟨_, M5.cell 0 rfl rfl, ?_⟩
    refine brE_dec (fun hlt2 => ?_) (fun hge2 => ?_)
    · have next : IntKind.i64.wrap ((b : Int) + 1) = ((b + 1 : Nat) : Int) := fit ⟨by omega, by omega⟩
      by_cases hab : a = b
      · subst hab
        have k0 : standR (reach (toM xs)) a a = 0 := by simp [standR]
        refine ⟨[.int .i64 N, .slice A xs.length c], rfl, M5.rd 0 rfl, ?_⟩
        refine (Standing_at (h.ext M5.ext) hv hlt hlt2).mono ?_
        rintro v w6 ⟨hs6, e6⟩
        rw [k0] at hs6
        subst hs6
        have M6 := M5.grow e6
        refine ⟨[.int .i64 N, .slice A xs.length c], rfl, M6.rd 0 rfl, ?_⟩
        refine (Standing_at (h.ext M6.ext) hv hlt2 hlt).mono ?_
        rintro v w7 ⟨hs7, e7⟩
        rw [k0] at hs7
        subst hs7
        have M7 := M6.grow e7
        refine ⟨[.int .i64 N, .slice A xs.length c], rfl, M7.rd 0 rfl, ?_⟩
        refine (Chain_flag (h.ext M7.ext) hv hlt hlt2).mono ?_
        rintro v w8 ⟨⟨s8, hs8⟩, e8⟩
        subst hs8
        have M8 := M7.grow e8
        refine ⟨[.int .i64 N, .slice A xs.length c], rfl, M8.rd 0 rfl, ?_⟩
        refine (Chain_flag (h.ext M8.ext) hv hlt2 hlt).mono ?_
        rintro v w9 ⟨⟨s9, hs9⟩, e9⟩
        subst hs9
        have M9 := M8.grow e9
        refine brE_false (by simp) ?_
        refine brE_false (by simp) ?_
        refine brE_false (by simp) ?_
        refine ⟨_, neqBool _ _ _ _, ?_⟩
        refine ⟨_, neqBool _ _ _ _, ?_⟩
        refine ⟨_, next, ?_⟩
        exact ⟨a + 1, ⟨rfl, rfl, rfl, trivial⟩, ⟨by omega, M9⟩, by omega⟩
      · have hne : (!decide ((a : Int) = (b : Int))) = true := by simp; omega
        have hba : ¬ b = a := fun e => hab e.symm
        cases r1 : reach (toM xs) a b <;> cases r2 : reach (toM xs) b a
        · have k1 : standR (reach (toM xs)) a b = 0 := by simp [standR, hab, r1, r2]
          have k2 : standR (reach (toM xs)) b a = 0 := by simp [standR, hba, r1, r2]
          refine ⟨[.int .i64 N, .slice A xs.length c], rfl, M5.rd 0 rfl, ?_⟩
          refine (Standing_at (h.ext M5.ext) hv hlt hlt2).mono ?_
          rintro v w6 ⟨hs6, e6⟩
          rw [k1] at hs6
          subst hs6
          have M6 := M5.grow e6
          refine ⟨[.int .i64 N, .slice A xs.length c], rfl, M6.rd 0 rfl, ?_⟩
          refine (Standing_at (h.ext M6.ext) hv hlt2 hlt).mono ?_
          rintro v w7 ⟨hs7, e7⟩
          rw [k2] at hs7
          subst hs7
          have M7 := M6.grow e7
          refine ⟨[.int .i64 N, .slice A xs.length c], rfl, M7.rd 0 rfl, ?_⟩
          refine (Chain_flag (h.ext M7.ext) hv hlt hlt2).mono ?_
          rintro v w8 ⟨⟨s8, hs8⟩, e8⟩
          rw [r1] at hs8
          subst hs8
          have M8 := M7.grow e8
          refine ⟨[.int .i64 N, .slice A xs.length c], rfl, M8.rd 0 rfl, ?_⟩
          refine (Chain_flag (h.ext M8.ext) hv hlt2 hlt).mono ?_
          rintro v w9 ⟨⟨s9, hs9⟩, e9⟩
          rw [r2] at hs9
          subst hs9
          have M9 := M8.grow e9
          refine brE_true hne ?_
          refine brE_true hne ?_
          refine brE_true hne ?_
          refine ⟨_, neqBool _ _ _ _, ?_⟩
          refine ⟨_, neqBool _ _ _ _, ?_⟩
          refine ⟨_, next, ?_⟩
          exact ⟨b + 1, ⟨rfl, rfl, rfl, trivial⟩, ⟨by omega, M9⟩, by omega⟩
        · have k1 : standR (reach (toM xs)) a b = 2 := by simp [standR, hab, r1, r2]
          have k2 : standR (reach (toM xs)) b a = 1 := by simp [standR, hba, r1, r2]
          refine ⟨[.int .i64 N, .slice A xs.length c], rfl, M5.rd 0 rfl, ?_⟩
          refine (Standing_at (h.ext M5.ext) hv hlt hlt2).mono ?_
          rintro v w6 ⟨hs6, e6⟩
          rw [k1] at hs6
          subst hs6
          have M6 := M5.grow e6
          refine ⟨[.int .i64 N, .slice A xs.length c], rfl, M6.rd 0 rfl, ?_⟩
          refine (Standing_at (h.ext M6.ext) hv hlt2 hlt).mono ?_
          rintro v w7 ⟨hs7, e7⟩
          rw [k2] at hs7
          subst hs7
          have M7 := M6.grow e7
          refine ⟨[.int .i64 N, .slice A xs.length c], rfl, M7.rd 0 rfl, ?_⟩
          refine (Chain_flag (h.ext M7.ext) hv hlt hlt2).mono ?_
          rintro v w8 ⟨⟨s8, hs8⟩, e8⟩
          rw [r1] at hs8
          subst hs8
          have M8 := M7.grow e8
          refine ⟨[.int .i64 N, .slice A xs.length c], rfl, M8.rd 0 rfl, ?_⟩
          refine (Chain_flag (h.ext M8.ext) hv hlt2 hlt).mono ?_
          rintro v w9 ⟨⟨s9, hs9⟩, e9⟩
          rw [r2] at hs9
          subst hs9
          have M9 := M8.grow e9
          refine brE_true hne ?_
          refine brE_true hne ?_
          refine brE_true hne ?_
          refine ⟨_, neqBool _ _ _ _, ?_⟩
          refine ⟨_, neqBool _ _ _ _, ?_⟩
          refine ⟨_, next, ?_⟩
          exact ⟨b + 1, ⟨rfl, rfl, rfl, trivial⟩, ⟨by omega, M9⟩, by omega⟩
        · have k1 : standR (reach (toM xs)) a b = 1 := by simp [standR, hab, r1, r2]
          have k2 : standR (reach (toM xs)) b a = 2 := by simp [standR, hba, r1, r2]
          refine ⟨[.int .i64 N, .slice A xs.length c], rfl, M5.rd 0 rfl, ?_⟩
          refine (Standing_at (h.ext M5.ext) hv hlt hlt2).mono ?_
          rintro v w6 ⟨hs6, e6⟩
          rw [k1] at hs6
          subst hs6
          have M6 := M5.grow e6
          refine ⟨[.int .i64 N, .slice A xs.length c], rfl, M6.rd 0 rfl, ?_⟩
          refine (Standing_at (h.ext M6.ext) hv hlt2 hlt).mono ?_
          rintro v w7 ⟨hs7, e7⟩
          rw [k2] at hs7
          subst hs7
          have M7 := M6.grow e7
          refine ⟨[.int .i64 N, .slice A xs.length c], rfl, M7.rd 0 rfl, ?_⟩
          refine (Chain_flag (h.ext M7.ext) hv hlt hlt2).mono ?_
          rintro v w8 ⟨⟨s8, hs8⟩, e8⟩
          rw [r1] at hs8
          subst hs8
          have M8 := M7.grow e8
          refine ⟨[.int .i64 N, .slice A xs.length c], rfl, M8.rd 0 rfl, ?_⟩
          refine (Chain_flag (h.ext M8.ext) hv hlt2 hlt).mono ?_
          rintro v w9 ⟨⟨s9, hs9⟩, e9⟩
          rw [r2] at hs9
          subst hs9
          have M9 := M8.grow e9
          refine brE_true hne ?_
          refine brE_true hne ?_
          refine ⟨_, neqBool _ _ _ _, ?_⟩
          refine ⟨_, neqBool _ _ _ _, ?_⟩
          refine ⟨_, next, ?_⟩
          exact ⟨b + 1, ⟨rfl, rfl, rfl, trivial⟩, ⟨by omega, M9⟩, by omega⟩
        · have k1 : standR (reach (toM xs)) a b = 3 := by simp [standR, hab, r1, r2]
          have k2 : standR (reach (toM xs)) b a = 3 := by simp [standR, hba, r1, r2]
          refine ⟨[.int .i64 N, .slice A xs.length c], rfl, M5.rd 0 rfl, ?_⟩
          refine (Standing_at (h.ext M5.ext) hv hlt hlt2).mono ?_
          rintro v w6 ⟨hs6, e6⟩
          rw [k1] at hs6
          subst hs6
          have M6 := M5.grow e6
          refine ⟨[.int .i64 N, .slice A xs.length c], rfl, M6.rd 0 rfl, ?_⟩
          refine (Standing_at (h.ext M6.ext) hv hlt2 hlt).mono ?_
          rintro v w7 ⟨hs7, e7⟩
          rw [k2] at hs7
          subst hs7
          have M7 := M6.grow e7
          refine ⟨[.int .i64 N, .slice A xs.length c], rfl, M7.rd 0 rfl, ?_⟩
          refine (Chain_flag (h.ext M7.ext) hv hlt hlt2).mono ?_
          rintro v w8 ⟨⟨s8, hs8⟩, e8⟩
          rw [r1] at hs8
          subst hs8
          have M8 := M7.grow e8
          refine ⟨[.int .i64 N, .slice A xs.length c], rfl, M8.rd 0 rfl, ?_⟩
          refine (Chain_flag (h.ext M8.ext) hv hlt2 hlt).mono ?_
          rintro v w9 ⟨⟨s9, hs9⟩, e9⟩
          rw [r2] at hs9
          subst hs9
          have M9 := M8.grow e9
          refine brE_true hne ?_
          refine ⟨_, neqBool _ _ _ _, ?_⟩
          refine ⟨_, neqBool _ _ _ _, ?_⟩
          refine ⟨_, next, ?_⟩
          exact ⟨b + 1, ⟨rfl, rfl, rfl, trivial⟩, ⟨by omega, M9⟩, by omega⟩
    · refine ⟨((a + 1 : Nat) : Int), fit ⟨by omega, by omega⟩, ?_⟩
      exact ⟨a + 1, ⟨rfl, rfl, trivial⟩, ⟨by omega, M5⟩, by omega⟩
  · exact stop M4.ext

end Go.Proofs.Ytdfhfehlmonjjaa

namespace Go.Proofs.Ytdfhfehlmonjjaa
open Go.Eng Go.RowKit

theorem standR_one {R : Nat → Nat → Bool} {a b : Nat} : standR R a b = 1 ↔ a ≠ b ∧ R a b = true ∧ R b a = false := by
  unfold standR
  by_cases h : a = b
  · simp [h]
  · cases R a b <;> cases R b a <;> simp [h]

theorem standS_one {N : Int} {xs : List Arrow} {a b : Int} : standS N xs a b = 1 ↔ chk N xs = 0 ∧ inR N a = true ∧ inR N b = true ∧ standR (reach (toM xs)) a.toNat b.toNat = 1 := by
  unfold standS
  by_cases h : chk N xs = 0
  · rw [if_pos h]
    by_cases h2 : (inR N a && inR N b) = true
    · rw [if_pos h2]
      rw [Bool.and_eq_true] at h2
      simp only [h, h2.1, h2.2, true_and]
    · rw [if_neg h2]
      rw [Bool.and_eq_true] at h2
      constructor
      · intro e; cases e
      · rintro ⟨_, h3, h4, _⟩; exact absurd ⟨h3, h4⟩ h2
  · rw [if_neg h]
    constructor
    · intro e; cases e
    · rintro ⟨h3, _⟩; exact absurd h3 h

theorem standS_trans {N : Int} {xs : List Arrow} {a b c : Int} (h : standS N xs a b = 1) (k : standS N xs b c = 1) : standS N xs a c = 1 := by
  obtain ⟨h0, ha, hb, h1⟩ := standS_one.1 h
  obtain ⟨_, _, hc, k1⟩ := standS_one.1 k
  obtain ⟨hne, hab, hba⟩ := standR_one.1 h1
  obtain ⟨kne, kbc, kcb⟩ := standR_one.1 k1
  refine standS_one.2 ⟨h0, ha, hc, standR_one.2 ⟨?_, ?_, ?_⟩⟩
  · intro e
    rw [← e] at kcb
    rw [hab] at kcb; cases kcb
  · rw [reach_iff] at *
    exact hab.trans kbc
  · rw [reach_false] at *
    intro hca
    exact kcb (hca.trans (reach_iff.1 hab))

theorem RankTransitive_spec {N : Int} {A : Option Addr} {xs : List Arrow} {c : Nat} {w : World} (h : HRel w N A xs c) (i j k : Int) :
    CallsV C.P 4 #[relVal N A xs.length c, .int .i64 i, .int .i64 j, .int .i64 k] w fun v w' => v = .bool true ∧ Ext w w' := by
  refine callsV_of C_ok (args := [_, _, _, _]) (plans := []) Try.func4 rfl Try.ntmps4 (by kernel_rfl) (Nat.le_of_ble_eq_true rfl) ?_
  intro g1 w1 h1
  have M1 := (Mem.start w).alloc h1
  refine ⟨[.int .i64 N, .slice A xs.length c], rfl, M1.rd 0 rfl, ?_⟩
  refine (huge_spec w1).mono ?_
  rintro v w2 ⟨rfl, e2⟩
  have M2 := M1.grow e2
  have stop : ∀ {w' : World}, Ext w w' → CallsV C.P 16 #[] w' fun v w'' => v = .bool true ∧ Ext w w'' := fun e => (stands_spec _).mono fun v w'' hh => ⟨hh.1, e.trans hh.2⟩
  refine brE_mk (fun _ => ?_) (fun _ => ?_)
  · exact stop M2.ext
  refine ⟨[.int .i64 N, .slice A xs.length c], rfl, M2.rd 0 rfl, ?_⟩
  refine (Standing_spec (h.ext M2.ext) i j).mono ?_
  rintro v w3 ⟨rfl, e3⟩
  have M3 := M2.grow e3
  refine brE_dec (fun s1 => ?_) (fun _ => ?_)
  · refine ⟨[.int .i64 N, .slice A xs.length c], rfl, M3.rd 0 rfl, ?_⟩
    refine (Standing_spec (h.ext M3.ext) j k).mono ?_
    rintro v w4 ⟨rfl, e4⟩
    have M4 := M3.grow e4
    refine brE_dec (fun s2 => ?_) (fun _ => ?_)
    · refine ⟨[.int .i64 N, .slice A xs.length c], rfl, M4.rd 0 rfl, ?_⟩
      refine (Standing_spec (h.ext M4.ext) i k).mono ?_
      rintro v w5 ⟨hv5, e5⟩
      rw [standS_trans s1 s2] at hv5
      subst hv5
      exact stop (M4.grow e5).ext
    · exact stop M4.ext
  · exact stop M3.ext

/-! ### chains, plain -/
theorem follow_ok {n : Nat} {T : Nat → Nat → Bool} (hT : Inside n T) (hn : n ≤ 24) {b : Nat} : ∀ (k x : Nat), dist T b x = k + 1 →
    (follow T (dist T b) x k).length = k ∧ (∀ z ∈ follow T (dist T b) x k, ∃ m : Nat, z = (m : Int) ∧ m < n) ∧ linksB T ((x : Int) :: (follow T (dist T b) x k ++ [(b : Int)])) = true
  | 0, x, h => by
    refine ⟨rfl, fun z hz => by simp [follow] at hz, ?_⟩
    simp [follow, linksB]
    exact dist_one.1 h
  | k + 1, x, h => by
    obtain ⟨_, y0, hty0, hy0⟩ := (dist_next (by omega : 2 ≤ k + 1 + 1)).1 h
    have hy24 : y0 < 24 := by have := hT _ _ hty0; omega
    obtain ⟨i, hi, ei⟩ := members_mem hy24 hty0
    rw [follow]
    cases hf : (members (T x)).find? fun y => decide (dist T b y.toNat = k + 1) with
    | none =>
      rw [List.find?_eq_none] at hf
      have := hf _ (List.getElem_mem hi)
      rw [ei] at this
      simp at this
      omega
    | some y =>
      have hp := List.find?_some hf
      have hm := List.mem_of_find?_eq_some hf
      obtain ⟨j, hj, ej⟩ := List.getElem_of_mem hm
      obtain ⟨m, em, hm24, htm⟩ := members_get hj
      rw [ej] at em
      subst em
      simp at hp
      have ih := follow_ok hT hn k m hp
      refine ⟨by simp [ih.1], ?_, ?_⟩
      · intro z hz
        rcases List.mem_cons.1 hz with rfl | hz
        · exact ⟨m, rfl, (hT _ _ htm).2⟩
        · exact ih.2.1 z hz
      · simp only [Int.toNat_natCast] at ih ⊢
        rw [List.cons_append, linksB, Bool.and_eq_true]
        exact ⟨by simpa using htm, ih.2.2⟩

theorem chainL_length {n : Nat} {T : Nat → Nat → Bool} (hT : Inside n T) (hn : n ≤ 24) {a b : Nat} (h : Path T a b) : (chainL T a b).length = dist T b a + 1 := by
  have h0 : dist T b a ≠ 0 := fun e => dist_zero.1 e h
  obtain ⟨k, hk⟩ : ∃ k, dist T b a = k + 1 := ⟨dist T b a - 1, by omega⟩
  have := (follow_ok hT hn k a hk).1
  rw [chainL, hk]
  simp [this]

theorem chain_checks {N : Int} {xs : List Arrow} {a b : Int} {l : List Int} (h : chainS N xs a b = some l) : checkS N xs a b l = true := by
  unfold chainS at h
  split at h
  · rename_i hc
    obtain ⟨hv, hin, hr⟩ := hc
    have hok := valid_of_chk hv
    have hin' := Bool.and_eq_true_iff.1 hin
    obtain ⟨p, rfl, hp⟩ := inR_nat hin'.1
    obtain ⟨q, rfl, hq⟩ := inR_nat hin'.2
    simp only [Int.toNat_natCast, Option.some.injEq] at h hr
    have hpath := reach_iff.1 hr
    have h0 : dist (toM xs) q p ≠ 0 := fun e => dist_zero.1 e hpath
    obtain ⟨k, hk⟩ : ∃ k, dist (toM xs) q p = k + 1 := ⟨dist (toM xs) q p - 1, by omega⟩
    have hhi := hok.hi
    have hlo := hok.lo
    obtain ⟨h1, h2, h3⟩ := follow_ok hok.inside (by omega) k p hk
    have e : l = (p : Int) :: (follow (toM xs) (dist (toM xs) q) p k ++ [(q : Int)]) := by rw [← h, chainL, hk]; rfl
    subst e
    unfold checkS chainOk
    rw [h3, hv]
    have hall : ((p : Int) :: (follow (toM xs) (dist (toM xs) q) p k ++ [(q : Int)])).all (inR N) = true := by
      rw [List.all_eq_true]
      intro z hz
      simp only [List.mem_cons, List.mem_append, List.not_mem_nil, or_false] at hz
      rcases hz with rfl | hz | rfl
      · exact hin'.1
      · obtain ⟨m, rfl, hm⟩ := h2 z hz
        simp; omega
      · exact hin'.2
    rw [hall, hin'.1, hin'.2]
    have hlast : ((p : Int) :: (follow (toM xs) (dist (toM xs) q) p k ++ [(q : Int)])).getLast? = some (q : Int) := by
      rw [← List.cons_append, List.getLast?_append]; simp
    rw [hlast]
    simp
  · cases h

theorem links_walk {T : Nat → Nat → Bool} {b : Int} : ∀ {l : List Int} {x : Int}, linksB T (x :: l) = true → (x :: l).getLast? = some b → walk T b.toNat l.length x.toNat
  | [], x, _, h => by
    have h : x = b := by simpa using h
    subst h; rfl
  | y :: r, x, hl, h => by
    rw [linksB, Bool.and_eq_true] at hl
    rw [List.getLast?_cons_cons] at h
    exact ⟨y.toNat, hl.1, links_walk hl.2 h⟩

theorem check_chain {N : Int} {xs : List Arrow} {a b : Int} {l : List Int} (h : checkS N xs a b l = true) : ∃ m, chainS N xs a b = some m ∧ m.length ≤ l.length := by
  unfold checkS chainOk at h
  simp only [Bool.and_eq_true, decide_eq_true_eq, Bool.not_eq_true', decide_eq_false_iff_not] at h
  obtain ⟨hv, ⟨⟨⟨⟨⟨ha, hb⟩, _⟩, h2⟩, hhead⟩, hlast⟩, hlinks⟩ := h
  have hok := valid_of_chk hv
  have hhi := hok.hi
  have hlo := hok.lo
  match l, h2, hhead, hlast, hlinks with
  | [_], h2, _, _, _ => exact absurd (by simp) h2
  | x :: y :: r, _, hhead, hlast, hlinks =>
    have hx : x = a := by simpa using hhead
    subst hx
    have hw := links_walk hlinks hlast
    have hw : walk (toM xs) b.toNat (r.length + 1) x.toNat := hw
    have hpath := walk_path hw
    have hin : (inR N x && inR N b) = true := by
      rw [Bool.and_eq_true]; exact ⟨decide_eq_true ha, decide_eq_true hb⟩
    refine ⟨chainL (toM xs) x.toNat b.toNat, ?_, ?_⟩
    · rw [chainS, if_pos ⟨hv, hin, reach_iff.2 hpath⟩]
    · rw [chainL_length hok.inside (by omega) hpath]
      obtain ⟨j, hj, hjk⟩ := isDist_of_walk (by omega) hw
      rw [dist_eq hj]
      simp; omega

theorem check_nil (N : Int) (xs : List Arrow) (a b : Int) : checkS N xs a b [] = false := by simp [checkS, chainOk]

theorem ownsRow_len {w : World} {base e size n : Nat} {v : Value} {us : List Value} (h : w.ownsRow base e size v n us) : n ≤ 9223372036854775807 := by
  obtain ⟨_, ⟨_, rfl⟩ | ⟨_, cap, _, _, _, _, h1, h2, _⟩⟩ := h
  · omega
  · simp only [maxLen] at h2; omega

theorem RankChains_spec {N : Int} {A B : Option Addr} {xs : List Arrow} {c d : Nat} {w : World} (h : HRel w N A xs c) (i j : Int) {l : List Int} (hr : Reads w B (ints l)) :
    CallsV C.P 5 #[relVal N A xs.length c, .int .i64 i, .int .i64 j, .slice B l.length d] w fun v w' => v = .bool true ∧ Ext w w' := by
  refine callsV_of C_ok (args := [_, _, _, _]) (plans := []) Try.func5 rfl Try.ntmps5 (by kernel_rfl) (Nat.le_of_ble_eq_true rfl) ?_
  intro g1 w1 h1
  have M1 := (Mem.start w).alloc h1
  refine ⟨[.int .i64 N, .slice A xs.length c], rfl, M1.rd 0 rfl, ?_⟩
  refine (huge_spec w1).mono ?_
  rintro v w2 ⟨rfl, e2⟩
  have M2 := M1.grow e2
  have stop : ∀ {w' : World}, Ext w w' → CallsV C.P 16 #[] w' fun v w'' => v = .bool true ∧ Ext w w'' := fun e => (stands_spec _).mono fun v w'' hh => ⟨hh.1, e.trans hh.2⟩
  refine brE_mk (fun _ => ?_) (fun _ => ?_)
  · exact stop M2.ext
  refine brE_dec (fun _ => ?_) (fun h60 => ?_)
  · exact stop M2.ext
  have hl : l.length ≤ 60 := by have : ¬ (l.length : Int) > 60 := h60; omega
  refine ⟨[.int .i64 N, .slice A xs.length c], rfl, M2.rd 0 rfl, ?_⟩
  refine (Chain_spec (h.ext M2.ext) i j).mono ?_
  rintro v w3 hc
  cases hs : chainS N xs i j with
  | none =>
    rw [hs] at hc
    obtain ⟨rfl, e3⟩ := hc
    have M3 := M2.grow e3
    refine ⟨[.int .i64 N, .slice A xs.length c], rfl, M3.rd 0 rfl, ?_⟩
    refine (CheckChain_spec (l := []) (h.ext M3.ext) i j (.inl rfl) (by simp)).mono ?_
    rintro v w4 ⟨hv, e4⟩
    rw [check_nil] at hv
    subst hv
    have M4 := M3.grow e4
    refine ⟨_, neqBool _ _ _ _, ?_⟩
    refine ⟨[.int .i64 N, .slice A xs.length c], rfl, M4.rd 0 rfl, ?_⟩
    refine (CheckChain_spec (l := l) (h.ext M4.ext) i j (hr.ext M4.ext) (by omega)).mono ?_
    rintro v w5 ⟨hv, e5⟩
    have hno : checkS N xs i j l = false := by
      cases hk : checkS N xs i j l with
      | false => rfl
      | true =>
        obtain ⟨m, hm, _⟩ := check_chain hk
        rw [hs] at hm; cases hm
    rw [hno] at hv
    subst hv
    have M5 := M4.grow e5
    refine (stands_spec w5).mono ?_
    rintro v w6 ⟨rfl, e6⟩
    exact ⟨rfl, M5.ext.trans e6⟩
  | some m =>
    rw [hs] at hc
    obtain ⟨⟨s, rfl, hm⟩, e3⟩ := hc
    have M3 := M2.grow e3
    obtain ⟨Am, cm, rfl, hrm, _⟩ := hm.slice
    have hok : checkS N xs i j m = true := chain_checks hs
    refine ⟨[.int .i64 N, .slice A xs.length c], rfl, M3.rd 0 rfl, ?_⟩
    refine (CheckChain_spec (l := m) (h.ext M3.ext) i j hrm ?_).mono ?_
    · exact ownsRow_len hm
    rintro v w4 ⟨hv, e4⟩
    rw [hok] at hv
    subst hv
    have M4 := M3.grow e4
    refine ⟨_, neqBool _ _ _ _, ?_⟩
    refine ⟨[.int .i64 N, .slice A xs.length c], rfl, M4.rd 0 rfl, ?_⟩
    refine (CheckChain_spec (l := l) (h.ext M4.ext) i j (hr.ext M4.ext) (by omega)).mono ?_
    rintro v w5 ⟨rfl, e5⟩
    have M5 := M4.grow e5
    have fin : CallsV C.P 16 #[] w5 fun v w'' => v = .bool true ∧ Ext w w'' := stop M5.ext
    refine brE_mk (fun hk => ?_) (fun hk => ?_)
    · obtain ⟨m', hm', hle⟩ := check_chain hk
      rw [hs] at hm'
      cases hm'
      refine brE_dec (fun hlt => ?_) (fun _ => ?_)
      · have : (l.length : Int) < m.length := hlt
        omega
      · refine fin.mono ?_
        rintro v w6 ⟨rfl, e6⟩
        exact ⟨rfl, e6⟩
    · refine fin.mono ?_
      rintro v w6 ⟨rfl, e6⟩
      exact ⟨rfl, e6⟩

end Go.Proofs.Ytdfhfehlmonjjaa
