/- rank: Chain. -/
import Derived.Test.YtdfhfehlmonjjaaR6
import Derived.Test.YtdfhfehlmonjjaaE6
namespace Go.Proofs.Ytdfhfehlmonjjaa
open Go.Eng Go.RowKit

def nats (f : Nat → Nat) : List Value := (List.range 24).map fun k => .int .i64 (f k : Nat)
theorem nats_length (f : Nat → Nat) : (nats f).length = 24 := by simp [nats]
theorem nats_get {i : Nat} (h : i < 24) (f : Nat → Nat) : (nats f)[i]? = some (.int .i64 (f i : Nat)) := by simp [nats, h]
theorem nats_zero : List.replicate 24 (Value.int .i64 0) = nats fun _ => 0 := by
  apply List.ext_getElem?
  intro i
  by_cases h : i < 24
  · rw [nats_get h, List.getElem?_replicate, if_pos h]; rfl
  · rw [List.getElem?_eq_none (by simp; omega), List.getElem?_eq_none (by rw [nats_length]; omega)]
theorem nats_set {i : Nat} (h : i < 24) (f : Nat → Nat) (n : Nat) : splice (nats f) i [.int .i64 (n : Nat)] = nats fun x => if x = i then n else f x := by
  rw [splice_one (by rw [nats_length]; exact h)]
  apply List.ext_getElem?
  intro k
  rw [List.getElem?_set]
  by_cases hk : i = k
  · subst hk; rw [if_pos rfl, nats_length, if_pos h, nats_get h]; simp
  · rw [if_neg hk]
    by_cases hkn : k < 24
    · rw [nats_get hkn, nats_get hkn]; simp [Ne.symm hk]
    · rw [List.getElem?_eq_none (by rw [nats_length]; omega), List.getElem?_eq_none (by rw [nats_length]; omega)]

def anyS (S : Nat → Bool) : Bool := (List.range 24).any S

theorem all_not (S : Nat → Bool) : ∀ l : List Nat, (!l.all fun i => S i == false) = l.any S
  | [] => rfl
  | x :: l => by
    have := all_not S l
    simp only [List.all_cons, List.any_cons, ← this, Bool.not_and]
    cases S x <;> simp

theorem neq_set (S : Nat → Bool) (x y : Operand) : EqIs C.P .neq 76 x y (.agg (setCells S).toArray) (.agg (List.replicate 24 (Value.bool false)).toArray) (anyS S) := by
  intro w
  have hm : C.P.eqGuardType C.P.depth 76 = false := by kernel_rfl
  have hu : C.P.underlying 76 = some (.array 24 4) := Try.underlying76
  rw [Sem.run_bind, run_eqGuard_agg w .neq 76 x y _ _ hm]
  simp only [Result.andThen_ok]
  rw [run_neq_struct]
  have := eqRun_arr (d := 9999) (xs := (setCells S).toArray) (ys := (List.replicate 24 (Value.bool false)).toArray) hu ty4_ok rfl rfl (f := fun i => S i == false) (fun i hi =>
    ⟨.bool (S i), .bool false, by simpa using bools_get hi S, by rw [List.getElem?_toArray, List.getElem?_replicate, if_pos hi], fun w => run_equalIn_bool' w 9998 4 _ _ Try.underlying4⟩) w
  rw [this]
  simp only [Result.andThen_ok, anyS]
  rw [all_not]

theorem anyS_false {S : Nat → Bool} (h : anyS S = false) : ∀ y < 24, S y = false := by
  intro y hy
  cases hs : S y with
  | false => rfl
  | true =>
    have : anyS S = true := List.any_eq_true.2 ⟨y, List.mem_range.2 hy, hs⟩
    rw [h] at this; cases this

/-- How many are not found yet. -/
def zeros (f : Nat → Nat) : Nat := ((List.range 24).filter fun k => decide (f k = 0)).length

theorem zeros_step {T : Nat → Nat → Bool} {b n : Nat} (hn : 1 ≤ n) : zeros (stepsAt T b (n + 1)) ≤ zeros (stepsAt T b n) ∧ (anyS (nowAt T b (n + 1)) = true → zeros (stepsAt T b (n + 1)) < zeros (stepsAt T b n)) := by
  have hle : ∀ k, decide (stepsAt T b (n + 1) k = 0) = true → decide (stepsAt T b n k = 0) = true := by
    intro k hk
    have hk := of_decide_eq_true hk
    unfold stepsAt at hk
    apply decide_eq_true
    unfold stepsAt
    split at hk
    · rw [hk]; simp
    · rw [if_neg (by omega)]
  refine ⟨filter_le _ hle, fun h => ?_⟩
  obtain ⟨y, hy, hd⟩ := List.any_eq_true.1 h
  have hd : dist T b y = n := by
    unfold nowAt at hd
    rw [if_neg (by omega)] at hd
    have := of_decide_eq_true hd
    omega
  refine filter_lt _ hle hy ?_ ?_
  · apply decide_eq_false
    unfold stepsAt
    rw [if_pos (by omega)]; omega
  · apply decide_eq_true
    unfold stepsAt
    rw [if_neg (by omega)]

noncomputable def chainL (T : Nat → Nat → Bool) (a b : Nat) : List Int := (a : Int) :: (follow T (dist T b) a (dist T b a - 1) ++ [(b : Int)])
noncomputable def chainS (N : Int) (xs : List Arrow) (a b : Int) : Option (List Int) :=
  if chk N xs = 0 ∧ (inR N a && inR N b) = true ∧ reach (toM xs) a.toNat b.toNat = true then some (chainL (toM xs) a.toNat b.toNat) else none

def ChainPost (w : World) (r : Option (List Int)) (v : Value) (w' : World) : Prop := (match r with
  | none => v = .tuple #[.slice none 0 0, .bool false]
  | some l => ∃ s, v = .tuple #[s, .bool true] ∧ NewInts w w' s l) ∧ Ext w w'

theorem nowAt_one (T : Nat → Nat → Bool) (b : Nat) : nowAt T b 1 = upd (fun _ => false) b true := by
  funext y
  simp [nowAt, upd]
theorem stepsAt_one (T : Nat → Nat → Bool) (b : Nat) : stepsAt T b 1 = fun _ => 0 := by
  funext y
  unfold stepsAt
  split
  · omega
  · rfl

theorem Chain_spec {N : Int} {A : Option Addr} {xs : List Arrow} {c : Nat} {w : World} (h : HRel w N A xs c) (a b : Int) :
    CallsV C.P 18 #[relVal N A xs.length c, .int .i64 a, .int .i64 b] w (ChainPost w (chainS N xs a b)) := by
  refine callsV_of C_ok (args := [_, _, _]) (plans := plans18) Try.func18 rfl Try.ntmps18 (by kernel_rfl) (Nat.le_of_ble_eq_true rfl) ?_
  intro g1 w1 h1
  have M1 := (Mem.start w).alloc h1
  refine scopeE C_ok ?_
  refine ⟨[.int .i64 N, .slice A xs.length c], rfl, M1.rd 0 rfl, ?_⟩
  by_cases hv : chk N xs = 0
  case neg =>
    refine (open_no (h.ext M1.ext) hv).mono ?_
    rintro v w2 ⟨rfl, he⟩
    exact ⟨by rw [chainS, if_neg (fun hh => hv hh.1)], (M1.grow he).ext⟩
  have hok := valid_of_chk hv
  have hN := hok.hi
  refine (open_yes (h.ext M1.ext) hok).mono ?_
  rintro v w2 ⟨g, rfl, hg, hw, he⟩
  have M2 := (M1.grow he).add hw (by have := h1.size; have := h1.new; omega) (by
    intro p hp
    have : p = (g1, Obj.cells (relVal N A xs.length c).cells 24) := by simpa using hp
    rw [this]
    have h1n := h1.new
    have := h1.size
    show g1 ≠ g
    omega)
  intro g3 w3 h3
  have M3 := M2.alloc h3
  refine (has_spec (xs := [a, b]) (M3.get 1 rfl) ⟨hok.lo, hok.hi⟩ (.inr ⟨g3, 0, rfl, M3.rd 0 rfl⟩) (by simp)).mono ?_
  rintro v w4 ⟨rfl, he4⟩
  have M4 := (M3.grow he4).tail
  rw [all2]
  refine brE_mk (fun hb => ?_) (fun hb => ?_)
  · rw [Bool.not_eq_true'] at hb
    exact ⟨by rw [chainS, if_neg (fun hh => by rw [hb] at hh; cases hh.2.1)], M4.ext⟩
  rw [Bool.not_eq_false'] at hb
  have hb' := Bool.and_eq_true_iff.1 hb
  obtain ⟨a, rfl, ha⟩ := inR_nat hb'.1
  obtain ⟨b, rfl, hbN⟩ := inR_nat hb'.2
  have ha24 : a < 24 := by omega
  have hb24 : b < 24 := by omega
  refine ⟨a, rfl, ha24, ?_⟩
  refine ⟨b, rfl, hb24, ?_⟩
  refine ⟨_, Web.reach (M4.get 0 rfl) ha24 hb24, ?_⟩
  refine brE_mk (fun hr => ?_) (fun hr => ?_)
  · rw [Bool.not_eq_true'] at hr
    exact ⟨by rw [chainS, if_neg (fun hh => by have := hh.2.2; simp only [Int.toNat_natCast] at this; rw [hr] at this; cases this)], M4.ext⟩
  rw [Bool.not_eq_false'] at hr
  have hS : chainS N xs a b = some (chainL (toM xs) a b) := by
    rw [chainS, if_pos ⟨hv, hb, by simpa using hr⟩]
    simp
  rw [hS]
  obtain ⟨n0, rfl⟩ := Int.eq_ofNat_of_zero_le hok.lo
  have hn0 : n0 ≤ 24 := by omega
  have hT : Inside n0 (toM xs) := by have := hok.inside; simpa using this
  have hT24 := hok.inside24
  generalize hTdef : toM xs = T at *
  intro gst w5 h5
  intro gnow w6 h6
  have M6 := (M4.alloc h5).alloc h6
  refine ⟨b, rfl, hb24, ?_⟩
  refine ⟨rfl, _, _, M6.get 0 rfl, by show 0 + b * 1 + 1 ≤ 24; omega, rfl, ?_⟩
  intro w7 h7
  have e7 : splice (List.replicate 24 (Value.bool false)) (0 + b * 1) [.bool true] = setCells (nowAt T b 1) := by
    rw [bools_false, nowAt_one]
    have := bools_set hb24 (fun _ => false) true
    simpa using this
  have h7 : Put w6 gnow (.cells (setCells (nowAt T b 1)).toArray 76 (0, 0)) w7 := by rw [← e7]; exact h7
  have M7 : Mem w w7 [(gnow, .cells (setCells (nowAt T b 1)).toArray 76 (0, 0)), (gst, .cells (nats (stepsAt T b 1)).toArray 80 (0, 0)), (g, .cells (webCells n0 T (reach T)).toArray 79 (0, 0))] := by
    have := M6.put 0 rfl h7
    rw [stepsAt_one, ← nats_zero]
    exact this.sub (List.Sublist.cons_cons _ (List.Sublist.cons_cons _ (List.Sublist.cons_cons _ (List.nil_sublist _))))
  refine loopE C_ok (fun (n : Nat) => [(1, .int .i64 a), (2, .int .i64 b), (8, .pointer (some ⟨g, 0, none⟩)), (10, .pointer (some ⟨gst, 0, none⟩)), (11, .pointer (some ⟨gnow, 0, none⟩)), (12, .int .i64 n)])
    (fun n w' => 1 ≤ n ∧ n + zeros (stepsAt T b n) ≤ 26 ∧ (anyS (nowAt T b n) = true → n + zeros (stepsAt T b n) ≤ 25) ∧
      Mem w w' [(gnow, .cells (setCells (nowAt T b n)).toArray 76 (0, 0)), (gst, .cells (nats (stepsAt T b n)).toArray 80 (0, 0)), (g, .cells (webCells n0 T (reach T)).toArray 79 (0, 0))])
    (fun n => 2 * zeros (stepsAt T b n) + (if anyS (nowAt T b n) then 1 else 0)) 1 ⟨rfl, rfl, rfl, rfl, rfl, rfl, trivial⟩
    ⟨Nat.le_refl _, by rw [stepsAt_one]; decide, fun _ => by rw [stepsAt_one]; decide, M7⟩ ?_
  rintro n w8 ⟨hn1, hn26, hn25, M8⟩
  refine ⟨setCells (nowAt T b n), bools_length _ _, M8.rd 0 rfl, ?_⟩
  refine ⟨_, neq_set (nowAt T b n) _ _, ?_⟩
  refine brE_mk (fun hany => ?_) (fun hany => ?_)
  · -- a level
    have hz := zeros_step (T := T) (b := b) hn1
    have hn25 := hn25 hany
    intro gnx w9 h9
    have M9 : Mem w w9 [(gnx, .cells (setCells (nextMid T b n (members (nowAt T b n)) 0 0)).toArray 76 (0, 0)), (gnow, .cells (setCells (nowAt T b n)).toArray 76 (0, 0)), (gst, .cells (nats (stepsMid T b n (members (nowAt T b n)) 0 0)).toArray 80 (0, 0)), (g, .cells (webCells n0 T (reach T)).toArray 79 (0, 0))] := by
      rw [(mid_start T b n (members (nowAt T b n))).1, (mid_start T b n (members (nowAt T b n))).2, setCells, ← bools_false]
      exact M8.alloc h9
    refine ⟨_, Web.n (M9.get 3 rfl), ?_⟩
    refine loopE C_ok (fun (x0 : Nat) => [(1, .int .i64 a), (2, .int .i64 b), (8, .pointer (some ⟨g, 0, none⟩)), (10, .pointer (some ⟨gst, 0, none⟩)), (11, .pointer (some ⟨gnow, 0, none⟩)), (12, .int .i64 n), (13, .pointer (some ⟨gnx, 0, none⟩)), (57, .int .i64 n0), (58, .int .i64 x0)])
      (fun x0 w' => x0 ≤ n0 ∧ Mem w w' [(gnx, .cells (setCells (nextMid T b n (members (nowAt T b n)) x0 0)).toArray 76 (0, 0)), (gnow, .cells (setCells (nowAt T b n)).toArray 76 (0, 0)), (gst, .cells (nats (stepsMid T b n (members (nowAt T b n)) x0 0)).toArray 80 (0, 0)), (g, .cells (webCells n0 T (reach T)).toArray 79 (0, 0))])
      (fun x0 => n0 - x0) 0 ⟨rfl, rfl, rfl, rfl, rfl, rfl, rfl, rfl, rfl, trivial⟩ ⟨Nat.zero_le _, M9⟩ ?_
    rintro x0 w10 ⟨hx0, M10⟩
    refine brE_dec (fun hlt => ?_) (fun hge => ?_)
    · have hlt : x0 < n0 := by omega
      have hx24 : x0 < 24 := by omega
      refine ⟨setCells (nowAt T b n), bools_length _ _, M10.rd 1 rfl, ?_⟩
      refine (list_spec (nowAt T b n) w10).mono ?_
      rintro v w11 ⟨hl, he11⟩
      obtain ⟨A2, c2, rfl, hr2, hc2⟩ := hl.slice
      have M11 := M10.grow he11
      have hnew : ∀ bb oo, A2 = some ⟨bb, oo, none⟩ → bb ≠ gst ∧ bb ≠ gnx := by
        rintro bb oo rfl
        have h1 := (hl.lt bb rfl).1
        have h2 := lt_of_heap (M10.get 2 rfl)
        have h3 := lt_of_heap (M10.get 0 rfl)
        omega
      have hml : (members (nowAt T b n)).length ≤ 24 := membersTo_length _ 24
      refine loopE C_ok (fun (j : Nat) => [(1, .int .i64 a), (2, .int .i64 b), (8, .pointer (some ⟨g, 0, none⟩)), (10, .pointer (some ⟨gst, 0, none⟩)), (11, .pointer (some ⟨gnow, 0, none⟩)), (12, .int .i64 n), (13, .pointer (some ⟨gnx, 0, none⟩)), (14, .int .i64 x0), (57, .int .i64 n0), (58, .int .i64 x0), (62, .slice A2 (members (nowAt T b n)).length c2), (63, .int .i64 (members (nowAt T b n)).length), (64, .int .i64 j)])
        (fun j w' => j ≤ (members (nowAt T b n)).length ∧ Reads w' A2 (ints (members (nowAt T b n))) ∧ Mem w w' [(gnx, .cells (setCells (nextMid T b n (members (nowAt T b n)) x0 j)).toArray 76 (0, 0)), (gnow, .cells (setCells (nowAt T b n)).toArray 76 (0, 0)), (gst, .cells (nats (stepsMid T b n (members (nowAt T b n)) x0 j)).toArray 80 (0, 0)), (g, .cells (webCells n0 T (reach T)).toArray 79 (0, 0))])
        (fun j => (members (nowAt T b n)).length - j) 0 ⟨rfl, rfl, rfl, rfl, rfl, rfl, rfl, rfl, rfl, rfl, rfl, rfl, rfl, trivial⟩ ⟨Nat.zero_le _, hr2, M11⟩ ?_
      rintro j w12 ⟨hj, hr12, M12⟩
      refine brE_dec (fun hlt2 => ?_) (fun hge2 => ?_)
      · have hlt2 : j < (members (nowAt T b n)).length := by omega
        obtain ⟨y, ey, hy24, _⟩ := members_get hlt2
        obtain ⟨b1, o1, hA1, hc1⟩ := Reads.int hr12 hlt2
        rw [ey] at hc1
        have next : IntKind.i64.wrap ((j : Int) + 1) = ((j + 1 : Nat) : Int) := fit ⟨by omega, by omega⟩
        refine ⟨j, b1, o1, rfl, hlt2, hA1, ?_⟩
        refine ⟨_, by simpa using hc1, ?_⟩
        refine ⟨x0, rfl, hx24, ?_⟩
        refine ⟨y, rfl, hy24, ?_⟩
        refine ⟨_, Web.to (M12.get 3 rfl) hx24 hy24, ?_⟩
        have stay : T x0 y = false ∨ stepsMid T b n (members (nowAt T b n)) x0 j x0 ≠ 0 → Mem w w12 [(gnx, .cells (setCells (nextMid T b n (members (nowAt T b n)) x0 (j + 1))).toArray 76 (0, 0)), (gnow, .cells (setCells (nowAt T b n)).toArray 76 (0, 0)), (gst, .cells (nats (stepsMid T b n (members (nowAt T b n)) x0 (j + 1))).toArray 80 (0, 0)), (g, .cells (webCells n0 T (reach T)).toArray 79 (0, 0))] := by
          intro hh
          have := mid_not (b := b) (n := n) (x0 := x0) hlt2 (by rw [ey]; simpa using hh)
          rw [← this.1, ← this.2]; exact M12
        refine brE_mk (fun ht => ?_) (fun ht => ?_)
        · refine ⟨x0, rfl, hx24, ?_⟩
          refine ⟨.int .i64 (stepsMid T b n (members (nowAt T b n)) x0 j x0 : Nat), by have := M12.rd 2 rfl x0 _ (nats_get hx24 _); simpa using this, ?_⟩
          refine brE_dec (fun h0 => ?_) (fun h0 => ?_)
          · have h0 : stepsMid T b n (members (nowAt T b n)) x0 j x0 = 0 := by omega
            have hf := mid_found hn1 hlt2 (by rw [ey]; simpa using ht) h0
            refine ⟨x0, rfl, hx24, ?_⟩
            refine ⟨rfl, _, _, M12.get 2 rfl, by rw [nats_length]; show 0 + x0 * 1 + 1 ≤ 24; omega, rfl, ?_⟩
            intro w13 h13
            have e13 : splice (nats (stepsMid T b n (members (nowAt T b n)) x0 j)) (0 + x0 * 1) [.int .i64 n] = nats (stepsMid T b n (members (nowAt T b n)) x0 (j + 1)) := by
              rw [← hf.1]
              have := nats_set hx24 (stepsMid T b n (members (nowAt T b n)) x0 j) n
              simpa using this
            have h13 : Put w12 gst (.cells (nats (stepsMid T b n (members (nowAt T b n)) x0 (j + 1))).toArray 80 (0, 0)) w13 := by rw [← e13]; exact h13
            have M13 := M12.put 2 rfl h13
            refine ⟨x0, rfl, hx24, ?_⟩
            refine ⟨rfl, _, _, M13.get 0 rfl, by rw [bools_length]; show 0 + x0 * 1 + 1 ≤ 24; omega, rfl, ?_⟩
            intro w14 h14
            have e14 : splice (setCells (nextMid T b n (members (nowAt T b n)) x0 j)) (0 + x0 * 1) [.bool true] = setCells (nextMid T b n (members (nowAt T b n)) x0 (j + 1)) := by
              rw [← hf.2]
              have := bools_set hx24 (nextMid T b n (members (nowAt T b n)) x0 j) true
              simpa using this
            have h14 : Put w13 gnx (.cells (setCells (nextMid T b n (members (nowAt T b n)) x0 (j + 1))).toArray 76 (0, 0)) w14 := by rw [← e14]; exact h14
            have M14 := M13.put 0 rfl h14
            have hr13 := reads_grown_by (fun bb oo hh => (hnew bb oo hh).1) hr12 h13.grownBy
            have hr14 := reads_grown_by (fun bb oo hh => (hnew bb oo hh).2) hr13 h14.grownBy
            refine ⟨_, next, ?_⟩
            exact ⟨j + 1, ⟨rfl, rfl, rfl, rfl, rfl, rfl, rfl, rfl, rfl, rfl, rfl, rfl, rfl, trivial⟩, ⟨hlt2, hr14, M14⟩, by omega⟩
          · refine ⟨_, next, ?_⟩
            exact ⟨j + 1, ⟨rfl, rfl, rfl, rfl, rfl, rfl, rfl, rfl, rfl, rfl, rfl, rfl, rfl, trivial⟩, ⟨hlt2, hr12, stay (.inr (by omega))⟩, by omega⟩
        · refine ⟨_, next, ?_⟩
          exact ⟨j + 1, ⟨rfl, rfl, rfl, rfl, rfl, rfl, rfl, rfl, rfl, rfl, rfl, rfl, rfl, trivial⟩, ⟨hlt2, hr12, stay (.inl ht)⟩, by omega⟩
      · have : j = (members (nowAt T b n)).length := by omega
        subst this
        rw [(mid_row T b n _ x0).1, (mid_row T b n _ x0).2] at M12
        refine ⟨((x0 + 1 : Nat) : Int), fit ⟨by omega, by omega⟩, ?_⟩
        exact ⟨x0 + 1, ⟨rfl, rfl, rfl, rfl, rfl, rfl, rfl, rfl, rfl, trivial⟩, ⟨hlt, M12⟩, by omega⟩
    · have : x0 = n0 := by omega
      subst this
      have hme := mid_end hT hn0 hb24 hn1
      rw [hme.1, hme.2] at M10
      refine ⟨setCells (nowAt T b (n + 1)), bools_length _ _, M10.rd 0 rfl, ?_⟩
      refine ⟨set_size _, _, _, M10.get 1 rfl, by rw [bools_length]; exact Nat.le_of_ble_eq_true rfl, bools_one 24 _, ?_⟩
      intro w11 h11
      have e11 : splice (setCells (nowAt T b n)) 0 (setCells (nowAt T b (n + 1))) = setCells (nowAt T b (n + 1)) := by
        unfold splice
        rw [bools_length]
        simp [bools_length]
      have h11 : Put w10 gnow (.cells (setCells (nowAt T b (n + 1))).toArray 76 (0, 0)) w11 := by rw [← e11]; exact h11
      have M11 := (M10.put 1 rfl h11).tail
      refine ⟨((n + 1 : Nat) : Int), fit ⟨by omega, by omega⟩, ?_⟩
      refine ⟨n + 1, ⟨rfl, rfl, rfl, rfl, rfl, rfl, trivial⟩, ⟨by omega, by omega, fun h => by have := hz.2 h; omega, M11⟩, ?_⟩
      show 2 * zeros (stepsAt T b (n + 1)) + _ < 2 * zeros (stepsAt T b n) + _
      rw [if_pos hany]
      by_cases h : anyS (nowAt T b (n + 1)) = true
      · have := hz.2 h; rw [if_pos h]; omega
      · have := hz.1; rw [if_neg h]; omega
  · -- all levels are found
    have hdone := steps_done hT24 hb24 hn1 (anyS_false hany)
    rw [hdone] at M8
    have hda : dist T b a < n ∧ dist T b a ≠ 0 := by
      have h0 : dist T b a ≠ 0 := fun h0 => by rw [dist_zero] at h0; exact h0 (reach_iff.1 hr)
      have := congrFun hdone a
      unfold stepsAt at this
      split at this
      · exact ⟨by assumption, h0⟩
      · exact absurd this.symm h0
    have hda26 : dist T b a ≤ 26 := by omega
    intro go w9 h9
    have M9 := M8.alloc h9
    refine ⟨a, rfl, ha24, ?_⟩
    refine ⟨.int .i64 (dist T b a : Nat), by have := M9.rd 2 rfl a _ (nats_get ha24 _); simpa using this, ?_⟩
    refine ⟨((dist T b a - 1 : Nat) : Int), by rw [fit ⟨by omega, by omega⟩]; omega, ?_⟩
    have hN9 : NewInts w w9 (.slice (some ⟨go, 0, none⟩) 1 1) [(a : Int)] := owns_block (M9.get 0 rfl) (M9.new 0 rfl) rfl (Nat.le_of_ble_eq_true rfl)
    refine loopE C_ok (fun (s : List Int × Nat × Nat × Value) => [(2, .int .i64 b), (8, .pointer (some ⟨g, 0, none⟩)), (10, .pointer (some ⟨gst, 0, none⟩)), (17, s.2.2.2), (18, .int .i64 s.2.2.1)])
      (fun s w' => s.2.1 < 24 ∧ dist T b s.2.1 = s.2.2.1 + 1 ∧ chainL T a b = (s.1 ++ [(s.2.1 : Int)]) ++ (follow T (dist T b) s.2.1 s.2.2.1 ++ [(b : Int)]) ∧ s.1.length + s.2.2.1 ≤ 26 ∧
        NewInts w w' s.2.2.2 (s.1 ++ [(s.2.1 : Int)]) ∧ Ext w w' ∧ w'.heap[g]? = some (.cells (webCells n0 T (reach T)).toArray 79 (0, 0)) ∧ w'.heap[gst]? = some (.cells (nats (dist T b)).toArray 80 (0, 0)) ∧ some gst ≠ s.2.2.2.ownBlock ∧ some g ≠ s.2.2.2.ownBlock)
      (fun s => s.2.2.1) ([], a, dist T b a - 1, .slice (some ⟨go, 0, none⟩) 1 1) ⟨rfl, rfl, rfl, rfl, rfl, trivial⟩
      ⟨ha24, by show dist T b a = dist T b a - 1 + 1; omega, rfl, by show 0 + (dist T b a - 1) ≤ 26; omega, hN9, M9.ext, M9.get 3 rfl, M9.get 2 rfl,
        by intro e; have e : gst = go := by simpa [Value.ownBlock] using e
           subst e; have := (M9.get 0 rfl).symm.trans (M9.get 2 rfl); simp at this,
        by intro e; have e : g = go := by simpa [Value.ownBlock] using e
           subst e; have := (M9.get 0 rfl).symm.trans (M9.get 3 rfl); simp at this⟩ ?_
    rintro ⟨pre, x, k, v⟩ w10 ⟨hx, hdx, hch, hlen, hnew, hE, hgw, hgst, hne1, hne2⟩
    have hx : x < 24 := hx
    have hdx : dist T b x = k + 1 := hdx
    have hlen : pre.length + k ≤ 26 := hlen
    obtain ⟨A2, c2, ev, hr2, hc2⟩ := hnew.slice
    have ev : v = .slice A2 (pre ++ [(x : Int)]).length c2 := ev
    subst ev
    have hr2 : Reads w10 A2 (ints (pre ++ [(x : Int)])) := hr2
    have hnew : NewInts w w10 (.slice A2 (pre ++ [(x : Int)]).length c2) (pre ++ [(x : Int)]) := hnew
    refine brE_dec (fun hk => ?_) (fun hk => ?_)
    · obtain ⟨k, rfl⟩ : ∃ m, k = m + 1 := ⟨k - 1, by have : (k : Int) > 0 := hk; omega⟩
      have hpl : (pre ++ [(x : Int)]).length = pre.length + 1 := by simp
      obtain ⟨b1, o1, hA1, hc1⟩ := Reads.int hr2 (i := pre.length) (by rw [hpl]; omega)
      have ex : (pre ++ [(x : Int)])[pre.length]'(by omega) = (x : Int) := by simp
      rw [ex] at hc1
      refine ⟨(pre.length : Int), by
        show IntKind.i64.wrap ((((pre ++ [(x : Int)]).length : Nat) : Int) - 1) = _
        rw [hpl, fit ⟨by omega, by omega⟩]; omega, ?_⟩
      refine ⟨pre.length, b1, o1, rfl, (by rw [hpl]; omega : pre.length < (pre ++ [(x : Int)]).length), hA1, ?_⟩
      refine ⟨_, by simpa using hc1, ?_⟩
      refine ⟨x, rfl, hx, ?_⟩
      refine ⟨setCells (T x), bools_length _ _, Web.toRow hgw hx, ?_⟩
      refine (list_spec (T x) w10).mono ?_
      rintro v w11 ⟨hl, he11⟩
      refine ⟨he11, ?_⟩
      obtain ⟨A3, c3, rfl, hr3, hc3⟩ := hl.slice
      have hml : (members (T x)).length ≤ 24 := membersTo_length _ 24
      obtain ⟨_, y0, hty0, hy0⟩ := (dist_next (by omega : 2 ≤ k + 1 + 1)).1 hdx
      refine loopE C_ok (fun (i : Nat) => [(2, .int .i64 b), (8, .pointer (some ⟨g, 0, none⟩)), (10, .pointer (some ⟨gst, 0, none⟩)), (17, .slice A2 (pre ++ [(x : Int)]).length c2), (18, .int .i64 ((k + 1 : Nat) : Int)), (109, .slice A3 (members (T x)).length c3), (110, .int .i64 (members (T x)).length), (111, .int .i64 i)])
        (fun i w' => i ≤ (members (T x)).length ∧ w' = w11 ∧ ∀ j (h : j < (members (T x)).length), j < i → decide (dist T b ((members (T x))[j]).toNat = k + 1) = false)
        (fun i => (members (T x)).length - i) 0 ⟨rfl, rfl, rfl, rfl, rfl, rfl, rfl, rfl, trivial⟩ ⟨Nat.zero_le _, rfl, fun _ _ h => absurd h (Nat.not_lt_zero _)⟩ ?_
      rintro i w12 ⟨hi, rfl, hno⟩
      refine brE_dec (fun hlt => ?_) (fun hge => ?_)
      · have hlt : i < (members (T x)).length := by omega
        obtain ⟨y, ey, hy24, hty⟩ := members_get hlt
        obtain ⟨b2, o2, hA2, hc4⟩ := Reads.int hr3 hlt
        rw [ey] at hc4
        refine ⟨i, b2, o2, rfl, hlt, hA2, ?_⟩
        refine ⟨_, by simpa using hc4, ?_⟩
        refine ⟨y, rfl, hy24, ?_⟩
        refine ⟨.int .i64 (dist T b y : Nat), by have := Rd.of_block (he11.heap hgst) y _ (nats_get hy24 _); simpa using this, ?_⟩
        refine brE_dec (fun hd => ?_) (fun hd => ?_)
        · have hd : dist T b y = k + 1 := by omega
          intro g5 w13 h13
          have hnew13 : w13.ownsRow w.heap.size 3 1 (.slice A2 (pre ++ [(x : Int)]).length c2) (pre ++ [(x : Int)]).length (ints (pre ++ [(x : Int)])) := ownsRow_ext (ownsRow_ext hnew he11) h13.ext
          have hE13 := (hE.trans he11).trans h13.ext
          refine ⟨rfl, rfl, rfl, w.heap.size, (pre ++ [(x : Int)]).length, ints (pre ++ [(x : Int)]), [.int .i64 y], hnew13, hE13.size, Nat.lt_add_one 0, rfl, rfl, .inr ⟨g5, 0, rfl, Rd.of_block h13.here⟩, rfl, rfl, by omega, by simp only [maxLen]; omega, ?_⟩
          intro v6 w14 ho6 hg6 _
          have hfol : follow T (dist T b) x (k + 1) = (y : Int) :: follow T (dist T b) y k := by
            have hfind := find_at (p := fun y => decide (dist T b y.toNat = k + 1)) hlt hno (by rw [ey]; simpa using hd)
            rw [follow, hfind, ey]
            simp
          have keep : ∀ {q : Nat} {o : Obj}, w10.heap[q]? = some o → some q ≠ (Value.slice A2 (pre ++ [(x : Int)]).length c2).ownBlock → w14.heap[q]? = some o := by
            intro q o hq hne
            have hq13 := h13.ext.heap (he11.heap hq)
            rw [hg6.block q (lt_of_heap hq13) hne]; exact hq13
          have hg14 := keep hgw hne2
          have hs14 := keep hgst hne1
          refine ⟨((k : Nat) : Int), by rw [fit ⟨by omega, by omega⟩]; omega, ?_⟩
          have hown14 : NewInts w w14 v6 ((pre ++ [(x : Int)]) ++ [(y : Int)]) := by
            show w14.ownsRow _ _ _ _ _ _
            rw [List.length_append, ints_append]
            exact ho6
          refine ⟨(pre ++ [(x : Int)], y, k, v6), ⟨rfl, rfl, rfl, rfl, rfl, trivial⟩, ⟨hy24, hd, ?_, ?_, hown14, app_ext hE13 hnew13 hg6, hg14, hs14, ?_, ?_⟩, ?_⟩
          · show chainL T a b = _
            rw [hch]
            show (pre ++ [(x : Int)]) ++ (follow T (dist T b) x (k + 1) ++ [(b : Int)]) = _
            rw [hfol]; simp
          · show (pre ++ [(x : Int)]).length + k ≤ 26
            omega
          · intro e
            have e : v6.ownBlock = some gst := e.symm
            have hlt6 := hown14.lt gst e
            obtain ⟨_, hv | ⟨g', cap, cur, hv, _, hg', _⟩⟩ := hown14
            · rw [hv.1] at e; cases e
            · rw [hv] at e
              have e : g' = gst := by simpa [Value.ownBlock] using e
              subst e
              have := hg'.symm.trans hs14
              simp at this
          · intro e
            have e : v6.ownBlock = some g := e.symm
            obtain ⟨_, hv | ⟨g', cap, cur, hv, _, hg', _⟩⟩ := hown14
            · rw [hv.1] at e; cases e
            · rw [hv] at e
              have e : g' = g := by simpa [Value.ownBlock] using e
              subst e
              have := hg'.symm.trans hg14
              simp at this
          · show k < k + 1
            omega
        · refine ⟨((i + 1 : Nat) : Int), fit ⟨by omega, by omega⟩, ?_⟩
          refine ⟨i + 1, ⟨rfl, rfl, rfl, rfl, rfl, rfl, rfl, rfl, trivial⟩, ⟨hlt, rfl, fun j hj hji => ?_⟩, by omega⟩
          rcases Nat.lt_or_ge j i with h | h
          · exact hno j hj h
          · obtain rfl : j = i := by omega
            rw [ey]
            apply decide_eq_false
            simp only [Int.toNat_natCast]
            intro e
            apply hd
            rw [e]
      · exfalso
        have : i = (members (T x)).length := by omega
        subst this
        obtain ⟨j, hj, ej⟩ := members_mem (hT24 _ _ hty0).2 hty0
        have := hno j hj hj
        rw [ej] at this
        have := of_decide_eq_false this
        simp at this
        omega
    · have hk0 : k = 0 := by have : ¬ (k : Int) > 0 := hk; omega
      subst hk0
      intro g5 w11 h11
      have hnew11 : w11.ownsRow w.heap.size 3 1 (.slice A2 (pre ++ [(x : Int)]).length c2) (pre ++ [(x : Int)]).length (ints (pre ++ [(x : Int)])) := ownsRow_ext hnew h11.ext
      have hE11 := hE.trans h11.ext
      have hpl : (pre ++ [(x : Int)]).length = pre.length + 1 := by simp
      refine ⟨rfl, rfl, rfl, w.heap.size, (pre ++ [(x : Int)]).length, ints (pre ++ [(x : Int)]), [.int .i64 b], hnew11, hE11.size, Nat.lt_add_one 0, rfl, rfl, .inr ⟨g5, 0, rfl, Rd.of_block h11.here⟩, rfl, rfl, by omega, by simp only [maxLen]; omega, ?_⟩
      intro v6 w12 ho6 hg6 _
      refine ⟨⟨v6, rfl, ?_⟩, app_ext hE11 hnew11 hg6⟩
      show w12.ownsRow _ _ _ _ _ _
      have hch : chainL T a b = (pre ++ [(x : Int)]) ++ (follow T (dist T b) x 0 ++ [(b : Int)]) := hch
      rw [hch, follow, List.nil_append, List.length_append, ints_append]
      exact ho6

end Go.Proofs.Ytdfhfehlmonjjaa
