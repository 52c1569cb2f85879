/- rank: the law RankComponents. -/
import Derived.Test.YtdfhfehlmonjjaaQ7
namespace Go.Proofs.Ytdfhfehlmonjjaa
open Go.Eng Go.RowKit

set_option maxRecDepth 100000 in
theorem refUnsettled_spec {N : Int} {A : Option Addr} {xs : List Arrow} {c : Nat} {w : World} (h : HRel w N A xs c) :
    CallsV C.P 41 #[relVal N A xs.length c] w fun v w' => (∃ u, v = .tuple #[u, .int .i64 (chk N xs)] ∧ Prs w.heap.size w' u (unsetL N xs)) ∧ Ext w w' := by
  refine callsV_of C_ok (args := [_]) (plans := []) Try.func41 rfl Try.ntmps41 (by kernel_rfl) (Nat.le_of_ble_eq_true rfl) ?_
  intro g1 w1 h1
  have M1 := (Mem.start w).alloc h1
  refine ⟨[.int .i64 N, .slice A xs.length c], rfl, M1.rd 0 rfl, ?_⟩
  refine (refCheck_spec (h.ext M1.ext)).mono ?_
  rintro v w2 ⟨rfl, e2⟩
  have M2 := M1.grow e2
  refine brE_mk (fun hb0 => ?_) (fun hb0 => ?_)
  · have hv : chk N xs ≠ 0 := by simpa using hb0
    refine ⟨⟨_, rfl, ?_⟩, M2.ext⟩
    rw [unsetL, if_neg hv]
    exact prs_nil _ _
  have hv : chk N xs = 0 := by simpa using hb0
  have hok := valid_of_chk hv
  have hhi := hok.hi
  rw [hv, unsetL, if_pos hv]
  obtain ⟨n, rfl⟩ := Int.eq_ofNat_of_zero_le hok.lo
  have hn : n ≤ 24 := by omega
  refine ⟨[.int .i64 n, .slice A xs.length c], rfl, M2.rd 0 rfl, ?_⟩
  refine (Reach_spec (h.ext M2.ext) hok).mono ?_
  rintro v w4 ⟨rfl, e4⟩
  have M4 := M2.grow e4
  intro g5 w5 h5
  have M5 := M4.alloc h5
  refine ⟨mat_size _, _, _, M5.get 0 rfl, Nat.le_of_ble_eq_true rfl, bools_one 576 _, ?_⟩
  intro w6 h6
  have h6 : Put w5 g5 (.cells (mat (reach (toM xs))).toArray 93 (0, 0)) w6 := by
    have := mat_copy (reach (toM xs)) fun _ _ => false
    rw [← mat_zero] at this
    rw [← this]; exact h6
  have M6 := M5.put 0 rfl h6
  rw [show (n : Int).toNat = n from rfl]
  generalize reach (toM xs) = R at *
  refine loopE C_ok (fun (s : Nat × Value) => [(1, .pointer (some ⟨g1, 0, none⟩)), (5, .pointer (some ⟨g5, 0, none⟩)), (6, s.2), (7, .int .i64 s.1)])
    (fun s w' => s.1 ≤ n ∧ Ext w w' ∧ w'.heap[g5]? = some (.cells (mat R).toArray 93 (0, 0)) ∧ w'.heap[g1]? = some (.cells #[.int .i64 n, .slice A xs.length c] 24 (0, 0)) ∧ Prs w.heap.size w' s.2 (pairsTo n (unsetB R) s.1)) (fun s => n - s.1) (0, .slice none 0 0)
    ⟨rfl, rfl, rfl, rfl, trivial⟩ ⟨Nat.zero_le _, M6.ext, M6.get 0 rfl, M6.get 1 rfl, prs_nil _ _⟩ ?_
  rintro ⟨a, v⟩ w7 ⟨ha, E7, hm, hg1, ho⟩
  have ha : a ≤ n := ha
  have ho : Prs w.heap.size w7 v (pairsTo n (unsetB R) a) := ho
  refine ⟨_, cell_of_block hg1 rfl, ?_⟩
  refine brE_dec (fun hlt => ?_) (fun hge => ?_)
  · have hlt : a < n := by have : (a : Int) < n := hlt; omega
    refine ⟨((a + 1 : Nat) : Int), fit ⟨by omega, by omega⟩, ?_⟩
    refine loopE C_ok (fun (s : Nat × Value) => [(1, .pointer (some ⟨g1, 0, none⟩)), (5, .pointer (some ⟨g5, 0, none⟩)), (6, s.2), (7, .int .i64 a), (8, .int .i64 s.1)])
      (fun s w' => a + 1 ≤ s.1 ∧ s.1 ≤ n ∧ Ext w w' ∧ w'.heap[g5]? = some (.cells (mat R).toArray 93 (0, 0)) ∧ w'.heap[g1]? = some (.cells #[.int .i64 n, .slice A xs.length c] 24 (0, 0)) ∧ Prs w.heap.size w' s.2 (pairsTo n (unsetB R) a ++ rowTo (unsetB R) a s.1)) (fun s => n - s.1) (a + 1, v)
      ⟨rfl, rfl, rfl, rfl, rfl, trivial⟩ ⟨Nat.le_refl _, hlt, E7, hm, hg1, by show Prs _ _ _ (_ ++ rowTo (unsetB R) a (a + 1)); rw [rowTo_start, List.append_nil]; exact ho⟩ ?_
    rintro ⟨b, v2⟩ w8 ⟨hab, hb, E8, hm8, hg8, ho2⟩
    have hab : a + 1 ≤ b := hab
    have hb : b ≤ n := hb
    have ho2 : Prs w.heap.size w8 v2 (pairsTo n (unsetB R) a ++ rowTo (unsetB R) a b) := ho2
    refine ⟨_, cell_of_block hg8 rfl, ?_⟩
    refine brE_dec (fun hlt2 => ?_) (fun hge2 => ?_)
    · have hlt2 : b < n := by have : (b : Int) < n := hlt2; omega
      have next : IntKind.i64.wrap ((b : Int) + 1) = ((b + 1 : Nat) : Int) := fit ⟨by omega, by omega⟩
      have hsu := rowTo_succ (hs := unsetB R) hab
      have len1 := pairsTo_length n (unsetB R) a
      have len2 := rowTo_length (unsetB R) a b
      have len0 : a * n ≤ 24 * 24 := Nat.mul_le_mul (by omega) hn
      refine ⟨mat R, bools_length _ _, Rd.of_block hm8, ?_⟩
      refine (refStand_spec R (a := a) (b := b) (by omega) (by omega) w8).mono ?_
      rintro v3 w9 ⟨rfl, e9⟩
      have fin : (unsetB R a b = false) → Prs w.heap.size w9 v2 (pairsTo n (unsetB R) a ++ rowTo (unsetB R) a (b + 1)) := fun hh => by
        rw [hsu, if_neg (by rw [hh]; exact Bool.false_ne_true)]
        exact ho2.ext e9
      refine brE_dec (fun h0 => ?y0) (fun h0 => ?n0)
      case' n0 =>
        refine brE_dec (fun h3 => ?y3) (fun h3 => ?n3)
      case n3 =>
        refine ⟨_, next, ?_⟩
        exact ⟨(b + 1, v2), ⟨rfl, rfl, rfl, rfl, rfl, trivial⟩, ⟨by show a + 1 ≤ b + 1; omega, hlt2, E8.trans e9, e9.heap hm8, e9.heap hg8, fin (by
          have h0 : ¬ standR R a b = 0 := h0
          have h3 : ¬ standR R a b = 3 := h3
          simp [unsetB, h0, h3])⟩, by show n - (b + 1) < n - b; omega⟩
      case' y0 =>
        have hh : unsetB R a b = true := by have h0 : standR R a b = 0 := h0; simp [unsetB, h0]
      case' y3 =>
        have hh : unsetB R a b = true := by have h3 : standR R a b = 3 := h3; simp [unsetB, h3]
      all_goals
        rw [if_pos hh] at hsu
        intro g9 w10 h10
        have ho9 : w10.ownsRow w.heap.size 58 2 v2 (pairsTo n (unsetB R) a ++ rowTo (unsetB R) a b).length (prCells (pairsTo n (unsetB R) a ++ rowTo (unsetB R) a b)) := ownsRow_ext (ownsRow_ext ho2 e9) h10.ext
        have e10 := (E8.trans e9).trans h10.ext
        refine ⟨rfl, rfl, rfl, w.heap.size, _, _, [.int .i64 a, .int .i64 b], ho9, e10.size, Nat.le_of_ble_eq_true rfl, rfl, rfl, .inr ⟨g9, 0, rfl, Rd.of_block h10.here⟩, rfl, rfl, by rw [List.length_append]; omega, by rw [List.length_append]; simp only [maxLen]; omega, ?_⟩
        intro v11 w11 ho11 hg11 _
        have o11 := only_app ho9 hg11
        refine ⟨_, next, ?_⟩
        refine ⟨(b + 1, v11), ⟨rfl, rfl, rfl, rfl, rfl, trivial⟩, ⟨by show a + 1 ≤ b + 1; omega, hlt2, app_ext e10 ho9 hg11, o11 _ _ _ _ (h10.ext.heap (e9.heap hm8)) (by decide), o11 _ _ _ _ (h10.ext.heap (e9.heap hg8)) (by decide), ?_⟩, by show n - (b + 1) < n - b; omega⟩
        show Prs _ _ _ (_ ++ rowTo (unsetB R) a (b + 1))
        rw [hsu, ← List.append_assoc]
        unfold Prs
        rw [prCells_append, List.length_append]
        exact ho11
    · have : b = n := by have : ¬ (b : Int) < n := hge2; omega
      subst this
      refine ⟨((a + 1 : Nat) : Int), fit ⟨by omega, by omega⟩, ?_⟩
      refine ⟨(a + 1, v2), ⟨rfl, rfl, rfl, rfl, trivial⟩, ⟨hlt, E8, hm8, hg8, ?_⟩, by show b - (a + 1) < b - a; omega⟩
      show Prs _ _ _ (pairsTo b (unsetB R) (a + 1))
      rw [pairsTo_succ]; exact ho2
  · have : a = n := by have : ¬ (a : Int) < n := hge; omega
    subst this
    exact ⟨⟨v, rfl, ho⟩, E7⟩

/-! ### Compared -/
theorem eqIn58 (p q : Int × Int) (w : World) : (Op.equalIn 10000 58 (prVal p) (prVal q)).run C.P w = .ok (decide (p = q)) w := by
  have hs : C.P.stoodInHeld 58 = false := by kernel_rfl
  have hf : Try.prog.fieldsOf 58 = #[⟨ "A", 3, 0, false, "", "", 0⟩, ⟨ "B", 3, 1, false, "", "", 8⟩] := by kernel_rfl
  have hu : C.P.underlying 58 = some (.struct (C.P.fieldsOf 58)) := by show Try.prog.underlying 58 = some (.struct (Try.prog.fieldsOf 58)); rw [hf]; exact u58
  have h3 : C.P.underlying 3 = some (.int .i64) := under3
  have hp : ∀ (i : Nat) (cs : Array Value) (v : Value), cs[i]? = some v → (part 3 cs i).run C.P w = .ok v w := by
    intro i cs v hv
    have := (C_ok.ti (t := 3) (ti := ty3) rfl).run_agg
    simp [part, this, ty3, TD.agg, hv]
  rw [prVal, prVal, run_equalIn_struct w 9999 58 _ _ hu hs]
  show ((Op.eqFields 9999 _ _ (Try.prog.fieldsOf 58).toList).run C.P w) = _
  rw [hf]
  rw [eqFields_run (f := fun x => if x.offset = 0 then decide (p.1 = q.1) else decide (p.2 = q.2))]
  · obtain ⟨a, b⟩ := p
    obtain ⟨c, d⟩ := q
    simp
  · intro f hf
    simp only [List.mem_cons, List.not_mem_nil, or_false] at hf
    rcases hf with rfl | rfl
    · exact ⟨by decide, .int .i64 p.1, .int .i64 q.1, hp 0 _ _ rfl, hp 0 _ _ rfl, eqInt_run h3 w 9998 .i64 p.1 q.1⟩
    · exact ⟨by decide, .int .i64 p.2, .int .i64 q.2, hp 1 _ _ rfl, hp 1 _ _ rfl, eqInt_run h3 w 9998 .i64 p.2 q.2⟩

theorem neqSame58 (x y : Operand) (p : Int × Int) : EqIs C.P .neq 58 x y (prVal p) (prVal p) false := by
  intro w
  have hm : C.P.eqGuardType C.P.depth 58 = false := by kernel_rfl
  rw [Sem.run_bind, prVal, run_eqGuard_agg w .neq 58 x y _ _ hm]
  simp only [Result.andThen_ok]
  rw [run_neq_struct]
  have := eqIn58 p p w
  rw [prVal] at this
  rw [this]
  simp

theorem SamePairs_spec {w : World} {A B : Option Addr} {ps : List (Int × Int)} {c d : Nat} (hx : Reads w A (prCells ps)) (hy : Reads w B (prCells ps)) (hl : ps.length ≤ 9223372036854775807) :
    CallsV C.P 42 #[.slice A ps.length c, .slice B ps.length d] w fun v w' => v = .bool true ∧ Ext w w' := by
  refine callsV_of C_ok (args := [_, _]) (plans := plans42) Try.func42 rfl Try.ntmps42 (by kernel_rfl) (Nat.le_of_ble_eq_true rfl) ?_
  refine brE_false (by simp) ?_
  refine loopE C_ok (fun (i : Nat) => [(0, .slice A ps.length c), (1, .slice B ps.length d), (5, .int .i64 i)])
    (fun i w' => w' = w ∧ i ≤ ps.length) (fun i => ps.length - i) 0 ⟨rfl, rfl, rfl, trivial⟩ ⟨rfl, Nat.zero_le _⟩ ?_
  rintro i w1 ⟨rfl, hi⟩
  refine brE_dec (fun hlt => ?_) (fun hge => ?_)
  · have hlt : i < ps.length := by have : (i : Int) < (ps.length : Nat) := hlt; omega
    obtain ⟨b1, o1, hA, c1, c2⟩ := Reads.pr hx hlt
    obtain ⟨b2, o2, hB, d1, d2⟩ := Reads.pr hy hlt
    have r1 : Rd w1 b1 (o1 + i * 2) [.int .i64 ps[i].1, .int .i64 ps[i].2] := fun j v hj => by
      match j, hj with
      | 0, hj => cases hj; exact c1
      | 1, hj => cases hj; exact c2
    have r2 : Rd w1 b2 (o2 + i * 2) [.int .i64 ps[i].1, .int .i64 ps[i].2] := fun j v hj => by
      match j, hj with
      | 0, hj => cases hj; exact d1
      | 1, hj => cases hj; exact d2
    refine ⟨i, b1, o1, rfl, hlt, hA, ?_⟩
    refine ⟨_, rfl, r1, ?_⟩
    refine ⟨i, b2, o2, rfl, hlt, hB, ?_⟩
    refine ⟨_, rfl, r2, ?_⟩
    refine ⟨false, neqSame58 _ _ _, ?_⟩
    refine ⟨((i + 1 : Nat) : Int), fit ⟨by omega, by omega⟩, ?_⟩
    exact ⟨i + 1, ⟨rfl, rfl, rfl, trivial⟩, ⟨rfl, hlt⟩, by omega⟩
  · exact ⟨rfl, Ext.refl _⟩

theorem SameLists_spec {w : World} {A B : Option Addr} {L : List (List Int)} {us vs : List Value} {c d : Nat} (hx : RList w A L us) (hy : RList w B L vs) (hl : L.length ≤ 9223372036854775807) (hll : ∀ l ∈ L, l.length ≤ 9223372036854775807) :
    CallsV C.P 43 #[.slice A L.length c, .slice B L.length d] w fun v w' => v = .bool true ∧ Ext w w' := by
  refine callsV_of C_ok (args := [_, _]) (plans := plans43) Try.func43 rfl Try.ntmps43 (by kernel_rfl) (Nat.le_of_ble_eq_true rfl) ?_
  refine brE_false (by simp) ?_
  refine loopE C_ok (fun (i : Nat) => [(0, .slice A L.length c), (1, .slice B L.length d), (5, .int .i64 i)])
    (fun i w' => Ext w w' ∧ i ≤ L.length) (fun i => L.length - i) 0 ⟨rfl, rfl, rfl, trivial⟩ ⟨Ext.refl _, Nat.zero_le _⟩ ?_
  rintro i w1 ⟨e1, hi⟩
  refine brE_dec (fun hlt => ?_) (fun hge => ?_)
  · have hlt : i < L.length := by have : (i : Int) < (L.length : Nat) := hlt; omega
    have hx := hx.ext e1
    have hy := hy.ext e1
    obtain ⟨A1, c1, hu, hr1⟩ := hx.row i hlt
    obtain ⟨A2, c2, hv, hr2⟩ := hy.row i hlt
    rcases hx.reads with h0 | ⟨b1, o1, hA, hrd1⟩
    · rw [h0] at hu; simp at hu
    rcases hy.reads with h0 | ⟨b2, o2, hB, hrd2⟩
    · rw [h0] at hv; simp at hv
    refine ⟨i, b1, o1, rfl, hlt, hA, ?_⟩
    refine ⟨_, by have := hrd1 i _ hu; simpa using this, ?_⟩
    refine ⟨i, b2, o2, rfl, hlt, hB, ?_⟩
    refine ⟨_, by have := hrd2 i _ hv; simpa using this, ?_⟩
    refine (SameInts_spec hr1 hr2 (hll _ (List.getElem_mem hlt))).mono ?_
    rintro v w2 ⟨hv, e2⟩
    rw [decide_eq_true rfl] at hv
    subst hv
    refine ⟨((i + 1 : Nat) : Int), fit ⟨by omega, by omega⟩, ?_⟩
    exact ⟨i + 1, ⟨rfl, rfl, rfl, trivial⟩, ⟨e1.trans e2, hlt⟩, by omega⟩
  · exact ⟨rfl, e1⟩

/-! ### First -/
def firstTo (l : List Int) (n : Nat) : List Int := ((List.range n).filter fun k => decide (l[k]? = some 0)).map fun (k : Nat) => (k : Int)
theorem firstTo_succ {l : List Int} {i : Nat} (hi : i < l.length) : firstTo l (i + 1) = if l[i] = 0 then firstTo l i ++ [(i : Int)] else firstTo l i := by
  unfold firstTo
  rw [List.range_succ, List.filter_append, List.map_append]
  by_cases h : l[i] = 0 <;> simp [hi, h]
theorem firstTo_length (l : List Int) (n : Nat) : (firstTo l n).length ≤ n := by
  unfold firstTo
  rw [List.length_map]
  exact Nat.le_trans (List.length_filter_le _ _) (by simp)

noncomputable def firstL (N : Int) (xs : List Arrow) : List Int := firstTo (levelsV N xs) (levelsV N xs).length

theorem levelsV_length (N : Int) (xs : List Arrow) : (levelsV N xs).length ≤ 24 := by
  unfold levelsV
  split
  · rename_i h
    have := (valid_of_chk h).hi
    rw [natsN_length]; omega
  · simp

theorem First_spec {N : Int} {A : Option Addr} {xs : List Arrow} {c : Nat} {w : World} (h : HRel w N A xs c) :
    CallsV C.P 47 #[relVal N A xs.length c] w fun v w' => NewInts w w' v (firstL N xs) ∧ Ext w w' := by
  refine callsV_of C_ok (args := [_]) (plans := []) Try.func47 rfl Try.ntmps47 (by kernel_rfl) (Nat.le_of_ble_eq_true rfl) ?_
  intro g1 w1 h1
  have M1 := (Mem.start w).alloc h1
  refine ⟨[.int .i64 N, .slice A xs.length c], rfl, M1.rd 0 rfl, ?_⟩
  refine (Levels_spec (h.ext M1.ext)).mono ?_
  rintro v w2 ⟨hn, e2⟩
  have M2 := M1.grow e2
  have hlen := levelsV_length N xs
  unfold firstL
  generalize levelsV N xs = l at *
  obtain ⟨A2, c2, rfl, hr2, _⟩ := hn.slice
  have hn : w2.ownsRow w1.heap.size 3 1 (.slice A2 l.length c2) l.length (ints l) := hn
  refine loopE C_ok (fun (s : Nat × Value) => [(3, s.2), (7, .slice A2 l.length c2), (8, .int .i64 l.length), (9, .int .i64 s.1)])
    (fun s w' => s.1 ≤ l.length ∧ Ext w w' ∧ Reads w' A2 (ints l) ∧ NewInts w2 w' s.2 (firstTo l s.1) ∧ Ext w2 w') (fun s => l.length - s.1) (0, .slice none 0 0)
    ⟨rfl, rfl, rfl, rfl, trivial⟩ ⟨Nat.zero_le _, M2.ext, hr2, World.ownsRow_nil _ _ _ _, Ext.refl _⟩ ?_
  rintro ⟨i, v⟩ w3 ⟨hi, E3, hr3, ho, e23⟩
  have hi : i ≤ l.length := hi
  have ho : NewInts w2 w3 v (firstTo l i) := ho
  refine brE_dec (fun hlt => ?_) (fun hge => ?_)
  · have hlt : i < l.length := by have : (i : Int) < (l.length : Nat) := hlt; omega
    obtain ⟨b, o, hA, hc⟩ := Reads.int hr3 hlt
    have next : IntKind.i64.wrap ((i : Int) + 1) = ((i + 1 : Nat) : Int) := fit ⟨by omega, by omega⟩
    have hsu := firstTo_succ hlt
    have hfl := firstTo_length l i
    refine ⟨i, b, o, rfl, hlt, hA, ?_⟩
    refine ⟨_, by simpa using hc, ?_⟩
    refine brE_dec (fun h0 => ?_) (fun h0 => ?_)
    · have h0 : l[i] = 0 := h0
      rw [if_pos h0] at hsu
      intro g4 w4 h4
      have ho4 : w4.ownsRow w2.heap.size 3 1 v (firstTo l i).length (ints (firstTo l i)) := ownsRow_ext ho h4.ext
      refine ⟨rfl, rfl, rfl, w2.heap.size, _, _, [.int .i64 i], ho4, (e23.trans h4.ext).size, Nat.lt_add_one 0, rfl, rfl, .inr ⟨g4, 0, rfl, Rd.of_block h4.here⟩, rfl, rfl, by omega, by simp only [maxLen]; omega, ?_⟩
      intro v5 w5 ho5 hg5 _
      have e25 := app_ext (e23.trans h4.ext) ho4 hg5
      refine ⟨_, next, ?_⟩
      refine ⟨(i + 1, v5), ⟨rfl, rfl, rfl, rfl, trivial⟩, ⟨hlt, M2.ext.trans e25, hr2.ext e25, ?_, e25⟩, by show l.length - (i + 1) < l.length - i; omega⟩
      show w5.ownsRow _ _ _ _ _ _
      rw [hsu, List.length_append, ints_append]
      exact ho5
    · have h0 : ¬ l[i] = 0 := h0
      rw [if_neg h0] at hsu
      refine ⟨_, next, ?_⟩
      refine ⟨(i + 1, v), ⟨rfl, rfl, rfl, rfl, trivial⟩, ⟨hlt, E3, hr3, ?_, e23⟩, by show l.length - (i + 1) < l.length - i; omega⟩
      show w3.ownsRow _ _ _ _ _ _
      rw [hsu]
      exact ho
  · have : i = l.length := by have : ¬ (i : Int) < (l.length : Nat) := hge; omega
    subst this
    exact ⟨ownsRow_base ho M2.ext.size, E3⟩

end Go.Proofs.Ytdfhfehlmonjjaa

namespace Go.Proofs.Ytdfhfehlmonjjaa
open Go.Eng Go.RowKit

theorem membersTo_cut {S : Nat → Bool} {n : Nat} (h : ∀ b, n ≤ b → S b = false) : ∀ k, membersTo S (n + k) = membersTo S n
  | 0 => rfl
  | k + 1 => by
    have := membersTo_succ S (n + k)
    rw [h (n + k) (by omega)] at this
    rw [← Nat.add_assoc, this, if_neg Bool.false_ne_true]
    exact membersTo_cut h k

theorem members_comp {n : Nat} {R : Nat → Nat → Bool} {a : Nat} (hn : n ≤ 24) : members (compS n R a) = membersTo (compS n R a) n := by
  have := membersTo_cut (S := compS n R a) (n := n) (fun b hb => by simp [compS]; omega) (24 - n)
  rw [show n + (24 - n) = 24 by omega] at this
  exact this

theorem comp_at {n : Nat} {R : Nat → Nat → Bool} {a b : Nat} (hb : b < n) : compS n R a b = (decide (a = b) || (R a b && R b a)) := by
  rw [Bool.eq_iff_iff, compS_iff, Bool.or_eq_true, Bool.and_eq_true, decide_eq_true_eq]
  exact ⟨fun h => h.2, fun h => ⟨hb, h⟩⟩

set_option maxRecDepth 100000 in
theorem mates_spec (R : Nat → Nat → Bool) {n a : Nat} (hn : n ≤ 24) (ha : a < n) (w : World) :
    CallsV C.P 77 #[.agg (mat R).toArray, .int .i64 n, .int .i64 a] w fun v w' => NewInts w w' v (members (compS n R a)) ∧ Ext w w' := by
  refine callsV_of C_ok (args := [_, _, _]) (plans := []) Try.func77 rfl Try.ntmps77 (by kernel_rfl) (Nat.le_of_ble_eq_true rfl) ?_
  intro g3 w1 h1
  rw [members_comp hn]
  have M1 : Mem w w1 [(g3, .cells (mat R).toArray 93 (0, 0))] := (Mem.start w).alloc h1
  refine loopE C_ok (fun (s : Nat × Value) => [(1, .int .i64 n), (2, .int .i64 a), (3, .pointer (some ⟨g3, 0, none⟩)), (7, s.2), (8, .int .i64 s.1)])
    (fun s w' => s.1 ≤ n ∧ Ext w w' ∧ w'.heap[g3]? = some (.cells (mat R).toArray 93 (0, 0)) ∧ NewInts w w' s.2 (membersTo (compS n R a) s.1)) (fun s => n - s.1) (0, .slice none 0 0)
    ⟨rfl, rfl, rfl, rfl, rfl, trivial⟩ ⟨Nat.zero_le _, M1.ext, M1.get 0 rfl, World.ownsRow_nil _ _ _ _⟩ ?_
  rintro ⟨b, v⟩ w2 ⟨hb, E2, hm, ho⟩
  have hb : b ≤ n := hb
  have ho : NewInts w w2 v (membersTo (compS n R a) b) := ho
  refine brE_dec (fun hlt => ?_) (fun hge => ?_)
  · have hlt : b < n := by have : (b : Int) < n := hlt; omega
    have hs := membersTo_succ (compS n R a) b
    have hml := membersTo_length (compS n R a) b
    rw [comp_at hlt] at hs
    have next : IntKind.i64.wrap ((b : Int) + 1) = ((b + 1 : Nat) : Int) := fit ⟨by omega, by omega⟩
    have no : (decide (a = b) || (R a b && R b a)) = false → b + 1 ≤ n ∧ Ext w w2 ∧ w2.heap[g3]? = some (.cells (mat R).toArray 93 (0, 0)) ∧ NewInts w w2 v (membersTo (compS n R a) (b + 1)) := fun h0 => by
      rw [h0, if_neg Bool.false_ne_true] at hs
      rw [hs]
      exact ⟨hlt, E2, hm, ho⟩
    refine brE_dec (fun hab => ?y1) (fun hab => ?n1)
    case' n1 =>
      have hab : ¬ a = b := by have : ¬ (a : Int) = b := hab; omega
      refine ⟨a, rfl, (by omega : a < 24), ?_⟩
      refine ⟨b, rfl, (by omega : b < 24), ?_⟩
      refine ⟨_, mat_cell hm (by omega) (by omega), ?_⟩
      refine brE_mk (fun r1 => ?y2) (fun r1 => ?n2)
    case n2 =>
      refine ⟨_, next, ?_⟩
      exact ⟨(b + 1, v), ⟨rfl, rfl, rfl, rfl, rfl, trivial⟩, no (by rw [decide_eq_false hab, r1]; rfl), by show n - (b + 1) < n - b; omega⟩
    case' y2 =>
      refine ⟨b, rfl, (by omega : b < 24), ?_⟩
      refine ⟨a, rfl, (by omega : a < 24), ?_⟩
      refine ⟨_, mat_cell hm (by omega) (by omega), ?_⟩
      refine brE_mk (fun r2 => ?y3) (fun r2 => ?n3)
    case n3 =>
      refine ⟨_, next, ?_⟩
      exact ⟨(b + 1, v), ⟨rfl, rfl, rfl, rfl, rfl, trivial⟩, no (by rw [decide_eq_false hab, r1, r2]; rfl), by show n - (b + 1) < n - b; omega⟩
    case' y1 =>
      have hh : (decide (a = b) || (R a b && R b a)) = true := by
        have : a = b := by have : (a : Int) = b := hab; omega
        simp [this]
    case' y3 =>
      have hh : (decide (a = b) || (R a b && R b a)) = true := by rw [r1, r2]; simp
    all_goals
      rw [if_pos hh] at hs
      intro g6 w6 h6
      have ho6 : w6.ownsRow w.heap.size 3 1 v (membersTo (compS n R a) b).length (ints (membersTo (compS n R a) b)) := ownsRow_ext ho h6.ext
      refine ⟨rfl, rfl, rfl, w.heap.size, _, _, [.int .i64 b], ho6, (E2.trans h6.ext).size, Nat.lt_add_one 0, rfl, rfl, .inr ⟨g6, 0, rfl, Rd.of_block h6.here⟩, rfl, rfl, by omega, by simp only [maxLen]; omega, ?_⟩
      intro v7 w7 ho7 hg7 _
      have o7 := only_app ho6 hg7
      refine ⟨_, next, ?_⟩
      refine ⟨(b + 1, v7), ⟨rfl, rfl, rfl, rfl, rfl, trivial⟩, ⟨hlt, app_ext (E2.trans h6.ext) ho6 hg7, o7 _ _ _ _ (h6.ext.heap hm) (by decide), ?_⟩, by show n - (b + 1) < n - b; omega⟩
      show w7.ownsRow _ _ _ _ _ _
      rw [hs, List.length_append, ints_append]
      exact ho7
  · have : b = n := by have : ¬ (b : Int) < n := hge; omega
    subst this
    exact ⟨ho, E2⟩

/-- May a guest's component come next? -/
def freeB (n : Nat) (R : Nat → Nat → Bool) (D : Nat → Bool) (a : Nat) : Bool := !(D a || precS n R a (compS n R a) D)
def behindTo (R : Nat → Nat → Bool) (D : Nat → Bool) (a b : Nat) : Bool := (List.range b).any fun k => R k a && !R a k && !D k
theorem behindTo_succ (R : Nat → Nat → Bool) (D : Nat → Bool) (a b : Nat) : behindTo R D a (b + 1) = (behindTo R D a b || (R b a && !R a b && !D b)) := by
  unfold behindTo; rw [List.range_succ, List.any_append]; simp

theorem free_eq {n : Nat} {R : Nat → Nat → Bool} {D : Nat → Bool} {a : Nat} : freeB n R D a = (!D a && !behindTo R D a n) := by
  unfold freeB precS behindTo
  rw [Bool.not_or]
  congr 2
  rw [Bool.eq_iff_iff, List.any_eq_true, List.any_eq_true]
  have key : ∀ b < n, (!compS n R a b && !D b && R b a) = (R b a && !R a b && !D b) := fun b hb => by
    rw [comp_at hb]
    by_cases e : a = b
    · subst e; cases R a a <;> cases D a <;> simp
    · rw [decide_eq_false e]; cases R a b <;> cases R b a <;> cases D b <;> rfl
  constructor
  · rintro ⟨b, hb, h⟩
    exact ⟨b, hb, by rw [← key b (List.mem_range.1 hb)]; exact h⟩
  · rintro ⟨b, hb, h⟩
    exact ⟨b, hb, by rw [key b (List.mem_range.1 hb)]; exact h⟩

/-- The least who is free, of those from 'k' on. -/
def LeastFree (n : Nat) (p : Nat → Bool) (k : Nat) (r : Int) : Prop :=
  (r = -1 ∧ ∀ j, k ≤ j → j < n → p j = false) ∨ ∃ y : Nat, r = (y : Int) ∧ k ≤ y ∧ y < n ∧ p y = true ∧ ∀ j, k ≤ j → j < y → p j = false

theorem left_or {n : Nat} {R : Nat → Nat → Bool} {D : Nat → Bool} {a : Nat} (ha : a < n) (hD : D a = false) : left n (orS D (compS n R a)) < left n D :=
  filter_lt _ (fun k hk => by
    simp only [orS] at hk
    cases h : D k with
    | true => rw [h] at hk; simp at hk
    | false => rfl) (List.mem_range.2 ha) (by simp [orS, comp_refl ha]) (by rw [hD]; rfl)

theorem left_zero {n : Nat} {D : Nat → Bool} (h : left n D = 0) : ∀ k < n, D k = true := fun k hk => by
  cases hd : D k with
  | true => rfl
  | false =>
    have : k ∈ (List.range n).filter fun k => !D k := List.mem_filter.2 ⟨List.mem_range.2 hk, by rw [hd]; rfl⟩
    rw [List.eq_nil_of_length_eq_zero h] at this
    cases this

set_option maxRecDepth 100000 in
theorem refComponents_spec {N : Int} {A : Option Addr} {xs : List Arrow} {c : Nat} {w : World} (h : HRel w N A xs c) :
    CallsV C.P 44 #[relVal N A xs.length c] w fun v w' => Lists w.heap.size w' v (compsV N xs) ∧ Ext w w' := by
  refine callsV_of C_ok (args := [_]) (plans := []) Try.func44 rfl Try.ntmps44 (by kernel_rfl) (Nat.le_of_ble_eq_true rfl) ?_
  intro g1 w1 h1
  have M1 := (Mem.start w).alloc h1
  refine ⟨[.int .i64 N, .slice A xs.length c], rfl, M1.rd 0 rfl, ?_⟩
  refine (refCheck_spec (h.ext M1.ext)).mono ?_
  rintro v w2 ⟨rfl, e2⟩
  have M2 := M1.grow e2
  refine brE_mk (fun hb0 => ?_) (fun hb0 => ?_)
  · have hv : chk N xs ≠ 0 := by simpa using hb0
    rw [compsV, if_neg hv]
    exact ⟨lists_nil _ _, M2.ext⟩
  have hv : chk N xs = 0 := by simpa using hb0
  have hok := valid_of_chk hv
  have hhi := hok.hi
  rw [compsV, if_pos hv]
  obtain ⟨n, rfl⟩ := Int.eq_ofNat_of_zero_le hok.lo
  have hn : n ≤ 24 := by omega
  refine ⟨[.int .i64 n, .slice A xs.length c], rfl, M2.rd 0 rfl, ?_⟩
  refine (Reach_spec (h.ext M2.ext) hok).mono ?_
  rintro v w4 ⟨rfl, e4⟩
  have M4 := M2.grow e4
  intro g3 w5 h5
  have M5 := M4.alloc h5
  refine ⟨mat_size _, _, _, M5.get 0 rfl, Nat.le_of_ble_eq_true rfl, bools_one 576 _, ?_⟩
  intro w6 h6
  have h6 : Put w5 g3 (.cells (mat (reach (toM xs))).toArray 93 (0, 0)) w6 := by
    have := mat_copy (reach (toM xs)) fun _ _ => false
    rw [← mat_zero] at this
    rw [← this]; exact h6
  have M6 := M5.put 0 rfl h6
  intro g4 w7 h7
  have M7 : Mem w w7 [(g4, .cells (setCells fun _ => false).toArray 75 (0, 0)), (g3, .cells (mat (reach (toM xs))).toArray 93 (0, 0)), (g1, .cells #[.int .i64 n, .slice A xs.length c] 24 (0, 0))] := by
    have e0 : List.replicate 24 (Value.bool false) = setCells fun _ => false := bools_false 24
    rw [← e0]; exact M6.alloc h7
  rw [show (n : Int).toNat = n from rfl]
  have P := pre_reach hn hok.inside
  generalize reach (toM xs) = R at *
  have hg4B := M7.new 0 rfl
  have hl0 : left n (fun _ => false) ≤ n := Nat.le_trans (List.length_filter_le _ _) (by simp)
  refine loopE C_ok (fun (s : List (List Int) × Nat × (Nat → Bool) × Value) => [(1, .pointer (some ⟨g1, 0, none⟩)), (3, .pointer (some ⟨g3, 0, none⟩)), (4, .pointer (some ⟨g4, 0, none⟩)), (5, s.2.2.2)])
    (fun s w' => Ext w w' ∧ w'.heap[g4]? = some (.cells (setCells s.2.2.1).toArray 75 (0, 0)) ∧ w'.heap[g3]? = some (.cells (mat R).toArray 93 (0, 0)) ∧ w'.heap[g1]? = some (.cells #[.int .i64 n, .slice A xs.length c] 24 (0, 0)) ∧
      Lists w.heap.size w' s.2.2.2 s.1 ∧ s.1 ++ compsF n R s.2.1 s.2.2.1 = compsL n R ∧ s.1.length + left n s.2.2.1 ≤ n ∧ left n s.2.2.1 ≤ s.2.1)
    (fun s => n - s.1.length) ([], 24, (fun _ => false), .slice none 0 0) ⟨rfl, rfl, rfl, rfl, trivial⟩
    ⟨M7.ext, M7.get 0 rfl, M7.get 1 rfl, M7.get 2 rfl, lists_nil _ _, rfl, by show 0 + left n (fun _ => false) ≤ n; rw [Nat.zero_add]; exact hl0, Nat.le_trans hl0 hn⟩ ?_
  rintro ⟨L, m, D, v⟩ w8 ⟨E8, hd, hm, hg1, hl, heq, hlen, hfuel⟩
  have hlen : L.length + left n D ≤ n := hlen
  have hfuel : left n D ≤ m := hfuel
  have heq : L ++ compsF n R m D = compsL n R := heq
  have hl : Lists w.heap.size w8 v L := hl
  have hd : w8.heap[g4]? = some (.cells (setCells D).toArray 75 (0, 0)) := hd
  obtain ⟨us, hous, hrows⟩ := hl
  obtain ⟨Av, cv, rfl, _, _⟩ := reads_of_owns hous
  refine ⟨_, cell_of_block hg1 rfl, ?_⟩
  refine brE_dec (fun hlt => ?_) (fun hge => ?_)
  · have hlt : L.length < n := by have : (L.length : Int) < n := hlt; omega
    refine ⟨_, cell_of_block hg1 rfl, ?_⟩
    refine ⟨(n : Int) - 1, fit ⟨by omega, by omega⟩, ?_⟩
    refine loopE C_ok (fun (s : Nat × Int) => [(1, .pointer (some ⟨g1, 0, none⟩)), (3, .pointer (some ⟨g3, 0, none⟩)), (4, .pointer (some ⟨g4, 0, none⟩)), (5, .slice Av L.length cv), (6, .int .i64 s.2), (7, .int .i64 ((s.1 : Int) - 1))])
      (fun s w' => w' = w8 ∧ s.1 ≤ n ∧ LeastFree n (freeB n R D) s.1 s.2) (fun s => s.1) (n, -1) ⟨rfl, rfl, rfl, rfl, rfl, rfl, trivial⟩
      ⟨rfl, Nat.le_refl _, .inl ⟨rfl, fun j h1 h2 => absurd h2 (Nat.not_lt.2 h1)⟩⟩ ?_
    rintro ⟨k, r⟩ w9 ⟨rfl, hk, hlf⟩
    have hk : k ≤ n := hk
    have hlf : LeastFree n (freeB n R D) k r := hlf
    refine brE_dec (fun hk0 => ?_) (fun hk0 => ?_)
    · obtain ⟨a, rfl⟩ : ∃ a, k = a + 1 := ⟨k - 1, by have : (k : Int) - 1 ≥ 0 := hk0; omega⟩
      have ea : ((a + 1 : Nat) : Int) - 1 = (a : Int) := by omega
      have ha24 : a < 24 := by omega
      rw [ea]
      have cd : ∀ b < 24, w9.cell? ⟨g4, 0 + b * 1, none⟩ = some (.bool (D b)) := fun b hb => by
        have := (Rd.of_block hd) b _ (bools_get hb D)
        simpa using this
      refine ⟨a, rfl, ha24, ?_⟩
      refine ⟨_, cd a ha24, ?_⟩
      refine loopE C_ok (fun (b : Nat) => [(1, .pointer (some ⟨g1, 0, none⟩)), (3, .pointer (some ⟨g3, 0, none⟩)), (4, .pointer (some ⟨g4, 0, none⟩)), (5, .slice Av L.length cv), (6, .int .i64 r), (7, .int .i64 a), (8, .bool (!D a && !behindTo R D a b)), (9, .int .i64 b)])
        (fun b w' => w' = w9 ∧ b ≤ n) (fun b => n - b) 0 ⟨rfl, rfl, rfl, rfl, rfl, rfl, by simp [behindTo]; rfl, rfl, trivial⟩ ⟨rfl, Nat.zero_le _⟩ ?_
      rintro b w10 ⟨rfl, hb⟩
      refine ⟨_, cell_of_block hg1 rfl, ?_⟩
      refine brE_dec (fun hltb => ?_) (fun hgeb => ?_)
      · have hltb : b < n := by have : (b : Int) < n := hltb; omega
        have hb24 : b < 24 := by omega
        have next : IntKind.i64.wrap ((b : Int) + 1) = ((b + 1 : Nat) : Int) := fit ⟨by omega, by omega⟩
        have hbs := behindTo_succ R D a b
        refine ⟨b, rfl, hb24, ?_⟩
        refine ⟨a, rfl, ha24, ?_⟩
        refine ⟨_, mat_cell hm hb24 ha24, ?_⟩
        refine brE_mk (fun r1 => ?y1) (fun r1 => ?n1)
        case' y1 =>
          refine ⟨a, rfl, ha24, ?_⟩
          refine ⟨b, rfl, hb24, ?_⟩
          refine ⟨_, mat_cell hm ha24 hb24, ?_⟩
          refine brE_mk (fun r2 => ?y2) (fun r2 => ?n2)
        case' y2 =>
          refine ⟨b, rfl, hb24, ?_⟩
          refine ⟨_, cd b hb24, ?_⟩
          refine brE_mk (fun r3 => ?y3) (fun r3 => ?n3)
        case y3 =>
          refine ⟨_, next, ?_⟩
          have hbs : behindTo R D a (b + 1) = true := by rw [hbs, r1, r2, r3]; simp
          refine ⟨b + 1, ⟨rfl, rfl, rfl, rfl, rfl, rfl, ?_, rfl, trivial⟩, ⟨rfl, hltb⟩, by omega⟩
          rw [hbs]; simp; rfl
        case n3 =>
          have hbs : behindTo R D a (b + 1) = behindTo R D a b := by rw [hbs, r1, r2, r3]; simp
          refine ⟨_, next, ?_⟩
          refine ⟨b + 1, ⟨rfl, rfl, rfl, rfl, rfl, rfl, ?_, rfl, trivial⟩, ⟨rfl, hltb⟩, by omega⟩
          rw [hbs]; rfl
        case n2 =>
          have r2 : R a b = true := by simpa using r2
          have hbs : behindTo R D a (b + 1) = behindTo R D a b := by rw [hbs, r1, r2]; simp
          refine ⟨_, next, ?_⟩
          refine ⟨b + 1, ⟨rfl, rfl, rfl, rfl, rfl, rfl, ?_, rfl, trivial⟩, ⟨rfl, hltb⟩, by omega⟩
          rw [hbs]; rfl
        case n1 =>
          have hbs : behindTo R D a (b + 1) = behindTo R D a b := by rw [hbs, r1]; simp
          refine ⟨_, next, ?_⟩
          refine ⟨b + 1, ⟨rfl, rfl, rfl, rfl, rfl, rfl, ?_, rfl, trivial⟩, ⟨rfl, hltb⟩, by omega⟩
          rw [hbs]; rfl
      · have : b = n := by have : ¬ (b : Int) < n := hgeb; omega
        subst this
        have hfree := free_eq (n := b) (R := R) (D := D) (a := a)
        refine brE_mk (fun hf => ?_) (fun hf => ?_)
        · rw [← hfree] at hf
          refine ⟨(a : Int) - 1, fit ⟨by omega, by omega⟩, ?_⟩
          exact ⟨(a, (a : Int)), ⟨rfl, rfl, rfl, rfl, rfl, rfl, trivial⟩, ⟨rfl, by show a ≤ b; omega, .inr ⟨a, rfl, Nat.le_refl _, by omega, hf, fun j h1 h2 => absurd h2 (Nat.not_lt.2 h1)⟩⟩, Nat.lt_succ_self _⟩
        · rw [← hfree] at hf
          refine ⟨(a : Int) - 1, fit ⟨by omega, by omega⟩, ?_⟩
          refine ⟨(a, r), ⟨rfl, rfl, rfl, rfl, rfl, rfl, trivial⟩, ⟨rfl, by show a ≤ b; omega, ?_⟩, Nat.lt_succ_self _⟩
          show LeastFree b (freeB b R D) a r
          have low : ∀ {t : Nat}, (∀ j, a + 1 ≤ j → j < t → freeB b R D j = false) → ∀ j, a ≤ j → j < t → freeB b R D j = false := fun hh j h1 h2 => by
            rcases Nat.lt_or_ge a j with h3 | h3
            · exact hh j h3 h2
            · obtain rfl : j = a := by omega
              exact hf
          rcases hlf with ⟨rfl, hall⟩ | ⟨y, rfl, hy1, hy2, hy3, hall⟩
          · exact .inl ⟨rfl, low hall⟩
          · exact .inr ⟨y, rfl, by omega, hy2, hy3, low hall⟩
    · have hk0 : k = 0 := by have : ¬ (k : Int) - 1 ≥ 0 := hk0; omega
      subst hk0
      rcases hlf with ⟨rfl, hall⟩ | ⟨a, rfl, _, han, hfa, hall⟩
      · have hstop : compsF n R m D = [] := compsF_stop (fun j hj => by
          have := hall j (Nat.zero_le _) hj
          unfold freeB at this
          rw [Bool.not_eq_false'] at this
          exact this) m
        rw [hstop, List.append_nil] at heq
        rw [← heq]
        exact ⟨⟨us, hous, hrows⟩, E8⟩
      · have hDa : D a = false := by unfold freeB at hfa; simp at hfa; exact hfa.1
        have hPa : precS n R a (compS n R a) D = false := by unfold freeB at hfa; simp at hfa; exact hfa.2
        have hlow : ∀ j < a, (D j || precS n R j (compS n R j) D) = true := fun j hj => by
          have := hall j (Nat.zero_le _) hj
          unfold freeB at this
          rw [Bool.not_eq_false'] at this
          exact this
        have hlo := left_or (R := R) han hDa
        obtain ⟨m, rfl⟩ : ∃ q, m = q + 1 := ⟨m - 1, by omega⟩
        have hnext := compsF_next han hlow hDa hPa m
        refine ⟨mat R, bools_length _ _, Rd.of_block hm, ?_⟩
        refine ⟨_, cell_of_block hg1 rfl, ?_⟩
        refine (mates_spec R hn han w9).mono ?_
        rintro v10 w10 ⟨hl10, e10⟩
        obtain ⟨A10, c10, rfl, _, _⟩ := hl10.slice
        have hl10 : w10.ownsRow w9.heap.size 3 1 (.slice A10 (members (compS n R a)).length c10) (members (compS n R a)).length (ints (members (compS n R a))) := hl10
        have hml : (members (compS n R a)).length ≤ 24 := membersTo_length _ 24
        refine loopE C_ok (fun (i : Nat) => [(1, .pointer (some ⟨g1, 0, none⟩)), (3, .pointer (some ⟨g3, 0, none⟩)), (4, .pointer (some ⟨g4, 0, none⟩)), (5, .slice Av L.length cv), (10, .slice A10 (members (compS n R a)).length c10), (11, .int .i64 i)])
          (fun i w' => i ≤ (members (compS n R a)).length ∧ Ext w w' ∧ Only 75 w10 w' ∧ w'.heap[g4]? = some (.cells (setCells (markTo D (members (compS n R a)) i)).toArray 75 (0, 0)))
          (fun i => (members (compS n R a)).length - i) 0 ⟨rfl, rfl, rfl, rfl, rfl, rfl, trivial⟩
          ⟨Nat.zero_le _, E8.trans e10, only_ext _ (Ext.refl _), by rw [markTo_zero]; exact e10.heap hd⟩ ?_
        rintro i w11 ⟨hi, E11, o11, done11⟩
        refine brE_dec (fun hlt2 => ?_) (fun hge2 => ?_)
        · have hlt2 : i < (members (compS n R a)).length := by have : (i : Int) < ((members (compS n R a)).length : Nat) := hlt2; omega
          obtain ⟨A', c', eA, hr11, _⟩ := reads_of_owns (ownsRow_only hl10 o11 (by decide))
          cases eA
          obtain ⟨y, ey, hy24, _⟩ := members_get hlt2
          obtain ⟨b1, o1, hA1, hc1⟩ := Reads.int hr11 hlt2
          rw [ey] at hc1
          refine ⟨i, b1, o1, rfl, hlt2, hA1, ?_⟩
          refine ⟨_, by simpa using hc1, ?_⟩
          refine ⟨y, rfl, hy24, ?_⟩
          refine ⟨rfl, _, _, done11, by rw [bools_length]; show 0 + y * 1 + 1 ≤ 24; omega, rfl, ?_⟩
          intro w12 h12
          have e12 : splice (setCells (markTo D (members (compS n R a)) i)) (0 + y * 1) [.bool true] = setCells (markTo D (members (compS n R a)) (i + 1)) := by
            rw [← markTo_succ D hlt2 ey]
            have := bools_set hy24 (markTo D (members (compS n R a)) i) true
            simpa using this
          have h12 : Put w11 g4 (.cells (setCells (markTo D (members (compS n R a)) (i + 1))).toArray 75 (0, 0)) w12 := by rw [← e12]; exact h12
          refine ⟨((i + 1 : Nat) : Int), fit ⟨by omega, by omega⟩, ?_⟩
          exact ⟨i + 1, ⟨rfl, rfl, rfl, rfl, rfl, rfl, trivial⟩, ⟨hlt2, h12.ext_of E11 hg4B, Only.trans o11 (only_put h12 done11), h12.here⟩, by omega⟩
        · have : i = (members (compS n R a)).length := by have : ¬ (i : Int) < ((members (compS n R a)).length : Nat) := hge2; omega
          subst this
          have e11 : setCells (markTo D (members (compS n R a)) (members (compS n R a)).length) = setCells (orS D (compS n R a)) := bools_congr fun k hk => markTo_all D _ hk
          rw [e11] at done11
          have o911 : Only 75 w9 w11 := Only.trans (only_ext _ e10) o11
          have hous11 := ownsRow_only hous o911 (by decide)
          have hrows11 := hrows.only o911 (by decide)
          have hl11 := ownsRow_base (ownsRow_only hl10 o11 (by decide)) E8.size
          intro g12 w12 h12
          have ho12 : w12.ownsRow w.heap.size 30 1 (.slice Av L.length cv) L.length us := ownsRow_ext hous11 h12.ext
          have E12 := E11.trans h12.ext
          refine ⟨rfl, rfl, rfl, w.heap.size, L.length, us, [_], ho12, E12.size, Nat.lt_add_one 0, rfl, rfl, .inr ⟨g12, 0, rfl, Rd.of_block h12.here⟩, rfl, rfl, by omega, by simp only [maxLen]; omega, ?_⟩
          intro v13 w13 ho13 hg13 _
          have o13 := only_app ho12 hg13
          have hl13 : Lists w.heap.size w13 v13 (L ++ [members (compS n R a)]) := by
            refine ⟨us ++ [.slice A10 (members (compS n R a)).length c10], ?_, ?_⟩
            · rw [List.length_append]; exact ho13
            · exact AllRows.snoc ((hrows11.only (only_ext 0 h12.ext) (by decide)).only o13 (by decide)) (ownsRow_only (ownsRow_ext hl11 h12.ext) o13 (by decide))
          refine ⟨(L ++ [members (compS n R a)], m, orS D (compS n R a), v13), ⟨rfl, rfl, rfl, rfl, trivial⟩, ⟨app_ext E12 ho12 hg13, o13 _ _ _ _ (h12.ext.heap done11) (by decide), o13 _ _ _ _ (h12.ext.heap (o911 _ _ _ _ hm (by decide))) (by decide), o13 _ _ _ _ (h12.ext.heap (o911 _ _ _ _ hg1 (by decide))) (by decide), hl13, ?_, ?_, ?_⟩, ?_⟩
          · show (L ++ [members (compS n R a)]) ++ compsF n R m (orS D (compS n R a)) = compsL n R
            rw [← heq, hnext, List.append_assoc]; rfl
          · show (L ++ [members (compS n R a)]).length + left n (orS D (compS n R a)) ≤ n
            rw [List.length_append, List.length_singleton]; omega
          · show left n (orS D (compS n R a)) ≤ m
            omega
          · show n - (L ++ [members (compS n R a)]).length < n - L.length
            rw [List.length_append, List.length_singleton]; omega
  · have hge : n ≤ L.length := by have : ¬ (L.length : Int) < n := hge; omega
    have hz : left n D = 0 := by omega
    have hall := left_zero hz
    have hstop : compsF n R m D = [] := compsF_stop (fun j hj => by rw [hall j hj]; rfl) m
    rw [hstop, List.append_nil] at heq
    rw [← heq]
    exact ⟨⟨us, hous, hrows⟩, E8⟩

end Go.Proofs.Ytdfhfehlmonjjaa

namespace Go.Proofs.Ytdfhfehlmonjjaa
open Go.Eng Go.RowKit

theorem refCircles_spec {N : Int} {A : Option Addr} {xs : List Arrow} {c : Nat} {w : World} (h : HRel w N A xs c) :
    CallsV C.P 45 #[relVal N A xs.length c] w fun v w' => Lists w.heap.size w' v (circlesV N xs) ∧ Ext w w' := by
  refine callsV_of C_ok (args := [_]) (plans := []) Try.func45 rfl Try.ntmps45 (by kernel_rfl) (Nat.le_of_ble_eq_true rfl) ?_
  intro g1 w1 h1
  have M1 := (Mem.start w).alloc h1
  refine ⟨[.int .i64 N, .slice A xs.length c], rfl, M1.rd 0 rfl, ?_⟩
  refine (refComponents_spec (h.ext M1.ext)).mono ?_
  rintro v w2 ⟨hl, e2⟩
  have M2 := M1.grow e2
  have hpr := (compsV_props (N := N) (xs := xs)).1
  unfold circlesV
  generalize compsV N xs = L at *
  have hl0 := hl
  obtain ⟨us, hous, hrows⟩ := hl0
  obtain ⟨A2, c2, us', rfl, hR⟩ := hl.read
  obtain ⟨A3, c3, e3, hR2, _⟩ := reads_of_owns hous
  cases e3
  have hul := hrows.length
  refine loopE C_ok (fun (s : Nat × Value) => [(3, .slice A2 L.length c2), (4, s.2), (5, .int .i64 s.1)])
    (fun s w' => s.1 ≤ L.length ∧ Ext w2 w' ∧ w'.ownsRow w2.heap.size 30 1 s.2 (keepL L s.1).length (keepU us L s.1)) (fun s => L.length - s.1) (0, .slice none 0 0)
    ⟨rfl, rfl, rfl, trivial⟩ ⟨Nat.zero_le _, Ext.refl _, World.ownsRow_nil _ _ _ _⟩ ?_
  rintro ⟨i, v⟩ w3 ⟨hi, e23, ho⟩
  have hi : i ≤ L.length := hi
  have ho : w3.ownsRow w2.heap.size 30 1 v (keepL L i).length (keepU us L i) := ho
  refine brE_dec (fun hlt => ?_) (fun hge => ?_)
  · have hlt : i < L.length := by have : (i : Int) < (L.length : Nat) := hlt; omega
    obtain ⟨u, hu, hou⟩ := hrows.at hlt
    obtain ⟨A', c', rfl, _, _⟩ := reads_of_owns hou
    have hku := keepU_length us L i
    have hks := keep_same hul i
    have next : IntKind.i64.wrap ((i : Int) + 1) = ((i + 1 : Nat) : Int) := fit ⟨by omega, by omega⟩
    have hk := keep_succ hul hlt
    have hui : us[i]'(by omega) = .slice A' L[i].length c' := (List.getElem?_eq_some_iff.1 hu).2
    rcases hR2 with h0 | ⟨b, o, hA, hrd⟩
    · rw [h0] at hu; simp at hu
    have hci : w3.cell? ⟨b, o + i * 1, none⟩ = some (.slice A' L[i].length c') := by
      have := (hrd.ext e23) i _ hu
      simpa using this
    refine ⟨i, b, o, rfl, hlt, hA, ?_⟩
    refine ⟨_, hci, ?_⟩
    refine brE_dec (fun hgt => ?_) (fun hgt => ?_)
    · have hgt : ¬ L[i].length < 2 := by have : (L[i].length : Int) > 1 := hgt; omega
      rw [if_neg hgt, if_neg hgt, hui] at hk
      refine ⟨i, b, o, rfl, hlt, hA, ?_⟩
      refine ⟨_, hci, ?_⟩
      intro g4 w4 h4
      have ho4 := ownsRow_ext ho h4.ext
      have e24 := e23.trans h4.ext
      refine ⟨rfl, rfl, rfl, w2.heap.size, _, _, [_], ho4, e24.size, Nat.lt_add_one 0, rfl, rfl, .inr ⟨g4, 0, rfl, Rd.of_block h4.here⟩, rfl, rfl, by omega, by simp only [maxLen]; omega, ?_⟩
      intro v5 w5 ho5 hg5 _
      refine ⟨_, next, ?_⟩
      refine ⟨(i + 1, v5), ⟨rfl, rfl, rfl, trivial⟩, ⟨hlt, app_ext e24 ho4 hg5, ?_⟩, by show L.length - (i + 1) < L.length - i; omega⟩
      show w5.ownsRow _ _ _ _ (keepL L (i + 1)).length (keepU us L (i + 1))
      rw [hk.1, hk.2, List.length_append]
      exact ho5
    · have hgt : L[i].length < 2 := by have : ¬ (L[i].length : Int) > 1 := hgt; omega
      rw [if_pos hgt, if_pos hgt] at hk
      refine ⟨_, next, ?_⟩
      refine ⟨(i + 1, v), ⟨rfl, rfl, rfl, trivial⟩, ⟨hlt, e23, ?_⟩, by show L.length - (i + 1) < L.length - i; omega⟩
      show w3.ownsRow _ _ _ _ (keepL L (i + 1)).length (keepU us L (i + 1))
      rw [hk.1, hk.2]
      exact ho
  · have : i = L.length := by have : ¬ (i : Int) < (L.length : Nat) := hge; omega
    subst this
    rw [← keepL_all]
    refine ⟨⟨keepU us L L.length, ownsRow_base ho M2.ext.size, ?_⟩, M2.ext.trans e23⟩
    exact (((hrows.base M1.ext.size).only (only_ext 0 e23) (by decide)).keep L.length)

/-! ### Levels, plain -/
section
variable {n : Nat} {R : Nat → Nat → Bool}

theorem Pre.same_comp (P : Pre n R) {a b : Nat} (ha : a < n) (hb : b < n) (h : ix n R a = ix n R b) : a = b ∨ (R a b = true ∧ R b a = true) := by
  obtain ⟨hi, hma⟩ := P.ix_at ha
  obtain ⟨hj, hmb⟩ := P.ix_at hb
  have hmb' : (b : Int) ∈ (compsL n R)[ix n R a] := by simp only [h]; exact hmb
  obtain ⟨z, hz, e⟩ := P.from_ (List.getElem_mem hi)
  rw [e] at hma hmb'
  obtain ⟨a', ea, _, hca⟩ := mem_members.1 hma
  obtain ⟨b', eb, _, hcb⟩ := mem_members.1 hmb'
  have ea : a = a' := by omega
  have eb : b = b' := by omega
  subst ea eb
  exact (compS_iff.1 (P.comp_trans (comp_symm hz hca) hcb)).2

theorem Pre.lev_up (P : Pre n R) {a b : Nat} (h : standR R b a = 1) : levelsL n R b + 1 ≤ levelsL n R a := by
  obtain ⟨hne, h1, h2⟩ := standR_one.1 h
  have hab := P.inside _ _ h1
  have har := P.arrow h1
  have hne2 : ix n R b ≠ ix n R a := fun e => by
    rcases P.same_comp hab.1 hab.2 e with e | ⟨_, e⟩
    · exact hne e
    · rw [e] at h2; cases h2
  exact har.2.2 (by omega)

theorem levTo_hit {f : Nat → Nat} {z : Nat} : ∀ m, levTo R f z m = 0 ∨ ∃ b < m, standR R b z = 1 ∧ levTo R f z m = f b + 1
  | 0 => .inl rfl
  | m + 1 => by
    rw [levTo]
    by_cases h : standR R m z = 1
    · rw [if_pos h]
      rcases levTo_hit (f := f) (z := z) m with h0 | ⟨b, hb, hs, e⟩
      · rw [h0]; exact .inr ⟨m, by omega, h, by omega⟩
      · rcases Nat.le_total (levTo R f z m) (f m + 1) with hle | hle
        · exact .inr ⟨m, by omega, h, by omega⟩
        · exact .inr ⟨b, by omega, hs, by omega⟩
    · rw [if_neg h]
      rcases levTo_hit (f := f) (z := z) m with h0 | ⟨b, hb, hs, e⟩
      · exact .inl h0
      · exact .inr ⟨b, by omega, hs, e⟩

theorem Pre.lev_down (P : Pre n R) {a : Nat} (ha : a < n) : levelsL n R a = 0 ∨ ∃ b < n, standR R b a = 1 ∧ levelsL n R b + 1 = levelsL n R a := by
  obtain ⟨hi, hma⟩ := P.ix_at ha
  have la := P.lev_at hi hma (compsL n R).length hi (Nat.le_refl _)
  rw [List.take_length] at la
  have hz : ∃ z : Nat, ((compsL n R)[ix n R a].headD 0).toNat = z ∧ (z : Int) ∈ (compsL n R)[ix n R a] := by
    obtain ⟨q, hq, el⟩ := P.from_ (List.getElem_mem hi)
    cases hl : (compsL n R)[ix n R a] with
    | nil => rw [hl] at hma; simp at hma
    | cons x r =>
      have hx : x ∈ members (compS n R q) := by rw [← el, hl]; simp
      obtain ⟨k, hk, _⟩ := mem_members.1 hx
      subst hk
      exact ⟨k, by simp, by simp⟩
  obtain ⟨z, ez, hzm⟩ := hz
  rw [ez] at la
  have hzn : z < n := by
    obtain ⟨q, hq, el⟩ := P.from_ (List.getElem_mem hi)
    rw [el] at hzm
    obtain ⟨k, hk, _, hc⟩ := mem_members.1 hzm
    have : z = k := by omega
    subst this
    exact (compS_iff.1 hc).1
  have hzi : ix n R z = ix n R a := P.ix_eq hzn hi hzm
  unfold levelsL
  rcases levTo_hit (R := R) (f := levF n R ((compsL n R).take (ix n R a)) fun _ => 0) (z := z) n with h0 | ⟨b, hb, hs, e⟩
  · rw [la]; exact .inl h0
  · right
    obtain ⟨hne, h1, h2⟩ := standR_one.1 hs
    have hsa : standR R b a = 1 := by
      rcases P.same_comp hzn ha hzi with e | ⟨ea, eb⟩
      · subst e; exact hs
      · refine standR_one.2 ⟨fun e => ?_, P.trans _ _ _ h1 ea, ?_⟩
        · subst e; rw [ea] at h2; cases h2
        · cases hx : R a b with
          | false => rfl
          | true => rw [P.trans _ _ _ ea hx] at h2; cases h2
    refine ⟨b, hb, hsa, ?_⟩
    have har := P.arrow h1
    have hne2 : ix n R b ≠ ix n R z := fun e => by
      rcases P.same_comp hb hzn e with e | ⟨_, e⟩
      · exact hne e
      · rw [e] at h2; cases h2
    have hlt : ix n R b < ix n R a := by have := har.1; omega
    obtain ⟨hj, hmb⟩ := P.ix_at hb
    have lb1 := P.lev_at hj hmb (compsL n R).length hj (Nat.le_refl _)
    have lb2 := P.lev_at hj hmb (ix n R a) hlt (Nat.le_of_lt hi)
    rw [List.take_length] at lb1
    rw [la, e, lb2, lb1]

theorem Pre.lev_all (P : Pre n R) : ∀ (m a : Nat), a < n → levelsL n R a = m → ∀ k ≤ m, ∃ b < n, levelsL n R b = k
  | 0, a, ha, h, k, hk => ⟨a, ha, by omega⟩
  | m + 1, a, ha, h, k, hk => by
    by_cases e : k = m + 1
    · exact ⟨a, ha, by omega⟩
    · rcases P.lev_down ha with h0 | ⟨b, hb, _, hl⟩
      · omega
      · exact P.lev_all m b hb (by omega) k (by omega)

theorem Pre.lev_count (P : Pre n R) {m a : Nat} (ha : a < n) (h : levelsL n R a = m) : ∀ k, k ≤ m + 1 → k ≤ ((List.range n).filter fun y => decide (levelsL n R y < k)).length
  | 0, _ => Nat.zero_le _
  | k + 1, hk => by
    have ih := P.lev_count ha h k (by omega)
    obtain ⟨y, hyn, hy⟩ := P.lev_all m a ha h k (by omega)
    have := filter_lt (p := fun y => decide (levelsL n R y < k)) (q := fun y => decide (levelsL n R y < k + 1)) (List.range n) (fun z hz => by
      have := of_decide_eq_true hz
      exact decide_eq_true (by omega)) (List.mem_range.2 hyn) (decide_eq_false (by omega)) (decide_eq_true (by omega))
    omega

theorem Pre.lev_le (P : Pre n R) {a : Nat} (ha : a < n) : levelsL n R a ≤ n := by
  have h1 := P.lev_count ha rfl (levelsL n R a + 1) (Nat.le_refl _)
  have h2 := List.length_filter_le (fun y => decide (levelsL n R y < levelsL n R a + 1)) (List.range n)
  rw [List.length_range] at h2
  omega

/-- The reference's rounds: behind 'r' of them, and in the next one before the pair (a, b). -/
structure Rounds (n : Nat) (R : Nat → Nat → Bool) (r a b : Nat) (f : Nat → Nat) : Prop where
  le : ∀ x < n, f x ≤ levelsL n R x
  low : ∀ x < n, levelsL n R x ≤ r → f x = levelsL n R x
  row : ∀ x < n, x < a → levelsL n R x ≤ r + 1 → f x = levelsL n R x
  col : ∀ y < b, standR R y a = 1 → levelsL n R y ≤ r → levelsL n R y + 1 ≤ f a

theorem Rounds.start (_ : Pre n R) : Rounds n R 0 0 0 fun _ => 0 :=
  ⟨fun _ _ => Nat.zero_le _, fun x _ h => by show 0 = _; omega, fun _ _ h => absurd h (Nat.not_lt_zero _), fun _ h => absurd h (Nat.not_lt_zero _)⟩

theorem Rounds.skip {r a b : Nat} {f : Nat → Nat} (h : Rounds n R r a b f) (hs : ¬ standR R b a = 1) : Rounds n R r a (b + 1) f :=
  ⟨h.le, h.low, h.row, fun y hy h1 h2 => by
    rcases Nat.lt_or_ge y b with h3 | h3
    · exact h.col y h3 h1 h2
    · obtain rfl : y = b := by omega
      exact absurd h1 hs⟩

theorem Rounds.step (P : Pre n R) {r a b : Nat} {f : Nat → Nat} (h : Rounds n R r a b f) (hb : b < n) (hs : standR R b a = 1) : Rounds n R r a (b + 1) fun x => if x = a then max (f a) (f b + 1) else f x := by
  have hup := P.lev_up hs
  have hab := P.inside _ _ (standR_one.1 hs).2.1
  have h1 := h.le a hab.2
  have h2 := h.le b hb
  have le' : ∀ x < n, (if x = a then max (f a) (f b + 1) else f x) ≤ levelsL n R x := fun x hx => by
    split
    · rename_i e; subst e; omega
    · exact h.le x hx
  have ge' : ∀ x, f x ≤ if x = a then max (f a) (f b + 1) else f x := fun x => by
    split
    · rename_i e; subst e; omega
    · exact Nat.le_refl _
  refine ⟨le', fun x hx hl => ?_, fun x hx hxa hl => ?_, fun y hy hsy hl => ?_⟩
  · have := le' x hx; have := ge' x; have := h.low x hx hl; show (if x = a then _ else _) = _; omega
  · have := le' x hx; have := ge' x; have := h.row x hx hxa hl; show (if x = a then _ else _) = _; omega
  · show _ ≤ (if a = a then max (f a) (f b + 1) else f a)
    rw [if_pos rfl]
    rcases Nat.lt_or_ge y b with h3 | h3
    · have := h.col y h3 hsy hl; omega
    · obtain rfl : y = b := by omega
      have := h.low y hb hl; omega

theorem Rounds.line (P : Pre n R) {r a : Nat} {f : Nat → Nat} (h : Rounds n R r a n f) (ha : a < n) : Rounds n R r (a + 1) 0 f :=
  ⟨h.le, h.low, fun x hx hxa hl => by
    rcases Nat.lt_or_ge x a with h3 | h3
    · exact h.row x hx h3 hl
    · obtain rfl : x = a := by omega
      have h1 := h.le x hx
      by_cases hl2 : levelsL n R x ≤ r
      · exact h.low x hx hl2
      · rcases P.lev_down hx with h0 | ⟨b, hb, hs, hlb⟩
        · omega
        · have := h.col b hb hs (by omega)
          omega, fun _ h => absurd h (Nat.not_lt_zero _)⟩

theorem Rounds.next {r : Nat} {f : Nat → Nat} (h : Rounds n R r n 0 f) : Rounds n R (r + 1) 0 0 f :=
  ⟨h.le, fun x hx hl => h.row x hx hx hl, fun _ _ h => absurd h (Nat.not_lt_zero _), fun _ h => absurd h (Nat.not_lt_zero _)⟩
end

set_option maxRecDepth 100000 in
theorem refLevels_spec {N : Int} {A : Option Addr} {xs : List Arrow} {c : Nat} {w : World} (h : HRel w N A xs c) :
    CallsV C.P 46 #[relVal N A xs.length c] w fun v w' => NewInts w w' v (levelsV N xs) ∧ Ext w w' := by
  refine callsV_of C_ok (args := [_]) (plans := plans46) Try.func46 rfl Try.ntmps46 (by kernel_rfl) (Nat.le_of_ble_eq_true rfl) ?_
  intro g1 w1 h1
  have M1 := (Mem.start w).alloc h1
  refine ⟨[.int .i64 N, .slice A xs.length c], rfl, M1.rd 0 rfl, ?_⟩
  refine (refCheck_spec (h.ext M1.ext)).mono ?_
  rintro v w2 ⟨rfl, e2⟩
  have M2 := M1.grow e2
  refine brE_mk (fun hb0 => ?_) (fun hb0 => ?_)
  · have hv : chk N xs ≠ 0 := by simpa using hb0
    rw [levelsV, if_neg hv]
    exact ⟨World.ownsRow_nil _ _ _ _, M2.ext⟩
  have hv : chk N xs = 0 := by simpa using hb0
  have hok := valid_of_chk hv
  have hhi := hok.hi
  rw [levelsV, if_pos hv]
  obtain ⟨n, rfl⟩ := Int.eq_ofNat_of_zero_le hok.lo
  have hn : n ≤ 24 := by omega
  refine ⟨[.int .i64 n, .slice A xs.length c], rfl, M2.rd 0 rfl, ?_⟩
  refine (Reach_spec (h.ext M2.ext) hok).mono ?_
  rintro v w4 ⟨rfl, e4⟩
  have M4 := M2.grow e4
  intro g3 w5 h5
  have M5 := M4.alloc h5
  refine ⟨mat_size _, _, _, M5.get 0 rfl, Nat.le_of_ble_eq_true rfl, bools_one 576 _, ?_⟩
  intro w6 h6
  have h6 : Put w5 g3 (.cells (mat (reach (toM xs))).toArray 93 (0, 0)) w6 := by
    have := mat_copy (reach (toM xs)) fun _ _ => false
    rw [← mat_zero] at this
    rw [← this]; exact h6
  have M6 := M5.put 0 rfl h6
  refine ⟨_, M6.cell 1 rfl rfl, ?_⟩
  refine ⟨n, n, rfl, rfl, Nat.le_refl _, by omega, by omega, rfl, rfl, rfl, rfl, ?_⟩
  intro go w7 h7
  have h7 : Alloc w6 go (.cells (ints (natsN n fun _ => 0)).toArray 3 (0, 0)) w7 := by rw [← zeros_natsN]; exact h7
  have M7 := M6.alloc h7
  rw [show (n : Int).toNat = n from rfl]
  have P := pre_reach hn hok.inside
  generalize reach (toM xs) = R at *
  have hlev : ∀ x < n, levelsL n R x ≤ 24 := fun x hx => Nat.le_trans (P.lev_le hx) hn
  refine loopE C_ok (fun (s : Nat × (Nat → Nat)) => [(1, .pointer (some ⟨g1, 0, none⟩)), (3, .pointer (some ⟨g3, 0, none⟩)), (4, .slice (some ⟨go, 0, none⟩) n n), (5, .int .i64 s.1)])
    (fun s w' => s.1 ≤ n ∧ Rounds n R s.1 0 0 s.2 ∧ Mem w w' [(go, .cells (ints (natsN n s.2)).toArray 3 (0, 0)), (g3, .cells (mat R).toArray 93 (0, 0)), (g1, .cells #[.int .i64 n, .slice A xs.length c] 24 (0, 0))]) (fun s => n - s.1) (0, fun _ => 0)
    ⟨rfl, rfl, rfl, rfl, trivial⟩ ⟨Nat.zero_le _, Rounds.start P, M7⟩ ?_
  rintro ⟨r, f⟩ w8 ⟨hr, hR, M8⟩
  have hr : r ≤ n := hr
  refine ⟨_, M8.cell 2 rfl rfl, ?_⟩
  refine brE_dec (fun hlt => ?_) (fun hge => ?_)
  · have hlt : r < n := by have : (r : Int) < n := hlt; omega
    refine loopE C_ok (fun (s : Nat × (Nat → Nat)) => [(1, .pointer (some ⟨g1, 0, none⟩)), (3, .pointer (some ⟨g3, 0, none⟩)), (4, .slice (some ⟨go, 0, none⟩) n n), (5, .int .i64 r), (6, .int .i64 s.1)])
      (fun s w' => s.1 ≤ n ∧ Rounds n R r s.1 0 s.2 ∧ Mem w w' [(go, .cells (ints (natsN n s.2)).toArray 3 (0, 0)), (g3, .cells (mat R).toArray 93 (0, 0)), (g1, .cells #[.int .i64 n, .slice A xs.length c] 24 (0, 0))]) (fun s => n - s.1) (0, f)
      ⟨rfl, rfl, rfl, rfl, rfl, trivial⟩ ⟨Nat.zero_le _, hR, M8⟩ ?_
    rintro ⟨a, f⟩ w9 ⟨ha, hR, M9⟩
    have ha : a ≤ n := ha
    refine ⟨_, M9.cell 2 rfl rfl, ?_⟩
    refine brE_dec (fun hlta => ?_) (fun hgea => ?_)
    · have hlta : a < n := by have : (a : Int) < n := hlta; omega
      refine loopE C_ok (fun (s : Nat × (Nat → Nat)) => [(1, .pointer (some ⟨g1, 0, none⟩)), (3, .pointer (some ⟨g3, 0, none⟩)), (4, .slice (some ⟨go, 0, none⟩) n n), (5, .int .i64 r), (6, .int .i64 a), (7, .int .i64 s.1)])
        (fun s w' => s.1 ≤ n ∧ Rounds n R r a s.1 s.2 ∧ Mem w w' [(go, .cells (ints (natsN n s.2)).toArray 3 (0, 0)), (g3, .cells (mat R).toArray 93 (0, 0)), (g1, .cells #[.int .i64 n, .slice A xs.length c] 24 (0, 0))]) (fun s => n - s.1) (0, f)
        ⟨rfl, rfl, rfl, rfl, rfl, rfl, trivial⟩ ⟨Nat.zero_le _, hR, M9⟩ ?_
      rintro ⟨b, f⟩ w10 ⟨hb, hR, M10⟩
      have hb : b ≤ n := hb
      have hR : Rounds n R r a b f := hR
      refine ⟨_, M10.cell 2 rfl rfl, ?_⟩
      refine brE_dec (fun hltb => ?_) (fun hgeb => ?_)
      · have hltb : b < n := by have : (b : Int) < n := hltb; omega
        have next : IntKind.i64.wrap ((b : Int) + 1) = ((b + 1 : Nat) : Int) := fit ⟨by omega, by omega⟩
        refine ⟨b, rfl, (by omega : b < 24), ?_⟩
        refine ⟨a, rfl, (by omega : a < 24), ?_⟩
        refine ⟨_, mat_cell (M10.get 1 rfl) (by omega) (by omega), ?_⟩
        refine brE_mk (fun r1 => ?_) (fun r1 => ?_)
        · refine ⟨a, rfl, (by omega : a < 24), ?_⟩
          refine ⟨b, rfl, (by omega : b < 24), ?_⟩
          refine ⟨_, mat_cell (M10.get 1 rfl) (by omega) (by omega), ?_⟩
          refine brE_mk (fun r2 => ?_) (fun r2 => ?_)
          · have r2 : R a b = false := by simpa using r2
            have hs : standR R b a = 1 := standR_one.2 ⟨(fun e => by subst e; rw [r1] at r2; cases r2), r1, r2⟩
            have hfa := hR.le a hlta
            have hfb := hR.le b hltb
            have hla := hlev a hlta
            have hlb := hlev b hltb
            have ca : w10.cell? ⟨go, 0 + a * 1, none⟩ = some (.int .i64 (f a : Nat)) := by
              have := (M10.rd 0 rfl) a _ (natsN_get hlta f)
              simpa using this
            have cb : w10.cell? ⟨go, 0 + b * 1, none⟩ = some (.int .i64 (f b : Nat)) := by
              have := (M10.rd 0 rfl) b _ (natsN_get hltb f)
              simpa using this
            refine ⟨a, go, 0, rfl, hlta, rfl, ?_⟩
            refine ⟨_, ca, ?_⟩
            refine ⟨b, go, 0, rfl, hltb, rfl, ?_⟩
            refine ⟨_, cb, ?_⟩
            refine ⟨((f b + 1 : Nat) : Int), fit ⟨by omega, by omega⟩, ?_⟩
            have hmax : (if ((f b + 1 : Nat) : Int) > ((f a : Nat) : Int) then ((f b + 1 : Nat) : Int) else ((f a : Nat) : Int)) = ((max (f a) (f b + 1) : Nat) : Int) := by split <;> omega
            refine ⟨_, maxQ' hmax rfl rfl rfl, ?_⟩
            refine ⟨a, go, 0, rfl, hlta, rfl, ?_⟩
            refine ⟨rfl, _, _, M10.get 0 rfl, by rw [ints_length, natsN_length]; show 0 + a * 1 + 1 ≤ n; omega, rfl, ?_⟩
            intro w11 h11
            have e11 : splice (ints (natsN n f)) (0 + a * 1) [.int .i64 (max (f a) (f b + 1) : Nat)] = ints (natsN n fun x => if x = a then max (f a) (f b + 1) else f x) := by
              rw [Nat.zero_add, Nat.mul_one]
              exact natsN_set hlta f _
            have h11 : Put w10 go (.cells (ints (natsN n fun x => if x = a then max (f a) (f b + 1) else f x)).toArray 3 (0, 0)) w11 := by rw [← e11]; exact h11
            refine ⟨_, next, ?_⟩
            exact ⟨(b + 1, fun x => if x = a then max (f a) (f b + 1) else f x), ⟨rfl, rfl, rfl, rfl, rfl, rfl, trivial⟩, ⟨hltb, hR.step P hltb hs, M10.put 0 rfl h11⟩, by show n - (b + 1) < n - b; omega⟩
          · have r2 : R a b = true := by simpa using r2
            refine ⟨_, next, ?_⟩
            exact ⟨(b + 1, f), ⟨rfl, rfl, rfl, rfl, rfl, rfl, trivial⟩, ⟨hltb, hR.skip (fun hs => by rw [(standR_one.1 hs).2.2] at r2; cases r2), M10⟩, by show n - (b + 1) < n - b; omega⟩
        · refine ⟨_, next, ?_⟩
          exact ⟨(b + 1, f), ⟨rfl, rfl, rfl, rfl, rfl, rfl, trivial⟩, ⟨hltb, hR.skip (fun hs => by rw [(standR_one.1 hs).2.1] at r1; cases r1), M10⟩, by show n - (b + 1) < n - b; omega⟩
      · have : b = n := by have : ¬ (b : Int) < n := hgeb; omega
        subst this
        refine ⟨((a + 1 : Nat) : Int), fit ⟨by omega, by omega⟩, ?_⟩
        exact ⟨(a + 1, f), ⟨rfl, rfl, rfl, rfl, rfl, trivial⟩, ⟨hlta, hR.line P hlta, M10⟩, by show b - (a + 1) < b - a; omega⟩
    · have : a = n := by have : ¬ (a : Int) < n := hgea; omega
      subst this
      refine ⟨((r + 1 : Nat) : Int), fit ⟨by omega, by omega⟩, ?_⟩
      exact ⟨(r + 1, f), ⟨rfl, rfl, rfl, rfl, trivial⟩, ⟨hlt, Rounds.next hR, M9⟩, by show a - (r + 1) < a - r; omega⟩
  · have : r = n := by have : ¬ (r : Int) < n := hge; omega
    subst this
    have hR : Rounds r R r 0 0 f := hR
    have e : natsN r (levelsL r R) = natsN r f := natsN_congr fun k hk => (hR.low k hk (P.lev_le hk)).symm
    refine ⟨?_, M8.ext⟩
    rw [e]
    have := owns_block (base := w.heap.size) (n := r) (size := 1) (M8.get 0 rfl) (M8.new 0 rfl) (by rw [ints_length, natsN_length]; omega) (by simp only [maxLen]; omega)
    show w8.ownsRow _ _ _ _ _ _
    rw [natsN_length]
    exact this

theorem refFirst_spec {N : Int} {A : Option Addr} {xs : List Arrow} {c : Nat} {w : World} (h : HRel w N A xs c) :
    CallsV C.P 48 #[relVal N A xs.length c] w fun v w' => NewInts w w' v (firstL N xs) ∧ Ext w w' := by
  refine callsV_of C_ok (args := [_]) (plans := []) Try.func48 rfl Try.ntmps48 (by kernel_rfl) (Nat.le_of_ble_eq_true rfl) ?_
  intro g1 w1 h1
  have M1 := (Mem.start w).alloc h1
  refine ⟨[.int .i64 N, .slice A xs.length c], rfl, M1.rd 0 rfl, ?_⟩
  refine (refLevels_spec (h.ext M1.ext)).mono ?_
  rintro v w2 ⟨hn, e2⟩
  have M2 := M1.grow e2
  have hlen := levelsV_length N xs
  unfold firstL
  generalize levelsV N xs = l at *
  obtain ⟨A2, c2, rfl, hr2, _⟩ := hn.slice
  refine loopE C_ok (fun (s : Nat × Value) => [(3, .slice A2 l.length c2), (4, s.2), (5, .int .i64 s.1)])
    (fun s w' => s.1 ≤ l.length ∧ Ext w w' ∧ Reads w' A2 (ints l) ∧ NewInts w2 w' s.2 (firstTo l s.1) ∧ Ext w2 w') (fun s => l.length - s.1) (0, .slice none 0 0)
    ⟨rfl, rfl, rfl, trivial⟩ ⟨Nat.zero_le _, M2.ext, hr2, World.ownsRow_nil _ _ _ _, Ext.refl _⟩ ?_
  rintro ⟨i, v⟩ w3 ⟨hi, E3, hr3, ho, e23⟩
  have hi : i ≤ l.length := hi
  have ho : NewInts w2 w3 v (firstTo l i) := ho
  refine brE_dec (fun hlt => ?_) (fun hge => ?_)
  · have hlt : i < l.length := by have : (i : Int) < (l.length : Nat) := hlt; omega
    obtain ⟨b, o, hA, hc⟩ := Reads.int hr3 hlt
    have next : IntKind.i64.wrap ((i : Int) + 1) = ((i + 1 : Nat) : Int) := fit ⟨by omega, by omega⟩
    have hsu := firstTo_succ hlt
    have hfl := firstTo_length l i
    refine ⟨i, b, o, rfl, hlt, hA, ?_⟩
    refine ⟨_, by simpa using hc, ?_⟩
    refine brE_dec (fun h0 => ?_) (fun h0 => ?_)
    · have h0 : l[i] = 0 := h0
      rw [if_pos h0] at hsu
      intro g4 w4 h4
      have ho4 : w4.ownsRow w2.heap.size 3 1 v (firstTo l i).length (ints (firstTo l i)) := ownsRow_ext ho h4.ext
      refine ⟨rfl, rfl, rfl, w2.heap.size, _, _, [.int .i64 i], ho4, (e23.trans h4.ext).size, Nat.lt_add_one 0, rfl, rfl, .inr ⟨g4, 0, rfl, Rd.of_block h4.here⟩, rfl, rfl, by omega, by simp only [maxLen]; omega, ?_⟩
      intro v5 w5 ho5 hg5 _
      have e25 := app_ext (e23.trans h4.ext) ho4 hg5
      refine ⟨_, next, ?_⟩
      refine ⟨(i + 1, v5), ⟨rfl, rfl, rfl, trivial⟩, ⟨hlt, M2.ext.trans e25, hr2.ext e25, ?_, e25⟩, by show l.length - (i + 1) < l.length - i; omega⟩
      show w5.ownsRow _ _ _ _ _ _
      rw [hsu, List.length_append, ints_append]
      exact ho5
    · have h0 : ¬ l[i] = 0 := h0
      rw [if_neg h0] at hsu
      refine ⟨_, next, ?_⟩
      refine ⟨(i + 1, v), ⟨rfl, rfl, rfl, trivial⟩, ⟨hlt, E3, hr3, ?_, e23⟩, by show l.length - (i + 1) < l.length - i; omega⟩
      show w3.ownsRow _ _ _ _ _ _
      rw [hsu]
      exact ho
  · have : i = l.length := by have : ¬ (i : Int) < (l.length : Nat) := hge; omega
    subst this
    exact ⟨ownsRow_base ho M2.ext.size, E3⟩

end Go.Proofs.Ytdfhfehlmonjjaa

namespace Go.Proofs.Ytdfhfehlmonjjaa
open Go.Eng Go.RowKit

theorem range_single {y : Nat} : ∀ {n : Nat}, y < n → (List.range n).filter (fun x => decide (x = y)) = [y]
  | 0, h => absurd h (Nat.not_lt_zero _)
  | n + 1, h => by
    rw [List.range_succ, List.filter_append]
    by_cases e : y = n
    · subst e
      have : (List.range y).filter (fun x => decide (x = y)) = [] := List.filter_eq_nil_iff.2 fun x hx => by
        have := List.mem_range.1 hx
        simp; omega
      rw [this]; simp
    · rw [range_single (n := n) (by omega)]
      have : ¬ n = y := fun h => e h.symm
      simp [this]

/-- How many of the first 'b' stand before a guest. -/
def cntTo (R : Nat → Nat → Bool) (a b : Nat) : Nat := ((List.range b).filter fun k => R k a).length
theorem cntTo_succ (R : Nat → Nat → Bool) (a b : Nat) : cntTo R a (b + 1) = if R b a then cntTo R a b + 1 else cntTo R a b := by
  unfold cntTo
  rw [List.range_succ, List.filter_append]
  by_cases h : R b a = true <;> simp [h]
theorem cntTo_le (R : Nat → Nat → Bool) (a b : Nat) : cntTo R a b ≤ b := Nat.le_trans (List.length_filter_le _ _) (by simp)

theorem settled_cnt {n : Nat} {T : Nat → Nat → Bool} (P : Pre n (reach T)) (hT : ∀ a, T a a = false) (hs : pairsL n (unsetB (reach T)) = []) {i : Nat} (hi : i < (compsL n (reach T)).flatten.length) :
    ∃ y : Nat, (compsL n (reach T)).flatten[i] = (y : Int) ∧ y < n ∧ (List.range n).filter (fun x => decide (cntTo (reach T) x n = i)) = [y] := by
  obtain ⟨hlen, hpw⟩ := P.settled hs
  generalize hF : (compsL n (reach T)).flatten = F at *
  have hirr : ∀ a, reach T a a = false := fun a => by
    rw [reach_false]
    intro hp
    have hin := P.inside a a (reach_iff.2 hp)
    have key : ∀ b, Path T a b → b = a → False := by
      intro b hb
      cases hb with
      | one h => rintro rfl; rw [hT] at h; cases h
      | step h1 h2 =>
        rename_i c
        rintro rfl
        have hne : b ≠ c := fun e => by subst e; rw [hT] at h2; cases h2
        have hc := (P.inside _ _ (reach_iff.2 h1)).2
        have r1 := reach_iff.2 h1
        have r2 : reach T c b = true := reach_iff.2 (.one h2)
        rcases settled_pair hs hin.1 hc hne with ⟨_, h⟩ | ⟨h, _⟩
        · rw [r2] at h; cases h
        · rw [r1] at h; cases h
    exact key a hp rfl
  have hp := List.pairwise_iff_getElem.1 hpw
  have hall : ∀ x ∈ F, ∃ y : Nat, x = (y : Int) ∧ y < n := by
    intro x hx
    rw [← hF] at hx
    obtain ⟨l, hl, hxl⟩ := List.mem_flatten.1 hx
    obtain ⟨z, hz, rfl⟩ := P.from_ hl
    obtain ⟨k, rfl, _, hc⟩ := mem_members.1 hxl
    exact ⟨k, rfl, (compS_iff.1 hc).1⟩
  have hmem : ∀ a < n, (a : Int) ∈ F := fun a ha => by
    obtain ⟨l, hl, hm⟩ := P.all ha
    rw [← hF]
    exact List.mem_flatten.2 ⟨l, hl, hm⟩
  -- the numbers themselves
  have hG : ∀ k (hk : k < F.length) (hk2 : k < (F.map Int.toNat).length), F[k] = ((F.map Int.toNat)[k] : Nat) := fun k hk hk2 => by
    obtain ⟨y, hy, _⟩ := hall _ (List.getElem_mem hk)
    simp [hy]
  have hord : ∀ k j (hk : k < (F.map Int.toNat).length) (hj : j < (F.map Int.toNat).length), k < j → standR (reach T) (F.map Int.toNat)[k] (F.map Int.toNat)[j] = 1 := fun k j hk hj hkj => by
    have hk' : k < F.length := by simpa using hk
    have hj' : j < F.length := by simpa using hj
    obtain ⟨a, b, ea, eb, _, _, h1⟩ := hp k j hk' hj' hkj
    rw [hG k hk' hk] at ea
    rw [hG j hj' hj] at eb
    have ea : (F.map Int.toNat)[k] = a := by omega
    have eb : (F.map Int.toNat)[j] = b := by omega
    rw [ea, eb]; exact h1
  have hGlen : (F.map Int.toNat).length = n := by simpa using hlen
  have hGmem : ∀ x, x ∈ F.map Int.toNat ↔ x < n := fun x => by
    constructor
    · intro hx
      obtain ⟨z, hz, rfl⟩ := List.mem_map.1 hx
      obtain ⟨y, rfl, hy⟩ := hall z hz
      simpa using hy
    · intro hx
      exact List.mem_map.2 ⟨_, hmem x hx, by simp⟩
  generalize F.map Int.toNat = G at *
  have hnd : G.Nodup := List.pairwise_iff_getElem.2 fun k j hk hj hkj e => by
    have := (standR_one.1 (hord k j hk hj hkj)).1
    exact this e
  have hperm : G.Perm (List.range n) := (List.perm_ext_iff_of_nodup hnd List.nodup_range).2 fun x => by rw [hGmem, List.mem_range]
  have hcnt : ∀ k (hk : k < G.length), cntTo (reach T) G[k] n = k := fun k hk => by
    unfold cntTo
    rw [← (hperm.filter _).length_eq]
    have e : G = G.take k ++ G.drop k := (List.take_append_drop k G).symm
    have h1 : (G.take k).filter (fun x => reach T x G[k]) = G.take k := List.filter_eq_self.2 fun x hx => by
      obtain ⟨j, hj, rfl⟩ := List.getElem_of_mem hx
      rw [List.length_take] at hj
      rw [List.getElem_take]
      exact (standR_one.1 (hord j k (by omega) hk (by omega))).2.1
    have h2 : (G.drop k).filter (fun x => reach T x G[k]) = [] := List.filter_eq_nil_iff.2 fun x hx => by
      obtain ⟨j, hj, rfl⟩ := List.getElem_of_mem hx
      rw [List.length_drop] at hj
      rw [List.getElem_drop]
      by_cases e : j = 0
      · subst e
        simp only [Nat.add_zero, hirr]; decide
      · have := (standR_one.1 (hord k (k + j) hk (by omega) (by omega))).2.2
        rw [this]; decide
    have e2 : G.filter (fun x => reach T x G[k]) = (G.take k).filter (fun x => reach T x G[k]) ++ (G.drop k).filter (fun x => reach T x G[k]) := by
      rw [← List.filter_append, List.take_append_drop]
    rw [e2, h1, h2, List.append_nil, List.length_take]
    omega
  have hi' : i < G.length := by omega
  refine ⟨G[i], hG i hi hi', (hGmem _).1 (List.getElem_mem hi'), ?_⟩
  rw [← range_single ((hGmem _).1 (List.getElem_mem hi'))]
  apply List.filter_congr
  intro x hx
  rw [decide_eq_decide]
  obtain ⟨j, hj, rfl⟩ := List.getElem_of_mem ((hGmem x).2 (List.mem_range.1 hx))
  rw [hcnt j hj]
  constructor
  · rintro rfl; rfl
  · intro e
    exact (List.getElem_inj hnd).1 e

/-- The reference's list, when the guests below 'a' have been looked at in round 'k'. -/
def orderTo (R : Nat → Nat → Bool) (F : List Int) (n k a : Nat) : List Int := F.take k ++ ((List.range a).filter fun x => decide (cntTo R x n = k)).map fun (x : Nat) => (x : Int)
theorem orderTo_succ (R : Nat → Nat → Bool) (F : List Int) (n k a : Nat) : orderTo R F n k (a + 1) = if cntTo R a n = k then orderTo R F n k a ++ [(a : Int)] else orderTo R F n k a := by
  unfold orderTo
  rw [List.range_succ, List.filter_append, List.map_append]
  by_cases h : cntTo R a n = k <;> simp [h]
theorem orderTo_length (R : Nat → Nat → Bool) (F : List Int) (n k a : Nat) : (orderTo R F n k a).length ≤ k + a := by
  unfold orderTo
  rw [List.length_append, List.length_map, List.length_take]
  have := List.length_filter_le (fun x => decide (cntTo R x n = k)) (List.range a)
  rw [List.length_range] at this
  omega

theorem Valid.self {N : Int} {xs : List Arrow} (h : Valid N xs) (a : Nat) : toM xs a a = false := by
  cases hx : toM xs a a with
  | false => rfl
  | true =>
    unfold toM at hx
    obtain ⟨x, hm, hd⟩ := List.any_eq_true.1 hx
    have hd := of_decide_eq_true hd
    have := goodA_spec (h.goodAll x hm)
    omega

set_option maxRecDepth 100000 in
theorem refSettled_spec {N : Int} {A : Option Addr} {xs : List Arrow} {c : Nat} {w : World} (h : HRel w N A xs c) :
    CallsV C.P 40 #[relVal N A xs.length c] w fun v w' => (∃ u, v = .tuple #[u, .bool (settledB N xs)] ∧ NewInts w w' u (settledL N xs)) ∧ Ext w w' := by
  refine callsV_of C_ok (args := [_]) (plans := []) Try.func40 rfl Try.ntmps40 (by kernel_rfl) (Nat.le_of_ble_eq_true rfl) ?_
  intro g1 w1 h1
  have M1 := (Mem.start w).alloc h1
  refine ⟨[.int .i64 N, .slice A xs.length c], rfl, M1.rd 0 rfl, ?_⟩
  refine (refUnsettled_spec (h.ext M1.ext)).mono ?_
  rintro v w2 ⟨⟨u, rfl, hp⟩, e2⟩
  have M2 := M1.grow e2
  refine brE_mk (fun hb0 => ?_) (fun hb0 => ?_)
  · have hv : chk N xs ≠ 0 := by simpa using hb0
    refine ⟨⟨.slice none 0 0, ?_, ?_⟩, M2.ext⟩
    · simp [settledB, hv]
    · simp [settledL, settledB, hv]; exact World.ownsRow_nil _ _ _ _
  have hv : chk N xs = 0 := by simpa using hb0
  obtain ⟨A3, c3, rfl, _, _⟩ := reads_of_owns hp
  refine brE_dec (fun hg => ?_) (fun hg => ?_)
  · have : unsetL N xs ≠ [] := by intro e; rw [e] at hg; simp at hg
    refine ⟨⟨.slice none 0 0, ?_, ?_⟩, M2.ext⟩
    · simp [settledB, this]
    · simp [settledL, settledB, this]; exact World.ownsRow_nil _ _ _ _
  have hun : unsetL N xs = [] := by
    cases hx : unsetL N xs with
    | nil => rfl
    | cons a l => rw [hx] at hg; simp at hg
  have hs : settledB N xs = true := by simp [settledB, hv, hun]
  have hok := valid_of_chk hv
  have hhi := hok.hi
  rw [hs, settledL, if_pos hs, compsV, if_pos hv]
  obtain ⟨n, rfl⟩ := Int.eq_ofNat_of_zero_le hok.lo
  have hn : n ≤ 24 := by omega
  rw [show (n : Int).toNat = n from rfl]
  have P := pre_reach hn hok.inside
  have hpl : pairsL n (unsetB (reach (toM xs))) = [] := by
    rw [unsetL, if_pos hv] at hun
    exact hun
  have hF := fun i hi => settled_cnt P (fun a => hok.self a) hpl (i := i) hi
  have hFl := (P.settled hpl).1
  refine ⟨[.int .i64 n, .slice A xs.length c], rfl, M2.rd 0 rfl, ?_⟩
  refine (Reach_spec (h.ext M2.ext) hok).mono ?_
  rintro v w4 ⟨rfl, e4⟩
  have M4 := M2.grow e4
  intro g6 w5 h5
  have M5 := M4.alloc h5
  refine ⟨mat_size _, _, _, M5.get 0 rfl, Nat.le_of_ble_eq_true rfl, bools_one 576 _, ?_⟩
  intro w6 h6
  have h6 : Put w5 g6 (.cells (mat (reach (toM xs))).toArray 93 (0, 0)) w6 := by
    have := mat_copy (reach (toM xs)) fun _ _ => false
    rw [← mat_zero] at this
    rw [← this]; exact h6
  have M6 := M5.put 0 rfl h6
  clear P hpl
  generalize (compsL n (reach (toM xs))).flatten = F at *
  generalize reach (toM xs) = R at *
  refine loopE C_ok (fun (s : Nat × Value) => [(1, .pointer (some ⟨g1, 0, none⟩)), (6, .pointer (some ⟨g6, 0, none⟩)), (7, s.2), (8, .int .i64 s.1)])
    (fun s w' => s.1 ≤ n ∧ Ext w w' ∧ w'.heap[g6]? = some (.cells (mat R).toArray 93 (0, 0)) ∧ w'.heap[g1]? = some (.cells #[.int .i64 n, .slice A xs.length c] 24 (0, 0)) ∧ NewInts w w' s.2 (F.take s.1)) (fun s => n - s.1) (0, .slice none 0 0)
    ⟨rfl, rfl, rfl, rfl, trivial⟩ ⟨Nat.zero_le _, M6.ext, M6.get 0 rfl, M6.get 1 rfl, World.ownsRow_nil _ _ _ _⟩ ?_
  rintro ⟨k, v⟩ w7 ⟨hk, E7, hm, hg1, ho⟩
  have hk : k ≤ n := hk
  have ho : NewInts w w7 v (F.take k) := ho
  refine ⟨_, cell_of_block hg1 rfl, ?_⟩
  refine brE_dec (fun hlt => ?_) (fun hge => ?_)
  · have hlt : k < n := by have : (k : Int) < n := hlt; omega
    obtain ⟨y, ey, hyn, hfil⟩ := hF k (by omega)
    refine loopE C_ok (fun (s : Nat × Value) => [(1, .pointer (some ⟨g1, 0, none⟩)), (6, .pointer (some ⟨g6, 0, none⟩)), (7, s.2), (8, .int .i64 k), (9, .int .i64 s.1)])
      (fun s w' => s.1 ≤ n ∧ Ext w w' ∧ w'.heap[g6]? = some (.cells (mat R).toArray 93 (0, 0)) ∧ w'.heap[g1]? = some (.cells #[.int .i64 n, .slice A xs.length c] 24 (0, 0)) ∧ NewInts w w' s.2 (orderTo R F n k s.1)) (fun s => n - s.1) (0, v)
      ⟨rfl, rfl, rfl, rfl, rfl, trivial⟩ ⟨Nat.zero_le _, E7, hm, hg1, by show NewInts _ _ _ (orderTo R F n k 0); simp only [orderTo, List.range_zero, List.filter_nil, List.map_nil, List.append_nil]; exact ho⟩ ?_
    rintro ⟨a, v⟩ w8 ⟨ha, E8, hm, hg1, ho⟩
    have ha : a ≤ n := ha
    have ho : NewInts w w8 v (orderTo R F n k a) := ho
    refine ⟨_, cell_of_block hg1 rfl, ?_⟩
    refine brE_dec (fun hlta => ?_) (fun hgea => ?_)
    · have hlta : a < n := by have : (a : Int) < n := hlta; omega
      refine loopE C_ok (fun (b : Nat) => [(1, .pointer (some ⟨g1, 0, none⟩)), (6, .pointer (some ⟨g6, 0, none⟩)), (7, v), (8, .int .i64 k), (9, .int .i64 a), (10, .int .i64 (cntTo R a b : Nat)), (11, .int .i64 b)])
        (fun b w' => w' = w8 ∧ b ≤ n) (fun b => n - b) 0 ⟨rfl, rfl, rfl, rfl, rfl, rfl, rfl, trivial⟩ ⟨rfl, Nat.zero_le _⟩ ?_
      rintro b w9 ⟨rfl, hb⟩
      refine ⟨_, cell_of_block hg1 rfl, ?_⟩
      refine brE_dec (fun hltb => ?_) (fun hgeb => ?_)
      · have hltb : b < n := by have : (b : Int) < n := hltb; omega
        have next : IntKind.i64.wrap ((b : Int) + 1) = ((b + 1 : Nat) : Int) := fit ⟨by omega, by omega⟩
        have hcs := cntTo_succ R a b
        have hcl := cntTo_le R a b
        refine ⟨b, rfl, (by omega : b < 24), ?_⟩
        refine ⟨a, rfl, (by omega : a < 24), ?_⟩
        refine ⟨_, mat_cell hm (by omega) (by omega), ?_⟩
        refine brE_mk (fun r1 => ?_) (fun r1 => ?_)
        · rw [if_pos r1] at hcs
          refine ⟨((cntTo R a (b + 1) : Nat) : Int), by rw [hcs, fit ⟨by omega, by omega⟩]; omega, ?_⟩
          refine ⟨_, next, ?_⟩
          exact ⟨b + 1, ⟨rfl, rfl, rfl, rfl, rfl, rfl, rfl, trivial⟩, ⟨rfl, hltb⟩, by omega⟩
        · rw [if_neg (by rw [r1]; decide)] at hcs
          refine ⟨_, next, ?_⟩
          exact ⟨b + 1, ⟨rfl, rfl, rfl, rfl, rfl, by rw [hcs]; rfl, rfl, trivial⟩, ⟨rfl, hltb⟩, by omega⟩
      · have : b = n := by have : ¬ (b : Int) < n := hgeb; omega
        subst this
        have next : IntKind.i64.wrap ((a : Int) + 1) = ((a + 1 : Nat) : Int) := fit ⟨by omega, by omega⟩
        have hos := orderTo_succ R F b k a
        have hol := orderTo_length R F b k a
        refine brE_dec (fun hc => ?_) (fun hc => ?_)
        · have hc : cntTo R a b = k := by have : ((cntTo R a b : Nat) : Int) = (k : Int) := hc; omega
          rw [if_pos hc] at hos
          intro g12 w12 h12
          have ho12 : w12.ownsRow w.heap.size 3 1 v (orderTo R F b k a).length (ints (orderTo R F b k a)) := ownsRow_ext ho h12.ext
          refine ⟨rfl, rfl, rfl, w.heap.size, _, _, [.int .i64 a], ho12, (E8.trans h12.ext).size, Nat.lt_add_one 0, rfl, rfl, .inr ⟨g12, 0, rfl, Rd.of_block h12.here⟩, rfl, rfl, by omega, by simp only [maxLen]; omega, ?_⟩
          intro v13 w13 ho13 hg13 _
          have o13 := only_app ho12 hg13
          refine ⟨_, next, ?_⟩
          refine ⟨(a + 1, v13), ⟨rfl, rfl, rfl, rfl, rfl, trivial⟩, ⟨hlta, app_ext (E8.trans h12.ext) ho12 hg13, o13 _ _ _ _ (h12.ext.heap hm) (by decide), o13 _ _ _ _ (h12.ext.heap hg1) (by decide), ?_⟩, by show b - (a + 1) < b - a; omega⟩
          show w13.ownsRow _ _ _ _ _ _
          rw [hos, List.length_append, ints_append]
          exact ho13
        · have hc : ¬ cntTo R a b = k := by have : ¬ ((cntTo R a b : Nat) : Int) = (k : Int) := hc; omega
          rw [if_neg hc] at hos
          refine ⟨_, next, ?_⟩
          refine ⟨(a + 1, v), ⟨rfl, rfl, rfl, rfl, rfl, trivial⟩, ⟨hlta, E8, hm, hg1, ?_⟩, by show b - (a + 1) < b - a; omega⟩
          show NewInts _ _ _ (orderTo R F b k (a + 1))
          rw [hos]
          exact ho
    · have : a = n := by have : ¬ (a : Int) < n := hgea; omega
      subst this
      have e : orderTo R F a k a = F.take (k + 1) := by
        unfold orderTo
        rw [hfil, List.take_succ_eq_append_getElem (by omega), ey]
        rfl
      rw [e] at ho
      refine ⟨((k + 1 : Nat) : Int), fit ⟨by omega, by omega⟩, ?_⟩
      exact ⟨(k + 1, v), ⟨rfl, rfl, rfl, rfl, trivial⟩, ⟨hlt, E8, hm, hg1, ho⟩, by show a - (k + 1) < a - k; omega⟩
  · have : k = n := by have : ¬ (k : Int) < n := hge; omega
    subst this
    rw [List.take_of_length_le (by omega)] at ho
    exact ⟨⟨v, rfl, ho⟩, E7⟩


theorem RankComponents_spec {N : Int} {A : Option Addr} {xs : List Arrow} {c : Nat} {w : World} (h : HRel w N A xs c) :
    CallsV C.P 11 #[relVal N A xs.length c] w fun v w' => v = .bool true ∧ Ext w w' := by
  refine callsV_of C_ok (args := [_]) (plans := plans11) Try.func11 rfl Try.ntmps11 (by kernel_rfl) (Nat.le_of_ble_eq_true rfl) ?_
  intro g1 w1 h1
  have M1 := (Mem.start w).alloc h1
  refine ⟨[.int .i64 N, .slice A xs.length c], rfl, M1.rd 0 rfl, ?_⟩
  refine (huge_spec w1).mono ?_
  rintro v w2 ⟨rfl, e2⟩
  have M2 := M1.grow e2
  have stop : ∀ {w' : World}, Ext w w' → CallsV C.P 16 #[] w' fun v w'' => v = .bool true ∧ Ext w w'' := fun e => (stands_spec _).mono fun v w'' hh => ⟨hh.1, e.trans hh.2⟩
  refine brE_dec (fun _ => ?_) (fun _ => ?_)
  · exact stop M2.ext
  refine ⟨[.int .i64 N, .slice A xs.length c], rfl, M2.rd 0 rfl, ?_⟩
  refine (Settled_spec (h.ext M2.ext)).mono ?_
  rintro v w3 ⟨⟨u3, rfl, hn3⟩, e3⟩
  have hl3 := ownsRow_len hn3
  obtain ⟨A3, c3, rfl, hr3, _⟩ := hn3.slice
  have M3 := M2.grow e3
  refine ⟨[.int .i64 N, .slice A xs.length c], rfl, M3.rd 0 rfl, ?_⟩
  refine (refSettled_spec (h.ext M3.ext)).mono ?_
  rintro v w4 ⟨⟨u4, rfl, hn4⟩, e4⟩
  obtain ⟨A4, c4, rfl, hr4, _⟩ := hn4.slice
  have M4 := M3.grow e4
  refine ⟨[.int .i64 N, .slice A xs.length c], rfl, M4.rd 0 rfl, ?_⟩
  refine (Unsettled_spec (h.ext M4.ext)).mono ?_
  rintro v w5 ⟨⟨u5, rfl, hn5⟩, e5⟩
  have hl5 := ownsRow_len hn5
  obtain ⟨A5, c5, rfl, hr5, _⟩ := reads_of_owns hn5
  have M5 := M4.grow e5
  refine ⟨[.int .i64 N, .slice A xs.length c], rfl, M5.rd 0 rfl, ?_⟩
  refine (refUnsettled_spec (h.ext M5.ext)).mono ?_
  rintro v w6 ⟨⟨u6, rfl, hn6⟩, e6⟩
  obtain ⟨A6, c6, rfl, hr6, _⟩ := reads_of_owns hn6
  have M6 := M5.grow e6
  refine ⟨false, neqSame4 _ _ _, ?_⟩
  refine brE_false (by simp) ?_
  refine (SameInts_spec (hr3.ext (e4.trans (e5.trans e6))) (hr4.ext (e5.trans e6)) hl3).mono ?_
  rintro v w7 ⟨hv, e7⟩
  rw [decide_eq_true rfl] at hv
  subst hv
  have M7 := M6.grow e7
  refine (SamePairs_spec (hr5.ext (e6.trans e7)) (hr6.ext e7) hl5).mono ?_
  rintro v w8 ⟨rfl, e8⟩
  have M8 := M7.grow e8
  refine (stands_spec w8).mono ?_
  rintro v w9 ⟨rfl, e9⟩
  have M9 := M8.grow e9
  have hpr := compsV_props (N := N) (xs := xs)
  have hll : ∀ l ∈ compsV N xs, l.length ≤ 9223372036854775807 := fun l hl => Nat.le_trans (hpr.2.1 l hl) (by decide)
  refine ⟨[.int .i64 N, .slice A xs.length c], rfl, M9.rd 0 rfl, ?_⟩
  refine ⟨[.int .i64 N, .slice A xs.length c], rfl, M9.rd 0 rfl, ?_⟩
  refine (Components_spec (h.ext M9.ext)).mono ?_
  rintro v w10 ⟨hl10, e10⟩
  refine ⟨e10, ?_⟩
  obtain ⟨A10, c10, us10, rfl, hR10⟩ := hl10.read
  have M10 := M9.grow e10
  refine (refComponents_spec (h.ext M10.ext)).mono ?_
  rintro v w11 ⟨hl11, e11⟩
  obtain ⟨A11, c11, us11, rfl, hR11⟩ := hl11.read
  have M11 := M10.grow e11
  refine (SameLists_spec (hR10.ext e11) hR11 (by omega) hll).mono ?_
  rintro v w12 ⟨rfl, e12⟩
  have M12 := M11.grow e12
  refine ⟨[.int .i64 N, .slice A xs.length c], rfl, M12.rd 0 rfl, ?_⟩
  refine ⟨[.int .i64 N, .slice A xs.length c], rfl, M12.rd 0 rfl, ?_⟩
  refine (Circles_spec (h.ext M12.ext)).mono ?_
  rintro v w13 ⟨hl13, e13⟩
  refine ⟨e13, ?_⟩
  obtain ⟨A13, c13, us13, rfl, hR13⟩ := hl13.read
  have M13 := M12.grow e13
  refine (refCircles_spec (h.ext M13.ext)).mono ?_
  rintro v w14 ⟨hl14, e14⟩
  obtain ⟨A14, c14, us14, rfl, hR14⟩ := hl14.read
  have M14 := M13.grow e14
  have hcl : (circlesV N xs).length ≤ 9223372036854775807 := by
    have : (circlesV N xs).length ≤ (compsV N xs).length := List.length_filter_le _ _
    omega
  refine (SameLists_spec (hR13.ext e14) hR14 hcl (fun l hl => hll l (List.mem_filter.1 hl).1)).mono ?_
  rintro v w15 ⟨rfl, e15⟩
  have M15 := M14.grow e15
  refine ⟨[.int .i64 N, .slice A xs.length c], rfl, M15.rd 0 rfl, ?_⟩
  refine ⟨[.int .i64 N, .slice A xs.length c], rfl, M15.rd 0 rfl, ?_⟩
  refine (Levels_spec (h.ext M15.ext)).mono ?_
  rintro v w16 ⟨hn16, e16⟩
  refine ⟨e16, ?_⟩
  have hl16 := ownsRow_len hn16
  obtain ⟨A16, c16, rfl, hr16, _⟩ := hn16.slice
  have M16 := M15.grow e16
  refine (refLevels_spec (h.ext M16.ext)).mono ?_
  rintro v w17 ⟨hn17, e17⟩
  obtain ⟨A17, c17, rfl, hr17, _⟩ := hn17.slice
  have M17 := M16.grow e17
  refine (SameInts_spec (hr16.ext e17) hr17 hl16).mono ?_
  rintro v w18 ⟨hv, e18⟩
  rw [decide_eq_true rfl] at hv
  subst hv
  have M18 := M17.grow e18
  refine ⟨[.int .i64 N, .slice A xs.length c], rfl, M18.rd 0 rfl, ?_⟩
  refine ⟨[.int .i64 N, .slice A xs.length c], rfl, M18.rd 0 rfl, ?_⟩
  refine (First_spec (h.ext M18.ext)).mono ?_
  rintro v w19 ⟨hn19, e19⟩
  refine ⟨e19, ?_⟩
  have hl19 := ownsRow_len hn19
  obtain ⟨A19, c19, rfl, hr19, _⟩ := hn19.slice
  have M19 := M18.grow e19
  refine (refFirst_spec (h.ext M19.ext)).mono ?_
  rintro v w20 ⟨hn20, e20⟩
  obtain ⟨A20, c20, rfl, hr20, _⟩ := hn20.slice
  have M20 := M19.grow e20
  refine (SameInts_spec (hr19.ext e20) hr20 hl19).mono ?_
  rintro v w21 ⟨hv, e21⟩
  rw [decide_eq_true rfl] at hv
  subst hv
  exact ⟨rfl, (M20.grow e21).ext⟩

end Go.Proofs.Ytdfhfehlmonjjaa
