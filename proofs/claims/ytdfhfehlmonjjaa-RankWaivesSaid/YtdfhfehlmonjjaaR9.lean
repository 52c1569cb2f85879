/- rank: the components, in their order. -/
import Derived.Test.YtdfhfehlmonjjaaR8
namespace Go.Proofs.Ytdfhfehlmonjjaa
open Go.Eng Go.RowKit

def orS (D S : Nat → Bool) : Nat → Bool := fun k => D k || S k

/-- The components, one after the other, with what is done already. -/
def compsF (n : Nat) (R : Nat → Nat → Bool) : Nat → (Nat → Bool) → List (List Int)
  | 0, _ => []
  | m + 1, D => match (List.range n).find? fun a => !(D a || precS n R a (compS n R a) D) with
    | some a => members (compS n R a) :: compsF n R m (orS D (compS n R a))
    | none => []

theorem find_range {n : Nat} {p : Nat → Bool} {a : Nat} (ha : a < n) (h : ∀ k < a, p k = false) (hp : p a = true) : (List.range n).find? p = some a := by
  have e : List.range n = List.range a ++ a :: List.range' (a + 1) (n - (a + 1)) := by
    rw [List.range_eq_range', List.range_eq_range']
    have := List.range'_append_1 (s := 0) (m := a) (n := n - a)
    rw [show a + (n - a) = n by omega] at this
    rw [← this, Nat.zero_add]
    congr 1
    rw [show n - a = (n - (a + 1)) + 1 by omega, List.range'_succ]
  rw [e, List.find?_append]
  have h1 : (List.range a).find? p = none := by
    rw [List.find?_eq_none]
    intro k hk
    rw [h k (List.mem_range.1 hk)]; decide
  rw [h1, List.find?_cons_of_pos hp]
  rfl

theorem find_range_none {n : Nat} {p : Nat → Bool} (h : ∀ k < n, p k = false) : (List.range n).find? p = none := by
  rw [List.find?_eq_none]
  intro k hk
  rw [h k (List.mem_range.1 hk)]; decide

/-- A row of rows of numbers. -/
inductive AllRows (w : World) (B : Nat) : List Value → List (List Int) → Prop
  | nil : AllRows w B [] []
  | cons {u : Value} {us : List Value} {l : List Int} {ls : List (List Int)} (h : w.ownsRow B 3 1 u l.length (ints l)) (t : AllRows w B us ls) : AllRows w B (u :: us) (l :: ls)

theorem AllRows.length {w : World} {B : Nat} {us : List Value} {ls : List (List Int)} (h : AllRows w B us ls) : us.length = ls.length := by
  induction h with
  | nil => rfl
  | cons _ _ ih => simp [ih]
theorem AllRows.only {w w' : World} {B t0 : Nat} {us : List Value} {ls : List (List Int)} (h : AllRows w B us ls) (k : Only t0 w w') (hne : 3 ≠ t0) : AllRows w' B us ls := by
  induction h with
  | nil => exact .nil
  | cons h _ ih => exact .cons (ownsRow_only h k hne) ih
theorem AllRows.snoc {w : World} {B : Nat} {us : List Value} {ls : List (List Int)} (h : AllRows w B us ls) {u : Value} {l : List Int} (hu : w.ownsRow B 3 1 u l.length (ints l)) : AllRows w B (us ++ [u]) (ls ++ [l]) := by
  induction h with
  | nil => exact .cons hu .nil
  | cons h _ ih => exact .cons h ih
theorem AllRows.at {w : World} {B : Nat} {us : List Value} {ls : List (List Int)} (h : AllRows w B us ls) : ∀ {i : Nat} (hi : i < ls.length), ∃ u, us[i]? = some u ∧ w.ownsRow B 3 1 u ls[i].length (ints ls[i]) := by
  induction h with
  | nil => intro i hi; simp at hi
  | cons h _ ih =>
    intro i hi
    cases i with
    | zero => exact ⟨_, rfl, h⟩
    | succ i =>
      obtain ⟨u, hu, ho⟩ := ih (i := i) (by simpa using hi)
      exact ⟨u, by simpa using hu, by simpa using ho⟩
theorem AllRows.base {w : World} {B B' : Nat} {us : List Value} {ls : List (List Int)} (h : AllRows w B' us ls) (hb : B ≤ B') : AllRows w B us ls := by
  induction h with
  | nil => exact .nil
  | cons h _ ih => exact .cons (ownsRow_base h hb) ih

def Lists (B : Nat) (w : World) (v : Value) (L : List (List Int)) : Prop := ∃ us, w.ownsRow B 30 1 v L.length us ∧ AllRows w B us L

theorem Lists.only {B t0 : Nat} {w w' : World} {v : Value} {L : List (List Int)} (h : Lists B w v L) (k : Only t0 w w') (h3 : 3 ≠ t0) (h30 : 30 ≠ t0) : Lists B w' v L :=
  let ⟨us, h1, h2⟩ := h
  ⟨us, ownsRow_only h1 k h30, h2.only k h3⟩

structure CompMem (B : Nat) (w : World) (g gb gd go gv n : Nat) (T R : Nat → Nat → Bool) (D : Nat → Bool) (v : Value) (L : List (List Int)) : Prop where
  size : B ≤ w.heap.size
  ge : B ≤ gb ∧ B ≤ gd ∧ B ≤ go ∧ B ≤ gv
  web : Web w g n T R
  box : w.heap[gb]? = some (.cells #[.pointer (some ⟨g, 0, none⟩)] 70 (0, 0))
  done : w.heap[gd]? = some (.cells (setCells D).toArray 76 (0, 0))
  out : w.heap[go]? = some (.cells #[v] 39 (0, 0))
  fn : w.heap[gv]? = some (.cells #[.func (.func 86) #[] #[.pointer (some ⟨gb, 0, none⟩), .pointer (some ⟨gd, 0, none⟩), .pointer (some ⟨go, 0, none⟩), .pointer (some ⟨gv, 0, none⟩)]] 1 (0, 0))
  lists : Lists B w v L

theorem CompMem.ext {B : Nat} {w w' : World} {g gb gd go gv n : Nat} {T R : Nat → Nat → Bool} {D : Nat → Bool} {v : Value} {L : List (List Int)} (h : CompMem B w g gb gd go gv n T R D v L) (e : Ext w w') : CompMem B w' g gb gd go gv n T R D v L :=
  ⟨Nat.le_trans h.size e.size, h.ge, h.web.ext e, e.heap h.box, e.heap h.done, e.heap h.out, e.heap h.fn, h.lists.only (only_ext 0 e) (by decide) (by decide)⟩

theorem comp_refl {n : Nat} {R : Nat → Nat → Bool} {a : Nat} (ha : a < n) : compS n R a a = true := by simp [compS, ha]


theorem unseen_or {D S : Nat → Bool} {a : Nat} (ha : a < 24) (hD : D a = false) (hS : S a = true) : unseen (orS D S) < unseen D := by
  have h1 := unseen_upd ha hD
  have h2 : unseen (orS D S) ≤ unseen (upd D a true) := unseen_mono fun k hk => by
    simp only [upd] at hk
    simp only [orS]
    by_cases e : k = a
    · subst e; rw [hS, Bool.or_true]
    · rw [if_neg e] at hk; rw [hk, Bool.true_or]
  omega

def markTo (D : Nat → Bool) (ys : List Int) (i : Nat) : Nat → Bool := fun k => D k || (ys.take i).any fun y => decide (y.toNat = k)

theorem markTo_zero (D : Nat → Bool) (ys : List Int) : markTo D ys 0 = D := by funext k; simp [markTo]
theorem markTo_succ (D : Nat → Bool) {ys : List Int} {i y : Nat} (hi : i < ys.length) (hy : ys[i] = (y : Int)) : upd (markTo D ys i) y true = markTo D ys (i + 1) := by
  funext k
  simp only [upd, markTo]
  rw [List.take_succ_eq_append_getElem hi, List.any_append, hy]
  by_cases e : k = y
  · subst e; simp
  · rw [if_neg e]; simp [show ¬ y = k from fun h => e h.symm]
theorem markTo_all (D S : Nat → Bool) {k : Nat} (hk : k < 24) : markTo D (members S) (members S).length k = orS D S k := by
  simp only [markTo, orS, List.take_length]
  congr 1
  rw [Bool.eq_iff_iff, members_any (p := fun y => decide (y = k))]
  constructor
  · rintro ⟨y, _, h, e⟩
    have e : y = k := of_decide_eq_true e
    subst e; exact h
  · intro h; exact ⟨k, hk, h, by simp⟩

theorem compsF_stop {n : Nat} {R : Nat → Nat → Bool} {D : Nat → Bool} (h : ∀ k < n, (D k || precS n R k (compS n R k) D) = true) : ∀ m, compsF n R m D = []
  | 0 => rfl
  | m + 1 => by
    rw [compsF, find_range_none (fun k hk => by rw [h k hk]; rfl)]

theorem compsF_next {n : Nat} {R : Nat → Nat → Bool} {D : Nat → Bool} {a : Nat} (ha : a < n) (h : ∀ k < a, (D k || precS n R k (compS n R k) D) = true) (h1 : D a = false) (h2 : precS n R a (compS n R a) D = false) (m : Nat) :
    compsF n R (m + 1) D = members (compS n R a) :: compsF n R m (orS D (compS n R a)) := by
  rw [compsF, find_range (p := fun a => !(D a || precS n R a (compS n R a) D)) ha (fun k hk => by rw [h k hk]; rfl) (by rw [h1, h2]; rfl)]

theorem ext_only (t0 : Nat) {w w' : World} (e : Ext w w') : Only t0 w w' := only_ext t0 e

theorem next_spec (m : Nat) : ∀ (B : Nat) (D : Nat → Bool) (w : World) (g gb gd go gv n : Nat) (T R : Nat → Nat → Bool) (v : Value) (L : List (List Int)), unseen D ≤ m → n ≤ 24 → L.length + unseen D ≤ 24 → CompMem B w g gb gd go gv n T R D v L →
    CallsV C.P 86 #[.pointer (some ⟨gb, 0, none⟩), .pointer (some ⟨gd, 0, none⟩), .pointer (some ⟨go, 0, none⟩), .pointer (some ⟨gv, 0, none⟩)] w fun _ w' =>
      ∃ v', Below B w w' ∧ w'.heap[go]? = some (.cells #[v'] 39 (0, 0)) ∧ Lists B w' v' (L ++ compsF n R m D) := by
  induction m using Nat.strongRecOn with
  | _ m ih =>
  intro B D w g gb gd go gv n T R v L hm hn hL hmem
  refine callsV_of C_ok (args := [_, _, _, _]) (plans := plans86) Try.func86 rfl Try.ntmps86 (by kernel_rfl) (Nat.le_of_ble_eq_true rfl) ?_
  refine ⟨_, cell_of_block hmem.box rfl, ?_⟩
  refine ⟨_, hmem.web.n, ?_⟩
  refine loopE C_ok (fun (a : Nat) => [(0, .pointer (some ⟨gb, 0, none⟩)), (1, .pointer (some ⟨gd, 0, none⟩)), (2, .pointer (some ⟨go, 0, none⟩)), (3, .pointer (some ⟨gv, 0, none⟩)), (11, .int .i64 n), (12, .int .i64 a)])
    (fun a w' => a ≤ n ∧ Ext w w' ∧ ∀ k < a, (D k || precS n R k (compS n R k) D) = true) (fun a => n - a) 0
    ⟨rfl, rfl, rfl, rfl, rfl, rfl, trivial⟩ ⟨Nat.zero_le _, Ext.refl _, fun _ h => absurd h (Nat.not_lt_zero _)⟩ ?_
  rintro a w1 ⟨ha, e1, hno⟩
  refine brE_dec (fun hlt => ?_) (fun hge => ?_)
  · have hlt : a < n := by omega
    have ha24 : a < 24 := by omega
    have m1 := hmem.ext e1
    refine ⟨_, cell_of_block m1.box rfl, ?_⟩
    refine (component_spec m1.web hn ha24).mono ?_
    rintro v2 w2 ⟨rfl, e2⟩
    intro g5 w3 h3
    refine ⟨set_size _, _, _, h3.here, Nat.le_of_ble_eq_true rfl, bools_one 24 _, ?_⟩
    intro w4 h4
    have e7 : splice (List.replicate 24 (Value.bool false)) 0 (setCells (compS n R a)) = setCells (compS n R a) := by
      unfold splice
      rw [bools_length]
      simp
    have h4 : Put w3 g5 (.cells (setCells (compS n R a)).toArray 76 (0, 0)) w4 := by rw [← e7]; exact h4
    have hg5 : w2.heap.size ≤ g5 := by rw [h3.new]; exact Nat.le_refl _
    have e4' : Ext w2 w4 := h4.ext_of h3.ext hg5
    have m4 := (m1.ext e2).ext e4'
    refine ⟨a, rfl, ha24, ?_⟩
    refine ⟨.bool (D a), cell_of_block m4.done (by simpa using bools_get ha24 D), ?_⟩
    have go1 : (D a || precS n R a (compS n R a) D) = true → ∀ k < a + 1, (D k || precS n R k (compS n R k) D) = true := by
      intro h k hk
      rcases Nat.lt_or_ge k a with h1 | h1
      · exact hno k h1
      · obtain rfl : k = a := by omega
        exact h
    have next : IntKind.i64.wrap ((a : Int) + 1) = ((a + 1 : Nat) : Int) := fit ⟨by omega, by omega⟩
    have e14 : Ext w w4 := (e1.trans e2).trans e4'
    refine brE_mk (fun hD => ?_) (fun hD => ?_)
    · refine ⟨_, next, ?_⟩
      exact ⟨a + 1, ⟨rfl, rfl, rfl, rfl, rfl, rfl, trivial⟩, ⟨hlt, e14, go1 (by rw [hD, Bool.true_or])⟩, by omega⟩
    · refine ⟨_, cell_of_block m4.box rfl, ?_⟩
      refine ⟨setCells (compS n R a), bools_length _ _, Rd.of_block h4.here, ?_⟩
      refine ⟨setCells D, bools_length _ _, Rd.of_block m4.done, ?_⟩
      refine (preceded_spec m4.web hn ha24 (compS n R a) D).mono ?_
      rintro v5 w5 ⟨rfl, e5⟩
      have m5 := m4.ext e5
      refine brE_mk (fun hP => ?_) (fun hP => ?_)
      · refine ⟨_, next, ?_⟩
        exact ⟨a + 1, ⟨rfl, rfl, rfl, rfl, rfl, rfl, trivial⟩, ⟨hlt, e14.trans e5, go1 (by rw [hP, Bool.or_true])⟩, by omega⟩
      · have hsz5 : B ≤ w5.heap.size := Nat.le_trans hmem.size (e14.trans e5).size
        obtain ⟨us, hous, hrows⟩ := m5.lists
        have own5 := e5.heap h4.here
        refine ⟨_, cell_of_block m5.out rfl, ?_⟩
        refine ⟨setCells (compS n R a), bools_length _ _, Rd.of_block own5, ?_⟩
        refine (list_spec (compS n R a) w5).mono ?_
        rintro v6 w6 ⟨hl, e6⟩
        refine ⟨e6, ?_⟩
        obtain ⟨A6, c6, rfl, hr6, hc6⟩ := hl.slice
        intro g7 w7 h7
        refine ⟨h7.ext, ?_⟩
        have e57 := e6.trans h7.ext
        have m7 := m5.ext e57
        have ho7 : w7.ownsRow B 30 1 v L.length us := ownsRow_ext hous e57
        have un1 := unseen_or ha24 hD (comp_refl (R := R) hlt)
        refine ⟨rfl, rfl, rfl, B, L.length, us, [_], ho7, Nat.le_trans hsz5 e57.size, Nat.lt_add_one 0, rfl, rfl, .inr ⟨g7, 0, rfl, Rd.of_block h7.here⟩, rfl, rfl, by omega, by simp only [maxLen]; omega, ?_⟩
        intro v8 w8 ho8 hg8 _
        obtain ⟨A8, c8, rfl, _, _⟩ := reads_of_owns ho8
        have o8 : Only 30 w7 w8 := only_app ho7 hg8
        refine ⟨rfl, _, _, o8 _ _ _ _ m7.out (by decide), Nat.le_of_ble_eq_true rfl, rfl, ?_⟩
        intro w9 h9
        have h9 : Put w8 go (.cells #[.slice A8 (L.length + 1) c8] 39 (0, 0)) w9 := h9
        have o9 : Only 39 w8 w9 := only_put h9 (o8 _ _ _ _ m7.out (by decide))
        have web9 : Web w9 g n T R := o9 _ _ _ _ (o8 _ _ _ _ m7.web (by decide)) (by decide)
        have box9 := o9 _ _ _ _ (o8 _ _ _ _ m7.box (by decide)) (by decide)
        have done9 := o9 _ _ _ _ (o8 _ _ _ _ m7.done (by decide)) (by decide)
        have fn9 := o9 _ _ _ _ (o8 _ _ _ _ m7.fn (by decide)) (by decide)
        have own9 := o9 _ _ _ _ (o8 _ _ _ _ (e57.heap own5) (by decide)) (by decide)
        have bl5 : Below B w w5 := below_ext (Below.refl _ _) (e14.trans e5) hmem.size
        have bl9 : Below B w w9 := below_put (below_app (below_ext bl5 e57 hsz5) ho7 hg8 (Nat.le_trans hsz5 e57.size)) h9 hmem.ge.2.2.1
        have hsz9 : B ≤ w9.heap.size := Nat.le_trans hmem.size bl9.size
        have lists9 : Lists B w9 (.slice A8 (L.length + 1) c8) (L ++ [members (compS n R a)]) := by
          refine ⟨us ++ [.slice A6 (members (compS n R a)).length c6], ?_, ?_⟩
          · rw [List.length_append]
            exact ownsRow_only ho8 o9 (by decide)
          · refine AllRows.snoc ((hrows.only (only_ext 0 e57) (by decide)).only o8 (by decide) |>.only o9 (by decide)) ?_
            exact ownsRow_only (ownsRow_only (ownsRow_ext (ownsRow_base hl hsz5) h7.ext) o8 (by decide)) o9 (by decide)
        refine ⟨setCells (compS n R a), bools_length _ _, Rd.of_block own9, ?_⟩
        refine (list_spec (compS n R a) w9).mono ?_
        rintro v10 w10 ⟨hl2, e10⟩
        obtain ⟨A10, c10, rfl, _, _⟩ := hl2.slice
        have hl2 : w10.ownsRow w9.heap.size 3 1 (.slice A10 (members (compS n R a)).length c10) (members (compS n R a)).length (ints (members (compS n R a))) := hl2
        have hml : (members (compS n R a)).length ≤ 24 := membersTo_length _ 24
        refine loopE C_ok (fun (i : Nat) => [(0, .pointer (some ⟨gb, 0, none⟩)), (1, .pointer (some ⟨gd, 0, none⟩)), (2, .pointer (some ⟨go, 0, none⟩)), (3, .pointer (some ⟨gv, 0, none⟩)), (34, .slice A10 (members (compS n R a)).length c10), (35, .int .i64 (members (compS n R a)).length), (36, .int .i64 i)])
          (fun i w' => i ≤ (members (compS n R a)).length ∧ Below B w w' ∧ Only 76 w10 w' ∧ w'.heap[gd]? = some (.cells (setCells (markTo D (members (compS n R a)) i)).toArray 76 (0, 0)))
          (fun i => (members (compS n R a)).length - i) 0 ⟨rfl, rfl, rfl, rfl, rfl, rfl, rfl, trivial⟩
          ⟨Nat.zero_le _, below_ext bl9 e10 hsz9, only_ext _ (Ext.refl _), by rw [markTo_zero]; exact e10.heap done9⟩ ?_
        rintro i w11 ⟨hi, bl11, o11, done11⟩
        refine brE_dec (fun hlt2 => ?_) (fun hge2 => ?_)
        · have hlt2 : i < (members (compS n R a)).length := by omega
          obtain ⟨A', c', eA, hr11, _⟩ := reads_of_owns (ownsRow_only hl2 o11 (by decide))
          cases eA
          obtain ⟨y, ey, hy24, _⟩ := members_get hlt2
          obtain ⟨b1, o1, hA1, hc1⟩ := Reads.int hr11 hlt2
          rw [ey] at hc1
          refine ⟨i, b1, o1, rfl, hlt2, hA1, ?_⟩
          refine ⟨_, by simpa using hc1, ?_⟩
          refine ⟨y, rfl, hy24, ?_⟩
          refine ⟨rfl, _, _, done11, by rw [bools_length]; show 0 + y * 1 + 1 ≤ 24; omega, rfl, ?_⟩
          intro w12 h12
          have e12 : splice (setCells (markTo D (members (compS n R a)) i)) (0 + y * 1) [.bool true] = setCells (markTo D (members (compS n R a)) (i + 1)) := by
            rw [← markTo_succ D hlt2 ey]
            have := bools_set hy24 (markTo D (members (compS n R a)) i) true
            simpa using this
          have h12 : Put w11 gd (.cells (setCells (markTo D (members (compS n R a)) (i + 1))).toArray 76 (0, 0)) w12 := by rw [← e12]; exact h12
          have o12 : Only 76 w11 w12 := only_put h12 done11
          refine ⟨((i + 1 : Nat) : Int), fit ⟨by omega, by omega⟩, ?_⟩
          exact ⟨i + 1, ⟨rfl, rfl, rfl, rfl, rfl, rfl, rfl, trivial⟩, ⟨hlt2, below_put bl11 h12 hmem.ge.2.1, fun q c t fr hq hne => o12 q c t fr (o11 q c t fr hq hne) hne, h12.here⟩, by omega⟩
        · have : i = (members (compS n R a)).length := by omega
          subst this
          have fn11 := o11 _ _ _ _ (e10.heap fn9) (by decide)
          have out11 := o11 _ _ _ _ (e10.heap h9.here) (by decide)
          have e11 : setCells (markTo D (members (compS n R a)) (members (compS n R a)).length) = setCells (orS D (compS n R a)) := bools_congr fun k hk => markTo_all D _ hk
          rw [e11] at done11
          have mem11 : CompMem B w11 g gb gd go gv n T R (orS D (compS n R a)) (.slice A8 (L.length + 1) c8) (L ++ [members (compS n R a)]) :=
            ⟨Nat.le_trans hmem.size bl11.size, hmem.ge, o11 _ _ _ _ (e10.heap web9) (by decide), o11 _ _ _ _ (e10.heap box9) (by decide), done11, out11, fn11, (lists9.only (only_ext 0 e10) (by decide) (by decide)).only o11 (by decide) (by decide)⟩
          refine ⟨_, cell_of_block fn11 rfl, ?_⟩
          obtain ⟨m', rfl⟩ : ∃ k, m = k + 1 := ⟨m - 1, by omega⟩
          refine (ih m' (Nat.lt_succ_self _) B _ w11 g gb gd go gv n T R _ _ (by omega) hn (by rw [List.length_append]; show L.length + 1 + _ ≤ 24; omega) mem11).mono ?_
          rintro _ w13 ⟨v13, bl13, out13, lists13⟩
          refine ⟨v13, bl11.trans bl13, out13, ?_⟩
          rw [compsF_next hlt hno hD hP]
          rw [List.append_assoc] at lists13
          exact lists13
  · have : a = n := by omega
    subst this
    refine ⟨v, below_ext (Below.refl _ _) e1 hmem.size, (hmem.ext e1).out, ?_⟩
    rw [compsF_stop hno, List.append_nil]
    exact (hmem.ext e1).lists

end Go.Proofs.Ytdfhfehlmonjjaa
