/- a part of the proof: steps, walks and plain laws that the law below stands on; no condition. -/
import Derived.Test.YthpdkdmbfdmamaaGreatDoorGDf
import Derived.Test.YthpdkdmbfdmamaaGreatDoorGCi
set_option linter.unusedVariables false
set_option linter.unusedSimpArgs false
set_option linter.unnecessarySimpa false
set_option linter.unusedSectionVars false
namespace Go.Proofs.YthpdkdmbfdmamaaGreatDoor
open Go.Eng Go.RowKit

/-! ### plainly -/
theorem insD_lt {n : Int} {b : List Int} : ∀ {a : List Int}, (∀ x ∈ a, x < n) → insD n (a ++ b) = a ++ insD n b
  | [], _ => rfl
  | x :: r, h => by
    have hx := h x (by simp)
    rw [List.cons_append, insD, if_neg (by omega), if_neg (by omega), insD_lt (fun y hy => h y (by simp [hy]))]; rfl
theorem insD_ge {n : Int} {b : List Int} : ∀ {a : List Int}, (a ++ b).Pairwise (· < ·) → (∃ x ∈ a, n ≤ x) → insD n (a ++ b) = insD n a ++ b
  | [], _, h => by obtain ⟨x, hx, _⟩ := h; cases hx
  | x :: r, hp, h => by
    obtain ⟨h1, h2⟩ := List.pairwise_cons.1 hp
    rw [List.cons_append, insD, insD]
    split
    · rfl
    split
    · rfl
    rename_i h3 h4
    rw [insD_ge h2 ?_]; rfl
    obtain ⟨y, hy, hny⟩ := h
    rcases List.mem_cons.1 hy with rfl | hy
    · omega
    · exact ⟨y, hy, hny⟩

def wstep (n : Int) (s : Bool × List Int) (y : Int) : Bool × List Int :=
  ((if s.1 = false ∧ n ≤ y then (true, s.2 ++ [n]) else s).1, if y ≠ n then (if s.1 = false ∧ n ≤ y then (true, s.2 ++ [n]) else s).2 ++ [y] else (if s.1 = false ∧ n ≤ y then (true, s.2 ++ [n]) else s).2)
def wrun (n : Int) (l : List Int) : Bool × List Int := l.foldl (wstep n) (false, [])
def wstate (n : Int) (l : List Int) (s : Bool × List Int) : Prop := (s = (false, l) ∧ ∀ x ∈ l, x < n) ∨ (s = (true, insD n l) ∧ ∃ x ∈ l, n ≤ x)
theorem wstate_step {n y : Int} {a : List Int} {s : Bool × List Int} (hp : (a ++ [y]).Pairwise (· < ·)) (h : wstate n a s) : wstate n (a ++ [y]) (wstep n s y) := by
  rcases h with ⟨rfl, hl⟩ | ⟨rfl, x, hx, hnx⟩
  · unfold wstep
    by_cases hny : n ≤ y
    · simp only [hny, and_self, if_true]
      refine .inr ⟨?_, y, by simp, hny⟩
      rw [insD_lt hl, insD, insD]
      by_cases he : y = n
      · subst he; simp
      · have hlt : n < y := by omega
        simp [he, hlt]
    · simp only [hny, and_false, if_false]
      refine .inl ⟨?_, fun x hx => ?_⟩
      · rw [if_pos (by omega)]
      · rcases List.mem_append.1 hx with hx | hx
        · exact hl x hx
        · rw [List.mem_singleton.1 hx]; omega
  · have hxy : x < y := (List.pairwise_append.1 hp).2.2 x hx y (by simp)
    refine .inr ⟨?_, x, by simp [hx], hnx⟩
    unfold wstep
    simp only [Bool.true_eq_false, false_and, if_false]
    rw [if_pos (by omega), insD_ge hp ⟨x, hx, hnx⟩]
theorem wrun_state {n : Int} : ∀ (r a : List Int) (s : Bool × List Int), (a ++ r).Pairwise (· < ·) → wstate n a s → wstate n (a ++ r) (r.foldl (wstep n) s)
  | [], a, s, _, h => by rw [List.append_nil]; exact h
  | y :: r, a, s, hp, h => by
    have e : a ++ y :: r = (a ++ [y]) ++ r := by simp
    rw [e] at hp ⊢
    exact wrun_state r (a ++ [y]) _ hp (wstate_step (List.pairwise_append.1 hp).1 h)
theorem wrun_eq {n : Int} {l : List Int} (hp : l.Pairwise (· < ·)) : (if (wrun n l).1 = true then (wrun n l).2 else (wrun n l).2 ++ [n]) = insD n l := by
  rcases wrun_state l [] (false, []) hp (.inl ⟨rfl, fun x hx => by cases hx⟩) with ⟨h, hl⟩ | ⟨h, _⟩
  · have h : wrun n l = (false, l) := h
    have hl : ∀ x ∈ l, x < n := hl
    rw [h, if_neg (by simp)]
    have := insD_lt (n := n) (a := l) (b := []) hl
    rw [List.append_nil] at this
    rw [this]; rfl
  · have h : wrun n l = (true, insD n l) := h
    rw [h, if_pos rfl]
theorem wrun_take {n : Int} {l : List Int} {i : Nat} (hi : i < l.length) : wrun n (l.take (i + 1)) = wstep n (wrun n (l.take i)) l[i] := by
  unfold wrun
  rw [List.take_succ_eq_append_getElem hi, List.foldl_append]; rfl
theorem wstep_length (n : Int) (s : Bool × List Int) (y : Int) : (wstep n s y).2.length ≤ s.2.length + 2 := by
  unfold wstep
  dsimp only
  split <;> split <;> simp
theorem wrun_length (n : Int) (l : List Int) : ∀ (s : Bool × List Int), (l.foldl (wstep n) s).2.length ≤ s.2.length + 2 * l.length := by
  induction l with
  | nil => intro s; simp
  | cons y r ih =>
    intro s
    rw [List.foldl_cons, List.length_cons]
    have h1 := ih (wstep n s y)
    have h2 := wstep_length n s y
    omega

/-! ### the walks -/
theorem newInts_snoc {B : Nat} {w : World} {v : Value} {l : List Int} {x : Int} (h : w.ownsRow B 3 1 v (l.length + 1) (ints l ++ [.int .i64 x])) : NewInts B w v (l ++ [x]) := by
  unfold NewInts
  rw [ints_append, List.length_append]
  exact h

set_option maxRecDepth 100000 in
theorem with_spec {w : World} {A : Option Addr} {xs : List Int} {c : Nat} (hr : Reads w A (ints xs)) (hl : xs.length ≤ 2 ^ 30) (hp : xs.Pairwise (· < ·)) (n : Int) :
    CallsV C.P 103 #[.slice A xs.length c, .int .i64 n] w fun v w' => NewInts w.heap.size w' v (insD n xs) ∧ Ext w w' := by
  refine callsV_of C_ok (args := [_, _]) (plans := []) Tryz.func103 rfl Tryz.ntmps103 (by kernel_rfl) (Nat.le_of_ble_eq_true rfl) ?_
  have hlen : ∀ i, (wrun n (xs.take i)).2.length ≤ 2 ^ 32 := fun i => by
    have h1 := wrun_length n (xs.take i) (false, [])
    have h2 : (xs.take i).length ≤ xs.length := by rw [List.length_take]; omega
    have h3 : (([] : List Int)).length = 0 := rfl
    show ((xs.take i).foldl (wstep n) (false, [])).2.length ≤ _
    dsimp only at h1; omega
  rw [← wrun_eq hp]
  refine loopE C_ok (fun (s : Nat × Value × Bool) => [(0, .slice A xs.length c), (1, .int .i64 n), (5, s.2.1), (6, .bool s.2.2), (7, .int .i64 s.1)])
    (fun s w' => s.1 ≤ xs.length ∧ Ext w w' ∧ NewInts w.heap.size w' s.2.1 (wrun n (xs.take s.1)).2 ∧ s.2.2 = (wrun n (xs.take s.1)).1) (fun s => xs.length - s.1) (0, .slice none 0 0, false)
    ⟨rfl, rfl, rfl, rfl, rfl, trivial⟩ ⟨Nat.zero_le _, Ext.refl _, newInts_nil _ _, rfl⟩ ?_
  rintro ⟨i, v, b⟩ w1 ⟨hi', e1, ho', hb'⟩
  have hi : i ≤ xs.length := hi'
  have ho : NewInts w.heap.size w1 v (wrun n (xs.take i)).2 := ho'
  have hb : b = (wrun n (xs.take i)).1 := hb'
  clear hi' ho' hb'
  have hn1 := hlen i
  refine brE_dec (fun hlt2 => ?_) (fun hge => ?_)
  · have hlt : i < xs.length := by have : (i : Int) < (xs.length : Nat) := hlt2; omega
    clear hlt2
    have next : IntKind.i64.wrap ((i : Int) + 1) = ((i + 1 : Nat) : Int) := fit ⟨by omega, by omega⟩
    have hst := wrun_take (n := n) hlt
    have hn2 := hlen (i + 1)
    generalize wrun n (xs.take i) = S1 at *
    obtain ⟨b1, out⟩ := S1
    have ho : NewInts w.heap.size w1 v out := ho
    have hn1 : out.length ≤ 2 ^ 32 := hn1
    have hb : b = b1 := hb
    subst hb
    obtain ⟨p, o, hA, hc⟩ := Reads.int (hr.ext e1) hlt
    have fin : ∀ {w2 : World} {v2 : Value} {b2 : Bool} {out2 : List Int}, wrun n (xs.take (i + 1)) = (b2, out2) → Ext w w2 → NewInts w.heap.size w2 v2 out2 → i + 1 ≤ xs.length ∧ Ext w w2 ∧ NewInts w.heap.size w2 v2 (wrun n (xs.take (i + 1))).2 ∧ b2 = (wrun n (xs.take (i + 1))).1 := fun hS e hh => ⟨hlt, e, by rw [hS]; exact hh, by rw [hS]⟩
    have done : ∀ {w2 : World} {v2 : Value} {b2 : Bool} {out2 : List Int}, (b2, out2) = (if b = false ∧ n ≤ xs[i] then (true, out ++ [n]) else (b, out)) → wrun n (xs.take (i + 1)) = (b2, if xs[i] ≠ n then out2 ++ [xs[i]] else out2) := fun hh => by
      rw [hst]; unfold wstep; dsimp only; rw [← hh]
    cases b with
    | true =>
      have hd := done (w2 := w1) (v2 := v) (b2 := true) (out2 := out) (by simp)
      refine ⟨i, p, o, rfl, hlt, hA, ?_⟩
      refine ⟨_, by simpa using hc, ?_⟩
      refine brE_ndec (fun hx => ?_) (fun hx => ?_)
      · have hx : xs[i] ≠ n := hx
        rw [if_pos hx] at hd
        refine ⟨i, p, o, rfl, hlt, hA, ?_⟩
        refine ⟨_, by simpa using hc, ?_⟩
        intro g w2 h2
        have ho2 := ho.ext h2.ext
        refine ⟨rfl, rfl, rfl, w.heap.size, _, _, [.int .i64 xs[i]], ho2, (e1.trans h2.ext).size, Nat.le_of_ble_eq_true rfl, rfl, rfl, .inr ⟨g, 0, rfl, Rd.of_block h2.here⟩, rfl, rfl, by omega, by simp only [maxLen]; omega, ?_⟩
        intro v3 w3 ho3 hg3 _
        refine ⟨_, next, ?_⟩
        exact ⟨(i + 1, v3, true), ⟨rfl, rfl, rfl, rfl, rfl, trivial⟩, fin hd (app_ext (e1.trans h2.ext) ho2 hg3) (newInts_snoc ho3), by show xs.length - (i + 1) < xs.length - i; omega⟩
      · have hx : xs[i] = n := hx
        rw [if_neg (by simp [hx])] at hd
        refine ⟨_, next, ?_⟩
        exact ⟨(i + 1, v, true), ⟨rfl, rfl, rfl, rfl, rfl, trivial⟩, fin hd e1 ho, by show xs.length - (i + 1) < xs.length - i; omega⟩
    | false =>
      refine ⟨i, p, o, rfl, hlt, hA, ?_⟩
      refine ⟨_, by simpa using hc, ?_⟩
      refine brE_dec (fun hn => ?_) (fun hn => ?_)
      · have hn : n ≤ xs[i] := hn
        have hd := done (w2 := w1) (v2 := v) (b2 := true) (out2 := out ++ [n]) (by simp [hn])
        intro g w2 h2
        have ho2 := ho.ext h2.ext
        refine ⟨rfl, rfl, rfl, w.heap.size, _, _, [.int .i64 n], ho2, (e1.trans h2.ext).size, Nat.le_of_ble_eq_true rfl, rfl, rfl, .inr ⟨g, 0, rfl, Rd.of_block h2.here⟩, rfl, rfl, by omega, by simp only [maxLen]; omega, ?_⟩
        intro v3 w3 ho3 hg3 _
        have e3 := app_ext (e1.trans h2.ext) ho2 hg3
        have ho3 := newInts_snoc ho3
        obtain ⟨p, o, hA, hc⟩ := Reads.int (hr.ext e3) hlt
        refine ⟨i, p, o, rfl, hlt, hA, ?_⟩
        refine ⟨_, by simpa using hc, ?_⟩
        refine brE_ndec (fun hx => ?_) (fun hx => ?_)
        · have hx : xs[i] ≠ n := hx
          rw [if_pos hx] at hd
          refine ⟨i, p, o, rfl, hlt, hA, ?_⟩
          refine ⟨_, by simpa using hc, ?_⟩
          intro g w4 h4
          have ho4 := ho3.ext h4.ext
          have hll : (out ++ [n]).length = out.length + 1 := by simp
          have hll2 : ((false, out).2 ++ [n]).length = out.length + 1 := hll
          refine ⟨rfl, rfl, rfl, w.heap.size, _, _, [.int .i64 xs[i]], ho4, (e3.trans h4.ext).size, Nat.le_of_ble_eq_true rfl, rfl, rfl, .inr ⟨g, 0, rfl, Rd.of_block h4.here⟩, rfl, rfl, by omega, by simp only [maxLen]; omega, ?_⟩
          intro v5 w5 ho5 hg5 _
          refine ⟨_, next, ?_⟩
          exact ⟨(i + 1, v5, true), ⟨rfl, rfl, rfl, rfl, rfl, trivial⟩, fin hd (app_ext (e3.trans h4.ext) ho4 hg5) (newInts_snoc ho5), by show xs.length - (i + 1) < xs.length - i; omega⟩
        · have hx : xs[i] = n := hx
          rw [if_neg (by simp [hx])] at hd
          refine ⟨_, next, ?_⟩
          exact ⟨(i + 1, v3, true), ⟨rfl, rfl, rfl, rfl, rfl, trivial⟩, fin hd e3 ho3, by show xs.length - (i + 1) < xs.length - i; omega⟩
      · have hn : ¬ n ≤ xs[i] := hn
        have hd := done (w2 := w1) (v2 := v) (b2 := false) (out2 := out) (by simp [hn])
        refine ⟨i, p, o, rfl, hlt, hA, ?_⟩
        refine ⟨_, by simpa using hc, ?_⟩
        refine brE_ndec (fun hx => ?_) (fun hx => ?_)
        · have hx : xs[i] ≠ n := hx
          rw [if_pos hx] at hd
          refine ⟨i, p, o, rfl, hlt, hA, ?_⟩
          refine ⟨_, by simpa using hc, ?_⟩
          intro g w2 h2
          have ho2 := ho.ext h2.ext
          refine ⟨rfl, rfl, rfl, w.heap.size, _, _, [.int .i64 xs[i]], ho2, (e1.trans h2.ext).size, Nat.le_of_ble_eq_true rfl, rfl, rfl, .inr ⟨g, 0, rfl, Rd.of_block h2.here⟩, rfl, rfl, by omega, by simp only [maxLen]; omega, ?_⟩
          intro v3 w3 ho3 hg3 _
          refine ⟨_, next, ?_⟩
          exact ⟨(i + 1, v3, false), ⟨rfl, rfl, rfl, rfl, rfl, trivial⟩, fin hd (app_ext (e1.trans h2.ext) ho2 hg3) (newInts_snoc ho3), by show xs.length - (i + 1) < xs.length - i; omega⟩
        · have hx : xs[i] = n := hx
          rw [if_neg (by simp [hx])] at hd
          refine ⟨_, next, ?_⟩
          exact ⟨(i + 1, v, false), ⟨rfl, rfl, rfl, rfl, rfl, trivial⟩, fin hd e1 ho, by show xs.length - (i + 1) < xs.length - i; omega⟩
  · have : i = xs.length := by have : ¬ (i : Int) < (xs.length : Nat) := hge; omega
    subst this
    rw [List.take_length] at ho hb hn1
    generalize wrun n xs = S at *
    obtain ⟨b1, out⟩ := S
    have hb : b = b1 := hb
    subst hb
    have ho : NewInts w.heap.size w1 v out := ho
    have hn1 : out.length ≤ 2 ^ 32 := hn1
    cases b with
    | true => exact ⟨ho, e1⟩
    | false =>
      intro g w2 h2
      have ho2 := ho.ext h2.ext
      refine ⟨rfl, rfl, rfl, w.heap.size, _, _, [.int .i64 n], ho2, (e1.trans h2.ext).size, Nat.le_of_ble_eq_true rfl, rfl, rfl, .inr ⟨g, 0, rfl, Rd.of_block h2.here⟩, rfl, rfl, by omega, by simp only [maxLen]; omega, ?_⟩
      intro v3 w3 ho3 hg3 _
      exact ⟨newInts_snoc ho3, app_ext (e1.trans h2.ext) ho2 hg3⟩

end Go.Proofs.YthpdkdmbfdmamaaGreatDoor

namespace Go.Proofs.YthpdkdmbfdmamaaGreatDoor
open Go.Eng Go.RowKit

theorem any_step {α : Type} {p : α → Bool} {K : List α} {i : Nat} (hi : i < K.length) : (K.take (i + 1)).any p = ((K.take i).any p || p K[i]) := by
  rw [List.take_succ_eq_append_getElem hi, List.any_append]; simp
theorem any_hit {α : Type} {p : α → Bool} {K : List α} {i : Nat} (hi : i < K.length) (h : p K[i] = true) : K.any p = true := List.any_eq_true.2 ⟨K[i], List.getElem_mem hi, h⟩

set_option maxRecDepth 100000 in
theorem refdead_spec {w1 : World} {AK : Option Addr} {K : List Fact} {cK : Nat} (hrK : Reads w1 AK (fcells K)) (hK : K.length ≤ 2 ^ 20) (n : Int) :
    CallsV C.P 125 #[.slice AK K.length cK, .int .i64 n] w1 fun v w' => v = .bool (deadB K n) ∧ w' = w1 := by
  refine callsV_of C_ok (args := [_, _]) (plans := []) Tryz.func125 rfl Tryz.ntmps125 (by kernel_rfl) (Nat.le_of_ble_eq_true rfl) ?_
  unfold deadB
  refine loopE C_ok (fun (s : Nat × Unit) => [(0, .slice AK K.length cK), (1, .int .i64 n), (5, .int .i64 s.1)])
    (fun s w' => w' = w1 ∧ s.1 ≤ K.length ∧ (K.take s.1).any (deathB n) = false) (fun s => K.length - s.1) (0, ()) ⟨rfl, rfl, rfl, trivial⟩ ⟨rfl, Nat.zero_le _, by simp⟩ ?_
  rintro ⟨i, u⟩ w2 ⟨rfl, hi', ha'⟩
  have hi : i ≤ K.length := hi'
  have ha : (K.take i).any (deathB n) = false := ha'
  clear hi' ha'
  refine brE_dec (fun hlt2 => ?_) (fun hge => ?_)
  · have hlt : i < K.length := by have : (i : Int) < (K.length : Nat) := hlt2; omega
    clear hlt2
    have next : IntKind.i64.wrap ((i : Int) + 1) = ((i + 1 : Nat) : Int) := fit ⟨by omega, by omega⟩
    obtain ⟨b, o, hA, hc⟩ := Reads.fact hrK hlt
    refine ⟨i, b, o, rfl, hlt, hA, ?_⟩
    refine ⟨.int .u8 K[i].kind, hc 2 _ rfl, ?_⟩
    refine brE_dec (fun k0 => ?_) (fun k0 => ?_)
    · have k0 : K[i].kind = 10 := k0
      refine ⟨i, b, o, rfl, hlt, hA, ?_⟩
      refine ⟨.int .i64 K[i].who, hc 3 _ rfl, ?_⟩
      refine brE_dec (fun k1 => ?_) (fun k1 => ?_)
      · have k1 : K[i].who = n := k1
        have hp : (deathB n) K[i] = true := decide_eq_true ⟨k0, k1⟩
        exact ⟨by rw [any_hit (p := deathB n) hlt hp], rfl⟩
      · have k1 : ¬ K[i].who = n := k1
        have hp : (deathB n) K[i] = false := decide_eq_false fun hh => k1 hh.2
        refine ⟨_, next, ?_⟩
        exact ⟨(i + 1, ()), ⟨rfl, rfl, rfl, trivial⟩, ⟨rfl, hlt, by show (K.take (i + 1)).any (deathB n) = false; rw [any_step hlt, ha]; exact hp⟩, by show K.length - (i + 1) < K.length - i; omega⟩
    · have k0 : ¬ K[i].kind = 10 := k0
      have hp : (deathB n) K[i] = false := decide_eq_false fun hh => k0 hh.1
      refine ⟨_, next, ?_⟩
      exact ⟨(i + 1, ()), ⟨rfl, rfl, rfl, trivial⟩, ⟨rfl, hlt, by show (K.take (i + 1)).any (deathB n) = false; rw [any_step hlt, ha]; exact hp⟩, by show K.length - (i + 1) < K.length - i; omega⟩
  · have : i = K.length := by have : ¬ (i : Int) < (K.length : Nat) := hge; omega
    rw [this, List.take_length] at ha
    exact ⟨by rw [ha], rfl⟩

set_option maxRecDepth 100000 in
theorem numbered_spec {w1 : World} {AK : Option Addr} {K : List Fact} {cK : Nat} (hrK : Reads w1 AK (fcells K)) (hK : K.length ≤ 2 ^ 20) (n : Int) :
    CallsV C.P 128 #[.slice AK K.length cK, .int .i64 n] w1 fun v w' => v = .bool (idIn K n) ∧ w' = w1 := by
  refine callsV_of C_ok (args := [_, _]) (plans := []) Tryz.func128 rfl Tryz.ntmps128 (by kernel_rfl) (Nat.le_of_ble_eq_true rfl) ?_
  unfold idIn
  refine loopE C_ok (fun (s : Nat × Unit) => [(0, .slice AK K.length cK), (1, .int .i64 n), (5, .int .i64 s.1)])
    (fun s w' => w' = w1 ∧ s.1 ≤ K.length ∧ (K.take s.1).any (fun y => decide (y.id = n)) = false) (fun s => K.length - s.1) (0, ()) ⟨rfl, rfl, rfl, trivial⟩ ⟨rfl, Nat.zero_le _, by simp⟩ ?_
  rintro ⟨i, u⟩ w2 ⟨rfl, hi', ha'⟩
  have hi : i ≤ K.length := hi'
  have ha : (K.take i).any (fun y => decide (y.id = n)) = false := ha'
  clear hi' ha'
  refine brE_dec (fun hlt2 => ?_) (fun hge => ?_)
  · have hlt : i < K.length := by have : (i : Int) < (K.length : Nat) := hlt2; omega
    clear hlt2
    have next : IntKind.i64.wrap ((i : Int) + 1) = ((i + 1 : Nat) : Int) := fit ⟨by omega, by omega⟩
    obtain ⟨b, o, hA, hc⟩ := Reads.fact hrK hlt
    refine ⟨i, b, o, rfl, hlt, hA, ?_⟩
    refine ⟨.int .i64 K[i].id, hc 0 _ rfl, ?_⟩
    refine brE_dec (fun k0 => ?_) (fun k0 => ?_)
    · have k0 : K[i].id = n := k0
      have hp : (fun y => decide (y.id = n)) K[i] = true := decide_eq_true k0
      exact ⟨by rw [any_hit (p := fun y => decide (y.id = n)) hlt hp], rfl⟩
    · have k0 : ¬ K[i].id = n := k0
      have hp : (fun y => decide (y.id = n)) K[i] = false := decide_eq_false fun hh => k0 hh
      refine ⟨_, next, ?_⟩
      exact ⟨(i + 1, ()), ⟨rfl, rfl, rfl, trivial⟩, ⟨rfl, hlt, by show (K.take (i + 1)).any (fun y => decide (y.id = n)) = false; rw [any_step hlt, ha]; exact hp⟩, by show K.length - (i + 1) < K.length - i; omega⟩
  · have : i = K.length := by have : ¬ (i : Int) < (K.length : Nat) := hge; omega
    rw [this, List.take_length] at ha
    exact ⟨by rw [ha], rfl⟩

set_option maxRecDepth 100000 in
theorem refnamed_spec {w1 : World} {AK : Option Addr} {K : List Fact} {cK : Nat} (hrK : Reads w1 AK (fcells K)) (hK : K.length ≤ 2 ^ 20) (n : Int) :
    CallsV C.P 129 #[.slice AK K.length cK, .int .i64 n] w1 fun v w' => v = .bool (namedIn K n) ∧ w' = w1 := by
  refine callsV_of C_ok (args := [_, _]) (plans := []) Tryz.func129 rfl Tryz.ntmps129 (by kernel_rfl) (Nat.le_of_ble_eq_true rfl) ?_
  unfold namedIn
  refine loopE C_ok (fun (s : Nat × Unit) => [(0, .slice AK K.length cK), (1, .int .i64 n), (5, .int .i64 s.1)])
    (fun s w' => w' = w1 ∧ s.1 ≤ K.length ∧ (K.take s.1).any (fun y => decide (y.kind = 1 ∧ y.who = n)) = false) (fun s => K.length - s.1) (0, ()) ⟨rfl, rfl, rfl, trivial⟩ ⟨rfl, Nat.zero_le _, by simp⟩ ?_
  rintro ⟨i, u⟩ w2 ⟨rfl, hi', ha'⟩
  have hi : i ≤ K.length := hi'
  have ha : (K.take i).any (fun y => decide (y.kind = 1 ∧ y.who = n)) = false := ha'
  clear hi' ha'
  refine brE_dec (fun hlt2 => ?_) (fun hge => ?_)
  · have hlt : i < K.length := by have : (i : Int) < (K.length : Nat) := hlt2; omega
    clear hlt2
    have next : IntKind.i64.wrap ((i : Int) + 1) = ((i + 1 : Nat) : Int) := fit ⟨by omega, by omega⟩
    obtain ⟨b, o, hA, hc⟩ := Reads.fact hrK hlt
    refine ⟨i, b, o, rfl, hlt, hA, ?_⟩
    refine ⟨.int .u8 K[i].kind, hc 2 _ rfl, ?_⟩
    refine brE_dec (fun k0 => ?_) (fun k0 => ?_)
    · have k0 : K[i].kind = 1 := k0
      refine ⟨i, b, o, rfl, hlt, hA, ?_⟩
      refine ⟨.int .i64 K[i].who, hc 3 _ rfl, ?_⟩
      refine brE_dec (fun k1 => ?_) (fun k1 => ?_)
      · have k1 : K[i].who = n := k1
        have hp : (fun y => decide (y.kind = 1 ∧ y.who = n)) K[i] = true := decide_eq_true ⟨k0, k1⟩
        exact ⟨by rw [any_hit (p := fun y => decide (y.kind = 1 ∧ y.who = n)) hlt hp], rfl⟩
      · have k1 : ¬ K[i].who = n := k1
        have hp : (fun y => decide (y.kind = 1 ∧ y.who = n)) K[i] = false := decide_eq_false fun hh => k1 hh.2
        refine ⟨_, next, ?_⟩
        exact ⟨(i + 1, ()), ⟨rfl, rfl, rfl, trivial⟩, ⟨rfl, hlt, by show (K.take (i + 1)).any (fun y => decide (y.kind = 1 ∧ y.who = n)) = false; rw [any_step hlt, ha]; exact hp⟩, by show K.length - (i + 1) < K.length - i; omega⟩
    · have k0 : ¬ K[i].kind = 1 := k0
      have hp : (fun y => decide (y.kind = 1 ∧ y.who = n)) K[i] = false := decide_eq_false fun hh => k0 hh.1
      refine ⟨_, next, ?_⟩
      exact ⟨(i + 1, ()), ⟨rfl, rfl, rfl, trivial⟩, ⟨rfl, hlt, by show (K.take (i + 1)).any (fun y => decide (y.kind = 1 ∧ y.who = n)) = false; rw [any_step hlt, ha]; exact hp⟩, by show K.length - (i + 1) < K.length - i; omega⟩
  · have : i = K.length := by have : ¬ (i : Int) < (K.length : Nat) := hge; omega
    rw [this, List.take_length] at ha
    exact ⟨by rw [ha], rfl⟩

set_option maxRecDepth 100000 in
theorem refMourns_spec {w : World} {A : Option Addr} {l : List Fact} {c : Nat} (h : HF w A l c) (hl : l.length ≤ 2 ^ 20) (k day n : Int) :
    CallsV C.P 54 #[.slice A l.length c, .int .i64 k, .int .i64 day, .int .i64 n] w fun v w' => v = .bool ((atL k day l).any (mournB n)) ∧ Ext w w' := by
  refine callsV_of C_ok (args := [_, _, _, _]) (plans := []) Tryz.func54 rfl Tryz.ntmps54 (by kernel_rfl) (Nat.le_of_ble_eq_true rfl) ?_
  refine (refAt_spec h hl k day).mono ?_
  rintro v0 w1 ⟨ho, e1⟩
  have hK := atL_length k day l
  generalize atL k day l = K at *
  obtain ⟨AK, cK, rfl, hrK, _⟩ := ho.slice
  refine loopE C_ok (fun (s : Nat × Unit) => [(0, .slice A l.length c), (3, .int .i64 n), (9, .slice AK K.length cK), (10, .int .i64 s.1)])
    (fun s w' => w' = w1 ∧ s.1 ≤ K.length ∧ (K.take s.1).any (mournB n) = false) (fun s => K.length - s.1) (0, ()) ⟨rfl, rfl, rfl, rfl, trivial⟩ ⟨rfl, Nat.zero_le _, by simp⟩ ?_
  rintro ⟨i, u⟩ w2 ⟨rfl, hi', ha'⟩
  have hi : i ≤ K.length := hi'
  have ha : (K.take i).any (mournB n) = false := ha'
  clear hi' ha'
  refine brE_dec (fun hlt2 => ?_) (fun hge => ?_)
  · have hlt : i < K.length := by have : (i : Int) < (K.length : Nat) := hlt2; omega
    clear hlt2
    have next : IntKind.i64.wrap ((i : Int) + 1) = ((i + 1 : Nat) : Int) := fit ⟨by omega, by omega⟩
    obtain ⟨b, o, hA, hc⟩ := Reads.fact hrK hlt
    refine ⟨i, b, o, rfl, hlt, hA, ?_⟩
    refine ⟨.int .u8 K[i].kind, hc 2 _ rfl, ?_⟩
    refine brE_dec (fun k0 => ?_) (fun k0 => ?_)
    · have k0 : K[i].kind = 7 := k0
      refine ⟨i, b, o, rfl, hlt, hA, ?_⟩
      refine ⟨.int .i64 K[i].who, hc 3 _ rfl, ?_⟩
      refine brE_dec (fun k1 => ?_) (fun k1 => ?_)
      · have k1 : K[i].who = n := k1
        have hp : (mournB n) K[i] = true := decide_eq_true ⟨k0, k1⟩
        exact ⟨by rw [any_hit (p := mournB n) hlt hp], e1⟩
      · have k1 : ¬ K[i].who = n := k1
        have hp : (mournB n) K[i] = false := decide_eq_false fun hh => k1 hh.2
        refine ⟨_, next, ?_⟩
        exact ⟨(i + 1, ()), ⟨rfl, rfl, rfl, rfl, trivial⟩, ⟨rfl, hlt, by show (K.take (i + 1)).any (mournB n) = false; rw [any_step hlt, ha]; exact hp⟩, by show K.length - (i + 1) < K.length - i; omega⟩
    · have k0 : ¬ K[i].kind = 7 := k0
      have hp : (mournB n) K[i] = false := decide_eq_false fun hh => k0 hh.1
      refine ⟨_, next, ?_⟩
      exact ⟨(i + 1, ()), ⟨rfl, rfl, rfl, rfl, trivial⟩, ⟨rfl, hlt, by show (K.take (i + 1)).any (mournB n) = false; rw [any_step hlt, ha]; exact hp⟩, by show K.length - (i + 1) < K.length - i; omega⟩
  · have : i = K.length := by have : ¬ (i : Int) < (K.length : Nat) := hge; omega
    rw [this, List.take_length] at ha
    exact ⟨by rw [ha], e1⟩

set_option maxRecDepth 100000 in
theorem in_spec {w : World} {A : Option Addr} {xs : List Int} {c : Nat} (hr : Reads w A (ints xs)) (hl : xs.length ≤ 2 ^ 40) (n : Int) :
    CallsV C.P 123 #[.slice A xs.length c, .int .i64 n] w fun v w' => v = .bool (decide (n ∈ xs)) ∧ w' = w := by
  refine callsV_of C_ok (args := [_, _]) (plans := []) Tryz.func123 rfl Tryz.ntmps123 (by kernel_rfl) (Nat.le_of_ble_eq_true rfl) ?_
  refine loopE C_ok (fun (i : Nat) => [(0, .slice A xs.length c), (1, .int .i64 n), (5, .int .i64 i)])
    (fun i w' => w' = w ∧ i ≤ xs.length ∧ n ∉ xs.take i) (fun i => xs.length - i) 0 ⟨rfl, rfl, rfl, trivial⟩ ⟨rfl, Nat.zero_le _, by simp⟩ ?_
  rintro i w1 ⟨rfl, hi, hn⟩
  refine brE_dec (fun hlt2 => ?_) (fun hge => ?_)
  · have hlt : i < xs.length := by have : (i : Int) < (xs.length : Nat) := hlt2; omega
    obtain ⟨b, o, hA, hc⟩ := Reads.int hr hlt
    refine ⟨i, b, o, rfl, hlt, hA, ?_⟩
    refine ⟨_, by simpa using hc, ?_⟩
    refine brE_dec (fun he => ?_) (fun he => ?_)
    · have he : xs[i] = n := he
      exact ⟨by rw [decide_eq_true (by rw [← he]; exact List.getElem_mem hlt)], rfl⟩
    · have he : ¬ xs[i] = n := he
      refine ⟨((i + 1 : Nat) : Int), fit ⟨by omega, by omega⟩, ?_⟩
      refine ⟨i + 1, ⟨rfl, rfl, rfl, trivial⟩, ⟨rfl, hlt, ?_⟩, by omega⟩
      rw [List.take_succ_eq_append_getElem hlt]
      intro hm
      rcases List.mem_append.1 hm with hm | hm
      · exact hn hm
      · exact he (List.mem_singleton.1 hm).symm
  · have : i = xs.length := by have : ¬ (i : Int) < (xs.length : Nat) := hge; omega
    rw [this, List.take_length] at hn
    exact ⟨by rw [decide_eq_false hn], rfl⟩

set_option maxRecDepth 100000 in
theorem refName_spec {w : World} {A : Option Addr} {l : List Fact} {c : Nat} (h : HF w A l c) (hl : l.length ≤ 2 ^ 20) (k day s0 lang : Int) :
    CallsV C.P 52 #[.slice A l.length c, .int .i64 k, .int .i64 day, .int .i64 s0, .int .i64 lang] w fun v w' => v = .string (nameL (atL k day l) s0 lang) ∧ Ext w w' := by
  refine callsV_of C_ok (args := [_, _, _, _, _]) (plans := []) Tryz.func52 rfl Tryz.ntmps52 (by kernel_rfl) (Nat.le_of_ble_eq_true rfl) ?_
  refine (refAt_spec h hl k day).mono ?_
  rintro v0 w1 ⟨ho, e1⟩
  have hK := atL_length k day l
  generalize atL k day l = K at *
  obtain ⟨AK, cK, rfl, hrK, _⟩ := ho.slice
  refine loopE C_ok (fun (s : Nat × ByteArray) => [(0, .slice A l.length c), (3, .int .i64 s0), (4, .int .i64 lang), (11, .slice AK K.length cK), (12, .string s.2), (13, .int .i64 s.1)])
    (fun s w' => w' = w1 ∧ s.1 ≤ K.length ∧ s.2 = ((lastP (isNm s0 lang) (K.take s.1)).getD factZ).name) (fun s => K.length - s.1) (0, ⟨#[]⟩) ⟨rfl, rfl, rfl, rfl, rfl, rfl, trivial⟩ ⟨rfl, Nat.zero_le _, rfl⟩ ?_
  rintro ⟨i, a⟩ w2 ⟨rfl, hi', ha'⟩
  have hi : i ≤ K.length := hi'
  have ha : a = ((lastP (isNm s0 lang) (K.take i)).getD factZ).name := ha'
  clear hi' ha'
  refine brE_dec (fun hlt2 => ?_) (fun hge => ?_)
  · have hlt : i < K.length := by have : (i : Int) < (K.length : Nat) := hlt2; omega
    clear hlt2
    have next : IntKind.i64.wrap ((i : Int) + 1) = ((i + 1 : Nat) : Int) := fit ⟨by omega, by omega⟩
    obtain ⟨b, o, hA, hc⟩ := Reads.fact hrK hlt
    have hst := lastP_take (p := isNm s0 lang) hlt
    refine ⟨i, b, o, rfl, hlt, hA, ?_⟩
    refine ⟨.int .u8 K[i].kind, hc 2 _ rfl, ?_⟩
    refine brE_dec (fun k0 => ?_) (fun k0 => ?_)
    · have k0 : K[i].kind = 1 := k0
      refine ⟨i, b, o, rfl, hlt, hA, ?_⟩
      refine ⟨.int .i64 K[i].who, hc 3 _ rfl, ?_⟩
      refine brE_dec (fun k1 => ?_) (fun k1 => ?_)
      · have k1 : K[i].who = s0 := k1
        refine ⟨i, b, o, rfl, hlt, hA, ?_⟩
        refine ⟨.int .i64 K[i].other, hc 5 _ rfl, ?_⟩
        refine brE_dec (fun k2 => ?_) (fun k2 => ?_)
        · have k2 : K[i].other = lang := k2
          have hp : (isNm s0 lang) K[i] = true := decide_eq_true ⟨k0, k1, k2⟩
          rw [if_pos hp] at hst
          refine ⟨i, b, o, rfl, hlt, hA, ?_⟩
          refine ⟨.string K[i].name, hc 8 _ rfl, ?_⟩
          refine ⟨_, next, ?_⟩
          exact ⟨(i + 1, K[i].name), ⟨rfl, rfl, rfl, rfl, rfl, rfl, trivial⟩, ⟨rfl, hlt, by show (K[i].name) = ((lastP (isNm s0 lang) (K.take (i + 1))).getD factZ).name; rw [hst] <;> rfl⟩, by show K.length - (i + 1) < K.length - i; omega⟩
        · have k2 : ¬ K[i].other = lang := k2
          have hp : (isNm s0 lang) K[i] = false := decide_eq_false fun hh => k2 hh.2.2
          rw [if_neg (by rw [hp]; decide)] at hst
          refine ⟨_, next, ?_⟩
          exact ⟨(i + 1, a), ⟨rfl, rfl, rfl, rfl, rfl, rfl, trivial⟩, ⟨rfl, hlt, by show a = ((lastP (isNm s0 lang) (K.take (i + 1))).getD factZ).name; rw [hst]; exact ha⟩, by show K.length - (i + 1) < K.length - i; omega⟩
      · have k1 : ¬ K[i].who = s0 := k1
        have hp : (isNm s0 lang) K[i] = false := decide_eq_false fun hh => k1 hh.2.1
        rw [if_neg (by rw [hp]; decide)] at hst
        refine ⟨_, next, ?_⟩
        exact ⟨(i + 1, a), ⟨rfl, rfl, rfl, rfl, rfl, rfl, trivial⟩, ⟨rfl, hlt, by show a = ((lastP (isNm s0 lang) (K.take (i + 1))).getD factZ).name; rw [hst]; exact ha⟩, by show K.length - (i + 1) < K.length - i; omega⟩
    · have k0 : ¬ K[i].kind = 1 := k0
      have hp : (isNm s0 lang) K[i] = false := decide_eq_false fun hh => k0 hh.1
      rw [if_neg (by rw [hp]; decide)] at hst
      refine ⟨_, next, ?_⟩
      exact ⟨(i + 1, a), ⟨rfl, rfl, rfl, rfl, rfl, rfl, trivial⟩, ⟨rfl, hlt, by show a = ((lastP (isNm s0 lang) (K.take (i + 1))).getD factZ).name; rw [hst]; exact ha⟩, by show K.length - (i + 1) < K.length - i; omega⟩
  · have : i = K.length := by have : ¬ (i : Int) < (K.length : Nat) := hge; omega
    rw [this, List.take_length] at ha
    exact ⟨by rw [ha]; rfl, e1⟩

set_option maxRecDepth 100000 in
theorem refCredentials_spec {w : World} {A : Option Addr} {l : List Fact} {c : Nat} (h : HF w A l c) (hl : l.length ≤ 2 ^ 20) (k day n s0 : Int) :
    CallsV C.P 76 #[.slice A l.length c, .int .i64 k, .int .i64 day, .int .i64 n, .int .i64 s0] w fun v w' => v = .int .i64 (credL (atL k day l) n s0) ∧ Ext w w' := by
  refine callsV_of C_ok (args := [_, _, _, _, _]) (plans := []) Tryz.func76 rfl Tryz.ntmps76 (by kernel_rfl) (Nat.le_of_ble_eq_true rfl) ?_
  refine (refAt_spec h hl k day).mono ?_
  rintro v0 w1 ⟨ho, e1⟩
  have hK := atL_length k day l
  generalize atL k day l = K at *
  obtain ⟨AK, cK, rfl, hrK, _⟩ := ho.slice
  unfold credL
  refine loopE C_ok (fun (s : Nat × Int) => [(0, .slice A l.length c), (3, .int .i64 n), (4, .int .i64 s0), (11, .slice AK K.length cK), (12, .int .i64 s.2), (13, .int .i64 s.1)])
    (fun s w' => w' = w1 ∧ s.1 ≤ K.length ∧ s.2 = (match lastP (credB n s0) (K.take s.1) with | some x => x.since | none => 100001)) (fun s => K.length - s.1) (0, 100001) ⟨rfl, rfl, rfl, rfl, rfl, rfl, trivial⟩ ⟨rfl, Nat.zero_le _, rfl⟩ ?_
  rintro ⟨i, a⟩ w2 ⟨rfl, hi', ha'⟩
  have hi : i ≤ K.length := hi'
  have ha : a = (match lastP (credB n s0) (K.take i) with | some x => x.since | none => 100001) := ha'
  clear hi' ha'
  refine brE_dec (fun hlt2 => ?_) (fun hge => ?_)
  · have hlt : i < K.length := by have : (i : Int) < (K.length : Nat) := hlt2; omega
    clear hlt2
    have next : IntKind.i64.wrap ((i : Int) + 1) = ((i + 1 : Nat) : Int) := fit ⟨by omega, by omega⟩
    obtain ⟨b, o, hA, hc⟩ := Reads.fact hrK hlt
    have hst := lastP_take (p := credB n s0) hlt
    refine ⟨i, b, o, rfl, hlt, hA, ?_⟩
    refine ⟨.int .u8 K[i].kind, hc 2 _ rfl, ?_⟩
    refine brE_dec (fun k0 => ?_) (fun k0 => ?_)
    · have k0 : K[i].kind = 5 := k0
      refine ⟨i, b, o, rfl, hlt, hA, ?_⟩
      refine ⟨.int .i64 K[i].who, hc 3 _ rfl, ?_⟩
      refine brE_dec (fun k1 => ?_) (fun k1 => ?_)
      · have k1 : K[i].who = n := k1
        refine ⟨i, b, o, rfl, hlt, hA, ?_⟩
        refine ⟨.int .i64 K[i].what, hc 4 _ rfl, ?_⟩
        refine brE_dec (fun k2 => ?_) (fun k2 => ?_)
        · have k2 : K[i].what = s0 := k2
          have hp : (credB n s0) K[i] = true := decide_eq_true ⟨k0, k1, k2⟩
          rw [if_pos hp] at hst
          refine ⟨i, b, o, rfl, hlt, hA, ?_⟩
          refine ⟨.int .i64 K[i].since, hc 6 _ rfl, ?_⟩
          refine ⟨_, next, ?_⟩
          exact ⟨(i + 1, K[i].since), ⟨rfl, rfl, rfl, rfl, rfl, rfl, trivial⟩, ⟨rfl, hlt, by show (K[i].since) = (match lastP (credB n s0) (K.take (i + 1)) with | some x => x.since | none => 100001); rw [hst] <;> rfl⟩, by show K.length - (i + 1) < K.length - i; omega⟩
        · have k2 : ¬ K[i].what = s0 := k2
          have hp : (credB n s0) K[i] = false := decide_eq_false fun hh => k2 hh.2.2
          rw [if_neg (by rw [hp]; decide)] at hst
          refine ⟨_, next, ?_⟩
          exact ⟨(i + 1, a), ⟨rfl, rfl, rfl, rfl, rfl, rfl, trivial⟩, ⟨rfl, hlt, by show a = (match lastP (credB n s0) (K.take (i + 1)) with | some x => x.since | none => 100001); rw [hst]; exact ha⟩, by show K.length - (i + 1) < K.length - i; omega⟩
      · have k1 : ¬ K[i].who = n := k1
        have hp : (credB n s0) K[i] = false := decide_eq_false fun hh => k1 hh.2.1
        rw [if_neg (by rw [hp]; decide)] at hst
        refine ⟨_, next, ?_⟩
        exact ⟨(i + 1, a), ⟨rfl, rfl, rfl, rfl, rfl, rfl, trivial⟩, ⟨rfl, hlt, by show a = (match lastP (credB n s0) (K.take (i + 1)) with | some x => x.since | none => 100001); rw [hst]; exact ha⟩, by show K.length - (i + 1) < K.length - i; omega⟩
    · have k0 : ¬ K[i].kind = 5 := k0
      have hp : (credB n s0) K[i] = false := decide_eq_false fun hh => k0 hh.1
      rw [if_neg (by rw [hp]; decide)] at hst
      refine ⟨_, next, ?_⟩
      exact ⟨(i + 1, a), ⟨rfl, rfl, rfl, rfl, rfl, rfl, trivial⟩, ⟨rfl, hlt, by show a = (match lastP (credB n s0) (K.take (i + 1)) with | some x => x.since | none => 100001); rw [hst]; exact ha⟩, by show K.length - (i + 1) < K.length - i; omega⟩
  · have : i = K.length := by have : ¬ (i : Int) < (K.length : Nat) := hge; omega
    rw [this, List.take_length] at ha
    exact ⟨by rw [ha] <;> rfl, e1⟩

set_option maxRecDepth 100000 in
theorem next_spec {w1 : World} {AK : Option Addr} {K : List Fact} {cK : Nat} (hrK : Reads w1 AK (fcells K)) (hK : K.length ≤ 2 ^ 20) (n : Int) :
    CallsV C.P 126 #[.slice AK K.length cK, .int .i64 n] w1 fun v w' => v = .tuple #[.int .i64 ((nextL K n).getD 0), .bool (nextL K n).isSome] ∧ w' = w1 := by
  refine callsV_of C_ok (args := [_, _]) (plans := []) Tryz.func126 rfl Tryz.ntmps126 (by kernel_rfl) (Nat.le_of_ble_eq_true rfl) ?_
  unfold nextL
  refine loopE C_ok (fun (s : Nat × Int × Bool) => [(0, .slice AK K.length cK), (1, .int .i64 n), (6, .int .i64 s.2.1), (7, .bool s.2.2), (8, .int .i64 s.1)])
    (fun s w' => w' = w1 ∧ s.1 ≤ K.length ∧ s.2 = (((lastP (deputyB n) (K.take s.1)).map Fact.other).getD 0, ((lastP (deputyB n) (K.take s.1)).map Fact.other).isSome)) (fun s => K.length - s.1) (0, 0, false) ⟨rfl, rfl, rfl, rfl, rfl, trivial⟩ ⟨rfl, Nat.zero_le _, rfl⟩ ?_
  rintro ⟨i, a, d⟩ w2 ⟨rfl, hi', ha'⟩
  have hi : i ≤ K.length := hi'
  have ha : (a, d) = (((lastP (deputyB n) (K.take i)).map Fact.other).getD 0, ((lastP (deputyB n) (K.take i)).map Fact.other).isSome) := ha'
  clear hi' ha'
  refine brE_dec (fun hlt2 => ?_) (fun hge => ?_)
  · have hlt : i < K.length := by have : (i : Int) < (K.length : Nat) := hlt2; omega
    clear hlt2
    have next : IntKind.i64.wrap ((i : Int) + 1) = ((i + 1 : Nat) : Int) := fit ⟨by omega, by omega⟩
    obtain ⟨b, o, hA, hc⟩ := Reads.fact hrK hlt
    have hst := lastP_take (p := deputyB n) hlt
    refine ⟨i, b, o, rfl, hlt, hA, ?_⟩
    refine ⟨.int .u8 K[i].kind, hc 2 _ rfl, ?_⟩
    refine brE_dec (fun k0 => ?_) (fun k0 => ?_)
    · have k0 : K[i].kind = 9 := k0
      refine ⟨i, b, o, rfl, hlt, hA, ?_⟩
      refine ⟨.int .i64 K[i].who, hc 3 _ rfl, ?_⟩
      refine brE_dec (fun k1 => ?_) (fun k1 => ?_)
      · have k1 : K[i].who = n := k1
        have hp : (deputyB n) K[i] = true := decide_eq_true ⟨k0, k1⟩
        rw [if_pos hp] at hst
        refine ⟨i, b, o, rfl, hlt, hA, ?_⟩
        refine ⟨.int .i64 K[i].other, hc 5 _ rfl, ?_⟩
        refine ⟨_, next, ?_⟩
        exact ⟨(i + 1, K[i].other, true), ⟨rfl, rfl, rfl, rfl, rfl, trivial⟩, ⟨rfl, hlt, by show (K[i].other, true) = (((lastP (deputyB n) (K.take (i + 1))).map Fact.other).getD 0, ((lastP (deputyB n) (K.take (i + 1))).map Fact.other).isSome); rw [hst] <;> rfl⟩, by show K.length - (i + 1) < K.length - i; omega⟩
      · have k1 : ¬ K[i].who = n := k1
        have hp : (deputyB n) K[i] = false := decide_eq_false fun hh => k1 hh.2
        rw [if_neg (by rw [hp]; decide)] at hst
        refine ⟨_, next, ?_⟩
        exact ⟨(i + 1, a, d), ⟨rfl, rfl, rfl, rfl, rfl, trivial⟩, ⟨rfl, hlt, by show (a, d) = (((lastP (deputyB n) (K.take (i + 1))).map Fact.other).getD 0, ((lastP (deputyB n) (K.take (i + 1))).map Fact.other).isSome); rw [hst]; exact ha⟩, by show K.length - (i + 1) < K.length - i; omega⟩
    · have k0 : ¬ K[i].kind = 9 := k0
      have hp : (deputyB n) K[i] = false := decide_eq_false fun hh => k0 hh.1
      rw [if_neg (by rw [hp]; decide)] at hst
      refine ⟨_, next, ?_⟩
      exact ⟨(i + 1, a, d), ⟨rfl, rfl, rfl, rfl, rfl, trivial⟩, ⟨rfl, hlt, by show (a, d) = (((lastP (deputyB n) (K.take (i + 1))).map Fact.other).getD 0, ((lastP (deputyB n) (K.take (i + 1))).map Fact.other).isSome); rw [hst]; exact ha⟩, by show K.length - (i + 1) < K.length - i; omega⟩
  · have : i = K.length := by have : ¬ (i : Int) < (K.length : Nat) := hge; omega
    rw [this, List.take_length] at ha
    injection ha with h1 h2
    exact ⟨by rw [h1, h2], rfl⟩

end Go.Proofs.YthpdkdmbfdmamaaGreatDoor

namespace Go.Proofs.YthpdkdmbfdmamaaGreatDoor
open Go.Eng Go.RowKit

set_option maxRecDepth 100000 in
theorem refVisit_spec {w : World} {A : Option Addr} {l : List Fact} {c : Nat} (h : HF w A l c) (hl : l.length ≤ 2 ^ 20) (k day n s0 : Int) :
    CallsV C.P 78 #[.slice A l.length c, .int .i64 k, .int .i64 day, .int .i64 n, .int .i64 s0] w fun v w' => v = .int .i64 (visitL (atL k day l) n s0) ∧ Ext w w' := by
  refine callsV_of C_ok (args := [_, _, _, _, _]) (plans := []) Tryz.func78 rfl Tryz.ntmps78 (by kernel_rfl) (Nat.le_of_ble_eq_true rfl) ?_
  refine (refAt_spec h hl k day).mono ?_
  rintro v0 w1 ⟨ho, e1⟩
  have hK := atL_length k day l
  generalize atL k day l = K at *
  obtain ⟨AK, cK, rfl, hrK, _⟩ := ho.slice
  refine loopE C_ok (fun (s : Nat × Int × Bool) => [(3, .int .i64 n), (4, .int .i64 s0), (11, .slice AK K.length cK), (12, .int .i64 s.2.1), (13, .bool s.2.2), (14, .int .i64 s.1)])
    (fun s w' => w' = w1 ∧ s.1 ≤ K.length ∧ s.2 = visitAt n s0 (0, false) (K.take s.1)) (fun s => K.length - s.1) (0, 0, false) ⟨rfl, rfl, rfl, rfl, rfl, rfl, trivial⟩ ⟨rfl, Nat.zero_le _, rfl⟩ ?_
  rintro ⟨i, a, d⟩ w2 ⟨rfl, hi', ha'⟩
  have hi : i ≤ K.length := hi'
  have ha : (a, d) = visitAt n s0 (0, false) (K.take i) := ha'
  clear hi' ha'
  refine brE_dec (fun hlt2 => ?_) (fun hge => ?_)
  · have hlt : i < K.length := by have : (i : Int) < (K.length : Nat) := hlt2; omega
    clear hlt2
    have next : IntKind.i64.wrap ((i : Int) + 1) = ((i + 1 : Nat) : Int) := fit ⟨by omega, by omega⟩
    obtain ⟨b, o, hA, hc⟩ := Reads.fact hrK hlt
    have hst := visitAt_snoc n s0 K[i] (K.take i) (0, false)
    rw [← List.take_succ_eq_append_getElem hlt, ← ha] at hst
    have miss : (visitB n s0 K[i] && (!d || decide (K[i].other < a))) = false → (a, d) = visitAt n s0 (0, false) (K.take (i + 1)) := fun hf => by
      rw [hst, if_neg (by show ¬ (visitB n s0 K[i] && (!d || decide (K[i].other < a))) = true; rw [hf]; decide)]
    have hit : (visitB n s0 K[i] && (!d || decide (K[i].other < a))) = true → (K[i].other, true) = visitAt n s0 (0, false) (K.take (i + 1)) := fun hf => by
      rw [hst, if_pos hf]
    refine ⟨i, b, o, rfl, hlt, hA, ?_⟩
    refine ⟨.int .u8 K[i].kind, hc 2 _ rfl, ?_⟩
    refine brE_dec (fun k0 => ?_) (fun k0 => ?_)
    · have k0 : K[i].kind = 8 := k0
      refine ⟨i, b, o, rfl, hlt, hA, ?_⟩
      refine ⟨.int .i64 K[i].who, hc 3 _ rfl, ?_⟩
      refine brE_dec (fun k1 => ?_) (fun k1 => ?_)
      · have k1 : K[i].who = n := k1
        refine ⟨i, b, o, rfl, hlt, hA, ?_⟩
        refine ⟨.int .i64 K[i].what, hc 4 _ rfl, ?_⟩
        refine brE_dec (fun k2 => ?_) (fun k2 => ?_)
        · have k2 : K[i].what = s0 := k2
          have hv : visitB n s0 K[i] = true := decide_eq_true ⟨k0, k1, k2⟩
          cases d with
          | false =>
            refine ⟨i, b, o, rfl, hlt, hA, ?_⟩
            refine ⟨.int .i64 K[i].other, hc 5 _ rfl, ?_⟩
            refine ⟨_, next, ?_⟩
            exact ⟨(i + 1, K[i].other, true), ⟨rfl, rfl, rfl, rfl, rfl, rfl, trivial⟩, ⟨rfl, hlt, hit (by rw [hv]; rfl)⟩, by show K.length - (i + 1) < K.length - i; omega⟩
          | true =>
            refine ⟨i, b, o, rfl, hlt, hA, ?_⟩
            refine ⟨.int .i64 K[i].other, hc 5 _ rfl, ?_⟩
            refine brE_dec (fun k3 => ?_) (fun k3 => ?_)
            · have k3 : K[i].other < a := k3
              refine ⟨i, b, o, rfl, hlt, hA, ?_⟩
              refine ⟨.int .i64 K[i].other, hc 5 _ rfl, ?_⟩
              refine ⟨_, next, ?_⟩
              exact ⟨(i + 1, K[i].other, true), ⟨rfl, rfl, rfl, rfl, rfl, rfl, trivial⟩, ⟨rfl, hlt, hit (by rw [hv, decide_eq_true k3]; rfl)⟩, by show K.length - (i + 1) < K.length - i; omega⟩
            · have k3 : ¬ K[i].other < a := k3
              refine ⟨_, next, ?_⟩
              exact ⟨(i + 1, a, true), ⟨rfl, rfl, rfl, rfl, rfl, rfl, trivial⟩, ⟨rfl, hlt, miss (by rw [hv, decide_eq_false k3]; rfl)⟩, by show K.length - (i + 1) < K.length - i; omega⟩
        · have k2 : ¬ K[i].what = s0 := k2
          have hv : visitB n s0 K[i] = false := decide_eq_false fun hh => k2 hh.2.2
          refine ⟨_, next, ?_⟩
          exact ⟨(i + 1, a, d), ⟨rfl, rfl, rfl, rfl, rfl, rfl, trivial⟩, ⟨rfl, hlt, miss (by rw [hv]; rfl)⟩, by show K.length - (i + 1) < K.length - i; omega⟩
      · have k1 : ¬ K[i].who = n := k1
        have hv : visitB n s0 K[i] = false := decide_eq_false fun hh => k1 hh.2.1
        refine ⟨_, next, ?_⟩
        exact ⟨(i + 1, a, d), ⟨rfl, rfl, rfl, rfl, rfl, rfl, trivial⟩, ⟨rfl, hlt, miss (by rw [hv]; rfl)⟩, by show K.length - (i + 1) < K.length - i; omega⟩
    · have k0 : ¬ K[i].kind = 8 := k0
      have hv : visitB n s0 K[i] = false := decide_eq_false fun hh => k0 hh.1
      refine ⟨_, next, ?_⟩
      exact ⟨(i + 1, a, d), ⟨rfl, rfl, rfl, rfl, rfl, rfl, trivial⟩, ⟨rfl, hlt, miss (by rw [hv]; rfl)⟩, by show K.length - (i + 1) < K.length - i; omega⟩
  · have : i = K.length := by have : ¬ (i : Int) < (K.length : Nat) := hge; omega
    rw [this, List.take_length] at ha
    exact ⟨by unfold visitL; rw [← ha], e1⟩

/-- The other one of the last marriage. -/
def mateL (K : List Fact) (n : Int) : Int × Bool := match lastP (marriedB n) K with
  | none => (0, false)
  | some x => (if x.who = n then x.other else x.who, true)
theorem spouse_mate (K : List Fact) (n : Int) : spouseL K n = if (!(mateL K n).2 || (deadB K n || deadB K (mateL K n).1)) = true then (0, false) else ((mateL K n).1, true) := by
  unfold spouseL mateL
  cases hL : lastP (marriedB n) K with
  | none => rfl
  | some x =>
    have hm : x.kind = 6 ∧ (x.who = n ∨ x.other = n) := of_decide_eq_true (lastP_some hL).2
    dsimp only
    by_cases hw : x.who = n
    · simp only [hw, if_true, Bool.not_true, Bool.false_or]
    · have ho := hm.2.resolve_left hw
      simp only [hw, ho, if_false, Bool.not_true, Bool.false_or]
      rw [Bool.or_comm]

set_option maxRecDepth 100000 in
theorem refSpouse_spec {w : World} {A : Option Addr} {l : List Fact} {c : Nat} (h : HF w A l c) (hl : l.length ≤ 2 ^ 20) (k day n : Int) :
    CallsV C.P 73 #[.slice A l.length c, .int .i64 k, .int .i64 day, .int .i64 n] w fun v w' => v = .tuple #[.int .i64 (spouseL (atL k day l) n).1, .bool (spouseL (atL k day l) n).2] ∧ Ext w w' := by
  refine callsV_of C_ok (args := [_, _, _, _]) (plans := []) Tryz.func73 rfl Tryz.ntmps73 (by kernel_rfl) (Nat.le_of_ble_eq_true rfl) ?_
  refine (refAt_spec h hl k day).mono ?_
  rintro v0 w1 ⟨ho, e1⟩
  have hK := atL_length k day l
  generalize atL k day l = K at *
  obtain ⟨AK, cK, rfl, hrK, _⟩ := ho.slice
  rw [spouse_mate]
  refine loopE C_ok (fun (s : Nat × Int × Bool) => [(3, .int .i64 n), (10, .slice AK K.length cK), (11, .int .i64 s.2.1), (12, .bool s.2.2), (13, .int .i64 s.1)])
    (fun s w' => w' = w1 ∧ s.1 ≤ K.length ∧ s.2 = mateL (K.take s.1) n) (fun s => K.length - s.1) (0, 0, false) ⟨rfl, rfl, rfl, rfl, rfl, trivial⟩ ⟨rfl, Nat.zero_le _, rfl⟩ ?_
  rintro ⟨i, a, d⟩ w2 ⟨rfl, hi', ha'⟩
  have hi : i ≤ K.length := hi'
  have ha : (a, d) = mateL (K.take i) n := ha'
  clear hi' ha'
  refine brE_dec (fun hlt2 => ?_) (fun hge => ?_)
  · have hlt : i < K.length := by have : (i : Int) < (K.length : Nat) := hlt2; omega
    clear hlt2
    have next : IntKind.i64.wrap ((i : Int) + 1) = ((i + 1 : Nat) : Int) := fit ⟨by omega, by omega⟩
    obtain ⟨b, o, hA, hc⟩ := Reads.fact hrK hlt
    have hst := lastP_take (p := marriedB n) hlt
    have miss : marriedB n K[i] = false → (a, d) = mateL (K.take (i + 1)) n := fun hf => by
      rw [ha]; unfold mateL; rw [hst, if_neg (by rw [hf]; decide)]
    have hit : marriedB n K[i] = true → ((if K[i].who = n then K[i].other else K[i].who), true) = mateL (K.take (i + 1)) n := fun hf => by
      unfold mateL; rw [hst, if_pos hf]
    refine ⟨i, b, o, rfl, hlt, hA, ?_⟩
    refine ⟨.int .u8 K[i].kind, hc 2 _ rfl, ?_⟩
    refine brE_ndec (fun k0 => ?_) (fun k0 => ?_)
    · have k0 : ¬ K[i].kind = 6 := k0
      refine ⟨_, next, ?_⟩
      exact ⟨(i + 1, a, d), ⟨rfl, rfl, rfl, rfl, rfl, trivial⟩, ⟨rfl, hlt, miss (decide_eq_false fun hh => k0 hh.1)⟩, by show K.length - (i + 1) < K.length - i; omega⟩
    · have k0 : K[i].kind = 6 := k0
      refine ⟨i, b, o, rfl, hlt, hA, ?_⟩
      refine ⟨.int .i64 K[i].who, hc 3 _ rfl, ?_⟩
      refine brE_dec (fun k1 => ?_) (fun k1 => ?_)
      · have k1 : K[i].who = n := k1
        have hh := hit (decide_eq_true ⟨k0, .inl k1⟩)
        rw [if_pos k1] at hh
        refine ⟨i, b, o, rfl, hlt, hA, ?_⟩
        refine ⟨.int .i64 K[i].other, hc 5 _ rfl, ?_⟩
        refine ⟨_, next, ?_⟩
        exact ⟨(i + 1, K[i].other, true), ⟨rfl, rfl, rfl, rfl, rfl, trivial⟩, ⟨rfl, hlt, hh⟩, by show K.length - (i + 1) < K.length - i; omega⟩
      · have k1 : ¬ K[i].who = n := k1
        refine ⟨i, b, o, rfl, hlt, hA, ?_⟩
        refine ⟨.int .i64 K[i].other, hc 5 _ rfl, ?_⟩
        refine brE_dec (fun k2 => ?_) (fun k2 => ?_)
        · have k2 : K[i].other = n := k2
          have hh := hit (decide_eq_true ⟨k0, .inr k2⟩)
          rw [if_neg k1] at hh
          refine ⟨i, b, o, rfl, hlt, hA, ?_⟩
          refine ⟨.int .i64 K[i].who, hc 3 _ rfl, ?_⟩
          refine ⟨_, next, ?_⟩
          exact ⟨(i + 1, K[i].who, true), ⟨rfl, rfl, rfl, rfl, rfl, trivial⟩, ⟨rfl, hlt, hh⟩, by show K.length - (i + 1) < K.length - i; omega⟩
        · have k2 : ¬ K[i].other = n := k2
          refine ⟨_, next, ?_⟩
          exact ⟨(i + 1, a, d), ⟨rfl, rfl, rfl, rfl, rfl, trivial⟩, ⟨rfl, hlt, miss (decide_eq_false fun hh => hh.2.elim k1 k2)⟩, by show K.length - (i + 1) < K.length - i; omega⟩
  · have : i = K.length := by have : ¬ (i : Int) < (K.length : Nat) := hge; omega
    rw [this, List.take_length] at ha
    rw [← ha]
    refine (refdead_spec hrK (by omega) n).mono ?_
    rintro _ w3 ⟨rfl, rfl⟩
    refine (refdead_spec hrK (by omega) a).mono ?_
    rintro _ w4 ⟨rfl, rfl⟩
    cases d with
    | false => exact ⟨rfl, e1⟩
    | true =>
      dsimp only
      cases hd1 : deadB K n with
      | true => exact ⟨rfl, e1⟩
      | false =>
        cases hd2 : deadB K a with
        | true => exact ⟨rfl, e1⟩
        | false => exact ⟨rfl, e1⟩

set_option maxRecDepth 100000 in
theorem refPrincipal_spec {w : World} {A : Option Addr} {l : List Fact} {c : Nat} (h : HF w A l c) (hl : l.length ≤ 2 ^ 20) (k day p : Int) :
    CallsV C.P 74 #[.slice A l.length c, .int .i64 k, .int .i64 day, .int .i64 p] w fun v w' => v = .tuple #[.int .i64 (princL (atL k day l) p).1, .bool (princL (atL k day l) p).2] ∧ Ext w w' := by
  refine callsV_of C_ok (args := [_, _, _, _]) (plans := []) Tryz.func74 rfl Tryz.ntmps74 (by kernel_rfl) (Nat.le_of_ble_eq_true rfl) ?_
  refine (refAt_spec h hl k day).mono ?_
  rintro v0 w1 ⟨ho, e1⟩
  have hK := atL_length k day l
  generalize atL k day l = K at *
  obtain ⟨AK, cK, rfl, hrK, _⟩ := ho.slice
  have hK2 : K.length ≤ 2 ^ 20 := by omega
  have hother : ∀ {q y : Int}, nextL K q = some y → y ∈ K.map Fact.other := fun {q y} hn => by
    unfold nextL at hn
    obtain ⟨x, hx, rfl⟩ := Option.map_eq_some_iff.1 hn
    exact List.mem_map.2 ⟨x, (lastP_some hx).1, rfl⟩
  have hstart : princL K p = princAt K (K.length + 1 + 1) [] p := rfl
  rw [princAt, if_neg (by simp)] at hstart
  intro g w2 h2
  have ho2 : NewInts w1.heap.size w2 (.slice (some ⟨g, 0, none⟩) 1 1) [p] := owns_block (cs := [.int .i64 p]) h2.here (by rw [h2.new]; exact Nat.le_refl _) rfl (by simp only [maxLen]; omega)
  refine (next_spec (hrK.ext h2.ext) hK2 p).mono ?_
  rintro _ w3 ⟨rfl, rfl⟩
  cases hn : nextL K p with
  | none =>
    rw [hn] at hstart
    exact ⟨by rw [hstart]; rfl, e1.trans h2.ext⟩
  | some q0 =>
    rw [hn] at hstart
    have hstart : princL K p = princAt K (K.length + 2 - 1) [p] q0 := hstart
    refine loopE C_ok (fun (t : Value × List Int × Int) => [(10, .slice AK K.length cK), (11, t.1), (12, .int .i64 t.2.2)])
      (fun t w' => Ext w1 w' ∧ NewInts w1.heap.size w' t.1 t.2.1 ∧ t.2.1.Nodup ∧ (∀ x ∈ t.2.1, x ∈ p :: K.map Fact.other) ∧ t.2.2 ∈ p :: K.map Fact.other ∧ 1 ≤ t.2.1.length ∧ princL K p = princAt K (K.length + 2 - t.2.1.length) t.2.1 t.2.2) (fun t => K.length + 2 - t.2.1.length) (.slice (some ⟨g, 0, none⟩) 1 1, [p], q0)
      ⟨rfl, rfl, rfl, trivial⟩ ⟨h2.ext, ho2, by simp, by simp, List.mem_cons_of_mem _ (hother hn), Nat.le_refl _, hstart⟩ ?_
    rintro ⟨v, met, q⟩ w4 ⟨e4', ho4', hnd', hsub', hq', h1', hpr'⟩
    have e4 : Ext w1 w4 := e4'
    have ho4 : NewInts w1.heap.size w4 v met := ho4'
    have hnd : met.Nodup := hnd'
    have hsub : ∀ x ∈ met, x ∈ p :: K.map Fact.other := hsub'
    have hq : q ∈ p :: K.map Fact.other := hq'
    have h1 : 1 ≤ met.length := h1'
    have hpr : princL K p = princAt K (K.length + 2 - met.length) met q := hpr'
    clear e4' ho4' hnd' hsub' hq' h1' hpr'
    have hlen := nodup_length_le hnd hsub
    simp only [List.length_cons, List.length_map] at hlen
    obtain ⟨n, hnn⟩ : ∃ n, K.length + 2 - met.length = n + 1 := ⟨K.length + 1 - met.length, by omega⟩
    rw [hnn, princAt] at hpr
    obtain ⟨AM, cM, rfl, hrM, _⟩ := NewInts.slice ho4
    refine (in_spec hrM (by omega) q).mono ?_
    rintro _ w5 ⟨rfl, rfl⟩
    refine brE_dec (fun a1 => ?_) (fun a1 => ?_)
    · rw [if_pos a1] at hpr
      exact ⟨by rw [hpr], e1.trans e4⟩
    rw [if_neg a1] at hpr
    intro g6 w6 h6
    have ho6 := ho4.ext h6.ext
    have e6 := e4.trans h6.ext
    refine ⟨rfl, rfl, rfl, w1.heap.size, _, _, [.int .i64 q], ho6, e6.size, Nat.le_of_ble_eq_true rfl, rfl, rfl, .inr ⟨g6, 0, rfl, Rd.of_block h6.here⟩, rfl, rfl, by omega, by simp only [maxLen]; omega, ?_⟩
    intro v7 w7 ho7 hg7 _
    have e7 := app_ext e6 ho6 hg7
    have ho7 := newInts_snoc ho7
    refine (next_spec (hrK.ext e7) hK2 q).mono ?_
    rintro _ w8 ⟨rfl, rfl⟩
    cases hn2 : nextL K q with
    | none =>
      rw [hn2] at hpr
      have hpr : princL K p = if met.length = 0 then (0, false) else (q, true) := hpr
      rw [if_neg (by omega)] at hpr
      exact ⟨by rw [hpr], e1.trans e7⟩
    | some q2 =>
      rw [hn2] at hpr
      have hpr : princL K p = princAt K n (met ++ [q]) q2 := hpr
      have hlm : (met ++ [q]).length = met.length + 1 := by simp
      refine ⟨(v7, met ++ [q], q2), ⟨rfl, rfl, rfl, trivial⟩, ⟨e7, ho7, ?_, ?_, List.mem_cons_of_mem _ (hother hn2), by show 1 ≤ (met ++ [q]).length; omega, ?_⟩, by show K.length + 2 - (met ++ [q]).length < K.length + 2 - met.length; omega⟩
      · exact List.nodup_append.2 ⟨hnd, by simp, fun x hx y hy e => by rw [List.mem_singleton.1 hy] at e; subst e; exact a1 hx⟩
      · intro x hx
        rcases List.mem_append.1 hx with hx | hx
        · exact hsub x hx
        · rw [List.mem_singleton.1 hx]; exact hq
      · show princL K p = princAt K (K.length + 2 - (met ++ [q]).length) (met ++ [q]) q2
        rw [hlm, show K.length + 2 - (met.length + 1) = n by omega]
        exact hpr

end Go.Proofs.YthpdkdmbfdmamaaGreatDoor
