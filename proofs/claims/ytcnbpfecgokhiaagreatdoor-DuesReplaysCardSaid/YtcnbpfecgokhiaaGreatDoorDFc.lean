/- a part of the proof: steps, walks and plain laws that the law below stands on; no condition. -/
import Derived.Test.YtcnbpfecgokhiaaGreatDoorDFb
set_option linter.unusedVariables false
set_option linter.unusedSimpArgs false
set_option linter.unnecessarySimpa false
set_option linter.unusedSectionVars false
namespace Go.Proofs.YtcnbpfecgokhiaaGreatDoor
open Go.Eng Go.RowKit

/-! ### plainly -/
theorem insD_lt {n : Int} {b : List Int} : ∀ {a : List Int}, (∀ x ∈ a, x < n) → insD n (a ++ b) = a ++ insD n b
  | [], _ => rfl
  | x :: r, h => by
    have hx := h x (by simp)
    rw [List.cons_append, insD, if_neg (by omega), if_neg (by omega), insD_lt (fun y hy => h y (by simp [hy]))]; rfl
theorem insD_ge {n : Int} {b : List Int} : ∀ {a : List Int}, (a ++ b).Pairwise (· < ·) → (∃ x ∈ a, n ≤ x) → insD n (a ++ b) = insD n a ++ b
  | [], _, h => by obtain ⟨x, hx, _⟩ := h; cases hx
  | x :: r, hp, h => by
    obtain ⟨h1, h2⟩ := List.pairwise_cons.1 hp
    rw [List.cons_append, insD, insD]
    split
    · rfl
    split
    · rfl
    rename_i h3 h4
    rw [insD_ge h2 ?_]; rfl
    obtain ⟨y, hy, hny⟩ := h
    rcases List.mem_cons.1 hy with rfl | hy
    · omega
    · exact ⟨y, hy, hny⟩

def wstep (n : Int) (s : Bool × List Int) (y : Int) : Bool × List Int :=
  ((if s.1 = false ∧ n ≤ y then (true, s.2 ++ [n]) else s).1, if y ≠ n then (if s.1 = false ∧ n ≤ y then (true, s.2 ++ [n]) else s).2 ++ [y] else (if s.1 = false ∧ n ≤ y then (true, s.2 ++ [n]) else s).2)
def wrun (n : Int) (l : List Int) : Bool × List Int := l.foldl (wstep n) (false, [])
def wstate (n : Int) (l : List Int) (s : Bool × List Int) : Prop := (s = (false, l) ∧ ∀ x ∈ l, x < n) ∨ (s = (true, insD n l) ∧ ∃ x ∈ l, n ≤ x)
theorem wstate_step {n y : Int} {a : List Int} {s : Bool × List Int} (hp : (a ++ [y]).Pairwise (· < ·)) (h : wstate n a s) : wstate n (a ++ [y]) (wstep n s y) := by
  rcases h with ⟨rfl, hl⟩ | ⟨rfl, x, hx, hnx⟩
  · unfold wstep
    by_cases hny : n ≤ y
    · simp only [hny, and_self, if_true]
      refine .inr ⟨?_, y, by simp, hny⟩
      rw [insD_lt hl, insD, insD]
      by_cases he : y = n
      · subst he; simp
      · have hlt : n < y := by omega
        simp [he, hlt]
    · simp only [hny, and_false, if_false]
      refine .inl ⟨?_, fun x hx => ?_⟩
      · rw [if_pos (by omega)]
      · rcases List.mem_append.1 hx with hx | hx
        · exact hl x hx
        · rw [List.mem_singleton.1 hx]; omega
  · have hxy : x < y := (List.pairwise_append.1 hp).2.2 x hx y (by simp)
    refine .inr ⟨?_, x, by simp [hx], hnx⟩
    unfold wstep
    simp only [Bool.true_eq_false, false_and, if_false]
    rw [if_pos (by omega), insD_ge hp ⟨x, hx, hnx⟩]
theorem wrun_state {n : Int} : ∀ (r a : List Int) (s : Bool × List Int), (a ++ r).Pairwise (· < ·) → wstate n a s → wstate n (a ++ r) (r.foldl (wstep n) s)
  | [], a, s, _, h => by rw [List.append_nil]; exact h
  | y :: r, a, s, hp, h => by
    have e : a ++ y :: r = (a ++ [y]) ++ r := by simp
    rw [e] at hp ⊢
    exact wrun_state r (a ++ [y]) _ hp (wstate_step (List.pairwise_append.1 hp).1 h)
theorem wrun_eq {n : Int} {l : List Int} (hp : l.Pairwise (· < ·)) : (if (wrun n l).1 = true then (wrun n l).2 else (wrun n l).2 ++ [n]) = insD n l := by
  rcases wrun_state l [] (false, []) hp (.inl ⟨rfl, fun x hx => by cases hx⟩) with ⟨h, hl⟩ | ⟨h, _⟩
  · have h : wrun n l = (false, l) := h
    have hl : ∀ x ∈ l, x < n := hl
    rw [h, if_neg (by simp)]
    have := insD_lt (n := n) (a := l) (b := []) hl
    rw [List.append_nil] at this
    rw [this]; rfl
  · have h : wrun n l = (true, insD n l) := h
    rw [h, if_pos rfl]
theorem wrun_take {n : Int} {l : List Int} {i : Nat} (hi : i < l.length) : wrun n (l.take (i + 1)) = wstep n (wrun n (l.take i)) l[i] := by
  unfold wrun
  rw [List.take_succ_eq_append_getElem hi, List.foldl_append]; rfl
theorem wstep_length (n : Int) (s : Bool × List Int) (y : Int) : (wstep n s y).2.length ≤ s.2.length + 2 := by
  unfold wstep
  dsimp only
  split <;> split <;> simp
theorem wrun_length (n : Int) (l : List Int) : ∀ (s : Bool × List Int), (l.foldl (wstep n) s).2.length ≤ s.2.length + 2 * l.length := by
  induction l with
  | nil => intro s; simp
  | cons y r ih =>
    intro s
    rw [List.foldl_cons, List.length_cons]
    have h1 := ih (wstep n s y)
    have h2 := wstep_length n s y
    omega

/-! ### the walks -/
theorem newInts_snoc {B : Nat} {w : World} {v : Value} {l : List Int} {x : Int} (h : w.ownsRow B 3 1 v (l.length + 1) (ints l ++ [.int .i64 x])) : NewInts B w v (l ++ [x]) := by
  unfold NewInts
  rw [ints_append, List.length_append]
  exact h

set_option maxRecDepth 100000 in
theorem with_spec {w : World} {A : Option Addr} {xs : List Int} {c : Nat} (hr : Reads w A (ints xs)) (hl : xs.length ≤ 2 ^ 30) (hp : xs.Pairwise (· < ·)) (n : Int) :
    CallsV C.P 197 #[.slice A xs.length c, .int .i64 n] w fun v w' => NewInts w.heap.size w' v (insD n xs) ∧ Ext w w' := by
  refine callsV_of C_ok (args := [_, _]) (plans := []) Tryz.func197 rfl Tryz.ntmps197 (by kernel_rfl) (Nat.le_of_ble_eq_true rfl) ?_
  have hlen : ∀ i, (wrun n (xs.take i)).2.length ≤ 2 ^ 32 := fun i => by
    have h1 := wrun_length n (xs.take i) (false, [])
    have h2 : (xs.take i).length ≤ xs.length := by rw [List.length_take]; omega
    have h3 : (([] : List Int)).length = 0 := rfl
    show ((xs.take i).foldl (wstep n) (false, [])).2.length ≤ _
    dsimp only at h1; omega
  rw [← wrun_eq hp]
  refine loopE C_ok (fun (s : Nat × Value × Bool) => [(0, .slice A xs.length c), (1, .int .i64 n), (5, s.2.1), (6, .bool s.2.2), (7, .int .i64 s.1)])
    (fun s w' => s.1 ≤ xs.length ∧ Ext w w' ∧ NewInts w.heap.size w' s.2.1 (wrun n (xs.take s.1)).2 ∧ s.2.2 = (wrun n (xs.take s.1)).1) (fun s => xs.length - s.1) (0, .slice none 0 0, false)
    ⟨rfl, rfl, rfl, rfl, rfl, trivial⟩ ⟨Nat.zero_le _, Ext.refl _, newInts_nil _ _, rfl⟩ ?_
  rintro ⟨i, v, b⟩ w1 ⟨hi', e1, ho', hb'⟩
  have hi : i ≤ xs.length := hi'
  have ho : NewInts w.heap.size w1 v (wrun n (xs.take i)).2 := ho'
  have hb : b = (wrun n (xs.take i)).1 := hb'
  clear hi' ho' hb'
  have hn1 := hlen i
  refine brE_dec (fun hlt2 => ?_) (fun hge => ?_)
  · have hlt : i < xs.length := by have : (i : Int) < (xs.length : Nat) := hlt2; omega
    clear hlt2
    have next : IntKind.i64.wrap ((i : Int) + 1) = ((i + 1 : Nat) : Int) := fit ⟨by omega, by omega⟩
    have hst := wrun_take (n := n) hlt
    have hn2 := hlen (i + 1)
    generalize wrun n (xs.take i) = S1 at *
    obtain ⟨b1, out⟩ := S1
    have ho : NewInts w.heap.size w1 v out := ho
    have hn1 : out.length ≤ 2 ^ 32 := hn1
    have hb : b = b1 := hb
    subst hb
    obtain ⟨p, o, hA, hc⟩ := Reads.int (hr.ext e1) hlt
    have fin : ∀ {w2 : World} {v2 : Value} {b2 : Bool} {out2 : List Int}, wrun n (xs.take (i + 1)) = (b2, out2) → Ext w w2 → NewInts w.heap.size w2 v2 out2 → i + 1 ≤ xs.length ∧ Ext w w2 ∧ NewInts w.heap.size w2 v2 (wrun n (xs.take (i + 1))).2 ∧ b2 = (wrun n (xs.take (i + 1))).1 := fun hS e hh => ⟨hlt, e, by rw [hS]; exact hh, by rw [hS]⟩
    have done : ∀ {w2 : World} {v2 : Value} {b2 : Bool} {out2 : List Int}, (b2, out2) = (if b = false ∧ n ≤ xs[i] then (true, out ++ [n]) else (b, out)) → wrun n (xs.take (i + 1)) = (b2, if xs[i] ≠ n then out2 ++ [xs[i]] else out2) := fun hh => by
      rw [hst]; unfold wstep; dsimp only; rw [← hh]
    cases b with
    | true =>
      have hd := done (w2 := w1) (v2 := v) (b2 := true) (out2 := out) (by simp)
      refine ⟨i, p, o, rfl, hlt, hA, ?_⟩
      refine ⟨_, by simpa using hc, ?_⟩
      refine brE_ndec (fun hx => ?_) (fun hx => ?_)
      · have hx : xs[i] ≠ n := hx
        rw [if_pos hx] at hd
        refine ⟨i, p, o, rfl, hlt, hA, ?_⟩
        refine ⟨_, by simpa using hc, ?_⟩
        intro g w2 h2
        have ho2 := ho.ext h2.ext
        refine ⟨rfl, rfl, rfl, w.heap.size, _, _, [.int .i64 xs[i]], ho2, (e1.trans h2.ext).size, Nat.le_of_ble_eq_true rfl, rfl, rfl, .inr ⟨g, 0, rfl, Rd.of_block h2.here⟩, rfl, rfl, by omega, by simp only [maxLen]; omega, ?_⟩
        intro v3 w3 ho3 hg3 _
        refine ⟨_, next, ?_⟩
        exact ⟨(i + 1, v3, true), ⟨rfl, rfl, rfl, rfl, rfl, trivial⟩, fin hd (app_ext (e1.trans h2.ext) ho2 hg3) (newInts_snoc ho3), by show xs.length - (i + 1) < xs.length - i; omega⟩
      · have hx : xs[i] = n := hx
        rw [if_neg (by simp [hx])] at hd
        refine ⟨_, next, ?_⟩
        exact ⟨(i + 1, v, true), ⟨rfl, rfl, rfl, rfl, rfl, trivial⟩, fin hd e1 ho, by show xs.length - (i + 1) < xs.length - i; omega⟩
    | false =>
      refine ⟨i, p, o, rfl, hlt, hA, ?_⟩
      refine ⟨_, by simpa using hc, ?_⟩
      refine brE_dec (fun hn => ?_) (fun hn => ?_)
      · have hn : n ≤ xs[i] := hn
        have hd := done (w2 := w1) (v2 := v) (b2 := true) (out2 := out ++ [n]) (by simp [hn])
        intro g w2 h2
        have ho2 := ho.ext h2.ext
        refine ⟨rfl, rfl, rfl, w.heap.size, _, _, [.int .i64 n], ho2, (e1.trans h2.ext).size, Nat.le_of_ble_eq_true rfl, rfl, rfl, .inr ⟨g, 0, rfl, Rd.of_block h2.here⟩, rfl, rfl, by omega, by simp only [maxLen]; omega, ?_⟩
        intro v3 w3 ho3 hg3 _
        have e3 := app_ext (e1.trans h2.ext) ho2 hg3
        have ho3 := newInts_snoc ho3
        obtain ⟨p, o, hA, hc⟩ := Reads.int (hr.ext e3) hlt
        refine ⟨i, p, o, rfl, hlt, hA, ?_⟩
        refine ⟨_, by simpa using hc, ?_⟩
        refine brE_ndec (fun hx => ?_) (fun hx => ?_)
        · have hx : xs[i] ≠ n := hx
          rw [if_pos hx] at hd
          refine ⟨i, p, o, rfl, hlt, hA, ?_⟩
          refine ⟨_, by simpa using hc, ?_⟩
          intro g w4 h4
          have ho4 := ho3.ext h4.ext
          have hll : (out ++ [n]).length = out.length + 1 := by simp
          have hll2 : ((false, out).2 ++ [n]).length = out.length + 1 := hll
          refine ⟨rfl, rfl, rfl, w.heap.size, _, _, [.int .i64 xs[i]], ho4, (e3.trans h4.ext).size, Nat.le_of_ble_eq_true rfl, rfl, rfl, .inr ⟨g, 0, rfl, Rd.of_block h4.here⟩, rfl, rfl, by omega, by simp only [maxLen]; omega, ?_⟩
          intro v5 w5 ho5 hg5 _
          refine ⟨_, next, ?_⟩
          exact ⟨(i + 1, v5, true), ⟨rfl, rfl, rfl, rfl, rfl, trivial⟩, fin hd (app_ext (e3.trans h4.ext) ho4 hg5) (newInts_snoc ho5), by show xs.length - (i + 1) < xs.length - i; omega⟩
        · have hx : xs[i] = n := hx
          rw [if_neg (by simp [hx])] at hd
          refine ⟨_, next, ?_⟩
          exact ⟨(i + 1, v3, true), ⟨rfl, rfl, rfl, rfl, rfl, trivial⟩, fin hd e3 ho3, by show xs.length - (i + 1) < xs.length - i; omega⟩
      · have hn : ¬ n ≤ xs[i] := hn
        have hd := done (w2 := w1) (v2 := v) (b2 := false) (out2 := out) (by simp [hn])
        refine ⟨i, p, o, rfl, hlt, hA, ?_⟩
        refine ⟨_, by simpa using hc, ?_⟩
        refine brE_ndec (fun hx => ?_) (fun hx => ?_)
        · have hx : xs[i] ≠ n := hx
          rw [if_pos hx] at hd
          refine ⟨i, p, o, rfl, hlt, hA, ?_⟩
          refine ⟨_, by simpa using hc, ?_⟩
          intro g w2 h2
          have ho2 := ho.ext h2.ext
          refine ⟨rfl, rfl, rfl, w.heap.size, _, _, [.int .i64 xs[i]], ho2, (e1.trans h2.ext).size, Nat.le_of_ble_eq_true rfl, rfl, rfl, .inr ⟨g, 0, rfl, Rd.of_block h2.here⟩, rfl, rfl, by omega, by simp only [maxLen]; omega, ?_⟩
          intro v3 w3 ho3 hg3 _
          refine ⟨_, next, ?_⟩
          exact ⟨(i + 1, v3, false), ⟨rfl, rfl, rfl, rfl, rfl, trivial⟩, fin hd (app_ext (e1.trans h2.ext) ho2 hg3) (newInts_snoc ho3), by show xs.length - (i + 1) < xs.length - i; omega⟩
        · have hx : xs[i] = n := hx
          rw [if_neg (by simp [hx])] at hd
          refine ⟨_, next, ?_⟩
          exact ⟨(i + 1, v, false), ⟨rfl, rfl, rfl, rfl, rfl, trivial⟩, fin hd e1 ho, by show xs.length - (i + 1) < xs.length - i; omega⟩
  · have : i = xs.length := by have : ¬ (i : Int) < (xs.length : Nat) := hge; omega
    subst this
    rw [List.take_length] at ho hb hn1
    generalize wrun n xs = S at *
    obtain ⟨b1, out⟩ := S
    have hb : b = b1 := hb
    subst hb
    have ho : NewInts w.heap.size w1 v out := ho
    have hn1 : out.length ≤ 2 ^ 32 := hn1
    cases b with
    | true => exact ⟨ho, e1⟩
    | false =>
      intro g w2 h2
      have ho2 := ho.ext h2.ext
      refine ⟨rfl, rfl, rfl, w.heap.size, _, _, [.int .i64 n], ho2, (e1.trans h2.ext).size, Nat.le_of_ble_eq_true rfl, rfl, rfl, .inr ⟨g, 0, rfl, Rd.of_block h2.here⟩, rfl, rfl, by omega, by simp only [maxLen]; omega, ?_⟩
      intro v3 w3 ho3 hg3 _
      exact ⟨newInts_snoc ho3, app_ext (e1.trans h2.ext) ho2 hg3⟩

end Go.Proofs.YtcnbpfecgokhiaaGreatDoor

namespace Go.Proofs.YtcnbpfecgokhiaaGreatDoor
open Go.Eng Go.RowKit

theorem any_step {α : Type} {p : α → Bool} {K : List α} {i : Nat} (hi : i < K.length) : (K.take (i + 1)).any p = ((K.take i).any p || p K[i]) := by
  rw [List.take_succ_eq_append_getElem hi, List.any_append]; simp
theorem any_hit {α : Type} {p : α → Bool} {K : List α} {i : Nat} (hi : i < K.length) (h : p K[i] = true) : K.any p = true := List.any_eq_true.2 ⟨K[i], List.getElem_mem hi, h⟩

set_option maxRecDepth 100000 in
theorem refdead_spec {w1 : World} {AK : Option Addr} {K : List Fact} {cK : Nat} (hrK : Reads w1 AK (fcells K)) (hK : K.length ≤ 2 ^ 20) (n : Int) :
    CallsV C.P 196 #[.slice AK K.length cK, .int .i64 n] w1 fun v w' => v = .bool (deadB K n) ∧ w' = w1 := by
  refine callsV_of C_ok (args := [_, _]) (plans := []) Tryz.func196 rfl Tryz.ntmps196 (by kernel_rfl) (Nat.le_of_ble_eq_true rfl) ?_
  unfold deadB
  refine loopE C_ok (fun (s : Nat × Unit) => [(0, .slice AK K.length cK), (1, .int .i64 n), (5, .int .i64 s.1)])
    (fun s w' => w' = w1 ∧ s.1 ≤ K.length ∧ (K.take s.1).any (deathB n) = false) (fun s => K.length - s.1) (0, ()) ⟨rfl, rfl, rfl, trivial⟩ ⟨rfl, Nat.zero_le _, by simp⟩ ?_
  rintro ⟨i, u⟩ w2 ⟨rfl, hi', ha'⟩
  have hi : i ≤ K.length := hi'
  have ha : (K.take i).any (deathB n) = false := ha'
  clear hi' ha'
  refine brE_dec (fun hlt2 => ?_) (fun hge => ?_)
  · have hlt : i < K.length := by have : (i : Int) < (K.length : Nat) := hlt2; omega
    clear hlt2
    have next : IntKind.i64.wrap ((i : Int) + 1) = ((i + 1 : Nat) : Int) := fit ⟨by omega, by omega⟩
    obtain ⟨b, o, hA, hc⟩ := Reads.fact hrK hlt
    refine ⟨i, b, o, rfl, hlt, hA, ?_⟩
    refine ⟨.int .u8 K[i].kind, hc 2 _ rfl, ?_⟩
    refine brE_dec (fun k0 => ?_) (fun k0 => ?_)
    · have k0 : K[i].kind = 10 := k0
      refine ⟨i, b, o, rfl, hlt, hA, ?_⟩
      refine ⟨.int .i64 K[i].who, hc 3 _ rfl, ?_⟩
      refine brE_dec (fun k1 => ?_) (fun k1 => ?_)
      · have k1 : K[i].who = n := k1
        have hp : (deathB n) K[i] = true := decide_eq_true ⟨k0, k1⟩
        exact ⟨by rw [any_hit (p := deathB n) hlt hp], rfl⟩
      · have k1 : ¬ K[i].who = n := k1
        have hp : (deathB n) K[i] = false := decide_eq_false fun hh => k1 hh.2
        refine ⟨_, next, ?_⟩
        exact ⟨(i + 1, ()), ⟨rfl, rfl, rfl, trivial⟩, ⟨rfl, hlt, by show (K.take (i + 1)).any (deathB n) = false; rw [any_step hlt, ha]; exact hp⟩, by show K.length - (i + 1) < K.length - i; omega⟩
    · have k0 : ¬ K[i].kind = 10 := k0
      have hp : (deathB n) K[i] = false := decide_eq_false fun hh => k0 hh.1
      refine ⟨_, next, ?_⟩
      exact ⟨(i + 1, ()), ⟨rfl, rfl, rfl, trivial⟩, ⟨rfl, hlt, by show (K.take (i + 1)).any (deathB n) = false; rw [any_step hlt, ha]; exact hp⟩, by show K.length - (i + 1) < K.length - i; omega⟩
  · have : i = K.length := by have : ¬ (i : Int) < (K.length : Nat) := hge; omega
    rw [this, List.take_length] at ha
    exact ⟨by rw [ha], rfl⟩

set_option maxRecDepth 100000 in
theorem numbered_spec {w1 : World} {AK : Option Addr} {K : List Fact} {cK : Nat} (hrK : Reads w1 AK (fcells K)) (hK : K.length ≤ 2 ^ 20) (n : Int) :
    CallsV C.P 168 #[.slice AK K.length cK, .int .i64 n] w1 fun v w' => v = .bool (idIn K n) ∧ w' = w1 := by
  refine callsV_of C_ok (args := [_, _]) (plans := []) Tryz.func168 rfl Tryz.ntmps168 (by kernel_rfl) (Nat.le_of_ble_eq_true rfl) ?_
  unfold idIn
  refine loopE C_ok (fun (s : Nat × Unit) => [(0, .slice AK K.length cK), (1, .int .i64 n), (5, .int .i64 s.1)])
    (fun s w' => w' = w1 ∧ s.1 ≤ K.length ∧ (K.take s.1).any (fun y => decide (y.id = n)) = false) (fun s => K.length - s.1) (0, ()) ⟨rfl, rfl, rfl, trivial⟩ ⟨rfl, Nat.zero_le _, by simp⟩ ?_
  rintro ⟨i, u⟩ w2 ⟨rfl, hi', ha'⟩
  have hi : i ≤ K.length := hi'
  have ha : (K.take i).any (fun y => decide (y.id = n)) = false := ha'
  clear hi' ha'
  refine brE_dec (fun hlt2 => ?_) (fun hge => ?_)
  · have hlt : i < K.length := by have : (i : Int) < (K.length : Nat) := hlt2; omega
    clear hlt2
    have next : IntKind.i64.wrap ((i : Int) + 1) = ((i + 1 : Nat) : Int) := fit ⟨by omega, by omega⟩
    obtain ⟨b, o, hA, hc⟩ := Reads.fact hrK hlt
    refine ⟨i, b, o, rfl, hlt, hA, ?_⟩
    refine ⟨.int .i64 K[i].id, hc 0 _ rfl, ?_⟩
    refine brE_dec (fun k0 => ?_) (fun k0 => ?_)
    · have k0 : K[i].id = n := k0
      have hp : (fun y => decide (y.id = n)) K[i] = true := decide_eq_true k0
      exact ⟨by rw [any_hit (p := fun y => decide (y.id = n)) hlt hp], rfl⟩
    · have k0 : ¬ K[i].id = n := k0
      have hp : (fun y => decide (y.id = n)) K[i] = false := decide_eq_false fun hh => k0 hh
      refine ⟨_, next, ?_⟩
      exact ⟨(i + 1, ()), ⟨rfl, rfl, rfl, trivial⟩, ⟨rfl, hlt, by show (K.take (i + 1)).any (fun y => decide (y.id = n)) = false; rw [any_step hlt, ha]; exact hp⟩, by show K.length - (i + 1) < K.length - i; omega⟩
  · have : i = K.length := by have : ¬ (i : Int) < (K.length : Nat) := hge; omega
    rw [this, List.take_length] at ha
    exact ⟨by rw [ha], rfl⟩

set_option maxRecDepth 100000 in
theorem refnamed_spec {w1 : World} {AK : Option Addr} {K : List Fact} {cK : Nat} (hrK : Reads w1 AK (fcells K)) (hK : K.length ≤ 2 ^ 20) (n : Int) :
    CallsV C.P 169 #[.slice AK K.length cK, .int .i64 n] w1 fun v w' => v = .bool (namedIn K n) ∧ w' = w1 := by
  refine callsV_of C_ok (args := [_, _]) (plans := []) Tryz.func169 rfl Tryz.ntmps169 (by kernel_rfl) (Nat.le_of_ble_eq_true rfl) ?_
  unfold namedIn
  refine loopE C_ok (fun (s : Nat × Unit) => [(0, .slice AK K.length cK), (1, .int .i64 n), (5, .int .i64 s.1)])
    (fun s w' => w' = w1 ∧ s.1 ≤ K.length ∧ (K.take s.1).any (fun y => decide (y.kind = 1 ∧ y.who = n)) = false) (fun s => K.length - s.1) (0, ()) ⟨rfl, rfl, rfl, trivial⟩ ⟨rfl, Nat.zero_le _, by simp⟩ ?_
  rintro ⟨i, u⟩ w2 ⟨rfl, hi', ha'⟩
  have hi : i ≤ K.length := hi'
  have ha : (K.take i).any (fun y => decide (y.kind = 1 ∧ y.who = n)) = false := ha'
  clear hi' ha'
  refine brE_dec (fun hlt2 => ?_) (fun hge => ?_)
  · have hlt : i < K.length := by have : (i : Int) < (K.length : Nat) := hlt2; omega
    clear hlt2
    have next : IntKind.i64.wrap ((i : Int) + 1) = ((i + 1 : Nat) : Int) := fit ⟨by omega, by omega⟩
    obtain ⟨b, o, hA, hc⟩ := Reads.fact hrK hlt
    refine ⟨i, b, o, rfl, hlt, hA, ?_⟩
    refine ⟨.int .u8 K[i].kind, hc 2 _ rfl, ?_⟩
    refine brE_dec (fun k0 => ?_) (fun k0 => ?_)
    · have k0 : K[i].kind = 1 := k0
      refine ⟨i, b, o, rfl, hlt, hA, ?_⟩
      refine ⟨.int .i64 K[i].who, hc 3 _ rfl, ?_⟩
      refine brE_dec (fun k1 => ?_) (fun k1 => ?_)
      · have k1 : K[i].who = n := k1
        have hp : (fun y => decide (y.kind = 1 ∧ y.who = n)) K[i] = true := decide_eq_true ⟨k0, k1⟩
        exact ⟨by rw [any_hit (p := fun y => decide (y.kind = 1 ∧ y.who = n)) hlt hp], rfl⟩
      · have k1 : ¬ K[i].who = n := k1
        have hp : (fun y => decide (y.kind = 1 ∧ y.who = n)) K[i] = false := decide_eq_false fun hh => k1 hh.2
        refine ⟨_, next, ?_⟩
        exact ⟨(i + 1, ()), ⟨rfl, rfl, rfl, trivial⟩, ⟨rfl, hlt, by show (K.take (i + 1)).any (fun y => decide (y.kind = 1 ∧ y.who = n)) = false; rw [any_step hlt, ha]; exact hp⟩, by show K.length - (i + 1) < K.length - i; omega⟩
    · have k0 : ¬ K[i].kind = 1 := k0
      have hp : (fun y => decide (y.kind = 1 ∧ y.who = n)) K[i] = false := decide_eq_false fun hh => k0 hh.1
      refine ⟨_, next, ?_⟩
      exact ⟨(i + 1, ()), ⟨rfl, rfl, rfl, trivial⟩, ⟨rfl, hlt, by show (K.take (i + 1)).any (fun y => decide (y.kind = 1 ∧ y.who = n)) = false; rw [any_step hlt, ha]; exact hp⟩, by show K.length - (i + 1) < K.length - i; omega⟩
  · have : i = K.length := by have : ¬ (i : Int) < (K.length : Nat) := hge; omega
    rw [this, List.take_length] at ha
    exact ⟨by rw [ha], rfl⟩

set_option maxRecDepth 100000 in
theorem in1_spec {w : World} {A : Option Addr} {xs : List Int} {c : Nat} (hr : Reads w A (ints xs)) (hl : xs.length ≤ 2 ^ 40) (n : Int) :
    CallsV C.P 139 #[.slice A xs.length c, .int .i64 n] w fun v w' => v = .bool (decide (n ∈ xs)) ∧ w' = w := by
  refine callsV_of C_ok (args := [_, _]) (plans := []) Tryz.func139 rfl Tryz.ntmps139 (by kernel_rfl) (Nat.le_of_ble_eq_true rfl) ?_
  refine loopE C_ok (fun (i : Nat) => [(0, .slice A xs.length c), (1, .int .i64 n), (5, .int .i64 i)])
    (fun i w' => w' = w ∧ i ≤ xs.length ∧ n ∉ xs.take i) (fun i => xs.length - i) 0 ⟨rfl, rfl, rfl, trivial⟩ ⟨rfl, Nat.zero_le _, by simp⟩ ?_
  rintro i w1 ⟨rfl, hi, hn⟩
  refine brE_dec (fun hlt2 => ?_) (fun hge => ?_)
  · have hlt : i < xs.length := by have : (i : Int) < (xs.length : Nat) := hlt2; omega
    obtain ⟨b, o, hA, hc⟩ := Reads.int hr hlt
    refine ⟨i, b, o, rfl, hlt, hA, ?_⟩
    refine ⟨_, by simpa using hc, ?_⟩
    refine brE_dec (fun he => ?_) (fun he => ?_)
    · have he : xs[i] = n := he
      exact ⟨by rw [decide_eq_true (by rw [← he]; exact List.getElem_mem hlt)], rfl⟩
    · have he : ¬ xs[i] = n := he
      refine ⟨((i + 1 : Nat) : Int), fit ⟨by omega, by omega⟩, ?_⟩
      refine ⟨i + 1, ⟨rfl, rfl, rfl, trivial⟩, ⟨rfl, hlt, ?_⟩, by omega⟩
      rw [List.take_succ_eq_append_getElem hlt]
      intro hm
      rcases List.mem_append.1 hm with hm | hm
      · exact hn hm
      · exact he (List.mem_singleton.1 hm).symm
  · have : i = xs.length := by have : ¬ (i : Int) < (xs.length : Nat) := hge; omega
    rw [this, List.take_length] at hn
    exact ⟨by rw [decide_eq_false hn], rfl⟩

end Go.Proofs.YtcnbpfecgokhiaaGreatDoor

namespace Go.Proofs.YtcnbpfecgokhiaaGreatDoor
open Go.Eng Go.RowKit

/-- The other one of the last marriage. -/
def mateL (K : List Fact) (n : Int) : Int × Bool := match lastP (marriedB n) K with
  | none => (0, false)
  | some x => (if x.who = n then x.other else x.who, true)
theorem spouse_mate (K : List Fact) (n : Int) : spouseL K n = if (!(mateL K n).2 || (deadB K n || deadB K (mateL K n).1)) = true then (0, false) else ((mateL K n).1, true) := by
  unfold spouseL mateL
  cases hL : lastP (marriedB n) K with
  | none => rfl
  | some x =>
    have hm : x.kind = 6 ∧ (x.who = n ∨ x.other = n) := of_decide_eq_true (lastP_some hL).2
    dsimp only
    by_cases hw : x.who = n
    · simp only [hw, if_true, Bool.not_true, Bool.false_or]
    · have ho := hm.2.resolve_left hw
      simp only [hw, ho, if_false, Bool.not_true, Bool.false_or]
      rw [Bool.or_comm]

end Go.Proofs.YtcnbpfecgokhiaaGreatDoor
