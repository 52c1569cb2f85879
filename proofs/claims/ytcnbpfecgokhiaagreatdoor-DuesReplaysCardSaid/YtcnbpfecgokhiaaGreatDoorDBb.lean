/- a part of the proof: steps, walks and plain laws that the law below stands on; no condition. -/
import Derived.Test.YtcnbpfecgokhiaaGreatDoorDBa
import Derived.WalkSpells
import Derived.Sort.Walk0
set_option linter.unusedVariables false
set_option linter.unusedSimpArgs false
set_option linter.unnecessarySimpa false
set_option linter.unusedSectionVars false
namespace Go.Proofs.YtcnbpfecgokhiaaGreatDoor
open Go.Eng Go.RowKit

end Go.Proofs.YtcnbpfecgokhiaaGreatDoor

namespace Go.Proofs.YtcnbpfecgokhiaaGreatDoor
open Go.Eng Go.RowKit

theorem underFs : Tryz.prog.underlying 22 = some (.slice 81) := by kernel_rfl
theorem eqNilF (x y : Operand) (A : Option Addr) (n c : Nat) : EqIs C.P .eql 22 x y (.slice A n c) (.slice none 0 0) A.isNone := by
  intro w
  have hu : C.P.underlying 22 = some (.slice 81) := underFs
  have h1 : (eqGuard .eql 22 x y (.slice A n c) (.slice none 0 0)).run C.P w = .ok () w := by simp [eqGuard]
  rw [Sem.run_bind, h1]
  simp only [Result.andThen_ok]
  exact Lib.run_eql_slice_nil w _ _ A n c _ _ hu

theorem Clone_spec {w : World} {A : Option Addr} {l : List Fact} {c : Nat} (h : Reads w A (fcells l)) (hl : l.length ≤ 2 ^ 20) :
    CallsV C.P 97 #[.slice A l.length c] w fun v w' => NewF w.heap.size w' v l ∧ Ext w w' := by
  refine callsV_of C_ok (args := [_]) (plans := []) Tryz.func97 rfl Tryz.ntmps97 (by kernel_rfl) (Nat.le_of_ble_eq_true rfl) ?_
  refine ⟨_, eqNilF _ _ _ _ _, ?_⟩
  refine brE_mk (fun hn => ?_) (fun hn => ?_)
  · have hl0 : l = [] := by
      rcases h with h | ⟨b, o, hA, _⟩
      · have := congrArg List.length h
        rw [fcells_length] at this
        have : l.length * 9 = 0 := this
        exact List.length_eq_zero_iff.1 (by omega)
      · rw [hA] at hn; cases hn
    subst hl0
    exact ⟨newF_nil _ _, Ext.refl _⟩
  · intro g w1 h1
    have ho : w1.ownsRow w.heap.size 81 9 (.slice (some ⟨g, 0, none⟩) 0 0) 0 [] := owns_block (cs := []) h1.here (by rw [h1.new]; exact Nat.le_refl _) rfl (Nat.zero_le _)
    have hd : fcells l = [] ∨ ∃ b o, A = some ⟨b, o, none⟩ ∧ Rd w1 b o (fcells l) := h.ext h1.ext
    have hs : A.isSome = true := by cases A with
      | none => cases hn
      | some a => rfl
    have h1c : (fcells l).all (·.oneCell') = true := by
      rw [List.all_eq_true]
      intro v hv
      obtain ⟨x, _, hx⟩ := List.mem_flatMap.1 hv
      simp [Fact.cells] at hx
      rcases hx with rfl | rfl | rfl | rfl | rfl | rfl | rfl | rfl | rfl <;> rfl
    refine ⟨rfl, rfl, rfl, w.heap.size, 0, [], fcells l, ho, h1.ext.size, Nat.le_of_ble_eq_true rfl, rfl, fcells_length l, hd, by rw [hs]; rfl, h1c, by omega, by simp only [maxLen]; omega, ?_⟩
    intro v2 w2 ho2 hg2 _
    refine ⟨?_, app_ext h1.ext ho hg2⟩
    show w2.ownsRow _ _ _ v2 _ _
    rw [Nat.zero_add, List.nil_append] at ho2
    exact ho2

theorem knownL_all {k : Int} : ∀ {l : List Fact}, (∀ j (h : j < l.length), l[j].known ≤ k) → knownL k l = l
  | [], _ => rfl
  | x :: r, h => by
    have h0 := h 0 (by simp)
    unfold knownL
    rw [List.takeWhile_cons, if_pos (by simpa using h0)]
    exact congrArg (x :: ·) (knownL_all (l := r) fun j hj => h (j + 1) (by simpa using hj))
theorem knownL_stop {k : Int} : ∀ {l : List Fact} {i : Nat} (hi : i < l.length), (∀ j (h : j < l.length), j < i → l[j].known ≤ k) → ¬ l[i].known ≤ k → knownL k l = l.take i
  | x :: r, 0, _, _, h => by
    unfold knownL
    rw [List.takeWhile_cons, if_neg (by simpa using h)]; rfl
  | x :: r, i + 1, hi, ha, h => by
    have h0 := ha 0 (by simp) (Nat.succ_pos _)
    unfold knownL
    rw [List.takeWhile_cons, if_pos (by simpa using h0), List.take_succ_cons]
    exact congrArg (x :: ·) (knownL_stop (l := r) (i := i) (by simpa using hi) (fun j hj hji => ha (j + 1) (by simpa using hj) (by omega)) (by simpa using h))
theorem knownL_length (k : Int) (l : List Fact) : (knownL k l).length ≤ l.length := (List.takeWhile_sublist _).length_le
theorem knownL_sub {k : Int} {l : List Fact} : ∀ x ∈ knownL k l, x ∈ l := fun _ h => (List.takeWhile_sublist _).subset h

theorem Reads.front {w : World} {A : Option Addr} {l : List Fact} {c i : Nat} (h : Reads w A (fcells l)) : Reads w (if c = 0 then A else A.map (·.add (0 * 9))) (fcells (l.take i)) := by
  have e : (if c = 0 then A else A.map (·.add (0 * 9))) = A := by
    split
    · rfl
    · cases A <;> rfl
  rw [e]
  rcases h with h | ⟨b, o, hA, hr⟩
  · left
    have := congrArg List.length h
    rw [fcells_length] at this
    have : l.length * 9 = 0 := this
    have : l = [] := List.length_eq_zero_iff.1 (by omega)
    subst this; simp [fcells]
  · refine .inr ⟨b, o, hA, fun j v hv => hr j v ?_⟩
    have e : fcells l = fcells (l.take i) ++ fcells (l.drop i) := by rw [← fcells_append, List.take_append_drop]
    rw [e, List.getElem?_append_left (List.getElem?_eq_some_iff.1 hv).1]
    exact hv

theorem Known_spec {w : World} {A : Option Addr} {l : List Fact} {c : Nat} (h : HF w A l c) (hl : l.length ≤ 2 ^ 20) (k : Int) :
    CallsV C.P 76 #[.slice A l.length c, .int .i64 k] w fun v w' => NewF w.heap.size w' v (knownL k l) ∧ Ext w w' := by
  have hcap := h.len
  refine callsV_of C_ok (args := [_, _]) (plans := []) Tryz.func76 rfl Tryz.ntmps76 (by kernel_rfl) (Nat.le_of_ble_eq_true rfl) ?_
  refine loopE C_ok (fun (i : Nat) => [(0, .slice A l.length c), (1, .int .i64 k), (7, .slice A l.length c), (8, .int .i64 l.length), (9, .int .i64 i)])
    (fun i w' => i ≤ l.length ∧ Ext w w' ∧ ∀ j (h : j < l.length), j < i → l[j].known ≤ k) (fun i => l.length - i) 0
    ⟨rfl, rfl, rfl, rfl, rfl, trivial⟩ ⟨Nat.zero_le _, Ext.refl _, fun _ _ h => absurd h (Nat.not_lt_zero _)⟩ ?_
  rintro i w1 ⟨hi, e1, hall⟩
  refine brE_dec (fun hlt => ?_) (fun hge => ?_)
  · have hlt : i < l.length := by have : (i : Int) < (l.length : Nat) := hlt; omega
    obtain ⟨b, o, hA, hc⟩ := Reads.fact (h.reads.ext e1) hlt
    refine ⟨i, b, o, rfl, hlt, hA, ?_⟩
    refine ⟨l[i].cells, rfl, hc, ?_⟩
    intro g w2 h2
    refine ⟨rfl, _, _, h2.here, Nat.le_of_ble_eq_true rfl, rfl, ?_⟩
    intro w3 h3
    have e13 : Ext w1 w3 := h3.ext_of h2.ext (by rw [h2.new]; exact Nat.le_refl _)
    refine ⟨_, cell_of_block (i := 1) h3.here rfl, ?_⟩
    refine brE_dec (fun hk => ?_) (fun hk => ?_)
    · have hk : l[i].known > k := hk
      refine ⟨0, i, rfl, rfl, Nat.zero_le _, by omega, ?_⟩
      have hr := Reads.front (c := c) (i := i) (h.reads.ext (e1.trans e13))
      have hlen : (l.take i).length = i := by rw [List.length_take]; omega
      have := Clone_spec (c := c - 0) hr (by omega)
      rw [hlen] at this
      refine this.mono ?_
      rintro v w4 ⟨hn, e4⟩
      rw [knownL_stop hlt hall (by omega)]
      exact ⟨hn.base (e1.trans e13).size, (e1.trans e13).trans e4⟩
    · have hk : ¬ l[i].known > k := hk
      refine ⟨((i + 1 : Nat) : Int), fit ⟨by omega, by omega⟩, ?_⟩
      refine ⟨i + 1, ⟨rfl, rfl, rfl, rfl, rfl, trivial⟩, ⟨hlt, e1.trans e13, fun j hj hji => ?_⟩, by omega⟩
      rcases Nat.lt_or_ge j i with h | h
      · exact hall j hj h
      · obtain rfl : j = i := by omega
        omega
  · have : i = l.length := by have : ¬ (i : Int) < (l.length : Nat) := hge; omega
    subst this
    refine (Clone_spec (h.reads.ext e1) hl).mono ?_
    rintro v w4 ⟨hn, e4⟩
    rw [knownL_all fun j hj => hall j hj hj]
    exact ⟨hn.base e1.size, e1.trans e4⟩

theorem refKnown_spec {w : World} {A : Option Addr} {l : List Fact} {c : Nat} (h : HF w A l c) (hl : l.length ≤ 2 ^ 20) (k : Int) :
    CallsV C.P 77 #[.slice A l.length c, .int .i64 k] w fun v w' => NewF w.heap.size w' v (knownL k l) ∧ Ext w w' := by
  refine callsV_of C_ok (args := [_, _]) (plans := []) Tryz.func77 rfl Tryz.ntmps77 (by kernel_rfl) (Nat.le_of_ble_eq_true rfl) ?_
  refine loopE C_ok (fun (s : Nat × Value) => [(0, .slice A l.length c), (1, .int .i64 k), (5, s.2), (6, .int .i64 s.1)])
    (fun s w' => s.1 ≤ l.length ∧ Ext w w' ∧ (∀ j (h : j < l.length), j < s.1 → l[j].known ≤ k) ∧ NewF w.heap.size w' s.2 (l.take s.1)) (fun s => l.length - s.1) (0, .slice none 0 0)
    ⟨rfl, rfl, rfl, rfl, trivial⟩ ⟨Nat.zero_le _, Ext.refl _, (fun _ _ h => absurd h (Nat.not_lt_zero _)), newF_nil _ _⟩ ?_
  rintro ⟨i, v⟩ w1 ⟨hi', e1, hall', ho'⟩
  have hi : i ≤ l.length := hi'
  have hall : ∀ j (h : j < l.length), j < i → l[j].known ≤ k := hall'
  have ho : NewF w.heap.size w1 v (l.take i) := ho'
  clear hall' hi' ho'
  refine brE_dec (fun hlt => ?_) (fun hge => ?_)
  case' refine_2 =>
    have : i = l.length := by have : ¬ (i : Int) < (l.length : Nat) := hge; omega
    subst this
    rw [knownL_all fun j hj => hall j hj hj]
    rw [List.take_length] at ho
    exact ⟨ho, e1⟩
  have hlt : i < l.length := by have : (i : Int) < (l.length : Nat) := hlt; omega
  obtain ⟨b, o, hA, hc⟩ := Reads.fact (h.reads.ext e1) hlt
  refine ⟨i, b, o, rfl, hlt, hA, ?_⟩
  refine ⟨.int .i64 l[i].known, hc 1 _ rfl, ?_⟩
  refine brE_dec (fun hk => ?_) (fun hk => ?_)
  · have hk : l[i].known ≤ k := hk
    refine ⟨i, b, o, rfl, hlt, hA, ?_⟩
    refine ⟨l[i].cells, rfl, hc, ?_⟩
    intro g w2 h2
    have ho2 : w2.ownsRow w.heap.size 81 9 v (l.take i).length (fcells (l.take i)) := ownsRow_ext ho h2.ext
    have hlen : (l.take i).length = i := by rw [List.length_take]; omega
    refine ⟨rfl, rfl, rfl, w.heap.size, _, _, l[i].cells, ho2, (e1.trans h2.ext).size, Nat.le_of_ble_eq_true rfl, rfl, rfl, .inr ⟨g, 0, rfl, Rd.of_block h2.here⟩, rfl, rfl, by omega, by simp only [maxLen]; omega, ?_⟩
    intro v3 w3 ho3 hg3 _
    refine ⟨((i + 1 : Nat) : Int), fit ⟨by omega, by omega⟩, ?_⟩
    refine ⟨(i + 1, v3), ⟨rfl, rfl, rfl, rfl, trivial⟩, ⟨hlt, app_ext (e1.trans h2.ext) ho2 hg3, fun j hj hji => ?_, ?_⟩, by show l.length - (i + 1) < l.length - i; omega⟩
    · rcases Nat.lt_or_ge j i with h | h
      · exact hall j hj h
      · obtain rfl : j = i := by have : j < i + 1 := hji; omega
        exact hk
    · show w3.ownsRow _ _ _ v3 (l.take (i + 1)).length (fcells (l.take (i + 1)))
      rw [List.take_succ_eq_append_getElem hlt, fcells_append, fcells_one, List.length_append]
      exact ho3
  · have hk : ¬ l[i].known ≤ k := hk
    rw [knownL_stop hlt hall hk]
    exact ⟨ho, e1⟩

end Go.Proofs.YtcnbpfecgokhiaaGreatDoor

namespace Go.Proofs.YtcnbpfecgokhiaaGreatDoor
open Go.Eng Go.RowKit

theorem voidedBy_take {acc : List Fact} {n : Int} {j : Nat} (hj : j < acc.length) : voidedBy (acc.take (j + 1)) n = (voidedBy (acc.take j) n || decide (acc[j].kind = 11 ∧ acc[j].what = n)) := by
  unfold voidedBy
  rw [List.take_succ_eq_append_getElem hj, List.any_append]; simp
theorem backL_step {acc : List Fact} {K : List Fact} {n : Nat} (hn : n < K.length) : backL acc (K.take (n + 1)).reverse = if voidedBy acc K[n].id = true then backL acc (K.take n).reverse else backL (acc ++ [K[n]]) (K.take n).reverse := by
  rw [List.take_succ_eq_append_getElem hn, List.reverse_append]
  rfl
theorem backL_length : ∀ (K acc : List Fact), (backL acc K).length ≤ acc.length + K.length
  | [], acc => by simp [backL]
  | x :: r, acc => by
    unfold backL
    split
    · have := backL_length r acc; simp; omega
    · have := backL_length r (acc ++ [x]); simp at this ⊢; omega
theorem backL_sub : ∀ {K acc : List Fact} {x : Fact}, x ∈ backL acc K → x ∈ acc ∨ x ∈ K
  | [], acc, x, h => .inl h
  | y :: r, acc, x, h => by
    unfold backL at h
    split at h
    · rcases backL_sub h with h | h
      · exact .inl h
      · exact .inr (by simp [h])
    · rcases backL_sub h with h | h
      · simp at h
        rcases h with h | rfl
        · exact .inl h
        · exact .inr (by simp)
      · exact .inr (by simp [h])
theorem countL_length (k : Int) (l : List Fact) : (countL k l).length ≤ l.length := by
  unfold countL
  rw [List.length_reverse]
  have h1 := backL_length (knownL k l).reverse []
  have h2 := knownL_length k l
  simp at h1; omega
theorem countL_sub {k : Int} {l : List Fact} {x : Fact} (h : x ∈ countL k l) : x ∈ l := by
  unfold countL at h
  rw [List.mem_reverse] at h
  rcases backL_sub h with h | h
  · cases h
  · exact knownL_sub x (List.mem_reverse.1 h)
theorem atL_length (k day : Int) (l : List Fact) : (atL k day l).length ≤ l.length := Nat.le_trans (List.length_filter_le _ _) (countL_length k l)
theorem atL_sub {k day : Int} {l : List Fact} {x : Fact} (h : x ∈ atL k day l) : x ∈ l := countL_sub (List.mem_filter.1 h).1

set_option maxRecDepth 100000 in
theorem refCounting_spec {w : World} {A : Option Addr} {l : List Fact} {c : Nat} (h : HF w A l c) (hl : l.length ≤ 2 ^ 20) (k : Int) :
    CallsV C.P 236 #[.slice A l.length c, .int .i64 k] w fun v w' => NewF w.heap.size w' v (countL k l) ∧ Ext w w' := by
  refine callsV_of C_ok (args := [_, _]) (plans := plans236) Tryz.func236 rfl Tryz.ntmps236 (by kernel_rfl) (Nat.le_of_ble_eq_true rfl) ?_
  refine (refKnown_spec h hl k).mono ?_
  rintro v w1 ⟨hK, e1⟩
  have hkl := knownL_length k l
  have hcount : countL k l = (backL [] (knownL k l).reverse).reverse := rfl
  rw [hcount]
  clear hcount
  generalize knownL k l = K at *
  obtain ⟨AK, cK, rfl, hrK, _⟩ := hK.slice
  refine ⟨(K.length : Int) - 1, fit ⟨by omega, by omega⟩, ?_⟩
  refine loopE C_ok (fun (s : Nat × Value × List Fact) => [(5, .slice AK K.length cK), (6, s.2.1), (7, .int .i64 ((s.1 : Int) - 1))])
    (fun s w' => s.1 ≤ K.length ∧ Ext w1 w' ∧ NewF w1.heap.size w' s.2.1 s.2.2 ∧ backL [] K.reverse = backL s.2.2 (K.take s.1).reverse ∧ s.2.2.length + s.1 ≤ K.length) (fun s => s.1) (K.length, .slice none 0 0, [])
    ⟨rfl, rfl, rfl, trivial⟩ ⟨Nat.le_refl _, Ext.refl _, newF_nil _ _, by rw [List.take_length], by simp⟩ ?_
  rintro ⟨n, v, acc⟩ w2 ⟨hn', e2, ho', hb', hal'⟩
  have hn : n ≤ K.length := hn'
  have ho : NewF w1.heap.size w2 v acc := ho'
  have hb : backL [] K.reverse = backL acc (K.take n).reverse := hb'
  have hal : acc.length + n ≤ K.length := hal'
  clear hal' hb' hn' ho'
  refine brE_dec (fun hge => ?_) (fun hlt => ?_)
  · have hge : (n : Int) - 1 ≥ 0 := hge
    obtain ⟨m, rfl⟩ : ∃ m, n = m + 1 := ⟨n - 1, by omega⟩
    have hm : m < K.length := by omega
    rw [backL_step hm] at hb
    obtain ⟨Aa, ca, rfl, hra, _⟩ := ho.slice
    refine loopE C_ok (fun (s : Nat × Bool) => [(5, .slice AK K.length cK), (6, .slice Aa acc.length ca), (7, .int .i64 (((m + 1 : Nat) : Int) - 1)), (8, .bool s.2), (9, .int .i64 s.1)])
      (fun s w' => w' = w2 ∧ s.1 ≤ acc.length ∧ s.2 = voidedBy (acc.take s.1) K[m].id) (fun s => acc.length - s.1) (0, false)
      ⟨rfl, rfl, rfl, rfl, rfl, trivial⟩ ⟨rfl, Nat.zero_le _, rfl⟩ ?_
    rintro ⟨j, b⟩ w3 ⟨rfl, hj', hbv'⟩
    have hj : j ≤ acc.length := hj'
    have hbv : b = voidedBy (acc.take j) K[m].id := hbv'
    clear hbv' hj'
    refine brE_dec (fun hlt => ?_) (fun hge2 => ?_)
    · have hlt : j < acc.length := by have : (j : Int) < (acc.length : Nat) := hlt; omega
      have hvs := voidedBy_take (n := K[m].id) hlt
      have next : IntKind.i64.wrap ((j : Int) + 1) = ((j + 1 : Nat) : Int) := fit ⟨by omega, by omega⟩
      obtain ⟨b1, o1, hA1, hc1⟩ := Reads.fact hra hlt
      obtain ⟨b2, o2, hA2, hc2⟩ := Reads.fact (hrK.ext e2) hm
      refine brE_mk (fun hbt => ?_) (fun hbf => ?_)
      · have hbt : b = true := hbt
        refine ⟨_, next, ?_⟩
        refine ⟨(j + 1, true), ⟨rfl, rfl, rfl, rfl, rfl, trivial⟩, ⟨rfl, hlt, ?_⟩, by show acc.length - (j + 1) < acc.length - j; omega⟩
        show true = voidedBy (acc.take (j + 1)) K[m].id
        rw [hvs, ← hbv, hbt]; rfl
      have hbf : b = false := hbf
      refine ⟨j, b1, o1, rfl, hlt, hA1, ?_⟩
      refine ⟨.int .u8 acc[j].kind, hc1 2 _ rfl, ?_⟩
      refine brE_dec (fun hk => ?_) (fun hk => ?_)
      · have hk : acc[j].kind = 11 := hk
        refine ⟨j, b1, o1, rfl, hlt, hA1, ?_⟩
        refine ⟨.int .i64 acc[j].what, hc1 4 _ rfl, ?_⟩
        refine ⟨m, b2, o2, by omega, hm, hA2, ?_⟩
        refine ⟨.int .i64 K[m].id, hc2 0 _ rfl, ?_⟩
        refine ⟨_, next, ?_⟩
        refine ⟨(j + 1, _), ⟨rfl, rfl, rfl, rfl, rfl, trivial⟩, ⟨rfl, hlt, ?_⟩, by show acc.length - (j + 1) < acc.length - j; omega⟩
        show decide (acc[j].what = K[m].id) = voidedBy (acc.take (j + 1)) K[m].id
        rw [hvs, ← hbv, hbf, Bool.false_or]
        simp [hk]
      · have hk : ¬ acc[j].kind = 11 := hk
        refine ⟨_, next, ?_⟩
        refine ⟨(j + 1, false), ⟨rfl, rfl, rfl, rfl, rfl, trivial⟩, ⟨rfl, hlt, ?_⟩, by show acc.length - (j + 1) < acc.length - j; omega⟩
        show false = voidedBy (acc.take (j + 1)) K[m].id
        rw [hvs, ← hbv, hbf, Bool.false_or]
        exact (decide_eq_false fun h => hk h.1).symm
    · have : j = acc.length := by have : ¬ (j : Int) < (acc.length : Nat) := hge2; omega
      subst this
      rw [List.take_length] at hbv
      have next : IntKind.i64.wrap ((((m + 1 : Nat) : Int) - 1) - 1) = (m : Int) - 1 := by rw [fit ⟨by omega, by omega⟩]; omega
      obtain ⟨b2, o2, hA2, hc2⟩ := Reads.fact (hrK.ext e2) hm
      refine brE_mk (fun hbf => ?_) (fun hbt => ?_)
      · have hbf : b = false := by simpa using hbf
        rw [← hbv, hbf, if_neg (by decide)] at hb
        refine ⟨m, b2, o2, by omega, hm, hA2, ?_⟩
        refine ⟨K[m].cells, rfl, hc2, ?_⟩
        intro g w4 h4
        have ho4 : w4.ownsRow w1.heap.size 81 9 (.slice Aa acc.length ca) acc.length (fcells acc) := ownsRow_ext ho h4.ext
        refine ⟨rfl, rfl, rfl, w1.heap.size, _, _, K[m].cells, ho4, (e2.trans h4.ext).size, Nat.le_of_ble_eq_true rfl, rfl, rfl, .inr ⟨g, 0, rfl, Rd.of_block h4.here⟩, rfl, rfl, by omega, by simp only [maxLen]; omega, ?_⟩
        intro v5 w5 ho5 hg5 _
        refine ⟨_, next, ?_⟩
        refine ⟨(m, v5, acc ++ [K[m]]), ⟨rfl, rfl, rfl, trivial⟩, ⟨by show m ≤ K.length; omega, app_ext (e2.trans h4.ext) ho4 hg5, ?_, hb, by show (acc ++ [K[m]]).length + m ≤ K.length; simp; omega⟩, by show m < m + 1; omega⟩
        show w5.ownsRow _ _ _ v5 (acc ++ [K[m]]).length (fcells (acc ++ [K[m]]))
        rw [fcells_append, fcells_one, List.length_append]
        exact ho5
      · have hbt : b = true := by simpa using hbt
        rw [← hbv, hbt, if_pos rfl] at hb
        refine ⟨_, next, ?_⟩
        exact ⟨(m, _, acc), ⟨rfl, rfl, rfl, trivial⟩, ⟨by show m ≤ K.length; omega, e2, ho, hb, by show acc.length + m ≤ K.length; omega⟩, by show m < m + 1; omega⟩
  · have : n = 0 := by have : ¬ (n : Int) - 1 ≥ 0 := hlt; omega
    subst this
    have hb : backL [] K.reverse = acc := hb
    rw [hb]
    obtain ⟨Aa, ca, rfl, hra, _⟩ := ho.slice
    refine ⟨(acc.length : Int) - 1, fit ⟨by omega, by omega⟩, ?_⟩
    have e12 := e1.trans e2
    refine loopE C_ok (fun (s : Nat × Value) => [(6, .slice Aa acc.length ca), (10, s.2), (11, .int .i64 ((s.1 : Int) - 1))])
      (fun s w' => s.1 ≤ acc.length ∧ Ext w2 w' ∧ NewF w2.heap.size w' s.2 (acc.drop s.1).reverse) (fun s => s.1) (acc.length, .slice none 0 0)
      ⟨rfl, rfl, rfl, trivial⟩ ⟨Nat.le_refl _, Ext.refl _, by rw [List.drop_length]; exact newF_nil _ _⟩ ?_
    rintro ⟨n, v⟩ w3 ⟨hn', e3, ho3'⟩
    have hn : n ≤ acc.length := hn'
    have ho3 : NewF w2.heap.size w3 v (acc.drop n).reverse := ho3'
    clear hn' ho3'
    refine brE_dec (fun hge => ?_) (fun hlt => ?_)
    · have hge : (n : Int) - 1 ≥ 0 := hge
      obtain ⟨m, rfl⟩ : ∃ m, n = m + 1 := ⟨n - 1, by omega⟩
      have hm : m < acc.length := by omega
      have next : IntKind.i64.wrap ((((m + 1 : Nat) : Int) - 1) - 1) = (m : Int) - 1 := by rw [fit ⟨by omega, by omega⟩]; omega
      obtain ⟨b1, o1, hA1, hc1⟩ := Reads.fact (hra.ext e3) hm
      have hdl : (acc.drop (m + 1)).reverse.length ≤ acc.length := by simp
      refine ⟨m, b1, o1, by omega, hm, hA1, ?_⟩
      refine ⟨acc[m].cells, rfl, hc1, ?_⟩
      intro g w4 h4
      have ho4 : w4.ownsRow w2.heap.size 81 9 v (acc.drop (m + 1)).reverse.length (fcells (acc.drop (m + 1)).reverse) := ownsRow_ext ho3 h4.ext
      refine ⟨rfl, rfl, rfl, w2.heap.size, _, _, acc[m].cells, ho4, (e3.trans h4.ext).size, Nat.le_of_ble_eq_true rfl, rfl, rfl, .inr ⟨g, 0, rfl, Rd.of_block h4.here⟩, rfl, rfl, by omega, by simp only [maxLen]; omega, ?_⟩
      intro v5 w5 ho5 hg5 _
      refine ⟨_, next, ?_⟩
      refine ⟨(m, v5), ⟨rfl, rfl, rfl, trivial⟩, ⟨by show m ≤ acc.length; omega, app_ext (e3.trans h4.ext) ho4 hg5, ?_⟩, by show m < m + 1; omega⟩
      show w5.ownsRow _ _ _ v5 (acc.drop m).reverse.length (fcells (acc.drop m).reverse)
      rw [List.drop_eq_getElem_cons hm, List.reverse_cons, fcells_append, fcells_one, List.length_append]
      exact ho5
    · have : n = 0 := by have : ¬ (n : Int) - 1 ≥ 0 := hlt; omega
      subst this
      exact ⟨NewF.base ho3 e12.size, e12.trans e3⟩

theorem refAt_spec {w : World} {A : Option Addr} {l : List Fact} {c : Nat} (h : HF w A l c) (hl : l.length ≤ 2 ^ 20) (k day : Int) :
    CallsV C.P 195 #[.slice A l.length c, .int .i64 k, .int .i64 day] w fun v w' => NewF w.heap.size w' v (atL k day l) ∧ Ext w w' := by
  refine callsV_of C_ok (args := [_, _, _]) (plans := []) Tryz.func195 rfl Tryz.ntmps195 (by kernel_rfl) (Nat.le_of_ble_eq_true rfl) ?_
  refine (refCounting_spec h hl k).mono ?_
  rintro v w1 ⟨hK, e1⟩
  have hcl := countL_length k l
  have hat : atL k day l = (countL k l).filter fun x => !decide (x.kind = 11) && holdsB day x := rfl
  rw [hat]
  clear hat
  generalize countL k l = K at *
  obtain ⟨AK, cK, rfl, hrK, _⟩ := hK.slice
  refine loopE C_ok (fun (s : Nat × Value) => [(2, .int .i64 day), (7, .slice AK K.length cK), (8, s.2), (9, .int .i64 s.1)])
    (fun s w' => s.1 ≤ K.length ∧ Ext w1 w' ∧ NewF w1.heap.size w' s.2 ((K.take s.1).filter fun x => !decide (x.kind = 11) && holdsB day x)) (fun s => K.length - s.1) (0, .slice none 0 0)
    ⟨rfl, rfl, rfl, rfl, trivial⟩ ⟨Nat.zero_le _, Ext.refl _, newF_nil _ _⟩ ?_
  rintro ⟨i, v⟩ w2 ⟨hi', e2, ho'⟩
  have hi : i ≤ K.length := hi'
  have ho : NewF w1.heap.size w2 v ((K.take i).filter fun x => !decide (x.kind = 11) && holdsB day x) := ho'
  clear hi' ho'
  refine brE_dec (fun hlt => ?_) (fun hge => ?_)
  · have hlt : i < K.length := by have : (i : Int) < (K.length : Nat) := hlt; omega
    have next : IntKind.i64.wrap ((i : Int) + 1) = ((i + 1 : Nat) : Int) := fit ⟨by omega, by omega⟩
    have hfl : ((K.take i).filter fun x => !decide (x.kind = 11) && holdsB day x).length ≤ K.length := Nat.le_trans (List.length_filter_le _ _) (by rw [List.length_take]; omega)
    have hft : (K.take (i + 1)).filter (fun x => !decide (x.kind = 11) && holdsB day x) = (K.take i).filter (fun x => !decide (x.kind = 11) && holdsB day x) ++ if (!decide (K[i].kind = 11) && holdsB day K[i]) = true then [K[i]] else [] := by
      rw [List.take_succ_eq_append_getElem hlt, List.filter_append]
      congr 1
      rw [List.filter_cons, List.filter_nil]
    obtain ⟨b1, o1, hA1, hc1⟩ := Reads.fact (hrK.ext e2) hlt
    refine ⟨i, b1, o1, rfl, hlt, hA1, ?_⟩
    refine ⟨K[i].cells, rfl, hc1, ?_⟩
    refine (refHolds_spec K[i] day w2).mono ?_
    rintro v3 w3 ⟨rfl, e3⟩
    have e23 := e2.trans e3
    obtain ⟨b2, o2, hA2, hc2⟩ := Reads.fact (hrK.ext e23) hlt
    refine ⟨i, b2, o2, rfl, hlt, hA2, ?_⟩
    refine ⟨.int .u8 K[i].kind, hc2 2 _ rfl, ?_⟩
    have ho3 := NewF.ext ho e3
    have miss : (!decide (K[i].kind = 11) && holdsB day K[i]) = false → i + 1 ≤ K.length ∧ Ext w1 w3 ∧ NewF w1.heap.size w3 v ((K.take (i + 1)).filter fun x => !decide (x.kind = 11) && holdsB day x) := fun hf => by
      rw [hft, hf, if_neg (by decide), List.append_nil]
      exact ⟨hlt, e23, ho3⟩
    refine brE_ndec (fun hk => ?_) (fun hk => ?_)
    · have hk : ¬ K[i].kind = 11 := hk
      refine brE_mk (fun hh => ?_) (fun hh => ?_)
      · rw [decide_eq_false hk, hh, if_pos (show (!false && true) = true from rfl)] at hft
        refine ⟨i, b2, o2, rfl, hlt, hA2, ?_⟩
        refine ⟨K[i].cells, rfl, hc2, ?_⟩
        intro g w4 h4
        have ho4 : w4.ownsRow w1.heap.size 81 9 v _ _ := ownsRow_ext ho3 h4.ext
        refine ⟨rfl, rfl, rfl, w1.heap.size, _, _, K[i].cells, ho4, (e23.trans h4.ext).size, Nat.le_of_ble_eq_true rfl, rfl, rfl, .inr ⟨g, 0, rfl, Rd.of_block h4.here⟩, rfl, rfl, by omega, by simp only [maxLen]; omega, ?_⟩
        intro v5 w5 ho5 hg5 _
        refine ⟨_, next, ?_⟩
        refine ⟨(i + 1, v5), ⟨rfl, rfl, rfl, rfl, trivial⟩, ⟨hlt, app_ext (e23.trans h4.ext) ho4 hg5, ?_⟩, by show K.length - (i + 1) < K.length - i; omega⟩
        show NewF w1.heap.size w5 v5 ((K.take (i + 1)).filter fun x => !decide (x.kind = 11) && holdsB day x)
        rw [hft]
        unfold NewF
        rw [fcells_append, fcells_one, List.length_append]
        exact ho5
      · refine ⟨_, next, ?_⟩
        exact ⟨(i + 1, v), ⟨rfl, rfl, rfl, rfl, trivial⟩, miss (by rw [hh, Bool.and_false]), by show K.length - (i + 1) < K.length - i; omega⟩
    · have hk : K[i].kind = 11 := hk
      refine ⟨_, next, ?_⟩
      exact ⟨(i + 1, v), ⟨rfl, rfl, rfl, rfl, trivial⟩, miss (by rw [decide_eq_true hk]; rfl), by show K.length - (i + 1) < K.length - i; omega⟩
  · have : i = K.length := by have : ¬ (i : Int) < (K.length : Nat) := hge; omega
    subst this
    rw [List.take_length] at ho
    exact ⟨ho.base e1.size, e1.trans e2⟩

end Go.Proofs.YtcnbpfecgokhiaaGreatDoor

namespace Go.Proofs.YtcnbpfecgokhiaaGreatDoor
open Go.Eng Go.RowKit

/-- The last fact that passes a test. -/
def lastP (p : Fact → Bool) (c : List Fact) : Option Fact := (c.filter p).getLast?
theorem lastP_snoc (p : Fact → Bool) (c : List Fact) (x : Fact) : lastP p (c ++ [x]) = if p x = true then some x else lastP p c := by
  unfold lastP
  rw [List.filter_append, List.filter_cons, List.filter_nil]
  by_cases h : p x = true
  · rw [if_pos h, if_pos h, List.getLast?_append]; rfl
  · rw [if_neg h, if_neg h, List.append_nil]
theorem lastP_take {p : Fact → Bool} {c : List Fact} {i : Nat} (hi : i < c.length) : lastP p (c.take (i + 1)) = if p c[i] = true then some c[i] else lastP p (c.take i) := by
  rw [List.take_succ_eq_append_getElem hi, lastP_snoc]
theorem lastP_some {p : Fact → Bool} {c : List Fact} {x : Fact} (h : lastP p c = some x) : x ∈ c ∧ p x = true := by
  have := List.mem_of_getLast? h
  exact ⟨(List.mem_filter.1 this).1, (List.mem_filter.1 this).2⟩
theorem lastP_none {p : Fact → Bool} {c : List Fact} (h : lastP p c = none) : ∀ x ∈ c, p x = false := by
  intro x hx
  unfold lastP at h
  rw [List.getLast?_eq_none_iff] at h
  cases hp : p x with
  | false => rfl
  | true => exact absurd (List.mem_filter.2 ⟨hx, hp⟩) (by rw [h]; simp)

def deathB (n : Int) (x : Fact) : Bool := decide (x.kind = 10 ∧ x.who = n)
def deadB (c : List Fact) (n : Int) : Bool := c.any (deathB n)
def livesB (c : List Fact) (k s cl : Int) (x : Fact) : Bool := decide (x.kind = k ∧ x.what = s ∧ x.other = cl) && !deadB c x.who
def livingL (c : List Fact) (k s cl : Int) : List Int := sortD ((c.filter (livesB c k s cl)).map Fact.who)
def isNm (s lang : Int) (x : Fact) : Bool := decide (x.kind = 1 ∧ x.who = s ∧ x.other = lang)
def nameL (c : List Fact) (s lang : Int) : ByteArray := ((lastP (isNm s lang) c).getD factZ).name
def statesL (c : List Fact) : List Int := sortD (whos c)
def mournB (s : Int) (x : Fact) : Bool := decide (x.kind = 7 ∧ x.who = s)
def recogB (host s p : Int) (x : Fact) : Bool := decide (x.kind = 4 ∧ x.who = host ∧ x.what = s ∧ x.other = p)

/-- Whom a host takes as the holder of the class 1. -/
def chosenL (c : List Fact) (host s : Int) : List Int := if 1 < (livingL c 2 s 1).length then (livingL c 2 s 1).filter fun p => c.any (recogB host s p) else livingL c 2 s 1
def recogL (c : List Fact) (host s : Int) : Int × Bool := match chosenL c host s with
  | [p] => (p, true)
  | _ => (0, false)
def contestedL (c : List Fact) : List Int := sortD ((c.filter fun x => decide (x.kind = 2 ∧ x.other = 1) && decide (1 < (livingL c 2 x.what 1).length)).map Fact.what)

/-- Whether a person holds a class as a host sees it; whether it acts in it. -/
def heldB (c : List Fact) (host p s cl : Int) : Bool := if cl = 1 then decide (recogL c host s = (p, true)) else decide (p ∈ livingL c 2 s cl)
def actsB (c : List Fact) (p s cl : Int) : Bool := decide (p ∈ livingL c 3 s cl)
def classAt (c : List Fact) (host p s : Int) : List Int → Int × Bool
  | [] => (5, false)
  | cl :: r => if (heldB c host p s cl || actsB c p s cl) = true then (cl, !heldB c host p s cl) else classAt c host p s r
def classL (c : List Fact) (host p s : Int) : Int × Bool := classAt c host p s [1, 2, 3, 4]
def leastAt (c : List Fact) (p s : Int) : List Int → Int
  | [] => 5
  | cl :: r => if (decide (p ∈ livingL c 2 s cl) || actsB c p s cl) = true then cl else leastAt c p s r
def leastL (c : List Fact) (p s : Int) : Int := leastAt c p s [1, 2, 3, 4]

def credB (p s : Int) (x : Fact) : Bool := decide (x.kind = 5 ∧ x.who = p ∧ x.what = s)
def credL (c : List Fact) (p s : Int) : Int := match lastP (credB p s) c with
  | some x => x.since
  | none => 100001
def visitB (p s : Int) (x : Fact) : Bool := decide (x.kind = 8 ∧ x.who = p ∧ x.what = s)
def visitAt (p s : Int) : Int × Bool → List Fact → Int × Bool
  | a, [] => a
  | a, x :: r => visitAt p s (if (visitB p s x && (!a.2 || decide (x.other < a.1))) = true then (x.other, true) else a) r
def visitL (c : List Fact) (p s : Int) : Int := (visitAt p s (0, false) c).1
theorem visitAt_snoc (p s : Int) (x : Fact) : ∀ (c : List Fact) (a : Int × Bool), visitAt p s a (c ++ [x]) = if (visitB p s x && (!(visitAt p s a c).2 || decide (x.other < (visitAt p s a c).1))) = true then (x.other, true) else visitAt p s a c
  | [], a => rfl
  | y :: r, a => visitAt_snoc p s x r _

def marriedB (p : Int) (x : Fact) : Bool := decide (x.kind = 6 ∧ (x.who = p ∨ x.other = p))
def spouseL (c : List Fact) (p : Int) : Int × Bool := match lastP (marriedB p) c with
  | none => (0, false)
  | some x => if (deadB c x.who || deadB c x.other) = true then (0, false) else if x.who = p then (x.other, true) else (x.who, true)

def deputyB (p : Int) (x : Fact) : Bool := decide (x.kind = 9 ∧ x.who = p)
def nextL (c : List Fact) (p : Int) : Option Int := (lastP (deputyB p) c).map Fact.other
/-- From person to person, those met set aside; the count bounds the steps. -/
def princAt (c : List Fact) : Nat → List Int → Int → Int × Bool
  | 0, _, _ => (0, false)
  | n + 1, met, at_ => if at_ ∈ met then (0, false) else match nextL c at_ with
    | none => if met.length = 0 then (0, false) else (at_, true)
    | some q => princAt c n (met ++ [at_]) q
def princL (c : List Fact) (p : Int) : Int × Bool := princAt c (c.length + 2) [] p

end Go.Proofs.YtcnbpfecgokhiaaGreatDoor

namespace Go.Proofs.YtcnbpfecgokhiaaGreatDoor
open Go.Eng Go.RowKit

/-- A state with its name stands ahead of another one. -/
def aheadK (s : List UInt8) (a : Int) (t : List UInt8) (b : Int) : Bool :=
  if decide (s = []) != decide (t = []) then decide (t = []) else if s = t then decide (a < b) else Op.bytesLess s t
theorem bl_irrefl (s : List UInt8) : Op.bytesLess s s = false := by rw [Go.Proofs.bytesLess_eq]; exact decide_eq_false (List.lt_irrefl s)
theorem bl_trans {s t u : List UInt8} (h1 : Op.bytesLess s t = true) (h2 : Op.bytesLess t u = true) : Op.bytesLess s u = true := by
  rw [Go.Proofs.bytesLess_eq, decide_eq_true_eq] at *
  exact List.lt_trans h1 h2
theorem bl_total (s t : List UInt8) : Op.bytesLess s t = true ∨ s = t ∨ Op.bytesLess t s = true := by
  rw [Go.Proofs.bytesLess_eq, Go.Proofs.bytesLess_eq, decide_eq_true_eq, decide_eq_true_eq]
  by_cases h1 : s < t
  · exact .inl h1
  · by_cases h2 : t < s
    · exact .inr (.inr h2)
    · exact .inr (.inl (List.le_antisymm (List.not_lt.1 h2) (List.not_lt.1 h1)))

theorem aheadK_irrefl (s : List UInt8) (a : Int) : aheadK s a s a = false := by
  unfold aheadK
  simp
theorem aheadK_iff {s t : List UInt8} {a b : Int} : aheadK s a t b = true ↔ (s ≠ [] ∧ t = []) ∨ ((s = [] ↔ t = []) ∧ (s = t ∧ a < b ∨ s ≠ t ∧ Op.bytesLess s t = true)) := by
  unfold aheadK
  by_cases hs : s = [] <;> by_cases ht : t = []
  · subst hs; subst ht; simp
  · subst hs
    have : ¬ ([] : List UInt8) = t := fun e => ht e.symm
    simp [ht]
  · subst ht; simp [hs]
  · simp only [hs, ht, decide_false, bne_self_eq_false, Bool.false_eq_true, if_false, and_false, false_or, true_and, ne_eq]
    split
    · rename_i e; simp [e]
    · rename_i e; simp [e]
theorem aheadK_trans {s t u : List UInt8} {a b c : Int} (h1 : aheadK s a t b = true) (h2 : aheadK t b u c = true) : aheadK s a u c = true := by
  rw [aheadK_iff] at *
  rcases h1 with ⟨p, q⟩ | ⟨e, h1⟩
  · subst q
    rcases h2 with ⟨p2, _⟩ | ⟨e2, _⟩
    · exact absurd rfl p2
    · exact .inl ⟨p, e2.1 rfl⟩
  · rcases h2 with ⟨p2, q2⟩ | ⟨e2, h2⟩
    · exact .inl ⟨fun h => p2 (e.1 h), q2⟩
    · refine .inr ⟨e.trans e2, ?_⟩
      rcases h1 with ⟨rfl, h1⟩ | ⟨n1, h1⟩
      · rcases h2 with ⟨rfl, h2⟩ | ⟨n2, h2⟩
        · exact .inl ⟨rfl, by omega⟩
        · exact .inr ⟨n2, h2⟩
      · rcases h2 with ⟨rfl, h2⟩ | ⟨n2, h2⟩
        · exact .inr ⟨n1, h1⟩
        · have h3 := bl_trans h1 h2
          refine .inr ⟨fun e => ?_, h3⟩
          rw [e, bl_irrefl] at h3; cases h3
theorem aheadK_total {s t : List UInt8} {a b : Int} (hne : a ≠ b) : aheadK s a t b = true ∨ aheadK t b s a = true := by
  rw [aheadK_iff, aheadK_iff]
  by_cases hs : s = [] <;> by_cases ht : t = []
  · subst hs; subst ht
    simp; omega
  · exact .inr (.inl ⟨ht, hs⟩)
  · exact .inl (.inl ⟨hs, ht⟩)
  · have e1 : (s = [] ↔ t = []) := by simp [hs, ht]
    rcases bl_total s t with h | h | h
    · refine .inl (.inr ⟨e1, .inr ⟨fun e => ?_, h⟩⟩)
      rw [e, bl_irrefl] at h; cases h
    · subst h
      rcases Int.lt_or_gt_of_ne hne with h | h
      · exact .inl (.inr ⟨e1, .inl ⟨rfl, h⟩⟩)
      · exact .inr (.inr ⟨e1, .inl ⟨rfl, h⟩⟩)
    · refine .inr (.inr ⟨e1.symm, .inr ⟨fun e => ?_, h⟩⟩)
      rw [e, bl_irrefl] at h; cases h

def aheadB (c : List Fact) (lang a b : Int) : Bool := aheadK (nameL c a lang).data.toList a (nameL c b lang).data.toList b
theorem aheadB_irrefl (c : List Fact) (lang a : Int) : aheadB c lang a a = false := aheadK_irrefl _ _
theorem aheadB_trans {c : List Fact} {lang a b d : Int} (h1 : aheadB c lang a b = true) (h2 : aheadB c lang b d = true) : aheadB c lang a d = true := aheadK_trans h1 h2
theorem aheadB_total {c : List Fact} {lang a b : Int} (h : a ≠ b) : aheadB c lang a b = true ∨ aheadB c lang b a = true := aheadK_total h
theorem aheadB_asymm {c : List Fact} {lang a b : Int} (h1 : aheadB c lang a b = true) (h2 : aheadB c lang b a = true) : False := by
  have := aheadB_trans h1 h2
  rw [aheadB_irrefl] at this; cases this

/-- Put into a row before the first one that it stands ahead of. -/
def insB (lt : Int → Int → Bool) (a : Int) : List Int → List Int
  | [] => [a]
  | b :: r => if lt a b = true then a :: b :: r else b :: insB lt a r
def orderL (c : List Fact) (lang : Int) : List Int := (statesL c).foldr (insB (aheadB c lang)) []

theorem insB_perm (lt : Int → Int → Bool) (a : Int) : ∀ (l : List Int), (insB lt a l).Perm (a :: l)
  | [] => List.Perm.refl _
  | b :: r => by
    unfold insB
    split
    · exact List.Perm.refl _
    · exact (List.Perm.cons b (insB_perm lt a r)).trans (List.Perm.swap a b r)
theorem orderL_perm (c : List Fact) (lang : Int) : (orderL c lang).Perm (statesL c) := by
  unfold orderL
  induction statesL c with
  | nil => exact List.Perm.refl _
  | cons a r ih => exact (insB_perm _ _ _).trans (List.Perm.cons a ih)
theorem insB_sorted {c : List Fact} {lang a : Int} : ∀ {l : List Int}, a ∉ l → l.Pairwise (fun x y => aheadB c lang x y = true) → (insB (aheadB c lang) a l).Pairwise fun x y => aheadB c lang x y = true
  | [], _, _ => by simp [insB]
  | b :: r, ha, h => by
    obtain ⟨h1, h2⟩ := List.pairwise_cons.1 h
    unfold insB
    split
    · rename_i hl
      refine List.pairwise_cons.2 ⟨fun x hx => ?_, h⟩
      rcases List.mem_cons.1 hx with rfl | hx
      · exact hl
      · exact aheadB_trans hl (h1 x hx)
    · rename_i hl
      have hne : a ≠ b := fun e => ha (by simp [e])
      have hba : aheadB c lang b a = true := (aheadB_total hne).resolve_left hl
      refine List.pairwise_cons.2 ⟨fun x hx => ?_, insB_sorted (fun h => ha (by simp [h])) h2⟩
      rcases List.mem_cons.1 ((insB_perm _ _ _).mem_iff.1 hx) with rfl | hx
      · exact hba
      · exact h1 x hx
theorem statesL_nodup (c : List Fact) : (statesL c).Nodup := (sortD_asc _).imp fun h e => by subst e; exact Int.lt_irrefl _ h
theorem orderL_sorted (c : List Fact) (lang : Int) : (orderL c lang).Pairwise fun x y => aheadB c lang x y = true := by
  have hn := statesL_nodup c
  unfold orderL
  revert hn
  generalize statesL c = L
  intro hn
  induction L with
  | nil => exact List.Pairwise.nil
  | cons a r ih =>
    obtain ⟨h1, h2⟩ := List.nodup_cons.1 hn
    refine insB_sorted (fun h => h1 ?_) (ih h2)
    have : ∀ (l : List Int), (l.foldr (insB (aheadB c lang)) []).Perm l := by
      intro l
      induction l with
      | nil => exact List.Perm.refl _
      | cons a r ih => exact (insB_perm _ _ _).trans (List.Perm.cons a ih)
    exact (this r).mem_iff.1 h
/-- An order of all states in which nobody stands behind one whom it is ahead of is the order. -/
theorem order_eq {c : List Fact} {lang : Int} {l : List Int} (hp : l.Perm (statesL c)) (hs : l.Pairwise fun x y => aheadB c lang y x = false) : l = orderL c lang := by
  refine List.Perm.eq_of_pairwise (le := fun x y => aheadB c lang y x = false) (fun a b _ _ h1 h2 => ?_) hs ((orderL_sorted c lang).imp fun {a b} h => ?_) (hp.trans (orderL_perm c lang).symm)
  · by_cases h : a = b
    · exact h
    · rcases aheadB_total (c := c) (lang := lang) h with h | h
      · rw [h2] at h; cases h
      · rw [h1] at h; cases h
  · cases hh : aheadB c lang b a with
    | false => rfl
    | true => exact (aheadB_asymm h hh).elim

/-- The alphabet, begun by a lot. -/
def alphaL (c : List Fact) (lang lot : Int) : List Int :=
  let o := orderL c lang
  (List.range o.length).map fun i => o.getD (((lot.emod o.length).toNat + i) % o.length) 0
def letterL (c : List Fact) (lang lot s : Int) : Int × Bool := match (alphaL c lang lot).findIdx? (fun x => decide (x = s)) with
  | some i => ((i : Nat), true)
  | none => (200, false)

end Go.Proofs.YtcnbpfecgokhiaaGreatDoor
