/- Facts, the reference: days on which something can change: the program. -/
import Derived.Test.YthpdkdmbfdmamaaGreatDoorGFb
import Derived.Test.YthpdkdmbfdmamaaGreatDoorGCe
set_option linter.unusedVariables false
set_option linter.unusedSimpArgs false
set_option linter.unnecessarySimpa false
set_option linter.unusedSectionVars false
namespace Go.Proofs.YthpdkdmbfdmamaaGreatDoor
open Go.Eng Go.RowKit

theorem ends_step {l : List Fact} {i : Nat} (hi : i < l.length) : endsL (l.take (i + 1)) = (endsL (l.take i) ++ [l[i].since]) ++ [l[i].til] := by
  unfold endsL
  rw [List.take_succ_eq_append_getElem hi, List.flatMap_append]; simp
theorem knowns_step {l : List Fact} {i : Nat} (hi : i < l.length) : (l.take (i + 1)).map Fact.known = (l.take i).map Fact.known ++ [l[i].known] := by
  rw [List.take_succ_eq_append_getElem hi, List.map_append]; rfl
theorem sort_cons_snoc (x : Int) (a : List Int) : sortD (0 :: (a ++ [x])) = insD x (sortD (0 :: a)) := sortD_snoc (0 :: a) x
theorem row_days {l : List Int} (d : Int) (h : d ∈ sortD (0 :: l)) : d = 0 ∨ d ∈ l := by
  have := mem_sortD.1 h
  simpa using this

theorem insD_length {n : Int} : ∀ {l : List Int}, (insD n l).length ≤ l.length + 1
  | [] => by simp [insD]
  | x :: r => by
    unfold insD
    split
    · simp
    · split
      · simp
      · rw [List.length_cons, List.length_cons]
        have := insD_length (n := n) (l := r)
        omega

theorem sameRows {w : World} {v u : Value} {B D : Nat} {xs : List Int} (hv : NewInts B w v xs) (hu : NewInts D w u xs) : CallsV C.P 38 #[v, u] w fun r w' => r = .bool true ∧ w' = w := by
  obtain ⟨A1, c1, rfl, h1, _⟩ := NewInts.slice hv
  obtain ⟨A2, c2, rfl, h2, _⟩ := NewInts.slice hu
  have s := SameInts_spec (c := c1) (d := c2) h1 h2 (ownsRow_len hv)
  rw [decide_eq_true rfl] at s
  exact s

set_option maxRecDepth 100000 in
set_option maxHeartbeats 1000000 in
theorem refTurns_spec {w : World} {A : Option Addr} {l : List Fact} {c : Nat} (h : HF w A l c) (hl : l.length ≤ 2 ^ 20) (k : Int) :
    CallsV C.P 40 #[.slice A l.length c, .int .i64 k] w fun v w' => NewInts w.heap.size w' v (turnsL k l) ∧ Ext w w' := by
  refine callsV_of C_ok (args := [_, _]) (plans := []) Tryz.func40 rfl Tryz.ntmps40 (by kernel_rfl) (Nat.le_of_ble_eq_true rfl) ?_
  intro g w1 h1
  have ho1 : NewInts w.heap.size w1 (.slice (some ⟨g, 0, none⟩) 1 1) (sortD (0 :: endsL (l.take 0))) := owns_block (cs := [.int .i64 0]) h1.here (by rw [h1.new]; exact Nat.le_refl _) rfl (by simp only [maxLen]; omega)
  have hlen : ∀ i, (sortD (0 :: endsL (l.take i))).length ≤ 2 ^ 22 := fun i => by
    have h1 := sortD_length (0 :: endsL (l.take i))
    have h2 : (endsL (l.take i)).length ≤ 2 * l.length := by rw [endsL_length, List.length_take]; omega
    rw [List.length_cons] at h1
    omega
  refine loopE C_ok (fun (s : Nat × Value) => [(0, .slice A l.length c), (1, .int .i64 k), (5, s.2), (6, .int .i64 s.1)])
    (fun s w' => s.1 ≤ l.length ∧ Ext w w' ∧ NewInts w.heap.size w' s.2 (sortD (0 :: endsL (l.take s.1)))) (fun s => l.length - s.1) (0, .slice (some ⟨g, 0, none⟩) 1 1) ⟨rfl, rfl, rfl, rfl, trivial⟩ ⟨Nat.zero_le _, h1.ext, ho1⟩ ?_
  rintro ⟨i, v⟩ w2 ⟨hi', e2', ho'⟩
  have hi : i ≤ l.length := hi'
  have e2 : Ext w w2 := e2'
  have ho2 : NewInts w.heap.size w2 v (sortD (0 :: endsL (l.take i))) := ho'
  clear hi' ho' e2'
  refine brE_dec (fun hlt2 => ?_) (fun hge => ?_)
  · have hlt : i < l.length := by have : (i : Int) < (l.length : Nat) := hlt2; omega
    clear hlt2
    have next : IntKind.i64.wrap ((i : Int) + 1) = ((i + 1 : Nat) : Int) := fit ⟨by omega, by omega⟩
    have hn1 := hlen i
    have hn2 := hlen (i + 1)
    rw [ends_step hlt] at hn2
    obtain ⟨b, o, hA, hc⟩ := Reads.fact (h.reads.ext e2) hlt
    obtain ⟨AV, cV, rfl, hrV, _⟩ := NewInts.slice ho2
    refine ⟨i, b, o, rfl, hlt, hA, ?_⟩
    refine ⟨.int .i64 l[i].since, hc 6 _ rfl, ?_⟩
    refine (with_spec hrV (by omega) (sortD_asc _) l[i].since).mono ?_
    rintro v3 w3 ⟨ho3, e3⟩
    have ho3 : NewInts w.heap.size w3 v3 (sortD (0 :: ((endsL (l.take i)) ++ [l[i].since]))) := by rw [sort_cons_snoc]; exact ho3.base e2.size
    have e3 := e2.trans e3
    obtain ⟨b, o, hA, hc⟩ := Reads.fact (h.reads.ext e3) hlt
    obtain ⟨AV, cV, rfl, hrV, _⟩ := NewInts.slice ho3
    refine ⟨i, b, o, rfl, hlt, hA, ?_⟩
    refine ⟨.int .i64 l[i].til, hc 7 _ rfl, ?_⟩
    have hn3 : (sortD (0 :: ((endsL (l.take i)) ++ [l[i].since]))).length ≤ 2 ^ 22 + 1 := by
      rw [sort_cons_snoc]; exact Nat.le_trans insD_length (by omega)
    refine (with_spec hrV (by omega) (sortD_asc _) l[i].til).mono ?_
    rintro v4 w4 ⟨ho4, e4⟩
    have ho4 : NewInts w.heap.size w4 v4 (sortD (0 :: (((endsL (l.take i)) ++ [l[i].since]) ++ [l[i].til]))) := by rw [sort_cons_snoc]; exact ho4.base e3.size
    have e4 := e3.trans e4
    refine ⟨_, next, ?_⟩
    exact ⟨(i + 1, v4), ⟨rfl, rfl, rfl, rfl, trivial⟩, ⟨hlt, e4, by show NewInts w.heap.size w4 v4 (sortD (0 :: endsL (l.take (i + 1)))); rw [ends_step hlt]; exact ho4⟩, by show l.length - (i + 1) < l.length - i; omega⟩
  · have : i = l.length := by have : ¬ (i : Int) < (l.length : Nat) := hge; omega
    have hn1 := hlen i
    rw [this, List.take_length] at ho2 hn1
    rw [← turns_zero]
    generalize sortD (0 :: endsL l) = S at *
    obtain ⟨AS, cS, rfl, hrS, _⟩ := NewInts.slice ho2
    refine loopE C_ok (fun (s : Nat × Value) => [(0, .slice A l.length c), (1, .int .i64 k), (5, .slice AS S.length cS), (7, s.2), (8, .int .i64 s.1)])
      (fun s w' => s.1 ≤ S.length ∧ Ext w2 w' ∧ NewInts w2.heap.size w' s.2 ((S.take s.1).filter (turnB k l))) (fun s => S.length - s.1) (0, .slice none 0 0) ⟨rfl, rfl, rfl, rfl, rfl, trivial⟩ ⟨Nat.zero_le _, Ext.refl _, newInts_nil _ _⟩ ?_
    rintro ⟨j, v⟩ w3 ⟨hj', e3', ho'⟩
    have hj : j ≤ S.length := hj'
    have e3 : Ext w2 w3 := e3'
    have ho3 : NewInts w2.heap.size w3 v ((S.take j).filter (turnB k l)) := ho'
    clear hj' ho' e3'
    refine brE_dec (fun hlt2 => ?_) (fun hge => ?_)
    · have hlt : j < S.length := by have : (j : Int) < (S.length : Nat) := hlt2; omega
      clear hlt2
      have next : IntKind.i64.wrap ((j : Int) + 1) = ((j + 1 : Nat) : Int) := fit ⟨by omega, by omega⟩
      have hst : (S.take (j + 1)).filter (turnB k l) = (S.take j).filter (turnB k l) ++ if (turnB k l) S[j] = true then [S[j]] else [] := by
        rw [List.take_succ_eq_append_getElem hlt, List.filter_append, List.filter_cons, List.filter_nil]
      have hfl : ((S.take j).filter (turnB k l)).length ≤ S.length := Nat.le_trans (List.length_filter_le _ _) (by rw [List.length_take]; omega)
      have miss : ∀ {w' : World}, Ext w3 w' → (turnB k l) S[j] = false → j + 1 ≤ S.length ∧ Ext w2 w' ∧ NewInts w2.heap.size w' v ((S.take (j + 1)).filter (turnB k l)) := fun e hf => by
        rw [hf, if_neg (by decide), List.append_nil] at hst
        exact ⟨hlt, e3.trans e, by rw [hst]; exact ho3.ext e⟩
      obtain ⟨b, o, hA, hc⟩ := Reads.int (hrS.ext e3) hlt
      refine ⟨j, b, o, rfl, hlt, hA, ?_⟩
      refine ⟨_, by simpa using hc, ?_⟩
      refine (within_spec S[j] 0 100000 w3).mono ?_
      rintro _ w4 ⟨rfl, rfl⟩
      refine brE_ndec (fun hd => ?_) (fun hd => ?_)
      · have hd : ¬ (0 ≤ S[j] ∧ S[j] ≤ 100000) := hd
        refine ⟨_, next, ?_⟩
        exact ⟨(j + 1, v), ⟨rfl, rfl, rfl, rfl, rfl, trivial⟩, miss (Ext.refl _) (by unfold turnB dayB; rw [decide_eq_false hd]; rfl), by show S.length - (j + 1) < S.length - j; omega⟩
      · have hd : 0 ≤ S[j] ∧ S[j] ≤ 100000 := hd
        refine (refAt_spec (h.ext (e2.trans e3)) hl k S[j]).mono ?_
        rintro _ w5 ⟨ho5, e5⟩
        refine ⟨S[j] - 1, fit ⟨by omega, by omega⟩, ?_⟩
        refine (refAt_spec (h.ext ((e2.trans e3).trans e5)) hl k (S[j] - 1)).mono ?_
        rintro _ w6 ⟨ho6, e6⟩
        have hal := atL_length k S[j] l
        obtain ⟨A5, c5, rfl, hr5, _⟩ := ho5.slice
        obtain ⟨A6, c6, rfl, hr6, _⟩ := ho6.slice
        refine (SameFacts_spec (c := c5) (d := c6) (hr5.ext e6) hr6 (by omega)).mono ?_
        rintro _ w7 ⟨rfl, rfl⟩
        have e36 := e5.trans e6
        refine brE_ndec (fun hs => ?_) (fun hs => ?_)
        · have hs : ¬ atL k S[j] l = atL k (S[j] - 1) l := hs
          have ht : (turnB k l) S[j] = true := by unfold turnB dayB; rw [decide_eq_true hd, decide_eq_false hs]; rfl
          rw [ht, if_pos rfl] at hst
          intro g8 w8 h8
          have e38 := e36.trans h8.ext
          have ho8 := ho3.ext e38
          refine ⟨rfl, rfl, rfl, w2.heap.size, _, _, [.int .i64 S[j]], ho8, (e3.trans e38).size, Nat.le_of_ble_eq_true rfl, rfl, rfl, .inr ⟨g8, 0, rfl, Rd.of_block h8.here⟩, rfl, rfl, by omega, by simp only [maxLen]; omega, ?_⟩
          intro v9 w9 ho9 hg9 _
          refine ⟨_, next, ?_⟩
          exact ⟨(j + 1, v9), ⟨rfl, rfl, rfl, rfl, rfl, trivial⟩, ⟨hlt, app_ext (e3.trans e38) ho8 hg9, by show NewInts w2.heap.size w9 v9 ((S.take (j + 1)).filter (turnB k l)); rw [hst]; exact newInts_snoc ho9⟩, by show S.length - (j + 1) < S.length - j; omega⟩
        · have hs : atL k S[j] l = atL k (S[j] - 1) l := hs
          refine ⟨_, next, ?_⟩
          exact ⟨(j + 1, v), ⟨rfl, rfl, rfl, rfl, rfl, trivial⟩, miss e36 (by unfold turnB dayB; rw [decide_eq_true hs, Bool.and_comm]; rfl), by show S.length - (j + 1) < S.length - j; omega⟩
    · have : j = S.length := by have : ¬ (j : Int) < (S.length : Nat) := hge; omega
      rw [this, List.take_length] at ho3
      exact ⟨ho3.base e2.size, e2.trans e3⟩

set_option maxRecDepth 100000 in
set_option maxHeartbeats 1000000 in
theorem refLearned_spec {w : World} {A : Option Addr} {l : List Fact} {c : Nat} (h : HF w A l c) (hl : l.length ≤ 2 ^ 20) (k : Int) :
    CallsV C.P 42 #[.slice A l.length c, .int .i64 k] w fun v w' => NewInts w.heap.size w' v (learnedL k l) ∧ Ext w w' := by
  refine callsV_of C_ok (args := [_, _]) (plans := []) Tryz.func42 rfl Tryz.ntmps42 (by kernel_rfl) (Nat.le_of_ble_eq_true rfl) ?_
  intro g w1 h1
  have ho1 : NewInts w.heap.size w1 (.slice (some ⟨g, 0, none⟩) 1 1) (sortD (0 :: ((l.take 0)).map Fact.known)) := owns_block (cs := [.int .i64 0]) h1.here (by rw [h1.new]; exact Nat.le_refl _) rfl (by simp only [maxLen]; omega)
  have hlen : ∀ i, (sortD (0 :: ((l.take i)).map Fact.known)).length ≤ 2 ^ 22 := fun i => by
    have h1 := sortD_length (0 :: ((l.take i)).map Fact.known)
    have h2 : (((l.take i)).map Fact.known).length ≤ 2 * l.length := by rw [List.length_map, List.length_take]; omega
    rw [List.length_cons] at h1
    omega
  refine loopE C_ok (fun (s : Nat × Value) => [(0, .slice A l.length c), (1, .int .i64 k), (5, s.2), (6, .int .i64 s.1)])
    (fun s w' => s.1 ≤ l.length ∧ Ext w w' ∧ NewInts w.heap.size w' s.2 (sortD (0 :: ((l.take s.1)).map Fact.known))) (fun s => l.length - s.1) (0, .slice (some ⟨g, 0, none⟩) 1 1) ⟨rfl, rfl, rfl, rfl, trivial⟩ ⟨Nat.zero_le _, h1.ext, ho1⟩ ?_
  rintro ⟨i, v⟩ w2 ⟨hi', e2', ho'⟩
  have hi : i ≤ l.length := hi'
  have e2 : Ext w w2 := e2'
  have ho2 : NewInts w.heap.size w2 v (sortD (0 :: ((l.take i)).map Fact.known)) := ho'
  clear hi' ho' e2'
  refine brE_dec (fun hlt2 => ?_) (fun hge => ?_)
  · have hlt : i < l.length := by have : (i : Int) < (l.length : Nat) := hlt2; omega
    clear hlt2
    have next : IntKind.i64.wrap ((i : Int) + 1) = ((i + 1 : Nat) : Int) := fit ⟨by omega, by omega⟩
    have hn1 := hlen i
    have hn2 := hlen (i + 1)
    rw [knowns_step hlt] at hn2
    obtain ⟨b, o, hA, hc⟩ := Reads.fact (h.reads.ext e2) hlt
    obtain ⟨AV, cV, rfl, hrV, _⟩ := NewInts.slice ho2
    refine ⟨i, b, o, rfl, hlt, hA, ?_⟩
    refine ⟨.int .i64 l[i].known, hc 1 _ rfl, ?_⟩
    refine (with_spec hrV (by omega) (sortD_asc _) l[i].known).mono ?_
    rintro v3 w3 ⟨ho3, e3⟩
    have ho3 : NewInts w.heap.size w3 v3 (sortD (0 :: ((((l.take i)).map Fact.known) ++ [l[i].known]))) := by rw [sort_cons_snoc]; exact ho3.base e2.size
    have e3 := e2.trans e3
    refine ⟨_, next, ?_⟩
    exact ⟨(i + 1, v3), ⟨rfl, rfl, rfl, rfl, trivial⟩, ⟨hlt, e3, by show NewInts w.heap.size w3 v3 (sortD (0 :: ((l.take (i + 1))).map Fact.known)); rw [knowns_step hlt]; exact ho3⟩, by show l.length - (i + 1) < l.length - i; omega⟩
  · have : i = l.length := by have : ¬ (i : Int) < (l.length : Nat) := hge; omega
    have hn1 := hlen i
    rw [this, List.take_length] at ho2 hn1
    rw [← learned_zero]
    generalize sortD (0 :: (l).map Fact.known) = S at *
    obtain ⟨AS, cS, rfl, hrS, _⟩ := NewInts.slice ho2
    refine loopE C_ok (fun (s : Nat × Value) => [(0, .slice A l.length c), (1, .int .i64 k), (5, .slice AS S.length cS), (7, s.2), (8, .int .i64 s.1)])
      (fun s w' => s.1 ≤ S.length ∧ Ext w2 w' ∧ NewInts w2.heap.size w' s.2 ((S.take s.1).filter (learnB k l))) (fun s => S.length - s.1) (0, .slice none 0 0) ⟨rfl, rfl, rfl, rfl, rfl, trivial⟩ ⟨Nat.zero_le _, Ext.refl _, newInts_nil _ _⟩ ?_
    rintro ⟨j, v⟩ w3 ⟨hj', e3', ho'⟩
    have hj : j ≤ S.length := hj'
    have e3 : Ext w2 w3 := e3'
    have ho3 : NewInts w2.heap.size w3 v ((S.take j).filter (learnB k l)) := ho'
    clear hj' ho' e3'
    refine brE_dec (fun hlt2 => ?_) (fun hge => ?_)
    · have hlt : j < S.length := by have : (j : Int) < (S.length : Nat) := hlt2; omega
      clear hlt2
      have next : IntKind.i64.wrap ((j : Int) + 1) = ((j + 1 : Nat) : Int) := fit ⟨by omega, by omega⟩
      have hst : (S.take (j + 1)).filter (learnB k l) = (S.take j).filter (learnB k l) ++ if (learnB k l) S[j] = true then [S[j]] else [] := by
        rw [List.take_succ_eq_append_getElem hlt, List.filter_append, List.filter_cons, List.filter_nil]
      have hfl : ((S.take j).filter (learnB k l)).length ≤ S.length := Nat.le_trans (List.length_filter_le _ _) (by rw [List.length_take]; omega)
      have miss : ∀ {w' : World}, Ext w3 w' → (learnB k l) S[j] = false → j + 1 ≤ S.length ∧ Ext w2 w' ∧ NewInts w2.heap.size w' v ((S.take (j + 1)).filter (learnB k l)) := fun e hf => by
        rw [hf, if_neg (by decide), List.append_nil] at hst
        exact ⟨hlt, e3.trans e, by rw [hst]; exact ho3.ext e⟩
      obtain ⟨b, o, hA, hc⟩ := Reads.int (hrS.ext e3) hlt
      refine ⟨j, b, o, rfl, hlt, hA, ?_⟩
      refine ⟨_, by simpa using hc, ?_⟩
      refine (within_spec S[j] 0 100000 w3).mono ?_
      rintro _ w4 ⟨rfl, rfl⟩
      refine brE_ndec (fun hd => ?_) (fun hd => ?_)
      · have hd : ¬ (0 ≤ S[j] ∧ S[j] ≤ 100000) := hd
        refine ⟨_, next, ?_⟩
        exact ⟨(j + 1, v), ⟨rfl, rfl, rfl, rfl, rfl, trivial⟩, miss (Ext.refl _) (by unfold learnB dayB; rw [decide_eq_false hd]; rfl), by show S.length - (j + 1) < S.length - j; omega⟩
      · have hd : 0 ≤ S[j] ∧ S[j] ≤ 100000 := hd
        refine (refAt_spec (h.ext (e2.trans e3)) hl S[j] k).mono ?_
        rintro _ w5 ⟨ho5, e5⟩
        refine ⟨S[j] - 1, fit ⟨by omega, by omega⟩, ?_⟩
        refine (refAt_spec (h.ext ((e2.trans e3).trans e5)) hl (S[j] - 1) k).mono ?_
        rintro _ w6 ⟨ho6, e6⟩
        have hal := atL_length S[j] k l
        obtain ⟨A5, c5, rfl, hr5, _⟩ := ho5.slice
        obtain ⟨A6, c6, rfl, hr6, _⟩ := ho6.slice
        refine (SameFacts_spec (c := c5) (d := c6) (hr5.ext e6) hr6 (by omega)).mono ?_
        rintro _ w7 ⟨rfl, rfl⟩
        have e36 := e5.trans e6
        refine brE_ndec (fun hs => ?_) (fun hs => ?_)
        · have hs : ¬ atL S[j] k l = atL (S[j] - 1) k l := hs
          have ht : (learnB k l) S[j] = true := by unfold learnB dayB; rw [decide_eq_true hd, decide_eq_false hs]; rfl
          rw [ht, if_pos rfl] at hst
          intro g8 w8 h8
          have e38 := e36.trans h8.ext
          have ho8 := ho3.ext e38
          refine ⟨rfl, rfl, rfl, w2.heap.size, _, _, [.int .i64 S[j]], ho8, (e3.trans e38).size, Nat.le_of_ble_eq_true rfl, rfl, rfl, .inr ⟨g8, 0, rfl, Rd.of_block h8.here⟩, rfl, rfl, by omega, by simp only [maxLen]; omega, ?_⟩
          intro v9 w9 ho9 hg9 _
          refine ⟨_, next, ?_⟩
          exact ⟨(j + 1, v9), ⟨rfl, rfl, rfl, rfl, rfl, trivial⟩, ⟨hlt, app_ext (e3.trans e38) ho8 hg9, by show NewInts w2.heap.size w9 v9 ((S.take (j + 1)).filter (learnB k l)); rw [hst]; exact newInts_snoc ho9⟩, by show S.length - (j + 1) < S.length - j; omega⟩
        · have hs : atL S[j] k l = atL (S[j] - 1) k l := hs
          refine ⟨_, next, ?_⟩
          exact ⟨(j + 1, v), ⟨rfl, rfl, rfl, rfl, rfl, trivial⟩, miss e36 (by unfold learnB dayB; rw [decide_eq_true hs, Bool.and_comm]; rfl), by show S.length - (j + 1) < S.length - j; omega⟩
    · have : j = S.length := by have : ¬ (j : Int) < (S.length : Nat) := hge; omega
      rw [this, List.take_length] at ho3
      exact ⟨ho3.base e2.size, e2.trans e3⟩

end Go.Proofs.YthpdkdmbfdmamaaGreatDoor
