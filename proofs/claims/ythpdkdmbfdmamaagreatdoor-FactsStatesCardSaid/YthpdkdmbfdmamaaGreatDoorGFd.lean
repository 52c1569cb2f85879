/- Facts, the reference: the alphabet, letters: the program. -/
import Derived.Test.YthpdkdmbfdmamaaGreatDoorGFb
import Derived.Test.YthpdkdmbfdmamaaGreatDoorGCg
set_option linter.unusedVariables false
set_option linter.unusedSimpArgs false
set_option linter.unnecessarySimpa false
set_option linter.unusedSectionVars false
namespace Go.Proofs.YthpdkdmbfdmamaaGreatDoor
open Go.Eng Go.RowKit

theorem str_nil (s : ByteArray) : decide (s = (⟨#[]⟩ : ByteArray)) = decide (s.data.toList = []) := by
  rw [Bool.eq_iff_iff, decide_eq_true_eq, decide_eq_true_eq]
  constructor
  · intro h; rw [h]
  · intro h
    have : s.data = #[] := Array.toList_eq_nil_iff.1 h
    exact congrArg ByteArray.mk this
theorem str_eq (s t : ByteArray) : s = t ↔ s.data.toList = t.data.toList := by
  constructor
  · intro h; rw [h]
  · intro h
    exact congrArg ByteArray.mk (Array.toList_inj.1 h)

set_option maxRecDepth 100000 in
theorem ahead_spec (a : Int) (s : ByteArray) (b : Int) (t : ByteArray) (w : World) :
    CallsV C.P 113 #[.int .i64 a, .string s, .int .i64 b, .string t] w fun v w' => v = .bool (aheadK s.data.toList a t.data.toList b) ∧ w' = w := by
  refine callsV_of C_ok (args := [_, _, _, _]) (plans := []) Tryz.func113 rfl Tryz.ntmps113 (by kernel_rfl) (Nat.le_of_ble_eq_true rfl) ?_
  unfold aheadK
  refine ⟨_, eqStr _ _ s ⟨#[]⟩, ?_⟩
  refine ⟨_, eqStr _ _ t ⟨#[]⟩, ?_⟩
  refine ⟨_, neqBool _ _ _ _, ?_⟩
  rw [str_nil, str_nil]
  refine brE_mk (fun h1 => ?_) (fun h1 => ?_)
  · rw [if_pos h1]
    refine ⟨_, eqStr _ _ t ⟨#[]⟩, ?_⟩
    exact ⟨by rw [str_nil], rfl⟩
  rw [if_neg (by rw [h1]; decide)]
  refine ⟨_, neqStr _ _ s t, ?_⟩
  refine brE_ndec (fun h2 => ?_) (fun h2 => ?_)
  · have h2 : ¬ s = t := h2
    rw [if_neg (fun e => h2 ((str_eq s t).2 e))]
    refine ⟨_, ltStr _ s t, ⟨by decide, by decide⟩, ?_⟩
    exact ⟨rfl, rfl⟩
  · have h2 : s = t := h2
    rw [if_pos ((str_eq s t).1 h2)]
    exact ⟨rfl, rfl⟩

/-! ### the first one of those that are left -/
/-- The first states of the order, chosen one by one. -/
structure Picked (K : List Fact) (lang : Int) (o : List Int) : Prop where
  sorted : o.Pairwise fun x y => aheadB K lang x y = true
  sub : ∀ x ∈ o, x ∈ statesL K
  rest : ∀ x ∈ o, ∀ y ∈ statesL K, y ∉ o → aheadB K lang x y = true
theorem Picked.nodup {K : List Fact} {lang : Int} {o : List Int} (h : Picked K lang o) : o.Nodup := h.sorted.imp fun {a b} hab e => by subst e; rw [aheadB_irrefl] at hab; cases hab
theorem Picked.length {K : List Fact} {lang : Int} {o : List Int} (h : Picked K lang o) : o.length ≤ (statesL K).length := nodup_length_le h.nodup h.sub
theorem Picked.all {K : List Fact} {lang : Int} {o : List Int} (h : Picked K lang o) (hl : (statesL K).length ≤ o.length) : o = orderL K lang := by
  refine order_eq ?_ (h.sorted.imp fun {a b} hab => ?_)
  · refine (List.perm_ext_iff_of_nodup h.nodup (statesL_nodup K)).2 fun x => ⟨h.sub x, fun hx => ?_⟩
    refine Decidable.byContradiction fun hn => ?_
    have hnd : (x :: o).Nodup := List.nodup_cons.2 ⟨hn, h.nodup⟩
    have := nodup_length_le hnd fun y hy => by
      rcases List.mem_cons.1 hy with rfl | hy
      · exact hx
      · exact h.sub y hy
    rw [List.length_cons] at this
    omega
  · cases hh : aheadB K lang b a with
    | false => rfl
    | true => exact (aheadB_asymm hab hh).elim
/-- The index of the first one of those that are left and were looked at; -1: none was. -/
def Best (K : List Fact) (lang : Int) (o : List Int) (i : Nat) (z : Int) : Prop :=
  (z = -1 ∧ ∀ x ∈ (statesL K).take i, x ∈ o) ∨ ∃ b : Nat, ∃ hb : b < (statesL K).length, z = b ∧ b < i ∧ (statesL K)[b] ∉ o ∧ ∀ x ∈ (statesL K).take i, x ∉ o → x = (statesL K)[b] ∨ aheadB K lang (statesL K)[b] x = true
theorem Best.used {K : List Fact} {lang : Int} {o : List Int} {i : Nat} {z : Int} (hi : i < (statesL K).length) (hu : (statesL K)[i] ∈ o) (h : Best K lang o i z) : Best K lang o (i + 1) z := by
  rcases h with ⟨h1, h2⟩ | ⟨b, hb, h1, h2, h3, h4⟩
  · refine .inl ⟨h1, fun x hx => ?_⟩
    rw [List.take_succ_eq_append_getElem hi] at hx
    rcases List.mem_append.1 hx with hx | hx
    · exact h2 x hx
    · rw [List.mem_singleton.1 hx]; exact hu
  · refine .inr ⟨b, hb, h1, by omega, h3, fun x hx hn => ?_⟩
    rw [List.take_succ_eq_append_getElem hi] at hx
    rcases List.mem_append.1 hx with hx | hx
    · exact h4 x hx hn
    · rw [List.mem_singleton.1 hx] at hn; exact absurd hu hn
theorem Best.first {K : List Fact} {lang : Int} {o : List Int} {i : Nat} {z : Int} (hi : i < (statesL K).length) (hu : (statesL K)[i] ∉ o) (hz : z < 0) (h : Best K lang o i z) : Best K lang o (i + 1) (i : Nat) := by
  rcases h with ⟨h1, h2⟩ | ⟨b, hb, h1, _⟩
  · refine .inr ⟨i, hi, rfl, Nat.lt_succ_self _, hu, fun x hx hn => ?_⟩
    rw [List.take_succ_eq_append_getElem hi] at hx
    rcases List.mem_append.1 hx with hx | hx
    · exact absurd (h2 x hx) hn
    · exact .inl (List.mem_singleton.1 hx)
  · omega
theorem Best.better {K : List Fact} {lang : Int} {o : List Int} {i b : Nat} {z : Int} (hi : i < (statesL K).length) (hb : b < (statesL K).length) (hu : (statesL K)[i] ∉ o) (hz : z = b) (hah : aheadB K lang (statesL K)[i] (statesL K)[b] = true) (h : Best K lang o i z) : Best K lang o (i + 1) (i : Nat) := by
  rcases h with ⟨h1, _⟩ | ⟨b', hb', h1, h2, h3, h4⟩
  · omega
  · have : b' = b := by omega
    subst this
    refine .inr ⟨i, hi, rfl, Nat.lt_succ_self _, hu, fun x hx hn => ?_⟩
    rw [List.take_succ_eq_append_getElem hi] at hx
    rcases List.mem_append.1 hx with hx | hx
    · rcases h4 x hx hn with rfl | h5
      · exact .inr hah
      · exact .inr (aheadB_trans hah h5)
    · exact .inl (List.mem_singleton.1 hx)
theorem Best.worse {K : List Fact} {lang : Int} {o : List Int} {i b : Nat} {z : Int} (hi : i < (statesL K).length) (hb : b < (statesL K).length) (hz : z = b) (hah : aheadB K lang (statesL K)[i] (statesL K)[b] = false) (h : Best K lang o i z) : Best K lang o (i + 1) z := by
  rcases h with ⟨h1, _⟩ | ⟨b', hb', h1, h2, h3, h4⟩
  · omega
  · have : b' = b := by omega
    subst this
    refine .inr ⟨b', hb', h1, by omega, h3, fun x hx hn => ?_⟩
    rw [List.take_succ_eq_append_getElem hi] at hx
    rcases List.mem_append.1 hx with hx | hx
    · exact h4 x hx hn
    · rw [List.mem_singleton.1 hx]
      by_cases he : (statesL K)[i] = (statesL K)[b']
      · exact .inl he
      · rcases aheadB_total (c := K) (lang := lang) he with h5 | h5
        · rw [hah] at h5; cases h5
        · exact .inr h5
theorem Picked.next {K : List Fact} {lang : Int} {o : List Int} {z : Int} (h : Picked K lang o) (hlt : o.length < (statesL K).length) (hb : Best K lang o (statesL K).length z) : ∃ b : Nat, ∃ hb : b < (statesL K).length, z = b ∧ Picked K lang (o ++ [(statesL K)[b]]) := by
  rcases hb with ⟨h1, h2⟩ | ⟨b, hb, h1, h2, h3, h4⟩
  · rw [List.take_length] at h2
    have := nodup_length_le (statesL_nodup K) h2
    omega
  · rw [List.take_length] at h4
    refine ⟨b, hb, h1, ?_, fun x hx => ?_, fun x hx y hy hn => ?_⟩
    · refine List.pairwise_append.2 ⟨h.sorted, List.pairwise_singleton _ _, fun x hx y hy => ?_⟩
      rw [List.mem_singleton.1 hy]
      exact h.rest x hx _ (List.getElem_mem hb) h3
    · rcases List.mem_append.1 hx with hx | hx
      · exact h.sub x hx
      · rw [List.mem_singleton.1 hx]; exact List.getElem_mem hb
    · have hn1 : y ∉ o := fun e => hn (List.mem_append_left _ e)
      have hn2 : y ≠ (statesL K)[b] := fun e => hn (List.mem_append_right _ (by rw [e]; simp))
      rcases List.mem_append.1 hx with hx | hx
      · exact h.rest x hx y hy hn1
      · rw [List.mem_singleton.1 hx]
        exact (h4 y hy hn1).resolve_left hn2

theorem from_two (lot : Int) {n : Nat} (hn : 0 < n) : (lot.tmod n < 0 → lot.tmod n + n = ((lot.emod n).toNat : Int)) ∧ (¬ lot.tmod n < 0 → lot.tmod n = ((lot.emod n).toNat : Int)) := by
  obtain ⟨h1, h2, h3⟩ := from_eq lot hn
  refine ⟨fun h => ?_, fun h => ?_⟩
  · have h4 := Int.tmod_eq_of_lt (a := lot.tmod n + n) (b := n) (by omega) (by omega)
    rw [h4] at h1; exact h1
  · have h4 := Int.tmod_eq_emod_of_nonneg (a := lot.tmod n + n) (b := n) (by omega)
    rw [h4, Int.add_emod_right, Int.emod_eq_of_lt (by omega) h3] at h1; exact h1

set_option maxRecDepth 100000 in
set_option maxHeartbeats 2000000 in
theorem refAlphabet_spec {w : World} {A : Option Addr} {l : List Fact} {c : Nat} (h : HF w A l c) (hl : l.length ≤ 2 ^ 20) (k day lang lot : Int) :
    CallsV C.P 50 #[.slice A l.length c, .int .i64 k, .int .i64 day, .int .i64 lang, .int .i64 lot] w fun v w' => NewInts w.heap.size w' v (alphaL (atL k day l) lang lot) ∧ Ext w w' := by
  refine callsV_of C_ok (args := [_, _, _, _, _]) (plans := plans50) Tryz.func50 rfl Tryz.ntmps50 (by kernel_rfl) (Nat.le_of_ble_eq_true rfl) ?_
  refine (refStates_spec h hl k day).mono ?_
  rintro v0 w1 ⟨ho1, e1⟩
  have hK := atL_length k day l
  have hN : (statesL (atL k day l)).length ≤ 2 ^ 20 := Nat.le_trans (sortF_length (p := fun y => decide (y.kind = 1)) (f := Fact.who)) (by omega)
  have hname : ∀ {w' : World} (s0 : Int), Ext w1 w' → CallsV C.P 52 #[.slice A l.length c, .int .i64 k, .int .i64 day, .int .i64 s0, .int .i64 lang] w' fun v w'' => v = .string (nameL (atL k day l) s0 lang) ∧ Ext w' w'' := fun s0 e => refName_spec (h.ext (e1.trans e)) hl k day s0 lang
  generalize atL k day l = K at *
  obtain ⟨AS, cS, rfl, hrS, _⟩ := NewInts.slice ho1
  refine loopE C_ok (fun (s : Value × List Int) => [(0, .slice A l.length c), (1, .int .i64 k), (2, .int .i64 day), (3, .int .i64 lang), (4, .int .i64 lot), (11, .slice AS (statesL K).length cS), (12, s.1)])
    (fun s w' => Ext w1 w' ∧ NewInts w1.heap.size w' s.1 s.2 ∧ Picked K lang s.2) (fun s => (statesL K).length - s.2.length) (.slice none 0 0, [])
    ⟨rfl, rfl, rfl, rfl, rfl, rfl, rfl, trivial⟩ ⟨Ext.refl _, newInts_nil _ _, ⟨List.Pairwise.nil, (fun x hx => (by cases hx)), (fun x hx => (by cases hx))⟩⟩ ?_
  rintro ⟨v, o⟩ w2 ⟨e2', ho2', hp'⟩
  have e2 : Ext w1 w2 := e2'
  have ho2 : NewInts w1.heap.size w2 v o := ho2'
  have hp : Picked K lang o := hp'
  clear e2' ho2' hp'
  have hol := hp.length
  obtain ⟨AO, cO, rfl, hrO, _⟩ := NewInts.slice ho2
  refine brE_dec (fun hlt2 => ?_) (fun hge => ?_)
  · have hlt : o.length < (statesL K).length := by have : (o.length : Int) < ((statesL K).length : Nat) := hlt2; omega
    clear hlt2
    refine loopE C_ok (fun (s : Nat × Int) => [(0, .slice A l.length c), (1, .int .i64 k), (2, .int .i64 day), (3, .int .i64 lang), (4, .int .i64 lot), (11, .slice AS (statesL K).length cS), (12, .slice AO o.length cO), (13, .int .i64 s.2), (14, .int .i64 s.1)])
      (fun s w' => s.1 ≤ (statesL K).length ∧ Ext w2 w' ∧ Best K lang o s.1 s.2) (fun s => (statesL K).length - s.1) (0, -1)
      ⟨rfl, rfl, rfl, rfl, rfl, rfl, rfl, rfl, rfl, trivial⟩ ⟨Nat.zero_le _, Ext.refl _, .inl ⟨rfl, fun x hx => by simp at hx⟩⟩ ?_
    rintro ⟨i, z⟩ w3 ⟨hi', e3', hb'⟩
    have hi : i ≤ (statesL K).length := hi'
    have e3 : Ext w2 w3 := e3'
    have hb : Best K lang o i z := hb'
    clear hi' e3' hb'
    refine brE_dec (fun hil2 => ?_) (fun hil => ?_)
    · have hil : i < (statesL K).length := by have : (i : Int) < ((statesL K).length : Nat) := hil2; omega
      clear hil2
      have next : IntKind.i64.wrap ((i : Int) + 1) = ((i + 1 : Nat) : Int) := fit ⟨by omega, by omega⟩
      refine loopE C_ok (fun (s : Nat × Bool) => [(0, .slice A l.length c), (1, .int .i64 k), (2, .int .i64 day), (3, .int .i64 lang), (4, .int .i64 lot), (11, .slice AS (statesL K).length cS), (12, .slice AO o.length cO), (13, .int .i64 z), (14, .int .i64 i), (15, .bool s.2), (16, .int .i64 s.1)])
        (fun s w' => w' = w3 ∧ s.1 ≤ o.length ∧ s.2 = decide ((statesL K)[i] ∈ o.take s.1)) (fun s => o.length - s.1) (0, false)
        ⟨rfl, rfl, rfl, rfl, rfl, rfl, rfl, rfl, rfl, rfl, rfl, trivial⟩ ⟨rfl, Nat.zero_le _, by simp⟩ ?_
      rintro ⟨j, u⟩ w4 ⟨rfl, hj', hu'⟩
      have hj : j ≤ o.length := hj'
      have hu : u = decide ((statesL K)[i] ∈ o.take j) := hu'
      clear hj' hu'
      obtain ⟨bS, oS, hAS, hcS⟩ := Reads.int (hrS.ext (e2.trans e3)) hil
      refine brE_dec (fun hjl2 => ?_) (fun hjl => ?_)
      · have hjl : j < o.length := by have : (j : Int) < (o.length : Nat) := hjl2; omega
        clear hjl2
        have next2 : IntKind.i64.wrap ((j : Int) + 1) = ((j + 1 : Nat) : Int) := fit ⟨by omega, by omega⟩
        have hst : decide ((statesL K)[i] ∈ o.take (j + 1)) = (u || decide (o[j] = (statesL K)[i])) := by
          rw [hu, List.take_succ_eq_append_getElem hjl, Bool.eq_iff_iff, decide_eq_true_eq, Bool.or_eq_true, decide_eq_true_eq, decide_eq_true_eq, List.mem_append, List.mem_singleton]
          exact or_congr Iff.rfl ⟨Eq.symm, Eq.symm⟩
        cases u with
        | true =>
          refine ⟨_, next2, ?_⟩
          exact ⟨(j + 1, true), ⟨rfl, rfl, rfl, rfl, rfl, rfl, rfl, rfl, rfl, rfl, rfl, trivial⟩, ⟨rfl, hjl, by rw [hst]; rfl⟩, by show o.length - (j + 1) < o.length - j; omega⟩
        | false =>
          obtain ⟨bO, oO, hAO, hcO⟩ := Reads.int (hrO.ext e3) hjl
          refine ⟨j, bO, oO, rfl, hjl, hAO, ?_⟩
          refine ⟨_, by simpa using hcO, ?_⟩
          refine ⟨i, bS, oS, rfl, hil, hAS, ?_⟩
          refine ⟨_, by simpa using hcS, ?_⟩
          refine ⟨_, next2, ?_⟩
          exact ⟨(j + 1, decide (o[j] = (statesL K)[i])), ⟨rfl, rfl, rfl, rfl, rfl, rfl, rfl, rfl, rfl, rfl, rfl, trivial⟩, ⟨rfl, hjl, by rw [hst]; rfl⟩, by show o.length - (j + 1) < o.length - j; omega⟩
      · have : j = o.length := by have : ¬ (j : Int) < (o.length : Nat) := hjl; omega
        rw [this, List.take_length] at hu
        subst hu
        refine brE_dec (fun hu => ?_) (fun hu => ?_)
        · refine ⟨_, next, ?_⟩
          exact ⟨(i + 1, z), ⟨rfl, rfl, rfl, rfl, rfl, rfl, rfl, rfl, rfl, trivial⟩, ⟨hil, e3, hb.used hil hu⟩, by show (statesL K).length - (i + 1) < (statesL K).length - i; omega⟩
        refine brE_dec (fun hz => ?_) (fun hz => ?_)
        · have hz : z < 0 := hz
          refine ⟨_, next, ?_⟩
          exact ⟨(i + 1, (i : Nat)), ⟨rfl, rfl, rfl, rfl, rfl, rfl, rfl, rfl, rfl, trivial⟩, ⟨hil, e3, hb.first hil hu hz⟩, by show (statesL K).length - (i + 1) < (statesL K).length - i; omega⟩
        have hz : ¬ z < 0 := hz
        obtain ⟨b, hbl, rfl⟩ : ∃ b : Nat, b < (statesL K).length ∧ z = b := by
          rcases hb with ⟨h1, _⟩ | ⟨b, hbl, h1, _⟩
          · omega
          · exact ⟨b, hbl, h1⟩
        refine ⟨i, bS, oS, rfl, hil, hAS, ?_⟩
        refine ⟨_, by simpa using hcS, ?_⟩
        refine (hname (statesL K)[i] (e2.trans e3)).mono ?_
        rintro _ w5 ⟨rfl, e5⟩
        obtain ⟨bB, oB, hAB, hcB⟩ := Reads.int (hrS.ext ((e2.trans e3).trans e5)) hbl
        refine ⟨b, bB, oB, rfl, hbl, hAB, ?_⟩
        refine ⟨_, by simpa using hcB, ?_⟩
        refine (hname (statesL K)[b] ((e2.trans e3).trans e5)).mono ?_
        rintro _ w6 ⟨rfl, e6⟩
        have e26 := (e3.trans e5).trans e6
        obtain ⟨bS, oS, hAS, hcS⟩ := Reads.int (hrS.ext (e2.trans e26)) hil
        obtain ⟨bB, oB, hAB, hcB⟩ := Reads.int (hrS.ext (e2.trans e26)) hbl
        refine ⟨i, bS, oS, rfl, hil, hAS, ?_⟩
        refine ⟨_, by simpa using hcS, ?_⟩
        refine ⟨b, bB, oB, rfl, hbl, hAB, ?_⟩
        refine ⟨_, by simpa using hcB, ?_⟩
        refine (ahead_spec (statesL K)[i] _ (statesL K)[b] _ w6).mono ?_
        rintro _ w7 ⟨rfl, rfl⟩
        refine brE_mk (fun hah => ?_) (fun hah => ?_)
        · refine ⟨_, next, ?_⟩
          exact ⟨(i + 1, (i : Nat)), ⟨rfl, rfl, rfl, rfl, rfl, rfl, rfl, rfl, rfl, trivial⟩, ⟨hil, e26, hb.better hil hbl hu rfl hah⟩, by show (statesL K).length - (i + 1) < (statesL K).length - i; omega⟩
        · refine ⟨_, next, ?_⟩
          exact ⟨(i + 1, (b : Nat)), ⟨rfl, rfl, rfl, rfl, rfl, rfl, rfl, rfl, rfl, trivial⟩, ⟨hil, e26, hb.worse hil hbl rfl hah⟩, by show (statesL K).length - (i + 1) < (statesL K).length - i; omega⟩
    · have : i = (statesL K).length := by have : ¬ (i : Int) < ((statesL K).length : Nat) := hil; omega
      subst this
      obtain ⟨b, hbl, rfl, hnext⟩ := hp.next hlt hb
      obtain ⟨bB, oB, hAB, hcB⟩ := Reads.int (hrS.ext (e2.trans e3)) hbl
      refine ⟨b, bB, oB, rfl, hbl, hAB, ?_⟩
      refine ⟨_, by simpa using hcB, ?_⟩
      intro g4 w4 h4
      have e4 := (e2.trans e3).trans h4.ext
      have ho4 := ho2.ext (e3.trans h4.ext)
      refine ⟨rfl, rfl, rfl, w1.heap.size, _, _, [.int .i64 (statesL K)[b]], ho4, e4.size, Nat.le_of_ble_eq_true rfl, rfl, rfl, .inr ⟨g4, 0, rfl, Rd.of_block h4.here⟩, rfl, rfl, by omega, by simp only [maxLen]; omega, ?_⟩
      intro v5 w5 ho5 hg5 _
      have hll : (o ++ [(statesL K)[b]]).length = o.length + 1 := by simp
      exact ⟨(v5, o ++ [(statesL K)[b]]), ⟨rfl, rfl, rfl, rfl, rfl, rfl, rfl, trivial⟩, ⟨app_ext e4 ho4 hg5, newInts_snoc ho5, hnext⟩, by show (statesL K).length - (o ++ [(statesL K)[b]]).length < (statesL K).length - o.length; omega⟩
  · have hge : (statesL K).length ≤ o.length := by have : ¬ (o.length : Int) < ((statesL K).length : Nat) := hge; omega
    have hoe := hp.all hge
    unfold alphaL
    simp only
    rw [← hoe]
    clear hoe hp ho2
    have e02 := e1.trans e2
    refine loopE C_ok (fun (t : Nat × Value) => [(4, .int .i64 lot), (12, .slice AO o.length cO), (20, .int .i64 o.length), (21, t.2), (22, .int .i64 t.1)])
      (fun t w' => t.1 ≤ o.length ∧ Ext w2 w' ∧ NewInts w2.heap.size w' t.2 ((List.range t.1).map fun i => o.getD (((lot.emod o.length).toNat + i) % o.length) 0)) (fun t => o.length - t.1) (0, .slice none 0 0)
      ⟨rfl, rfl, rfl, rfl, rfl, trivial⟩ ⟨Nat.zero_le _, Ext.refl _, newInts_nil _ _⟩ ?_
    rintro ⟨i, v⟩ w5 ⟨hi', e5', ho'⟩
    have hi : i ≤ o.length := hi'
    have e5 : Ext w2 w5 := e5'
    have ho5 : NewInts w2.heap.size w5 v ((List.range i).map fun i => o.getD (((lot.emod o.length).toNat + i) % o.length) 0) := ho'
    clear hi' ho' e5'
    refine brE_dec (fun hlt2 => ?_) (fun hge => ?_)
    · have hlt : i < o.length := by have : (i : Int) < (o.length : Nat) := hlt2; omega
      clear hlt2
      have next : IntKind.i64.wrap ((i : Int) + 1) = ((i + 1 : Nat) : Int) := fit ⟨by omega, by omega⟩
      have hn : 0 < o.length := by omega
      have h0 : ¬ (o.length : Int) = 0 := by omega
      obtain ⟨t1, t2⟩ := from_two lot hn
      obtain ⟨_, b1, b2⟩ := from_eq lot hn
      have hfr : (lot.emod o.length).toNat < o.length := by
        have h' : lot.emod o.length < o.length := Int.emod_lt_of_pos lot (show (0 : Int) < o.length by omega)
        have h'' : 0 ≤ lot.emod o.length := Int.emod_nonneg lot (by omega)
        omega
      generalize (lot.emod o.length).toNat = fr at *
      have hj : (fr + i) % o.length < o.length := Nat.mod_lt _ hn
      have hlen : ((List.range i).map fun i => o.getD ((fr + i) % o.length) 0).length ≤ o.length := by rw [List.length_map, List.length_range]; omega
      have hget : o.getD ((fr + i) % o.length) 0 = o[(fr + i) % o.length] := by
        rw [List.getD_eq_getElem?_getD, List.getElem?_eq_getElem hj]; rfl
      by_cases hneg : lot.tmod o.length < 0
      case' pos =>
        refine ⟨h0, _, rfl, ?_⟩
        refine brE_dec (fun _ => ?_) (fun hh => absurd hneg hh)
        refine ⟨(fr : Int), by rw [fit ⟨by omega, by omega⟩]; exact t1 hneg, ?_⟩
      case' neg =>
        refine ⟨h0, (fr : Int), t2 hneg, ?_⟩
      all_goals
        refine ⟨((fr + i : Nat) : Int), by rw [fit ⟨by omega, by omega⟩]; omega, ?_⟩
        refine ⟨h0, (((fr + i) % o.length : Nat) : Int), by rw [Int.tmod_eq_emod_of_nonneg (by omega)]; omega, ?_⟩
        obtain ⟨b, oo, hA, hc⟩ := Reads.int (hrO.ext e5) hj
        refine ⟨(fr + i) % o.length, b, oo, rfl, hj, hA, ?_⟩
        refine ⟨_, by simpa using hc, ?_⟩
        intro g7 w7 h7
        have ho7 := ho5.ext h7.ext
        have e7 := e5.trans h7.ext
        refine ⟨rfl, rfl, rfl, w2.heap.size, _, _, [.int .i64 o[(fr + i) % o.length]], ho7, e7.size, Nat.le_of_ble_eq_true rfl, rfl, rfl, .inr ⟨g7, 0, rfl, Rd.of_block h7.here⟩, rfl, rfl, by omega, by simp only [maxLen]; omega, ?_⟩
        intro v8 w8 ho8 hg8 _
        refine ⟨_, next, ?_⟩
        refine ⟨(i + 1, v8), ⟨rfl, rfl, rfl, rfl, rfl, trivial⟩, ⟨hlt, app_ext e7 ho7 hg8, ?_⟩, by show o.length - (i + 1) < o.length - i; omega⟩
        show NewInts w2.heap.size w8 v8 ((List.range (i + 1)).map fun i => o.getD ((fr + i) % o.length) 0)
        rw [List.range_succ, List.map_append, List.map_cons, List.map_nil, hget]
        exact newInts_snoc ho8
    · have : i = o.length := by have : ¬ (i : Int) < (o.length : Nat) := hge; omega
      subst this
      exact ⟨NewInts.base ho5 e02.size, e02.trans e5⟩

set_option maxRecDepth 100000 in
theorem refLetter_spec {w : World} {A : Option Addr} {l : List Fact} {c : Nat} (h : HF w A l c) (hl : l.length ≤ 2 ^ 20) (k day lang lot s0 : Int) :
    CallsV C.P 46 #[.slice A l.length c, .int .i64 k, .int .i64 day, .int .i64 lang, .int .i64 lot, .int .i64 s0] w fun v w' => v = .tuple #[.int .i64 (letterL (atL k day l) lang lot s0).1, .bool (letterL (atL k day l) lang lot s0).2] ∧ Ext w w' := by
  refine callsV_of C_ok (args := [_, _, _, _, _, _]) (plans := []) Tryz.func46 rfl Tryz.ntmps46 (by kernel_rfl) (Nat.le_of_ble_eq_true rfl) ?_
  refine (refAlphabet_spec h hl k day lang lot).mono ?_
  rintro v0 w1 ⟨ho1, e1⟩
  have hll : (alphaL (atL k day l) lang lot).length ≤ 2 ^ 20 := by
    have hK := atL_length k day l
    have hN : (statesL (atL k day l)).length ≤ (atL k day l).length := sortF_length (p := fun y => decide (y.kind = 1)) (f := Fact.who)
    have := (orderL_perm (atL k day l) lang).length_eq
    unfold alphaL
    simp only [List.length_map, List.length_range]
    omega
  unfold letterL
  generalize alphaL (atL k day l) lang lot = xs at *
  obtain ⟨AX, cX, rfl, hrX, _⟩ := NewInts.slice ho1
  refine loopE C_ok (fun (i : Nat) => [(5, .int .i64 s0), (14, .slice AX xs.length cX), (15, .int .i64 i)])
    (fun i w' => w' = w1 ∧ i ≤ xs.length ∧ ∀ j (hj : j < xs.length), j < i → ¬ xs[j] = s0) (fun i => xs.length - i) 0 ⟨rfl, rfl, rfl, trivial⟩ ⟨rfl, Nat.zero_le _, fun j hj hji => absurd hji (Nat.not_lt_zero _)⟩ ?_
  rintro i w2 ⟨rfl, hi, hall⟩
  refine brE_dec (fun hlt2 => ?_) (fun hge => ?_)
  · have hlt : i < xs.length := by have : (i : Int) < (xs.length : Nat) := hlt2; omega
    obtain ⟨b, o, hA, hc⟩ := Reads.int hrX hlt
    refine ⟨i, b, o, rfl, hlt, hA, ?_⟩
    refine ⟨_, by simpa using hc, ?_⟩
    refine brE_dec (fun h2 => ?_) (fun h2 => ?_)
    · have h2 : xs[i] = s0 := h2
      have : xs.findIdx? (fun x => decide (x = s0)) = some i := by
        rw [List.findIdx?_eq_some_iff_getElem]
        exact ⟨hlt, decide_eq_true h2, fun j hj => by simpa using hall j (by omega) hj⟩
      exact ⟨by rw [this], e1⟩
    · have h2 : ¬ xs[i] = s0 := h2
      refine ⟨((i + 1 : Nat) : Int), fit ⟨by omega, by omega⟩, ?_⟩
      refine ⟨i + 1, ⟨rfl, rfl, rfl, trivial⟩, ⟨rfl, hlt, fun j hj hji => ?_⟩, by omega⟩
      rcases Nat.lt_or_ge j i with h | h
      · exact hall j hj h
      · obtain rfl : j = i := by omega
        exact h2
  · have : i = xs.length := by have : ¬ (i : Int) < (xs.length : Nat) := hge; omega
    subst this
    have : xs.findIdx? (fun x => decide (x = s0)) = none := by
      rw [List.findIdx?_eq_none_iff]
      intro x hx
      obtain ⟨j, hj, rfl⟩ := List.getElem_of_mem hx
      exact decide_eq_false (hall j hj hj)
    exact ⟨by rw [this], e1⟩

end Go.Proofs.YthpdkdmbfdmamaaGreatDoor
