/- a part of the proof: steps, walks and plain laws that the law below stands on; no condition. -/
import Derived.Test.YtdpdjcopkehdjaaGreatRUa
import Derived.Test.YtdpdjcopkehdjaaGreatRUb
import Derived.Test.YtdpdjcopkehdjaaGreatRUc
import Derived.Test.YtdpdjcopkehdjaaGreatRUd
import Derived.Test.YtdpdjcopkehdjaaGreatRUe
import Derived.Test.YtdpdjcopkehdjaaGreatRUf
import Derived.Test.YtdpdjcopkehdjaaGreatRUg
import Derived.Test.YtdpdjcopkehdjaaGreatRUh
import Derived.Test.YtdpdjcopkehdjaaGreatRUi
import Derived.Test.YtdpdjcopkehdjaaGreatRUj
import Derived.Test.YtdpdjcopkehdjaaGreatRUk
import Derived.Test.YtdpdjcopkehdjaaGreatRUl
import Derived.Test.YtdpdjcopkehdjaaGreatRUm
import Derived.Test.YtdpdjcopkehdjaaGreatRUn
import Derived.Shelf.Strings.OnBuilder
import Derived.Shelf.Strconv.AtoiAll
import Derived.Shelf.Strconv.Itoa3
import Derived.Shelf.Strings.Search2
import Derived.KernelRfl
import Derived.Test.YtdpdjcopkehdjaaGreatProg
import Derived.WideLaws
import Derived.Maps.RangeRun
set_option linter.unusedVariables false
set_option linter.unusedSimpArgs false
set_option linter.unnecessarySimpa false
set_option linter.unusedSectionVars false
namespace Go.Proofs.YtdpdjcopkehdjaaGreat
open Go.Eng Go.RowKit
theorem str_nil (s : ByteArray) : decide (s = (⟨#[]⟩ : ByteArray)) = decide (s.data.toList = []) := by
  rw [Bool.eq_iff_iff, decide_eq_true_eq, decide_eq_true_eq]
  constructor
  · intro h; rw [h]
  · intro h
    have : s.data = #[] := Array.toList_eq_nil_iff.1 h
    exact congrArg ByteArray.mk this
theorem str_eq (s t : ByteArray) : s = t ↔ s.data.toList = t.data.toList := by
  constructor
  · intro h; rw [h]
  · intro h
    exact congrArg ByteArray.mk (Array.toList_inj.1 h)
set_option maxRecDepth 100000 in
theorem ahead_spec (a : Int) (s : ByteArray) (b : Int) (t : ByteArray) (w : World) :
    CallsV C.P 152 #[.int .i64 a, .string s, .int .i64 b, .string t] w fun v w' => v = .bool (aheadK s.data.toList a t.data.toList b) ∧ w' = w := by
  refine callsV_of C_ok (args := [_, _, _, _]) (plans := []) Tryz.func152 rfl Tryz.ntmps152 (by kernel_rfl) (Nat.le_of_ble_eq_true rfl) ?_
  unfold aheadK
  refine ⟨_, eqStr _ _ s ⟨#[]⟩, ?_⟩
  refine ⟨_, eqStr _ _ t ⟨#[]⟩, ?_⟩
  refine ⟨_, neqBool _ _ _ _, ?_⟩
  rw [str_nil, str_nil]
  refine brE_mk (fun h1 => ?_) (fun h1 => ?_)
  · rw [if_pos h1]
    refine ⟨_, eqStr _ _ t ⟨#[]⟩, ?_⟩
    exact ⟨by rw [str_nil], rfl⟩
  rw [if_neg (by rw [h1]; decide)]
  refine ⟨_, neqStr _ _ s t, ?_⟩
  refine brE_ndec (fun h2 => ?_) (fun h2 => ?_)
  · have h2 : ¬ s = t := h2
    rw [if_neg (fun e => h2 ((str_eq s t).2 e))]
    refine ⟨_, ltStr _ s t, ⟨by decide, by decide⟩, ?_⟩
    exact ⟨rfl, rfl⟩
  · have h2 : s = t := h2
    rw [if_pos ((str_eq s t).1 h2)]
    exact ⟨rfl, rfl⟩
structure Picked (K : List Fact) (lang : Int) (o : List Int) : Prop where
  sorted : o.Pairwise fun x y => aheadB K lang x y = true
  sub : ∀ x ∈ o, x ∈ statesL K
  rest : ∀ x ∈ o, ∀ y ∈ statesL K, y ∉ o → aheadB K lang x y = true
theorem Picked.nodup {K : List Fact} {lang : Int} {o : List Int} (h : Picked K lang o) : o.Nodup := h.sorted.imp fun {a b} hab e => by subst e; rw [aheadB_irrefl] at hab; cases hab
theorem Picked.length {K : List Fact} {lang : Int} {o : List Int} (h : Picked K lang o) : o.length ≤ (statesL K).length := nodup_length_le h.nodup h.sub
theorem Picked.all {K : List Fact} {lang : Int} {o : List Int} (h : Picked K lang o) (hl : (statesL K).length ≤ o.length) : o = orderL K lang := by
  refine order_eq ?_ (h.sorted.imp fun {a b} hab => ?_)
  · refine (List.perm_ext_iff_of_nodup h.nodup (statesL_nodup K)).2 fun x => ⟨h.sub x, fun hx => ?_⟩
    refine Decidable.byContradiction fun hn => ?_
    have hnd : (x :: o).Nodup := List.nodup_cons.2 ⟨hn, h.nodup⟩
    have := nodup_length_le hnd fun y hy => by
      rcases List.mem_cons.1 hy with rfl | hy
      · exact hx
      · exact h.sub y hy
    rw [List.length_cons] at this
    omega
  · cases hh : aheadB K lang b a with
    | false => rfl
    | true => exact (aheadB_asymm hab hh).elim
def Best (K : List Fact) (lang : Int) (o : List Int) (i : Nat) (z : Int) : Prop :=
  (z = -1 ∧ ∀ x ∈ (statesL K).take i, x ∈ o) ∨ ∃ b : Nat, ∃ hb : b < (statesL K).length, z = b ∧ b < i ∧ (statesL K)[b] ∉ o ∧ ∀ x ∈ (statesL K).take i, x ∉ o → x = (statesL K)[b] ∨ aheadB K lang (statesL K)[b] x = true
theorem Best.used {K : List Fact} {lang : Int} {o : List Int} {i : Nat} {z : Int} (hi : i < (statesL K).length) (hu : (statesL K)[i] ∈ o) (h : Best K lang o i z) : Best K lang o (i + 1) z := by
  rcases h with ⟨h1, h2⟩ | ⟨b, hb, h1, h2, h3, h4⟩
  · refine .inl ⟨h1, fun x hx => ?_⟩
    rw [List.take_succ_eq_append_getElem hi] at hx
    rcases List.mem_append.1 hx with hx | hx
    · exact h2 x hx
    · rw [List.mem_singleton.1 hx]; exact hu
  · refine .inr ⟨b, hb, h1, by omega, h3, fun x hx hn => ?_⟩
    rw [List.take_succ_eq_append_getElem hi] at hx
    rcases List.mem_append.1 hx with hx | hx
    · exact h4 x hx hn
    · rw [List.mem_singleton.1 hx] at hn; exact absurd hu hn
theorem Best.first {K : List Fact} {lang : Int} {o : List Int} {i : Nat} {z : Int} (hi : i < (statesL K).length) (hu : (statesL K)[i] ∉ o) (hz : z < 0) (h : Best K lang o i z) : Best K lang o (i + 1) (i : Nat) := by
  rcases h with ⟨h1, h2⟩ | ⟨b, hb, h1, _⟩
  · refine .inr ⟨i, hi, rfl, Nat.lt_succ_self _, hu, fun x hx hn => ?_⟩
    rw [List.take_succ_eq_append_getElem hi] at hx
    rcases List.mem_append.1 hx with hx | hx
    · exact absurd (h2 x hx) hn
    · exact .inl (List.mem_singleton.1 hx)
  · omega
theorem Best.better {K : List Fact} {lang : Int} {o : List Int} {i b : Nat} {z : Int} (hi : i < (statesL K).length) (hb : b < (statesL K).length) (hu : (statesL K)[i] ∉ o) (hz : z = b) (hah : aheadB K lang (statesL K)[i] (statesL K)[b] = true) (h : Best K lang o i z) : Best K lang o (i + 1) (i : Nat) := by
  rcases h with ⟨h1, _⟩ | ⟨b', hb', h1, h2, h3, h4⟩
  · omega
  · have : b' = b := by omega
    subst this
    refine .inr ⟨i, hi, rfl, Nat.lt_succ_self _, hu, fun x hx hn => ?_⟩
    rw [List.take_succ_eq_append_getElem hi] at hx
    rcases List.mem_append.1 hx with hx | hx
    · rcases h4 x hx hn with rfl | h5
      · exact .inr hah
      · exact .inr (aheadB_trans hah h5)
    · exact .inl (List.mem_singleton.1 hx)
theorem Best.worse {K : List Fact} {lang : Int} {o : List Int} {i b : Nat} {z : Int} (hi : i < (statesL K).length) (hb : b < (statesL K).length) (hz : z = b) (hah : aheadB K lang (statesL K)[i] (statesL K)[b] = false) (h : Best K lang o i z) : Best K lang o (i + 1) z := by
  rcases h with ⟨h1, _⟩ | ⟨b', hb', h1, h2, h3, h4⟩
  · omega
  · have : b' = b := by omega
    subst this
    refine .inr ⟨b', hb', h1, by omega, h3, fun x hx hn => ?_⟩
    rw [List.take_succ_eq_append_getElem hi] at hx
    rcases List.mem_append.1 hx with hx | hx
    · exact h4 x hx hn
    · rw [List.mem_singleton.1 hx]
      by_cases he : (statesL K)[i] = (statesL K)[b']
      · exact .inl he
      · rcases aheadB_total (c := K) (lang := lang) he with h5 | h5
        · rw [hah] at h5; cases h5
        · exact .inr h5
theorem Picked.next {K : List Fact} {lang : Int} {o : List Int} {z : Int} (h : Picked K lang o) (hlt : o.length < (statesL K).length) (hb : Best K lang o (statesL K).length z) : ∃ b : Nat, ∃ hb : b < (statesL K).length, z = b ∧ Picked K lang (o ++ [(statesL K)[b]]) := by
  rcases hb with ⟨h1, h2⟩ | ⟨b, hb, h1, h2, h3, h4⟩
  · rw [List.take_length] at h2
    have := nodup_length_le (statesL_nodup K) h2
    omega
  · rw [List.take_length] at h4
    refine ⟨b, hb, h1, ?_, fun x hx => ?_, fun x hx y hy hn => ?_⟩
    · refine List.pairwise_append.2 ⟨h.sorted, List.pairwise_singleton _ _, fun x hx y hy => ?_⟩
      rw [List.mem_singleton.1 hy]
      exact h.rest x hx _ (List.getElem_mem hb) h3
    · rcases List.mem_append.1 hx with hx | hx
      · exact h.sub x hx
      · rw [List.mem_singleton.1 hx]; exact List.getElem_mem hb
    · have hn1 : y ∉ o := fun e => hn (List.mem_append_left _ e)
      have hn2 : y ≠ (statesL K)[b] := fun e => hn (List.mem_append_right _ (by rw [e]; simp))
      rcases List.mem_append.1 hx with hx | hx
      · exact h.rest x hx y hy hn1
      · rw [List.mem_singleton.1 hx]
        exact (h4 y hy hn1).resolve_left hn2
theorem from_two (lot : Int) {n : Nat} (hn : 0 < n) : (lot.tmod n < 0 → lot.tmod n + n = ((lot.emod n).toNat : Int)) ∧ (¬ lot.tmod n < 0 → lot.tmod n = ((lot.emod n).toNat : Int)) := by
  obtain ⟨h1, h2, h3⟩ := from_eq lot hn
  refine ⟨fun h => ?_, fun h => ?_⟩
  · have h4 := Int.tmod_eq_of_lt (a := lot.tmod n + n) (b := n) (by omega) (by omega)
    rw [h4] at h1; exact h1
  · have h4 := Int.tmod_eq_emod_of_nonneg (a := lot.tmod n + n) (b := n) (by omega)
    rw [h4, Int.add_emod_right, Int.emod_eq_of_lt (by omega) h3] at h1; exact h1
set_option maxRecDepth 100000 in
set_option maxHeartbeats 2000000 in
theorem refAlphabet_spec {w : World} {A : Option Addr} {l : List Fact} {c : Nat} (h : HF w A l c) (hl : l.length ≤ 2 ^ 20) (k day lang lot : Int) :
    CallsV C.P 93 #[.slice A l.length c, .int .i64 k, .int .i64 day, .int .i64 lang, .int .i64 lot] w fun v w' => NewInts w.heap.size w' v (alphaL (atL k day l) lang lot) ∧ Ext w w' := by
  refine callsV_of C_ok (args := [_, _, _, _, _]) (plans := plans93) Tryz.func93 rfl Tryz.ntmps93 (by kernel_rfl) (Nat.le_of_ble_eq_true rfl) ?_
  refine (refStates_spec h hl k day).mono ?_
  rintro v0 w1 ⟨ho1, e1⟩
  have hK := atL_length k day l
  have hN : (statesL (atL k day l)).length ≤ 2 ^ 20 := Nat.le_trans (sortF_length (p := fun y => decide (y.kind = 1)) (f := Fact.who)) (by omega)
  have hname : ∀ {w' : World} (s0 : Int), Ext w1 w' → CallsV C.P 151 #[.slice A l.length c, .int .i64 k, .int .i64 day, .int .i64 s0, .int .i64 lang] w' fun v w'' => v = .string (nameL (atL k day l) s0 lang) ∧ Ext w' w'' := fun s0 e => refName_spec (h.ext (e1.trans e)) hl k day s0 lang
  generalize atL k day l = K at *
  obtain ⟨AS, cS, rfl, hrS, _⟩ := NewInts.slice ho1
  refine loopE C_ok (fun (s : Value × List Int) => [(0, .slice A l.length c), (1, .int .i64 k), (2, .int .i64 day), (3, .int .i64 lang), (4, .int .i64 lot), (11, .slice AS (statesL K).length cS), (12, s.1)])
    (fun s w' => Ext w1 w' ∧ NewInts w1.heap.size w' s.1 s.2 ∧ Picked K lang s.2) (fun s => (statesL K).length - s.2.length) (.slice none 0 0, [])
    ⟨rfl, rfl, rfl, rfl, rfl, rfl, rfl, trivial⟩ ⟨Ext.refl _, newInts_nil _ _, ⟨List.Pairwise.nil, (fun x hx => (by cases hx)), (fun x hx => (by cases hx))⟩⟩ ?_
  rintro ⟨v, o⟩ w2 ⟨e2', ho2', hp'⟩
  have e2 : Ext w1 w2 := e2'
  have ho2 : NewInts w1.heap.size w2 v o := ho2'
  have hp : Picked K lang o := hp'
  clear e2' ho2' hp'
  have hol := hp.length
  obtain ⟨AO, cO, rfl, hrO, _⟩ := NewInts.slice ho2
  refine brE_dec (fun hlt2 => ?_) (fun hge => ?_)
  · have hlt : o.length < (statesL K).length := by have : (o.length : Int) < ((statesL K).length : Nat) := hlt2; omega
    clear hlt2
    refine loopE C_ok (fun (s : Nat × Int) => [(0, .slice A l.length c), (1, .int .i64 k), (2, .int .i64 day), (3, .int .i64 lang), (4, .int .i64 lot), (11, .slice AS (statesL K).length cS), (12, .slice AO o.length cO), (13, .int .i64 s.2), (14, .int .i64 s.1)])
      (fun s w' => s.1 ≤ (statesL K).length ∧ Ext w2 w' ∧ Best K lang o s.1 s.2) (fun s => (statesL K).length - s.1) (0, -1)
      ⟨rfl, rfl, rfl, rfl, rfl, rfl, rfl, rfl, rfl, trivial⟩ ⟨Nat.zero_le _, Ext.refl _, .inl ⟨rfl, fun x hx => by simp at hx⟩⟩ ?_
    rintro ⟨i, z⟩ w3 ⟨hi', e3', hb'⟩
    have hi : i ≤ (statesL K).length := hi'
    have e3 : Ext w2 w3 := e3'
    have hb : Best K lang o i z := hb'
    clear hi' e3' hb'
    refine brE_dec (fun hil2 => ?_) (fun hil => ?_)
    · have hil : i < (statesL K).length := by have : (i : Int) < ((statesL K).length : Nat) := hil2; omega
      clear hil2
      have next : IntKind.i64.wrap ((i : Int) + 1) = ((i + 1 : Nat) : Int) := fit ⟨by omega, by omega⟩
      refine loopE C_ok (fun (s : Nat × Bool) => [(0, .slice A l.length c), (1, .int .i64 k), (2, .int .i64 day), (3, .int .i64 lang), (4, .int .i64 lot), (11, .slice AS (statesL K).length cS), (12, .slice AO o.length cO), (13, .int .i64 z), (14, .int .i64 i), (15, .bool s.2), (16, .int .i64 s.1)])
        (fun s w' => w' = w3 ∧ s.1 ≤ o.length ∧ s.2 = decide ((statesL K)[i] ∈ o.take s.1)) (fun s => o.length - s.1) (0, false)
        ⟨rfl, rfl, rfl, rfl, rfl, rfl, rfl, rfl, rfl, rfl, rfl, trivial⟩ ⟨rfl, Nat.zero_le _, by simp⟩ ?_
      rintro ⟨j, u⟩ w4 ⟨rfl, hj', hu'⟩
      have hj : j ≤ o.length := hj'
      have hu : u = decide ((statesL K)[i] ∈ o.take j) := hu'
      clear hj' hu'
      obtain ⟨bS, oS, hAS, hcS⟩ := Reads.int (hrS.ext (e2.trans e3)) hil
      refine brE_dec (fun hjl2 => ?_) (fun hjl => ?_)
      · have hjl : j < o.length := by have : (j : Int) < (o.length : Nat) := hjl2; omega
        clear hjl2
        have next2 : IntKind.i64.wrap ((j : Int) + 1) = ((j + 1 : Nat) : Int) := fit ⟨by omega, by omega⟩
        have hst : decide ((statesL K)[i] ∈ o.take (j + 1)) = (u || decide (o[j] = (statesL K)[i])) := by
          rw [hu, List.take_succ_eq_append_getElem hjl, Bool.eq_iff_iff, decide_eq_true_eq, Bool.or_eq_true, decide_eq_true_eq, decide_eq_true_eq, List.mem_append, List.mem_singleton]
          exact or_congr Iff.rfl ⟨Eq.symm, Eq.symm⟩
        cases u with
        | true =>
          refine ⟨_, next2, ?_⟩
          exact ⟨(j + 1, true), ⟨rfl, rfl, rfl, rfl, rfl, rfl, rfl, rfl, rfl, rfl, rfl, trivial⟩, ⟨rfl, hjl, by rw [hst]; rfl⟩, by show o.length - (j + 1) < o.length - j; omega⟩
        | false =>
          obtain ⟨bO, oO, hAO, hcO⟩ := Reads.int (hrO.ext e3) hjl
          refine ⟨j, bO, oO, rfl, hjl, hAO, ?_⟩
          refine ⟨_, by simpa using hcO, ?_⟩
          refine ⟨i, bS, oS, rfl, hil, hAS, ?_⟩
          refine ⟨_, by simpa using hcS, ?_⟩
          refine ⟨_, next2, ?_⟩
          exact ⟨(j + 1, decide (o[j] = (statesL K)[i])), ⟨rfl, rfl, rfl, rfl, rfl, rfl, rfl, rfl, rfl, rfl, rfl, trivial⟩, ⟨rfl, hjl, by rw [hst]; rfl⟩, by show o.length - (j + 1) < o.length - j; omega⟩
      · have : j = o.length := by have : ¬ (j : Int) < (o.length : Nat) := hjl; omega
        rw [this, List.take_length] at hu
        subst hu
        refine brE_dec (fun hu => ?_) (fun hu => ?_)
        · refine ⟨_, next, ?_⟩
          exact ⟨(i + 1, z), ⟨rfl, rfl, rfl, rfl, rfl, rfl, rfl, rfl, rfl, trivial⟩, ⟨hil, e3, hb.used hil hu⟩, by show (statesL K).length - (i + 1) < (statesL K).length - i; omega⟩
        refine brE_dec (fun hz => ?_) (fun hz => ?_)
        · have hz : z < 0 := hz
          refine ⟨_, next, ?_⟩
          exact ⟨(i + 1, (i : Nat)), ⟨rfl, rfl, rfl, rfl, rfl, rfl, rfl, rfl, rfl, trivial⟩, ⟨hil, e3, hb.first hil hu hz⟩, by show (statesL K).length - (i + 1) < (statesL K).length - i; omega⟩
        have hz : ¬ z < 0 := hz
        obtain ⟨b, hbl, rfl⟩ : ∃ b : Nat, b < (statesL K).length ∧ z = b := by
          rcases hb with ⟨h1, _⟩ | ⟨b, hbl, h1, _⟩
          · omega
          · exact ⟨b, hbl, h1⟩
        refine ⟨i, bS, oS, rfl, hil, hAS, ?_⟩
        refine ⟨_, by simpa using hcS, ?_⟩
        refine (hname (statesL K)[i] (e2.trans e3)).mono ?_
        rintro _ w5 ⟨rfl, e5⟩
        obtain ⟨bB, oB, hAB, hcB⟩ := Reads.int (hrS.ext ((e2.trans e3).trans e5)) hbl
        refine ⟨b, bB, oB, rfl, hbl, hAB, ?_⟩
        refine ⟨_, by simpa using hcB, ?_⟩
        refine (hname (statesL K)[b] ((e2.trans e3).trans e5)).mono ?_
        rintro _ w6 ⟨rfl, e6⟩
        have e26 := (e3.trans e5).trans e6
        obtain ⟨bS, oS, hAS, hcS⟩ := Reads.int (hrS.ext (e2.trans e26)) hil
        obtain ⟨bB, oB, hAB, hcB⟩ := Reads.int (hrS.ext (e2.trans e26)) hbl
        refine ⟨i, bS, oS, rfl, hil, hAS, ?_⟩
        refine ⟨_, by simpa using hcS, ?_⟩
        refine ⟨b, bB, oB, rfl, hbl, hAB, ?_⟩
        refine ⟨_, by simpa using hcB, ?_⟩
        refine (ahead_spec (statesL K)[i] _ (statesL K)[b] _ w6).mono ?_
        rintro _ w7 ⟨rfl, rfl⟩
        refine brE_mk (fun hah => ?_) (fun hah => ?_)
        · refine ⟨_, next, ?_⟩
          exact ⟨(i + 1, (i : Nat)), ⟨rfl, rfl, rfl, rfl, rfl, rfl, rfl, rfl, rfl, trivial⟩, ⟨hil, e26, hb.better hil hbl hu rfl hah⟩, by show (statesL K).length - (i + 1) < (statesL K).length - i; omega⟩
        · refine ⟨_, next, ?_⟩
          exact ⟨(i + 1, (b : Nat)), ⟨rfl, rfl, rfl, rfl, rfl, rfl, rfl, rfl, rfl, trivial⟩, ⟨hil, e26, hb.worse hil hbl rfl hah⟩, by show (statesL K).length - (i + 1) < (statesL K).length - i; omega⟩
    · have : i = (statesL K).length := by have : ¬ (i : Int) < ((statesL K).length : Nat) := hil; omega
      subst this
      obtain ⟨b, hbl, rfl, hnext⟩ := hp.next hlt hb
      obtain ⟨bB, oB, hAB, hcB⟩ := Reads.int (hrS.ext (e2.trans e3)) hbl
      refine ⟨b, bB, oB, rfl, hbl, hAB, ?_⟩
      refine ⟨_, by simpa using hcB, ?_⟩
      intro g4 w4 h4
      have e4 := (e2.trans e3).trans h4.ext
      have ho4 := ho2.ext (e3.trans h4.ext)
      refine ⟨rfl, rfl, rfl, w1.heap.size, _, _, [.int .i64 (statesL K)[b]], ho4, e4.size, Nat.le_of_ble_eq_true rfl, rfl, rfl, .inr ⟨g4, 0, rfl, Rd.of_block h4.here⟩, rfl, rfl, by omega, by simp only [maxLen]; omega, ?_⟩
      intro v5 w5 ho5 hg5 _
      have hll : (o ++ [(statesL K)[b]]).length = o.length + 1 := by simp
      exact ⟨(v5, o ++ [(statesL K)[b]]), ⟨rfl, rfl, rfl, rfl, rfl, rfl, rfl, trivial⟩, ⟨app_ext e4 ho4 hg5, newInts_snoc ho5, hnext⟩, by show (statesL K).length - (o ++ [(statesL K)[b]]).length < (statesL K).length - o.length; omega⟩
  · have hge : (statesL K).length ≤ o.length := by have : ¬ (o.length : Int) < ((statesL K).length : Nat) := hge; omega
    have hoe := hp.all hge
    unfold alphaL
    simp only
    rw [← hoe]
    clear hoe hp ho2
    have e02 := e1.trans e2
    refine loopE C_ok (fun (t : Nat × Value) => [(4, .int .i64 lot), (12, .slice AO o.length cO), (20, .int .i64 o.length), (21, t.2), (22, .int .i64 t.1)])
      (fun t w' => t.1 ≤ o.length ∧ Ext w2 w' ∧ NewInts w2.heap.size w' t.2 ((List.range t.1).map fun i => o.getD (((lot.emod o.length).toNat + i) % o.length) 0)) (fun t => o.length - t.1) (0, .slice none 0 0)
      ⟨rfl, rfl, rfl, rfl, rfl, trivial⟩ ⟨Nat.zero_le _, Ext.refl _, newInts_nil _ _⟩ ?_
    rintro ⟨i, v⟩ w5 ⟨hi', e5', ho'⟩
    have hi : i ≤ o.length := hi'
    have e5 : Ext w2 w5 := e5'
    have ho5 : NewInts w2.heap.size w5 v ((List.range i).map fun i => o.getD (((lot.emod o.length).toNat + i) % o.length) 0) := ho'
    clear hi' ho' e5'
    refine brE_dec (fun hlt2 => ?_) (fun hge => ?_)
    · have hlt : i < o.length := by have : (i : Int) < (o.length : Nat) := hlt2; omega
      clear hlt2
      have next : IntKind.i64.wrap ((i : Int) + 1) = ((i + 1 : Nat) : Int) := fit ⟨by omega, by omega⟩
      have hn : 0 < o.length := by omega
      have h0 : ¬ (o.length : Int) = 0 := by omega
      obtain ⟨t1, t2⟩ := from_two lot hn
      obtain ⟨_, b1, b2⟩ := from_eq lot hn
      have hfr : (lot.emod o.length).toNat < o.length := by
        have h' : lot.emod o.length < o.length := Int.emod_lt_of_pos lot (show (0 : Int) < o.length by omega)
        have h'' : 0 ≤ lot.emod o.length := Int.emod_nonneg lot (by omega)
        omega
      generalize (lot.emod o.length).toNat = fr at *
      have hj : (fr + i) % o.length < o.length := Nat.mod_lt _ hn
      have hlen : ((List.range i).map fun i => o.getD ((fr + i) % o.length) 0).length ≤ o.length := by rw [List.length_map, List.length_range]; omega
      have hget : o.getD ((fr + i) % o.length) 0 = o[(fr + i) % o.length] := by
        rw [List.getD_eq_getElem?_getD, List.getElem?_eq_getElem hj]; rfl
      by_cases hneg : lot.tmod o.length < 0
      case' pos =>
        refine ⟨h0, _, rfl, ?_⟩
        refine brE_dec (fun _ => ?_) (fun hh => absurd hneg hh)
        refine ⟨(fr : Int), by rw [fit ⟨by omega, by omega⟩]; exact t1 hneg, ?_⟩
      case' neg =>
        refine ⟨h0, (fr : Int), t2 hneg, ?_⟩
      all_goals
        refine ⟨((fr + i : Nat) : Int), by rw [fit ⟨by omega, by omega⟩]; omega, ?_⟩
        refine ⟨h0, (((fr + i) % o.length : Nat) : Int), by rw [Int.tmod_eq_emod_of_nonneg (by omega)]; omega, ?_⟩
        obtain ⟨b, oo, hA, hc⟩ := Reads.int (hrO.ext e5) hj
        refine ⟨(fr + i) % o.length, b, oo, rfl, hj, hA, ?_⟩
        refine ⟨_, by simpa using hc, ?_⟩
        intro g7 w7 h7
        have ho7 := ho5.ext h7.ext
        have e7 := e5.trans h7.ext
        refine ⟨rfl, rfl, rfl, w2.heap.size, _, _, [.int .i64 o[(fr + i) % o.length]], ho7, e7.size, Nat.le_of_ble_eq_true rfl, rfl, rfl, .inr ⟨g7, 0, rfl, Rd.of_block h7.here⟩, rfl, rfl, by omega, by simp only [maxLen]; omega, ?_⟩
        intro v8 w8 ho8 hg8 _
        refine ⟨_, next, ?_⟩
        refine ⟨(i + 1, v8), ⟨rfl, rfl, rfl, rfl, rfl, trivial⟩, ⟨hlt, app_ext e7 ho7 hg8, ?_⟩, by show o.length - (i + 1) < o.length - i; omega⟩
        show NewInts w2.heap.size w8 v8 ((List.range (i + 1)).map fun i => o.getD ((fr + i) % o.length) 0)
        rw [List.range_succ, List.map_append, List.map_cons, List.map_nil, hget]
        exact newInts_snoc ho8
    · have : i = o.length := by have : ¬ (i : Int) < (o.length : Nat) := hge; omega
      subst this
      exact ⟨NewInts.base ho5 e02.size, e02.trans e5⟩
set_option maxRecDepth 100000 in
theorem refLetter_spec {w : World} {A : Option Addr} {l : List Fact} {c : Nat} (h : HF w A l c) (hl : l.length ≤ 2 ^ 20) (k day lang lot s0 : Int) :
    CallsV C.P 92 #[.slice A l.length c, .int .i64 k, .int .i64 day, .int .i64 lang, .int .i64 lot, .int .i64 s0] w fun v w' => v = .tuple #[.int .i64 (letterL (atL k day l) lang lot s0).1, .bool (letterL (atL k day l) lang lot s0).2] ∧ Ext w w' := by
  refine callsV_of C_ok (args := [_, _, _, _, _, _]) (plans := []) Tryz.func92 rfl Tryz.ntmps92 (by kernel_rfl) (Nat.le_of_ble_eq_true rfl) ?_
  refine (refAlphabet_spec h hl k day lang lot).mono ?_
  rintro v0 w1 ⟨ho1, e1⟩
  have hll : (alphaL (atL k day l) lang lot).length ≤ 2 ^ 20 := by
    have hK := atL_length k day l
    have hN : (statesL (atL k day l)).length ≤ (atL k day l).length := sortF_length (p := fun y => decide (y.kind = 1)) (f := Fact.who)
    have := (orderL_perm (atL k day l) lang).length_eq
    unfold alphaL
    simp only [List.length_map, List.length_range]
    omega
  unfold letterL
  generalize alphaL (atL k day l) lang lot = xs at *
  obtain ⟨AX, cX, rfl, hrX, _⟩ := NewInts.slice ho1
  refine loopE C_ok (fun (i : Nat) => [(5, .int .i64 s0), (14, .slice AX xs.length cX), (15, .int .i64 i)])
    (fun i w' => w' = w1 ∧ i ≤ xs.length ∧ ∀ j (hj : j < xs.length), j < i → ¬ xs[j] = s0) (fun i => xs.length - i) 0 ⟨rfl, rfl, rfl, trivial⟩ ⟨rfl, Nat.zero_le _, fun j hj hji => absurd hji (Nat.not_lt_zero _)⟩ ?_
  rintro i w2 ⟨rfl, hi, hall⟩
  refine brE_dec (fun hlt2 => ?_) (fun hge => ?_)
  · have hlt : i < xs.length := by have : (i : Int) < (xs.length : Nat) := hlt2; omega
    obtain ⟨b, o, hA, hc⟩ := Reads.int hrX hlt
    refine ⟨i, b, o, rfl, hlt, hA, ?_⟩
    refine ⟨_, by simpa using hc, ?_⟩
    refine brE_dec (fun h2 => ?_) (fun h2 => ?_)
    · have h2 : xs[i] = s0 := h2
      have : xs.findIdx? (fun x => decide (x = s0)) = some i := by
        rw [List.findIdx?_eq_some_iff_getElem]
        exact ⟨hlt, decide_eq_true h2, fun j hj => by simpa using hall j (by omega) hj⟩
      exact ⟨by rw [this], e1⟩
    · have h2 : ¬ xs[i] = s0 := h2
      refine ⟨((i + 1 : Nat) : Int), fit ⟨by omega, by omega⟩, ?_⟩
      refine ⟨i + 1, ⟨rfl, rfl, rfl, trivial⟩, ⟨rfl, hlt, fun j hj hji => ?_⟩, by omega⟩
      rcases Nat.lt_or_ge j i with h | h
      · exact hall j hj h
      · obtain rfl : j = i := by omega
        exact h2
  · have : i = xs.length := by have : ¬ (i : Int) < (xs.length : Nat) := hge; omega
    subst this
    have : xs.findIdx? (fun x => decide (x = s0)) = none := by
      rw [List.findIdx?_eq_none_iff]
      intro x hx
      obtain ⟨j, hj, rfl⟩ := List.getElem_of_mem hx
      exact decide_eq_false (hall j hj hj)
    exact ⟨by rw [this], e1⟩
end Go.Proofs.YtdpdjcopkehdjaaGreat
namespace Go.Proofs.YtdpdjcopkehdjaaGreat.Rk
open Go.Eng Go.RowKit
set_option maxRecDepth 100000 in
set_option maxHeartbeats 4000000 in
theorem refProfile_spec {w : World} {A : Option Addr} {l : List Fact} {c : Nat} (hf : HF w A l c) (hl : l.length ≤ 2 ^ 20) (s : Scn) {g : Int × Int} (hg : In64 g.1) :
    CallsV C.P 44 #[.slice A l.length c, s.val, prVal g] w fun v w' => v = (profOf l s g).val ∧ Ext w w' := by
  obtain ⟨a, ha⟩ : ∃ a, a = atL s.known s.day l := ⟨_, rfl⟩
  have hfin : profOf l s g = profAt a s g := by rw [ha]; rfl
  rw [hfin]
  have pP := fun w' (e : Ext w w') => refPrincipal_spec (hf.ext e) hl s.known s.day g.1
  have pM := fun w' (e : Ext w w') => refMourns_spec (hf.ext e) hl s.known s.day g.2
  have pC := fun w' (e : Ext w w') x => refClass_spec (hf.ext e) hl s.known s.day s.host x g.2
  have pS := fun w' (e : Ext w w') x => refSpouse_spec (hf.ext e) hl s.known s.day x
  have pV := fun w' (e : Ext w w') x => refVisit_spec (hf.ext e) hl s.known s.day x s.host
  have pK := fun w' (e : Ext w w') x => refCredentials_spec (hf.ext e) hl s.known s.day x s.host
  have pL := fun w' (e : Ext w w') => refLetter_spec (hf.ext e) hl s.known s.day s.lang s.lot g.2
  have pA := fun w' (e : Ext w w') => refAlphabet_spec (hf.ext e) hl s.known s.day s.lang s.lot
  rw [← ha] at pP pM pC pS pV pK pL pA
  refine callsV_ofS (args := [_, _, _]) Tryz.func44 rfl Tryz.ntmps44 C_ok (Nat.le_of_ble_eq_true rfl) ?_
  refine Snd.go C_ok [] (by kernel_rfl) ?_
  intro g4 w1 h1
  have M : Mem w w1 [(g4, .cells s.cells.toArray 24 (0, 0))] := (Mem.start w).alloc h1
  intro g5 w2 h2
  have M : Mem w w2 [(g5, .cells (guestCells g).toArray 44 (0, 0)), (g4, .cells s.cells.toArray 24 (0, 0))] := M.alloc h2
  intro g6 w3 h3
  have M : Mem w w3 [(g6, .cells profZ.cells.toArray 38 (0, 0)), (g5, .cells (guestCells g).toArray 44 (0, 0)), (g4, .cells s.cells.toArray 24 (0, 0))] := M.alloc h3
  refine ⟨Snd.go C_ok [] (by kernel_rfl) ?_⟩
  intro g7 w4 h4
  have M : Mem w w4 [(g7, .cells (Prof.mk 0 0 false false false 0 0).cells.toArray 38 (0, 0)), (g6, .cells profZ.cells.toArray 38 (0, 0)), (g5, .cells (guestCells g).toArray 44 (0, 0)), (g4, .cells s.cells.toArray 24 (0, 0))] := M.alloc h4
  refine ⟨Snd.go C_ok [] (by kernel_rfl) ?_⟩
  refine ⟨_, M.cell 2 rfl rfl, ?_⟩
  refine ⟨Snd.go C_ok [] (by kernel_rfl) ?_⟩
  refine ⟨_, M.cell 3 rfl rfl, ?_⟩
  refine ⟨_, M.cell 3 rfl rfl, ?_⟩
  refine ⟨_, M.cell 2 rfl rfl, ?_⟩
  obtain ⟨who, hwho⟩ : ∃ who, who = whoOf a g := ⟨_, rfl⟩
  obtain ⟨q, hq⟩ : ∃ q, q = princL a g.1 := ⟨_, rfl⟩
  have hw2 : who = if q.2 = true then q.1 else g.1 := by rw [hwho, hq]; rfl
  have hpf : profAt a s g = ⟨clsOf a s.host who g.2, visitL a who s.host, decide (g.2 = s.host), q.2, a.any (mournB g.2), credL a who s.host, letOf a s.lang s.lot g.2⟩ := by rw [hwho, hq]; rfl
  rw [hpf]
  have X := pP _ M.ext
  rw [← hq] at X
  refine X.mono ?_
  rintro v w5 ⟨rfl, e5⟩
  have M := M.grow e5
  refine ⟨Snd.join C_ok [] (fun _ : Unit => [(0, .slice A l.length c), (4, .pointer (some ⟨g4, 0, none⟩)), (5, .pointer (some ⟨g5, 0, none⟩)), (6, .pointer (some ⟨g6, 0, none⟩)), (7, .pointer (some ⟨g7, 0, none⟩)), (8, .int .i64 who)]) (fun _ w' => Mem w w' [(g7, .cells (Prof.mk 0 0 false q.2 false 0 0).cells.toArray 38 (0, 0)), (g6, .cells profZ.cells.toArray 38 (0, 0)), (g5, .cells (guestCells g).toArray 44 (0, 0)), (g4, .cells s.cells.toArray 24 (0, 0))]) (by kernel_rfl) ?_ ?_⟩
  · refine brE_mk (fun b => ?_) (fun b => ?_)
    · have b : q.2 = true := b
      have hx : q.1 = who := by rw [hw2, if_pos b]
      refine ⟨rfl, _, _, M.get 0 rfl, Nat.le_of_ble_eq_true rfl, rfl, ?_⟩
      intro w6 h6
      refine ⟨(), ⟨rfl, rfl, rfl, rfl, rfl, congrArg (fun x => some (Value.int IntKind.i64 x)) hx, trivial⟩, ?_⟩
      rw [b]
      exact M.put 0 rfl h6
    · have b : q.2 = false := b
      have hx : g.1 = who := by rw [hw2, if_neg (by rw [b]; decide)]
      refine ⟨(), ⟨rfl, rfl, rfl, rfl, rfl, congrArg (fun x => some (Value.int IntKind.i64 x)) hx, trivial⟩, ?_⟩
      rw [b]
      exact M
  rintro _ w7 M
  refine Snd.go C_ok [] (by kernel_rfl) ?_
  refine ⟨_, M.cell 3 rfl rfl, ?_⟩
  refine ⟨_, M.cell 3 rfl rfl, ?_⟩
  refine ⟨_, M.cell 3 rfl rfl, ?_⟩
  refine ⟨_, M.cell 2 rfl rfl, ?_⟩
  refine (pC _ M.ext who).mono ?_
  rintro v w8 ⟨rfl, e8⟩
  have M := M.grow e8
  refine ⟨rfl, _, _, M.get 0 rfl, Nat.le_of_ble_eq_true rfl, rfl, ?_⟩
  intro w9 h9
  obtain ⟨c0, hc0⟩ : ∃ c0, c0 = (classL a s.host who g.2).1 := ⟨_, rfl⟩
  have M : Mem w w9 [(g7, .cells (Prof.mk c0 0 false q.2 false 0 0).cells.toArray 38 (0, 0)), (g6, .cells profZ.cells.toArray 38 (0, 0)), (g5, .cells (guestCells g).toArray 44 (0, 0)), (g4, .cells s.cells.toArray 24 (0, 0))] := by rw [hc0]; exact M.put 0 rfl h9
  obtain ⟨sp, hsp⟩ : ∃ sp, sp = spouseL a who := ⟨_, rfl⟩
  obtain ⟨c1, hc1⟩ : ∃ c1, c1 = clsOf a s.host who g.2 := ⟨_, rfl⟩
  have hc2 : c1 = if c0 = 5 ∧ sp.2 = true then (classL a s.host sp.1 g.2).1 else c0 := by rw [hc1, hc0, hsp]; rfl
  rw [← hc1]
  refine ⟨Snd.go C_ok [] (by kernel_rfl) ?_⟩
  refine ⟨_, M.cell 3 rfl rfl, ?_⟩
  refine ⟨_, M.cell 3 rfl rfl, ?_⟩
  have X := pS _ M.ext who
  rw [← hsp] at X
  refine X.mono ?_
  rintro v w10 ⟨rfl, e10⟩
  have M := M.grow e10
  refine ⟨Snd.join C_ok [] (fun _ : Unit => [(0, .slice A l.length c), (4, .pointer (some ⟨g4, 0, none⟩)), (5, .pointer (some ⟨g5, 0, none⟩)), (6, .pointer (some ⟨g6, 0, none⟩)), (7, .pointer (some ⟨g7, 0, none⟩)), (8, .int .i64 who)]) (fun _ w' => Mem w w' [(g7, .cells (Prof.mk c1 0 false q.2 false 0 0).cells.toArray 38 (0, 0)), (g6, .cells profZ.cells.toArray 38 (0, 0)), (g5, .cells (guestCells g).toArray 44 (0, 0)), (g4, .cells s.cells.toArray 24 (0, 0))]) (by kernel_rfl) ?_ ?_⟩
  · refine ⟨_, M.cell 0 rfl rfl, ?_⟩
    refine brE_dec (fun b1 => ?_) (fun b1 => ?_)
    · have b1 : c0 = 5 := b1
      refine brE_mk (fun b2 => ?_) (fun b2 => ?_)
      · have b2 : sp.2 = true := b2
        refine ⟨_, M.cell 3 rfl rfl, ?_⟩
        refine ⟨_, M.cell 3 rfl rfl, ?_⟩
        refine ⟨_, M.cell 3 rfl rfl, ?_⟩
        refine ⟨_, M.cell 2 rfl rfl, ?_⟩
        refine (pC _ M.ext sp.1).mono ?_
        rintro v w11 ⟨rfl, e11⟩
        have M := M.grow e11
        refine ⟨rfl, _, _, M.get 0 rfl, Nat.le_of_ble_eq_true rfl, rfl, ?_⟩
        intro w12 h12
        refine ⟨(), ⟨rfl, rfl, rfl, rfl, rfl, rfl, trivial⟩, ?_⟩
        rw [hc2, if_pos ⟨b1, b2⟩]
        exact M.put 0 rfl h12
      · have b2 : sp.2 = false := b2
        refine ⟨(), ⟨rfl, rfl, rfl, rfl, rfl, rfl, trivial⟩, ?_⟩
        rw [hc2, if_neg (fun e => by rw [b2] at e; cases e.2)]
        exact M
    · have b1 : ¬ c0 = 5 := b1
      refine ⟨(), ⟨rfl, rfl, rfl, rfl, rfl, rfl, trivial⟩, ?_⟩
      rw [hc2, if_neg (fun e => b1 e.1)]
      exact M
  rintro _ w13 M
  obtain ⟨vi, hvi⟩ : ∃ vi, vi = visitL a who s.host := ⟨_, rfl⟩
  obtain ⟨cr, hcr⟩ : ∃ cr, cr = credL a who s.host := ⟨_, rfl⟩
  obtain ⟨mo, hmo⟩ : ∃ mo, mo = a.any (mournB g.2) := ⟨_, rfl⟩
  obtain ⟨lt, hlt⟩ : ∃ lt, lt = letterL a s.lang s.lot g.2 := ⟨_, rfl⟩
  obtain ⟨le, hle⟩ : ∃ le, le = letOf a s.lang s.lot g.2 := ⟨_, rfl⟩
  have hl2 : le = if lt.2 = true then lt.1 else (((alphaL a s.lang s.lot).length : Nat) : Int) := by rw [hle, hlt]; rfl
  rw [← hvi, ← hcr, ← hmo, ← hle]
  refine Snd.go C_ok [] (by kernel_rfl) ?_
  refine ⟨_, M.cell 3 rfl rfl, ?_⟩
  refine ⟨_, M.cell 3 rfl rfl, ?_⟩
  refine ⟨_, M.cell 3 rfl rfl, ?_⟩
  have X := pV _ M.ext who
  rw [← hvi] at X
  refine X.mono ?_
  rintro v w14 ⟨rfl, e14⟩
  have M := M.grow e14
  refine ⟨rfl, _, _, M.get 0 rfl, Nat.le_of_ble_eq_true rfl, rfl, ?_⟩
  intro w15 h15
  have M : Mem w w15 [(g7, .cells (Prof.mk c1 vi false q.2 false 0 0).cells.toArray 38 (0, 0)), (g6, .cells profZ.cells.toArray 38 (0, 0)), (g5, .cells (guestCells g).toArray 44 (0, 0)), (g4, .cells s.cells.toArray 24 (0, 0))] := M.put 0 rfl h15
  refine ⟨Snd.go C_ok [] (by kernel_rfl) ?_⟩
  refine ⟨_, M.cell 3 rfl rfl, ?_⟩
  refine ⟨_, M.cell 3 rfl rfl, ?_⟩
  refine ⟨_, M.cell 3 rfl rfl, ?_⟩
  have X := pK _ M.ext who
  rw [← hcr] at X
  refine X.mono ?_
  rintro v w16 ⟨rfl, e16⟩
  have M := M.grow e16
  refine ⟨rfl, _, _, M.get 0 rfl, Nat.le_of_ble_eq_true rfl, rfl, ?_⟩
  intro w17 h17
  have M : Mem w w17 [(g7, .cells (Prof.mk c1 vi false q.2 false cr 0).cells.toArray 38 (0, 0)), (g6, .cells profZ.cells.toArray 38 (0, 0)), (g5, .cells (guestCells g).toArray 44 (0, 0)), (g4, .cells s.cells.toArray 24 (0, 0))] := M.put 0 rfl h17
  refine ⟨Snd.go C_ok [] (by kernel_rfl) ?_⟩
  refine ⟨_, M.cell 2 rfl rfl, ?_⟩
  refine ⟨_, M.cell 3 rfl rfl, ?_⟩
  refine ⟨rfl, _, _, M.get 0 rfl, Nat.le_of_ble_eq_true rfl, rfl, ?_⟩
  intro w18 h18
  have M : Mem w w18 [(g7, .cells (Prof.mk c1 vi (decide (g.2 = s.host)) q.2 false cr 0).cells.toArray 38 (0, 0)), (g6, .cells profZ.cells.toArray 38 (0, 0)), (g5, .cells (guestCells g).toArray 44 (0, 0)), (g4, .cells s.cells.toArray 24 (0, 0))] := M.put 0 rfl h18
  refine ⟨Snd.go C_ok [] (by kernel_rfl) ?_⟩
  refine ⟨_, M.cell 3 rfl rfl, ?_⟩
  refine ⟨_, M.cell 3 rfl rfl, ?_⟩
  refine ⟨_, M.cell 2 rfl rfl, ?_⟩
  have X := pM _ M.ext
  rw [← hmo] at X
  refine X.mono ?_
  rintro v w19 ⟨rfl, e19⟩
  have M := M.grow e19
  refine ⟨rfl, _, _, M.get 0 rfl, Nat.le_of_ble_eq_true rfl, rfl, ?_⟩
  intro w20 h20
  have M : Mem w w20 [(g7, .cells (Prof.mk c1 vi (decide (g.2 = s.host)) q.2 mo cr 0).cells.toArray 38 (0, 0)), (g6, .cells profZ.cells.toArray 38 (0, 0)), (g5, .cells (guestCells g).toArray 44 (0, 0)), (g4, .cells s.cells.toArray 24 (0, 0))] := M.put 0 rfl h20
  refine ⟨Snd.go C_ok [] (by kernel_rfl) ?_⟩
  refine ⟨_, M.cell 3 rfl rfl, ?_⟩
  refine ⟨_, M.cell 3 rfl rfl, ?_⟩
  refine ⟨_, M.cell 3 rfl rfl, ?_⟩
  refine ⟨_, M.cell 3 rfl rfl, ?_⟩
  refine ⟨_, M.cell 2 rfl rfl, ?_⟩
  have X := pL _ M.ext
  rw [← hlt] at X
  refine X.mono ?_
  rintro v w21 ⟨rfl, e21⟩
  have M := M.grow e21
  refine ⟨Snd.join C_ok [] (fun _ : Unit => [(6, .pointer (some ⟨g6, 0, none⟩)), (7, .pointer (some ⟨g7, 0, none⟩)), (13, .int .i64 le)]) (fun _ w' => Mem w w' [(g7, .cells (Prof.mk c1 vi (decide (g.2 = s.host)) q.2 mo cr 0).cells.toArray 38 (0, 0)), (g6, .cells profZ.cells.toArray 38 (0, 0)), (g5, .cells (guestCells g).toArray 44 (0, 0)), (g4, .cells s.cells.toArray 24 (0, 0))]) (by kernel_rfl) ?_ ?_⟩
  · refine brE_mk (fun b => ?_) (fun b => ?_)
    · have b : lt.2 = false := by simpa using b
      refine ⟨_, M.cell 3 rfl rfl, ?_⟩
      refine ⟨_, M.cell 3 rfl rfl, ?_⟩
      refine ⟨_, M.cell 3 rfl rfl, ?_⟩
      refine ⟨_, M.cell 3 rfl rfl, ?_⟩
      refine (pA _ M.ext).mono ?_
      rintro v w22 ⟨hv, e22⟩
      obtain ⟨Aa, ca, rfl, _, _⟩ := reads_of_owns hv
      have M := M.grow e22
      have hx : (((alphaL a s.lang s.lot).length : Nat) : Int) = le := by rw [hl2, if_neg (by rw [b]; decide)]
      exact ⟨(), ⟨rfl, rfl, congrArg (fun x => some (Value.int IntKind.i64 x)) hx, trivial⟩, M⟩
    · have b : lt.2 = true := by simpa using b
      have hx : lt.1 = le := by rw [hl2, if_pos b]
      exact ⟨(), ⟨rfl, rfl, congrArg (fun x => some (Value.int IntKind.i64 x)) hx, trivial⟩, M⟩
  rintro _ w23 M
  refine Snd.fin C_ok (plans := []) (by kernel_rfl) ?_
  refine ⟨rfl, _, _, M.get 0 rfl, Nat.le_of_ble_eq_true rfl, rfl, ?_⟩
  intro w24 h24
  have M : Mem w w24 [(g7, .cells (Prof.mk c1 vi (decide (g.2 = s.host)) q.2 mo cr le).cells.toArray 38 (0, 0)), (g6, .cells profZ.cells.toArray 38 (0, 0)), (g5, .cells (guestCells g).toArray 44 (0, 0)), (g4, .cells s.cells.toArray 24 (0, 0))] := M.put 0 rfl h24
  refine ⟨(Prof.mk c1 vi (decide (g.2 = s.host)) q.2 mo cr le).cells, rfl, M.rd 0 rfl, ?_⟩
  refine ⟨rfl, _, _, M.get 1 rfl, Nat.le_of_ble_eq_true rfl, rfl, ?_⟩
  intro w25 h25
  have M := M.put 1 rfl h25
  refine ⟨(Prof.mk c1 vi (decide (g.2 = s.host)) q.2 mo cr le).cells, rfl, M.rd 1 rfl, ?_⟩
  exact ⟨rfl, M.ext⟩
end Go.Proofs.YtdpdjcopkehdjaaGreat.Rk
namespace Go.Proofs.YtdpdjcopkehdjaaGreat
open Go.Eng Go.RowKit
def plainF (x : Fact) : Fact := ⟨x.id, x.known, x.kind, 0, 0, 0, x.since, x.til, ⟨#[]⟩⟩
set_option maxRecDepth 100000 in
theorem plain_spec (x : Fact) (w : World) : CallsV C.P 242 #[x.val] w fun v w' => v = (plainF x).val ∧ Ext w w' := by
  refine callsV_of C_ok (args := [_]) (plans := []) Tryz.func242 rfl Tryz.ntmps242 (by kernel_rfl) (Nat.le_of_ble_eq_true rfl) ?_
  intro g1 w1 h1
  have M1 : Mem w w1 [(g1, .cells x.cells.toArray 55 (0, 0))] := (Mem.start w).alloc h1
  intro g2 w2 h2
  have M2 := M1.alloc h2
  refine ⟨_, M2.cell 1 rfl rfl, ?_⟩
  refine ⟨_, M2.cell 1 rfl rfl, ?_⟩
  refine ⟨_, M2.cell 1 rfl rfl, ?_⟩
  refine ⟨_, M2.cell 1 rfl rfl, ?_⟩
  refine ⟨_, M2.cell 1 rfl rfl, ?_⟩
  refine ⟨rfl, _, _, M2.get 0 rfl, Nat.le_of_ble_eq_true rfl, rfl, ?_⟩
  intro w3 h3
  have M3 : Mem w w3 [(g2, .cells (plainF x).cells.toArray 55 (0, 0)), (g1, .cells x.cells.toArray 55 (0, 0))] := M2.put 0 rfl h3
  exact ⟨(plainF x).cells, rfl, M3.rd 0 rfl, rfl, M3.ext⟩
def daysB (x : Fact) : Bool := dayB x.known && dayB x.since && (decide (x.til = 0) || decide (x.since < x.til ∧ x.til ≤ 100000))
theorem head_days (x : Fact) : headB x = (decide (1 ≤ x.kind ∧ x.kind ≤ 11) && (daysB x && idB x.id)) := by
  unfold headB daysB
  generalize decide (1 ≤ x.kind ∧ x.kind ≤ 11) = a
  generalize idB x.id = b
  generalize dayB x.known = c
  generalize dayB x.since = d
  generalize (decide (x.til = 0) || decide (x.since < x.til ∧ x.til ≤ 100000)) = e
  revert a b c d e
  decide
def refOk (x : Fact) : Bool :=
  if x.kind = 1 then idB x.who && decide (1 ≤ x.other ∧ x.other ≤ 3)
  else if x.kind = 2 ∨ x.kind = 3 then idB x.who && (idB x.what && decide (1 ≤ x.other ∧ x.other ≤ 4))
  else if x.kind = 4 then idB x.who && (idB x.what && idB x.other)
  else if x.kind = 5 then idB x.who && idB x.what
  else if x.kind = 6 ∨ x.kind = 9 then idB x.who && (idB x.other && !decide (x.other = x.who))
  else if x.kind = 7 then idB x.who
  else if x.kind = 8 then idB x.who && (idB x.what && decide (1 ≤ x.other ∧ x.other ≤ 2))
  else if x.kind = 10 then idB x.who && decide (x.til = 0)
  else if x.kind = 11 then idB x.what && (!decide (x.what = x.id) && (decide (x.since = 0) && decide (x.til = 0)))
  else false
def refY (x : Fact) : Fact :=
  if x.kind = 1 then { plainF x with who := x.who, other := x.other, name := x.name }
  else if x.kind = 2 ∨ x.kind = 3 ∨ x.kind = 4 ∨ x.kind = 8 then { plainF x with who := x.who, what := x.what, other := x.other }
  else if x.kind = 5 then { plainF x with who := x.who, what := x.what }
  else if x.kind = 6 ∨ x.kind = 9 then { plainF x with who := x.who, other := x.other }
  else if x.kind = 7 ∨ x.kind = 10 then { plainF x with who := x.who }
  else if x.kind = 11 then { plainF x with what := x.what }
  else plainF x
theorem ref_fin {x : Fact} (h1 : 1 ≤ x.kind) (h2 : x.kind ≤ 11) : (refOk x && decide (x = refY x)) = (restB x && rightB x) := by
  obtain ⟨x0, x1, x2, x3, x4, x5, x6, x7, x8⟩ := x
  have h1 : 1 ≤ x2 := h1
  have h2 : x2 ≤ 11 := h2
  have cases : x2 = 1 ∨ x2 = 2 ∨ x2 = 3 ∨ x2 = 4 ∨ x2 = 5 ∨ x2 = 6 ∨ x2 = 7 ∨ x2 = 8 ∨ x2 = 9 ∨ x2 = 10 ∨ x2 = 11 := by omega
  rw [Bool.eq_iff_iff]
  rcases cases with rfl | rfl | rfl | rfl | rfl | rfl | rfl | rfl | rfl | rfl | rfl <;> simp [refOk, refY, plainF, restB, rightB, offs, Fact.mk.injEq] <;> (try constructor) <;> intros <;> simp_all <;> omega
theorem form_ref {x : Fact} (hh : headB x = true) : formE x = if (refOk x && decide (x = refY x)) = true then (if x.kind = 1 ∧ nameB x.name.data.toList = false then 4 else 0) else 1 := by
  have hk := (headB_iff.1 hh).1
  unfold formE
  rw [ref_fin hk.1 hk.2, hh, Bool.true_and]
theorem ref_kind {x : Fact} (h : refOk x = true) : 1 ≤ x.kind ∧ x.kind ≤ 11 := by
  unfold refOk at h
  by_cases h0 : 1 ≤ x.kind ∧ x.kind ≤ 11
  · exact h0
  · rw [if_neg (by omega), if_neg (by omega), if_neg (by omega), if_neg (by omega), if_neg (by omega), if_neg (by omega), if_neg (by omega), if_neg (by omega), if_neg (by omega)] at h
    cases h
set_option maxRecDepth 100000 in
set_option maxHeartbeats 2000000 in
theorem refFormed_spec (x : Fact) (hx : x.Nums) (w : World) : CallsV C.P 169 #[x.val] w fun v w' => v = .int .i64 (formE x) ∧ Ext w w' := by
  refine callsV_ofS (args := [_]) Tryz.func169 rfl Tryz.ntmps169 C_ok (Nat.le_of_ble_eq_true rfl) ?_
  refine Snd.go C_ok plans169 (by kernel_rfl) ?_
  intro g1 w1 h1
  have M1 : Mem w w1 [(g1, .cells x.cells.toArray 55 (0, 0))] := (Mem.start w).alloc h1
  refine ⟨Snd.join C_ok plans169 (fun b : Bool => [(1, .pointer (some ⟨g1, 0, none⟩)), (3, .bool b)]) (fun b w' => w' = w1 ∧ b = daysB x) (by kernel_rfl) ?_ ?_⟩
  · refine ⟨_, M1.cell 0 rfl rfl, ?_⟩
    refine (within_spec x.known 0 100000 _).mono ?_
    rintro _ w2 ⟨rfl, rfl⟩
    refine brE_dec (fun a1 => ?_) (fun a1 => ?_)
    · have a1 : 0 ≤ x.known ∧ x.known ≤ 100000 := a1
      refine ⟨_, M1.cell 0 rfl rfl, ?_⟩
      refine (within_spec x.since 0 100000 _).mono ?_
      rintro _ w2 ⟨rfl, rfl⟩
      refine brE_dec (fun a2 => ?_) (fun a2 => ?_)
      · have a2 : 0 ≤ x.since ∧ x.since ≤ 100000 := a2
        refine ⟨_, M1.cell 0 rfl rfl, ?_⟩
        refine brE_dec (fun a3 => ?_) (fun a3 => ?_)
        · have a3 : x.til = 0 := a3
          refine ⟨true, ⟨rfl, rfl, trivial⟩, rfl, ?_⟩
          simp [daysB, dayB, a1, a2, a3]
        · have a3 : ¬ x.til = 0 := a3
          refine ⟨_, M1.cell 0 rfl rfl, ?_⟩
          refine ⟨_, M1.cell 0 rfl rfl, ?_⟩
          refine brE_dec (fun a4 => ?_) (fun a4 => ?_)
          · have a4 : x.til > x.since := a4
            refine ⟨_, M1.cell 0 rfl rfl, ?_⟩
            refine ⟨decide (x.til ≤ 100000), ⟨rfl, rfl, trivial⟩, rfl, ?_⟩
            have a5 : x.since < x.til := a4
            simp [daysB, dayB, a1, a2, a3, a5]
          · have a4 : ¬ x.since < x.til := a4
            refine ⟨false, ⟨rfl, rfl, trivial⟩, rfl, ?_⟩
            simp [daysB, dayB, a1, a2, a3, a4]
      · have a2 : ¬ (0 ≤ x.since ∧ x.since ≤ 100000) := a2
        refine ⟨false, ⟨rfl, rfl, trivial⟩, rfl, ?_⟩
        unfold daysB dayB
        rw [decide_eq_false a2]; simp
    · have a1 : ¬ (0 ≤ x.known ∧ x.known ≤ 100000) := a1
      refine ⟨false, ⟨rfl, rfl, trivial⟩, rfl, ?_⟩
      unfold daysB dayB
      rw [decide_eq_false a1]; simp
  rintro b w2 ⟨rfl, hb⟩
  refine Snd.go C_ok plans169 (by kernel_rfl) ?_
  refine ⟨_, M1.cell 0 rfl rfl, ?_⟩
  refine (refId_spec x.id _).mono ?_
  rintro _ w3 ⟨rfl, rfl⟩
  refine ⟨Snd.go C_ok plans169 (by kernel_rfl) ?_⟩
  have bad : ∀ {w' : World}, (headB x = true → False) → Ext w w' → Value.int .i64 1 = .int .i64 (formE x) ∧ Ext w w' := fun h e => ⟨by rw [formE_head (headB_no h)], e⟩
  refine brE_mk (fun a1 => ?_) (fun a1 => ?_)
  · exact bad (fun h => by rw [head_days, ← hb] at h; cases b <;> simp at a1 h) M1.ext
  have a1 : daysB x = true := by rw [← hb]; simpa using a1
  refine brE_mk (fun a2 => ?_) (fun a2 => ?_)
  · exact bad (fun h => by rw [head_days] at h; cases hi : idB x.id <;> rw [hi] at a2 h <;> simp at a2 h) M1.ext
  have a2 : idB x.id = true := by simpa using a2
  have hhead : (1 ≤ x.kind ∧ x.kind ≤ 11) → headB x = true := fun h => by rw [head_days, a1, a2, decide_eq_true h]; rfl
  clear bad
  refine ⟨Snd.go C_ok plans169 (by kernel_rfl) ?_⟩
  refine ⟨_, M1.cell 0 rfl rfl, ?_⟩
  refine (refId_spec x.who _).mono ?_
  rintro _ w3 ⟨rfl, rfl⟩
  refine ⟨Snd.go C_ok plans169 (by kernel_rfl) ?_⟩
  refine ⟨_, M1.cell 0 rfl rfl, ?_⟩
  refine (refId_spec x.what _).mono ?_
  rintro _ w3 ⟨rfl, rfl⟩
  refine ⟨Snd.go C_ok plans169 (by kernel_rfl) ?_⟩
  refine ⟨_, M1.cell 0 rfl rfl, ?_⟩
  refine (refId_spec x.other _).mono ?_
  rintro _ w3 ⟨rfl, rfl⟩
  refine ⟨Snd.go C_ok plans169 (by kernel_rfl) ?_⟩
  refine ⟨x.cells, rfl, M1.rd 0 rfl, ?_⟩
  refine (plain_spec x _).mono ?_
  rintro _ w4 ⟨rfl, e4⟩
  have M4 := M1.grow e4
  intro g8 w5 h5
  have M5 := M4.alloc h5
  refine ⟨rfl, _, _, M5.get 0 rfl, Nat.le_of_ble_eq_true rfl, rfl, ?_⟩
  intro w6 h6
  have M6 : Mem w w6 [(g8, .cells (plainF x).cells.toArray 55 (0, 0)), (g1, .cells x.cells.toArray 55 (0, 0))] := M5.put 0 rfl h6
  have hne : g1 ≠ g8 := fun e => by
    have := M6.nodup
    simp [e] at this
  clear M5 M4 h5 h6 e4
  refine ⟨Snd.go C_ok plans169 (by kernel_rfl) ?_⟩
  refine ⟨Snd.join C_ok plans169 (fun ok : Bool => [(1, .pointer (some ⟨g1, 0, none⟩)), (8, .pointer (some ⟨g8, 0, none⟩)), (9, .bool ok)])
    (fun ok w' => ok = refOk x ∧ Mem w w' [(g8, .cells (refY x).cells.toArray 55 (0, 0)), (g1, .cells x.cells.toArray 55 (0, 0))]) (by kernel_rfl) ?_ ?_⟩
  · refine ⟨_, M6.cell 1 rfl rfl, ?_⟩
    refine brE_dec (fun k1 => ?_) (fun k1 => ?_)
    · have k1 : x.kind = 1 := k1
      refine ⟨fun k => k ≠ g8, ?_⟩
      refine ⟨_, M6.cell 1 rfl rfl, ?_⟩
      refine ⟨.int .i64 x.other, fun u hu => ⟨_, hu.cell hne (M6.cell 1 (i := 5) rfl rfl), rfl⟩, ?_⟩
      refine ⟨.string x.name, fun u hu => ⟨_, hu.cell hne (M6.cell 1 (i := 8) rfl rfl), rfl⟩, ?_⟩
      refine ⟨rfl, _, _, M6.get 0 rfl, Nat.le_of_ble_eq_true rfl, rfl, ?_⟩
      intro v0 s0
      have N0 := M6.put 0 rfl s0
      have kp0 : Keep (fun k => k ≠ g8) w6 v0 := (Keep.refl _ w6).put s0 (fun h => h rfl)
      refine ⟨kp0, ?_⟩
      refine ⟨rfl, _, _, N0.get 0 rfl, Nat.le_of_ble_eq_true rfl, rfl, ?_⟩
      intro v1 s1
      have N1 := N0.put 0 rfl s1
      have kp1 : Keep (fun k => k ≠ g8) w6 v1 := kp0.put s1 (fun h => h rfl)
      refine ⟨kp1, ?_⟩
      refine ⟨rfl, _, _, N1.get 0 rfl, Nat.le_of_ble_eq_true rfl, rfl, ?_⟩
      intro v2 s2
      have N2 := N1.put 0 rfl s2
      refine brE_mk (fun t_who => ?_) (fun t_who => ?_)
      · have t_who : idB x.who = true := t_who
        refine ⟨_, N2.cell 1 rfl rfl, ?_⟩
        refine (within_spec x.other 1 3 _).mono ?_
        rintro _ w8 ⟨rfl, rfl⟩
        exact ⟨decide (1 ≤ x.other ∧ x.other ≤ 3), ⟨rfl, rfl, rfl, trivial⟩, by simp [refOk, k1, t_who], by unfold refY; simp only [k1, reduceIte, Int.reduceEq, or_true, true_or, or_false, or_self, false_or]; exact N2⟩
      · have t_who : idB x.who = false := t_who
        exact ⟨false, ⟨rfl, rfl, rfl, trivial⟩, by simp [refOk, k1, t_who], by unfold refY; simp only [k1, reduceIte, Int.reduceEq, or_true, true_or, or_false, or_self, false_or]; exact N2⟩
    have k1 : ¬ x.kind = 1 := k1
    refine brE_dec (fun k2 => ?_) (fun k2 => ?_)
    · have k2 : x.kind = 2 := k2
      refine brE_true (decide_eq_true k2) ?_
      refine ⟨fun k => k ≠ g8, ?_⟩
      refine ⟨_, M6.cell 1 rfl rfl, ?_⟩
      refine ⟨.int .i64 x.what, fun u hu => ⟨_, hu.cell hne (M6.cell 1 (i := 4) rfl rfl), rfl⟩, ?_⟩
      refine ⟨.int .i64 x.other, fun u hu => ⟨_, hu.cell hne (M6.cell 1 (i := 5) rfl rfl), rfl⟩, ?_⟩
      refine ⟨rfl, _, _, M6.get 0 rfl, Nat.le_of_ble_eq_true rfl, rfl, ?_⟩
      intro v0 s0
      have N0 := M6.put 0 rfl s0
      have kp0 : Keep (fun k => k ≠ g8) w6 v0 := (Keep.refl _ w6).put s0 (fun h => h rfl)
      refine ⟨kp0, ?_⟩
      refine ⟨rfl, _, _, N0.get 0 rfl, Nat.le_of_ble_eq_true rfl, rfl, ?_⟩
      intro v1 s1
      have N1 := N0.put 0 rfl s1
      have kp1 : Keep (fun k => k ≠ g8) w6 v1 := kp0.put s1 (fun h => h rfl)
      refine ⟨kp1, ?_⟩
      refine ⟨rfl, _, _, N1.get 0 rfl, Nat.le_of_ble_eq_true rfl, rfl, ?_⟩
      intro v2 s2
      have N2 := N1.put 0 rfl s2
      refine brE_mk (fun t_who => ?_) (fun t_who => ?_)
      · have t_who : idB x.who = true := t_who
        refine brE_mk (fun t_what => ?_) (fun t_what => ?_)
        · have t_what : idB x.what = true := t_what
          refine ⟨_, N2.cell 1 rfl rfl, ?_⟩
          refine (within_spec x.other 1 4 _).mono ?_
          rintro _ w8 ⟨rfl, rfl⟩
          exact ⟨decide (1 ≤ x.other ∧ x.other ≤ 4), ⟨rfl, rfl, rfl, trivial⟩, by simp [refOk, k2, t_who, t_what], by unfold refY; simp only [k2, reduceIte, Int.reduceEq, or_true, true_or, or_false, or_self, false_or]; exact N2⟩
        · have t_what : idB x.what = false := t_what
          exact ⟨false, ⟨rfl, rfl, rfl, trivial⟩, by simp [refOk, k2, t_who, t_what], by unfold refY; simp only [k2, reduceIte, Int.reduceEq, or_true, true_or, or_false, or_self, false_or]; exact N2⟩
      · have t_who : idB x.who = false := t_who
        exact ⟨false, ⟨rfl, rfl, rfl, trivial⟩, by simp [refOk, k2, t_who], by unfold refY; simp only [k2, reduceIte, Int.reduceEq, or_true, true_or, or_false, or_self, false_or]; exact N2⟩
    have k2 : ¬ x.kind = 2 := k2
    refine brE_dec (fun k3 => ?_) (fun k3 => ?_)
    · have k3 : x.kind = 3 := k3
      refine ⟨fun k => k ≠ g8, ?_⟩
      refine ⟨_, M6.cell 1 rfl rfl, ?_⟩
      refine ⟨.int .i64 x.what, fun u hu => ⟨_, hu.cell hne (M6.cell 1 (i := 4) rfl rfl), rfl⟩, ?_⟩
      refine ⟨.int .i64 x.other, fun u hu => ⟨_, hu.cell hne (M6.cell 1 (i := 5) rfl rfl), rfl⟩, ?_⟩
      refine ⟨rfl, _, _, M6.get 0 rfl, Nat.le_of_ble_eq_true rfl, rfl, ?_⟩
      intro v0 s0
      have N0 := M6.put 0 rfl s0
      have kp0 : Keep (fun k => k ≠ g8) w6 v0 := (Keep.refl _ w6).put s0 (fun h => h rfl)
      refine ⟨kp0, ?_⟩
      refine ⟨rfl, _, _, N0.get 0 rfl, Nat.le_of_ble_eq_true rfl, rfl, ?_⟩
      intro v1 s1
      have N1 := N0.put 0 rfl s1
      have kp1 : Keep (fun k => k ≠ g8) w6 v1 := kp0.put s1 (fun h => h rfl)
      refine ⟨kp1, ?_⟩
      refine ⟨rfl, _, _, N1.get 0 rfl, Nat.le_of_ble_eq_true rfl, rfl, ?_⟩
      intro v2 s2
      have N2 := N1.put 0 rfl s2
      refine brE_mk (fun t_who => ?_) (fun t_who => ?_)
      · have t_who : idB x.who = true := t_who
        refine brE_mk (fun t_what => ?_) (fun t_what => ?_)
        · have t_what : idB x.what = true := t_what
          refine ⟨_, N2.cell 1 rfl rfl, ?_⟩
          refine (within_spec x.other 1 4 _).mono ?_
          rintro _ w8 ⟨rfl, rfl⟩
          exact ⟨decide (1 ≤ x.other ∧ x.other ≤ 4), ⟨rfl, rfl, rfl, trivial⟩, by simp [refOk, k3, t_who, t_what], by unfold refY; simp only [k3, reduceIte, Int.reduceEq, or_true, true_or, or_false, or_self, false_or]; exact N2⟩
        · have t_what : idB x.what = false := t_what
          exact ⟨false, ⟨rfl, rfl, rfl, trivial⟩, by simp [refOk, k3, t_who, t_what], by unfold refY; simp only [k3, reduceIte, Int.reduceEq, or_true, true_or, or_false, or_self, false_or]; exact N2⟩
      · have t_who : idB x.who = false := t_who
        exact ⟨false, ⟨rfl, rfl, rfl, trivial⟩, by simp [refOk, k3, t_who], by unfold refY; simp only [k3, reduceIte, Int.reduceEq, or_true, true_or, or_false, or_self, false_or]; exact N2⟩
    have k3 : ¬ x.kind = 3 := k3
    refine brE_dec (fun k4 => ?_) (fun k4 => ?_)
    · have k4 : x.kind = 4 := k4
      refine ⟨fun k => k ≠ g8, ?_⟩
      refine ⟨_, M6.cell 1 rfl rfl, ?_⟩
      refine ⟨.int .i64 x.what, fun u hu => ⟨_, hu.cell hne (M6.cell 1 (i := 4) rfl rfl), rfl⟩, ?_⟩
      refine ⟨.int .i64 x.other, fun u hu => ⟨_, hu.cell hne (M6.cell 1 (i := 5) rfl rfl), rfl⟩, ?_⟩
      refine ⟨rfl, _, _, M6.get 0 rfl, Nat.le_of_ble_eq_true rfl, rfl, ?_⟩
      intro v0 s0
      have N0 := M6.put 0 rfl s0
      have kp0 : Keep (fun k => k ≠ g8) w6 v0 := (Keep.refl _ w6).put s0 (fun h => h rfl)
      refine ⟨kp0, ?_⟩
      refine ⟨rfl, _, _, N0.get 0 rfl, Nat.le_of_ble_eq_true rfl, rfl, ?_⟩
      intro v1 s1
      have N1 := N0.put 0 rfl s1
      have kp1 : Keep (fun k => k ≠ g8) w6 v1 := kp0.put s1 (fun h => h rfl)
      refine ⟨kp1, ?_⟩
      refine ⟨rfl, _, _, N1.get 0 rfl, Nat.le_of_ble_eq_true rfl, rfl, ?_⟩
      intro v2 s2
      have N2 := N1.put 0 rfl s2
      refine brE_mk (fun t_who => ?_) (fun t_who => ?_)
      · have t_who : idB x.who = true := t_who
        refine brE_mk (fun t_what => ?_) (fun t_what => ?_)
        · have t_what : idB x.what = true := t_what
          exact ⟨idB x.other, ⟨rfl, rfl, rfl, trivial⟩, by simp [refOk, k4, t_who, t_what], by unfold refY; simp only [k4, reduceIte, Int.reduceEq, or_true, true_or, or_false, or_self, false_or]; exact N2⟩
        · have t_what : idB x.what = false := t_what
          exact ⟨false, ⟨rfl, rfl, rfl, trivial⟩, by simp [refOk, k4, t_who, t_what], by unfold refY; simp only [k4, reduceIte, Int.reduceEq, or_true, true_or, or_false, or_self, false_or]; exact N2⟩
      · have t_who : idB x.who = false := t_who
        exact ⟨false, ⟨rfl, rfl, rfl, trivial⟩, by simp [refOk, k4, t_who], by unfold refY; simp only [k4, reduceIte, Int.reduceEq, or_true, true_or, or_false, or_self, false_or]; exact N2⟩
    have k4 : ¬ x.kind = 4 := k4
    refine brE_dec (fun k5 => ?_) (fun k5 => ?_)
    · have k5 : x.kind = 5 := k5
      refine ⟨fun k => k ≠ g8, ?_⟩
      refine ⟨_, M6.cell 1 rfl rfl, ?_⟩
      refine ⟨.int .i64 x.what, fun u hu => ⟨_, hu.cell hne (M6.cell 1 (i := 4) rfl rfl), rfl⟩, ?_⟩
      refine ⟨rfl, _, _, M6.get 0 rfl, Nat.le_of_ble_eq_true rfl, rfl, ?_⟩
      intro v0 s0
      have N0 := M6.put 0 rfl s0
      have kp0 : Keep (fun k => k ≠ g8) w6 v0 := (Keep.refl _ w6).put s0 (fun h => h rfl)
      refine ⟨kp0, ?_⟩
      refine ⟨rfl, _, _, N0.get 0 rfl, Nat.le_of_ble_eq_true rfl, rfl, ?_⟩
      intro v1 s1
      have N1 := N0.put 0 rfl s1
      refine brE_mk (fun t_who => ?_) (fun t_who => ?_)
      · have t_who : idB x.who = true := t_who
        exact ⟨idB x.what, ⟨rfl, rfl, rfl, trivial⟩, by simp [refOk, k5, t_who], by unfold refY; simp only [k5, reduceIte, Int.reduceEq, or_true, true_or, or_false, or_self, false_or]; exact N1⟩
      · have t_who : idB x.who = false := t_who
        exact ⟨false, ⟨rfl, rfl, rfl, trivial⟩, by simp [refOk, k5, t_who], by unfold refY; simp only [k5, reduceIte, Int.reduceEq, or_true, true_or, or_false, or_self, false_or]; exact N1⟩
    have k5 : ¬ x.kind = 5 := k5
    refine brE_dec (fun k6 => ?_) (fun k6 => ?_)
    · have k6 : x.kind = 6 := k6
      refine brE_true (decide_eq_true k6) ?_
      refine ⟨fun k => k ≠ g8, ?_⟩
      refine ⟨_, M6.cell 1 rfl rfl, ?_⟩
      refine ⟨.int .i64 x.other, fun u hu => ⟨_, hu.cell hne (M6.cell 1 (i := 5) rfl rfl), rfl⟩, ?_⟩
      refine ⟨rfl, _, _, M6.get 0 rfl, Nat.le_of_ble_eq_true rfl, rfl, ?_⟩
      intro v0 s0
      have N0 := M6.put 0 rfl s0
      have kp0 : Keep (fun k => k ≠ g8) w6 v0 := (Keep.refl _ w6).put s0 (fun h => h rfl)
      refine ⟨kp0, ?_⟩
      refine ⟨rfl, _, _, N0.get 0 rfl, Nat.le_of_ble_eq_true rfl, rfl, ?_⟩
      intro v1 s1
      have N1 := N0.put 0 rfl s1
      refine brE_mk (fun t_who => ?_) (fun t_who => ?_)
      · have t_who : idB x.who = true := t_who
        refine brE_mk (fun t_other => ?_) (fun t_other => ?_)
        · have t_other : idB x.other = true := t_other
          refine ⟨_, N1.cell 1 rfl rfl, ?_⟩
          refine ⟨_, N1.cell 1 rfl rfl, ?_⟩
          exact ⟨(!decide (x.other = x.who)), ⟨rfl, rfl, rfl, trivial⟩, by simp [refOk, k6, t_who, t_other], by unfold refY; simp only [k6, reduceIte, Int.reduceEq, or_true, true_or, or_false, or_self, false_or]; exact N1⟩
        · have t_other : idB x.other = false := t_other
          exact ⟨false, ⟨rfl, rfl, rfl, trivial⟩, by simp [refOk, k6, t_who, t_other], by unfold refY; simp only [k6, reduceIte, Int.reduceEq, or_true, true_or, or_false, or_self, false_or]; exact N1⟩
      · have t_who : idB x.who = false := t_who
        exact ⟨false, ⟨rfl, rfl, rfl, trivial⟩, by simp [refOk, k6, t_who], by unfold refY; simp only [k6, reduceIte, Int.reduceEq, or_true, true_or, or_false, or_self, false_or]; exact N1⟩
    have k6 : ¬ x.kind = 6 := k6
    refine brE_dec (fun k9 => ?_) (fun k9 => ?_)
    · have k9 : x.kind = 9 := k9
      refine ⟨fun k => k ≠ g8, ?_⟩
      refine ⟨_, M6.cell 1 rfl rfl, ?_⟩
      refine ⟨.int .i64 x.other, fun u hu => ⟨_, hu.cell hne (M6.cell 1 (i := 5) rfl rfl), rfl⟩, ?_⟩
      refine ⟨rfl, _, _, M6.get 0 rfl, Nat.le_of_ble_eq_true rfl, rfl, ?_⟩
      intro v0 s0
      have N0 := M6.put 0 rfl s0
      have kp0 : Keep (fun k => k ≠ g8) w6 v0 := (Keep.refl _ w6).put s0 (fun h => h rfl)
      refine ⟨kp0, ?_⟩
      refine ⟨rfl, _, _, N0.get 0 rfl, Nat.le_of_ble_eq_true rfl, rfl, ?_⟩
      intro v1 s1
      have N1 := N0.put 0 rfl s1
      refine brE_mk (fun t_who => ?_) (fun t_who => ?_)
      · have t_who : idB x.who = true := t_who
        refine brE_mk (fun t_other => ?_) (fun t_other => ?_)
        · have t_other : idB x.other = true := t_other
          refine ⟨_, N1.cell 1 rfl rfl, ?_⟩
          refine ⟨_, N1.cell 1 rfl rfl, ?_⟩
          exact ⟨(!decide (x.other = x.who)), ⟨rfl, rfl, rfl, trivial⟩, by simp [refOk, k9, t_who, t_other], by unfold refY; simp only [k9, reduceIte, Int.reduceEq, or_true, true_or, or_false, or_self, false_or]; exact N1⟩
        · have t_other : idB x.other = false := t_other
          exact ⟨false, ⟨rfl, rfl, rfl, trivial⟩, by simp [refOk, k9, t_who, t_other], by unfold refY; simp only [k9, reduceIte, Int.reduceEq, or_true, true_or, or_false, or_self, false_or]; exact N1⟩
      · have t_who : idB x.who = false := t_who
        exact ⟨false, ⟨rfl, rfl, rfl, trivial⟩, by simp [refOk, k9, t_who], by unfold refY; simp only [k9, reduceIte, Int.reduceEq, or_true, true_or, or_false, or_self, false_or]; exact N1⟩
    have k9 : ¬ x.kind = 9 := k9
    refine brE_dec (fun k7 => ?_) (fun k7 => ?_)
    · have k7 : x.kind = 7 := k7
      refine ⟨_, M6.cell 1 rfl rfl, ?_⟩
      refine ⟨rfl, _, _, M6.get 0 rfl, Nat.le_of_ble_eq_true rfl, rfl, ?_⟩
      intro v0 s0
      have N0 := M6.put 0 rfl s0
      exact ⟨idB x.who, ⟨rfl, rfl, rfl, trivial⟩, by simp [refOk, k7], by unfold refY; simp only [k7, reduceIte, Int.reduceEq, or_true, true_or, or_false, or_self, false_or]; exact N0⟩
    have k7 : ¬ x.kind = 7 := k7
    refine brE_dec (fun k8 => ?_) (fun k8 => ?_)
    · have k8 : x.kind = 8 := k8
      refine ⟨fun k => k ≠ g8, ?_⟩
      refine ⟨_, M6.cell 1 rfl rfl, ?_⟩
      refine ⟨.int .i64 x.what, fun u hu => ⟨_, hu.cell hne (M6.cell 1 (i := 4) rfl rfl), rfl⟩, ?_⟩
      refine ⟨.int .i64 x.other, fun u hu => ⟨_, hu.cell hne (M6.cell 1 (i := 5) rfl rfl), rfl⟩, ?_⟩
      refine ⟨rfl, _, _, M6.get 0 rfl, Nat.le_of_ble_eq_true rfl, rfl, ?_⟩
      intro v0 s0
      have N0 := M6.put 0 rfl s0
      have kp0 : Keep (fun k => k ≠ g8) w6 v0 := (Keep.refl _ w6).put s0 (fun h => h rfl)
      refine ⟨kp0, ?_⟩
      refine ⟨rfl, _, _, N0.get 0 rfl, Nat.le_of_ble_eq_true rfl, rfl, ?_⟩
      intro v1 s1
      have N1 := N0.put 0 rfl s1
      have kp1 : Keep (fun k => k ≠ g8) w6 v1 := kp0.put s1 (fun h => h rfl)
      refine ⟨kp1, ?_⟩
      refine ⟨rfl, _, _, N1.get 0 rfl, Nat.le_of_ble_eq_true rfl, rfl, ?_⟩
      intro v2 s2
      have N2 := N1.put 0 rfl s2
      refine brE_mk (fun t_who => ?_) (fun t_who => ?_)
      · have t_who : idB x.who = true := t_who
        refine brE_mk (fun t_what => ?_) (fun t_what => ?_)
        · have t_what : idB x.what = true := t_what
          refine ⟨_, N2.cell 1 rfl rfl, ?_⟩
          refine (within_spec x.other 1 2 _).mono ?_
          rintro _ w8 ⟨rfl, rfl⟩
          exact ⟨decide (1 ≤ x.other ∧ x.other ≤ 2), ⟨rfl, rfl, rfl, trivial⟩, by simp [refOk, k8, t_who, t_what], by unfold refY; simp only [k8, reduceIte, Int.reduceEq, or_true, true_or, or_false, or_self, false_or]; exact N2⟩
        · have t_what : idB x.what = false := t_what
          exact ⟨false, ⟨rfl, rfl, rfl, trivial⟩, by simp [refOk, k8, t_who, t_what], by unfold refY; simp only [k8, reduceIte, Int.reduceEq, or_true, true_or, or_false, or_self, false_or]; exact N2⟩
      · have t_who : idB x.who = false := t_who
        exact ⟨false, ⟨rfl, rfl, rfl, trivial⟩, by simp [refOk, k8, t_who], by unfold refY; simp only [k8, reduceIte, Int.reduceEq, or_true, true_or, or_false, or_self, false_or]; exact N2⟩
    have k8 : ¬ x.kind = 8 := k8
    refine brE_dec (fun k10 => ?_) (fun k10 => ?_)
    · have k10 : x.kind = 10 := k10
      refine ⟨_, M6.cell 1 rfl rfl, ?_⟩
      refine ⟨rfl, _, _, M6.get 0 rfl, Nat.le_of_ble_eq_true rfl, rfl, ?_⟩
      intro v0 s0
      have N0 := M6.put 0 rfl s0
      refine brE_mk (fun t_who => ?_) (fun t_who => ?_)
      · have t_who : idB x.who = true := t_who
        refine ⟨_, N0.cell 1 rfl rfl, ?_⟩
        exact ⟨(decide (x.til = 0)), ⟨rfl, rfl, rfl, trivial⟩, by simp [refOk, k10, t_who], by unfold refY; simp only [k10, reduceIte, Int.reduceEq, or_true, true_or, or_false, or_self, false_or]; exact N0⟩
      · have t_who : idB x.who = false := t_who
        exact ⟨false, ⟨rfl, rfl, rfl, trivial⟩, by simp [refOk, k10, t_who], by unfold refY; simp only [k10, reduceIte, Int.reduceEq, or_true, true_or, or_false, or_self, false_or]; exact N0⟩
    have k10 : ¬ x.kind = 10 := k10
    refine brE_dec (fun k11 => ?_) (fun k11 => ?_)
    · have k11 : x.kind = 11 := k11
      refine ⟨_, M6.cell 1 rfl rfl, ?_⟩
      refine ⟨rfl, _, _, M6.get 0 rfl, Nat.le_of_ble_eq_true rfl, rfl, ?_⟩
      intro v0 s0
      have N0 := M6.put 0 rfl s0
      refine brE_mk (fun t_what => ?_) (fun t_what => ?_)
      · have t_what : idB x.what = true := t_what
        refine ⟨_, N0.cell 1 rfl rfl, ?_⟩
        refine ⟨_, N0.cell 1 rfl rfl, ?_⟩
        refine brE_ndec (fun c2 => ?_) (fun c2 => ?_)
        · have c2 : ¬ x.what = x.id := c2
          refine ⟨_, N0.cell 1 rfl rfl, ?_⟩
          refine brE_dec (fun c3 => ?_) (fun c3 => ?_)
          · have c3 : x.since = 0 := c3
            refine ⟨_, N0.cell 1 rfl rfl, ?_⟩
            exact ⟨(decide (x.til = 0)), ⟨rfl, rfl, rfl, trivial⟩, by simp [refOk, k11, t_what, c2, c3], by unfold refY; simp only [k11, reduceIte, Int.reduceEq, or_true, true_or, or_false, or_self, false_or]; exact N0⟩
          · have c3 : ¬ x.since = 0 := c3
            exact ⟨false, ⟨rfl, rfl, rfl, trivial⟩, by simp [refOk, k11, t_what, c2, c3], by unfold refY; simp only [k11, reduceIte, Int.reduceEq, or_true, true_or, or_false, or_self, false_or]; exact N0⟩
        · have c2 : x.what = x.id := c2
          exact ⟨false, ⟨rfl, rfl, rfl, trivial⟩, by simp [refOk, k11, t_what, c2], by unfold refY; simp only [k11, reduceIte, Int.reduceEq, or_true, true_or, or_false, or_self, false_or]; exact N0⟩
      · have t_what : idB x.what = false := t_what
        exact ⟨false, ⟨rfl, rfl, rfl, trivial⟩, by simp [refOk, k11, t_what], by unfold refY; simp only [k11, reduceIte, Int.reduceEq, or_true, true_or, or_false, or_self, false_or]; exact N0⟩
    have k11 : ¬ x.kind = 11 := k11
    exact ⟨false, ⟨rfl, rfl, rfl, trivial⟩, by simp [refOk, k1, k2, k3, k4, k5, k6, k9, k7, k8, k10, k11], by unfold refY; simp only [k1, k2, k3, k4, k5, k6, k9, k7, k8, k10, k11, or_self, if_false]; exact M6⟩
  rintro ok w7 ⟨hok, M7⟩
  refine Snd.go C_ok plans169 (by kernel_rfl) ?_
  have hfin : ∀ {w' : World}, ¬ (refOk x && decide (x = refY x)) = true → Ext w w' → Value.int .i64 1 = .int .i64 (formE x) ∧ Ext w w' := fun h e => by
    refine ⟨?_, e⟩
    by_cases hk : 1 ≤ x.kind ∧ x.kind ≤ 11
    · rw [form_ref (hhead hk), if_neg h]
    · rw [formE_head (headB_no fun hh => hk (headB_iff.1 hh).1)]
  refine brE_mk (fun b1 => ?_) (fun b1 => ?_)
  · have b1 : refOk x = false := by rw [← hok]; simpa using b1
    exact hfin (by rw [b1]; simp) M7.ext
  have b1 : refOk x = true := by rw [← hok]; simpa using b1
  refine ⟨x.cells, rfl, M7.rd 1 rfl, ?_⟩
  refine ⟨(refY x).cells, rfl, M7.rd 0 rfl, ?_⟩
  refine ⟨_, neqF _ _ x (refY x), ?_⟩
  refine brE_ndec (fun b2 => ?_) (fun b2 => ?_)
  · exact hfin (by rw [decide_eq_false b2]; simp) M7.ext
  have b2 : x = refY x := b2
  have hform := form_ref (hhead (ref_kind b1))
  rw [if_pos (by rw [b1, decide_eq_true b2]; rfl)] at hform
  clear b2 hfin
  refine ⟨Snd.go C_ok plans169 (by kernel_rfl) ?_⟩
  refine ⟨_, M7.cell 1 rfl rfl, ?_⟩
  refine brE_dec (fun b3 => ?_) (fun b3 => ?_)
  · have b3 : x.kind = 1 := b3
    refine ⟨_, M7.cell 1 rfl rfl, ?_⟩
    refine (refIsName_spec x.name _ hx.name).mono ?_
    rintro _ w8 ⟨rfl, rfl⟩
    refine brE_mk (fun b4 => ?_) (fun b4 => ?_)
    · have b4 : nameB x.name.data.toList = false := by simpa using b4
      exact ⟨by rw [hform, if_pos ⟨b3, b4⟩], M7.ext⟩
    · have b4 : nameB x.name.data.toList = true := by simpa using b4
      refine ⟨Snd.fin C_ok (plans := []) (by kernel_rfl) ?_⟩
      exact ⟨by rw [hform, if_neg (fun h => by rw [b4] at h; cases h.2)], M7.ext⟩
  · have b3 : ¬ x.kind = 1 := b3
    refine ⟨Snd.fin C_ok (plans := []) (by kernel_rfl) ?_⟩
    exact ⟨by rw [hform, if_neg (fun h => b3 h.1)], M7.ext⟩
end Go.Proofs.YtdpdjcopkehdjaaGreat
namespace Go.Proofs.YtdpdjcopkehdjaaGreat
open Go.Eng Go.RowKit
theorem insD_in {n : Int} : ∀ {l : List Int}, l.Pairwise (· < ·) → n ∈ l → insD n l = l
  | [], _, h => by cases h
  | x :: r, hp, h => by
    obtain ⟨h1, h2⟩ := List.pairwise_cons.1 hp
    unfold insD
    rcases List.mem_cons.1 h with rfl | h
    · rw [if_neg (Int.lt_irrefl _), if_pos rfl]
    · have := h1 n h
      rw [if_neg (by omega), if_neg (by omega), insD_in h2 h]
theorem insD_out {n : Int} : ∀ {l : List Int}, n ∉ l → (insD n l).length = l.length + 1
  | [], _ => rfl
  | x :: r, h => by
    unfold insD
    split
    · rfl
    · split
      · rename_i e; exact absurd (by rw [e]; simp) h
      · rw [List.length_cons, insD_out (fun e => h (by simp [e])), List.length_cons]
theorem statesN_snoc (l : List Fact) (x : Fact) : statesN (l ++ [x]) = statesN l + if x.kind = 1 ∧ namedIn l x.who = false then 1 else 0 := by
  unfold statesN
  rw [whos_snoc]
  by_cases hk : x.kind = 1
  · rw [if_pos hk, sortD_snoc, namedIn_eq]
    by_cases hm : x.who ∈ whos l
    · rw [insD_in (sortD_asc _) (mem_sortD.2 hm), if_neg (by simp [hm])]; rfl
    · rw [insD_out (fun e => hm (mem_sortD.1 e)), if_pos ⟨hk, decide_eq_false hm⟩]
  · rw [if_neg hk, List.append_nil, if_neg (fun e => hk e.1)]; rfl
theorem statesN_take {l : List Fact} {i : Nat} (hi : i < l.length) : statesN (l.take (i + 1)) = statesN (l.take i) + if l[i].kind = 1 ∧ namedIn (l.take i) l[i].who = false then 1 else 0 := by
  rw [List.take_succ_eq_append_getElem hi, statesN_snoc]
theorem statesN_le (l : List Fact) : statesN l ≤ l.length := by
  unfold statesN
  refine Nat.le_trans (sortD_length _) ?_
  unfold whos
  rw [List.length_map]
  exact List.length_filter_le _ _
set_option maxRecDepth 100000 in
theorem refstates_spec {w1 : World} {A : Option Addr} {l : List Fact} {c : Nat} (hr : Reads w1 A (fcells l)) (hl : l.length ≤ 2 ^ 20) (hc : l.length ≤ c) :
    CallsV C.P 172 #[.slice A l.length c] w1 fun v w' => v = .int .i64 (statesN l) ∧ w' = w1 := by
  refine callsV_of C_ok (args := [_]) (plans := plans172) Tryz.func172 rfl Tryz.ntmps172 (by kernel_rfl) (Nat.le_of_ble_eq_true rfl) ?_
  refine loopE C_ok (fun (i : Nat) => [(0, .slice A l.length c), (3, .int .i64 (statesN (l.take i))), (4, .int .i64 i)])
    (fun i w' => w' = w1 ∧ i ≤ l.length) (fun i => l.length - i) 0 ⟨rfl, rfl, rfl, trivial⟩ ⟨rfl, Nat.zero_le _⟩ ?_
  rintro i w2 ⟨rfl, hi⟩
  refine brE_dec (fun hlt => ?_) (fun hge => ?_)
  · have hlt : i < l.length := by have : (i : Int) < (l.length : Nat) := hlt; omega
    have next : IntKind.i64.wrap ((i : Int) + 1) = ((i + 1 : Nat) : Int) := fit ⟨by omega, by omega⟩
    have hlen : (l.take i).length = i := by rw [List.length_take]; omega
    have hsn := statesN_le (l.take i)
    have hst := statesN_take hlt
    obtain ⟨b, o, hA, hcl⟩ := Reads.fact hr hlt
    refine ⟨0, i, rfl, rfl, Nat.zero_le _, by omega, ?_⟩
    refine ⟨i, b, o, rfl, hlt, hA, ?_⟩
    refine ⟨.int .i64 l[i].who, hcl 3 _ rfl, ?_⟩
    have hn := refnamed_spec (cK := c - 0) (Reads.front (c := c) (i := i) hr) (by omega) l[i].who
    rw [hlen] at hn
    refine hn.mono ?_
    rintro _ w3 ⟨rfl, rfl⟩
    refine ⟨i, b, o, rfl, hlt, hA, ?_⟩
    refine ⟨.int .u8 l[i].kind, hcl 2 _ rfl, ?_⟩
    refine brE_dec (fun k1 => ?_) (fun k1 => ?_)
    · have k1 : l[i].kind = 1 := k1
      refine brE_mk (fun k2 => ?_) (fun k2 => ?_)
      · have k2 : namedIn (l.take i) l[i].who = false := by simpa using k2
        rw [if_pos ⟨k1, k2⟩] at hst
        refine ⟨((statesN (l.take i) + 1 : Nat) : Int), fit ⟨by omega, by omega⟩, ?_⟩
        refine ⟨_, next, ?_⟩
        exact ⟨i + 1, ⟨rfl, by show _ = some (Value.int .i64 (statesN (l.take (i + 1)))); rw [hst]; rfl, rfl, trivial⟩, ⟨rfl, hlt⟩, by omega⟩
      · have k2 : ¬ namedIn (l.take i) l[i].who = false := by simpa using k2
        rw [if_neg (fun e => k2 e.2)] at hst
        refine ⟨_, next, ?_⟩
        exact ⟨i + 1, ⟨rfl, by show _ = some (Value.int .i64 (statesN (l.take (i + 1)))); rw [hst]; rfl, rfl, trivial⟩, ⟨rfl, hlt⟩, by omega⟩
    · have k1 : ¬ l[i].kind = 1 := k1
      rw [if_neg (fun e => k1 e.1)] at hst
      refine ⟨_, next, ?_⟩
      exact ⟨i + 1, ⟨rfl, by show _ = some (Value.int .i64 (statesN (l.take (i + 1)))); rw [hst]; rfl, rfl, trivial⟩, ⟨rfl, hlt⟩, by omega⟩
  · have : i = l.length := by have : ¬ (i : Int) < (l.length : Nat) := hge; omega
    subst this
    exact ⟨by rw [List.take_length], rfl⟩
theorem last_fact {l : List Fact} (h : 0 < l.length) : l.getLast? = some (l[l.length - 1]'(by omega)) := List.getLast?_eq_getElem? ▸ List.getElem?_eq_getElem (by omega)
set_option maxRecDepth 100000 in
set_option maxHeartbeats 2000000 in
theorem refBehind_spec {w : World} {A : Option Addr} {l : List Fact} {c : Nat} (hr : Reads w A (fcells l)) (hl : l.length ≤ 2 ^ 20) (hc : l.length ≤ c) {x : Fact} (hx : x.Nums) :
    CallsV C.P 104 #[.slice A l.length c, x.val] w fun v w' => v = .int .i64 (behindE l x) ∧ Ext w w' := by
  refine callsV_ofS (args := [_, _]) Tryz.func104 rfl Tryz.ntmps104 C_ok (Nat.le_of_ble_eq_true rfl) ?_
  unfold behindE
  refine Snd.go C_ok plans104 (by kernel_rfl) ?_
  intro g1 w1 h1
  have M1 : Mem w w1 [(g1, .cells x.cells.toArray 55 (0, 0))] := (Mem.start w).alloc h1
  refine ⟨Snd.go C_ok plans104 (by kernel_rfl) ?_⟩
  refine ⟨x.cells, rfl, M1.rd 0 rfl, ?_⟩
  refine (refFormed_spec x hx w1).mono ?_
  rintro _ w2 ⟨rfl, e2⟩
  have M2 := M1.grow e2
  clear M1 h1
  refine ⟨Snd.go C_ok plans104 (by kernel_rfl) ?_⟩
  refine brE_ndec (fun a1 => ?_) (fun a1 => ?_)
  · have a1 : ¬ formE x = 0 := a1
    exact ⟨by rw [if_pos a1], M2.ext⟩
  have a1 : formE x = 0 := a1
  rw [if_neg (fun e => e a1)]
  refine ⟨Snd.go C_ok plans104 (by kernel_rfl) ?_⟩
  refine brE_dec (fun a2 => ?_) (fun a2 => ?_)
  · have a2 : 300 ≤ l.length := by have : (l.length : Int) ≥ 300 := a2; omega
    exact ⟨by rw [if_pos a2], M2.ext⟩
  have a2 : ¬ 300 ≤ l.length := by have : ¬ (l.length : Int) ≥ 300 := a2; omega
  rw [if_neg a2]
  have hrl := hr.ext M2.ext
  refine ⟨Snd.join C_ok plans104 (fun _ : Unit => [(0, .slice A l.length c), (3, .pointer (some ⟨g1, 0, none⟩))]) (fun _ w' => w' = w2 ∧ l.getLast?.any (fun y => decide (x.known < y.known)) = false) (by kernel_rfl) ?_ ?_⟩
  · refine brE_dec (fun a3 => ?_) (fun a3 => ?_)
    · have a3 : 0 < l.length := by have : (l.length : Int) > 0 := a3; omega
      refine ⟨_, M2.cell 0 rfl rfl, ?_⟩
      obtain ⟨b, o, hA, hcl⟩ := Reads.fact hrl (show l.length - 1 < l.length by omega)
      refine ⟨((l.length - 1 : Nat) : Int), by rw [fit ⟨by omega, by omega⟩]; omega, ?_⟩
      refine ⟨l.length - 1, b, o, rfl, by omega, hA, ?_⟩
      refine ⟨.int .i64 (l[l.length - 1]'(by omega)).known, hcl 1 _ rfl, ?_⟩
      refine brE_dec (fun a4 => ?_) (fun a4 => ?_)
      · have a4 : x.known < (l[l.length - 1]'(by omega)).known := a4
        exact ⟨by rw [if_pos (by rw [last_fact a3]; exact decide_eq_true a4)], M2.ext⟩
      · have a4 : ¬ x.known < (l[l.length - 1]'(by omega)).known := a4
        exact ⟨(), ⟨rfl, rfl, trivial⟩, rfl, by rw [last_fact a3]; exact decide_eq_false a4⟩
    · have a3 : l = [] := List.length_eq_zero_iff.1 (by have : ¬ (l.length : Int) > 0 := a3; omega)
      exact ⟨(), ⟨rfl, rfl, trivial⟩, rfl, by rw [a3]; rfl⟩
  rintro _ w2' ⟨rfl, a4⟩
  rw [if_neg (by rw [a4]; decide)]
  refine Snd.fin C_ok (plans := plans104) (by kernel_rfl) ?_
  refine ⟨_, M2.cell 0 rfl rfl, ?_⟩
  refine (numbered_spec hrl hl x.id).mono ?_
  rintro _ w3 ⟨rfl, rfl⟩
  refine brE_mk (fun a5 => ?_) (fun a5 => ?_)
  · exact ⟨by rw [if_pos a5], M2.ext⟩
  rw [if_neg (by rw [a5]; decide)]
  refine ⟨_, M2.cell 0 rfl rfl, ?_⟩
  refine (refnamed_spec hrl hl x.who).mono ?_
  rintro _ w3 ⟨rfl, rfl⟩
  refine ⟨_, M2.cell 0 rfl rfl, ?_⟩
  refine (refnamed_spec hrl hl x.what).mono ?_
  rintro _ w3 ⟨rfl, rfl⟩
  refine ⟨_, M2.cell 0 rfl rfl, ?_⟩
  refine brE_dec (fun k2 => ?K2) (fun k2 => ?N2)
  case' K2 =>
    have hk : x.kind = 2 ∨ x.kind = 3 ∨ x.kind = 5 ∨ x.kind = 8 := .inl k2
    refine brE_true (decide_eq_true k2) ?_
  case' N2 =>
    have k2 : ¬ x.kind = 2 := k2
    refine brE_dec (fun k3 => ?K3) (fun k3 => ?N3)
    case' K3 =>
      have hk : x.kind = 2 ∨ x.kind = 3 ∨ x.kind = 5 ∨ x.kind = 8 := .inr (.inl k3)
      refine brE_true (decide_eq_true k3) ?_
    case' N3 =>
      have k3 : ¬ x.kind = 3 := k3
      refine brE_dec (fun k5 => ?K5) (fun k5 => ?N5)
      case' K5 =>
        have hk : x.kind = 2 ∨ x.kind = 3 ∨ x.kind = 5 ∨ x.kind = 8 := .inr (.inr (.inl k5))
        refine brE_true (decide_eq_true k5) ?_
      case' N5 =>
        have k5 : ¬ x.kind = 5 := k5
        refine brE_dec (fun k8 => ?K8) (fun k8 => ?N8)
        case' K8 =>
          have hk : x.kind = 2 ∨ x.kind = 3 ∨ x.kind = 5 ∨ x.kind = 8 := .inr (.inr (.inr k8))
        case' N8 =>
          have k8 : ¬ x.kind = 8 := k8
          have hs0 : ¬ (x.kind = 2 ∨ x.kind = 3 ∨ x.kind = 5 ∨ x.kind = 8) := by omega
          refine brE_dec (fun k4 => ?_) (fun k4 => ?_)
          · have k4 : x.kind = 4 := k4
            have hs : (speaks x).all (namedIn l) = (namedIn l x.who && namedIn l x.what) := by unfold speaks; rw [if_neg hs0, if_pos k4]; simp
            rw [hs]
            refine brE_mk (fun b1 => ?_) (fun b1 => ?_)
            · have b1 : namedIn l x.who = false := by simpa using b1
              exact ⟨by rw [if_pos (by rw [b1]; rfl)], M2.ext⟩
            have b1 : namedIn l x.who = true := by simpa using b1
            refine brE_mk (fun b2 => ?_) (fun b2 => ?_)
            · have b2 : namedIn l x.what = false := by simpa using b2
              exact ⟨by rw [if_pos (by rw [b2, Bool.and_false])], M2.ext⟩
            · have b2 : namedIn l x.what = true := by simpa using b2
              exact ⟨by rw [if_neg (by rw [b1, b2]; decide), if_neg (fun e => by omega), if_neg (fun e => by omega)], M2.ext⟩
          have k4 : ¬ x.kind = 4 := k4
          refine brE_dec (fun k7 => ?_) (fun k7 => ?_)
          · have k7 : x.kind = 7 := k7
            have hs : (speaks x).all (namedIn l) = namedIn l x.who := by unfold speaks; rw [if_neg hs0, if_neg k4, if_pos k7]; simp
            rw [hs]
            refine brE_mk (fun b1 => ?_) (fun b1 => ?_)
            · have b1 : namedIn l x.who = false := by simpa using b1
              exact ⟨by rw [if_pos b1], M2.ext⟩
            · have b1 : namedIn l x.who = true := by simpa using b1
              exact ⟨by rw [if_neg (by rw [b1]; decide), if_neg (fun e => by omega), if_neg (fun e => by omega)], M2.ext⟩
          have k7 : ¬ x.kind = 7 := k7
          have hs : (speaks x).all (namedIn l) = true := by unfold speaks; rw [if_neg hs0, if_neg k4, if_neg k7]; rfl
          rw [if_neg (by rw [hs]; decide)]
          refine brE_dec (fun k11 => ?_) (fun k11 => ?_)
          · have k11 : x.kind = 11 := k11
            refine ⟨_, M2.cell 0 rfl rfl, ?_⟩
            refine (numbered_spec hrl hl x.what).mono ?_
            rintro _ w3 ⟨rfl, rfl⟩
            refine brE_mk (fun b1 => ?_) (fun b1 => ?_)
            · have b1 : idIn l x.what = false := by simpa using b1
              exact ⟨by rw [if_pos ⟨k11, b1⟩], M2.ext⟩
            · have b1 : ¬ idIn l x.what = false := by simpa using b1
              exact ⟨by rw [if_neg (fun e => b1 e.2), if_neg (fun e => by omega)], M2.ext⟩
          have k11 : ¬ x.kind = 11 := k11
          rw [if_neg (fun e => k11 e.1)]
          refine brE_dec (fun k1 => ?_) (fun k1 => ?_)
          · have k1 : x.kind = 1 := k1
            refine (refstates_spec hrl hl hc).mono ?_
            rintro _ w3 ⟨rfl, rfl⟩
            refine brE_mk (fun b1 => ?_) (fun b1 => ?_)
            · have b1 : namedIn l x.who = false := by simpa using b1
              refine brE_dec (fun b2 => ?_) (fun b2 => ?_)
              · have b2 : 200 ≤ statesN l := by have : (statesN l : Int) ≥ 200 := b2; omega
                exact ⟨by rw [if_pos ⟨k1, b1, b2⟩], M2.ext⟩
              · have b2 : ¬ 200 ≤ statesN l := by have : ¬ (statesN l : Int) ≥ 200 := b2; omega
                exact ⟨by rw [if_neg (fun e => b2 e.2.2)], M2.ext⟩
            · have b1 : ¬ namedIn l x.who = false := by simpa using b1
              exact ⟨by rw [if_neg (fun e => b1 e.2.1)], M2.ext⟩
          · have k1 : ¬ x.kind = 1 := k1
            exact ⟨by rw [if_neg (fun e => k1 e.1)], M2.ext⟩
  all_goals
    have hs : (speaks x).all (namedIn l) = namedIn l x.what := by unfold speaks; rw [if_pos hk]; simp
    rw [hs]
    refine brE_mk (fun b1 => ?_) (fun b1 => ?_)
    · have b1 : namedIn l x.what = false := by simpa using b1
      exact ⟨by rw [if_pos b1], M2.ext⟩
    · have b1 : namedIn l x.what = true := by simpa using b1
      exact ⟨by rw [if_neg (by rw [b1]; decide), if_neg (fun e => by omega), if_neg (fun e => by omega)], M2.ext⟩
set_option maxRecDepth 100000 in
theorem refCheck_spec {w : World} {A : Option Addr} {l : List Fact} {c : Nat} (h : HF w A l c) (hl : l.length ≤ 2 ^ 20) :
    CallsV C.P 48 #[.slice A l.length c] w fun v w' => v = .tuple #[.int .i64 ((chkF l).1 : Nat), .int .i64 (chkF l).2] ∧ Ext w w' := by
  have hcap := h.len
  refine callsV_of C_ok (args := [_]) (plans := plans48) Tryz.func48 rfl Tryz.ntmps48 (by kernel_rfl) (Nat.le_of_ble_eq_true rfl) ?_
  refine loopE C_ok (fun (i : Nat) => [(0, .slice A l.length c), (4, .int .i64 i)])
    (fun i w' => i ≤ l.length ∧ Ext w w' ∧ chkF l = chkG (l.take i) (l.drop i)) (fun i => l.length - i) 0 ⟨rfl, rfl, trivial⟩ ⟨Nat.zero_le _, Ext.refl _, rfl⟩ ?_
  rintro i w1 ⟨hi, e1, hch⟩
  refine brE_dec (fun hlt => ?_) (fun hge => ?_)
  · have hlt : i < l.length := by have : (i : Int) < (l.length : Nat) := hlt; omega
    have next : IntKind.i64.wrap ((i : Int) + 1) = ((i + 1 : Nat) : Int) := fit ⟨by omega, by omega⟩
    have hlen : (l.take i).length = i := by rw [List.length_take]; omega
    rw [chkG_at hlt] at hch
    obtain ⟨b, o, hA, hcl⟩ := Reads.fact (h.reads.ext e1) hlt
    refine ⟨0, i, rfl, rfl, Nat.zero_le _, by omega, ?_⟩
    refine ⟨i, b, o, rfl, hlt, hA, ?_⟩
    refine ⟨l[i].cells, rfl, hcl, ?_⟩
    have hn := refBehind_spec (c := c - 0) (Reads.front (c := c) (i := i) (h.reads.ext e1)) (by omega) (by omega) (h.nums _ (List.getElem_mem hlt))
    rw [hlen] at hn
    refine hn.mono ?_
    rintro _ w2 ⟨rfl, e2⟩
    refine brE_ndec (fun a1 => ?_) (fun a1 => ?_)
    · have a1 : ¬ behindE (l.take i) l[i] = 0 := a1
      rw [if_pos a1] at hch
      exact ⟨by rw [hch], e1.trans e2⟩
    · have a1 : behindE (l.take i) l[i] = 0 := a1
      rw [if_neg (fun e => e a1)] at hch
      refine ⟨_, next, ?_⟩
      exact ⟨i + 1, ⟨rfl, rfl, trivial⟩, ⟨hlt, e1.trans e2, hch⟩, by omega⟩
  · have : i = l.length := by have : ¬ (i : Int) < (l.length : Nat) := hge; omega
    subst this
    rw [List.drop_length] at hch
    exact ⟨by rw [hch]; rfl, e1⟩
end Go.Proofs.YtdpdjcopkehdjaaGreat
namespace Go.Proofs.YtdpdjcopkehdjaaGreat.Rk
open Go.Eng Go.RowKit
def firstE (e0 e1 e2 e3 : Int) : Int := if e0 ≠ 0 then e0 else if e1 ≠ 0 then e1 else if e2 ≠ 0 then e2 else e3
theorem first_spec {w : World} {gF f0 f1 f2 f3 : Nat} {c0 c1 c2 c3 : Array Value} {e0 e1 e2 e3 : Int} (hF : w.heap[gF]? = some (.cells #[.func (.func f0) #[] c0, .func (.func f1) #[] c1, .func (.func f2) #[] c2, .func (.func f3) #[] c3] 142 (0, 0)))
    (g0 : C.can f0 = true) (g1 : C.can f1 = true) (g2 : C.can f2 = true) (g3 : C.can f3 = true)
    (k0 : ∀ w', Ext w w' → CallsV C.P f0 (#[] ++ ([] : List Value).toArray ++ c0) w' fun v w'' => v = .int .i64 e0 ∧ Ext w' w'')
    (k1 : ∀ w', Ext w w' → CallsV C.P f1 (#[] ++ ([] : List Value).toArray ++ c1) w' fun v w'' => v = .int .i64 e1 ∧ Ext w' w'')
    (k2 : ∀ w', Ext w w' → CallsV C.P f2 (#[] ++ ([] : List Value).toArray ++ c2) w' fun v w'' => v = .int .i64 e2 ∧ Ext w' w'')
    (k3 : ∀ w', Ext w w' → CallsV C.P f3 (#[] ++ ([] : List Value).toArray ++ c3) w' fun v w'' => v = .int .i64 e3 ∧ Ext w' w'') :
    CallsV C.P 73 #[.slice (some ⟨gF, 0, none⟩) 4 4] w fun v w' => v = .int .i64 (firstE e0 e1 e2 e3) ∧ Ext w w' := by
  refine callsV_of C_ok (args := [_]) (plans := []) Tryz.func73 rfl Tryz.ntmps73 (by kernel_rfl) (Nat.le_of_ble_eq_true rfl) ?_
  refine loopE C_ok (fun (i : Nat) => [(6, .slice (some ⟨gF, 0, none⟩) 4 4), (7, .int .i64 4), (8, .int .i64 (i : Nat))])
    (fun i w' => i ≤ 4 ∧ Ext w w' ∧ (0 < i → e0 = 0) ∧ (1 < i → e1 = 0) ∧ (2 < i → e2 = 0) ∧ (3 < i → e3 = 0)) (fun i => 4 - i) 0 ⟨rfl, rfl, rfl, trivial⟩
    ⟨Nat.zero_le _, Ext.refl _, (fun h => absurd h (by omega)), (fun h => absurd h (by omega)), (fun h => absurd h (by omega)), (fun h => absurd h (by omega))⟩ ?_
  rintro i w1 ⟨hi, e, z0, z1, z2, z3⟩
  refine brE_dec (fun hlt => ?_) (fun hge => ?_)
  · have hlt : i < 4 := by have : (i : Int) < 4 := hlt; omega
    have next : IntKind.i64.wrap ((i : Int) + 1) = ((i + 1 : Nat) : Int) := fit ⟨by omega, by omega⟩
    refine ⟨i, gF, 0, rfl, hlt, rfl, ?_⟩
    rcases (show i = 0 ∨ i = 1 ∨ i = 2 ∨ i = 3 by omega) with rfl | rfl | rfl | rfl
    · refine ⟨_, cell_of_block (i := 0) (e.heap hF) rfl, ?_⟩
      refine brE_true g0 ?_
      refine (k0 w1 e).mono ?_
      rintro v w2 ⟨rfl, e2'⟩
      refine brE_ndec (fun b => ?_) (fun b => ?_)
      · have b : e0 ≠ 0 := b
        exact ⟨congrArg _ (by unfold firstE; rw [if_pos b]), e.trans e2'⟩
      · have b : e0 = 0 := b
        refine ⟨_, next, ?_⟩
        exact ⟨1, ⟨rfl, rfl, rfl, trivial⟩, ⟨by omega, e.trans e2', fun _ => b, (fun h => absurd h (by omega)), (fun h => absurd h (by omega)), (fun h => absurd h (by omega))⟩, by decide⟩
    · refine ⟨_, cell_of_block (i := 1) (e.heap hF) rfl, ?_⟩
      refine brE_true g1 ?_
      refine (k1 w1 e).mono ?_
      rintro v w2 ⟨rfl, e2'⟩
      have q0 := z0 (by omega)
      refine brE_ndec (fun b => ?_) (fun b => ?_)
      · have b : e1 ≠ 0 := b
        exact ⟨congrArg _ (by unfold firstE; rw [if_neg (fun h => h q0), if_pos b]), e.trans e2'⟩
      · have b : e1 = 0 := b
        refine ⟨_, next, ?_⟩
        exact ⟨2, ⟨rfl, rfl, rfl, trivial⟩, ⟨by omega, e.trans e2', fun _ => q0, fun _ => b, (fun h => absurd h (by omega)), (fun h => absurd h (by omega))⟩, by decide⟩
    · refine ⟨_, cell_of_block (i := 2) (e.heap hF) rfl, ?_⟩
      refine brE_true g2 ?_
      refine (k2 w1 e).mono ?_
      rintro v w2 ⟨rfl, e2'⟩
      have q0 := z0 (by omega)
      have q1 := z1 (by omega)
      refine brE_ndec (fun b => ?_) (fun b => ?_)
      · have b : e2 ≠ 0 := b
        exact ⟨congrArg _ (by unfold firstE; rw [if_neg (fun h => h q0), if_neg (fun h => h q1), if_pos b]), e.trans e2'⟩
      · have b : e2 = 0 := b
        refine ⟨_, next, ?_⟩
        exact ⟨3, ⟨rfl, rfl, rfl, trivial⟩, ⟨by omega, e.trans e2', fun _ => q0, fun _ => q1, fun _ => b, (fun h => absurd h (by omega))⟩, by decide⟩
    · refine ⟨_, cell_of_block (i := 3) (e.heap hF) rfl, ?_⟩
      refine brE_true g3 ?_
      refine (k3 w1 e).mono ?_
      rintro v w2 ⟨rfl, e2'⟩
      have q0 := z0 (by omega)
      have q1 := z1 (by omega)
      have q2 := z2 (by omega)
      refine brE_ndec (fun b => ?_) (fun b => ?_)
      · have b : e3 ≠ 0 := b
        exact ⟨congrArg _ (by unfold firstE; rw [if_neg (fun h => h q0), if_neg (fun h => h q1), if_neg (fun h => h q2)]), e.trans e2'⟩
      · have b : e3 = 0 := b
        refine ⟨_, next, ?_⟩
        exact ⟨4, ⟨rfl, rfl, rfl, trivial⟩, ⟨by omega, e.trans e2', fun _ => q0, fun _ => q1, fun _ => q2, fun _ => b⟩, by decide⟩
  · have hi4 : i = 4 := by have : ¬ (i : Int) < 4 := hge; omega
    have q0 := z0 (by omega)
    have q1 := z1 (by omega)
    have q2 := z2 (by omega)
    have q3 := z3 (by omega)
    exact ⟨congrArg _ (by unfold firstE; rw [if_neg (fun h => h q0), if_neg (fun h => h q1), if_neg (fun h => h q2), q3]), e⟩
def chkR (f : List Fact) (re : Int) (s : Scn) (gs : List (Int × Int)) : Int := firstE (chkF f).2 re (schk s) (gchk gs)
theorem check_spec {w : World} {A B : Option Addr} {f : List Fact} {c d : Nat} {gs : List (Int × Int)} {p : Option Addr} {re : Int} (hf : HF w A f c) (hl : f.length ≤ 2 ^ 20) (s : Scn) (hr : Reads w B (prCells gs))
    (hR : ∀ w' g5, Ext w w' → w'.heap[g5]? = some (.cells #[.pointer p] 104 (0, 0)) → CallsV C.P 75 (#[] ++ ([] : List Value).toArray ++ #[.pointer (some ⟨g5, 0, none⟩)]) w' fun v w'' => v = .int .i64 re ∧ Ext w' w'') :
    CallsV C.P 39 #[.slice A f.length c, .pointer p, s.val, .slice B gs.length d] w fun v w' => v = .int .i64 (chkR f re s gs) ∧ Ext w w' := by
  refine callsV_of C_ok (args := [_, _, _, _]) (plans := []) Tryz.func39 rfl Tryz.ntmps39 (by kernel_rfl) (Nat.le_of_ble_eq_true rfl) ?_
  intro g4 w1 h1
  have M1 : Mem w w1 [(g4, .cells #[.slice A f.length c] 22 (0, 0))] := (Mem.start w).alloc h1
  intro g5 w2 h2
  have M2 : Mem w w2 [(g5, .cells #[.pointer p] 104 (0, 0)), (g4, .cells #[.slice A f.length c] 22 (0, 0))] := M1.alloc h2
  intro g6 w3 h3
  have M3 : Mem w w3 [(g6, .cells s.cells.toArray 24 (0, 0)), (g5, .cells #[.pointer p] 104 (0, 0)), (g4, .cells #[.slice A f.length c] 22 (0, 0))] := M2.alloc h3
  intro g7 w4 h4
  have M4 : Mem w w4 [(g7, .cells #[.slice B gs.length d] 25 (0, 0)), (g6, .cells s.cells.toArray 24 (0, 0)), (g5, .cells #[.pointer p] 104 (0, 0)), (g4, .cells #[.slice A f.length c] 22 (0, 0))] := M3.alloc h4
  refine ⟨[], [.pointer (some ⟨g4, 0, none⟩)], rfl, rfl, ?_⟩
  refine ⟨[], [.pointer (some ⟨g5, 0, none⟩)], rfl, rfl, ?_⟩
  refine ⟨[], [.pointer (some ⟨g6, 0, none⟩)], rfl, rfl, ?_⟩
  refine ⟨[], [.pointer (some ⟨g7, 0, none⟩)], rfl, rfl, ?_⟩
  intro gF w5 h5
  have M5 := M4.alloc h5
  have hF := h5.here
  refine (first_spec (e0 := (chkF f).2) (e1 := re) (e2 := schk s) (e3 := gchk gs) hF rfl rfl rfl rfl (fun w' e => ?_) (fun w' e => ?_) (fun w' e => ?_) (fun w' e => ?_)).mono ?_
  · have M := M5.grow e
    refine callsV_of C_ok (args := [_]) (plans := []) Tryz.func74 rfl Tryz.ntmps74 (by kernel_rfl) (Nat.le_of_ble_eq_true rfl) ?_
    refine ⟨_, M.cell 4 rfl rfl, ?_⟩
    refine (Go.Proofs.YtdpdjcopkehdjaaGreat.Check_spec (hf.ext M.ext) hl).mono ?_
    rintro v w6 ⟨rfl, e6⟩
    exact ⟨rfl, e6⟩
  · exact hR w' g5 (M5.grow e).ext ((M5.grow e).get 3 rfl)
  · have M := M5.grow e
    refine callsV_of C_ok (args := [_]) (plans := []) Tryz.func77 rfl Tryz.ntmps77 (by kernel_rfl) (Nat.le_of_ble_eq_true rfl) ?_
    refine ⟨s.cells, rfl, M.rd 2 rfl, ?_⟩
    exact (CheckScene_spec s w').mono fun v w'' h => h
  · have M := M5.grow e
    refine callsV_of C_ok (args := [_]) (plans := []) Tryz.func79 rfl Tryz.ntmps79 (by kernel_rfl) (Nat.le_of_ble_eq_true rfl) ?_
    refine ⟨_, M.cell 1 rfl rfl, ?_⟩
    exact (CheckGuests_spec (hr.ext M.ext)).mono fun v w'' h => h
  · rintro v w6 ⟨rfl, e6⟩
    exact ⟨rfl, M5.ext.trans e6⟩
theorem underRp : Tryz.prog.underlying 104 = some (.pointer (Tryz.prog.pointee 104)) := by kernel_rfl
theorem eqNilR (x y : Operand) (p : Option Addr) : EqIs C.P .eql 104 x y (.pointer p) (.pointer none) p.isNone := by
  intro w
  have hu : C.P.underlying 104 = some (.pointer (C.P.pointee 104)) := underRp
  have h1 : (eqGuard .eql 104 x y (.pointer p) (.pointer none)).run C.P w = .ok () w := by simp [eqGuard]
  rw [Sem.run_bind, h1]
  simp only [Result.andThen_ok]
  exact run_eql_pointer_nil _ _ _ hu
theorem common_spec {w : World} {A B : Option Addr} {f : List Fact} {c d : Nat} {gs : List (Int × Int)} (hf : HF w A f c) (hl : f.length ≤ 2 ^ 20) (s : Scn) (hr : Reads w B (prCells gs)) :
    CallsV C.P 43 #[.slice A f.length c, s.val, .slice B gs.length d] w fun v w' => v = .int .i64 (chkR f 0 s gs) ∧ Ext w w' := by
  refine callsV_of C_ok (args := [_, _, _]) (plans := []) Tryz.func43 rfl Tryz.ntmps43 (by kernel_rfl) (Nat.le_of_ble_eq_true rfl) ?_
  intro g4 w1 h1
  have M1 : Mem w w1 [(g4, .cells s.cells.toArray 24 (0, 0))] := (Mem.start w).alloc h1
  have hX : chkR f 0 s gs = if (chkF f).2 ≠ 0 then (chkF f).2 else if schk s ≠ 0 then schk s else gchk gs := by
    unfold chkR firstE
    rw [if_neg (show ¬ (0 : Int) ≠ 0 from fun h => h rfl)]
  refine (Go.Proofs.YtdpdjcopkehdjaaGreat.refCheck_spec (hf.ext M1.ext) hl).mono ?_
  rintro v w2 ⟨rfl, e2⟩
  have M2 := M1.grow e2
  refine brE_ndec (fun b => ?_) (fun b => ?_)
  · have b : (chkF f).2 ≠ 0 := b
    exact ⟨congrArg _ (by rw [hX, if_pos b]), M2.ext⟩
  have b : (chkF f).2 = 0 := b
  refine ⟨s.cells, rfl, M2.rd 0 rfl, ?_⟩
  refine (refScene_spec s w2).mono ?_
  rintro v w3 ⟨rfl, e3⟩
  have M3 := M2.grow e3
  refine brE_ndec (fun b2 => ?_) (fun b2 => ?_)
  · have b2 : schk s ≠ 0 := b2
    exact ⟨congrArg _ (by rw [hX, if_neg (fun h => h b), if_pos b2]), M3.ext⟩
  have b2 : schk s = 0 := b2
  refine (refGuests_spec (hr.ext M3.ext)).mono ?_
  rintro v w4 ⟨rfl, e4⟩
  exact ⟨congrArg _ (by rw [hX, if_neg (fun h => h b), if_neg (fun h => h b2)]), M3.ext.trans e4⟩
def profsOf (f : List Fact) (s : Scn) (gs : List (Int × Int)) : List Prof := gs.map (profOf f s)
theorem prRd {w : World} {B : Option Addr} {gs : List (Int × Int)} (h : Reads w B (prCells gs)) {i : Nat} (hi : i < gs.length) : ∃ b o, B = some ⟨b, o, none⟩ ∧ Rd w b (o + i * 2) (guestCells gs[i]) :=
  Reads.elem (enc := fun p : Int × Int => guestCells p) (k := 2) (fun _ => rfl) (by omega) h hi
set_option maxRecDepth 100000 in
theorem profiles_spec {w : World} {A B : Option Addr} {f : List Fact} {c d : Nat} {gs : List (Int × Int)} (hf : HF w A f c) (hl : f.length ≤ 2 ^ 20) (s : Scn) (hr : Reads w B (prCells gs)) (hg : ∀ g ∈ gs, In64 g.1) (hgl : gs.length ≤ 2 ^ 20) :
    CallsV C.P 40 #[.slice A f.length c, s.val, .slice B gs.length d] w fun v w' => NewL Prof.cells 38 7 w.heap.size w' v (profsOf f s gs) ∧ Ext w w' := by
  refine callsV_of C_ok (args := [_, _, _]) (plans := []) Tryz.func40 rfl Tryz.ntmps40 (by kernel_rfl) (Nat.le_of_ble_eq_true rfl) ?_
  intro g4 w1 h1
  have M1 : Mem w w1 [(g4, .cells s.cells.toArray 24 (0, 0))] := (Mem.start w).alloc h1
  refine loopE C_ok (fun (p : Nat × Value) => [(0, .slice A f.length c), (4, .pointer (some ⟨g4, 0, none⟩)), (7, p.2), (10, .slice B gs.length d), (11, .int .i64 gs.length), (12, .int .i64 (p.1 : Nat))])
    (fun p w' => p.1 ≤ gs.length ∧ NewL Prof.cells 38 7 w1.heap.size w' p.2 (profsOf f s (gs.take p.1)) ∧ Ext w1 w') (fun p => gs.length - p.1) (0, .slice none 0 0) ⟨rfl, rfl, rfl, rfl, rfl, rfl, trivial⟩
    ⟨Nat.zero_le _, newL_nil, Ext.refl _⟩ ?_
  rintro ⟨i, v⟩ w2 ⟨hi', ho', e2⟩
  have hi : i ≤ gs.length := hi'
  have ho : NewL Prof.cells 38 7 w1.heap.size w2 v (profsOf f s (gs.take i)) := ho'
  clear hi' ho'
  have hlen : (profsOf f s (gs.take i)).length ≤ i := by unfold profsOf; rw [List.length_map, List.length_take]; omega
  refine brE_dec (fun hlt => ?_) (fun hge => ?_)
  · have hlti : i < gs.length := by have : (i : Int) < (gs.length : Nat) := hlt; omega
    have next : IntKind.i64.wrap ((i : Int) + 1) = ((i + 1 : Nat) : Int) := fit ⟨by omega, by omega⟩
    obtain ⟨g, hge⟩ : ∃ g, g = gs[i] := ⟨_, rfl⟩
    have hs : profsOf f s (gs.take (i + 1)) = profsOf f s (gs.take i) ++ [profOf f s g] := by unfold profsOf; rw [List.take_succ_eq_append_getElem hlti, List.map_append, ← hge]; rfl
    have hg1 : In64 g.1 := by rw [hge]; exact hg _ (List.getElem_mem hlti)
    have M2 := M1.grow e2
    obtain ⟨b, o, hB, hc⟩ := prRd (hr.ext M2.ext) hlti
    rw [← hge] at hc
    refine ⟨i, b, o, rfl, hlti, hB, ?_⟩
    refine ⟨guestCells g, rfl, hc, ?_⟩
    intro g9 w3 h3
    refine ⟨rfl, _, _, h3.here, Nat.le_of_ble_eq_true rfl, rfl, ?_⟩
    intro w4 h4
    have e24 : Ext w2 w4 := h4.ext_of h3.ext (by rw [h3.new]; exact Nat.le_refl _)
    have M4 := M2.grow e24
    have h4 : Put w3 g9 (.cells (guestCells g).toArray 44 (0, 0)) w4 := h4
    refine ⟨s.cells, rfl, M4.rd 0 rfl, ?_⟩
    refine ⟨guestCells g, rfl, Rd.of_block h4.here, ?_⟩
    refine (profile_spec (hf.ext M4.ext) hl s hg1).mono ?_
    rintro v' w5 ⟨rfl, e5⟩
    intro g6 w6 h6
    have e26 := (e24.trans e5).trans h6.ext
    have ho6 := ho.ext e26
    refine ⟨rfl, rfl, rfl, w1.heap.size, _, _, (profOf f s g).cells, ho6, (e2.trans e26).size, Nat.le_of_ble_eq_true rfl, rfl, rfl, .inr ⟨g6, 0, rfl, Rd.of_block h6.here⟩, rfl, rfl, by omega, by simp only [maxLen]; omega, ?_⟩
    intro v7 w7 ho7 hg7 hpl
    refine ⟨_, next, ?_⟩
    refine ⟨(i + 1, v7), ⟨rfl, rfl, rfl, rfl, rfl, rfl, trivial⟩, ⟨hlti, ?_, app_ext (e2.trans e26) ho6 hg7⟩, by show gs.length - (i + 1) < gs.length - i; omega⟩
    show NewL _ _ _ _ _ _ (profsOf f s (gs.take (i + 1)))
    rw [hs]
    unfold NewL
    rw [List.length_append, List.flatMap_append]
    simpa using ho7
  · have hie : i = gs.length := by have : ¬ (i : Int) < (gs.length : Nat) := hge; omega
    rw [hie, List.take_length] at ho
    exact ⟨ho.base M1.ext.size, M1.ext.trans e2⟩
def profsR (f : List Fact) (s : Scn) (gs : List (Int × Int)) : List Prof := if chkR f 0 s gs = 0 then profsOf f s gs else []
theorem gchk_len {gs : List (Int × Int)} (h : gchk gs = 0) : gs.length ≤ 24 := by
  unfold gchk at h
  split at h
  · cases h
  · omega
theorem chkR_zero {f : List Fact} {re : Int} {s : Scn} {gs : List (Int × Int)} (h : chkR f re s gs = 0) : (chkF f).2 = 0 ∧ re = 0 ∧ schk s = 0 ∧ gchk gs = 0 := by
  unfold chkR firstE at h
  by_cases h0 : (chkF f).2 = 0
  · rw [if_neg (fun e => e h0)] at h
    by_cases h1 : re = 0
    · rw [if_neg (fun e => e h1)] at h
      by_cases h2 : schk s = 0
      · rw [if_neg (fun e => e h2)] at h
        exact ⟨h0, h1, h2, h⟩
      · rw [if_pos h2] at h; exact absurd h h2
    · rw [if_pos h1] at h; exact absurd h h1
  · rw [if_pos h0] at h; exact absurd h h0
end Go.Proofs.YtdpdjcopkehdjaaGreat.Rk
namespace Go.Proofs.YtdpdjcopkehdjaaGreat.Rk
open Go.Eng Go.RowKit
set_option maxRecDepth 100000 in
theorem refProfiles_spec {w : World} {A B : Option Addr} {f : List Fact} {c d : Nat} {gs : List (Int × Int)} (hf : HF w A f c) (hl : f.length ≤ 2 ^ 20) (s : Scn) (hr : Reads w B (prCells gs)) (hg : ∀ g ∈ gs, In64 g.1) :
    CallsV C.P 14 #[.slice A f.length c, s.val, .slice B gs.length d] w fun v w' => (∃ v', v = .tuple #[v', .int .i64 (chkR f 0 s gs)] ∧ NewL Prof.cells 38 7 w.heap.size w' v' (profsR f s gs)) ∧ Ext w w' := by
  refine callsV_of C_ok (args := [_, _, _]) (plans := plans14) Tryz.func14 rfl Tryz.ntmps14 (by kernel_rfl) (Nat.le_of_ble_eq_true rfl) ?_
  intro g4 w1 h1
  have M1 : Mem w w1 [(g4, .cells s.cells.toArray 24 (0, 0))] := (Mem.start w).alloc h1
  refine ⟨s.cells, rfl, M1.rd 0 rfl, ?_⟩
  refine (common_spec (hf.ext M1.ext) hl s (hr.ext M1.ext)).mono ?_
  rintro v w2 ⟨rfl, e2⟩
  have M2 := M1.grow e2
  refine brE_ndec (fun b => ?_) (fun b => ?_)
  · have b : chkR f 0 s gs ≠ 0 := b
    refine ⟨⟨_, rfl, ?_⟩, M2.ext⟩
    have : profsR f s gs = [] := if_neg b
    rw [this]; exact newL_nil
  have b : chkR f 0 s gs = 0 := b
  have hgl := gchk_len (chkR_zero b).2.2.2
  refine loopE C_ok (fun (p : Nat × Value) => [(0, .slice A f.length c), (2, .slice B gs.length d), (4, .pointer (some ⟨g4, 0, none⟩)), (9, p.2), (10, .int .i64 (p.1 : Nat))])
    (fun p w' => p.1 ≤ gs.length ∧ NewL Prof.cells 38 7 w2.heap.size w' p.2 (profsOf f s (gs.take p.1)) ∧ Ext w2 w') (fun p => gs.length - p.1) (0, .slice none 0 0) ⟨rfl, rfl, rfl, rfl, rfl, trivial⟩
    ⟨Nat.zero_le _, newL_nil, Ext.refl _⟩ ?_
  rintro ⟨i, v⟩ w3 ⟨hi', ho', e3⟩
  have hi : i ≤ gs.length := hi'
  have ho : NewL Prof.cells 38 7 w2.heap.size w3 v (profsOf f s (gs.take i)) := ho'
  clear hi' ho'
  have hlen : (profsOf f s (gs.take i)).length ≤ i := by unfold profsOf; rw [List.length_map, List.length_take]; omega
  refine brE_dec (fun hlt => ?_) (fun hge => ?_)
  · have hlti : i < gs.length := by have : (i : Int) < (gs.length : Nat) := hlt; omega
    have next : IntKind.i64.wrap ((i : Int) + 1) = ((i + 1 : Nat) : Int) := fit ⟨by omega, by omega⟩
    obtain ⟨g, hge⟩ : ∃ g, g = gs[i] := ⟨_, rfl⟩
    have hs : profsOf f s (gs.take (i + 1)) = profsOf f s (gs.take i) ++ [profOf f s g] := by unfold profsOf; rw [List.take_succ_eq_append_getElem hlti, List.map_append, ← hge]; rfl
    have hg1 : In64 g.1 := by rw [hge]; exact hg _ (List.getElem_mem hlti)
    have M3 := M2.grow e3
    obtain ⟨b, o, hB, hc⟩ := prRd (hr.ext M3.ext) hlti
    rw [← hge] at hc
    refine ⟨s.cells, rfl, M3.rd 0 rfl, ?_⟩
    refine ⟨i, b, o, rfl, hlti, hB, ?_⟩
    refine ⟨guestCells g, rfl, hc, ?_⟩
    refine (refProfile_spec (hf.ext M3.ext) hl s hg1).mono ?_
    rintro v' w5 ⟨rfl, e5⟩
    intro g6 w6 h6
    have e26 := e5.trans h6.ext
    have ho6 := ho.ext e26
    refine ⟨rfl, rfl, rfl, w2.heap.size, _, _, (profOf f s g).cells, ho6, (e3.trans e26).size, Nat.le_of_ble_eq_true rfl, rfl, rfl, .inr ⟨g6, 0, rfl, Rd.of_block h6.here⟩, rfl, rfl, by omega, by simp only [maxLen]; omega, ?_⟩
    intro v7 w7 ho7 hg7 hpl
    refine ⟨_, next, ?_⟩
    refine ⟨(i + 1, v7), ⟨rfl, rfl, rfl, rfl, rfl, trivial⟩, ⟨hlti, ?_, app_ext (e3.trans e26) ho6 hg7⟩, by show gs.length - (i + 1) < gs.length - i; omega⟩
    show NewL _ _ _ _ _ _ (profsOf f s (gs.take (i + 1)))
    rw [hs]
    unfold NewL
    rw [List.length_append, List.flatMap_append]
    simpa using ho7
  · have hie : i = gs.length := by have : ¬ (i : Int) < (gs.length : Nat) := hge; omega
    rw [hie, List.take_length] at ho
    refine ⟨⟨_, by rw [b], ?_⟩, M2.ext.trans e3⟩
    have : profsR f s gs = profsOf f s gs := if_pos b
    rw [this]; exact ho.base M2.ext.size
def fewR (f : List Fact) (n m : Nat) : Prop := f.length ≤ 60 ∧ n ≤ 30 ∧ m ≤ 30
theorem fewR_spec {w : World} {A R B : Option Addr} {f : List Fact} {c n nc m d : Nat} (hf : HF w A f c) :
    CallsV C.P 10 #[.slice A f.length c, .agg #[.slice R n nc], .slice B m d] w fun v w' => (∃ b, v = .bool b ∧ (b = true → fewR f n m)) ∧ Ext w w' := by
  have hcap := hf.cap
  refine callsV_of C_ok (args := [_, _, _]) (plans := []) Tryz.func10 rfl Tryz.ntmps10 (by kernel_rfl) (Nat.le_of_ble_eq_true rfl) ?_
  intro g4 w1 h1
  refine brE_dec (fun c1 => ?_) (fun c1 => ?_)
  · exact ⟨⟨false, rfl, fun h => by cases h⟩, h1.ext⟩
  have c1 : ¬ ((f.length : Nat) : Int) > 60 := c1
  refine ⟨_, cell_of_block (i := 0) h1.here rfl, ?_⟩
  refine brE_dec (fun c2 => ?_) (fun c2 => ?_)
  · exact ⟨⟨false, rfl, fun h => by cases h⟩, h1.ext⟩
  have c2 : ¬ ((n : Nat) : Int) > 30 := c2
  refine brE_dec (fun c3 => ?_) (fun c3 => ?_)
  · exact ⟨⟨false, rfl, fun h => by cases h⟩, h1.ext⟩
  have c3 : ¬ ((m : Nat) : Int) > 30 := c3
  refine loopE C_ok (fun (i : Nat) => [(0, .slice A f.length c), (7, .int .i64 (i : Nat))]) (fun i w' => i ≤ f.length ∧ w' = w1) (fun i => f.length - i) 0 ⟨rfl, rfl, trivial⟩ ⟨Nat.zero_le _, rfl⟩ ?_
  rintro i w2 ⟨hi, rfl⟩
  refine brE_dec (fun hlt => ?_) (fun hge => ?_)
  · have hlt : i < f.length := by have : (i : Int) < (f.length : Nat) := hlt; omega
    obtain ⟨b, o, hA, hc⟩ := Reads.fact (hf.ext h1.ext).reads hlt
    refine ⟨i, b, o, rfl, hlt, hA, ?_⟩
    refine ⟨_, hc 8 _ rfl, ?_⟩
    refine brE_dec (fun c3 => ?_) (fun c3 => ?_)
    · exact ⟨⟨false, rfl, fun h => by cases h⟩, h1.ext⟩
    refine ⟨((i + 1 : Nat) : Int), fit ⟨by omega, by omega⟩, ?_⟩
    exact ⟨i + 1, ⟨rfl, rfl, trivial⟩, ⟨hlt, rfl⟩, by show f.length - (i + 1) < f.length - i; omega⟩
  · exact ⟨⟨true, rfl, fun _ => ⟨by omega, by omega, by omega⟩⟩, h1.ext⟩
end Go.Proofs.YtdpdjcopkehdjaaGreat.Rk
namespace Go.Proofs.YtdpdjcopkehdjaaGreat.Rk
open Go.Eng Go.RowKit
theorem someRules {w : World} {g5 g6 : Nat} {R : Option Addr} {l : List Rl} {c : Nat} (hR : HRs w R l c) (h6 : w.heap[g6]? = some (.cells #[.slice R l.length c] 29 (0, 0))) (h : w.heap[g5]? = some (.cells #[.pointer (some ⟨g6, 0, none⟩)] 104 (0, 0))) :
    CallsV C.P 75 (#[] ++ ([] : List Value).toArray ++ #[.pointer (some ⟨g5, 0, none⟩)]) w fun v w' => v = .int .i64 (chkRl l) ∧ Ext w w' := by
  refine callsV_of C_ok (args := [_]) (plans := []) Tryz.func75 rfl Tryz.ntmps75 (by kernel_rfl) (Nat.le_of_ble_eq_true rfl) ?_
  refine ⟨_, cell_of_block (i := 0) h rfl, ?_⟩
  refine ⟨_, eqNilR _ _ _, ?_⟩
  refine ⟨_, cell_of_block (i := 0) h rfl, ?_⟩
  refine ⟨[.slice R l.length c], rfl, Rd.of_block h6, ?_⟩
  exact (rulesCheck_spec hR).mono fun v w' h => h
theorem relL_mem {l : List Rl} {p : List Prof} {x : Arrow} (hx : x ∈ relL l p) : ∃ a b : Nat, a < p.length ∧ b < p.length ∧ a ≠ b ∧ x.fr = (a : Nat) ∧ x.to = (b : Nat) ∧ ∃ (n : Nat) (h : n < l.length), x.rule = (n : Nat) ∧ x.wt = l[n].weight ∧ ruledI l (p.getD a default) (p.getD b default) = (n : Nat) := by
  unfold relL at hx
  simp only [List.mem_flatMap, List.mem_range, mem_rwR] at hx
  obtain ⟨a, ha, b, hb, hab, hx⟩ := hx
  unfold arrF at hx
  split at hx
  · rename_i h0
    have hlt := ruledI_lt l (p.getD a default) (p.getD b default)
    obtain ⟨n, hn⟩ := Int.eq_ofNat_of_zero_le h0
    have hnl : n < l.length := by omega
    rw [List.mem_singleton.1 hx]
    exact ⟨a, b, ha, hb, hab, rfl, rfl, n, hnl, hn, by show wtOf l _ = _; rw [hn, wtOf_nat hnl], hn⟩
  · cases hx
theorem relL_len (l : List Rl) (p : List Prof) (hp : p.length ≤ 24) : (relL l p).length ≤ 24 * 48 := by
  rw [← (prog_perm l p).length_eq]
  have n3 := progTo_le l p p.length
  have n5 : p.length * (2 * p.length) ≤ 24 * 48 := Nat.mul_le_mul hp (by omega)
  omega
theorem relL_nums {l : List Rl} {p : List Prof} (hp : p.length ≤ 24) (hl : l.length ≤ 24) (hw : ∀ x ∈ l, In64 x.weight) : ∀ x ∈ relL l p, In64 x.fr ∧ In64 x.to ∧ In64 x.rule ∧ In64 x.wt := by
  intro x hx
  obtain ⟨a, b, ha, hb, _, e1, e2, n, hn, e3, e4, _⟩ := relL_mem hx
  refine ⟨?_, ?_, ?_, ?_⟩
  · rw [e1]; exact ⟨by omega, by omega⟩
  · rw [e2]; exact ⟨by omega, by omega⟩
  · rw [e3]; exact ⟨by omega, by omega⟩
  · rw [e4]; exact hw _ (List.getElem_mem hn)
set_option maxRecDepth 100000 in
set_option maxHeartbeats 4000000 in
theorem Relate_spec {w : World} {A R B Q : Option Addr} {f : List Fact} {l : List Rl} {c cl d e : Nat} {gs ps : List (Int × Int)} (hf : HF w A f c) (hl : f.length ≤ 2 ^ 20) (hR : HRs w R l cl) (s : Scn) (hr : Reads w B (prCells gs)) (hg : ∀ g ∈ gs, In64 g.1) (hps : ∀ p ∈ ps, In64 p.1 ∧ In64 p.2) (hrp : Reads w Q (prCells ps)) (hpl : ps.length ≤ 2 ^ 44) :
    CallsV C.P 18 #[.slice A f.length c, .agg #[.slice R l.length cl], s.val, .slice B gs.length d, .slice Q ps.length e] w fun v w' =>
      (∃ u, v = .tuple #[u, .int .i64 (chkR f (chkRl l) s gs)] ∧ NewRel w.heap.size w' u (if chkR f (chkRl l) s gs = 0 then ((gs.length : Nat) : Int) else 0) (if chkR f (chkRl l) s gs = 0 then waiveL (relL l (profsOf f s gs)) ps else [])) ∧ Ext w w' := by
  obtain ⟨k, hk⟩ : ∃ k, k = chkR f (chkRl l) s gs := ⟨_, rfl⟩
  rw [← hk]
  refine callsV_of C_ok (args := [_, _, _, _, _]) (plans := plans18) Tryz.func18 rfl Tryz.ntmps18 (by kernel_rfl) (Nat.le_of_ble_eq_true rfl) ?_
  intro g6 w1 h1
  have M : Mem w w1 [(g6, .cells #[.slice R l.length cl] 29 (0, 0))] := (Mem.start w).alloc h1
  intro g7 w2 h2
  have M : Mem w w2 [(g7, .cells s.cells.toArray 24 (0, 0)), (g6, .cells #[.slice R l.length cl] 29 (0, 0))] := M.alloc h2
  intro g10 w3 h3
  have M : Mem w w3 [(g10, .cells #[.int .i64 0, .slice none 0 0] 49 (0, 0)), (g7, .cells s.cells.toArray 24 (0, 0)), (g6, .cells #[.slice R l.length cl] 29 (0, 0))] := M.alloc h3
  clear h1 h2 h3
  refine ⟨s.cells, rfl, M.rd 1 rfl, ?_⟩
  have X := check_spec (p := some ⟨g6, 0, none⟩) (re := chkRl l) (c := c) (d := d) (hf.ext M.ext) hl s (hr.ext M.ext) (fun w' g5 e5 h5 => someRules ((hR.ext M.ext).ext e5) (e5.heap (M.get 2 rfl)) h5)
  rw [← hk] at X
  refine X.mono ?_
  rintro v w4 ⟨rfl, e4⟩
  have M := M.grow e4
  refine brE_ndec (fun c0 => ?_) (fun c0 => ?_)
  · have c0 : k ≠ 0 := c0
    refine ⟨rfl, _, _, M.get 0 rfl, Nat.le_of_ble_eq_true rfl, rfl, ?_⟩
    intro w5 h5
    have M := M.put 0 rfl h5
    refine ⟨[.int .i64 0, .slice none 0 0], rfl, M.rd 0 rfl, ?_⟩
    refine ⟨⟨_, rfl, ?_⟩, M.ext⟩
    rw [if_neg c0, if_neg c0]
    exact newRel_zero _ _
  have c0 : k = 0 := c0
  obtain ⟨_, hz, _, hgz⟩ := chkR_zero (hk.symm.trans c0)
  have hgl := gchk_len hgz
  obtain ⟨hl24, hgood⟩ := chkRl_zero hz
  have hpn : (profsOf f s gs).length = gs.length := List.length_map _
  refine ⟨[.slice R l.length cl], rfl, M.rd 2 rfl, ?_⟩
  refine ⟨s.cells, rfl, M.rd 1 rfl, ?_⟩
  refine (profiles_spec (hf.ext M.ext) hl s (hr.ext M.ext) hg (by omega)).mono ?_
  rintro v w5 ⟨hp5, e5⟩
  refine ⟨e5, ?_⟩
  have M := M.grow e5
  obtain ⟨P, cp, rfl, hHL⟩ := hp5.hl
  refine (relate_spec (hR.ext M.ext) hHL (by omega)).mono ?_
  rintro v w6 ⟨hrel, e6⟩
  have M := M.grow e6
  obtain ⟨N, hN⟩ : ∃ N : Int, N = ((profsOf f s gs).length : Nat) := ⟨_, rfl⟩
  rw [← hN] at hrel
  have hlen := relL_len l (profsOf f s gs) (by omega)
  obtain ⟨A6, c6, rfl, hrel6⟩ := hrel.hrel ⟨by omega, by omega⟩ (relL_nums (by omega) hl24 fun x hx => (hR.each x hx).weight) (by omega)
  have hs6 : w.heap.size ≤ w6.heap.size := M.ext.size
  have b10 : g10 < w6.heap.size := M.lt List.mem_cons_self
  refine (waive_spec hrel6 (by omega) hps (hrp.ext M.ext) hpl).mono ?_
  rintro v w7 ⟨⟨A7, c7, rfl, ho7⟩, e7⟩
  have M := M.grow e7
  obtain ⟨X7, hX7⟩ : ∃ X7, X7 = waiveL (relL l (profsOf f s gs)) ps := ⟨_, rfl⟩
  rw [← hX7] at ho7 ⊢
  refine ⟨rfl, _, _, M.get 0 rfl, Nat.le_of_ble_eq_true rfl, rfl, ?_⟩
  intro w8 h8
  have M8 := M.put 0 rfl h8
  refine ⟨[.int .i64 N, .slice A7 X7.length c7], rfl, M8.rd 0 rfl, ?_⟩
  refine ⟨⟨_, by rw [c0], ?_⟩, M8.ext⟩
  rw [if_pos c0, if_pos c0]
  refine ⟨A7, c7, ?_, ?_⟩
  · rw [hN, hpn]; rfl
  · exact ownsRow_base (ownsRow_put ho7 h8 (fun e => by have := (ho7.lt g10 e).1; omega)) hs6
end Go.Proofs.YtdpdjcopkehdjaaGreat.Rk
