/- Proved: for every list of facts and three numbers the law FactsPairs returns true, and its arguments read behind the call as they did before; what the library's variables hold is tied to the program's text. No further condition. -/
import Derived.Test.YthpdkdmbfdmamaaGreatDoorGDf
import Derived.Test.YthpdkdmbfdmamaaGreatDoorGCi
import Derived.Test.YthpdkdmbfdmamaaGreatDoorGDd
import Derived.Test.YthpdkdmbfdmamaaGreatDoorGDe
set_option linter.unusedVariables false
set_option linter.unusedSimpArgs false
set_option linter.unnecessarySimpa false
set_option linter.unusedSectionVars false
namespace Go.Proofs.YthpdkdmbfdmamaaGreatDoor
open Go.Eng Go.RowKit

/-! ### plainly -/
theorem spouse_some {c : List Fact} {p q : Int} (h : spouseL c p = (q, true)) :
    ∃ x, lastP (marriedB p) c = some x ∧ deadB c x.who = false ∧ deadB c x.other = false ∧ ((x.who = p ∧ x.other = q) ∨ (x.who ≠ p ∧ x.other = p ∧ x.who = q)) := by
  unfold spouseL at h
  split at h
  · cases h
  rename_i x hx
  split at h
  · cases h
  rename_i hd
  have hd : deadB c x.who = false ∧ deadB c x.other = false := by simpa using hd
  refine ⟨x, hx, hd.1, hd.2, ?_⟩
  have hm := (lastP_some hx).2
  have hm : x.kind = 6 ∧ (x.who = p ∨ x.other = p) := of_decide_eq_true hm
  split at h
  · rename_i hw
    exact .inl ⟨hw, congrArg Prod.fst h⟩
  · rename_i hw
    exact .inr ⟨hw, hm.2.resolve_left hw, congrArg Prod.fst h⟩
theorem spouse_alive {c : List Fact} {p q : Int} (h : spouseL c p = (q, true)) : deadB c p = false ∧ deadB c q = false := by
  obtain ⟨x, _, h1, h2, ⟨h3, h4⟩ | ⟨_, h3, h4⟩⟩ := spouse_some h
  · subst h3 h4; exact ⟨h1, h2⟩
  · subst h3 h4; exact ⟨h2, h1⟩
theorem spouse_back {c : List Fact} {p q : Int} (h : spouseL c p = (q, true)) (he : lastP (marriedB q) c = lastP (marriedB p) c) : spouseL c q = (p, true) := by
  obtain ⟨x, hx, h1, h2, h3⟩ := spouse_some h
  unfold spouseL
  rw [he, hx]
  simp only [h1, h2, Bool.or_self, Bool.false_eq_true, if_false]
  rcases h3 with ⟨h3, h4⟩ | ⟨h0, h3, h4⟩
  · by_cases hw : x.who = q
    · rw [if_pos hw, h4, ← hw, h3]
    · rw [if_neg hw, h3]
  · rw [if_pos h4, h3]

theorem princAt_some {c : List Fact} : ∀ (n : Nat) (met : List Int) (a p : Int), princAt c n met a = (p, true) → p ∉ met ∧ nextL c p = none
  | 0, _, _, _, h => by cases h
  | n + 1, met, a, p, h => by
    unfold princAt at h
    split at h
    · cases h
    rename_i hm
    split at h
    · rename_i hn
      split at h
      · cases h
      · have : a = p := congrArg Prod.fst h
        subst this
        exact ⟨hm, hn⟩
    · obtain ⟨h1, h2⟩ := princAt_some n _ _ _ h
      exact ⟨fun hh => h1 (List.mem_append_left _ hh), h2⟩
theorem princ_some {c : List Fact} {a p : Int} (h : princL c a = (p, true)) : p ≠ a ∧ princL c p = (0, false) := by
  have hn := (princAt_some _ _ _ _ h).2
  have h2 : princL c p = (0, false) := by
    unfold princL princAt
    rw [if_neg (by simp), hn]; rfl
  refine ⟨fun e => ?_, h2⟩
  subst e
  rw [h2] at h; cases h
theorem princAt_in {c : List Fact} (hc : ∀ x ∈ c, In64 x.other) : ∀ (n : Nat) (met : List Int) (a : Int), In64 a → In64 (princAt c n met a).1
  | 0, _, _, _ => by show In64 0; exact ⟨by decide, by decide⟩
  | n + 1, met, a, ha => by
    have z64 : In64 0 := ⟨by decide, by decide⟩
    unfold princAt
    split
    · exact z64
    split
    · split
      · exact z64
      · exact ha
    · rename_i q hq
      refine princAt_in hc n _ _ ?_
      unfold nextL at hq
      obtain ⟨x, hx, rfl⟩ := Option.map_eq_some_iff.1 hq
      exact hc x (lastP_some hx).1
theorem lastP_nil (p : Fact → Bool) : lastP p [] = none := rfl

/-! ### the walks -/
/-- The place of the last fact that passes a test. -/
def IxIs (p : Fact → Bool) (l : List Fact) (n : Int) : Prop := (n = -1 ∧ lastP p l = none) ∨ ∃ i : Nat, ∃ hi : i < l.length, n = i ∧ lastP p l = some l[i]

set_option maxRecDepth 100000 in
theorem lawLast_spec {w : World} {A : Option Addr} {l : List Fact} {c : Nat} (hr : Reads w A (fcells l)) (hl : l.length ≤ 2 ^ 20) (n : Int) :
    CallsV C.P 57 #[.slice A l.length c, .int .i64 n] w fun v w' => (∃ z, v = .int .i64 z ∧ IxIs (marriedB n) l z) ∧ Ext w w' := by
  refine callsV_of C_ok (args := [_, _]) (plans := []) Tryz.func57 rfl Tryz.ntmps57 (by kernel_rfl) (Nat.le_of_ble_eq_true rfl) ?_
  refine loopE C_ok (fun (s : Nat × Int) => [(1, .int .i64 n), (5, .int .i64 s.2), (8, .slice A l.length c), (9, .int .i64 l.length), (10, .int .i64 s.1)])
    (fun s w' => s.1 ≤ l.length ∧ IxIs (marriedB n) (l.take s.1) s.2 ∧ Ext w w') (fun s => l.length - s.1) (0, -1) ⟨rfl, rfl, rfl, rfl, rfl, trivial⟩ ⟨Nat.zero_le _, .inl ⟨rfl, rfl⟩, Ext.refl _⟩ ?_
  rintro ⟨i, z⟩ w1 ⟨hi', hz', e1⟩
  have hi : i ≤ l.length := hi'
  have hz : IxIs (marriedB n) (l.take i) z := hz'
  clear hi' hz'
  refine brE_dec (fun hlt2 => ?_) (fun hge => ?_)
  · have hlt : i < l.length := by have : (i : Int) < (l.length : Nat) := hlt2; omega
    have next : IntKind.i64.wrap ((i : Int) + 1) = ((i + 1 : Nat) : Int) := fit ⟨by omega, by omega⟩
    have yes : marriedB n l[i] = true → IxIs (marriedB n) (l.take (i + 1)) (i : Nat) := fun hm => .inr ⟨i, by rw [List.length_take]; omega, rfl, by
      rw [lastP_take hlt, if_pos hm, List.getElem_take]⟩
    have no : marriedB n l[i] = false → IxIs (marriedB n) (l.take (i + 1)) z := fun hm => by
      have hh := lastP_take (p := marriedB n) hlt
      rw [hm, if_neg (by decide)] at hh
      rcases hz with ⟨h1, h2⟩ | ⟨j, hj, h1, h2⟩
      · exact .inl ⟨h1, hh.trans h2⟩
      · have hj2 : j < i := by rw [List.length_take] at hj; omega
        refine .inr ⟨j, by rw [List.length_take]; omega, h1, (hh.trans h2).trans ?_⟩
        rw [List.getElem_take, List.getElem_take]
    obtain ⟨b, o, hA, hc⟩ := Reads.fact (hr.ext e1) hlt
    refine ⟨i, b, o, rfl, hlt, hA, ?_⟩
    refine ⟨l[i].cells, rfl, hc, ?_⟩
    intro g w2 h2
    refine ⟨rfl, _, _, h2.here, Nat.le_of_ble_eq_true rfl, rfl, ?_⟩
    intro w3 h3
    have h3 : Put w2 g (.cells l[i].cells.toArray 29 (0, 0)) w3 := h3
    have e13 : Ext w1 w3 := h3.ext_of h2.ext (by rw [h2.new]; exact Nat.le_refl _)
    have skip : marriedB n l[i] = false → i + 1 ≤ l.length ∧ IxIs (marriedB n) (l.take (i + 1)) z ∧ Ext w w3 := fun hm => ⟨hlt, no hm, e1.trans e13⟩
    refine ⟨_, cell_of_block h3.here rfl, ?_⟩
    refine brE_dec (fun k1 => ?_) (fun k1 => ?_)
    · have k1 : l[i].kind = 6 := k1
      refine ⟨_, cell_of_block h3.here rfl, ?_⟩
      refine brE_dec (fun k2 => ?_) (fun k2 => ?_)
      · have k2 : l[i].who = n := k2
        refine ⟨_, next, ?_⟩
        exact ⟨(i + 1, (i : Nat)), ⟨rfl, rfl, rfl, rfl, rfl, trivial⟩, ⟨hlt, yes (decide_eq_true ⟨k1, .inl k2⟩), e1.trans e13⟩, by show l.length - (i + 1) < l.length - i; omega⟩
      · have k2 : ¬ l[i].who = n := k2
        refine ⟨_, cell_of_block h3.here rfl, ?_⟩
        refine brE_dec (fun k3 => ?_) (fun k3 => ?_)
        · have k3 : l[i].other = n := k3
          refine ⟨_, next, ?_⟩
          exact ⟨(i + 1, (i : Nat)), ⟨rfl, rfl, rfl, rfl, rfl, trivial⟩, ⟨hlt, yes (decide_eq_true ⟨k1, .inr k3⟩), e1.trans e13⟩, by show l.length - (i + 1) < l.length - i; omega⟩
        · have k3 : ¬ l[i].other = n := k3
          refine ⟨_, next, ?_⟩
          exact ⟨(i + 1, z), ⟨rfl, rfl, rfl, rfl, rfl, trivial⟩, skip (decide_eq_false fun hh => hh.2.elim k2 k3), by show l.length - (i + 1) < l.length - i; omega⟩
    · have k1 : ¬ l[i].kind = 6 := k1
      refine ⟨_, next, ?_⟩
      exact ⟨(i + 1, z), ⟨rfl, rfl, rfl, rfl, rfl, trivial⟩, skip (decide_eq_false fun hh => k1 hh.1), by show l.length - (i + 1) < l.length - i; omega⟩
  · have : i = l.length := by have : ¬ (i : Int) < (l.length : Nat) := hge; omega
    rw [this, List.take_length] at hz
    exact ⟨⟨z, rfl, hz⟩, e1⟩

set_option maxRecDepth 100000 in
theorem FactsPairs_spec {w : World} {A : Option Addr} {l : List Fact} {c : Nat} (h : HF w A l c) (T : Tabs w) (k day : Int) {n : Int} (hn : In64 n) :
    CallsW C.P 13 #[.slice A l.length c, .int .i64 k, .int .i64 day, .int .i64 n] w fun v w' => v = .bool true ∧ Ext w w' := by
  refine callsV_of Cw_ok (args := [_, _, _, _]) (plans := []) Tryz.func13 rfl Tryz.ntmps13 (by kernel_rfl) (Nat.le_of_ble_eq_true rfl) ?_
  have hcap := h.cap
  refine brE_dec (fun ha => ?_) (fun ha => ?_)
  · refine (alive_spec w T).mono ?_
    rintro v w2 ⟨rfl, e2⟩
    exact ⟨rfl, e2⟩
  have ha : ¬ (l.length : Int) > 30 := ha
  have hl : l.length ≤ 2 ^ 20 := by omega
  have hal := atL_length k day l
  have hsub : ∀ x ∈ atL k day l, x.Nums := fun x hx => h.nums x (atL_sub hx)
  refine (At_spec h hl k day).weak.mono ?_
  rintro v w1 ⟨ho1, e1⟩
  obtain ⟨A1, c1, rfl, hr1, _⟩ := ho1.slice
  refine (Spouse_spec (h.ext e1) hl k day n).weak.mono ?_
  rintro _ w2 ⟨rfl, e2⟩
  have e02 := e1.trans e2
  cases hs : spouseL (atL k day l) n with
  | mk q is =>
  simp only
  cases is with
  | false =>
    have eT := e02
    refine (Principal_spec (h.ext eT) hl k day n hn).weak.mono ?_
    rintro _ w8 ⟨rfl, e8⟩
    have hin := princAt_in (fun x hx => (hsub x hx).other) ((atL k day l).length + 2) [] n hn
    have hin : In64 (princL (atL k day l) n).1 := hin
    have hend := @princ_some (atL k day l) n
    cases hp : princL (atL k day l) n with
    | mk p some_ =>
    rw [hp] at hin hend
    refine (Principal_spec (h.ext (eT.trans e8)) hl k day p hin).weak.mono ?_
    rintro _ w9 ⟨rfl, e9⟩
    have e89 := (eT.trans e8).trans e9
    cases some_ with
    | false =>
      refine (alive_spec w9 (T.ext e89)).mono ?_
      rintro _ w10 ⟨rfl, e10⟩
      exact ⟨rfl, e89.trans e10⟩
    | true =>
      obtain ⟨h1, h2⟩ := hend rfl
      rw [h2]
      refine (alive_spec w9 (T.ext e89)).mono ?_
      rintro _ w10 ⟨rfl, e10⟩
      exact ⟨by rw [decide_eq_false h1]; rfl, e89.trans e10⟩
  | true =>
    have hal2 := spouse_alive hs
    refine (Dead_spec (h.ext e02) hl k day q).weak.mono ?_
    rintro _ w3 ⟨rfl, e3⟩
    rw [hal2.2]
    refine (Dead_spec (h.ext (e02.trans e3)) hl k day n).weak.mono ?_
    rintro _ w4 ⟨rfl, e4⟩
    rw [hal2.1]
    have e24 := e3.trans e4
    refine (Spouse_spec (h.ext (e02.trans e24)) hl k day q).weak.mono ?_
    rintro _ w5 ⟨rfl, e5⟩
    have e25 := e24.trans e5
    have hr5 := hr1.ext (e2.trans e25)
    refine (lawLast_spec hr5 (by omega) q).weak.mono ?_
    rintro _ w6 ⟨⟨z1, rfl, hz1⟩, e6⟩
    refine (lawLast_spec (hr5.ext e6) (by omega) n).weak.mono ?_
    rintro _ w7 ⟨⟨z2, rfl, hz2⟩, e7⟩
    have e27 := e25.trans (e6.trans e7)
    refine brE_dec (fun hz => ?_) (fun hz => ?_)
    · have hz : z1 = z2 := hz
      have hlast : lastP (marriedB q) (atL k day l) = lastP (marriedB n) (atL k day l) := by
        subst hz
        rcases hz1 with ⟨h1, h2⟩ | ⟨i, hi, h1, h2⟩
        · rcases hz2 with ⟨h3, h4⟩ | ⟨j, hj, h3, h4⟩
          · rw [h2, h4]
          · omega
        · rcases hz2 with ⟨h3, h4⟩ | ⟨j, hj, h3, h4⟩
          · omega
          · have : i = j := by omega
            subst this
            rw [h2, h4]
      rw [spouse_back hs hlast]
      refine brE_false (by simp) ?_
      have eT := e02.trans e27
      refine (Principal_spec (h.ext eT) hl k day n hn).weak.mono ?_
      rintro _ w8 ⟨rfl, e8⟩
      have hin := princAt_in (fun x hx => (hsub x hx).other) ((atL k day l).length + 2) [] n hn
      have hin : In64 (princL (atL k day l) n).1 := hin
      have hend := @princ_some (atL k day l) n
      cases hp : princL (atL k day l) n with
      | mk p some_ =>
      rw [hp] at hin hend
      refine (Principal_spec (h.ext (eT.trans e8)) hl k day p hin).weak.mono ?_
      rintro _ w9 ⟨rfl, e9⟩
      have e89 := (eT.trans e8).trans e9
      cases some_ with
      | false =>
        refine (alive_spec w9 (T.ext e89)).mono ?_
        rintro _ w10 ⟨rfl, e10⟩
        exact ⟨rfl, e89.trans e10⟩
      | true =>
        obtain ⟨h1, h2⟩ := hend rfl
        rw [h2]
        refine (alive_spec w9 (T.ext e89)).mono ?_
        rintro _ w10 ⟨rfl, e10⟩
        exact ⟨by rw [decide_eq_false h1]; rfl, e89.trans e10⟩
    · have eT := e02.trans e27
      refine (Principal_spec (h.ext eT) hl k day n hn).weak.mono ?_
      rintro _ w8 ⟨rfl, e8⟩
      have hin := princAt_in (fun x hx => (hsub x hx).other) ((atL k day l).length + 2) [] n hn
      have hin : In64 (princL (atL k day l) n).1 := hin
      have hend := @princ_some (atL k day l) n
      cases hp : princL (atL k day l) n with
      | mk p some_ =>
      rw [hp] at hin hend
      refine (Principal_spec (h.ext (eT.trans e8)) hl k day p hin).weak.mono ?_
      rintro _ w9 ⟨rfl, e9⟩
      have e89 := (eT.trans e8).trans e9
      cases some_ with
      | false =>
        refine (alive_spec w9 (T.ext e89)).mono ?_
        rintro _ w10 ⟨rfl, e10⟩
        exact ⟨rfl, e89.trans e10⟩
      | true =>
        obtain ⟨h1, h2⟩ := hend rfl
        rw [h2]
        refine (alive_spec w9 (T.ext e89)).mono ?_
        rintro _ w10 ⟨rfl, e10⟩
        exact ⟨by rw [decide_eq_false h1]; rfl, e89.trans e10⟩

end Go.Proofs.YthpdkdmbfdmamaaGreatDoor

namespace Go.Proofs.YthpdkdmbfdmamaaGreatDoor
open Go.Eng Go.RowKit Go.ChangeShapes Go.WideShapes Go.ChangeAt
open Go.ChangeMaps (open_string shut_string)

set_option maxRecDepth 100000 in
theorem factsPairs_lifted (os : Os) (started : os.Started) (H : Type) (enc : TypeId × Value → H) :
    ReturnsInHanded {} Tryz.checked os 13 .any (fun w args => (Rows.factsPairsSpec.pre enc Tryz.prog Tryz.f13 Rows.factsPairsRow.domain false w args ∧ laidMet Tryz.prog laidL w) ∧ sizedMet enc Tryz.prog Tryz.f13 (OpenSpec.ofChange Rows.factsPairsSpec) false w args)
      (Rows.factsPairsSpec.post enc Tryz.prog Tryz.f13 false true false false) := by
  refine returnsInHanded_of_change_and (C := Tryz.checked) (X := fun w _ => laidMet Tryz.prog laidL w) (fun _ _ _ hh h => h.of_heap hh) own started (by kernel_rfl) Tryz.func13
    (ChangeSpec.witness_at (enc := enc) (C := Tryz.checked) (os := os) (X := fun w _ => laidMet Tryz.prog laidL w) false (laidWorld os) #[.slice none 0 0, .int .i64 0, .int .i64 0, .int .i64 0] 8 rfl (by kernel_rfl) (by kernel_rfl) (by kernel_rfl) (by kernel_rfl) (by kernel_rfl) (laidWorld_met os _)) ?_
  intro W base args ds gs before hval0 hW _ hsz0 hL _
  have T := tabs_of_laid hL
  have hval : ∀ (j : Nat) t v, Tryz.f13.params[j]? = some t → args[j]? = some v → Value.okWide Tryz.prog W .any base t v := hval0
  have hW' := hW
  obtain ⟨p, q, hA0, hV, rfl, hfz, hnd⟩ := hW
  have hA : DataW.TrodAll enc Tryz.prog W 0 (fun _ => true) true [22, 3, 3, 3] args.toList ds p := hA0
  obtain ⟨v0, v1, v2, v3, d0, d1, d2, d3, p0, p1, p2, p3, rfl, rfl, rfl, h0, h1, h2, h3⟩ := trodAll_four hA
  obtain ⟨rfl, rfl⟩ := trodVars_none hV
  obtain ⟨A0, l0, c0, rfl, hf0⟩ := open_facts (hval 0 22 v0 rfl rfl) h0
  obtain ⟨i1, rfl, _, _, wf1⟩ := open_int under3 (hval 1 3 v1 rfl rfl) h1
  obtain ⟨i2, rfl, _, _, wf2⟩ := open_int under3 (hval 2 3 v2 rfl rfl) h2
  obtain ⟨i3, rfl, _, _, wf3⟩ := open_int under3 (hval 3 3 v3 rfl rfl) h3
  refine (FactsPairs_spec hf0 T i1 i2 (wf_in64 wf3) W (Same.refl W)).mono ?_
  rintro e W' ⟨⟨v, w'', rfl, ⟨rfl, he⟩, hs⟩, _⟩
  have he' : Ext W W' := he.same_right hs
  refine ⟨_, rfl, ?_⟩
  refine ⟨[d0, d1, d2, d3], [], (p0 ++ p1 ++ p2 ++ p3) ++ [], [], p0 ++ (p1 ++ (p2 ++ (p3))), [], hW', ?_, ?_, rfl, Below.frame he' _, fun h => by cases h⟩
  · exact trodAll_mk1 (shut_bool under4 true)
  · exact trodAll_mk4 (Below.trod laidOut recFs rowFs h0 he' fun x hx => hW'.lt x (by simp [hx])) (Below.trod laidOut rec3 row3 h1 he' fun x hx => hW'.lt x (by simp [hx])) (Below.trod laidOut rec3 row3 h2 he' fun x hx => hW'.lt x (by simp [hx])) (Below.trod laidOut rec3 row3 h3 he' fun x hx => hW'.lt x (by simp [hx]))

set_option maxHeartbeats 4000000 in
theorem factsPairs_closed : joinedFacts Tryz.pinned.checked.prog 13 Tryz.f13 Rows.factsPairsSpec Rows.factsPairsRow = true := by
  unfold joinedFacts
  iterate 31 refine Bool.and_eq_true_iff.2 ⟨?_, ?_⟩
  · as_aux_lemma => kernel_rfl
  · exact kLaid
  · exact kMaps
  · as_aux_lemma => kernel_rfl
  · as_aux_lemma => kernel_rfl
  · as_aux_lemma => kernel_rfl
  · exact kStops
  · as_aux_lemma => kernel_rfl
  · exact kKnobs
  · as_aux_lemma => kernel_rfl
  · as_aux_lemma => kernel_rfl
  · as_aux_lemma => kernel_rfl
  · as_aux_lemma => kernel_rfl
  · as_aux_lemma => kernel_rfl
  · as_aux_lemma => kernel_rfl
  · as_aux_lemma => kernel_rfl
  · as_aux_lemma => kernel_rfl
  · as_aux_lemma => kernel_rfl
  · as_aux_lemma => kernel_rfl
  · as_aux_lemma => kernel_rfl
  · as_aux_lemma => kernel_rfl
  · as_aux_lemma => kernel_rfl
  · exact beq_iff_eq.2 kPlain.symm
  · as_aux_lemma => kernel_rfl
  · exact kHeard
  · exact kEnter
  · exact beq_iff_eq.2 kLifts.symm
  · as_aux_lemma => kernel_rfl
  · as_aux_lemma => kernel_rfl
  · as_aux_lemma => kernel_rfl
  · as_aux_lemma => kernel_rfl
  · as_aux_lemma => kernel_rfl

theorem factsPairs_named : Tryz.pinned.checked.prog.funcNamed Rows.factsPairsRow.func = some 13 := by kernel_rfl
theorem factsPairs_func : Tryz.pinned.checked.prog.funcs[13]? = some Tryz.f13 := Tryz.func13
theorem factsPairs_inst : Tryz.f13.isInstance Tryz.pinned.checked.prog Rows.factsPairsRow.origin Rows.factsPairsRow.targs := of_decide_eq_true (by kernel_rfl)
theorem factsPairs_wrap : Tryz.f13.isWrapper Tryz.pinned.checked.prog Rows.factsPairsRow.wrapper Rows.factsPairsRow.mainSum := by
  unfold Func.isWrapper; first | (rw [if_pos (by decide +kernel)]; kernel_rfl) | (rw [if_neg (by decide +kernel)]; exact ⟨rfl, rfl⟩)
theorem factsPairs_text : Rows.factsPairsRow.wfByText (OpenSpec.ofChange Rows.factsPairsSpec) = true := by kernel_rfl
theorem factsPairs_main : Tryz.pinned.checked.prog.mainIs = some (Rows.factsPairsCard.stood.harness.1, Rows.factsPairsCard.stood.harness.2.toList) := by kernel_rfl
theorem factsPairs_looks : true = Tryz.pinned.checked.prog.looks [] := by kernel_rfl
theorem factsPairs_goes : false = Rows.factsPairsRow.goesBy Tryz.pinned.checked.prog := by kernel_rfl
theorem factsPairs_stand : (Tryz.f13.params.toList.all fun t => !Tryz.pinned.checked.prog.wantsStandIn t) = true := by kernel_rfl

theorem factsPairs_holds : Rows.FactsPairsSaid :=
  OpenClaim.holds_of_wide 13 Tryz.f13 rfl rfl rfl rfl rfl rfl rfl ⟨rfl, rfl, rfl, rfl, rfl⟩ rfl rfl rfl rfl rfl factsPairs_named factsPairs_func factsPairs_closed factsPairs_inst factsPairs_wrap
    (fun os started H enc _ => factsPairs_lifted os started H enc)

theorem factsPairs : Rows.FactsPairsCardSaid :=
  Claim7.holds_tied_plain_at .later [] [.data, .data, .data, .sentinel, .sentinel] true Rows.factsPairsCard.stood.harness true
    factsPairs_holds (fun _ h => by cases h) factsPairs_text (fun _ h => by cases h) factsPairs_row_tie rfl ⟨rfl, rfl⟩ factsPairs_main rfl
    (fun f fn hf hfn => by
      obtain rfl : f = 13 := Option.some.inj (factsPairs_named.symm.trans hf) |>.symm
      obtain rfl : fn = Tryz.f13 := (Option.some.inj (factsPairs_func.symm.trans hfn)).symm
      refine ⟨factsPairs_looks, fun j t ht => ?_⟩
      have hm : t ∈ Tryz.f13.params.toList := by
        have := Array.mem_of_getElem? ht
        simpa using this
      exact Bool.not_eq_true' _ |>.mp (List.all_eq_true.1 factsPairs_stand t hm))
    factsPairs_goes

#print axioms factsPairs
end Go.Proofs.YthpdkdmbfdmamaaGreatDoor
