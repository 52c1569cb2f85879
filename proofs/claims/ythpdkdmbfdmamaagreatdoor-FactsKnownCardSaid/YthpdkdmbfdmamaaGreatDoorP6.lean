/- Proved: for every list of facts and day the law FactsKnown returns true, and its arguments read behind the call as they did before; what the library's variables hold is tied to the program's text. No further condition. -/
import Derived.Test.YthpdkdmbfdmamaaGreatDoorGDd
import Derived.Test.YthpdkdmbfdmamaaGreatDoorGDe
set_option linter.unusedVariables false
set_option linter.unusedSimpArgs false
set_option linter.unnecessarySimpa false
set_option linter.unusedSectionVars false
namespace Go.Proofs.YthpdkdmbfdmamaaGreatDoor
open Go.Eng Go.RowKit

theorem knownL_take (k : Int) : ∀ (l : List Fact), ∃ n, knownL k l = l.take n
  | [] => ⟨0, rfl⟩
  | x :: r => by
    obtain ⟨n, hn⟩ := knownL_take k r
    unfold knownL at *
    rw [List.takeWhile_cons]
    split
    · exact ⟨n + 1, by rw [hn]; rfl⟩
    · exact ⟨0, rfl⟩
theorem chkG_take : ∀ (l seen : List Fact) (n : Nat), (chkG seen l).2 = 0 → (chkG seen (l.take n)).2 = 0
  | [], _, n, h => by rw [List.take_nil]; exact h
  | x :: r, seen, 0, _ => rfl
  | x :: r, seen, n + 1, h => by
    rw [List.take_succ_cons]
    unfold chkG at h ⊢
    split at h
    · rename_i hb; exact absurd h hb
    · rename_i hb; rw [if_neg hb]; exact chkG_take r _ n h
theorem chk_known {k : Int} {l : List Fact} (h : (chkF l).2 = 0) : (chkF (knownL k l)).2 = 0 := by
  obtain ⟨n, hn⟩ := knownL_take k l
  rw [hn]; exact chkG_take l [] n h

def anyVoid (l : List Fact) : Bool := l.any fun x => decide (x.kind = 11)
theorem back_none : ∀ (K acc : List Fact), (∀ x ∈ acc, x.kind ≠ 11) → (∀ x ∈ K, x.kind ≠ 11) → backL acc K = acc ++ K
  | [], acc, _, _ => by simp [backL]
  | x :: r, acc, ha, hk => by
    have hv : voidedBy acc x.id = false := by
      unfold voidedBy
      rw [List.any_eq_false]
      intro y hy
      simp [ha y hy]
    rw [backL, hv, if_neg (by decide), back_none r (acc ++ [x]) (fun y hy => ?_) (fun y hy => hk y (by simp [hy])), List.append_assoc]; rfl
    rcases List.mem_append.1 hy with h | h
    · exact ha y h
    · rw [List.mem_singleton.1 h]; exact hk x (by simp)
theorem count_plain {k : Int} {l : List Fact} (h : anyVoid (knownL k l) = false) : countL k l = knownL k l := by
  unfold countL
  rw [back_none _ [] (fun x hx => by cases hx) (fun x hx => ?_), List.nil_append, List.reverse_reverse]
  have := List.any_eq_false.1 h x (List.mem_reverse.1 hx)
  simpa using this

set_option maxRecDepth 100000 in
theorem FactsKnown_spec {w : World} {A : Option Addr} {l : List Fact} {c : Nat} (h : HF w A l c) (T : Tabs w) (k : Int) :
    CallsW C.P 6 #[.slice A l.length c, .int .i64 k] w fun v w' => v = .bool true ∧ Ext w w' := by
  refine callsV_of Cw_ok (args := [_, _]) (plans := []) Tryz.func6 rfl Tryz.ntmps6 (by kernel_rfl) (Nat.le_of_ble_eq_true rfl) ?_
  have hcap := h.cap
  refine brE_dec (fun hb => ?_) (fun hb => ?_)
  · refine (alive_spec w T).mono ?_
    rintro v w1 ⟨rfl, e1⟩
    exact ⟨rfl, e1⟩
  have hb : ¬ (l.length : Int) > 30 := hb
  have hl : l.length ≤ 2 ^ 20 := by omega
  have kl : (knownL k l).length ≤ l.length := by
    obtain ⟨n, hn⟩ := knownL_take k l
    rw [hn, List.length_take]; omega
  have kn : ∀ x ∈ knownL k l, x.Nums := fun x hx => by
    obtain ⟨n, hn⟩ := knownL_take k l
    rw [hn] at hx; exact h.nums x (List.mem_of_mem_take hx)
  refine (Known_spec h hl k).weak.mono ?_
  rintro v w1 ⟨ho1, e1⟩
  obtain ⟨A1, c1, rfl, hf1⟩ := ho1.hf kn
  refine (Counting_spec (h.ext e1) hl k).weak.mono ?_
  rintro v w2 ⟨ho2, e2⟩
  obtain ⟨A2, c2, rfl, hr2, hc2⟩ := ho2.slice
  have e02 := e1.trans e2
  refine (refKnown_spec (h.ext e02) hl k).weak.mono ?_
  rintro v w3 ⟨ho3, e3⟩
  obtain ⟨A3, c3, rfl, hr3, hc3⟩ := ho3.slice
  have e03 := e02.trans e3
  have s4 := SameFacts_spec (c := c1) (d := c3) (hf1.reads.ext (e2.trans e3)) hr3 (by omega)
  rw [decide_eq_true rfl] at s4
  refine s4.weak.mono ?_
  rintro v w4 ⟨rfl, rfl⟩
  refine (refCounting_spec (h.ext e03) hl k).weak.mono ?_
  rintro v w5 ⟨ho5, e5⟩
  obtain ⟨A5, c5, rfl, hr5, hc5⟩ := ho5.slice
  have e05 := e03.trans e5
  have cl : (countL k l).length ≤ l.length := by
    exact countL_length k l
  have s6 := SameFacts_spec (c := c2) (d := c5) (hr2.ext (e3.trans e5)) hr5 (by omega)
  rw [decide_eq_true rfl] at s6
  refine s6.weak.mono ?_
  rintro v w6 ⟨rfl, rfl⟩
  refine (Check_spec (h.ext e05) hl).weak.mono ?_
  rintro v w7 ⟨rfl, e7⟩
  have hf1' := hf1.ext ((e2.trans e3).trans (e5.trans e7))
  refine (Check_spec hf1' (by omega)).weak.mono ?_
  rintro v w8 ⟨rfl, e8⟩
  have e08 := (e05.trans e7).trans e8
  have hf1'' := hf1'.ext e8
  have hr2' := hr2.ext ((e3.trans e5).trans (e7.trans e8))
  have hck : (chkF l).2 = 0 → (chkF (knownL k l)).2 = 0 := chk_known
  generalize (chkF l).2 = za at *
  generalize (chkF (knownL k l)).2 = zb at *
  generalize (chkF l).1 = na at *
  generalize (chkF (knownL k l)).1 = nb at *
  have hpl : anyVoid (knownL k l) = false → countL k l = knownL k l := count_plain
  have kl := Nat.le_trans kl (Nat.le_of_lt_succ (by omega : l.length < 31))
  generalize knownL k l = K at *
  refine loopE Cw_ok (fun (p : Nat × Bool) => [(0, .slice A l.length c), (1, .int .i64 k), (5, .slice A1 K.length c1), (6, .slice A2 (countL k l).length c2), (7, .int .i64 na), (8, .int .i64 za), (9, .int .i64 nb), (10, .int .i64 zb), (11, .bool p.2), (48, .slice A1 K.length c1), (49, .int .i64 K.length), (50, .int .i64 p.1)])
    (fun p w' => p.1 ≤ K.length ∧ p.2 = anyVoid (K.take p.1) ∧ Ext w8 w') (fun p => K.length - p.1) (0, false) ⟨rfl, rfl, rfl, rfl, rfl, rfl, rfl, rfl, rfl, rfl, rfl, rfl, trivial⟩ ⟨Nat.zero_le _, rfl, Ext.refl _⟩ ?_
  rintro ⟨i, b⟩ w9 ⟨hi, hv, e9⟩
  refine brE_dec (fun hlt => ?_) (fun hge => ?_)
  · have hlt2 : i < K.length := by have : (i : Int) < (K.length : Nat) := hlt; omega
    clear hlt; have hlt := hlt2
    obtain ⟨bb, o, hA, hc⟩ := Reads.fact (hf1''.reads.ext e9) hlt
    refine ⟨i, bb, o, rfl, hlt, hA, ?_⟩
    refine ⟨K[i].cells, rfl, hc, ?_⟩
    intro g w10 h10
    refine ⟨rfl, _, _, h10.here, Nat.le_of_ble_eq_true rfl, rfl, ?_⟩
    intro w11 h11
    have h11 : Put w10 g (.cells K[i].cells.toArray 29 (0, 0)) w11 := h11
    have e11 : Ext w9 w11 := h11.ext_of h10.ext (by rw [h10.new]; exact Nat.le_refl _)
    have hv' : anyVoid (K.take (i + 1)) = (b || decide (K[i].kind = 11)) := by
      unfold anyVoid at *
      rw [List.take_succ_eq_append_getElem hlt, List.any_append, ← hv]; simp
    cases b with
    | true =>
      refine ⟨((i + 1 : Nat) : Int), fit ⟨by omega, by omega⟩, ?_⟩
      exact ⟨(i + 1, true), ⟨rfl, rfl, rfl, rfl, rfl, rfl, rfl, rfl, rfl, rfl, rfl, rfl, trivial⟩, ⟨hlt, by rw [hv']; rfl, e9.trans e11⟩, by show K.length - (i + 1) < K.length - i; omega⟩
    | false =>
      refine ⟨_, cell_of_block h11.here rfl, ?_⟩
      refine ⟨((i + 1 : Nat) : Int), fit ⟨by omega, by omega⟩, ?_⟩
      exact ⟨(i + 1, decide (K[i].kind = 11)), ⟨rfl, rfl, rfl, rfl, rfl, rfl, rfl, rfl, rfl, rfl, rfl, rfl, trivial⟩, ⟨hlt, by rw [hv']; rfl, e9.trans e11⟩, by show K.length - (i + 1) < K.length - i; omega⟩
  · have hge : ¬ i < K.length := fun hx => hge (by show (i : Int) < (K.length : Nat); omega)
    refine (alive_spec w9 (T.ext (e08.trans e9))).mono ?_
    rintro v w10 ⟨rfl, e10⟩
    have ee := (e08.trans e9).trans e10
    have hv : b = anyVoid (K.take i) := hv
    have hi : i ≤ K.length := hi
    have hiK : i = K.length := by omega
    rw [hiK, List.take_length] at hv
    have last : b = false → CallsV C.P 25 #[.slice A1 K.length c1, .slice A2 (countL k l).length c2] w10 fun v w' => v = .bool true ∧ w' = w10 := fun hb' => by
      have hp := hpl (by rw [← hv]; exact hb')
      have s := SameFacts_spec (c := c1) (d := c2) (hf1''.reads.ext (e9.trans e10)) (hr2'.ext (e9.trans e10)) (by omega : K.length ≤ 9223372036854775807)
      rw [decide_eq_true hp.symm] at s
      exact s
    clear hv
    refine brE_ndec (fun hz => ?_) (fun hz => ?_)
    · cases b with
      | true => exact ⟨rfl, ee⟩
      | false =>
        refine (last rfl).weak.mono ?_
        rintro v w11 ⟨rfl, rfl⟩
        exact ⟨rfl, ee⟩
    · have hz : za = 0 := hz
      have := hck hz
      subst this
      cases b with
      | true => exact ⟨rfl, ee⟩
      | false =>
        refine (last rfl).weak.mono ?_
        rintro v w11 ⟨rfl, rfl⟩
        exact ⟨rfl, ee⟩

end Go.Proofs.YthpdkdmbfdmamaaGreatDoor

namespace Go.Proofs.YthpdkdmbfdmamaaGreatDoor
open Go.Eng Go.RowKit Go.ChangeShapes Go.WideShapes Go.ChangeAt
open Go.ChangeMaps (open_string shut_string)

set_option maxRecDepth 100000 in
theorem factsKnown_lifted (os : Os) (started : os.Started) (H : Type) (enc : TypeId × Value → H) :
    ReturnsInHanded {} Tryz.checked os 6 .any (fun w args => (Rows.factsKnownSpec.pre enc Tryz.prog Tryz.f6 Rows.factsKnownRow.domain false w args ∧ laidMet Tryz.prog laidL w) ∧ sizedMet enc Tryz.prog Tryz.f6 (OpenSpec.ofChange Rows.factsKnownSpec) false w args)
      (Rows.factsKnownSpec.post enc Tryz.prog Tryz.f6 false true false false) := by
  refine returnsInHanded_of_change_and (C := Tryz.checked) (X := fun w _ => laidMet Tryz.prog laidL w) (fun _ _ _ hh h => h.of_heap hh) own started (by kernel_rfl) Tryz.func6
    (ChangeSpec.witness_at (enc := enc) (C := Tryz.checked) (os := os) (X := fun w _ => laidMet Tryz.prog laidL w) false (laidWorld os) #[.slice none 0 0, .int .i64 0] 8 rfl (by kernel_rfl) (by kernel_rfl) (by kernel_rfl) (by kernel_rfl) (by kernel_rfl) (laidWorld_met os _)) ?_
  intro W base args ds gs before hval0 hW _ hsz0 hL _
  have T := tabs_of_laid hL
  have hval : ∀ (j : Nat) t v, Tryz.f6.params[j]? = some t → args[j]? = some v → Value.okWide Tryz.prog W .any base t v := hval0
  have hW' := hW
  obtain ⟨p, q, hA0, hV, rfl, hfz, hnd⟩ := hW
  have hA : DataW.TrodAll enc Tryz.prog W 0 (fun _ => true) true [22, 3] args.toList ds p := hA0
  obtain ⟨v0, v1, d0, d1, p0, p1, rfl, rfl, rfl, h0, h1⟩ := trodAll_two hA
  obtain ⟨rfl, rfl⟩ := trodVars_none hV
  obtain ⟨A0, l0, c0, rfl, hf0⟩ := open_facts (hval 0 22 v0 rfl rfl) h0
  obtain ⟨i1, rfl, _, _, wf1⟩ := open_int under3 (hval 1 3 v1 rfl rfl) h1
  refine (FactsKnown_spec hf0 T i1 W (Same.refl W)).mono ?_
  rintro e W' ⟨⟨v, w'', rfl, ⟨rfl, he⟩, hs⟩, _⟩
  have he' : Ext W W' := he.same_right hs
  refine ⟨_, rfl, ?_⟩
  refine ⟨[d0, d1], [], (p0 ++ p1) ++ [], [], p0 ++ (p1), [], hW', ?_, ?_, rfl, Below.frame he' _, fun h => by cases h⟩
  · exact trodAll_mk1 (shut_bool under4 true)
  · exact trodAll_mk2 (Below.trod laidOut recFs rowFs h0 he' fun x hx => hW'.lt x (by simp [hx])) (Below.trod laidOut rec3 row3 h1 he' fun x hx => hW'.lt x (by simp [hx]))

set_option maxHeartbeats 4000000 in
theorem factsKnown_closed : joinedFacts Tryz.pinned.checked.prog 6 Tryz.f6 Rows.factsKnownSpec Rows.factsKnownRow = true := by
  unfold joinedFacts
  iterate 31 refine Bool.and_eq_true_iff.2 ⟨?_, ?_⟩
  · as_aux_lemma => kernel_rfl
  · exact kLaid
  · exact kMaps
  · as_aux_lemma => kernel_rfl
  · as_aux_lemma => kernel_rfl
  · as_aux_lemma => kernel_rfl
  · exact kStops
  · as_aux_lemma => kernel_rfl
  · exact kKnobs
  · as_aux_lemma => kernel_rfl
  · as_aux_lemma => kernel_rfl
  · as_aux_lemma => kernel_rfl
  · as_aux_lemma => kernel_rfl
  · as_aux_lemma => kernel_rfl
  · as_aux_lemma => kernel_rfl
  · as_aux_lemma => kernel_rfl
  · as_aux_lemma => kernel_rfl
  · as_aux_lemma => kernel_rfl
  · as_aux_lemma => kernel_rfl
  · as_aux_lemma => kernel_rfl
  · as_aux_lemma => kernel_rfl
  · as_aux_lemma => kernel_rfl
  · exact beq_iff_eq.2 kPlain.symm
  · as_aux_lemma => kernel_rfl
  · exact kHeard
  · exact kEnter
  · exact beq_iff_eq.2 kLifts.symm
  · as_aux_lemma => kernel_rfl
  · as_aux_lemma => kernel_rfl
  · as_aux_lemma => kernel_rfl
  · as_aux_lemma => kernel_rfl
  · as_aux_lemma => kernel_rfl

theorem factsKnown_named : Tryz.pinned.checked.prog.funcNamed Rows.factsKnownRow.func = some 6 := by kernel_rfl
theorem factsKnown_func : Tryz.pinned.checked.prog.funcs[6]? = some Tryz.f6 := Tryz.func6
theorem factsKnown_inst : Tryz.f6.isInstance Tryz.pinned.checked.prog Rows.factsKnownRow.origin Rows.factsKnownRow.targs := of_decide_eq_true (by kernel_rfl)
theorem factsKnown_wrap : Tryz.f6.isWrapper Tryz.pinned.checked.prog Rows.factsKnownRow.wrapper Rows.factsKnownRow.mainSum := by
  unfold Func.isWrapper; first | (rw [if_pos (by decide +kernel)]; kernel_rfl) | (rw [if_neg (by decide +kernel)]; exact ⟨rfl, rfl⟩)
theorem factsKnown_text : Rows.factsKnownRow.wfByText (OpenSpec.ofChange Rows.factsKnownSpec) = true := by kernel_rfl
theorem factsKnown_main : Tryz.pinned.checked.prog.mainIs = some (Rows.factsKnownCard.stood.harness.1, Rows.factsKnownCard.stood.harness.2.toList) := by kernel_rfl
theorem factsKnown_looks : true = Tryz.pinned.checked.prog.looks [] := by kernel_rfl
theorem factsKnown_goes : false = Rows.factsKnownRow.goesBy Tryz.pinned.checked.prog := by kernel_rfl
theorem factsKnown_stand : (Tryz.f6.params.toList.all fun t => !Tryz.pinned.checked.prog.wantsStandIn t) = true := by kernel_rfl

theorem factsKnown_holds : Rows.FactsKnownSaid :=
  OpenClaim.holds_of_wide 6 Tryz.f6 rfl rfl rfl rfl rfl rfl rfl ⟨rfl, rfl, rfl, rfl, rfl⟩ rfl rfl rfl rfl rfl factsKnown_named factsKnown_func factsKnown_closed factsKnown_inst factsKnown_wrap
    (fun os started H enc _ => factsKnown_lifted os started H enc)

theorem factsKnown : Rows.FactsKnownCardSaid :=
  Claim7.holds_tied_plain_at .later [] [.data, .data, .data, .sentinel, .sentinel] true Rows.factsKnownCard.stood.harness true
    factsKnown_holds (fun _ h => by cases h) factsKnown_text (fun _ h => by cases h) factsKnown_row_tie rfl ⟨rfl, rfl⟩ factsKnown_main rfl
    (fun f fn hf hfn => by
      obtain rfl : f = 6 := Option.some.inj (factsKnown_named.symm.trans hf) |>.symm
      obtain rfl : fn = Tryz.f6 := (Option.some.inj (factsKnown_func.symm.trans hfn)).symm
      refine ⟨factsKnown_looks, fun j t ht => ?_⟩
      have hm : t ∈ Tryz.f6.params.toList := by
        have := Array.mem_of_getElem? ht
        simpa using this
      exact Bool.not_eq_true' _ |>.mp (List.all_eq_true.1 factsKnown_stand t hm))
    factsKnown_goes

#print axioms factsKnown
end Go.Proofs.YthpdkdmbfdmamaaGreatDoor
