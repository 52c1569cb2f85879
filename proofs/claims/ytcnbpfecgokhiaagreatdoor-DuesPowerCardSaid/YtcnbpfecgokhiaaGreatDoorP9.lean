/- Proved: for every two lists of facts and waiver the law DuesPower returns true, and its arguments read behind the call as they did before; what the library's variables hold is tied to the program's text. No further condition. -/
import Derived.Test.YtcnbpfecgokhiaaGreatDoorDYc
import Derived.Test.YtcnbpfecgokhiaaGreatDoorDVb
import Derived.Test.YtcnbpfecgokhiaaGreatDoorDBe
import Derived.Test.YtcnbpfecgokhiaaGreatDoorDFb
import Derived.Test.YtcnbpfecgokhiaaGreatDoorDTc
import Derived.Test.YtcnbpfecgokhiaaGreatDoorDKa
set_option linter.unusedVariables false
set_option linter.unusedSimpArgs false
set_option linter.unnecessarySimpa false
set_option linter.unusedSectionVars false
namespace Go.Proofs.YtcnbpfecgokhiaaGreatDoor
open Go.Eng Go.RowKit

theorem known_late {k : Int} {x : Fact} (h : ¬ x.known ≤ k) : ∀ (l : List Fact), knownL k (l ++ [x]) = knownL k l
  | [] => by
    unfold knownL
    rw [List.nil_append, List.takeWhile_cons, if_neg (by simpa using h)]; rfl
  | y :: r => by
    have ih := known_late h r
    unfold knownL at *
    rw [List.cons_append, List.takeWhile_cons, List.takeWhile_cons, ih]
theorem at_of_known {k day : Int} {a b : List Fact} (h : knownL k a = knownL k b) : atL k day a = atL k day b := by
  unfold atL countL
  rw [h]
theorem may_same {a b : List Fact} {x : Waiv} (h : knownL x.day a = knownL x.day b) (hc : (chkF a).2 = (chkF b).2) : mayB a x = mayB b x ∧ mayE a x = mayE b x := by
  unfold mayB mayE
  rw [at_of_known h, hc]
  exact ⟨rfl, rfl⟩

structure Pow (f m : List Fact) (x : Waiv) (i : Nat) : Prop where
  nums : ∀ y ∈ m, y.Nums
  known : knownL x.day m = knownL x.day f
  chk : (chkF m).2 = (chkF f).2
  len : m.length ≤ f.length + i

set_option maxRecDepth 100000 in
theorem DuesPower_spec {w : World} {A B : Option Addr} {f g : List Fact} {c d : Nat} (hf : HF w A f c) (hg : HF w B g d) (T : TabP w) (x : Waiv) :
    CallsV C.P 9 #[.slice A f.length c, .slice B g.length d, x.val] w fun v w' => v = .bool true ∧ Ext w w' := by
  refine callsV_of C_ok (args := [_, _, _]) (plans := plans9) Tryz.func9 rfl Tryz.ntmps9 (by kernel_rfl) (Nat.le_of_ble_eq_true rfl) ?_
  intro g5 w1 h1
  have M1 : Mem w w1 [(g5, .cells x.cells.toArray 35 (0, 0))] := (Mem.start w).alloc h1
  have hcap := hg.cap
  have T1 := tabP_ext T M1.ext
  refine (few_spec (s := []) (B := none) (d := 0) (hf.ext M1.ext) (Nat.zero_le _)).mono ?_
  rintro v w2 ⟨⟨bf, rfl, hb⟩, rfl⟩
  refine brE_mk (fun c1 => ?_) (fun c1 => ?_)
  · refine (grants_spec w2 T1).mono ?_
    rintro v w3 ⟨rfl, e3⟩
    exact ⟨rfl, M1.ext.trans e3⟩
  obtain ⟨hfl, -⟩ := hb (by simpa using c1)
  refine brE_dec (fun c2 => ?_) (fun c2 => ?_)
  · refine (grants_spec w2 T1).mono ?_
    rintro v w3 ⟨rfl, e3⟩
    exact ⟨rfl, M1.ext.trans e3⟩
  have c2 : ¬ ((g.length : Nat) : Int) > 20 := c2
  have hgl : g.length ≤ 20 := by omega
  refine ⟨x.cells, rfl, M1.rd 0 rfl, ?_⟩
  refine (MaySign_spec (hf.ext M1.ext) (by omega) x).mono ?_
  rintro v w3 ⟨rfl, e3⟩
  have M3 := M1.grow e3
  refine ⟨x.cells, rfl, M3.rd 0 rfl, ?_⟩
  refine (refMaySign_spec (hf.ext M3.ext) (by omega) x).mono ?_
  rintro v w4 ⟨rfl, e4⟩
  have M4 := M3.grow e4
  refine ⟨_, neqBool _ _ _ _, ?_⟩
  refine brE_false (bne_self_eq_false _) ?_
  refine brE_ndec (fun h => absurd rfl h) (fun _ => ?_)
  intro g0 w5 h5
  have ho0 : w5.ownsRow w.heap.size 81 9 (.slice (some ⟨g0, 0, none⟩) 0 0) 0 [] := owns_block (cs := []) h5.here (by rw [h5.new]; exact M4.ext.size) rfl (Nat.zero_le _)
  have M5 := M4.grow h5.ext
  have hr5 := (hf.ext M5.ext).reads
  refine ⟨rfl, rfl, rfl, w.heap.size, 0, [], fcells f, ho0, M5.ext.size, Nat.le_of_ble_eq_true rfl, rfl, by rw [fcells_length], hr5, someF hr5, oneF f, by omega, by simp only [maxLen]; omega, ?_⟩
  intro v6 w6 ho6 hg6 _
  have M6 : Mem w w6 [(g5, .cells x.cells.toArray 35 (0, 0))] := M5.grown hg6 (fun k hk => (ho0.lt k hk).1) (fun p hp => by
    rw [List.mem_singleton.1 hp]
    intro e
    injection e with e
    have e : g5 = g0 := e
    have := M5.get 0 rfl
    rw [e, h5.here] at this
    simp at this)
  have hn6 : NewF w.heap.size w6 v6 f := by
    unfold NewF
    have := ho6
    rw [List.nil_append, Nat.zero_add] at this
    exact this
  refine loopE C_ok (fun (p : Nat × Value × List Fact) => [(1, .slice B g.length d), (5, .pointer (some ⟨g5, 0, none⟩)), (7, .bool (mayB f x)), (8, .int .i64 (mayE f x)), (11, p.2.1), (12, .int .i64 p.1)])
    (fun p w' => p.1 ≤ g.length ∧ Mem w w' [(g5, .cells x.cells.toArray 35 (0, 0))] ∧ NewF w.heap.size w' p.2.1 p.2.2 ∧ Pow f p.2.2 x p.1) (fun p => g.length - p.1) (0, v6, f) ⟨rfl, rfl, rfl, rfl, rfl, rfl, trivial⟩
    ⟨Nat.zero_le _, M6, hn6, ⟨hf.nums, rfl, rfl, Nat.le_refl _⟩⟩ ?_
  rintro ⟨i, v, m⟩ w7 ⟨hi', M7', ho', P'⟩
  have hi : i ≤ g.length := hi'
  have M7 : Mem w w7 [(g5, .cells x.cells.toArray 35 (0, 0))] := M7'
  have ho : NewF w.heap.size w7 v m := ho'
  have P : Pow f m x i := P'
  clear hi' M7' ho' P'
  have hlen := P.len
  refine brE_dec (fun hlt => ?_) (fun hge => ?_)
  · have hlti : i < g.length := by have : (i : Int) < (g.length : Nat) := hlt; omega
    have next : IntKind.i64.wrap ((i : Int) + 1) = ((i + 1 : Nat) : Int) := fit ⟨by omega, by omega⟩
    obtain ⟨b, o, hAd, hc⟩ := Reads.fact (hg.ext M7.ext).reads hlti
    refine ⟨i, b, o, rfl, hlti, hAd, ?_⟩
    refine ⟨_, hc 1 _ rfl, ?_⟩
    refine ⟨_, M7.cell 0 rfl rfl, ?_⟩
    refine brE_dec (fun c3 => ?_) (fun c3 => ?_)
    · have c3 : g[i].known > x.day := c3
      refine ⟨i, b, o, rfl, hlti, hAd, ?_⟩
      refine ⟨g[i].cells, rfl, hc, ?_⟩
      obtain ⟨Am, cm, rfl, hm⟩ := ho.hf P.nums
      have hgn := hg.nums g[i] (List.getElem_mem hlti)
      refine (Append_spec hm (by omega) hgn).mono ?_
      rintro v w8 ⟨⟨r, rfl, hr⟩, e8⟩
      have M8 := M7.grow e8
      refine brE_dec (fun c4 => ?_) (fun c4 => ?_)
      · have c4 : appE m g[i] = 0 := c4
        have hL : appL m g[i] = m ++ [g[i]] := by unfold appL; rw [if_pos c4]
        rw [hL] at hr
        have hk : (chkF m).2 = 0 := by
          unfold appE at c4
          split at c4
          · rename_i h0; exact absurd c4 h0
          · rename_i h0; exact Decidable.not_not.1 h0
        have hk2 : (chkF (m ++ [g[i]])).2 = 0 := by
          unfold appE at c4
          rw [if_neg (fun h => h hk)] at c4
          exact c4
        refine ⟨_, next, ?_⟩
        refine ⟨(i + 1, r, m ++ [g[i]]), ⟨rfl, rfl, rfl, rfl, rfl, rfl, trivial⟩, ⟨hlti, M8, hr.base M7.ext.size, ⟨?_, ?_, ?_, ?_⟩⟩, by show g.length - (i + 1) < g.length - i; omega⟩
        · intro y hy
          rcases List.mem_append.1 hy with hy | hy
          · exact P.nums y hy
          · rw [List.mem_singleton.1 hy]; exact hgn
        · rw [known_late (by omega)]; exact P.known
        · rw [hk2, ← P.chk, hk]
        · rw [List.length_append, List.length_singleton]; omega
      · refine ⟨_, next, ?_⟩
        exact ⟨(i + 1, _, m), ⟨rfl, rfl, rfl, rfl, rfl, rfl, trivial⟩, ⟨hlti, M8, ho.ext e8, ⟨P.nums, P.known, P.chk, by show m.length ≤ f.length + (i + 1); omega⟩⟩, by show g.length - (i + 1) < g.length - i; omega⟩
    · refine ⟨_, next, ?_⟩
      exact ⟨(i + 1, v, m), ⟨rfl, rfl, rfl, rfl, rfl, rfl, trivial⟩, ⟨hlti, M7, ho, ⟨P.nums, P.known, P.chk, by show m.length ≤ f.length + (i + 1); omega⟩⟩, by show g.length - (i + 1) < g.length - i; omega⟩
  · obtain ⟨Am, cm, rfl, hm⟩ := ho.hf P.nums
    refine ⟨x.cells, rfl, M7.rd 0 rfl, ?_⟩
    obtain ⟨s1, s2⟩ := may_same P.known P.chk
    refine (MaySign_spec hm (by omega) x).mono ?_
    rintro v w8 ⟨rfl, e8⟩
    have M8 := M7.grow e8
    rw [s1, s2]
    refine (grants_spec w8 (tabP_ext T M8.ext)).mono ?_
    rintro v w9 ⟨rfl, e9⟩
    refine ⟨_, eqBool _ _ _ _, ?_⟩
    refine brE_true (beq_self_eq_true _) ?_
    exact ⟨congrArg Value.bool (decide_eq_true rfl), M8.ext.trans e9⟩

end Go.Proofs.YtcnbpfecgokhiaaGreatDoor

namespace Go.Proofs.YtcnbpfecgokhiaaGreatDoor
open Go.Eng Go.RowKit Go.ChangeShapes Go.WideShapes Go.ChangeAt
open Go.ChangeMaps (open_string shut_string)

set_option maxRecDepth 100000 in
theorem duesPower_lifted (os : Os) (started : os.Started) (H : Type) (enc : TypeId × Value → H) :
    ReturnsInHanded {} Tryz.checked os 9 .any (fun w args => (Rows.duesPowerSpec.pre enc Tryz.prog Tryz.f9 Rows.duesPowerRow.domain false w args ∧ laidMet Tryz.prog laidL w) ∧ sizedMet enc Tryz.prog Tryz.f9 (OpenSpec.ofChange Rows.duesPowerSpec) false w args)
      (Rows.duesPowerSpec.post enc Tryz.prog Tryz.f9 false true false false) := by
  refine returnsInHanded_of_change_and (C := Tryz.checked) (X := fun w _ => laidMet Tryz.prog laidL w) (fun _ _ _ hh h => h.of_heap hh) own started (by kernel_rfl) Tryz.func9
    (ChangeSpec.witness_at (enc := enc) (C := Tryz.checked) (os := os) (X := fun w _ => laidMet Tryz.prog laidL w) false (laidWorld os) #[.slice none 0 0, .slice none 0 0, .agg #[.int .i64 0, .int .i64 0, .int .i64 0, .int .i64 0, .int .i64 0, .int .i64 0, .int .i64 0, .int .i64 0, .int .i64 0]] 8 rfl (by kernel_rfl) (by kernel_rfl) (by kernel_rfl) (by kernel_rfl) (by kernel_rfl) (laidWorld_met os _)) ?_
  intro W base args ds gs before hval0 hW _ hsz0 hL _
  have T := tabs_of_laid hL
  have hval : ∀ (j : Nat) t v, Tryz.f9.params[j]? = some t → args[j]? = some v → Value.okWide Tryz.prog W .any base t v := hval0
  have hW' := hW
  obtain ⟨p, q, hA0, hV, rfl, hfz, hnd⟩ := hW
  have hA : DataW.TrodAll enc Tryz.prog W 0 (fun _ => true) true [22, 22, 35] args.toList ds p := hA0
  obtain ⟨v0, v1, v2, d0, d1, d2, p0, p1, p2, rfl, rfl, rfl, h0, h1, h2⟩ := trodAll_three hA
  obtain ⟨rfl, rfl⟩ := trodVars_none hV
  obtain ⟨A0, l0, c0, rfl, hf0⟩ := open_facts (hval 0 22 v0 rfl rfl) h0
  obtain ⟨A1, l1, c1, rfl, hf1⟩ := open_facts (hval 1 22 v1 rfl rfl) h1
  obtain ⟨x2, rfl, hx2⟩ := open_vW (hval 2 35 v2 rfl rfl) h2
  refine (DuesPower_spec hf0 hf1 T x2 W (Same.refl W)).mono ?_
  rintro e W' ⟨⟨v, w'', rfl, ⟨rfl, he⟩, hs⟩, _⟩
  have he' : Ext W W' := he.same_right hs
  refine ⟨_, rfl, ?_⟩
  refine ⟨[d0, d1, d2], [], (p0 ++ p1 ++ p2) ++ [], [], p0 ++ (p1 ++ (p2)), [], hW', ?_, ?_, rfl, Below.frame he' _, fun h => by cases h⟩
  · exact trodAll_mk1 (shut_bool under4 true)
  · exact trodAll_mk3 (Below.trod laidOut recFs rowFs h0 he' fun x hx => hW'.lt x (by simp [hx])) (Below.trod laidOut recFs rowFs h1 he' fun x hx => hW'.lt x (by simp [hx])) (Below.trod laidOut recW6 rowW6 h2 he' fun x hx => hW'.lt x (by simp [hx]))

set_option maxHeartbeats 4000000 in
theorem duesPower_closed : joinedFacts Tryz.pinned.checked.prog 9 Tryz.f9 Rows.duesPowerSpec Rows.duesPowerRow = true := by
  unfold joinedFacts
  iterate 31 refine Bool.and_eq_true_iff.2 ⟨?_, ?_⟩
  · as_aux_lemma => kernel_rfl
  · exact kLaid
  · exact kMaps
  · as_aux_lemma => kernel_rfl
  · as_aux_lemma => kernel_rfl
  · as_aux_lemma => kernel_rfl
  · exact kStops
  · as_aux_lemma => kernel_rfl
  · exact kKnobs
  · as_aux_lemma => kernel_rfl
  · as_aux_lemma => kernel_rfl
  · as_aux_lemma => kernel_rfl
  · as_aux_lemma => kernel_rfl
  · as_aux_lemma => kernel_rfl
  · as_aux_lemma => kernel_rfl
  · as_aux_lemma => kernel_rfl
  · as_aux_lemma => kernel_rfl
  · as_aux_lemma => kernel_rfl
  · as_aux_lemma => kernel_rfl
  · as_aux_lemma => kernel_rfl
  · as_aux_lemma => kernel_rfl
  · as_aux_lemma => kernel_rfl
  · exact beq_iff_eq.2 kPlain.symm
  · as_aux_lemma => kernel_rfl
  · exact kHeard
  · exact kEnter
  · exact beq_iff_eq.2 kLifts.symm
  · as_aux_lemma => kernel_rfl
  · as_aux_lemma => kernel_rfl
  · as_aux_lemma => kernel_rfl
  · as_aux_lemma => kernel_rfl
  · as_aux_lemma => kernel_rfl

theorem duesPower_named : Tryz.pinned.checked.prog.funcNamed Rows.duesPowerRow.func = some 9 := by kernel_rfl
theorem duesPower_func : Tryz.pinned.checked.prog.funcs[9]? = some Tryz.f9 := Tryz.func9
theorem duesPower_inst : Tryz.f9.isInstance Tryz.pinned.checked.prog Rows.duesPowerRow.origin Rows.duesPowerRow.targs := of_decide_eq_true (by kernel_rfl)
theorem duesPower_wrap : Tryz.f9.isWrapper Tryz.pinned.checked.prog Rows.duesPowerRow.wrapper Rows.duesPowerRow.mainSum := by
  unfold Func.isWrapper; first | (rw [if_pos (by decide +kernel)]; kernel_rfl) | (rw [if_neg (by decide +kernel)]; exact ⟨rfl, rfl⟩)
theorem duesPower_text : Rows.duesPowerRow.wfByText (OpenSpec.ofChange Rows.duesPowerSpec) = true := by kernel_rfl
theorem duesPower_main : Tryz.pinned.checked.prog.mainIs = some (Rows.duesPowerCard.stood.harness.1, Rows.duesPowerCard.stood.harness.2.toList) := by kernel_rfl
theorem duesPower_looks : true = Tryz.pinned.checked.prog.looks [] := by kernel_rfl
theorem duesPower_goes : false = Rows.duesPowerRow.goesBy Tryz.pinned.checked.prog := by kernel_rfl
theorem duesPower_stand : (Tryz.f9.params.toList.all fun t => !Tryz.pinned.checked.prog.wantsStandIn t) = true := by kernel_rfl

theorem duesPower_holds : Rows.DuesPowerSaid :=
  OpenClaim.holds_of_wide 9 Tryz.f9 rfl rfl rfl rfl rfl rfl rfl ⟨rfl, rfl, rfl, rfl, rfl⟩ rfl rfl rfl rfl rfl duesPower_named duesPower_func duesPower_closed duesPower_inst duesPower_wrap
    (fun os started H enc _ => duesPower_lifted os started H enc)

theorem duesPower : Rows.DuesPowerCardSaid :=
  Claim7.holds_tied_plain_at .later [] [.data, .data, .data] true Rows.duesPowerCard.stood.harness true
    duesPower_holds (fun _ h => by cases h) duesPower_text (fun _ h => by cases h) duesPower_row_tie rfl ⟨rfl, rfl⟩ duesPower_main rfl
    (fun f fn hf hfn => by
      obtain rfl : f = 9 := Option.some.inj (duesPower_named.symm.trans hf) |>.symm
      obtain rfl : fn = Tryz.f9 := (Option.some.inj (duesPower_func.symm.trans hfn)).symm
      refine ⟨duesPower_looks, fun j t ht => ?_⟩
      have hm : t ∈ Tryz.f9.params.toList := by
        have := Array.mem_of_getElem? ht
        simpa using this
      exact Bool.not_eq_true' _ |>.mp (List.all_eq_true.1 duesPower_stand t hm))
    duesPower_goes

#print axioms duesPower
end Go.Proofs.YtcnbpfecgokhiaaGreatDoor
