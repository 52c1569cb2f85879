/- Proved: for every list of facts and operations the law DuesRuns returns true, and its arguments read behind the call as they did before; what the library's variables hold is tied to the program's text. No further condition. -/
import Derived.Test.YtcnbpfecgokhiaaGreatDoorDYc
import Derived.Test.YtcnbpfecgokhiaaGreatDoorDYa
import Derived.Test.YtcnbpfecgokhiaaGreatDoorDVd
import Derived.Test.YtcnbpfecgokhiaaGreatDoorDTc
import Derived.Test.YtcnbpfecgokhiaaGreatDoorDKa
set_option linter.unusedVariables false
set_option linter.unusedSimpArgs false
set_option linter.unnecessarySimpa false
set_option linter.unusedSectionVars false
namespace Go.Proofs.YtcnbpfecgokhiaaGreatDoor
open Go.Eng Go.RowKit

theorem LdNew.go2 {w0 w w' : World} {l : LV} {es es' : List Entry} (h : LdNew w0 w l es) (k : LdGo w l es' w') : ∃ l', l'.gl = l.gl ∧ LdNew w0 w' l' es' ∧ Keep (fun k => ¬ l.has k) w w' ∧ ∀ k, l'.has k → l.has k ∨ w.heap.size ≤ k := by
  obtain ⟨l', hg, hi, hk, hn⟩ := k
  refine ⟨l', hg, ⟨hi, fun q hq => ?_, ⟨hk.os.trans h.ext.os, hk.tape.trans h.ext.tape, hk.output.trans h.ext.output, Nat.le_trans h.ext.size hk.size, fun q hq => ?_⟩⟩, hk, hn⟩
  · rcases hn q hq with h1 | h1
    · exact h.new q h1
    · exact Nat.le_trans h.ext.size h1
  · rw [hk.block q (fun h1 => by have := h.new q h1; omega) (Nat.lt_of_lt_of_le hq h.ext.size)]
    exact h.ext.block q hq
theorem lt_of_cell {w : World} {b i : Nat} {v : Value} (h : w.cell? ⟨b, i, none⟩ = some v) : b < w.heap.size := by
  unfold World.cell? at h
  cases e : w.heap[b]? with
  | none => simp [e] at h
  | some o => exact lt_of_heap e
theorem hl_keep {D : Nat → Prop} {w w' : World} {A : Option Addr} {l : List Entry} {c : Nat} (h : HL Entry.cells w A l c) (k : Keep D w w') (hd : l ≠ [] → ∀ ad, A = some ad → D ad.block) : HL Entry.cells w' A l c := by
  refine ⟨?_, h.len, h.cap⟩
  rcases h.reads with h0 | ⟨b, i, hA, hr⟩
  · exact .inl h0
  · refine .inr ⟨b, i, hA, fun j v hv => ?_⟩
    · have h1 := hr j v hv
      have hne : l ≠ [] := fun e => by rw [e] at hv; simp at hv
      rw [← h1]
      exact World.cell?_of_block (k.block b (hd hne _ hA) (lt_of_cell h1))
theorem hl_lt {w : World} {A : Option Addr} {l : List Entry} {c : Nat} (h : HL Entry.cells w A l c) (hn : l ≠ []) : ∀ ad, A = some ad → ad.block < w.heap.size := fun ad had => by
  cases l with
  | nil => exact absurd rfl hn
  | cons x r =>
    rcases h.reads with h0 | ⟨b, i, hA, hr⟩
    · exact absurd h0 (by simp [Entry.cells])
    · have h1 := hr 0 (.int .u8 x.kind) rfl
      rw [hA] at had
      cases had
      exact lt_of_cell h1

set_option maxRecDepth 100000 in
set_option maxHeartbeats 2000000 in
theorem DuesRuns_spec {w : World} {A B : Option Addr} {f : List Fact} {s : List Opn} {c d : Nat} (hf : HF w A f c) (hs : HL Opn.cells w B s d) (hn : ∀ o ∈ s, o.Nums) (T : TabP w) :
    CallsV C.P 3 #[.slice A f.length c, .slice B s.length d] w fun v w' => v = .bool true ∧ Ext w w' := by
  refine callsV_of C_ok (args := [_, _]) (plans := plans3) Tryz.func3 rfl Tryz.ntmps3 (by kernel_rfl) (Nat.le_of_ble_eq_true rfl) ?_
  refine (few_spec hf hs.cap).mono ?_
  rintro v w0 ⟨⟨bf, rfl, hb⟩, rfl⟩
  refine brE_mk (fun c1 => ?_) (fun c1 => ?_)
  · refine (grants_spec w0 T).mono ?_
    rintro v w2 ⟨rfl, e2⟩
    exact ⟨rfl, e2⟩
  obtain ⟨hfl, hsl⟩ := hb (by simpa using c1)
  obtain ⟨w, hw⟩ : ∃ w, w = w0 := ⟨_, rfl⟩
  rw [← hw] at hf hs T ⊢
  refine (New_spec w).mono ?_
  rintro v w1 ⟨l0, rfl, h0⟩
  intro g6 w2 h2
  have hg60 : ¬ l0.has g6 := fun hk => by have := h0.is.lt hk; rw [h2.new] at this; omega
  have hge6 : w.heap.size ≤ g6 := by rw [h2.new]; exact h0.ext.size
  refine loopE C_ok (fun (p : Nat × Option Addr × Nat) => [(0, .slice A f.length c), (1, .slice B s.length d), (5, l0.ptr), (6, .pointer (some ⟨g6, 0, none⟩)), (7, .int .i64 p.1)])
    (fun p w' => p.1 ≤ s.length ∧ ∃ l : LV, l.gl = l0.gl ∧ LdNew w w' l (builtL f (s.take p.1)) ∧ HL Entry.cells w' p.2.1 (builtL f (s.take p.1)) p.2.2 ∧ w'.heap[g6]? = some (.cells #[.slice p.2.1 (builtL f (s.take p.1)).length p.2.2] 30 (0, 0)) ∧ ¬ l.has g6 ∧ (builtL f (s.take p.1) ≠ [] → ∀ ad, p.2.1 = some ad → ¬ l.has ad.block)) (fun p => s.length - p.1) (0, none, 0) ⟨rfl, rfl, rfl, rfl, rfl, trivial⟩
    ⟨Nat.zero_le _, l0, rfl, by rw [List.take_zero]; exact h0.then h2.ext, ⟨.inl rfl, Nat.le_refl _, Nat.zero_le _⟩, h2.here, hg60, fun hne => absurd rfl hne⟩ ?_
  rintro ⟨i, Am, cm⟩ w3 ⟨hi', l, hgl, hl', hm', hg', hng, hA'⟩
  have hi : i ≤ s.length := hi'
  have hl : LdNew w w3 l (builtL f (s.take i)) := hl'
  have hm : HL Entry.cells w3 Am (builtL f (s.take i)) cm := hm'
  have hg6 : w3.heap[g6]? = some (.cells #[.slice Am (builtL f (s.take i)).length cm] 30 (0, 0)) := hg'
  have hAm : builtL f (s.take i) ≠ [] → ∀ ad, Am = some ad → ¬ l.has ad.block := hA'
  clear hi' hl' hm' hg' hA'
  have hptr : l.ptr = l0.ptr := by unfold LV.ptr; rw [hgl]
  have hlen := (acc_built f (s.take i)).2
  have hacc := (acc_built f (s.take i)).1
  rw [List.length_take] at hlen
  refine brE_dec (fun hlt => ?_) (fun hge => ?_)
  · have hlti : i < s.length := by have : (i : Int) < (s.length : Nat) := hlt; omega
    have next : IntKind.i64.wrap ((i : Int) + 1) = ((i + 1 : Nat) : Int) := fit ⟨by omega, by omega⟩
    have hlen2 := (acc_built f (s.take (i + 1))).2
    rw [List.length_take, built_take hlti] at hlen2
    obtain ⟨b, o, hB, hr⟩ := Opn.part_at (hs.ext hl.ext) hlti
    refine ⟨i, b, o, rfl, hlti, hB, ?_⟩
    refine ⟨s[i].cells, rfl, hr, ?_⟩
    have hd := did_spec hl.is (by omega) (hf.ext hl.ext) (by omega) (hn s[i] (List.getElem_mem hlti))
    rw [hptr] at hd
    refine hd.mono ?_
    clear hd
    rintro v w4 ⟨rfl, hgo⟩
    obtain ⟨l3, hg3, h3, hk3, hn3⟩ := hl.go2 hgo
    have hptr3 : l3.ptr = l0.ptr := by unfold LV.ptr; rw [hg3, hgl]
    have hm3 := hl_keep hm hk3 hAm
    have hg63 : w4.heap[g6]? = some (.cells #[.slice Am (builtL f (s.take i)).length cm] 30 (0, 0)) := by rw [hk3.block g6 hng (lt_of_heap hg6)]; exact hg6
    have hn63 : ¬ l3.has g6 := fun hk => (hn3 g6 hk).elim hng (fun h => by have := lt_of_heap hg6; omega)
    have hA3 : builtL f (s.take i) ≠ [] → ∀ ad, Am = some ad → ¬ l3.has ad.block := fun hne ad had hk => (hn3 ad.block hk).elim (hAm hne ad had) (fun h => by have := hl_lt hm hne ad had; omega)
    refine ⟨[_], rfl, Rd.of_block hg63, ?_⟩
    obtain ⟨b2, o2, hB2, hr2⟩ := Opn.part_at (hs.ext h3.ext) hlti
    refine ⟨i, b2, o2, rfl, hlti, hB2, ?_⟩
    refine ⟨s[i].cells, rfl, hr2, ?_⟩
    refine ⟨?forkA, ?forkB⟩
    case forkA =>
      refine (expected_spec hm3 (by omega) hacc (hf.ext h3.ext) (by omega) (hn s[i] (List.getElem_mem hlti))).mono ?_
      rintro v w4b ⟨⟨A', c', rfl, hH, hFr⟩, e4⟩
      refine ⟨e4, ?_⟩
      intro g10 w5 h5
      refine ⟨h5.ext, ?_⟩
      refine ⟨rfl, _, _, h5.here, Nat.le_of_ble_eq_true rfl, rfl, ?_⟩
      intro w6 h6
      have e36 : Ext w4 w6 := h6.ext_of (e4.trans h5.ext) (by rw [h5.new]; exact e4.size)
      have hH6 := hl_put (hH.ext h5.ext) h5.here h6
      have hg10 := h6.here
      refine brE_ndec (fun h => absurd rfl h) (fun _ => ?_)
      refine brE_ndec (fun h => absurd rfl h) (fun _ => ?_)
      refine ⟨[_], rfl, Rd.of_block hg10, ?_⟩
      have h6is := (h3.is.ext e36)
      have hday := Day_spec h6is (by omega)
      rw [hptr3] at hday
      refine hday.mono ?_
      rintro v w7 ⟨rfl, rfl⟩
      refine ⟨Ext.refl _, ?_⟩
      refine (refDay_spec hH6).mono ?_
      rintro v w8 ⟨rfl, e8⟩
      refine brE_ndec (fun h => absurd rfl h) (fun _ => ?_)
      refine ⟨[_], rfl, Rd.of_block (e8.heap hg10), ?_⟩
      have hg68 := (e36.trans e8).heap hg63
      refine ⟨rfl, _, _, hg68, Nat.le_of_ble_eq_true rfl, rfl, ?_⟩
      intro w9 h9
      refine ⟨_, next, ?_⟩
      refine ⟨(i + 1, A', c'), ⟨rfl, rfl, rfl, rfl, rfl, trivial⟩, ⟨hlti, l3, hg3.trans hgl, ?_, ?_, ?_, ?_, ?_⟩, by show s.length - (i + 1) < s.length - i; omega⟩
      · show LdNew w w9 l3 (builtL f (s.take (i + 1)))
        rw [built_take hlti]
        exact ⟨(h3.is.ext (e36.trans e8)).keep fun k hk => h9.there k (fun e => hn63 (e ▸ hk)), h3.new, h9.ext_of (h3.ext.trans (e36.trans e8)) hge6⟩
      · show HL Entry.cells w9 A' (builtL f (s.take (i + 1))) c'
        rw [built_take hlti]
        exact hl_put (hH6.ext e8) hg68 h9
      · show w9.heap[g6]? = some (.cells #[.slice A' (builtL f (s.take (i + 1))).length c'] 30 (0, 0))
        rw [built_take hlti]
        exact h9.here
      · exact hn63
      · show builtL f (s.take (i + 1)) ≠ [] → _
        rw [built_take hlti]
        intro hne ad had
        rcases hFr with ⟨h, hee⟩ | h
        · rw [hee] at hne; rw [h] at had; exact hA3 hne ad had
        · exact fun hk => by have := h3.is.lt hk; have := h ad had; omega
    case forkB =>
      intro g10 w4b h4
      refine ⟨h4.ext, ?_⟩
      refine (expected_spec (hm3.ext h4.ext) (by omega) hacc (hf.ext (h3.ext.trans h4.ext)) (by omega) (hn s[i] (List.getElem_mem hlti))).mono ?_
      rintro v w5 ⟨⟨A', c', rfl, hH, hFr'⟩, e5⟩
      refine ⟨e5, ?_⟩
      refine ⟨rfl, _, _, e5.heap h4.here, Nat.le_of_ble_eq_true rfl, rfl, ?_⟩
      intro w6 h6
      have e36 : Ext w4 w6 := h6.ext_of (h4.ext.trans e5) (by rw [h4.new]; exact Nat.le_refl _)
      have hH6 := hl_put hH (e5.heap h4.here) h6
      have hg10 := h6.here
      have hFr := hFr'.of_ext h4.ext
      refine brE_ndec (fun h => absurd rfl h) (fun _ => ?_)
      refine brE_ndec (fun h => absurd rfl h) (fun _ => ?_)
      refine ⟨[_], rfl, Rd.of_block hg10, ?_⟩
      have h6is := (h3.is.ext e36)
      have hday := Day_spec h6is (by omega)
      rw [hptr3] at hday
      refine hday.mono ?_
      rintro v w7 ⟨rfl, rfl⟩
      refine ⟨Ext.refl _, ?_⟩
      refine (refDay_spec hH6).mono ?_
      rintro v w8 ⟨rfl, e8⟩
      refine brE_ndec (fun h => absurd rfl h) (fun _ => ?_)
      refine ⟨[_], rfl, Rd.of_block (e8.heap hg10), ?_⟩
      have hg68 := (e36.trans e8).heap hg63
      refine ⟨rfl, _, _, hg68, Nat.le_of_ble_eq_true rfl, rfl, ?_⟩
      intro w9 h9
      refine ⟨_, next, ?_⟩
      refine ⟨(i + 1, A', c'), ⟨rfl, rfl, rfl, rfl, rfl, trivial⟩, ⟨hlti, l3, hg3.trans hgl, ?_, ?_, ?_, ?_, ?_⟩, by show s.length - (i + 1) < s.length - i; omega⟩
      · show LdNew w w9 l3 (builtL f (s.take (i + 1)))
        rw [built_take hlti]
        exact ⟨(h3.is.ext (e36.trans e8)).keep fun k hk => h9.there k (fun e => hn63 (e ▸ hk)), h3.new, h9.ext_of (h3.ext.trans (e36.trans e8)) hge6⟩
      · show HL Entry.cells w9 A' (builtL f (s.take (i + 1))) c'
        rw [built_take hlti]
        exact hl_put (hH6.ext e8) hg68 h9
      · show w9.heap[g6]? = some (.cells #[.slice A' (builtL f (s.take (i + 1))).length c'] 30 (0, 0))
        rw [built_take hlti]
        exact h9.here
      · exact hn63
      · show builtL f (s.take (i + 1)) ≠ [] → _
        rw [built_take hlti]
        intro hne ad had
        rcases hFr with ⟨h, hee⟩ | h
        · rw [hee] at hne; rw [h] at had; exact hA3 hne ad had
        · exact fun hk => by have := h3.is.lt hk; have := h ad had; omega
  · have hie : i = s.length := by have : ¬ (i : Int) < (s.length : Nat) := hge; omega
    refine (grants_spec w3 (tabP_ext T hl.ext)).mono ?_
    rintro v w4 ⟨rfl, e4⟩
    refine ⟨_, cell_of_block (i := 0) (e4.heap hg6) rfl, ?_⟩
    have hE := Entries_spec (hl.is.ext e4) (by omega)
    rw [hptr] at hE
    refine hE.mono ?_
    rintro v w5 ⟨hv, e5⟩
    obtain ⟨A5, c5, rfl, hH5⟩ := hv.hl
    refine ⟨e5, ?_⟩
    refine (SameEs_spec hH5 (hm.ext (e4.trans e5))).mono ?_
    rintro v w6 ⟨rfl, rfl⟩
    exact ⟨congrArg _ (decide_eq_true rfl), hl.ext.trans (e4.trans e5)⟩

end Go.Proofs.YtcnbpfecgokhiaaGreatDoor

namespace Go.Proofs.YtcnbpfecgokhiaaGreatDoor
open Go.Eng Go.RowKit Go.ChangeShapes Go.WideShapes Go.ChangeAt
open Go.ChangeMaps (open_string shut_string)

set_option maxRecDepth 100000 in
theorem duesRuns_lifted (os : Os) (started : os.Started) (H : Type) (enc : TypeId × Value → H) :
    ReturnsInHanded {} Tryz.checked os 3 .any (fun w args => (Rows.duesRunsSpec.pre enc Tryz.prog Tryz.f3 Rows.duesRunsRow.domain false w args ∧ laidMet Tryz.prog laidL w) ∧ sizedMet enc Tryz.prog Tryz.f3 (OpenSpec.ofChange Rows.duesRunsSpec) false w args)
      (Rows.duesRunsSpec.post enc Tryz.prog Tryz.f3 false true false false) := by
  refine returnsInHanded_of_change_and (C := Tryz.checked) (X := fun w _ => laidMet Tryz.prog laidL w) (fun _ _ _ hh h => h.of_heap hh) own started (by kernel_rfl) Tryz.func3
    (ChangeSpec.witness_at (enc := enc) (C := Tryz.checked) (os := os) (X := fun w _ => laidMet Tryz.prog laidL w) false (laidWorld os) #[.slice none 0 0, .slice none 0 0] 8 rfl (by kernel_rfl) (by kernel_rfl) (by kernel_rfl) (by kernel_rfl) (by kernel_rfl) (laidWorld_met os _)) ?_
  intro W base args ds gs before hval0 hW _ hsz0 hL _
  have T := tabs_of_laid hL
  have hval : ∀ (j : Nat) t v, Tryz.f3.params[j]? = some t → args[j]? = some v → Value.okWide Tryz.prog W .any base t v := hval0
  have hW' := hW
  obtain ⟨p, q, hA0, hV, rfl, hfz, hnd⟩ := hW
  have hA : DataW.TrodAll enc Tryz.prog W 0 (fun _ => true) true [22, 23] args.toList ds p := hA0
  obtain ⟨v0, v1, d0, d1, p0, p1, rfl, rfl, rfl, h0, h1⟩ := trodAll_two hA
  obtain ⟨rfl, rfl⟩ := trodVars_none hV
  obtain ⟨A0, l0, c0, rfl, hf0⟩ := open_facts (hval 0 22 v0 rfl rfl) h0
  obtain ⟨A1, l1, c1, rfl, hs1, ns1⟩ := open_list Opn.len (by omega) (fun y => ⟨.u8, _, rfl⟩) underOs cellsO open_cO (hval 1 23 v1 rfl rfl) h1
  refine (DuesRuns_spec hf0 hs1 ns1 T W (Same.refl W)).mono ?_
  rintro e W' ⟨⟨v, w'', rfl, ⟨rfl, he⟩, hs⟩, _⟩
  have he' : Ext W W' := he.same_right hs
  refine ⟨_, rfl, ?_⟩
  refine ⟨[d0, d1], [], (p0 ++ p1) ++ [], [], p0 ++ (p1), [], hW', ?_, ?_, rfl, Below.frame he' _, fun h => by cases h⟩
  · exact trodAll_mk1 (shut_bool under4 true)
  · exact trodAll_mk2 (Below.trod laidOut recFs rowFs h0 he' fun x hx => hW'.lt x (by simp [hx])) (Below.trod laidOut recOs rowOs h1 he' fun x hx => hW'.lt x (by simp [hx]))

set_option maxHeartbeats 4000000 in
theorem duesRuns_closed : joinedFacts Tryz.pinned.checked.prog 3 Tryz.f3 Rows.duesRunsSpec Rows.duesRunsRow = true := by
  unfold joinedFacts
  iterate 31 refine Bool.and_eq_true_iff.2 ⟨?_, ?_⟩
  · as_aux_lemma => kernel_rfl
  · exact kLaid
  · exact kMaps
  · as_aux_lemma => kernel_rfl
  · as_aux_lemma => kernel_rfl
  · as_aux_lemma => kernel_rfl
  · exact kStops
  · as_aux_lemma => kernel_rfl
  · exact kKnobs
  · as_aux_lemma => kernel_rfl
  · as_aux_lemma => kernel_rfl
  · as_aux_lemma => kernel_rfl
  · as_aux_lemma => kernel_rfl
  · as_aux_lemma => kernel_rfl
  · as_aux_lemma => kernel_rfl
  · as_aux_lemma => kernel_rfl
  · as_aux_lemma => kernel_rfl
  · as_aux_lemma => kernel_rfl
  · as_aux_lemma => kernel_rfl
  · as_aux_lemma => kernel_rfl
  · as_aux_lemma => kernel_rfl
  · as_aux_lemma => kernel_rfl
  · exact beq_iff_eq.2 kPlain.symm
  · as_aux_lemma => kernel_rfl
  · exact kHeard
  · exact kEnter
  · exact beq_iff_eq.2 kLifts.symm
  · as_aux_lemma => kernel_rfl
  · as_aux_lemma => kernel_rfl
  · as_aux_lemma => kernel_rfl
  · as_aux_lemma => kernel_rfl
  · as_aux_lemma => kernel_rfl

theorem duesRuns_named : Tryz.pinned.checked.prog.funcNamed Rows.duesRunsRow.func = some 3 := by kernel_rfl
theorem duesRuns_func : Tryz.pinned.checked.prog.funcs[3]? = some Tryz.f3 := Tryz.func3
theorem duesRuns_inst : Tryz.f3.isInstance Tryz.pinned.checked.prog Rows.duesRunsRow.origin Rows.duesRunsRow.targs := of_decide_eq_true (by kernel_rfl)
theorem duesRuns_wrap : Tryz.f3.isWrapper Tryz.pinned.checked.prog Rows.duesRunsRow.wrapper Rows.duesRunsRow.mainSum := by
  unfold Func.isWrapper; first | (rw [if_pos (by decide +kernel)]; kernel_rfl) | (rw [if_neg (by decide +kernel)]; exact ⟨rfl, rfl⟩)
theorem duesRuns_text : Rows.duesRunsRow.wfByText (OpenSpec.ofChange Rows.duesRunsSpec) = true := by kernel_rfl
theorem duesRuns_main : Tryz.pinned.checked.prog.mainIs = some (Rows.duesRunsCard.stood.harness.1, Rows.duesRunsCard.stood.harness.2.toList) := by kernel_rfl
theorem duesRuns_looks : true = Tryz.pinned.checked.prog.looks [] := by kernel_rfl
theorem duesRuns_goes : false = Rows.duesRunsRow.goesBy Tryz.pinned.checked.prog := by kernel_rfl
theorem duesRuns_stand : (Tryz.f3.params.toList.all fun t => !Tryz.pinned.checked.prog.wantsStandIn t) = true := by kernel_rfl

theorem duesRuns_holds : Rows.DuesRunsSaid :=
  OpenClaim.holds_of_wide 3 Tryz.f3 rfl rfl rfl rfl rfl rfl rfl ⟨rfl, rfl, rfl, rfl, rfl⟩ rfl rfl rfl rfl rfl duesRuns_named duesRuns_func duesRuns_closed duesRuns_inst duesRuns_wrap
    (fun os started H enc _ => duesRuns_lifted os started H enc)

theorem duesRuns : Rows.DuesRunsCardSaid :=
  Claim7.holds_tied_plain_at .later [] [.data, .data, .data] true Rows.duesRunsCard.stood.harness true
    duesRuns_holds (fun _ h => by cases h) duesRuns_text (fun _ h => by cases h) duesRuns_row_tie rfl ⟨rfl, rfl⟩ duesRuns_main rfl
    (fun f fn hf hfn => by
      obtain rfl : f = 3 := Option.some.inj (duesRuns_named.symm.trans hf) |>.symm
      obtain rfl : fn = Tryz.f3 := (Option.some.inj (duesRuns_func.symm.trans hfn)).symm
      refine ⟨duesRuns_looks, fun j t ht => ?_⟩
      have hm : t ∈ Tryz.f3.params.toList := by
        have := Array.mem_of_getElem? ht
        simpa using this
      exact Bool.not_eq_true' _ |>.mp (List.all_eq_true.1 duesRuns_stand t hm))
    duesRuns_goes

#print axioms duesRuns
end Go.Proofs.YtcnbpfecgokhiaaGreatDoor
