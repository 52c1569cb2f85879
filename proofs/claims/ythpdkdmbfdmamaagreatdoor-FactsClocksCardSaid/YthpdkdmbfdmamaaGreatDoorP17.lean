/- Proved: for every two lists of facts, two days and question the law FactsClocks returns true, and its arguments read behind the call as they did before; what the library's variables hold is tied to the program's text. No further condition. -/
import Derived.Test.YthpdkdmbfdmamaaGreatDoorGDf
import Derived.Test.YthpdkdmbfdmamaaGreatDoorGDd
import Derived.Test.YthpdkdmbfdmamaaGreatDoorGDe
set_option linter.unusedVariables false
set_option linter.unusedSimpArgs false
set_option linter.unnecessarySimpa false
set_option linter.unusedSectionVars false
namespace Go.Proofs.YthpdkdmbfdmamaaGreatDoor
open Go.Eng Go.RowKit

set_option maxRecDepth 100000 in
theorem FactsClocks_spec {w : World} {A D : Option Addr} {l m : List Fact} {c d : Nat} (h : HF w A l c) (hm : HF w D m d) (T : Tabs w) (k day : Int) (q : Asked) (hq : In64 q.person) :
    CallsW C.P 17 #[.slice A l.length c, .slice D m.length d, .int .i64 k, .int .i64 day, q.val] w fun v w' => v = .bool true ∧ Ext w w' := by
  refine callsV_of Cw_ok (args := [_, _, _, _, _]) (plans := plans17) Tryz.func17 rfl Tryz.ntmps17 (by kernel_rfl) (Nat.le_of_ble_eq_true rfl) ?_
  have hcap := h.cap
  have hcap2 := hm.cap
  intro g9 w1 h1
  have M1 : Mem w w1 [(g9, .cells q.cells.toArray 66 (0, 0))] := (Mem.start w).alloc h1
  refine brE_dec (fun ha => ?_) (fun ha => ?_)
  · refine (alive_spec w1 (T.ext M1.ext)).mono ?_
    rintro v w2 ⟨rfl, e2⟩
    exact ⟨rfl, M1.ext.trans e2⟩
  have ha : ¬ (l.length : Int) > 30 := ha
  refine brE_dec (fun hb => ?_) (fun hb => ?_)
  · refine (alive_spec w1 (T.ext M1.ext)).mono ?_
    rintro v w2 ⟨rfl, e2⟩
    exact ⟨rfl, M1.ext.trans e2⟩
  have hb : ¬ (m.length : Int) > 10 := hb
  have hl : l.length ≤ 2 ^ 20 := by omega
  intro g w2 h2
  have M2 := (M1.grow h2.ext)
  have ho2 : w2.ownsRow w1.heap.size 29 9 (.slice (some ⟨g, 0, none⟩) 0 0) 0 [] := owns_block (cs := []) h2.here (by rw [h2.new]; exact Nat.le_refl _) rfl (Nat.zero_le _)
  have hrl := h.reads.ext M2.ext
  refine ⟨rfl, rfl, rfl, w1.heap.size, 0, [], fcells l, ho2, h2.ext.size, Nat.le_of_ble_eq_true rfl, rfl, fcells_length l, hrl, someF hrl, oneF l, by omega, by simp only [maxLen]; omega, ?_⟩
  intro v3 w3 ho3 hg3 _
  have e13 := app_ext h2.ext ho2 hg3
  have M3 := M1.grow e13
  rw [Nat.zero_add, List.nil_append] at ho3
  refine loopE Cw_ok (fun (s : Nat × Value) => [(0, .slice A l.length c), (1, .slice D m.length d), (2, .int .i64 k), (3, .int .i64 day), (9, .pointer (some ⟨g9, 0, none⟩)), (11, s.2), (26, .slice D m.length d), (27, .int .i64 m.length), (28, .int .i64 s.1)])
    (fun s w' => s.1 ≤ m.length ∧ Ext w1 w' ∧ NewF w1.heap.size w' s.2 (l ++ laterL k (m.take s.1))) (fun s => m.length - s.1) (0, v3)
    ⟨rfl, rfl, rfl, rfl, rfl, rfl, rfl, rfl, rfl, trivial⟩ ⟨Nat.zero_le _, e13, ?_⟩ ?_
  · show w3.ownsRow _ _ _ v3 (l ++ laterL k (m.take 0)).length (fcells (l ++ laterL k (m.take 0)))
    have : l ++ laterL k (m.take 0) = l := by rw [List.take_zero]; exact List.append_nil l
    rw [this]; exact ho3
  rintro ⟨i, v⟩ w4 ⟨hi', e4, ho4'⟩
  have hi : i ≤ m.length := hi'
  have ho4 : NewF w1.heap.size w4 v (l ++ laterL k (m.take i)) := ho4'
  clear hi' ho4'
  have M4 := M1.grow e4
  have hlen : ∀ j : Nat, (l ++ laterL k (m.take j)).length ≤ l.length + m.length := fun j => by
    rw [List.length_append]
    have := List.length_filter_le (fun x : Fact => decide (k < x.known)) (m.take j)
    have h2 : (m.take j).length ≤ m.length := by rw [List.length_take]; omega
    unfold laterL; omega
  refine brE_dec (fun hlt2 => ?_) (fun hge => ?_)
  · have hlt : i < m.length := by have : (i : Int) < (m.length : Nat) := hlt2; omega
    clear hlt2
    have next : IntKind.i64.wrap ((i : Int) + 1) = ((i + 1 : Nat) : Int) := fit ⟨by omega, by omega⟩
    have hst := laterL_step (k := k) hlt
    obtain ⟨b, o, hA, hc⟩ := Reads.fact (hm.reads.ext M4.ext) hlt
    refine ⟨i, b, o, rfl, hlt, hA, ?_⟩
    refine ⟨m[i].cells, rfl, hc, ?_⟩
    intro g5 w5 h5
    refine ⟨rfl, _, _, h5.here, Nat.le_of_ble_eq_true rfl, rfl, ?_⟩
    intro w6 h6
    have h6 : Put w5 g5 (.cells m[i].cells.toArray 29 (0, 0)) w6 := h6
    have e46 : Ext w4 w6 := h6.ext_of h5.ext (by rw [h5.new]; exact Nat.le_refl _)
    refine ⟨_, cell_of_block h6.here rfl, ?_⟩
    refine brE_dec (fun hk => ?_) (fun hk => ?_)
    · have hk : k < m[i].known := hk
      rw [if_pos hk] at hst
      refine ⟨m[i].cells, rfl, Rd.of_block h6.here, ?_⟩
      intro g7 w7 h7
      have e47 := e46.trans h7.ext
      have ho7 : w7.ownsRow w1.heap.size 29 9 v _ _ := ownsRow_ext ho4 e47
      have hli := hlen i
      refine ⟨rfl, rfl, rfl, w1.heap.size, _, _, m[i].cells, ho7, (e4.trans e47).size, Nat.le_of_ble_eq_true rfl, rfl, rfl, .inr ⟨g7, 0, rfl, Rd.of_block h7.here⟩, rfl, rfl, by omega, by simp only [maxLen]; omega, ?_⟩
      intro v8 w8 ho8 hg8 _
      refine ⟨_, next, ?_⟩
      refine ⟨(i + 1, v8), ⟨rfl, rfl, rfl, rfl, rfl, rfl, rfl, rfl, rfl, trivial⟩, ⟨hlt, app_ext (e4.trans e47) ho7 hg8, ?_⟩, by show m.length - (i + 1) < m.length - i; omega⟩
      show w8.ownsRow _ _ _ v8 (l ++ laterL k (m.take (i + 1))).length (fcells (l ++ laterL k (m.take (i + 1))))
      rw [hst, ← List.append_assoc, fcells_append, fcells_one, List.length_append]
      exact ho8
    · have hk : ¬ k < m[i].known := hk
      rw [if_neg hk, List.append_nil] at hst
      refine ⟨_, next, ?_⟩
      refine ⟨(i + 1, v), ⟨rfl, rfl, rfl, rfl, rfl, rfl, rfl, rfl, rfl, trivial⟩, ⟨hlt, e4.trans e46, ?_⟩, by show m.length - (i + 1) < m.length - i; omega⟩
      show NewF w1.heap.size w6 v (l ++ laterL k (m.take (i + 1)))
      rw [hst]; exact ho4.ext e46
  · have hgi : i = m.length := by have : ¬ (i : Int) < (m.length : Nat) := hge; omega
    have hli := hlen i
    have hnum : ∀ x ∈ l ++ laterL k (m.take i), x.Nums := nums_append h.nums fun x hx => hm.nums x (List.mem_of_mem_take (List.mem_filter.1 hx).1)
    have hat : atL k day (l ++ laterL k (m.take i)) = atL k day l := at_later laterL_known
    obtain ⟨A4, c4, rfl, hf4⟩ := ho4.hf hnum
    refine (alive_spec w4 (T.ext M4.ext)).mono ?_
    rintro v w5 ⟨rfl, e5⟩
    have M5 := M4.grow e5
    refine ⟨q.cells, rfl, M5.rd 0 rfl, ?_⟩
    refine ⟨q.cells, rfl, M5.rd 0 rfl, ?_⟩
    refine (ask_spec (h.ext M5.ext) hl k day q hq).weak.mono ?_
    rintro v w6 ⟨ha6, e6⟩
    refine ⟨e6, ?_⟩
    have hf6 := hf4.ext (e5.trans e6)
    refine (ask_spec hf6 (by omega) k day q hq).weak.mono ?_
    rintro v' w7 ⟨ha7, e7⟩
    rw [hat] at ha7
    have M7 := (M5.grow e6).grow e7
    refine (same_spec (ha6.ext e7) ha7).weak.mono ?_
    rintro _ w8 ⟨rfl, e8⟩
    have M8 := M7.grow e8
    refine (At_spec (h.ext M8.ext) hl k day).weak.mono ?_
    rintro v w9 ⟨ho9, e9⟩
    have hf9 := hf6.ext ((e7.trans e8).trans e9)
    refine (At_spec hf9 (by omega) k day).weak.mono ?_
    rintro v' w10 ⟨ho10, e10⟩
    rw [hat] at ho10
    have hal := atL_length k day l
    obtain ⟨A9, c9, rfl, hr9, _⟩ := ho9.slice
    obtain ⟨A10, c10, rfl, hr10, _⟩ := ho10.slice
    have s := SameFacts_spec (c := c9) (d := c10) (hr9.ext e10) hr10 (by omega)
    rw [decide_eq_true rfl] at s
    refine s.weak.mono ?_
    rintro v w11 ⟨rfl, rfl⟩
    exact ⟨rfl, ((M8.grow e9).grow e10).ext⟩

end Go.Proofs.YthpdkdmbfdmamaaGreatDoor

namespace Go.Proofs.YthpdkdmbfdmamaaGreatDoor
open Go.Eng Go.RowKit Go.ChangeShapes Go.WideShapes Go.ChangeAt
open Go.ChangeMaps (open_string shut_string)

set_option maxRecDepth 100000 in
theorem factsClocks_lifted (os : Os) (started : os.Started) (H : Type) (enc : TypeId × Value → H) :
    ReturnsInHanded {} Tryz.checked os 17 .any (fun w args => (Rows.factsClocksSpec.pre enc Tryz.prog Tryz.f17 Rows.factsClocksRow.domain false w args ∧ laidMet Tryz.prog laidL w) ∧ sizedMet enc Tryz.prog Tryz.f17 (OpenSpec.ofChange Rows.factsClocksSpec) false w args)
      (Rows.factsClocksSpec.post enc Tryz.prog Tryz.f17 false true false false) := by
  refine returnsInHanded_of_change_and (C := Tryz.checked) (X := fun w _ => laidMet Tryz.prog laidL w) (fun _ _ _ hh h => h.of_heap hh) own started (by kernel_rfl) Tryz.func17
    (ChangeSpec.witness_at (enc := enc) (C := Tryz.checked) (os := os) (X := fun w _ => laidMet Tryz.prog laidL w) false (laidWorld os) #[.slice none 0 0, .slice none 0 0, .int .i64 0, .int .i64 0, .agg #[.int .i64 0, .int .i64 0, .int .i64 0, .int .i64 0, .int .i64 0, .int .i64 0]] 8 rfl (by kernel_rfl) (by kernel_rfl) (by kernel_rfl) (by kernel_rfl) (by kernel_rfl) (laidWorld_met os _)) ?_
  intro W base args ds gs before hval0 hW _ hsz0 hL _
  have T := tabs_of_laid hL
  have hval : ∀ (j : Nat) t v, Tryz.f17.params[j]? = some t → args[j]? = some v → Value.okWide Tryz.prog W .any base t v := hval0
  have hW' := hW
  obtain ⟨p, q, hA0, hV, rfl, hfz, hnd⟩ := hW
  have hA : DataW.TrodAll enc Tryz.prog W 0 (fun _ => true) true [22, 22, 3, 3, 66] args.toList ds p := hA0
  obtain ⟨v0, v1, v2, v3, v4, d0, d1, d2, d3, d4, p0, p1, p2, p3, p4, rfl, rfl, rfl, h0, h1, h2, h3, h4⟩ := trodAll_n5 hA
  obtain ⟨rfl, rfl⟩ := trodVars_none hV
  obtain ⟨A0, l0, c0, rfl, hf0⟩ := open_facts (hval 0 22 v0 rfl rfl) h0
  obtain ⟨A1, l1, c1, rfl, hf1⟩ := open_facts (hval 1 22 v1 rfl rfl) h1
  obtain ⟨i2, rfl, _, _, wf2⟩ := open_int under3 (hval 2 3 v2 rfl rfl) h2
  obtain ⟨i3, rfl, _, _, wf3⟩ := open_int under3 (hval 3 3 v3 rfl rfl) h3
  obtain ⟨q4, rfl, hq4⟩ := open_asked (hval 4 66 v4 rfl rfl) h4
  refine (FactsClocks_spec hf0 hf1 T i2 i3 q4 hq4.1 W (Same.refl W)).mono ?_
  rintro e W' ⟨⟨v, w'', rfl, ⟨rfl, he⟩, hs⟩, _⟩
  have he' : Ext W W' := he.same_right hs
  refine ⟨_, rfl, ?_⟩
  refine ⟨[d0, d1, d2, d3, d4], [], (p0 ++ (p1 ++ (p2 ++ (p3 ++ (p4))))) ++ [], [], p0 ++ (p1 ++ (p2 ++ (p3 ++ (p4)))), [], hW', ?_, ?_, rfl, Below.frame he' _, fun h => by cases h⟩
  · exact trodAll_mk1 (shut_bool under4 true)
  · exact trodAll_mkn5 (Below.trod laidOut recFs rowFs h0 he' fun x hx => hW'.lt x (by simp [hx])) (Below.trod laidOut recFs rowFs h1 he' fun x hx => hW'.lt x (by simp [hx])) (Below.trod laidOut rec3 row3 h2 he' fun x hx => hW'.lt x (by simp [hx])) (Below.trod laidOut rec3 row3 h3 he' fun x hx => hW'.lt x (by simp [hx])) (Below.trod laidOut recQ rowQ h4 he' fun x hx => hW'.lt x (by simp [hx]))

set_option maxHeartbeats 4000000 in
theorem factsClocks_closed : joinedFacts Tryz.pinned.checked.prog 17 Tryz.f17 Rows.factsClocksSpec Rows.factsClocksRow = true := by
  unfold joinedFacts
  iterate 31 refine Bool.and_eq_true_iff.2 ⟨?_, ?_⟩
  · as_aux_lemma => kernel_rfl
  · exact kLaid
  · exact kMaps
  · as_aux_lemma => kernel_rfl
  · as_aux_lemma => kernel_rfl
  · as_aux_lemma => kernel_rfl
  · exact kStops
  · as_aux_lemma => kernel_rfl
  · exact kKnobs
  · as_aux_lemma => kernel_rfl
  · as_aux_lemma => kernel_rfl
  · as_aux_lemma => kernel_rfl
  · as_aux_lemma => kernel_rfl
  · as_aux_lemma => kernel_rfl
  · as_aux_lemma => kernel_rfl
  · as_aux_lemma => kernel_rfl
  · as_aux_lemma => kernel_rfl
  · as_aux_lemma => kernel_rfl
  · as_aux_lemma => kernel_rfl
  · as_aux_lemma => kernel_rfl
  · as_aux_lemma => kernel_rfl
  · as_aux_lemma => kernel_rfl
  · exact beq_iff_eq.2 kPlain.symm
  · as_aux_lemma => kernel_rfl
  · exact kHeard
  · exact kEnter
  · exact beq_iff_eq.2 kLifts.symm
  · as_aux_lemma => kernel_rfl
  · as_aux_lemma => kernel_rfl
  · as_aux_lemma => kernel_rfl
  · as_aux_lemma => kernel_rfl
  · as_aux_lemma => kernel_rfl

theorem factsClocks_named : Tryz.pinned.checked.prog.funcNamed Rows.factsClocksRow.func = some 17 := by kernel_rfl
theorem factsClocks_func : Tryz.pinned.checked.prog.funcs[17]? = some Tryz.f17 := Tryz.func17
theorem factsClocks_inst : Tryz.f17.isInstance Tryz.pinned.checked.prog Rows.factsClocksRow.origin Rows.factsClocksRow.targs := of_decide_eq_true (by kernel_rfl)
theorem factsClocks_wrap : Tryz.f17.isWrapper Tryz.pinned.checked.prog Rows.factsClocksRow.wrapper Rows.factsClocksRow.mainSum := by
  unfold Func.isWrapper; first | (rw [if_pos (by decide +kernel)]; kernel_rfl) | (rw [if_neg (by decide +kernel)]; exact ⟨rfl, rfl⟩)
theorem factsClocks_text : Rows.factsClocksRow.wfByText (OpenSpec.ofChange Rows.factsClocksSpec) = true := by kernel_rfl
theorem factsClocks_main : Tryz.pinned.checked.prog.mainIs = some (Rows.factsClocksCard.stood.harness.1, Rows.factsClocksCard.stood.harness.2.toList) := by kernel_rfl
theorem factsClocks_looks : true = Tryz.pinned.checked.prog.looks [] := by kernel_rfl
theorem factsClocks_goes : false = Rows.factsClocksRow.goesBy Tryz.pinned.checked.prog := by kernel_rfl
theorem factsClocks_stand : (Tryz.f17.params.toList.all fun t => !Tryz.pinned.checked.prog.wantsStandIn t) = true := by kernel_rfl

theorem factsClocks_holds : Rows.FactsClocksSaid :=
  OpenClaim.holds_of_wide 17 Tryz.f17 rfl rfl rfl rfl rfl rfl rfl ⟨rfl, rfl, rfl, rfl, rfl⟩ rfl rfl rfl rfl rfl factsClocks_named factsClocks_func factsClocks_closed factsClocks_inst factsClocks_wrap
    (fun os started H enc _ => factsClocks_lifted os started H enc)

theorem factsClocks : Rows.FactsClocksCardSaid :=
  Claim7.holds_tied_plain_at .later [] [.data, .data, .data, .sentinel, .sentinel] true Rows.factsClocksCard.stood.harness true
    factsClocks_holds (fun _ h => by cases h) factsClocks_text (fun _ h => by cases h) factsClocks_row_tie rfl ⟨rfl, rfl⟩ factsClocks_main rfl
    (fun f fn hf hfn => by
      obtain rfl : f = 17 := Option.some.inj (factsClocks_named.symm.trans hf) |>.symm
      obtain rfl : fn = Tryz.f17 := (Option.some.inj (factsClocks_func.symm.trans hfn)).symm
      refine ⟨factsClocks_looks, fun j t ht => ?_⟩
      have hm : t ∈ Tryz.f17.params.toList := by
        have := Array.mem_of_getElem? ht
        simpa using this
      exact Bool.not_eq_true' _ |>.mp (List.all_eq_true.1 factsClocks_stand t hm))
    factsClocks_goes

#print axioms factsClocks
end Go.Proofs.YthpdkdmbfdmamaaGreatDoor
