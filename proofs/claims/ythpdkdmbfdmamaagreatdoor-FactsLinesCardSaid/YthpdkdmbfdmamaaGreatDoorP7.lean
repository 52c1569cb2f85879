/- Proved: for every fact and string the law FactsLines returns true, and its arguments read behind the call as they did before; what the library's variables hold is tied to the program's text. No further condition. -/
import Derived.Test.YthpdkdmbfdmamaaGreatDoorGDf
import Derived.Test.YthpdkdmbfdmamaaGreatDoorGFg
import Derived.Test.YthpdkdmbfdmamaaGreatDoorGDd
import Derived.Test.YthpdkdmbfdmamaaGreatDoorGDe
set_option linter.unusedVariables false
set_option linter.unusedSimpArgs false
set_option linter.unnecessarySimpa false
set_option linter.unusedSectionVars false
namespace Go.Proofs.YthpdkdmbfdmamaaGreatDoor
open Go.Eng Go.RowKit

theorem readF_size {line : ByteArray} (h : line.size ≤ 281474976710656) : (readF line).1.Nums := by
  rw [← readR_eq]
  have hl : line.data.toList.length ≤ 281474976710656 := by rw [← ba_size]; exact h
  unfold readR
  simp only
  split
  · exact guess_nums _ hl
  · have z64 : In64 0 := ⟨by decide, by decide⟩
    exact ⟨z64, z64, ⟨by show (0 : Int) ≤ 0; decide, by show (0 : Int) ≤ 255; decide⟩, z64, z64, z64, z64, z64, Nat.zero_le _⟩
theorem lineS_size {x : Fact} (h : formE x = 0) : (lineS x).size ≤ 281474976710656 := by
  obtain ⟨s3, s4, s5, s6, s7, s0, s1⟩ := small_fields h
  have L : ∀ n : Int, 0 ≤ n → n ≤ 1000000 → (Lib.itoa n).length ≤ 7 := fun n h0 h1 => (itoa_small h0 h1).2.1
  have hk := (headB_iff.1 (formE_zero h).1).1
  rw [ba_size, lineS_data]
  have hf : ∀ o ∈ offs x.kind, (Lib.itoa (fieldI x o)).length ≤ 7 := fun o ho => by
    have := right_fields (formE_zero h).1 (formE_zero h).2.2.1 ho
    exact L _ this.1 this.2
  have hoff := offs_len x.kind
  have hjoin : ∀ ws : List (List UInt8), (∀ w ∈ ws, w.length ≤ 30) → (Lib.join ws [32]).length ≤ 31 * ws.length := by
    intro ws
    induction ws with
    | nil => intro _; simp [Lib.join_nil]
    | cons v r ih =>
      intro hw
      have h1 := hw v (by simp)
      cases r with
      | nil => rw [Lib.join_one]; simp; omega
      | cons u r =>
        rw [join_two, List.length_append, List.length_cons]
        have := ih fun y hy => hw y (by simp [hy])
        simp only [List.length_cons] at this ⊢
        omega
  have hall : ∀ v ∈ wordsL x, v.length ≤ 30 := fun v hv => by
    unfold wordsL at hv
    rcases List.mem_append.1 hv with hv | hv
    · rcases List.mem_append.1 hv with hv | hv
      · simp only [List.mem_cons, List.not_mem_nil, or_false] at hv
        rcases hv with rfl | rfl | rfl
        · have := L x.id (by omega) s0.2; omega
        · have := L x.known s1.1 s1.2; omega
        · obtain ⟨k, hkk⟩ := Int.eq_ofNat_of_zero_le (show 0 ≤ x.kind by omega)
          rw [hkk]
          have cases : k = 1 ∨ k = 2 ∨ k = 3 ∨ k = 4 ∨ k = 5 ∨ k = 6 ∨ k = 7 ∨ k = 8 ∨ k = 9 ∨ k = 10 ∨ k = 11 := by omega
          rcases cases with rfl | rfl | rfl | rfl | rfl | rfl | rfl | rfl | rfl | rfl | rfl <;> decide
      · obtain ⟨o, ho, rfl⟩ := List.mem_map.1 hv
        have := hf o ho; omega
    · split at hv
      · rename_i h1
        rw [List.mem_singleton.1 hv]
        have := (nameB_iff.1 ((formE_zero h).2.2.2 h1)).1.1.2
        omega
      · cases hv
  have hlen : (wordsL x).length ≤ 9 := by
    unfold wordsL
    simp only [List.length_append, List.length_map, List.length_cons, List.length_nil]
    split <;> simp <;> omega
  have := hjoin (wordsL x) hall
  unfold lineL
  omega

set_option maxRecDepth 100000 in
set_option maxHeartbeats 2000000 in
theorem FactsLines_spec {w : World} {x : Fact} (hx : x.Nums) {line : ByteArray} (hsz : line.size ≤ 281474976710656) (T : Tabs w) :
    CallsW C.P 7 #[x.val, .string line] w fun v w' => v = .bool true ∧ Ext w w' := by
  refine callsV_of Cw_ok (args := [_, _]) (plans := []) Tryz.func7 rfl Tryz.ntmps7 (by kernel_rfl) (Nat.le_of_ble_eq_true rfl) ?_
  intro g2 w1 h1
  have M1 : Mem w w1 [(g2, .cells x.cells.toArray 29 (0, 0))] := (Mem.start w).alloc h1
  clear h1
  refine ⟨x.cells, rfl, M1.rd 0 rfl, ?_⟩
  refine (Write_spec x hx w1 (T.ext M1.ext)).mono ?_
  rintro _ w2 ⟨rfl, e2⟩
  have M2 := M1.grow e2
  refine ⟨x.cells, rfl, M2.rd 0 rfl, ?_⟩
  refine (refWrite_spec x hx w2 (T.ext M2.ext)).weak.mono ?_
  rintro _ w3 ⟨rfl, e3⟩
  have M3 := M2.grow e3
  refine (Read_spec line hsz w3 (T.ext M3.ext)).mono ?_
  rintro _ w4 ⟨rfl, e4⟩
  have M4 := M3.grow e4
  have hr1 : (readF line).2 = 0 → formE (readF line).1 = 0 ∧ lineS (readF line).1 = line := fun h => readF_some (Prod.ext rfl h)
  have hyn := readF_size hsz
  have href := fun (w' : World) (T' : Tabs w') => refRead_spec line hsz w' T'
  generalize readF line = R at *
  obtain ⟨y, e⟩ := R
  intro g9 w5 h5
  have M5 := M4.alloc h5
  refine ⟨rfl, _, _, M5.get 0 rfl, Nat.le_of_ble_eq_true rfl, rfl, ?_⟩
  intro w6 h6
  have M6 : Mem w w6 [(g9, .cells y.cells.toArray 29 (0, 0)), (g2, .cells x.cells.toArray 29 (0, 0))] := M5.put 0 rfl h6
  clear M5 h5 h6 M4 M3 M2 M1 e4 e3 e2
  refine (href w6 (T.ext M6.ext)).weak.mono ?_
  rintro _ w7 ⟨rfl, e7⟩
  have M7 := M6.grow e7
  intro g11 w8 h8
  have M8 := M7.alloc h8
  refine ⟨rfl, _, _, M8.get 0 rfl, Nat.le_of_ble_eq_true rfl, rfl, ?_⟩
  intro w9 h9
  have M9 : Mem w w9 [(g11, .cells y.cells.toArray 29 (0, 0)), (g9, .cells y.cells.toArray 29 (0, 0)), (g2, .cells x.cells.toArray 29 (0, 0))] := M8.put 0 rfl h9
  clear M8 h8 h9 M7 M6 e7 href
  have hrd := fun (h : formE x = 0) => readF_line h
  have hls := fun (h : formE x = 0) => lineS_size h
  refine ⟨_, neqStr _ _ _ _, ?_⟩
  refine brE_ndec (fun q => absurd rfl q) (fun _ => ?_)
  refine brE_ndec (fun q => absurd rfl q) (fun _ => ?_)
  refine ⟨y.cells, rfl, M9.rd 1 rfl, ?_⟩
  refine ⟨y.cells, rfl, M9.rd 0 rfl, ?_⟩
  refine ⟨_, neqF _ _ y y, ?_⟩
  refine brE_ndec (fun q => absurd rfl q) (fun _ => ?_)
  refine brE_ndec (fun q => absurd rfl q) (fun _ => ?_)
  refine brE_dec (fun a1 => ?_) (fun a1 => ?_)
  case' refine_1 =>
    have a1 : formE x = 0 := a1
    rw [if_pos a1]
    refine (Read_spec (lineS x) (hls a1) w9 (T.ext M9.ext)).mono ?_
    rintro _ w10 ⟨rfl, e10⟩
    rw [hrd a1]
    have M10 := M9.grow e10
    intro g13 w11 h11
    have M11 := M10.alloc h11
    refine ⟨rfl, _, _, M11.get 0 rfl, Nat.le_of_ble_eq_true rfl, rfl, ?_⟩
    intro w12 h12
    have M12 : Mem w w12 [(g13, .cells x.cells.toArray 29 (0, 0)), (g11, .cells y.cells.toArray 29 (0, 0)), (g9, .cells y.cells.toArray 29 (0, 0)), (g2, .cells x.cells.toArray 29 (0, 0))] := M11.put 0 rfl h12
    refine ⟨x.cells, rfl, M12.rd 0 rfl, ?_⟩
    refine ⟨x.cells, rfl, M12.rd 3 rfl, ?_⟩
    refine ⟨_, neqF _ _ x x, ?_⟩
    refine brE_false (by rw [decide_eq_true rfl]; rfl) ?_
    have MZ := M12.tail
  case' refine_2 =>
    have MZ := M9
  all_goals
    refine brE_dec (fun a2 => ?_) (fun a2 => ?_)
    · have a2 : e = 0 := a2
      obtain ⟨b1, b2⟩ := hr1 a2
      have b1 : formE y = 0 := b1
      have b2 : lineS y = line := b2
      refine ⟨y.cells, rfl, MZ.rd 1 rfl, ?_⟩
      refine (Write_spec y hyn _ (T.ext MZ.ext)).mono ?_
      rintro _ w20 ⟨rfl, e20⟩
      have MY := MZ.grow e20
      rw [if_pos b1, b1, b2]
      refine ⟨_, neqStr _ _ _ _, ?_⟩
      refine brE_ndec (fun q => absurd rfl q) (fun _ => ?_)
      refine (alive_spec w20 (T.ext MY.ext)).mono ?_
      rintro _ w21 ⟨rfl, e21⟩
      exact ⟨rfl, MY.ext.trans e21⟩
    · refine (alive_spec _ (T.ext MZ.ext)).mono ?_
      rintro _ w21 ⟨rfl, e21⟩
      exact ⟨rfl, MZ.ext.trans e21⟩

end Go.Proofs.YthpdkdmbfdmamaaGreatDoor

namespace Go.Proofs.YthpdkdmbfdmamaaGreatDoor
open Go.Eng Go.RowKit Go.ChangeShapes Go.WideShapes Go.ChangeAt
open Go.ChangeMaps (open_string shut_string)

set_option maxRecDepth 100000 in
theorem factsLines_lifted (os : Os) (started : os.Started) (H : Type) (enc : TypeId × Value → H) :
    ReturnsInHanded {} Tryz.checked os 7 .any (fun w args => (Rows.factsLinesSpec.pre enc Tryz.prog Tryz.f7 Rows.factsLinesRow.domain false w args ∧ laidMet Tryz.prog laidL w) ∧ sizedMet enc Tryz.prog Tryz.f7 (OpenSpec.ofChange Rows.factsLinesSpec) false w args)
      (Rows.factsLinesSpec.post enc Tryz.prog Tryz.f7 false true false false) := by
  refine returnsInHanded_of_change_and (C := Tryz.checked) (X := fun w _ => laidMet Tryz.prog laidL w) (fun _ _ _ hh h => h.of_heap hh) own started (by kernel_rfl) Tryz.func7
    (ChangeSpec.witness_at (enc := enc) (C := Tryz.checked) (os := os) (X := fun w _ => laidMet Tryz.prog laidL w) false (laidWorld os) #[.agg #[.int .i64 0, .int .i64 0, .int .u8 0, .int .i64 0, .int .i64 0, .int .i64 0, .int .i64 0, .int .i64 0, .string ⟨#[]⟩], .string ⟨#[]⟩] 8 rfl (by kernel_rfl) (by kernel_rfl) (by kernel_rfl) (by kernel_rfl) (by kernel_rfl) (laidWorld_met os _)) ?_
  intro W base args ds gs before hval0 hW _ hsz0 hL _
  have T := tabs_of_laid hL
  have hval : ∀ (j : Nat) t v, Tryz.f7.params[j]? = some t → args[j]? = some v → Value.okWide Tryz.prog W .any base t v := hval0
  have hW' := hW
  obtain ⟨p, q, hA0, hV, rfl, hfz, hnd⟩ := hW
  have hA : DataW.TrodAll enc Tryz.prog W 0 (fun _ => true) true [29, 9] args.toList ds p := hA0
  obtain ⟨v0, v1, d0, d1, p0, p1, rfl, rfl, rfl, h0, h1⟩ := trodAll_two hA
  obtain ⟨rfl, rfl⟩ := trodVars_none hV
  obtain ⟨x0, rfl, hx0⟩ := open_fact (hval 0 29 v0 rfl rfl) h0
  obtain ⟨s1, rfl, es1, _, hs1⟩ := open_string Tryz.underlying9 (hval 1 9 v1 rfl rfl) h1
  have hsz : s1.size ≤ 281474976710656 := by
    have h2 := hsz0
    generalize hp : ((_ : List TypeId) ++ _) = ts at h2
    have hts : ts = [29, 9] := by rw [← hp]; kernel_rfl
    rw [hts, es1] at h2
    simp only [List.cons_append, List.nil_append, DataW.weightsEach, DataW.weights, List.all_append, List.all_cons, List.all_nil, Bool.and_true, Bool.and_eq_true, decide_eq_true_eq] at h2
    have h3 := h2.2
    rw [ba_size]
    unfold reachBytes at h3
    omega
  refine (FactsLines_spec hx0 hsz T W (Same.refl W)).mono ?_
  rintro e W' ⟨⟨v, w'', rfl, ⟨rfl, he⟩, hs⟩, _⟩
  have he' : Ext W W' := he.same_right hs
  refine ⟨_, rfl, ?_⟩
  refine ⟨[d0, d1], [], (p0 ++ p1) ++ [], [], p0 ++ (p1), [], hW', ?_, ?_, rfl, Below.frame he' _, fun h => by cases h⟩
  · exact trodAll_mk1 (shut_bool under4 true)
  · exact trodAll_mk2 (Below.trod laidOut recF rowF h0 he' fun x hx => hW'.lt x (by simp [hx])) (Below.trod laidOut rec9 row9 h1 he' fun x hx => hW'.lt x (by simp [hx]))

set_option maxHeartbeats 4000000 in
theorem factsLines_closed : joinedFacts Tryz.pinned.checked.prog 7 Tryz.f7 Rows.factsLinesSpec Rows.factsLinesRow = true := by
  unfold joinedFacts
  iterate 31 refine Bool.and_eq_true_iff.2 ⟨?_, ?_⟩
  · as_aux_lemma => kernel_rfl
  · exact kLaid
  · exact kMaps
  · as_aux_lemma => kernel_rfl
  · as_aux_lemma => kernel_rfl
  · as_aux_lemma => kernel_rfl
  · exact kStops
  · as_aux_lemma => kernel_rfl
  · exact kKnobs
  · as_aux_lemma => kernel_rfl
  · as_aux_lemma => kernel_rfl
  · as_aux_lemma => kernel_rfl
  · as_aux_lemma => kernel_rfl
  · as_aux_lemma => kernel_rfl
  · as_aux_lemma => kernel_rfl
  · as_aux_lemma => kernel_rfl
  · as_aux_lemma => kernel_rfl
  · as_aux_lemma => kernel_rfl
  · as_aux_lemma => kernel_rfl
  · as_aux_lemma => kernel_rfl
  · as_aux_lemma => kernel_rfl
  · as_aux_lemma => kernel_rfl
  · exact beq_iff_eq.2 kPlain.symm
  · as_aux_lemma => kernel_rfl
  · exact kHeard
  · exact kEnter
  · exact beq_iff_eq.2 kLifts.symm
  · as_aux_lemma => kernel_rfl
  · as_aux_lemma => kernel_rfl
  · as_aux_lemma => kernel_rfl
  · as_aux_lemma => kernel_rfl
  · as_aux_lemma => kernel_rfl

theorem factsLines_named : Tryz.pinned.checked.prog.funcNamed Rows.factsLinesRow.func = some 7 := by kernel_rfl
theorem factsLines_func : Tryz.pinned.checked.prog.funcs[7]? = some Tryz.f7 := Tryz.func7
theorem factsLines_inst : Tryz.f7.isInstance Tryz.pinned.checked.prog Rows.factsLinesRow.origin Rows.factsLinesRow.targs := of_decide_eq_true (by kernel_rfl)
theorem factsLines_wrap : Tryz.f7.isWrapper Tryz.pinned.checked.prog Rows.factsLinesRow.wrapper Rows.factsLinesRow.mainSum := by
  unfold Func.isWrapper; first | (rw [if_pos (by decide +kernel)]; kernel_rfl) | (rw [if_neg (by decide +kernel)]; exact ⟨rfl, rfl⟩)
theorem factsLines_text : Rows.factsLinesRow.wfByText (OpenSpec.ofChange Rows.factsLinesSpec) = true := by kernel_rfl
theorem factsLines_main : Tryz.pinned.checked.prog.mainIs = some (Rows.factsLinesCard.stood.harness.1, Rows.factsLinesCard.stood.harness.2.toList) := by kernel_rfl
theorem factsLines_looks : true = Tryz.pinned.checked.prog.looks [] := by kernel_rfl
theorem factsLines_goes : false = Rows.factsLinesRow.goesBy Tryz.pinned.checked.prog := by kernel_rfl
theorem factsLines_stand : (Tryz.f7.params.toList.all fun t => !Tryz.pinned.checked.prog.wantsStandIn t) = true := by kernel_rfl

theorem factsLines_holds : Rows.FactsLinesSaid :=
  OpenClaim.holds_of_wide 7 Tryz.f7 rfl rfl rfl rfl rfl rfl rfl ⟨rfl, rfl, rfl, rfl, rfl⟩ rfl rfl rfl rfl rfl factsLines_named factsLines_func factsLines_closed factsLines_inst factsLines_wrap
    (fun os started H enc _ => factsLines_lifted os started H enc)

theorem factsLines : Rows.FactsLinesCardSaid :=
  Claim7.holds_tied_plain_at .later [] [.data, .data, .data, .sentinel, .sentinel] true Rows.factsLinesCard.stood.harness true
    factsLines_holds (fun _ h => by cases h) factsLines_text (fun _ h => by cases h) factsLines_row_tie rfl ⟨rfl, rfl⟩ factsLines_main rfl
    (fun f fn hf hfn => by
      obtain rfl : f = 7 := Option.some.inj (factsLines_named.symm.trans hf) |>.symm
      obtain rfl : fn = Tryz.f7 := (Option.some.inj (factsLines_func.symm.trans hfn)).symm
      refine ⟨factsLines_looks, fun j t ht => ?_⟩
      have hm : t ∈ Tryz.f7.params.toList := by
        have := Array.mem_of_getElem? ht
        simpa using this
      exact Bool.not_eq_true' _ |>.mp (List.all_eq_true.1 factsLines_stand t hm))
    factsLines_goes

#print axioms factsLines
end Go.Proofs.YthpdkdmbfdmamaaGreatDoor
