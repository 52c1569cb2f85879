/- Proved: for every list of facts, operations, guests, two states and day the law DuesAsks returns true, and its arguments read behind the call as they did before; what the library's variables hold is tied to the program's text. No further condition. -/
import Derived.Test.YtcnbpfecgokhiaaGreatDoorDSa
import Derived.Test.YtcnbpfecgokhiaaGreatDoorDSb
import Derived.Test.YtcnbpfecgokhiaaGreatDoorDSc
import Derived.Test.YtcnbpfecgokhiaaGreatDoorDSd
import Derived.Test.YtcnbpfecgokhiaaGreatDoorDSe
import Derived.Test.YtcnbpfecgokhiaaGreatDoorDSf
import Derived.Test.YtcnbpfecgokhiaaGreatDoorDSg
import Derived.Test.YtcnbpfecgokhiaaGreatDoorDSh
import Derived.Test.YtcnbpfecgokhiaaGreatDoorDSi
import Derived.Test.YtcnbpfecgokhiaaGreatDoorDSj
import Derived.Test.YtcnbpfecgokhiaaGreatDoorDSk
import Derived.Test.YtcnbpfecgokhiaaGreatDoorDSl
import Derived.Test.YtcnbpfecgokhiaaGreatDoorDSm
import Derived.Test.YtcnbpfecgokhiaaGreatDoorDSn
import Derived.Sort.Walk0
import Derived.Ground.SlsfProg
import Derived.Scope
import Derived.Laws.StructEq
set_option linter.unusedVariables false
set_option linter.unusedSimpArgs false
set_option linter.unnecessarySimpa false
set_option linter.unusedSectionVars false
namespace Go.Proofs.YtcnbpfecgokhiaaGreatDoor
open Go.Eng Go.RowKit
set_option maxRecDepth 100000 in
set_option maxHeartbeats 8000000 in
theorem DuesAsks_spec {w : World} {A B G : Option Addr} {f : List Fact} {s : List Opn} {g : List Guest} {c d k : Nat} (hf : HF w A f c) (hs : HL Opn.cells w B s d) (hn : ∀ o ∈ s, o.Nums) (hg : HL Guest.cells w G g k) (T : TabP w) {a b : Int} (h1 : In64 a) (h2 : In64 b) (day : Int) :
    CallsV C.P 12 #[.slice A f.length c, .slice B s.length d, .slice G g.length k, .int .i64 a, .int .i64 b, .int .i64 day] w fun v w' => v = .bool true ∧ Ext w w' := by
  refine callsV_of C_ok (args := [_, _, _, _, _, _]) (plans := plans12) Tryz.func12 rfl Tryz.ntmps12 (by kernel_rfl) (Nat.le_of_ble_eq_true rfl) ?_
  refine (few_spec hf hs.cap).mono ?_
  rintro v w1 ⟨⟨bf, rfl, hb⟩, rfl⟩
  have hgcap := hg.cap
  refine brE_mk (fun c1 => ?_) (fun c1 => ?_)
  · refine (grants_spec w1 T).mono ?_
    rintro v w2 ⟨rfl, e2⟩
    exact ⟨rfl, e2⟩
  refine brE_dec (fun c2 => ?_) (fun c2 => ?_)
  · refine (grants_spec w1 T).mono ?_
    rintro v w2 ⟨rfl, e2⟩
    exact ⟨rfl, e2⟩
  obtain ⟨hfl, hsl⟩ := hb (by simpa using c1)
  have hgl : g.length ≤ 30 := by have : ¬ ((g.length : Nat) : Int) > 30 := c2; omega
  refine (built_spec hf (by omega) hs (by omega) hn).mono ?_
  rintro v w2 ⟨l, rfl, n2⟩
  have hlen := (acc_built f s).2
  have hacc := (acc_built f s).1
  have hnums := n2.is.nums
  obtain ⟨es, hes⟩ : ∃ es, es = builtL f s := ⟨_, rfl⟩
  rw [← hes] at hlen hacc hnums n2
  have hl : es.length ≤ 2 ^ 16 := by omega
  have hdl : (dueL (asOfL es day)).length ≤ 2 ^ 16 := by have := asOfL_dues (es := es) day; omega
  refine (Entries_spec n2.is (by omega)).mono ?_
  rintro v w3 ⟨hE, e3⟩
  obtain ⟨AE, cE, rfl, hE3⟩ := hE.hl
  intro g14 w4 h4
  refine ⟨rfl, _, _, h4.here, Nat.le_of_ble_eq_true rfl, rfl, ?_⟩
  intro w5 h5
  have h5 : Put w4 g14 (.cells #[.slice AE es.length cE] 30 (0, 0)) w5 := h5
  have e35 : Ext w3 w5 := h5.ext_of h4.ext (by rw [h4.new]; exact Nat.le_refl _)
  have n5 := (n2.then e3).then e35
  have E5 := hl_put (hE3.ext h4.ext) h4.here h5
  have G5 := h5.here
  refine ⟨[_], rfl, Rd.of_block G5, ?_⟩
  refine (replayed_spec E5 hl (acc_replay hacc) hnums).mono ?_
  rintro v w6 ⟨rfl, e6⟩
  have n6 := n5.then e6
  have E6 := E5.ext e6
  have G6 := e6.heap G5
  obtain ⟨x, is, hx⟩ : ∃ x is, owesAt es a b day = (x, is) := ⟨_, _, rfl⟩
  have X := Owes_spec n6.is hl h1 h2 day
  rw [hx] at X
  refine X.mono ?_
  rintro v w7 ⟨rfl, e7⟩
  have n7 := n6.then e7
  have E7 := E6.ext e7
  have G7 := e7.heap G6
  intro g15 w8 h8
  refine ⟨rfl, _, _, h8.here, Nat.le_of_ble_eq_true rfl, rfl, ?_⟩
  intro w9 h9
  have h9 : Put w8 g15 (.cells x.cells.toArray 74 (0, 0)) w9 := h9
  have e79 : Ext w7 w9 := h9.ext_of h8.ext (by rw [h8.new]; exact Nat.le_refl _)
  have n9 := n7.then e79
  have E9 := E7.ext e79
  have G9 := e79.heap G7
  refine ⟨[_], rfl, Rd.of_block G9, ?_⟩
  have Y := refOwes_spec E9 hl hacc a b day
  rw [hx] at Y
  refine Y.mono ?_
  rintro v w10 ⟨rfl, e10⟩
  have n10 := n9.then e10
  have E10 := E9.ext e10
  have G10 := e10.heap G9
  intro g17 w11 h11
  refine ⟨rfl, _, _, h11.here, Nat.le_of_ble_eq_true rfl, rfl, ?_⟩
  intro w12 h12
  have h12 : Put w11 g17 (.cells x.cells.toArray 74 (0, 0)) w12 := h12
  have e1012 : Ext w10 w12 := h12.ext_of h11.ext (by rw [h11.new]; exact Nat.le_refl _)
  have n12 := n10.then e1012
  have E12 := E10.ext e1012
  have G12 := e1012.heap G10
  refine ⟨x.cells, rfl, Rd.of_block ((e10.trans e1012).heap h9.here), ?_⟩
  refine ⟨x.cells, rfl, Rd.of_block h12.here, ?_⟩
  refine ⟨_, neqD _ _ x x, ?_⟩
  refine brE_ndec (fun h => absurd rfl h) (fun _ => ?_)
  refine ⟨_, neqBool _ _ is is, ?_⟩
  refine brE_false (bne_self_eq_false _) ?_
  refine ⟨[_], rfl, Rd.of_block G12, ?_⟩
  refine (Waivers_spec n12.is hl day).mono ?_
  rintro v w21 ⟨hP, e21⟩
  refine ⟨e21, ?_⟩
  have n21 := n12.then e21
  have E21 := E12.ext e21
  have G21 := e21.heap G12
  obtain ⟨P21, q21, rfl, HP21⟩ := NewL.hl hP
  refine (refWaivers_spec E21 hl hacc day).mono ?_
  rintro v w22 ⟨hR, e22⟩
  have n22 := n21.then e22
  have E22 := E21.ext e22
  have G22 := e22.heap G21
  obtain ⟨P22, q22, rfl, HP22⟩ := NewL.hl hR
  refine (SameWs_spec (HP21.ext e22) HP22).mono ?_
  rintro v w23 ⟨rfl, rfl⟩
  have n23 := n22
  have E23 := E22
  have G23 := G22
  refine brE_ndec (fun h => absurd rfl h) (fun _ => ?_)
  refine ⟨[_], rfl, Rd.of_block G23, ?_⟩
  refine (Pairs_spec n23.is hl (hg.ext n23.ext) day).mono ?_
  rintro v w24 ⟨hP, e24⟩
  refine ⟨e24, ?_⟩
  have n24 := n23.then e24
  have E24 := E23.ext e24
  have G24 := e24.heap G23
  obtain ⟨P24, q24, rfl, HP24⟩ := NewL.hl hP
  refine (refPairs_spec E24 hl hacc (hg.ext n24.ext) day).mono ?_
  rintro v w25 ⟨hR, e25⟩
  have n25 := n24.then e25
  have E25 := E24.ext e25
  have G25 := e25.heap G24
  obtain ⟨P25, q25, rfl, HP25⟩ := NewL.hl hR
  refine (SamePs_spec (HP24.ext e25) HP25).mono ?_
  rintro v w26 ⟨rfl, rfl⟩
  have n26 := n25
  have E26 := E25
  have G26 := G25
  refine brE_ndec (fun h => absurd rfl h) (fun _ => ?_)
  refine ⟨[_], rfl, Rd.of_block G26, ?_⟩
  refine (Dues_any n26.is hl day hdl).mono ?_
  rintro v w27 ⟨hP, e27⟩
  refine ⟨e27, ?_⟩
  have n27 := n26.then e27
  have E27 := E26.ext e27
  have G27 := e27.heap G26
  obtain ⟨P27, q27, rfl, HP27⟩ := NewL.hl hP
  refine (refDues_spec E27 hl hacc day).mono ?_
  rintro v w28 ⟨hR, e28⟩
  have n28 := n27.then e28
  have E28 := E27.ext e28
  have G28 := e28.heap G27
  obtain ⟨P28, q28, rfl, HP28⟩ := NewL.hl hR
  refine (SameDs_spec (HP27.ext e28) HP28).mono ?_
  rintro v w29 ⟨rfl, rfl⟩
  have n29 := n28
  have E29 := E28
  have G29 := G28
  refine brE_ndec (fun h => absurd rfl h) (fun _ => ?_)
  refine loopE C_ok (fun (i : Nat) => [(2, .slice G g.length k), (3, .int .i64 a), (4, .int .i64 b), (5, .int .i64 day), (13, l.ptr), (14, .pointer (some ⟨g14, 0, none⟩)), (19, .int .i64 i)])
    (fun i w' => i ≤ g.length ∧ LdNew w1 w' l es ∧ HL Entry.cells w' AE es cE ∧ w'.heap[g14]? = some (.cells #[.slice AE es.length cE] 30 (0, 0))) (fun i => g.length - i) 0 ⟨rfl, rfl, rfl, rfl, rfl, rfl, rfl, trivial⟩
    ⟨Nat.zero_le _, n29, E29, G29⟩ ?_
  clear n2 n5 n6 n7 n9 n10 n12
  rintro i w60 ⟨hi, n60, E60, G60⟩
  have fin : ∀ (K : Prop), K → K := fun _ h => h
  clear fin
  refine brE_dec (fun hlt => ?yes) (fun hge => ?no)
  case' yes =>
    have hlti : i < g.length := by have : (i : Int) < (g.length : Nat) := hlt; omega
    have hpos : 0 < g.length := by omega
    have next : IntKind.i64.wrap ((i : Int) + 1) = ((i + 1 : Nat) : Int) := fit ⟨by omega, by omega⟩
    refine brE_dec (fun h4' => ?four) (fun h4' => ?stop)
  case four =>
    obtain ⟨b0, o0, hG0, hr0⟩ := (hg.ext n60.ext).at Guest.len (by omega) hpos
    obtain ⟨bi, oi, hGi, hri⟩ := (hg.ext n60.ext).at Guest.len (by omega) hlti
    refine ⟨0, b0, o0, rfl, hpos, hG0, ?_⟩
    refine ⟨g[0].cells, rfl, hr0, ?_⟩
    refine ⟨i, bi, oi, rfl, hlti, hGi, ?_⟩
    refine ⟨g[i].cells, rfl, hri, ?_⟩
    refine ⟨[_], rfl, Rd.of_block G60, ?_⟩
    refine ⟨0, b0, o0, rfl, hpos, hG0, ?_⟩
    refine ⟨g[0].cells, rfl, hr0, ?_⟩
    refine ⟨i, bi, oi, rfl, hlti, hGi, ?_⟩
    refine ⟨g[i].cells, rfl, hri, ?_⟩
    refine (Covers_spec n60.is hl g[0] g[i] day).mono ?_
    rintro v w61 ⟨rfl, e61⟩
    refine ⟨e61, ?_⟩
    refine (refCovers_spec (E60.ext e61) hl hacc g[0] g[i] day).mono ?_
    rintro v w62 ⟨rfl, e62⟩
    refine ⟨_, neqBool _ _ _ _, ?_⟩
    refine brE_false (bne_self_eq_false _) ?_
    refine ⟨_, next, ?_⟩
    exact ⟨i + 1, ⟨rfl, rfl, rfl, rfl, rfl, rfl, rfl, trivial⟩, ⟨hlti, (n60.then e61).then e62, (E60.ext e61).ext e62, e62.heap (e61.heap G60)⟩, by show g.length - (i + 1) < g.length - i; omega⟩
  all_goals
    refine (grants_spec w60 (tabP_ext T n60.ext)).mono ?_
    rintro v w61 ⟨rfl, e61⟩
    have n61 := n60.then e61
    have E61 := E60.ext e61
    have G61 := e61.heap G60
    refine ⟨[_], rfl, Rd.of_block G61, ?_⟩
    refine (Gifts_spec n61.is hl a day).mono ?_
    rintro v w71 ⟨hP, e71⟩
    refine ⟨e71, ?_⟩
    have n71 := n61.then e71
    have E71 := E61.ext e71
    have G71 := e71.heap G61
    obtain ⟨P71, q71, rfl, HP71⟩ := NewL.hl hP
    refine (refGifts_spec E71 hl hacc a day).mono ?_
    rintro v w72 ⟨hR, e72⟩
    have n72 := n71.then e72
    have E72 := E71.ext e72
    have G72 := e72.heap G71
    obtain ⟨P72, q72, rfl, HP72⟩ := NewL.hl hR
    refine (SameGs_spec (HP71.ext e72) HP72).mono ?_
    rintro v w73 ⟨rfl, rfl⟩
    have n73 := n72
    have E73 := E72
    have G73 := G72
    refine brE_true (decide_eq_true rfl) ?_
    refine ⟨[_], rfl, Rd.of_block G73, ?_⟩
    refine (Debt_spec n73.is hl a b day).mono ?_
    rintro v w74 ⟨rfl, e74⟩
    refine ⟨e74, ?_⟩
    have n74 := n73.then e74
    have E74 := E73.ext e74
    have G74 := e74.heap G73
    refine (refDebt_spec E74 hl hacc a b day).mono ?_
    rintro v w75 ⟨rfl, e75⟩
    have n75 := n74.then e75
    have E75 := E74.ext e75
    have G75 := e75.heap G74
    refine brE_true (decide_eq_true rfl) ?_
    refine ⟨[_], rfl, Rd.of_block G75, ?_⟩
    refine (Overdue_spec n75.is hl day).mono ?_
    rintro v w76 ⟨hP, e76⟩
    refine ⟨e76, ?_⟩
    have n76 := n75.then e76
    have E76 := E75.ext e76
    have G76 := e76.heap G75
    obtain ⟨P76, q76, rfl, HP76⟩ := NewL.hl hP
    refine (refOverdue_spec E76 hl hacc day).mono ?_
    rintro v w77 ⟨hR, e77⟩
    have n77 := n76.then e77
    have E77 := E76.ext e77
    have G77 := e77.heap G76
    obtain ⟨P77, q77, rfl, HP77⟩ := NewL.hl hR
    refine (SameGs_spec (HP76.ext e77) HP77).mono ?_
    rintro v w78 ⟨rfl, rfl⟩
    have n78 := n77
    have E78 := E77
    have G78 := G77
    refine brE_true (decide_eq_true rfl) ?_
    refine ⟨[_], rfl, Rd.of_block G78, ?_⟩
    refine (Sight_spec n78.is hl a day).mono ?_
    rintro v w79 ⟨hP, e79⟩
    refine ⟨e79, ?_⟩
    have n79 := n78.then e79
    have E79 := E78.ext e79
    have G79 := e79.heap G78
    obtain ⟨P79, q79, rfl, HP79⟩ := NewL.hl hP
    refine (refSight_spec E79 hl hacc a day).mono ?_
    rintro v w80 ⟨hR, e80⟩
    have n80 := n79.then e80
    have E80 := E79.ext e80
    have G80 := e80.heap G79
    obtain ⟨P80, q80, rfl, HP80⟩ := NewL.hl hR
    refine (SameSs_spec (HP79.ext e80) HP80).mono ?_
    rintro v w81 ⟨rfl, rfl⟩
    have n81 := n80
    have E81 := E80
    have G81 := G80
    exact ⟨congrArg Value.bool (decide_eq_true rfl), n81.ext⟩
end Go.Proofs.YtcnbpfecgokhiaaGreatDoor
namespace Go.Proofs.YtcnbpfecgokhiaaGreatDoor
open Go.Eng Go.RowKit Go.ChangeShapes Go.WideShapes Go.ChangeAt
open Go.ChangeMaps (open_string shut_string)
set_option maxRecDepth 100000 in
theorem duesAsks_lifted (os : Os) (started : os.Started) (H : Type) (enc : TypeId × Value → H) :
    ReturnsInHanded {} Tryz.checked os 12 .any (fun w args => (Rows.duesAsksSpec.pre enc Tryz.prog Tryz.f12 Rows.duesAsksRow.domain false w args ∧ laidMet Tryz.prog laidL w) ∧ sizedMet enc Tryz.prog Tryz.f12 (OpenSpec.ofChange Rows.duesAsksSpec) false w args)
      (Rows.duesAsksSpec.post enc Tryz.prog Tryz.f12 false true false false) := by
  refine returnsInHanded_of_change_and (C := Tryz.checked) (X := fun w _ => laidMet Tryz.prog laidL w) (fun _ _ _ hh h => h.of_heap hh) own started (by kernel_rfl) Tryz.func12
    (ChangeSpec.witness_at (enc := enc) (C := Tryz.checked) (os := os) (X := fun w _ => laidMet Tryz.prog laidL w) false (laidWorld os) #[.slice none 0 0, .slice none 0 0, .slice none 0 0, .int .i64 0, .int .i64 0, .int .i64 0] 8 rfl (by kernel_rfl) (by kernel_rfl) (by kernel_rfl) (by kernel_rfl) (by kernel_rfl) (laidWorld_met os _)) ?_
  intro W base args ds gs before hval0 hW _ hsz0 hL _
  have T := tabs_of_laid hL
  have hval : ∀ (j : Nat) t v, Tryz.f12.params[j]? = some t → args[j]? = some v → Value.okWide Tryz.prog W .any base t v := hval0
  have hW' := hW
  obtain ⟨p, q, hA0, hV, rfl, hfz, hnd⟩ := hW
  have hA : DataW.TrodAll enc Tryz.prog W 0 (fun _ => true) true [22, 23, 61, 3, 3, 3] args.toList ds p := hA0
  obtain ⟨v0, v1, v2, v3, v4, v5, d0, d1, d2, d3, d4, d5, p0, p1, p2, p3, p4, p5, rfl, rfl, rfl, h0, h1, h2, h3, h4, h5⟩ := trodAll_n6 hA
  obtain ⟨rfl, rfl⟩ := trodVars_none hV
  obtain ⟨A0, l0, c0, rfl, hf0⟩ := open_facts (hval 0 22 v0 rfl rfl) h0
  obtain ⟨A1, l1, c1, rfl, hs1, ns1⟩ := open_list Opn.len (by omega) (fun y => ⟨.u8, _, rfl⟩) underOs cellsO open_cO (hval 1 23 v1 rfl rfl) h1
  obtain ⟨A2, l2, c2, rfl, hs2, ns2⟩ := open_list Guest.len (by omega) (fun y => ⟨.i64, _, rfl⟩) underUs cellsU open_cU (hval 2 61 v2 rfl rfl) h2
  obtain ⟨i3, rfl, _, _, wf3⟩ := open_int under3 (hval 3 3 v3 rfl rfl) h3
  obtain ⟨i4, rfl, _, _, wf4⟩ := open_int under3 (hval 4 3 v4 rfl rfl) h4
  obtain ⟨i5, rfl, _, _, wf5⟩ := open_int under3 (hval 5 3 v5 rfl rfl) h5
  refine (DuesAsks_spec hf0 hs1 ns1 hs2 T (wf_in64 wf3) (wf_in64 wf4) i5 W (Same.refl W)).mono ?_
  rintro e W' ⟨⟨v, w'', rfl, ⟨rfl, he⟩, hs⟩, _⟩
  have he' : Ext W W' := he.same_right hs
  refine ⟨_, rfl, ?_⟩
  refine ⟨[d0, d1, d2, d3, d4, d5], [], (p0 ++ (p1 ++ (p2 ++ (p3 ++ (p4 ++ (p5)))))) ++ [], [], p0 ++ (p1 ++ (p2 ++ (p3 ++ (p4 ++ (p5))))), [], hW', ?_, ?_, rfl, Below.frame he' _, fun h => by cases h⟩
  · exact trodAll_mk1 (shut_bool under4 true)
  · exact trodAll_mkn6 (Below.trod laidOut recFs rowFs h0 he' fun x hx => hW'.lt x (by simp [hx])) (Below.trod laidOut recOs rowOs h1 he' fun x hx => hW'.lt x (by simp [hx])) (Below.trod laidOut recUs rowUs h2 he' fun x hx => hW'.lt x (by simp [hx])) (Below.trod laidOut rec3 row3 h3 he' fun x hx => hW'.lt x (by simp [hx])) (Below.trod laidOut rec3 row3 h4 he' fun x hx => hW'.lt x (by simp [hx])) (Below.trod laidOut rec3 row3 h5 he' fun x hx => hW'.lt x (by simp [hx]))
set_option maxHeartbeats 4000000 in
theorem duesAsks_closed : joinedFacts Tryz.pinned.checked.prog 12 Tryz.f12 Rows.duesAsksSpec Rows.duesAsksRow = true := by
  unfold joinedFacts
  iterate 31 refine Bool.and_eq_true_iff.2 ⟨?_, ?_⟩
  · as_aux_lemma => kernel_rfl
  · exact kLaid
  · exact kMaps
  · as_aux_lemma => kernel_rfl
  · as_aux_lemma => kernel_rfl
  · as_aux_lemma => kernel_rfl
  · exact kStops
  · as_aux_lemma => kernel_rfl
  · exact kKnobs
  · as_aux_lemma => kernel_rfl
  · as_aux_lemma => kernel_rfl
  · as_aux_lemma => kernel_rfl
  · as_aux_lemma => kernel_rfl
  · as_aux_lemma => kernel_rfl
  · as_aux_lemma => kernel_rfl
  · as_aux_lemma => kernel_rfl
  · as_aux_lemma => kernel_rfl
  · as_aux_lemma => kernel_rfl
  · as_aux_lemma => kernel_rfl
  · as_aux_lemma => kernel_rfl
  · as_aux_lemma => kernel_rfl
  · as_aux_lemma => kernel_rfl
  · exact beq_iff_eq.2 kPlain.symm
  · as_aux_lemma => kernel_rfl
  · exact kHeard
  · exact kEnter
  · exact beq_iff_eq.2 kLifts.symm
  · as_aux_lemma => kernel_rfl
  · as_aux_lemma => kernel_rfl
  · as_aux_lemma => kernel_rfl
  · as_aux_lemma => kernel_rfl
  · as_aux_lemma => kernel_rfl
theorem duesAsks_named : Tryz.pinned.checked.prog.funcNamed Rows.duesAsksRow.func = some 12 := by kernel_rfl
theorem duesAsks_func : Tryz.pinned.checked.prog.funcs[12]? = some Tryz.f12 := Tryz.func12
theorem duesAsks_inst : Tryz.f12.isInstance Tryz.pinned.checked.prog Rows.duesAsksRow.origin Rows.duesAsksRow.targs := of_decide_eq_true (by kernel_rfl)
theorem duesAsks_wrap : Tryz.f12.isWrapper Tryz.pinned.checked.prog Rows.duesAsksRow.wrapper Rows.duesAsksRow.mainSum := by
  unfold Func.isWrapper; first | (rw [if_pos (by decide +kernel)]; kernel_rfl) | (rw [if_neg (by decide +kernel)]; exact ⟨rfl, rfl⟩)
theorem duesAsks_text : Rows.duesAsksRow.wfByText (OpenSpec.ofChange Rows.duesAsksSpec) = true := by kernel_rfl
theorem duesAsks_main : Tryz.pinned.checked.prog.mainIs = some (Rows.duesAsksCard.stood.harness.1, Rows.duesAsksCard.stood.harness.2.toList) := by kernel_rfl
theorem duesAsks_looks : true = Tryz.pinned.checked.prog.looks [] := by kernel_rfl
theorem duesAsks_goes : false = Rows.duesAsksRow.goesBy Tryz.pinned.checked.prog := by kernel_rfl
theorem duesAsks_stand : (Tryz.f12.params.toList.all fun t => !Tryz.pinned.checked.prog.wantsStandIn t) = true := by kernel_rfl
theorem duesAsks_holds : Rows.DuesAsksSaid :=
  OpenClaim.holds_of_wide 12 Tryz.f12 rfl rfl rfl rfl rfl rfl rfl ⟨rfl, rfl, rfl, rfl, rfl⟩ rfl rfl rfl rfl rfl duesAsks_named duesAsks_func duesAsks_closed duesAsks_inst duesAsks_wrap
    (fun os started H enc _ => duesAsks_lifted os started H enc)
theorem duesAsks : Rows.DuesAsksCardSaid :=
  Claim7.holds_tied_plain_at .later [] [.data, .data, .data] true Rows.duesAsksCard.stood.harness true
    duesAsks_holds (fun _ h => by cases h) duesAsks_text (fun _ h => by cases h) duesAsks_row_tie rfl ⟨rfl, rfl⟩ duesAsks_main rfl
    (fun f fn hf hfn => by
      obtain rfl : f = 12 := Option.some.inj (duesAsks_named.symm.trans hf) |>.symm
      obtain rfl : fn = Tryz.f12 := (Option.some.inj (duesAsks_func.symm.trans hfn)).symm
      refine ⟨duesAsks_looks, fun j t ht => ?_⟩
      have hm : t ∈ Tryz.f12.params.toList := by
        have := Array.mem_of_getElem? ht
        simpa using this
      exact Bool.not_eq_true' _ |>.mp (List.all_eq_true.1 duesAsks_stand t hm))
    duesAsks_goes
#print axioms duesAsks
end Go.Proofs.YtcnbpfecgokhiaaGreatDoor
