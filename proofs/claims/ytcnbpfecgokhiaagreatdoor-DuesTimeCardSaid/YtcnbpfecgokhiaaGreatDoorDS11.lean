/- Proved: for every list of facts, two lists of operations, guests, two states and day the law DuesTime returns true, and its arguments read behind the call as they did before; what the library's variables hold is tied to the program's text. No further condition. -/
import Derived.Test.YtcnbpfecgokhiaaGreatDoorDSa
import Derived.Test.YtcnbpfecgokhiaaGreatDoorDSb
import Derived.Test.YtcnbpfecgokhiaaGreatDoorDSc
import Derived.Test.YtcnbpfecgokhiaaGreatDoorDSd
import Derived.Test.YtcnbpfecgokhiaaGreatDoorDSe
import Derived.Test.YtcnbpfecgokhiaaGreatDoorDSf
import Derived.Test.YtcnbpfecgokhiaaGreatDoorDSg
import Derived.Test.YtcnbpfecgokhiaaGreatDoorDSh
import Derived.Test.YtcnbpfecgokhiaaGreatDoorDSi
import Derived.Test.YtcnbpfecgokhiaaGreatDoorDSj
import Derived.Test.YtcnbpfecgokhiaaGreatDoorDSk
import Derived.Test.YtcnbpfecgokhiaaGreatDoorDSl
import Derived.Test.YtcnbpfecgokhiaaGreatDoorDSm
import Derived.Sort.Walk0
import Derived.Ground.SlsfProg
import Derived.Scope
import Derived.Laws.StructEq
set_option linter.unusedVariables false
set_option linter.unusedSimpArgs false
set_option linter.unnecessarySimpa false
set_option linter.unusedSectionVars false
namespace Go.Proofs.YtcnbpfecgokhiaaGreatDoor
open Go.Eng Go.RowKit
/-- Two ledgers that lie apart. -/
structure TwoT (w0 w : World) (l m : LV) (L M : List Entry) : Prop where
  fst : LdNew w0 w l L
  snd : LdNew w0 w m M
  apart : ∀ k, l.has k → m.has k → False
theorem TwoT.swap {w0 w : World} {l m : LV} {L M : List Entry} (h : TwoT w0 w l m L M) : TwoT w0 w m l M L := ⟨h.snd, h.fst, fun k h1 h2 => h.apart k h2 h1⟩
theorem TwoT.then {w0 w w' : World} {l m : LV} {L M : List Entry} (h : TwoT w0 w l m L M) (e : Ext w w') : TwoT w0 w' l m L M := ⟨h.fst.then e, h.snd.then e, h.apart⟩
theorem TwoT.go {w0 w w' : World} {l m : LV} {L M L' : List Entry} (h : TwoT w0 w l m L M) (k : LdGo w l L' w') : ∃ l', l'.gl = l.gl ∧ TwoT w0 w' l' m L' M := by
  obtain ⟨l', hg, hi, hk, hn⟩ := k
  refine ⟨l', hg, ⟨⟨hi, fun q hq => ?_, ⟨hk.os.trans h.fst.ext.os, hk.tape.trans h.fst.ext.tape, hk.output.trans h.fst.ext.output, Nat.le_trans h.fst.ext.size hk.size, fun q hq => ?_⟩⟩, ⟨h.snd.is.keep fun q hq => ?_, h.snd.new, ⟨hk.os.trans h.fst.ext.os, hk.tape.trans h.fst.ext.tape, hk.output.trans h.fst.ext.output, Nat.le_trans h.fst.ext.size hk.size, fun q hq => ?_⟩⟩, fun q h1 h2 => ?_⟩⟩
  · rcases hn q hq with h1 | h1
    · exact h.fst.new q h1
    · exact Nat.le_trans h.fst.ext.size h1
  · rw [hk.block q (fun h1 => by have := h.fst.new q h1; omega) (Nat.lt_of_lt_of_le hq h.fst.ext.size)]
    exact h.fst.ext.block q hq
  · exact hk.block q (fun h1 => h.apart q h1 hq) (h.snd.is.lt hq)
  · rw [hk.block q (fun h1 => by have := h.fst.new q h1; omega) (Nat.lt_of_lt_of_le hq h.fst.ext.size)]
    exact h.fst.ext.block q hq
  · rcases hn q h1 with h3 | h3
    · exact h.apart q h3 h2
    · have := h.snd.is.lt h2
      omega
/-- An operation on a later day. -/
def laterO (day : Int) (o : Opn) : Bool := decide (o.x.day > day) && (!decide (opK o = 1) || decide (o.x.w.day > day))
theorem later_day {day : Int} {o : Opn} (h : laterO day o = true) (es : List Entry) : day < (opE es o).day := by
  unfold laterO at h
  simp only [Bool.and_eq_true, Bool.or_eq_true, Bool.not_eq_true', decide_eq_true_eq, decide_eq_false_iff_not] at h
  obtain ⟨h1, h2⟩ := h
  unfold opE
  split
  · rename_i k1
    rcases h2 with h2 | h2
    · exact absurd k1 h2
    · exact h2
  · split
    · exact h1
    · split
      · exact h1
      · split
        · exact h1
        · split
          · exact h1
          · split
            · exact h1
            · split
              · exact h1
              · exact h1
theorem asOf_did {day : Int} {o : Opn} (h : laterO day o = true) (f : List Fact) (es : List Entry) : asOfL (didL f es o) day = asOfL es day := asOf_add _ (later_day h es)
set_option maxRecDepth 100000 in
set_option maxHeartbeats 8000000 in
theorem DuesTime_spec {w : World} {A B B2 G : Option Addr} {f : List Fact} {s r : List Opn} {g : List Guest} {c d d2 k : Nat} (hf : HF w A f c) (hs : HL Opn.cells w B s d) (hn : ∀ o ∈ s, o.Nums) (hr : HL Opn.cells w B2 r d2) (hnr : ∀ o ∈ r, o.Nums) (hg : HL Guest.cells w G g k) (T : TabP w) (a b day : Int) :
    CallsV C.P 11 #[.slice A f.length c, .slice B s.length d, .slice B2 r.length d2, .slice G g.length k, .int .i64 a, .int .i64 b, .int .i64 day] w fun v w' => v = .bool true ∧ Ext w w' := by
  refine callsV_of C_ok (args := [_, _, _, _, _, _, _]) (plans := []) Tryz.func11 rfl Tryz.ntmps11 (by kernel_rfl) (Nat.le_of_ble_eq_true rfl) ?_
  refine (few_spec hf hs.cap).mono ?_
  rintro v w1 ⟨⟨bf, rfl, hb⟩, rfl⟩
  have hgcap := hg.cap
  refine brE_mk (fun c1 => ?_) (fun c1 => ?_)
  · refine (grants_spec w1 T).mono ?_
    rintro v w2 ⟨rfl, e2⟩
    exact ⟨rfl, e2⟩
  refine (few_spec (f := []) (A := none) (c := 0) ⟨(fun y hy => by cases hy), .inl rfl, Nat.le_refl _, Nat.zero_le _⟩ hr.cap).mono ?_
  rintro v w2 ⟨⟨bf2, rfl, hb2⟩, rfl⟩
  refine brE_mk (fun c2 => ?_) (fun c2 => ?_)
  · refine (grants_spec w2 T).mono ?_
    rintro v w3 ⟨rfl, e3⟩
    exact ⟨rfl, e3⟩
  refine brE_dec (fun c3 => ?_) (fun c3 => ?_)
  · refine (grants_spec w2 T).mono ?_
    rintro v w3 ⟨rfl, e3⟩
    exact ⟨rfl, e3⟩
  obtain ⟨hfl, hsl⟩ := hb (by simpa using c1)
  have hrl := (hb2 (by simpa using c2)).2
  refine (built_spec hf (by omega) hs (by omega) hn).mono ?_
  rintro v w3 ⟨l, rfl, n3⟩
  refine (built_spec (hf.ext n3.ext) (by omega) (hs.ext n3.ext) (by omega) hn).mono ?_
  rintro v w4 ⟨m0, rfl, n4⟩
  have t4 : TwoT w2 w4 l m0 (builtL f s) (builtL f s) := ⟨n3.then n4.ext, ⟨n4.is, fun q hq => Nat.le_trans n3.ext.size (n4.new q hq), n3.ext.trans n4.ext⟩, fun q h1 h2 => by
    have := n3.is.lt h1
    have := n4.new q h2
    omega⟩
  have hlen := (acc_built f s).2
  obtain ⟨es, hes⟩ : ∃ es, es = builtL f s := ⟨_, rfl⟩
  rw [← hes] at hlen t4
  clear n3 n4
  refine loopE C_ok (fun (i : Nat) => [(0, .slice A f.length c), (2, .slice B2 r.length d2), (3, .slice G g.length k), (4, .int .i64 a), (5, .int .i64 b), (6, .int .i64 day), (15, l.ptr), (16, m0.ptr), (17, .int .i64 (i : Nat))])
    (fun i w' => i ≤ r.length ∧ ∃ l' m M, l'.gl = l.gl ∧ m.gl = m0.gl ∧ TwoT w2 w' l' m es M ∧ M.length ≤ es.length + i ∧ asOfL M day = asOfL es day) (fun i => r.length - i) 0 ⟨rfl, rfl, rfl, rfl, rfl, rfl, rfl, rfl, rfl, trivial⟩
    ⟨Nat.zero_le _, l, m0, es, rfl, rfl, t4, Nat.le_refl _, rfl⟩ ?_
  clear t4
  rintro i w5 ⟨hi, l', m, M, hgl, hgm, t5, hM5, has5⟩
  have hptr : l'.ptr = l.ptr := by unfold LV.ptr; rw [hgl]
  have hptm : m.ptr = m0.ptr := by unfold LV.ptr; rw [hgm]
  refine brE_dec (fun hlt => ?_) (fun hge => ?_)
  · have hlti : i < r.length := by have : (i : Int) < (r.length : Nat) := hlt; omega
    have next : IntKind.i64.wrap ((i : Int) + 1) = ((i + 1 : Nat) : Int) := fit ⟨by omega, by omega⟩
    obtain ⟨b1, o1, hB1, hr1⟩ := Opn.part_at (hr.ext t5.fst.ext) hlti
    have ho := hnr _ (List.getElem_mem hlti)
    obtain ⟨o, hoe⟩ : ∃ o, o = r[i] := ⟨_, rfl⟩
    rw [← hoe] at ho hr1
    refine ⟨i, b1, o1, rfl, hlti, hB1, ?_⟩
    refine ⟨o.cells, rfl, hr1, ?_⟩
    intro g18 w6 h6
    refine ⟨rfl, _, _, h6.here, Nat.le_of_ble_eq_true rfl, rfl, ?_⟩
    intro w7 h7
    have M7 : Mem w5 w7 [(g18, .cells o.cells.toArray 41 (0, 0))] := ((Mem.start w5).alloc h6).put 0 rfl h7
    have t7 := t5.then M7.ext
    refine ⟨_, M7.cell 0 rfl rfl, ?_⟩
    refine brE_dec (fun k1 => ?y1) (fun k1 => ?n1)
    case' y1 =>
      have k1 : o.x.day > day := k1
      refine ⟨_, M7.cell 0 rfl rfl, ?_⟩
      refine ⟨by decide, opK o, by unfold opK; exact Int.tmod_eq_emod_of_nonneg ho.kind.1, ?_⟩
      refine brE_ndec (fun k2 => ?y2) (fun k2 => ?n2)
    case' n2 =>
      have k2 : opK o = 1 := k2
      refine ⟨_, M7.cell 0 rfl rfl, ?_⟩
      refine brE_dec (fun k3 => ?y3) (fun k3 => ?n3)
    case' y2 =>
      have k2 : ¬ opK o = 1 := k2
      have hL : laterO day o = true := by unfold laterO; rw [decide_eq_true k1, decide_eq_false k2]; rfl
    case' y3 =>
      have k3 : o.x.w.day > day := k3
      have hL : laterO day o = true := by unfold laterO; rw [decide_eq_true k1, decide_eq_true k3, Bool.or_true]; rfl
    case n1 | n3 =>
      refine ⟨_, next, ?_⟩
      exact ⟨i + 1, ⟨rfl, rfl, rfl, rfl, rfl, rfl, rfl, rfl, rfl, trivial⟩, ⟨hlti, l', m, M, hgl, hgm, t7, by omega, has5⟩, by show r.length - (i + 1) < r.length - i; omega⟩
    all_goals
      refine ⟨o.cells, rfl, M7.rd 0 rfl, ?_⟩
      have D7 := did_spec t7.snd.is (by omega) (hf.ext t7.fst.ext) (by omega) ho
      rw [hptm] at D7
      refine D7.mono ?_
      rintro v w8 ⟨rfl, go8⟩
      obtain ⟨m8, hm8, t8⟩ := t7.swap.go go8
      have hM8 := add_length (didE f M o) M (opE M o)
      refine ⟨_, next, ?_⟩
      exact ⟨i + 1, ⟨rfl, rfl, rfl, rfl, rfl, rfl, rfl, rfl, rfl, trivial⟩, ⟨hlti, l', m8, didL f M o, hgl, hm8.trans hgm, t8.swap, by show (addL (didE f M o) M (opE M o)).length ≤ es.length + (i + 1); omega, by rw [asOf_did hL]; exact has5⟩, by show r.length - (i + 1) < r.length - i; omega⟩
  have hMl : M.length ≤ 2 ^ 16 := by omega
  have hel : es.length ≤ 2 ^ 16 := by omega
  have q1 : waiversAt M day = waiversAt es day := by unfold waiversAt; rw [has5]
  have q2 : pairsAt M g day = pairsAt es g day := by unfold pairsAt; rw [q1]
  have q3 : duesAt M day = duesAt es day := by unfold duesAt; rw [has5]
  have q4 : giftsAt M a day = giftsAt es a day := by unfold giftsAt; rw [has5]
  have q5 : debtAt M a b day = debtAt es a b day := by unfold debtAt; rw [has5]
  have q6 : sightAt M b day = sightAt es b day := by unfold sightAt; rw [has5]
  have d1 : (dueL (asOfL es day)).length ≤ 2 ^ 16 := by have := asOfL_dues (es := es) day; omega
  have d2 : (dueL (asOfL M day)).length ≤ 2 ^ 16 := by have := asOfL_dues (es := M) day; omega
  refine (grants_spec w5 (tabP_ext T t5.fst.ext)).mono ?_
  rintro v w6 ⟨rfl, e6⟩
  have t6 := t5.then e6
  have X := Waivers_spec t6.fst.is hel day
  rw [hptr] at X
  refine X.mono ?_
  rintro v w7 ⟨hP, e7⟩
  have t7 := t6.then e7
  obtain ⟨P7, p7, rfl, HP7⟩ := NewL.hl hP
  clear X
  have X := Waivers_spec t7.snd.is hMl day
  rw [hptm, q1] at X
  refine X.mono ?_
  rintro v w8 ⟨hR, e8⟩
  have t8 := t7.then e8
  obtain ⟨P8, p8, rfl, HP8⟩ := NewL.hl hR
  clear X
  refine (SameWs_spec (HP7.ext e8) HP8).mono ?_
  rintro v w9 ⟨rfl, rfl⟩
  have t9 := t8
  refine brE_true (decide_eq_true rfl) ?_
  have X := Pairs_spec t9.fst.is hel (hg.ext t9.fst.ext) day
  rw [hptr] at X
  refine X.mono ?_
  rintro v w10 ⟨hP, e10⟩
  have t10 := t9.then e10
  obtain ⟨P10, p10, rfl, HP10⟩ := NewL.hl hP
  clear X
  have X := Pairs_spec t10.snd.is hMl (hg.ext t10.fst.ext) day
  rw [hptm, q2] at X
  refine X.mono ?_
  rintro v w11 ⟨hR, e11⟩
  have t11 := t10.then e11
  obtain ⟨P11, p11, rfl, HP11⟩ := NewL.hl hR
  clear X
  refine (SamePs_spec (HP10.ext e11) HP11).mono ?_
  rintro v w12 ⟨rfl, rfl⟩
  have t12 := t11
  refine brE_true (decide_eq_true rfl) ?_
  have X := Dues_any t12.fst.is hel day d1
  rw [hptr] at X
  refine X.mono ?_
  rintro v w13 ⟨hP, e13⟩
  have t13 := t12.then e13
  obtain ⟨P13, p13, rfl, HP13⟩ := NewL.hl hP
  clear X
  have X := Dues_any t13.snd.is hMl day d2
  rw [hptm, q3] at X
  refine X.mono ?_
  rintro v w14 ⟨hR, e14⟩
  have t14 := t13.then e14
  obtain ⟨P14, p14, rfl, HP14⟩ := NewL.hl hR
  clear X
  refine (SameDs_spec (HP13.ext e14) HP14).mono ?_
  rintro v w15 ⟨rfl, rfl⟩
  have t15 := t14
  refine brE_true (decide_eq_true rfl) ?_
  have X := Gifts_spec t15.fst.is hel a day
  rw [hptr] at X
  refine X.mono ?_
  rintro v w16 ⟨hP, e16⟩
  have t16 := t15.then e16
  obtain ⟨P16, p16, rfl, HP16⟩ := NewL.hl hP
  clear X
  have X := Gifts_spec t16.snd.is hMl a day
  rw [hptm, q4] at X
  refine X.mono ?_
  rintro v w17 ⟨hR, e17⟩
  have t17 := t16.then e17
  obtain ⟨P17, p17, rfl, HP17⟩ := NewL.hl hR
  clear X
  refine (SameGs_spec (HP16.ext e17) HP17).mono ?_
  rintro v w18 ⟨rfl, rfl⟩
  have t18 := t17
  refine brE_true (decide_eq_true rfl) ?_
  have X := Debt_spec t18.fst.is hel a b day
  rw [hptr] at X
  refine X.mono ?_
  rintro v w19 ⟨rfl, e19⟩
  have t19 := t18.then e19
  clear X
  have X := Debt_spec t19.snd.is hMl a b day
  rw [hptm, q5] at X
  refine X.mono ?_
  rintro v w20 ⟨rfl, e20⟩
  have t20 := t19.then e20
  clear X
  refine brE_true (decide_eq_true rfl) ?_
  have X := Sight_spec t20.fst.is hel b day
  rw [hptr] at X
  refine X.mono ?_
  rintro v w21 ⟨hP, e21⟩
  have t21 := t20.then e21
  obtain ⟨P21, p21, rfl, HP21⟩ := NewL.hl hP
  clear X
  have X := Sight_spec t21.snd.is hMl b day
  rw [hptm, q6] at X
  refine X.mono ?_
  rintro v w22 ⟨hR, e22⟩
  have t22 := t21.then e22
  obtain ⟨P22, p22, rfl, HP22⟩ := NewL.hl hR
  clear X
  refine (SameSs_spec (HP21.ext e22) HP22).mono ?_
  rintro v w23 ⟨rfl, rfl⟩
  have t23 := t22
  exact ⟨congrArg Value.bool (decide_eq_true rfl), t23.fst.ext⟩
end Go.Proofs.YtcnbpfecgokhiaaGreatDoor
namespace Go.Proofs.YtcnbpfecgokhiaaGreatDoor
open Go.Eng Go.RowKit Go.ChangeShapes Go.WideShapes Go.ChangeAt
open Go.ChangeMaps (open_string shut_string)
set_option maxRecDepth 100000 in
theorem duesTime_lifted (os : Os) (started : os.Started) (H : Type) (enc : TypeId × Value → H) :
    ReturnsInHanded {} Tryz.checked os 11 .any (fun w args => (Rows.duesTimeSpec.pre enc Tryz.prog Tryz.f11 Rows.duesTimeRow.domain false w args ∧ laidMet Tryz.prog laidL w) ∧ sizedMet enc Tryz.prog Tryz.f11 (OpenSpec.ofChange Rows.duesTimeSpec) false w args)
      (Rows.duesTimeSpec.post enc Tryz.prog Tryz.f11 false true false false) := by
  refine returnsInHanded_of_change_and (C := Tryz.checked) (X := fun w _ => laidMet Tryz.prog laidL w) (fun _ _ _ hh h => h.of_heap hh) own started (by kernel_rfl) Tryz.func11
    (ChangeSpec.witness_at (enc := enc) (C := Tryz.checked) (os := os) (X := fun w _ => laidMet Tryz.prog laidL w) false (laidWorld os) #[.slice none 0 0, .slice none 0 0, .slice none 0 0, .slice none 0 0, .int .i64 0, .int .i64 0, .int .i64 0] 8 rfl (by kernel_rfl) (by kernel_rfl) (by kernel_rfl) (by kernel_rfl) (by kernel_rfl) (laidWorld_met os _)) ?_
  intro W base args ds gs before hval0 hW _ hsz0 hL _
  have T := tabs_of_laid hL
  have hval : ∀ (j : Nat) t v, Tryz.f11.params[j]? = some t → args[j]? = some v → Value.okWide Tryz.prog W .any base t v := hval0
  have hW' := hW
  obtain ⟨p, q, hA0, hV, rfl, hfz, hnd⟩ := hW
  have hA : DataW.TrodAll enc Tryz.prog W 0 (fun _ => true) true [22, 23, 23, 61, 3, 3, 3] args.toList ds p := hA0
  obtain ⟨v0, v1, v2, v3, v4, v5, v6, d0, d1, d2, d3, d4, d5, d6, p0, p1, p2, p3, p4, p5, p6, rfl, rfl, rfl, h0, h1, h2, h3, h4, h5, h6⟩ := trodAll_n7 hA
  obtain ⟨rfl, rfl⟩ := trodVars_none hV
  obtain ⟨A0, l0, c0, rfl, hf0⟩ := open_facts (hval 0 22 v0 rfl rfl) h0
  obtain ⟨A1, l1, c1, rfl, hs1, ns1⟩ := open_list Opn.len (by omega) (fun y => ⟨.u8, _, rfl⟩) underOs cellsO open_cO (hval 1 23 v1 rfl rfl) h1
  obtain ⟨A2, l2, c2, rfl, hs2, ns2⟩ := open_list Opn.len (by omega) (fun y => ⟨.u8, _, rfl⟩) underOs cellsO open_cO (hval 2 23 v2 rfl rfl) h2
  obtain ⟨A3, l3, c3, rfl, hs3, ns3⟩ := open_list Guest.len (by omega) (fun y => ⟨.i64, _, rfl⟩) underUs cellsU open_cU (hval 3 61 v3 rfl rfl) h3
  obtain ⟨i4, rfl, _, _, wf4⟩ := open_int under3 (hval 4 3 v4 rfl rfl) h4
  obtain ⟨i5, rfl, _, _, wf5⟩ := open_int under3 (hval 5 3 v5 rfl rfl) h5
  obtain ⟨i6, rfl, _, _, wf6⟩ := open_int under3 (hval 6 3 v6 rfl rfl) h6
  refine (DuesTime_spec hf0 hs1 ns1 hs2 ns2 hs3 T i4 i5 i6 W (Same.refl W)).mono ?_
  rintro e W' ⟨⟨v, w'', rfl, ⟨rfl, he⟩, hs⟩, _⟩
  have he' : Ext W W' := he.same_right hs
  refine ⟨_, rfl, ?_⟩
  refine ⟨[d0, d1, d2, d3, d4, d5, d6], [], (p0 ++ (p1 ++ (p2 ++ (p3 ++ (p4 ++ (p5 ++ (p6))))))) ++ [], [], p0 ++ (p1 ++ (p2 ++ (p3 ++ (p4 ++ (p5 ++ (p6)))))), [], hW', ?_, ?_, rfl, Below.frame he' _, fun h => by cases h⟩
  · exact trodAll_mk1 (shut_bool under4 true)
  · exact trodAll_mkn7 (Below.trod laidOut recFs rowFs h0 he' fun x hx => hW'.lt x (by simp [hx])) (Below.trod laidOut recOs rowOs h1 he' fun x hx => hW'.lt x (by simp [hx])) (Below.trod laidOut recOs rowOs h2 he' fun x hx => hW'.lt x (by simp [hx])) (Below.trod laidOut recUs rowUs h3 he' fun x hx => hW'.lt x (by simp [hx])) (Below.trod laidOut rec3 row3 h4 he' fun x hx => hW'.lt x (by simp [hx])) (Below.trod laidOut rec3 row3 h5 he' fun x hx => hW'.lt x (by simp [hx])) (Below.trod laidOut rec3 row3 h6 he' fun x hx => hW'.lt x (by simp [hx]))
set_option maxHeartbeats 4000000 in
theorem duesTime_closed : joinedFacts Tryz.pinned.checked.prog 11 Tryz.f11 Rows.duesTimeSpec Rows.duesTimeRow = true := by
  unfold joinedFacts
  iterate 31 refine Bool.and_eq_true_iff.2 ⟨?_, ?_⟩
  · as_aux_lemma => kernel_rfl
  · exact kLaid
  · exact kMaps
  · as_aux_lemma => kernel_rfl
  · as_aux_lemma => kernel_rfl
  · as_aux_lemma => kernel_rfl
  · exact kStops
  · as_aux_lemma => kernel_rfl
  · exact kKnobs
  · as_aux_lemma => kernel_rfl
  · as_aux_lemma => kernel_rfl
  · as_aux_lemma => kernel_rfl
  · as_aux_lemma => kernel_rfl
  · as_aux_lemma => kernel_rfl
  · as_aux_lemma => kernel_rfl
  · as_aux_lemma => kernel_rfl
  · as_aux_lemma => kernel_rfl
  · as_aux_lemma => kernel_rfl
  · as_aux_lemma => kernel_rfl
  · as_aux_lemma => kernel_rfl
  · as_aux_lemma => kernel_rfl
  · as_aux_lemma => kernel_rfl
  · exact beq_iff_eq.2 kPlain.symm
  · as_aux_lemma => kernel_rfl
  · exact kHeard
  · exact kEnter
  · exact beq_iff_eq.2 kLifts.symm
  · as_aux_lemma => kernel_rfl
  · as_aux_lemma => kernel_rfl
  · as_aux_lemma => kernel_rfl
  · as_aux_lemma => kernel_rfl
  · as_aux_lemma => kernel_rfl
theorem duesTime_named : Tryz.pinned.checked.prog.funcNamed Rows.duesTimeRow.func = some 11 := by kernel_rfl
theorem duesTime_func : Tryz.pinned.checked.prog.funcs[11]? = some Tryz.f11 := Tryz.func11
theorem duesTime_inst : Tryz.f11.isInstance Tryz.pinned.checked.prog Rows.duesTimeRow.origin Rows.duesTimeRow.targs := of_decide_eq_true (by kernel_rfl)
theorem duesTime_wrap : Tryz.f11.isWrapper Tryz.pinned.checked.prog Rows.duesTimeRow.wrapper Rows.duesTimeRow.mainSum := by
  unfold Func.isWrapper; first | (rw [if_pos (by decide +kernel)]; kernel_rfl) | (rw [if_neg (by decide +kernel)]; exact ⟨rfl, rfl⟩)
theorem duesTime_text : Rows.duesTimeRow.wfByText (OpenSpec.ofChange Rows.duesTimeSpec) = true := by kernel_rfl
theorem duesTime_main : Tryz.pinned.checked.prog.mainIs = some (Rows.duesTimeCard.stood.harness.1, Rows.duesTimeCard.stood.harness.2.toList) := by kernel_rfl
theorem duesTime_looks : true = Tryz.pinned.checked.prog.looks [] := by kernel_rfl
theorem duesTime_goes : false = Rows.duesTimeRow.goesBy Tryz.pinned.checked.prog := by kernel_rfl
theorem duesTime_stand : (Tryz.f11.params.toList.all fun t => !Tryz.pinned.checked.prog.wantsStandIn t) = true := by kernel_rfl
theorem duesTime_holds : Rows.DuesTimeSaid :=
  OpenClaim.holds_of_wide 11 Tryz.f11 rfl rfl rfl rfl rfl rfl rfl ⟨rfl, rfl, rfl, rfl, rfl⟩ rfl rfl rfl rfl rfl duesTime_named duesTime_func duesTime_closed duesTime_inst duesTime_wrap
    (fun os started H enc _ => duesTime_lifted os started H enc)
theorem duesTime : Rows.DuesTimeCardSaid :=
  Claim7.holds_tied_plain_at .later [] [.data, .data, .data] true Rows.duesTimeCard.stood.harness true
    duesTime_holds (fun _ h => by cases h) duesTime_text (fun _ h => by cases h) duesTime_row_tie rfl ⟨rfl, rfl⟩ duesTime_main rfl
    (fun f fn hf hfn => by
      obtain rfl : f = 11 := Option.some.inj (duesTime_named.symm.trans hf) |>.symm
      obtain rfl : fn = Tryz.f11 := (Option.some.inj (duesTime_func.symm.trans hfn)).symm
      refine ⟨duesTime_looks, fun j t ht => ?_⟩
      have hm : t ∈ Tryz.f11.params.toList := by
        have := Array.mem_of_getElem? ht
        simpa using this
      exact Bool.not_eq_true' _ |>.mp (List.all_eq_true.1 duesTime_stand t hm))
    duesTime_goes
#print axioms duesTime
end Go.Proofs.YtcnbpfecgokhiaaGreatDoor
