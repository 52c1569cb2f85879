/- Proved: for every list of facts, operations, two states and two days the law DuesDebts returns true, and its arguments read behind the call as they did before; what the library's variables hold is tied to the program's text. No further condition. -/
import Derived.Test.YtcnbpfecgokhiaaGreatDoorDYc
import Derived.Test.YtcnbpfecgokhiaaGreatDoorDTc
import Derived.Test.YtcnbpfecgokhiaaGreatDoorDKa
set_option linter.unusedVariables false
set_option linter.unusedSimpArgs false
set_option linter.unnecessarySimpa false
set_option linter.unusedSectionVars false
namespace Go.Proofs.YtcnbpfecgokhiaaGreatDoor
open Go.Eng Go.RowKit

theorem backW_bound {gs : List Gift} (hw : ∀ g ∈ gs, 1 ≤ g.worth ∧ g.worth ≤ 1000000000000) (id : Int) : ∀ g ∈ gs, 0 ≤ backW id g ∧ backW id g ≤ 1000000000000 := fun g hg => by
  have := hw g hg
  unfold backW
  split <;> omega

set_option maxRecDepth 100000 in
set_option maxHeartbeats 2000000 in
theorem DuesDebts_spec {w : World} {A B : Option Addr} {f : List Fact} {s : List Opn} {c d : Nat} (hf : HF w A f c) (hs : HL Opn.cells w B s d) (hn : ∀ o ∈ s, o.Nums) (T : TabP w) (a b day later : Int) :
    CallsV C.P 6 #[.slice A f.length c, .slice B s.length d, .int .i64 a, .int .i64 b, .int .i64 day, .int .i64 later] w fun v w' => v = .bool true ∧ Ext w w' := by
  refine callsV_of C_ok (args := [_, _, _, _, _, _]) (plans := plans6) Tryz.func6 rfl Tryz.ntmps6 (by kernel_rfl) (Nat.le_of_ble_eq_true rfl) ?_
  refine (few_spec hf hs.cap).mono ?_
  rintro v w1 ⟨⟨bf, rfl, hb⟩, rfl⟩
  refine brE_mk (fun c1 => ?_) (fun c1 => ?_)
  · refine (grants_spec w1 T).mono ?_
    rintro v w2 ⟨rfl, e2⟩
    exact ⟨rfl, e2⟩
  obtain ⟨hfl, hsl⟩ := hb (by simpa using c1)
  refine (built_spec hf (by omega) hs (by omega) hn).mono ?_
  rintro v w2 ⟨l, rfl, n2⟩
  have hlen := (acc_built f s).2
  have hacc := (acc_built f s).1
  generalize builtL f s = es at *
  refine (Gifts_spec n2.is (by omega) a day).mono ?_
  rintro v w3 ⟨h3, e3⟩
  obtain ⟨A3, cA3, rfl, hr3⟩ := h3.hl
  have n3 := n2.then e3
  have hG := (acc_ok (acc_asOf hacc day)).gifts
  have hgl : (giftsAt es a day).length ≤ 500 := Nat.le_trans (List.length_filter_le _ _) hG.len
  have hworth : ∀ g ∈ giftsAt es a day, 1 ≤ g.worth ∧ g.worth ≤ 1000000000000 := fun g hg => by
    obtain ⟨i, hi, rfl⟩ := List.getElem_of_mem (List.mem_filter.1 hg).1
    exact hG.worth i hi
  obtain ⟨law1, law2⟩ := debt_law hG a b
  have hgeq : (giftL (asOfL es day)).filter (sidesB a) = giftsAt es a day := rfl
  rw [hgeq] at law1 law2
  have law1 : wantSum (giftsAt es a day) a b (giftsAt es a day) = debtAt es a b day := law1
  have hlater : day ≤ later → Ext2 GLater (giftsAt es a day) (giftsAt es a later) := fun h => debt_later hacc h
  generalize giftsAt es a day = gs at *
  have wantB : ∀ g ∈ gs, 0 ≤ wantW gs a b g ∧ wantW gs a b g ≤ 1000000000000 := fun g hg => by
    have h1 := hworth g hg
    have h2 := sum_bounds (backW g.id) 1000000000000 gs (backW_bound hworth g.id)
    have h3 := law2 g hg
    unfold wantW
    split
    · rename_i ho
      have := h3 ho
      unfold backSum at *
      omega
    · omega
  refine loopE C_ok (fun (p : Nat × Int) => [(2, .int .i64 a), (3, .int .i64 b), (4, .int .i64 day), (5, .int .i64 later), (13, l.ptr), (14, .slice A3 gs.length cA3), (15, .int .i64 p.2), (16, .int .i64 (p.1 : Nat))])
    (fun p w' => p.1 ≤ gs.length ∧ p.2 = wantSum gs a b (gs.take p.1) ∧ Ext w3 w') (fun p => gs.length - p.1) (0, 0) ⟨rfl, rfl, rfl, rfl, rfl, rfl, rfl, rfl, trivial⟩ ⟨Nat.zero_le _, rfl, Ext.refl _⟩ ?_
  rintro ⟨i, n⟩ w4 ⟨hi', hn', e4⟩
  have hi : i ≤ gs.length := hi'
  have hn4 : n = wantSum gs a b (gs.take i) := hn'
  clear hi' hn'
  refine brE_dec (fun hlt => ?_) (fun hge => ?_)
  · have hlti : i < gs.length := by have : (i : Int) < (gs.length : Nat) := hlt; omega
    have nb := sum_bounds (wantW gs a b) 1000000000000 (gs.take i) fun x hx => wantB x (List.mem_of_mem_take hx)
    have nb' : 0 ≤ n ∧ n ≤ (gs.take i).length * 1000000000000 := by rw [hn4]; exact nb
    rw [List.length_take] at nb'
    have hnext : wantSum gs a b (gs.take (i + 1)) = n + wantW gs a b gs[i] := by
      unfold wantSum at *
      rw [List.take_succ_eq_append_getElem hlti, List.map_append, List.sum_append, ← hn4]; simp
    have next : IntKind.i64.wrap ((i : Int) + 1) = ((i + 1 : Nat) : Int) := fit ⟨by omega, by omega⟩
    obtain ⟨b1, o1, hA1, hc1⟩ := (hr3.ext e4).at Gift.len (by omega) hlti
    have wb := hworth _ (List.getElem_mem hlti)
    refine ⟨i, b1, o1, rfl, hlti, hA1, ?_⟩
    refine ⟨gs[i].cells, rfl, hc1, ?_⟩
    intro g17 w5 h5
    refine ⟨rfl, _, _, h5.here, Nat.le_of_ble_eq_true rfl, rfl, ?_⟩
    intro w6 h6
    have h6 : Put w5 g17 (.cells gs[i].cells.toArray 37 (0, 0)) w6 := h6
    have e46 : Ext w4 w6 := h6.ext_of h5.ext (by rw [h5.new]; exact Nat.le_refl _)
    have hg6 := h6.here
    have e36 := e4.trans e46
    have skip : owedB a b gs[i] = false → n = wantSum gs a b (gs.take (i + 1)) := fun h => by
      rw [hnext]; unfold wantW; rw [h, if_neg (by decide)]; omega
    refine ⟨_, cell_of_block (i := 2) hg6 rfl, ?_⟩
    refine brE_ndec (fun c2 => ?_) (fun c2 => ?_)
    · have c2 : ¬ gs[i].frm = b := c2
      refine ⟨_, next, ?_⟩
      exact ⟨(i + 1, n), ⟨rfl, rfl, rfl, rfl, rfl, rfl, rfl, rfl, trivial⟩, ⟨hlti, skip (decide_eq_false fun e => c2 e.1), e36⟩, by show gs.length - (i + 1) < gs.length - i; omega⟩
    have c2 : gs[i].frm = b := c2
    refine ⟨_, cell_of_block (i := 3) hg6 rfl, ?_⟩
    refine brE_ndec (fun c3 => ?_) (fun c3 => ?_)
    · have c3 : ¬ gs[i].to = a := c3
      refine ⟨_, next, ?_⟩
      exact ⟨(i + 1, n), ⟨rfl, rfl, rfl, rfl, rfl, rfl, rfl, rfl, trivial⟩, ⟨hlti, skip (decide_eq_false fun e => c3 e.2.1), e36⟩, by show gs.length - (i + 1) < gs.length - i; omega⟩
    have c3 : gs[i].to = a := c3
    refine ⟨_, cell_of_block (i := 9) hg6 rfl, ?_⟩
    refine brE_ndec (fun c4 => ?_) (fun c4 => ?_)
    · have c4 : ¬ gs[i].returns = 0 := c4
      refine ⟨_, next, ?_⟩
      exact ⟨(i + 1, n), ⟨rfl, rfl, rfl, rfl, rfl, rfl, rfl, rfl, trivial⟩, ⟨hlti, skip (decide_eq_false fun e => c4 e.2.2.1), e36⟩, by show gs.length - (i + 1) < gs.length - i; omega⟩
    have c4 : gs[i].returns = 0 := c4
    refine ⟨_, cell_of_block (i := 7) hg6 rfl, ?_⟩
    refine brE_ndec (fun c5 => ?_) (fun c5 => ?_)
    · have c5 : ¬ gs[i].state = 2 := c5
      refine ⟨_, next, ?_⟩
      exact ⟨(i + 1, n), ⟨rfl, rfl, rfl, rfl, rfl, rfl, rfl, rfl, trivial⟩, ⟨hlti, skip (decide_eq_false fun e => c5 e.2.2.2), e36⟩, by show gs.length - (i + 1) < gs.length - i; omega⟩
    have c5 : gs[i].state = 2 := c5
    have hso : owedB a b gs[i] = true := decide_eq_true ⟨c2, c3, c4, c5⟩
    have hless := law2 gs[i] (List.getElem_mem hlti) hso
    have bb := backW_bound hworth gs[i].id
    refine loopE C_ok (fun (p : Nat × Int) => [(2, .int .i64 a), (3, .int .i64 b), (4, .int .i64 day), (5, .int .i64 later), (13, l.ptr), (14, .slice A3 gs.length cA3), (15, .int .i64 n), (16, .int .i64 (i : Nat)), (17, .pointer (some ⟨g17, 0, none⟩)), (18, .int .i64 p.2), (19, .int .i64 (p.1 : Nat))])
      (fun p w' => p.1 ≤ gs.length ∧ p.2 = ((gs.take p.1).map (backW gs[i].id)).sum ∧ Ext w6 w') (fun p => gs.length - p.1) (0, 0) ⟨rfl, rfl, rfl, rfl, rfl, rfl, rfl, rfl, rfl, rfl, rfl, trivial⟩ ⟨Nat.zero_le _, rfl, Ext.refl _⟩ ?_
    rintro ⟨k, m⟩ w7 ⟨hk', hm', e7⟩
    have hk : k ≤ gs.length := hk'
    have hm : m = ((gs.take k).map (backW gs[i].id)).sum := hm'
    clear hk' hm'
    have hg7 := e7.heap hg6
    have mb := sum_bounds (backW gs[i].id) 1000000000000 (gs.take k) fun x hx => bb x (List.mem_of_mem_take hx)
    rw [← hm, List.length_take] at mb
    refine brE_dec (fun hlt2 => ?_) (fun hge2 => ?_)
    · have hltk : k < gs.length := by have : (k : Int) < (gs.length : Nat) := hlt2; omega
      have next2 : IntKind.i64.wrap ((k : Int) + 1) = ((k + 1 : Nat) : Int) := fit ⟨by omega, by omega⟩
      have hsum : ((gs.take (k + 1)).map (backW gs[i].id)).sum = m + backW gs[i].id gs[k] := by
        rw [List.take_succ_eq_append_getElem hltk, List.map_append, List.sum_append, ← hm]; simp
      have wk := hworth _ (List.getElem_mem hltk)
      obtain ⟨b2, o2, hA2, hc2⟩ := (hr3.ext (e36.trans e7)).at Gift.len (by omega) hltk
      refine ⟨k, b2, o2, rfl, hltk, hA2, ?_⟩
      refine ⟨_, hc2 9 _ rfl, ?_⟩
      refine ⟨_, cell_of_block (i := 0) hg7 rfl, ?_⟩
      refine brE_dec (fun d1 => ?_) (fun d1 => ?_)
      · have d1 : gs[k].returns = gs[i].id := d1
        refine ⟨k, b2, o2, rfl, hltk, hA2, ?_⟩
        refine ⟨_, hc2 7 _ rfl, ?_⟩
        refine brE_dec (fun d2 => ?_) (fun d2 => ?_)
        · have d2 : gs[k].state = 2 := d2
          have hbk : backW gs[i].id gs[k] = gs[k].worth := if_pos ⟨d1, d2⟩
          refine ⟨k, b2, o2, rfl, hltk, hA2, ?_⟩
          refine ⟨_, hc2 6 _ rfl, ?_⟩
          refine ⟨m + gs[k].worth, fit ⟨by omega, by omega⟩, ?_⟩
          refine ⟨_, next2, ?_⟩
          exact ⟨(k + 1, m + gs[k].worth), ⟨rfl, rfl, rfl, rfl, rfl, rfl, rfl, rfl, rfl, rfl, rfl, trivial⟩, ⟨hltk, by rw [hsum, hbk], e7⟩, by show gs.length - (k + 1) < gs.length - k; omega⟩
        · have d2 : ¬ gs[k].state = 2 := d2
          have hbk : backW gs[i].id gs[k] = 0 := if_neg (fun e => d2 e.2)
          refine ⟨_, next2, ?_⟩
          exact ⟨(k + 1, m), ⟨rfl, rfl, rfl, rfl, rfl, rfl, rfl, rfl, rfl, rfl, rfl, trivial⟩, ⟨hltk, by rw [hsum, hbk, Int.add_zero], e7⟩, by show gs.length - (k + 1) < gs.length - k; omega⟩
      · have d1 : ¬ gs[k].returns = gs[i].id := d1
        have hbk : backW gs[i].id gs[k] = 0 := if_neg (fun e => d1 e.1)
        refine ⟨_, next2, ?_⟩
        exact ⟨(k + 1, m), ⟨rfl, rfl, rfl, rfl, rfl, rfl, rfl, rfl, rfl, rfl, rfl, trivial⟩, ⟨hltk, by rw [hsum, hbk, Int.add_zero], e7⟩, by show gs.length - (k + 1) < gs.length - k; omega⟩
    · have hke : k = gs.length := by have : ¬ (k : Int) < (gs.length : Nat) := hge2; omega
      rw [hke, List.take_length] at hm
      have hm2 : m = backSum gs gs[i].id := hm
      refine ⟨_, cell_of_block (i := 6) hg7 rfl, ?_⟩
      refine brE_false (decide_eq_false (by show ¬ gs[i].worth ≤ m; omega)) ?_
      refine ⟨_, cell_of_block (i := 6) hg7 rfl, ?_⟩
      refine ⟨n + gs[i].worth, fit ⟨by omega, by omega⟩, ?_⟩
      refine ⟨n + gs[i].worth - m, fit ⟨by omega, by omega⟩, ?_⟩
      refine ⟨_, next, ?_⟩
      refine ⟨(i + 1, n + gs[i].worth - m), ⟨rfl, rfl, rfl, rfl, rfl, rfl, rfl, rfl, trivial⟩, ⟨hlti, ?_, e36.trans e7⟩, by show gs.length - (i + 1) < gs.length - i; omega⟩
      show n + gs[i].worth - m = _
      rw [hnext]
      unfold wantW
      rw [if_pos hso, ← hm2]; omega
  · have hie : i = gs.length := by have : ¬ (i : Int) < (gs.length : Nat) := hge; omega
    rw [hie, List.take_length, law1] at hn4
    have n4 := n3.then e4
    refine (Debt_spec n4.is (by omega) a b day).mono ?_
    rintro v w5 ⟨rfl, e5⟩
    have n5 := n4.then e5
    rw [← hn4]
    refine brE_ndec (fun h => absurd rfl h) (fun _ => ?_)
    refine brE_dec (fun c6 => ?_) (fun c6 => ?_)
    · refine (Debt_spec n5.is (by omega) a b day).mono ?_
      rintro v w6 ⟨rfl, e6⟩
      have n6 := n5.then e6
      rw [← hn4]
      refine brE_dec (fun _ => ?_) (fun h => absurd rfl h)
      refine (grants_spec w6 (tabP_ext T n6.ext)).mono ?_
      rintro v w7 ⟨rfl, e7⟩
      exact ⟨rfl, n6.ext.trans e7⟩
    have c6 : day ≤ later := by have : ¬ later < day := c6; omega
    have hX := hlater c6
    have hxl := hX.length
    refine (Gifts_spec n5.is (by omega) a later).mono ?_
    rintro v w6 ⟨h6, e6⟩
    obtain ⟨A6, c7, rfl, hr6⟩ := h6.hl
    have n6 := n5.then e6
    have hr3' := hr3.ext ((e4.trans e5).trans e6)
    have hgl6 := hr6.cap
    generalize giftsAt es a later = ls at *
    refine loopE C_ok (fun (i : Nat) => [(14, .slice A3 gs.length cA3), (20, .slice A6 ls.length c7), (21, .int .i64 (i : Nat))]) (fun i w' => i ≤ gs.length ∧ w' = w6) (fun i => gs.length - i) 0 ⟨rfl, rfl, rfl, trivial⟩ ⟨Nat.zero_le _, rfl⟩ ?_
    rintro i w7 ⟨hi, rfl⟩
    refine brE_dec (fun hlt => ?_) (fun hge2 => ?_)
    · have hlti : i < gs.length := by have : (i : Int) < (gs.length : Nat) := hlt; omega
      obtain ⟨hltl, hgx⟩ := hX.get i hlti
      obtain ⟨b1, o1, hA1, hc1⟩ := hr3'.at Gift.len (by omega) hlti
      obtain ⟨b2, o2, hA2, hc2⟩ := hr6.at Gift.len (by omega) hltl
      have next : IntKind.i64.wrap ((i : Int) + 1) = ((i + 1 : Nat) : Int) := fit ⟨by omega, by omega⟩
      refine brE_dec (fun h => absurd (show ((i : Nat) : Int) ≥ (ls.length : Nat) from h) (by omega)) (fun _ => ?_)
      refine ⟨i, b2, o2, rfl, hltl, hA2, ?_⟩
      refine ⟨_, hc2 0 _ rfl, ?_⟩
      refine ⟨i, b1, o1, rfl, hlti, hA1, ?_⟩
      refine ⟨_, hc1 0 _ rfl, ?_⟩
      refine brE_ndec (fun h => absurd hgx.id h) (fun _ => ?_)
      refine ⟨i, b1, o1, rfl, hlti, hA1, ?_⟩
      refine ⟨_, hc1 7 _ rfl, ?_⟩
      refine brE_dec (fun s4 => ?_) (fun s4 => ?_)
      · have s4 : gs[i].state = 4 := s4
        refine ⟨i, b2, o2, rfl, hltl, hA2, ?_⟩
        refine ⟨_, hc2 7 _ rfl, ?_⟩
        refine brE_ndec (fun h => absurd (hgx.back s4) h) (fun _ => ?_)
        refine ⟨i, b1, o1, rfl, hlti, hA1, ?_⟩
        refine ⟨_, hc1 7 _ rfl, ?_⟩
        refine brE_dec (fun s3 => absurd (show gs[i].state = 3 from s3) (by omega)) (fun _ => ?_)
        refine ⟨_, next, ?_⟩
        exact ⟨i + 1, ⟨rfl, rfl, rfl, trivial⟩, ⟨hlti, rfl⟩, by show gs.length - (i + 1) < gs.length - i; omega⟩
      · refine ⟨i, b1, o1, rfl, hlti, hA1, ?_⟩
        refine ⟨_, hc1 7 _ rfl, ?_⟩
        refine brE_dec (fun s3 => ?_) (fun _ => ?_)
        · have s3 : gs[i].state = 3 := s3
          refine ⟨i, b2, o2, rfl, hltl, hA2, ?_⟩
          refine ⟨_, hc2 7 _ rfl, ?_⟩
          refine brE_ndec (fun h => absurd (hgx.no s3) h) (fun _ => ?_)
          refine ⟨_, next, ?_⟩
          exact ⟨i + 1, ⟨rfl, rfl, rfl, trivial⟩, ⟨hlti, rfl⟩, by show gs.length - (i + 1) < gs.length - i; omega⟩
        · refine ⟨_, next, ?_⟩
          exact ⟨i + 1, ⟨rfl, rfl, rfl, trivial⟩, ⟨hlti, rfl⟩, by show gs.length - (i + 1) < gs.length - i; omega⟩
    · refine (grants_spec w7 (tabP_ext T n6.ext)).mono ?_
      rintro v w8 ⟨rfl, e8⟩
      exact ⟨rfl, n6.ext.trans e8⟩

end Go.Proofs.YtcnbpfecgokhiaaGreatDoor

namespace Go.Proofs.YtcnbpfecgokhiaaGreatDoor
open Go.Eng Go.RowKit Go.ChangeShapes Go.WideShapes Go.ChangeAt
open Go.ChangeMaps (open_string shut_string)

set_option maxRecDepth 100000 in
theorem duesDebts_lifted (os : Os) (started : os.Started) (H : Type) (enc : TypeId × Value → H) :
    ReturnsInHanded {} Tryz.checked os 6 .any (fun w args => (Rows.duesDebtsSpec.pre enc Tryz.prog Tryz.f6 Rows.duesDebtsRow.domain false w args ∧ laidMet Tryz.prog laidL w) ∧ sizedMet enc Tryz.prog Tryz.f6 (OpenSpec.ofChange Rows.duesDebtsSpec) false w args)
      (Rows.duesDebtsSpec.post enc Tryz.prog Tryz.f6 false true false false) := by
  refine returnsInHanded_of_change_and (C := Tryz.checked) (X := fun w _ => laidMet Tryz.prog laidL w) (fun _ _ _ hh h => h.of_heap hh) own started (by kernel_rfl) Tryz.func6
    (ChangeSpec.witness_at (enc := enc) (C := Tryz.checked) (os := os) (X := fun w _ => laidMet Tryz.prog laidL w) false (laidWorld os) #[.slice none 0 0, .slice none 0 0, .int .i64 0, .int .i64 0, .int .i64 0, .int .i64 0] 8 rfl (by kernel_rfl) (by kernel_rfl) (by kernel_rfl) (by kernel_rfl) (by kernel_rfl) (laidWorld_met os _)) ?_
  intro W base args ds gs before hval0 hW _ hsz0 hL _
  have T := tabs_of_laid hL
  have hval : ∀ (j : Nat) t v, Tryz.f6.params[j]? = some t → args[j]? = some v → Value.okWide Tryz.prog W .any base t v := hval0
  have hW' := hW
  obtain ⟨p, q, hA0, hV, rfl, hfz, hnd⟩ := hW
  have hA : DataW.TrodAll enc Tryz.prog W 0 (fun _ => true) true [22, 23, 3, 3, 3, 3] args.toList ds p := hA0
  obtain ⟨v0, v1, v2, v3, v4, v5, d0, d1, d2, d3, d4, d5, p0, p1, p2, p3, p4, p5, rfl, rfl, rfl, h0, h1, h2, h3, h4, h5⟩ := trodAll_n6 hA
  obtain ⟨rfl, rfl⟩ := trodVars_none hV
  obtain ⟨A0, l0, c0, rfl, hf0⟩ := open_facts (hval 0 22 v0 rfl rfl) h0
  obtain ⟨A1, l1, c1, rfl, hs1, ns1⟩ := open_list Opn.len (by omega) (fun y => ⟨.u8, _, rfl⟩) underOs cellsO open_cO (hval 1 23 v1 rfl rfl) h1
  obtain ⟨i2, rfl, _, _, wf2⟩ := open_int under3 (hval 2 3 v2 rfl rfl) h2
  obtain ⟨i3, rfl, _, _, wf3⟩ := open_int under3 (hval 3 3 v3 rfl rfl) h3
  obtain ⟨i4, rfl, _, _, wf4⟩ := open_int under3 (hval 4 3 v4 rfl rfl) h4
  obtain ⟨i5, rfl, _, _, wf5⟩ := open_int under3 (hval 5 3 v5 rfl rfl) h5
  refine (DuesDebts_spec hf0 hs1 ns1 T i2 i3 i4 i5 W (Same.refl W)).mono ?_
  rintro e W' ⟨⟨v, w'', rfl, ⟨rfl, he⟩, hs⟩, _⟩
  have he' : Ext W W' := he.same_right hs
  refine ⟨_, rfl, ?_⟩
  refine ⟨[d0, d1, d2, d3, d4, d5], [], (p0 ++ (p1 ++ (p2 ++ (p3 ++ (p4 ++ (p5)))))) ++ [], [], p0 ++ (p1 ++ (p2 ++ (p3 ++ (p4 ++ (p5))))), [], hW', ?_, ?_, rfl, Below.frame he' _, fun h => by cases h⟩
  · exact trodAll_mk1 (shut_bool under4 true)
  · exact trodAll_mkn6 (Below.trod laidOut recFs rowFs h0 he' fun x hx => hW'.lt x (by simp [hx])) (Below.trod laidOut recOs rowOs h1 he' fun x hx => hW'.lt x (by simp [hx])) (Below.trod laidOut rec3 row3 h2 he' fun x hx => hW'.lt x (by simp [hx])) (Below.trod laidOut rec3 row3 h3 he' fun x hx => hW'.lt x (by simp [hx])) (Below.trod laidOut rec3 row3 h4 he' fun x hx => hW'.lt x (by simp [hx])) (Below.trod laidOut rec3 row3 h5 he' fun x hx => hW'.lt x (by simp [hx]))

set_option maxHeartbeats 4000000 in
theorem duesDebts_closed : joinedFacts Tryz.pinned.checked.prog 6 Tryz.f6 Rows.duesDebtsSpec Rows.duesDebtsRow = true := by
  unfold joinedFacts
  iterate 31 refine Bool.and_eq_true_iff.2 ⟨?_, ?_⟩
  · as_aux_lemma => kernel_rfl
  · exact kLaid
  · exact kMaps
  · as_aux_lemma => kernel_rfl
  · as_aux_lemma => kernel_rfl
  · as_aux_lemma => kernel_rfl
  · exact kStops
  · as_aux_lemma => kernel_rfl
  · exact kKnobs
  · as_aux_lemma => kernel_rfl
  · as_aux_lemma => kernel_rfl
  · as_aux_lemma => kernel_rfl
  · as_aux_lemma => kernel_rfl
  · as_aux_lemma => kernel_rfl
  · as_aux_lemma => kernel_rfl
  · as_aux_lemma => kernel_rfl
  · as_aux_lemma => kernel_rfl
  · as_aux_lemma => kernel_rfl
  · as_aux_lemma => kernel_rfl
  · as_aux_lemma => kernel_rfl
  · as_aux_lemma => kernel_rfl
  · as_aux_lemma => kernel_rfl
  · exact beq_iff_eq.2 kPlain.symm
  · as_aux_lemma => kernel_rfl
  · exact kHeard
  · exact kEnter
  · exact beq_iff_eq.2 kLifts.symm
  · as_aux_lemma => kernel_rfl
  · as_aux_lemma => kernel_rfl
  · as_aux_lemma => kernel_rfl
  · as_aux_lemma => kernel_rfl
  · as_aux_lemma => kernel_rfl

theorem duesDebts_named : Tryz.pinned.checked.prog.funcNamed Rows.duesDebtsRow.func = some 6 := by kernel_rfl
theorem duesDebts_func : Tryz.pinned.checked.prog.funcs[6]? = some Tryz.f6 := Tryz.func6
theorem duesDebts_inst : Tryz.f6.isInstance Tryz.pinned.checked.prog Rows.duesDebtsRow.origin Rows.duesDebtsRow.targs := of_decide_eq_true (by kernel_rfl)
theorem duesDebts_wrap : Tryz.f6.isWrapper Tryz.pinned.checked.prog Rows.duesDebtsRow.wrapper Rows.duesDebtsRow.mainSum := by
  unfold Func.isWrapper; first | (rw [if_pos (by decide +kernel)]; kernel_rfl) | (rw [if_neg (by decide +kernel)]; exact ⟨rfl, rfl⟩)
theorem duesDebts_text : Rows.duesDebtsRow.wfByText (OpenSpec.ofChange Rows.duesDebtsSpec) = true := by kernel_rfl
theorem duesDebts_main : Tryz.pinned.checked.prog.mainIs = some (Rows.duesDebtsCard.stood.harness.1, Rows.duesDebtsCard.stood.harness.2.toList) := by kernel_rfl
theorem duesDebts_looks : true = Tryz.pinned.checked.prog.looks [] := by kernel_rfl
theorem duesDebts_goes : false = Rows.duesDebtsRow.goesBy Tryz.pinned.checked.prog := by kernel_rfl
theorem duesDebts_stand : (Tryz.f6.params.toList.all fun t => !Tryz.pinned.checked.prog.wantsStandIn t) = true := by kernel_rfl

theorem duesDebts_holds : Rows.DuesDebtsSaid :=
  OpenClaim.holds_of_wide 6 Tryz.f6 rfl rfl rfl rfl rfl rfl rfl ⟨rfl, rfl, rfl, rfl, rfl⟩ rfl rfl rfl rfl rfl duesDebts_named duesDebts_func duesDebts_closed duesDebts_inst duesDebts_wrap
    (fun os started H enc _ => duesDebts_lifted os started H enc)

theorem duesDebts : Rows.DuesDebtsCardSaid :=
  Claim7.holds_tied_plain_at .later [] [.data, .data, .data] true Rows.duesDebtsCard.stood.harness true
    duesDebts_holds (fun _ h => by cases h) duesDebts_text (fun _ h => by cases h) duesDebts_row_tie rfl ⟨rfl, rfl⟩ duesDebts_main rfl
    (fun f fn hf hfn => by
      obtain rfl : f = 6 := Option.some.inj (duesDebts_named.symm.trans hf) |>.symm
      obtain rfl : fn = Tryz.f6 := (Option.some.inj (duesDebts_func.symm.trans hfn)).symm
      refine ⟨duesDebts_looks, fun j t ht => ?_⟩
      have hm : t ∈ Tryz.f6.params.toList := by
        have := Array.mem_of_getElem? ht
        simpa using this
      exact Bool.not_eq_true' _ |>.mp (List.all_eq_true.1 duesDebts_stand t hm))
    duesDebts_goes

#print axioms duesDebts
end Go.Proofs.YtcnbpfecgokhiaaGreatDoor
