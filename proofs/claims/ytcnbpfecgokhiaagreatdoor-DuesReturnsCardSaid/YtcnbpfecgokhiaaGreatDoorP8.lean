/- Proved: for every list of facts, operations, two states and day the law DuesReturns returns true, and its arguments read behind the call as they did before; what the library's variables hold is tied to the program's text. No further condition. -/
import Derived.Test.YtcnbpfecgokhiaaGreatDoorDYc
import Derived.Test.YtcnbpfecgokhiaaGreatDoorDTc
import Derived.Test.YtcnbpfecgokhiaaGreatDoorDKa
set_option linter.unusedVariables false
set_option linter.unusedSimpArgs false
set_option linter.unnecessarySimpa false
set_option linter.unusedSectionVars false
namespace Go.Proofs.YtcnbpfecgokhiaaGreatDoor
open Go.Eng Go.RowKit

theorem pair_spec (x : Waiv) (a b : Int) (w : World) : CallsV C.P 38 #[x.val, .int .i64 a, .int .i64 b] w fun v w' => v = .bool (pairW a b x) ∧ Ext w w' := by
  refine callsV_of C_ok (args := [_, _, _]) (plans := []) Tryz.func38 rfl Tryz.ntmps38 (by kernel_rfl) (Nat.le_of_ble_eq_true rfl) ?_
  intro g1 w1 h1
  have M1 : Mem w w1 [(g1, .cells x.cells.toArray 35 (0, 0))] := (Mem.start w).alloc h1
  have second : ¬ (x.giver = a ∧ x.taker = b) → pairW a b x = (decide (x.giver = b) && decide (x.taker = a)) := fun h => by
    unfold pairW
    by_cases h1 : x.giver = b
    · by_cases h2 : x.taker = a
      · rw [decide_eq_true (.inr ⟨h1, h2⟩), decide_eq_true h1, decide_eq_true h2]; rfl
      · rw [decide_eq_false (fun e => e.elim h fun e => h2 e.2), decide_eq_false h2, Bool.and_false]
    · rw [decide_eq_false (fun e => e.elim h fun e => h1 e.1), decide_eq_false h1, Bool.false_and]
  refine ⟨_, M1.cell 0 rfl rfl, ?_⟩
  refine brE_dec (fun c1 => ?_) (fun c1 => ?_)
  · have c1 : x.giver = a := c1
    refine ⟨_, M1.cell 0 rfl rfl, ?_⟩
    refine brE_dec (fun c2 => ?_) (fun c2 => ?_)
    · have c2 : x.taker = b := c2
      exact ⟨congrArg _ (decide_eq_true (.inl ⟨c1, c2⟩)).symm, M1.ext⟩
    have c2 : ¬ x.taker = b := c2
    have h2 := second (fun e => c2 e.2)
    refine ⟨_, M1.cell 0 rfl rfl, ?_⟩
    refine brE_dec (fun c3 => ?_) (fun c3 => ?_)
    · have c3 : x.giver = b := c3
      refine ⟨_, M1.cell 0 rfl rfl, ?_⟩
      exact ⟨congrArg _ (by rw [h2, decide_eq_true c3, Bool.true_and]), M1.ext⟩
    · have c3 : ¬ x.giver = b := c3
      exact ⟨congrArg _ (by rw [h2, decide_eq_false c3, Bool.false_and]), M1.ext⟩
  · have c1 : ¬ x.giver = a := c1
    have h2 := second (fun e => c1 e.1)
    refine ⟨_, M1.cell 0 rfl rfl, ?_⟩
    refine brE_dec (fun c3 => ?_) (fun c3 => ?_)
    · have c3 : x.giver = b := c3
      refine ⟨_, M1.cell 0 rfl rfl, ?_⟩
      exact ⟨congrArg _ (by rw [h2, decide_eq_true c3, Bool.true_and]), M1.ext⟩
    · have c3 : ¬ x.giver = b := c3
      exact ⟨congrArg _ (by rw [h2, decide_eq_false c3, Bool.false_and]), M1.ext⟩

theorem owesAt_cases (es : List Entry) (a b day : Int) : ∃ (x : Due) (is : Bool), owesAt es a b day = (x, is) ∧ (is = true → owesL (dueL (asOfL es day)) b a = some x) ∧ (is = false → owesL (dueL (asOfL es day)) b a = none) := by
  unfold owesAt
  cases h : owesL (dueL (asOfL es day)) b a with
  | some d => exact ⟨d, true, rfl, fun _ => rfl, fun h => by cases h⟩
  | none => exact ⟨dueZ, false, rfl, (fun h => by cases h), fun _ => rfl⟩
theorem ext_keep1 {w w1 w2 : World} {g : Nat} (e : Ext w w1) (k : Keep (fun q => q ≠ g) w1 w2) (hg : w.heap.size ≤ g) : Ext w w2 :=
  ⟨k.os.trans e.os, k.tape.trans e.tape, k.output.trans e.output, Nat.le_trans e.size k.size, fun q hq => (k.block q (by omega) (Nat.lt_of_lt_of_le hq e.size)).trans (e.block q hq)⟩

set_option maxRecDepth 100000 in
set_option maxHeartbeats 1000000 in
theorem DuesReturns_spec {w : World} {A B : Option Addr} {f : List Fact} {s : List Opn} {c d : Nat} (hf : HF w A f c) (hs : HL Opn.cells w B s d) (hn : ∀ o ∈ s, o.Nums) (T : TabP w) {a b : Int} (h1 : In64 a) (h2 : In64 b) (day : Int) :
    CallsV C.P 8 #[.slice A f.length c, .slice B s.length d, .int .i64 a, .int .i64 b, .int .i64 day] w fun v w' => v = .bool true ∧ Ext w w' := by
  refine callsV_of C_ok (args := [_, _, _, _, _]) (plans := []) Tryz.func8 rfl Tryz.ntmps8 (by kernel_rfl) (Nat.le_of_ble_eq_true rfl) ?_
  refine (few_spec hf hs.cap).mono ?_
  rintro v w1 ⟨⟨bf, rfl, hb⟩, rfl⟩
  refine brE_mk (fun c1 => ?_) (fun c1 => ?_)
  · refine (grants_spec w1 T).mono ?_
    rintro v w2 ⟨rfl, e2⟩
    exact ⟨rfl, e2⟩
  obtain ⟨hfl, hsl⟩ := hb (by simpa using c1)
  refine brE_dec (fun hab => ?_) (fun hab => ?_)
  · refine (grants_spec w1 T).mono ?_
    rintro v w2 ⟨rfl, e2⟩
    exact ⟨rfl, e2⟩
  have hab : a ≠ b := hab
  refine (built_spec hf (by omega) hs (by omega) hn).mono ?_
  rintro v w2 ⟨l, rfl, n2⟩
  have hlen := (acc_built f s).2
  have hacc := (acc_built f s).1
  generalize builtL f s = es at *
  obtain ⟨x, is, hx, hx1, hx0⟩ := owesAt_cases es a b day
  obtain ⟨y, also, hy, hy1, hy0⟩ := owesAt_cases es b a day
  obtain ⟨o0, ho0, hd0, hp0⟩ := open_law hab (acc_asOf hacc day)
  obtain ⟨r1, r2, r3⟩ := returns_law hab hd0 hp0
  have X2 := Owes_spec n2.is (by omega) h1 h2 day
  rw [hx] at X2
  refine X2.mono ?_
  rintro v w3 ⟨rfl, e3⟩
  have n3 := n2.then e3
  intro g12 w4 h4
  refine ⟨rfl, _, _, h4.here, Nat.le_of_ble_eq_true rfl, rfl, ?_⟩
  intro w5 h5
  have h5 : Put w4 g12 (.cells x.cells.toArray 74 (0, 0)) w5 := h5
  have e35 : Ext w3 w5 := h5.ext_of h4.ext (by rw [h4.new]; exact Nat.le_refl _)
  have n5 := n3.then e35
  have Y5 := Owes_spec n5.is (by omega) h2 h1 day
  rw [hy] at Y5
  refine Y5.mono ?_
  rintro v w6 ⟨rfl, e6⟩
  have n6 := n5.then e6
  intro g14 w7 h7
  refine ⟨rfl, _, _, h7.here, Nat.le_of_ble_eq_true rfl, rfl, ?_⟩
  intro w8 h8
  have h8 : Put w7 g14 (.cells y.cells.toArray 74 (0, 0)) w8 := h8
  have e68 : Ext w6 w8 := h8.ext_of h7.ext (by rw [h7.new]; exact Nat.le_refl _)
  have n8 := n6.then e68
  have hg12 : w8.heap[g12]? = some (.cells x.cells.toArray 74 (0, 0)) := (e6.trans e68).heap h5.here
  have hg14 := h8.here
  have both : is = true → also = true → False := fun a1 a2 => by
    rcases r1 with r | r
    · rw [hx1 a1] at r; cases r
    · rw [hy1 a2] at r; cases r
  have fin8 : ∀ {v : Value}, True := fun {_} => trivial
  refine brE_mk (fun a1 => ?isT) (fun a1 => ?isF)
  case' isT =>
    refine brE_mk (fun a2 => (both a1 a2).elim) (fun a2 => ?isTF)
  all_goals
    intro g16 w9 h9
    have M9 := (Mem.start w8).alloc h9
    refine ⟨rfl, _, _, M9.get 0 rfl, Nat.le_of_ble_eq_true rfl, rfl, ?_⟩
    intro w10 h10
    have h10 : Put w9 g16 (.cells waivZ.cells.toArray 35 (0, 0)) w10 := h10
    have e810 : Ext w8 w10 := h10.ext_of h9.ext (by rw [h9.new]; exact Nat.le_refl _)
    have n10 := n8.then e810
    have hnew : w1.heap.size ≤ g16 := by rw [h9.new]; exact n8.ext.size
    refine (Entries_spec n10.is (by omega)).mono ?_
    rintro v wE ⟨hE, eE⟩
    obtain ⟨AE, cE, rfl, hr⟩ := hE.hl
    have x12 := (e810.trans eE).heap hg12
    have x14 := (e810.trans eE).heap hg14
    have x16 := eE.heap h10.here
    have hext := n10.ext.trans eE
    have ne12 : g12 ≠ g16 := fun e => by rw [e, x16] at x12; simp at x12
    have ne14 : g14 ≠ g16 := fun e => by rw [e, x16] at x14; simp at x14
    clear h10 h9 M9 n10 e810 n8 e68 h8 h7 n6 e6 n5 e35 h5 h4 n3 e3
    refine loopE C_ok (fun (p : Nat × Waiv) => [(2, .int .i64 a), (3, .int .i64 b), (4, .int .i64 day), (12, .pointer (some ⟨g12, 0, none⟩)), (13, .bool is), (14, .pointer (some ⟨g14, 0, none⟩)), (15, .bool also), (16, .pointer (some ⟨g16, 0, none⟩)), (17, .slice AE es.length cE), (18, .int .i64 (p.1 : Nat))])
      (fun p w' => p.1 ≤ es.length ∧ openL a b (asOfL (es.take p.1) day) = some p.2 ∧ w'.heap[g16]? = some (.cells p.2.cells.toArray 35 (0, 0)) ∧ Keep (fun q => q ≠ g16) wE w') (fun p => es.length - p.1) (0, waivZ) ⟨rfl, rfl, rfl, rfl, rfl, rfl, rfl, rfl, rfl, rfl, trivial⟩
      ⟨Nat.zero_le _, rfl, x16, Keep.refl _ _⟩ ?_
    rintro ⟨i, o⟩ v1 ⟨hi', hop', hg', kv1⟩
    have hi : i ≤ es.length := hi'
    have hop : openL a b (asOfL (es.take i) day) = some o := hop'
    have hg : v1.heap[g16]? = some (.cells o.cells.toArray 35 (0, 0)) := hg'
    clear hi' hop' hg'
    have hrd : Reads v1 AE (es.flatMap Entry.cells) := by
      rcases hr.reads with h | ⟨b', o', hA, h⟩
      · exact .inl h
      · by_cases h0 : es.flatMap Entry.cells = []
        · exact .inl h0
        · refine .inr ⟨b', o', hA, kv1.rd (D := fun q => q ≠ g16) (fun e => ?_) h⟩
          obtain ⟨_, hv | ⟨g', cap', cur', hv, _, hg'', _⟩⟩ := hE
          · rw [List.length_eq_zero_iff.1 hv.2] at h0; exact h0 rfl
          · cases hv
            cases hA
            rw [e, x16] at hg''
            simp at hg''
    refine brE_dec (fun hlt => ?_) (fun hge => ?_)
    · have hlti : i < es.length := by have : (i : Int) < (es.length : Nat) := hlt; omega
      have next : IntKind.i64.wrap ((i : Int) + 1) = ((i + 1 : Nat) : Int) := fit ⟨by omega, by omega⟩
      obtain ⟨b1, o1, hA1, hc1⟩ := Reads.elem Entry.len (by omega) hrd hlti
      have hsnoc := asOf_take_succ hlti day
      obtain ⟨oN, hoN, _, _⟩ := open_law hab (acc_asOf (acc_front hacc (i + 1)) day)
      refine ⟨i, b1, o1, rfl, hlti, hA1, ?_⟩
      refine ⟨es[i].w.cells, rfl, hc1.part es[i].w_part, ?_⟩
      intro g19 v2 k2
      have M2 := (Mem.start v1).alloc k2
      refine ⟨rfl, _, _, M2.get 0 rfl, Nat.le_of_ble_eq_true rfl, rfl, ?_⟩
      intro v3 k3
      have k3 : Put v2 g19 (.cells es[i].w.cells.toArray 35 (0, 0)) v3 := k3
      have e13 : Ext v1 v3 := k3.ext_of k2.ext (by rw [k2.new]; exact Nat.le_refl _)
      have hc3 := hc1.ext e13
      have hg3 := e13.heap hg
      have ne19 : g19 ≠ g16 := fun e => by
        have := lt_of_heap hg
        rw [k2.new] at e; omega
      have kE : ∀ {v4 : World}, Ext v1 v4 → Keep (fun q => q ≠ g16) wE v4 := fun e => kv1.ext e
      have skip : ¬ (es[i].day ≤ day ∧ es[i].kind = 3 ∧ pairW a b es[i].w = true) → openL a b (asOfL (es.take (i + 1)) day) = some o := fun h => by
        rw [hsnoc]
        by_cases hd : es[i].day ≤ day
        · rw [if_pos hd, openL_snoc, hop]
          unfold openS
          simp only
          rw [if_neg (fun e => h ⟨hd, e⟩)]
        · rw [if_neg hd, List.append_nil]; exact hop
      refine ⟨i, b1, o1, rfl, hlti, hA1, ?_⟩
      refine ⟨_, hc3 0 _ rfl, ?_⟩
      refine brE_ndec (fun c3 => ?_) (fun c3 => ?_)
      · have c3 : ¬ es[i].kind = 3 := c3
        refine ⟨_, next, ?_⟩
        exact ⟨(i + 1, o), ⟨rfl, rfl, rfl, rfl, rfl, rfl, rfl, rfl, rfl, rfl, trivial⟩, ⟨hlti, skip (fun e => c3 e.2.1), hg3, kE e13⟩, by show es.length - (i + 1) < es.length - i; omega⟩
      have c3 : es[i].kind = 3 := c3
      refine ⟨i, b1, o1, rfl, hlti, hA1, ?_⟩
      refine ⟨_, hc3 1 _ rfl, ?_⟩
      refine brE_dec (fun c4 => ?_) (fun c4 => ?_)
      · have c4 : es[i].day > day := c4
        refine ⟨_, next, ?_⟩
        exact ⟨(i + 1, o), ⟨rfl, rfl, rfl, rfl, rfl, rfl, rfl, rfl, rfl, rfl, trivial⟩, ⟨hlti, skip (fun e => by have := e.1; omega), hg3, kE e13⟩, by show es.length - (i + 1) < es.length - i; omega⟩
      have c4 : es[i].day ≤ day := by have : ¬ es[i].day > day := c4; omega
      refine ⟨es[i].w.cells, rfl, Rd.of_block k3.here, ?_⟩
      refine (pair_spec es[i].w a b v3).mono ?_
      rintro v v4 ⟨rfl, e34⟩
      have e14 := e13.trans e34
      have hg4 := e34.heap hg3
      have h19 := e34.heap k3.here
      refine brE_mk (fun c5 => ?_) (fun c5 => ?_)
      · have c5 : pairW a b es[i].w = false := by simpa using c5
        refine ⟨_, next, ?_⟩
        exact ⟨(i + 1, o), ⟨rfl, rfl, rfl, rfl, rfl, rfl, rfl, rfl, rfl, rfl, trivial⟩, ⟨hlti, skip (fun e => by rw [c5] at e; exact absurd e.2.2 (by decide)), hg4, kE e14⟩, by show es.length - (i + 1) < es.length - i; omega⟩
      have c5 : pairW a b es[i].w = true := by simpa using c5
      have hstep : openL a b (asOfL (es.take (i + 1)) day) = if o.id = 0 then some es[i].w else if o.giver = es[i].w.taker then some waivZ else none := by
        rw [hsnoc, if_pos c4, openL_snoc, hop]
        unfold openS
        simp only
        rw [if_pos ⟨c3, c5⟩]
      refine ⟨_, cell_of_block (i := 0) hg4 rfl, ?_⟩
      refine brE_dec (fun c6 => ?_) (fun c6 => ?_)
      · have c6 : o.id = 0 := c6
        refine ⟨es[i].w.cells, rfl, Rd.of_block h19, ?_⟩
        refine ⟨rfl, _, _, hg4, Nat.le_of_ble_eq_true rfl, rfl, ?_⟩
        intro v5 k5
        have k5 : Put v4 g16 (.cells es[i].w.cells.toArray 35 (0, 0)) v5 := k5
        refine ⟨_, next, ?_⟩
        exact ⟨(i + 1, es[i].w), ⟨rfl, rfl, rfl, rfl, rfl, rfl, rfl, rfl, rfl, rfl, trivial⟩, ⟨hlti, by rw [hstep, if_pos c6], k5.here, (kE e14).put k5 (fun h => h rfl)⟩, by show es.length - (i + 1) < es.length - i; omega⟩
      have c6 : ¬ o.id = 0 := c6
      refine ⟨_, cell_of_block (i := 3) hg4 rfl, ?_⟩
      refine ⟨_, cell_of_block (i := 4) h19 rfl, ?_⟩
      refine brE_dec (fun c7 => ?_) (fun c7 => ?_)
      · have c7 : o.giver = es[i].w.taker := c7
        refine ⟨rfl, _, _, hg4, Nat.le_of_ble_eq_true rfl, rfl, ?_⟩
        intro v5 k5
        have k5 : Put v4 g16 (.cells waivZ.cells.toArray 35 (0, 0)) v5 := k5
        refine ⟨_, next, ?_⟩
        exact ⟨(i + 1, waivZ), ⟨rfl, rfl, rfl, rfl, rfl, rfl, rfl, rfl, rfl, rfl, trivial⟩, ⟨hlti, by rw [hstep, if_neg c6, if_pos c7], k5.here, (kE e14).put k5 (fun h => h rfl)⟩, by show es.length - (i + 1) < es.length - i; omega⟩
      · have c7 : ¬ o.giver = es[i].w.taker := c7
        rw [hstep, if_neg c6, if_neg c7] at hoN
        cases hoN
    · have hie : i = es.length := by have : ¬ (i : Int) < (es.length : Nat) := hge; omega
      rw [hie, List.take_length, ho0] at hop
      have hoe : o0 = o := Option.some.inj hop
      subst hoe
      refine ⟨_, cell_of_block (i := 3) hg rfl, ?_⟩
      refine ⟨_, cell_of_block (i := 4) hg rfl, ?_⟩
      refine ⟨_, cell_of_block (i := 0) hg rfl, ?_⟩
      intro g20 v2 k2
      have M2 := (Mem.start v1).alloc k2
      refine ⟨rfl, _, _, M2.get 0 rfl, Nat.le_of_ble_eq_true rfl, rfl, ?_⟩
      intro v3 k3
      have k3 : Put v2 g20 (.cells (Due.mk o0.giver o0.taker o0.id).cells.toArray 74 (0, 0)) v3 := k3
      have e13 : Ext v1 v3 := k3.ext_of k2.ext (by rw [k2.new]; exact Nat.le_refl _)
      have hg3 := e13.heap hg
      have x12' := e13.heap (kv1.heap (D := fun q => q ≠ g16) ne12 x12)
      have x14' := e13.heap (kv1.heap (D := fun q => q ≠ g16) ne14 x14)
      have ext3 : Ext w1 v3 := (ext_keep1 hext kv1 hnew).trans e13
      refine ⟨_, cell_of_block (i := 0) hg3 rfl, ?_⟩
      refine brE_dec (fun c6 => ?_) (fun c6 => ?_)
      · have c6 : o0.id = 0 := c6
        obtain ⟨z1, z2⟩ := r2 c6
        have hi0 : is = false := by
          cases is with
          | false => rfl
          | true => rw [hx1 rfl] at z1; cases z1
        have ha0 : also = false := by
          cases also with
          | false => rfl
          | true => rw [hy1 rfl] at z2; cases z2
        subst hi0 ha0
        refine (grants_spec v3 (tabP_ext T ext3)).mono ?_
        rintro v v4 ⟨rfl, e34⟩
        exact ⟨rfl, ext3.trans e34⟩
      · have c6 : ¬ o0.id = 0 := c6
        obtain ⟨z1, z2, z3⟩ := r3 c6
        refine (grants_spec v3 (tabP_ext T ext3)).mono ?_
        rintro v v4 ⟨rfl, e34⟩
        have x12'' := e34.heap x12'
        have x14'' := e34.heap x14'
        have x20 := e34.heap k3.here
        cases is with
        | true =>
          cases also with
          | true => exact (both rfl rfl).elim
          | false =>
            have hxe := z2 x (hx1 rfl)
            refine ⟨x.cells, rfl, Rd.of_block x12'', ?_⟩
            refine ⟨(Due.mk o0.giver o0.taker o0.id).cells, rfl, Rd.of_block x20, ?_⟩
            refine ⟨_, eqD _ _ x ⟨o0.giver, o0.taker, o0.id⟩, ?_⟩
            refine brE_true (decide_eq_true hxe) ?_
            exact ⟨rfl, ext3.trans e34⟩
        | false =>
          cases also with
          | true =>
            have hye := z3 y (hy1 rfl)
            refine ⟨y.cells, rfl, Rd.of_block x14'', ?_⟩
            refine ⟨(Due.mk o0.giver o0.taker o0.id).cells, rfl, Rd.of_block x20, ?_⟩
            refine ⟨_, eqD _ _ y ⟨o0.giver, o0.taker, o0.id⟩, ?_⟩
            exact ⟨congrArg _ (decide_eq_true hye), ext3.trans e34⟩
          | false =>
            rcases z1 with z | z
            · exact absurd (hx0 rfl) z
            · exact absurd (hy0 rfl) z

end Go.Proofs.YtcnbpfecgokhiaaGreatDoor

namespace Go.Proofs.YtcnbpfecgokhiaaGreatDoor
open Go.Eng Go.RowKit Go.ChangeShapes Go.WideShapes Go.ChangeAt
open Go.ChangeMaps (open_string shut_string)

set_option maxRecDepth 100000 in
theorem duesReturns_lifted (os : Os) (started : os.Started) (H : Type) (enc : TypeId × Value → H) :
    ReturnsInHanded {} Tryz.checked os 8 .any (fun w args => (Rows.duesReturnsSpec.pre enc Tryz.prog Tryz.f8 Rows.duesReturnsRow.domain false w args ∧ laidMet Tryz.prog laidL w) ∧ sizedMet enc Tryz.prog Tryz.f8 (OpenSpec.ofChange Rows.duesReturnsSpec) false w args)
      (Rows.duesReturnsSpec.post enc Tryz.prog Tryz.f8 false true false false) := by
  refine returnsInHanded_of_change_and (C := Tryz.checked) (X := fun w _ => laidMet Tryz.prog laidL w) (fun _ _ _ hh h => h.of_heap hh) own started (by kernel_rfl) Tryz.func8
    (ChangeSpec.witness_at (enc := enc) (C := Tryz.checked) (os := os) (X := fun w _ => laidMet Tryz.prog laidL w) false (laidWorld os) #[.slice none 0 0, .slice none 0 0, .int .i64 0, .int .i64 0, .int .i64 0] 8 rfl (by kernel_rfl) (by kernel_rfl) (by kernel_rfl) (by kernel_rfl) (by kernel_rfl) (laidWorld_met os _)) ?_
  intro W base args ds gs before hval0 hW _ hsz0 hL _
  have T := tabs_of_laid hL
  have hval : ∀ (j : Nat) t v, Tryz.f8.params[j]? = some t → args[j]? = some v → Value.okWide Tryz.prog W .any base t v := hval0
  have hW' := hW
  obtain ⟨p, q, hA0, hV, rfl, hfz, hnd⟩ := hW
  have hA : DataW.TrodAll enc Tryz.prog W 0 (fun _ => true) true [22, 23, 3, 3, 3] args.toList ds p := hA0
  obtain ⟨v0, v1, v2, v3, v4, d0, d1, d2, d3, d4, p0, p1, p2, p3, p4, rfl, rfl, rfl, h0, h1, h2, h3, h4⟩ := trodAll_n5 hA
  obtain ⟨rfl, rfl⟩ := trodVars_none hV
  obtain ⟨A0, l0, c0, rfl, hf0⟩ := open_facts (hval 0 22 v0 rfl rfl) h0
  obtain ⟨A1, l1, c1, rfl, hs1, ns1⟩ := open_list Opn.len (by omega) (fun y => ⟨.u8, _, rfl⟩) underOs cellsO open_cO (hval 1 23 v1 rfl rfl) h1
  obtain ⟨i2, rfl, _, _, wf2⟩ := open_int under3 (hval 2 3 v2 rfl rfl) h2
  obtain ⟨i3, rfl, _, _, wf3⟩ := open_int under3 (hval 3 3 v3 rfl rfl) h3
  obtain ⟨i4, rfl, _, _, wf4⟩ := open_int under3 (hval 4 3 v4 rfl rfl) h4
  refine (DuesReturns_spec hf0 hs1 ns1 T (wf_in64 wf2) (wf_in64 wf3) i4 W (Same.refl W)).mono ?_
  rintro e W' ⟨⟨v, w'', rfl, ⟨rfl, he⟩, hs⟩, _⟩
  have he' : Ext W W' := he.same_right hs
  refine ⟨_, rfl, ?_⟩
  refine ⟨[d0, d1, d2, d3, d4], [], (p0 ++ (p1 ++ (p2 ++ (p3 ++ (p4))))) ++ [], [], p0 ++ (p1 ++ (p2 ++ (p3 ++ (p4)))), [], hW', ?_, ?_, rfl, Below.frame he' _, fun h => by cases h⟩
  · exact trodAll_mk1 (shut_bool under4 true)
  · exact trodAll_mkn5 (Below.trod laidOut recFs rowFs h0 he' fun x hx => hW'.lt x (by simp [hx])) (Below.trod laidOut recOs rowOs h1 he' fun x hx => hW'.lt x (by simp [hx])) (Below.trod laidOut rec3 row3 h2 he' fun x hx => hW'.lt x (by simp [hx])) (Below.trod laidOut rec3 row3 h3 he' fun x hx => hW'.lt x (by simp [hx])) (Below.trod laidOut rec3 row3 h4 he' fun x hx => hW'.lt x (by simp [hx]))

set_option maxHeartbeats 4000000 in
theorem duesReturns_closed : joinedFacts Tryz.pinned.checked.prog 8 Tryz.f8 Rows.duesReturnsSpec Rows.duesReturnsRow = true := by
  unfold joinedFacts
  iterate 31 refine Bool.and_eq_true_iff.2 ⟨?_, ?_⟩
  · as_aux_lemma => kernel_rfl
  · exact kLaid
  · exact kMaps
  · as_aux_lemma => kernel_rfl
  · as_aux_lemma => kernel_rfl
  · as_aux_lemma => kernel_rfl
  · exact kStops
  · as_aux_lemma => kernel_rfl
  · exact kKnobs
  · as_aux_lemma => kernel_rfl
  · as_aux_lemma => kernel_rfl
  · as_aux_lemma => kernel_rfl
  · as_aux_lemma => kernel_rfl
  · as_aux_lemma => kernel_rfl
  · as_aux_lemma => kernel_rfl
  · as_aux_lemma => kernel_rfl
  · as_aux_lemma => kernel_rfl
  · as_aux_lemma => kernel_rfl
  · as_aux_lemma => kernel_rfl
  · as_aux_lemma => kernel_rfl
  · as_aux_lemma => kernel_rfl
  · as_aux_lemma => kernel_rfl
  · exact beq_iff_eq.2 kPlain.symm
  · as_aux_lemma => kernel_rfl
  · exact kHeard
  · exact kEnter
  · exact beq_iff_eq.2 kLifts.symm
  · as_aux_lemma => kernel_rfl
  · as_aux_lemma => kernel_rfl
  · as_aux_lemma => kernel_rfl
  · as_aux_lemma => kernel_rfl
  · as_aux_lemma => kernel_rfl

theorem duesReturns_named : Tryz.pinned.checked.prog.funcNamed Rows.duesReturnsRow.func = some 8 := by kernel_rfl
theorem duesReturns_func : Tryz.pinned.checked.prog.funcs[8]? = some Tryz.f8 := Tryz.func8
theorem duesReturns_inst : Tryz.f8.isInstance Tryz.pinned.checked.prog Rows.duesReturnsRow.origin Rows.duesReturnsRow.targs := of_decide_eq_true (by kernel_rfl)
theorem duesReturns_wrap : Tryz.f8.isWrapper Tryz.pinned.checked.prog Rows.duesReturnsRow.wrapper Rows.duesReturnsRow.mainSum := by
  unfold Func.isWrapper; first | (rw [if_pos (by decide +kernel)]; kernel_rfl) | (rw [if_neg (by decide +kernel)]; exact ⟨rfl, rfl⟩)
theorem duesReturns_text : Rows.duesReturnsRow.wfByText (OpenSpec.ofChange Rows.duesReturnsSpec) = true := by kernel_rfl
theorem duesReturns_main : Tryz.pinned.checked.prog.mainIs = some (Rows.duesReturnsCard.stood.harness.1, Rows.duesReturnsCard.stood.harness.2.toList) := by kernel_rfl
theorem duesReturns_looks : true = Tryz.pinned.checked.prog.looks [] := by kernel_rfl
theorem duesReturns_goes : false = Rows.duesReturnsRow.goesBy Tryz.pinned.checked.prog := by kernel_rfl
theorem duesReturns_stand : (Tryz.f8.params.toList.all fun t => !Tryz.pinned.checked.prog.wantsStandIn t) = true := by kernel_rfl

theorem duesReturns_holds : Rows.DuesReturnsSaid :=
  OpenClaim.holds_of_wide 8 Tryz.f8 rfl rfl rfl rfl rfl rfl rfl ⟨rfl, rfl, rfl, rfl, rfl⟩ rfl rfl rfl rfl rfl duesReturns_named duesReturns_func duesReturns_closed duesReturns_inst duesReturns_wrap
    (fun os started H enc _ => duesReturns_lifted os started H enc)

theorem duesReturns : Rows.DuesReturnsCardSaid :=
  Claim7.holds_tied_plain_at .later [] [.data, .data, .data] true Rows.duesReturnsCard.stood.harness true
    duesReturns_holds (fun _ h => by cases h) duesReturns_text (fun _ h => by cases h) duesReturns_row_tie rfl ⟨rfl, rfl⟩ duesReturns_main rfl
    (fun f fn hf hfn => by
      obtain rfl : f = 8 := Option.some.inj (duesReturns_named.symm.trans hf) |>.symm
      obtain rfl : fn = Tryz.f8 := (Option.some.inj (duesReturns_func.symm.trans hfn)).symm
      refine ⟨duesReturns_looks, fun j t ht => ?_⟩
      have hm : t ∈ Tryz.f8.params.toList := by
        have := Array.mem_of_getElem? ht
        simpa using this
      exact Bool.not_eq_true' _ |>.mp (List.all_eq_true.1 duesReturns_stand t hm))
    duesReturns_goes

#print axioms duesReturns
end Go.Proofs.YtcnbpfecgokhiaaGreatDoor
