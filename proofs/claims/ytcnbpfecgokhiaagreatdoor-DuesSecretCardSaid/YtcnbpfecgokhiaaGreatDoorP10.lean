/- Proved: for every list of facts, operations, state and day the law DuesSecret returns true, and its arguments read behind the call as they did before; what the library's variables hold is tied to the program's text. No further condition. -/
import Derived.Test.YtcnbpfecgokhiaaGreatDoorDYc
import Derived.Test.YtcnbpfecgokhiaaGreatDoorDYa
import Derived.Test.YtcnbpfecgokhiaaGreatDoorDWp
import Derived.Test.YtcnbpfecgokhiaaGreatDoorDUc
import Derived.Test.YtcnbpfecgokhiaaGreatDoorDTc
import Derived.Test.YtcnbpfecgokhiaaGreatDoorDKa
set_option linter.unusedVariables false
set_option linter.unusedSimpArgs false
set_option linter.unnecessarySimpa false
set_option linter.unusedSectionVars false
namespace Go.Proofs.YtcnbpfecgokhiaaGreatDoor
open Go.Eng Go.RowKit

theorem LedgerIs.offT {w : World} {l : LV} {es : List Entry} (h : LedgerIs w l es) {k t : Nat} {c : Array Value} {fr : Nat × Nat} (hk : w.heap[k]? = some (.cells c t fr)) (h1 : t ≠ 112) (h2 : t ≠ 39) (h3 : t ≠ 125) (h4 : t ≠ 35) (h5 : t ≠ 37) : ¬ l.has k := by
  rintro (hb | hb | hb)
  · rw [hb, h.block] at hk
    simp at hk
    exact h1 hk.2.1.symm
  · obtain ⟨_, cur, e⟩ := owns_at h.row hb
    rw [e] at hk
    simp at hk
    exact h2 hk.2.1.symm
  · exact h.st.off hk h3 h4 h5 hb

/-- Two ledgers that lie apart. -/
structure Two (w0 w : World) (l m : LV) (L M : List Entry) : Prop where
  fst : LdNew w0 w l L
  snd : LdNew w0 w m M
  apart : ∀ k, l.has k → ¬ m.has k
theorem Two.swap {w0 w : World} {l m : LV} {L M : List Entry} (h : Two w0 w l m L M) : Two w0 w m l M L := ⟨h.snd, h.fst, fun k h1 h2 => h.apart k h2 h1⟩
theorem Two.then {w0 w w' : World} {l m : LV} {L M : List Entry} (h : Two w0 w l m L M) (e : Ext w w') : Two w0 w' l m L M := ⟨h.fst.then e, h.snd.then e, h.apart⟩
theorem Two.go {w0 w w' : World} {l m : LV} {L M L' : List Entry} (h : Two w0 w l m L M) (k : LdGo w l L' w') : ∃ l', l'.gl = l.gl ∧ Two w0 w' l' m L' M ∧ ∀ q, q < w.heap.size → ¬ l.has q → w'.heap[q]? = w.heap[q]? := by
  obtain ⟨l1, hg, hi, hk, hn⟩ := k
  have n1 : LdNew w0 w' l1 L' := by
    obtain ⟨l2, hg2, h2⟩ := h.fst.go ⟨l1, hg, hi, hk, hn⟩
    exact ⟨hi, fun q hq => (hn q hq).elim (h.fst.new q) fun h1 => Nat.le_trans h.fst.ext.size h1, h2.ext⟩
  refine ⟨l1, hg, ⟨n1, ⟨h.snd.is.keep fun q hq => hk.block q (fun h1 => h.apart q h1 hq) (h.snd.is.lt hq), h.snd.new, n1.ext⟩, fun q h1 h2 => ?_⟩, fun q hq hnq => hk.block q hnq hq⟩
  rcases hn q h1 with h3 | h3
  · exact h.apart q h3 h2
  · have := h.snd.is.lt h2; omega

def concernsB (s : Int) (o : Opn) : Bool := decide (opK o = 2) && (!decide (o.x.g.frm = s) && !decide (o.x.g.to = s))
theorem concerns_spec (o : Opn) (ho : o.Nums) (s : Int) (w : World) : CallsV C.P 42 #[o.val, .int .i64 s] w fun v w' => v = .bool (concernsB s o) ∧ Ext w w' := by
  refine callsV_of C_ok (args := [_, _]) (plans := []) Tryz.func42 rfl Tryz.ntmps42 (by kernel_rfl) (Nat.le_of_ble_eq_true rfl) ?_
  intro g1 w1 h1
  have M1 : Mem w w1 [(g1, .cells o.cells.toArray 41 (0, 0))] := (Mem.start w).alloc h1
  refine ⟨_, M1.cell 0 rfl rfl, ?_⟩
  refine ⟨by decide, opK o, by unfold opK; exact Int.tmod_eq_emod_of_nonneg ho.kind.1, ?_⟩
  refine brE_dec (fun c1 => ?_) (fun c1 => ?_)
  · have c1 : opK o = 2 := c1
    refine ⟨_, M1.cell 0 rfl rfl, ?_⟩
    refine brE_ndec (fun c2 => ?_) (fun c2 => ?_)
    · have c2 : ¬ o.x.g.frm = s := c2
      refine ⟨_, M1.cell 0 rfl rfl, ?_⟩
      exact ⟨congrArg _ (by unfold concernsB; rw [decide_eq_true c1, decide_eq_false c2]; rfl), M1.ext⟩
    · have c2 : o.x.g.frm = s := c2
      exact ⟨congrArg _ (by unfold concernsB; rw [decide_eq_true c2]; simp), M1.ext⟩
  · have c1 : ¬ opK o = 2 := c1
    exact ⟨congrArg _ (by unfold concernsB; rw [decide_eq_false c1]; rfl), M1.ext⟩

def idsC (s : Int) (gl : List Gift) : List Value := (List.range 600).map fun n => .int .i64 (idV s gl (n : Nat))
theorem idsC_at (s : Int) (gl : List Gift) {n : Nat} (hn : n < 600) : (idsC s gl).toArray[n]? = some (.int .i64 (idV s gl (n : Nat))) := by
  unfold idsC
  simp [hn]
theorem idsC_same {s : Int} {a b : List Gift} (h : ∀ n, idV s b n = idV s a n) : idsC s b = idsC s a := by
  unfold idsC
  exact List.map_congr_left fun n _ => by rw [h]
theorem idV_nil (s n : Int) : idV s [] n = 0 := by
  unfold idV
  rw [if_neg]
  simp only [List.length_nil]
  omega
theorem idV_snoc' {s : Int} {gl : List Gift} {g : Gift} {n : Int} (hn : n ≠ ((gl.length + 1 : Nat) : Int)) : idV s (gl ++ [g]) n = idV s gl n := by
  by_cases h : n ≤ gl.length
  · exact idV_snoc h
  · unfold idV
    rw [if_neg (fun e => by have := e.2.1; rw [List.length_append] at this; simp at this; omega), if_neg (fun e => by have := e.2.1; omega)]
/-- Numbers stay, whatever is answered. -/
theorem idV_keep {s : Int} {L : List Entry} (hL : Acc L) {sg : Int} {x : Entry} (hx : doE sg L x = 0) (h5 : x.kind ≠ 5) (n : Int) : idV s (giftL (L ++ [x])) n = idV s (giftL L) n := by
  have hG := (acc_ok hL).gifts
  by_cases h6 : x.kind = 6
  · obtain ⟨k, hl, hid, hst⟩ := ans_parts (.inl h6) hx
    rw [gift_take h6 hl hid]
    dsimp only
    have e1 : idV s ((giftL L).set k (takeG x.day (giftL L)[k])) n = idV s (giftL L) n := idV_set (y := takeG x.day (giftL L)[k]) hl (sides_take s x.day _) n
    split
    · exact e1
    · split
      · rename_i r0 _
        rcases hG.refs k hl with hr0 | ⟨j, hj, hr1, hjk, _⟩
        · exact absurd hr0 r0
        · have hjl : j < ((giftL L).set k (takeG x.day (giftL L)[k])).length := by rw [List.length_set]; exact hj
          rw [hr1, updAt_eq hjl, idV_set (y := backG _) hjl (sides_back s _) n]; exact e1
      · exact e1
  by_cases h7 : x.kind = 7
  · obtain ⟨k, hl, hid, hst⟩ := ans_parts (.inr h7) hx
    rw [gift_refuse h7 hl hid]
    exact idV_set (y := refuseG x.day (giftL L)[k]) hl (sides_refuse s x.day _) n
  rw [gift_plain h5 h6 h7]
theorem idsC_offer {s : Int} {gl : List Gift} {g : Gift} (hl : gl.length + 1 < 600) : splice (idsC s gl) (gl.length + 1) [.int .i64 (idV s (gl ++ [g]) ((gl.length + 1 : Nat) : Int))] = idsC s (gl ++ [g]) := by
  have hlen : ∀ q, (idsC s q).length = 600 := fun q => by unfold idsC; simp
  apply List.ext_getElem?
  intro i
  unfold splice
  rw [List.append_assoc]
  by_cases h1 : i < gl.length + 1
  · rw [List.getElem?_append_left (by simp [hlen]; omega), List.getElem?_take_of_lt h1]
    have a := idsC_at s gl (n := i) (by omega)
    have b := idsC_at s (gl ++ [g]) (n := i) (by omega)
    rw [idV_snoc' (by omega)] at b
    simpa using a.trans b.symm
  · have ht : ((idsC s gl).take (gl.length + 1)).length = gl.length + 1 := by rw [List.length_take, hlen]; omega
    rw [List.getElem?_append_right (by omega), ht]
    by_cases h2 : i = gl.length + 1
    · subst h2
      have b := idsC_at s (gl ++ [g]) (n := gl.length + 1) (by omega)
      rw [Nat.sub_self]
      simpa using b.symm
    · rw [List.getElem?_append_right (by simp; omega)]
      simp only [List.length_singleton]
      rw [List.getElem?_drop]
      have e : gl.length + 1 + 1 + (i - (gl.length + 1) - 1) = i := by omega
      rw [e]
      by_cases h3 : i < 600
      · have a := idsC_at s gl (n := i) h3
        have b := idsC_at s (gl ++ [g]) (n := i) h3
        rw [idV_snoc' (by omega)] at b
        simpa using a.trans b.symm
      · rw [List.getElem?_eq_none (by rw [hlen]; omega), List.getElem?_eq_none (by rw [hlen]; omega)]

/-- The operation as it is done to the ledger of the others. -/
def turnO (s : Int) (gl : List Gift) (o : Opn) : Opn :=
  if opK o = 2 then { o with x := { o.x with g := { o.x.g with returns := idV s gl o.x.g.returns } } }
  else if 6 ≤ opK o then { o with x := { o.x with g := { o.x.g with id := idV s gl o.x.g.id } } } else o
theorem opK_lt (o : Opn) : 0 ≤ opK o ∧ opK o < 8 := by unfold opK; omega
theorem secret_step {s : Int} {L M : List Entry} (hL : Acc L) (hM : Acc M) (h : RelV s L M) {f : List Fact} {o : Opn} (h0 : opK o ≠ 0) (he : didE f L o = 0) (hc : concernsB s o = false) (h6 : 6 ≤ opK o → idV s (giftL L) o.x.g.id ≠ 0) :
    didE f M (turnO s (giftL L) o) = 0 ∧ RelV s (didL f L o) (didL f M (turnO s (giftL L) o)) ∧ (opK o = 2 → idV s (giftL (didL f L o)) (((giftL L).length + 1 : Nat) : Int) = didN f M (turnO s (giftL L) o)) := by
  have hk := opK_lt o
  have hlen : (waivL M).length = (waivL L).length := by rw [h.waiv]
  have hdL : didL f L o = L ++ [opE L o] := by unfold didL addL; rw [if_pos he]
  have key : didE f M (turnO s (giftL L) o) = 0 ∧ RelV s (L ++ [opE L o]) (M ++ [opE M (turnO s (giftL L) o)]) ∧ (opK o = 2 → idV s (giftL (L ++ [opE L o])) (((giftL L).length + 1 : Nat) : Int) = (((giftL M).length + 1 : Nat) : Int)) := by
    have he' : doE (sgF f (opE L o).w) L (opE L o) = 0 := he
    by_cases k1 : opK o = 1
    · have t : turnO s (giftL L) o = o := by unfold turnO; rw [if_neg (by omega), if_neg (by omega)]
      have e1 : opE L o = grantE L o.x.w := by unfold opE; rw [if_pos k1]
      have e2 : opE M o = grantE L o.x.w := by unfold opE; rw [if_pos k1]; unfold grantE; rw [hlen]
      unfold didE
      rw [t, e2, e1]
      rw [e1] at he'
      obtain ⟨a, b⟩ := rel_same hL hM h (x := grantE L o.x.w) (show (3 : Int) ≠ 5 by decide) (show (3 : Int) ≠ 6 by decide) (show (3 : Int) ≠ 7 by decide) he'
      exact ⟨a, b, fun e => by omega⟩
    by_cases k2 : opK o = 2
    · have t : turnO s (giftL L) o = { o with x := { o.x with g := { o.x.g with returns := idV s (giftL L) o.x.g.returns } } } := by unfold turnO; rw [if_pos k2]
      have e1 : opE L o = offerE L o.x.day o.x.g.frm o.x.g.to o.x.g.cur o.x.g.n o.x.g.returns := by unfold opE; rw [if_neg k1, if_pos k2]
      have kt : opK (turnO s (giftL L) o) = 2 := by rw [t]; exact k2
      have e2 : opE M (turnO s (giftL L) o) = turnE (((giftL M).length + 1 : Nat) : Int) (idV s (giftL L) (opE L o).g.returns) (opE L o) := by
        rw [e1]
        unfold opE
        rw [if_neg (by omega), if_pos kt, t]; rfl
      have hs : (opE L o).g.frm = s ∨ (opE L o).g.to = s := by
        rw [e1]
        show o.x.g.frm = s ∨ o.x.g.to = s
        unfold concernsB at hc
        rw [decide_eq_true k2] at hc
        by_cases a : o.x.g.frm = s
        · exact .inl a
        · by_cases b : o.x.g.to = s
          · exact .inr b
          · rw [decide_eq_false a, decide_eq_false b] at hc; cases hc
      have hk5 : (opE L o).kind = 5 := by rw [e1]; rfl
      have hgid : (opE L o).g.id = (((giftL L).length + 1 : Nat) : Int) := by rw [e1]; rfl
      obtain ⟨a, b, c⟩ := rel_offer hL hM h (sg' := sgF f (opE M (turnO s (giftL L) o)).w) hk5 he' hs
      unfold didE doF
      rw [hgid] at c
      rw [e2]
      rw [e2] at a
      exact ⟨a, b, fun _ => c⟩
    by_cases k6 : 6 ≤ opK o
    · have t : turnO s (giftL L) o = { o with x := { o.x with g := { o.x.g with id := idV s (giftL L) o.x.g.id } } } := by unfold turnO; rw [if_neg k2, if_pos k6]
      have e1 : opE L o = if opK o = 6 then takeE o.x.day o.x.g.id else refuseE o.x.day o.x.g.id := by
        unfold opE
        rw [if_neg k1, if_neg k2, if_neg (by omega), if_neg (by omega), if_neg (by omega)]
        by_cases q : opK o = 6
        · rw [if_pos q, if_pos q]
        · rw [if_neg q, if_neg q, if_pos (by omega)]
      have kt : opK (turnO s (giftL L) o) = opK o := by rw [t]; rfl
      have hgid : (opE L o).g.id = o.x.g.id := by rw [e1]; split <;> rfl
      have hkk : (opE L o).kind = 6 ∨ (opE L o).kind = 7 := by
        rw [e1]
        split
        · exact .inl rfl
        · exact .inr rfl
      have e2 : opE M (turnO s (giftL L) o) = idE (idV s (giftL L) (opE L o).g.id) (opE L o) := by
        rw [hgid, e1]
        unfold opE
        rw [kt, if_neg k1, if_neg k2, if_neg (by omega), if_neg (by omega), if_neg (by omega), t]
        by_cases q : opK o = 6
        · rw [if_pos q, if_pos q]; rfl
        · rw [if_neg q, if_neg q, if_pos (by omega)]; rfl
      obtain ⟨a, b⟩ := rel_answer hL hM h (sg' := sgF f (opE M (turnO s (giftL L) o)).w) hkk he' (by rw [hgid]; exact h6 k6)
      unfold didE doF
      rw [e2]
      rw [e2] at a
      exact ⟨a, b, fun e => absurd e k2⟩
    · have t : turnO s (giftL L) o = o := by unfold turnO; rw [if_neg k2, if_neg k6]
      have same : opE M o = opE L o ∧ (opE L o).kind ≠ 5 ∧ (opE L o).kind ≠ 6 ∧ (opE L o).kind ≠ 7 := by
        unfold opE
        rw [if_neg k1, if_neg k2, if_neg k1, if_neg k2]
        by_cases k3 : opK o = 3
        · rw [if_pos k3]
          exact ⟨rfl, show (1 : Int) ≠ 5 by decide, show (1 : Int) ≠ 6 by decide, show (1 : Int) ≠ 7 by decide⟩
        rw [if_neg k3]
        by_cases k4 : opK o = 4
        · rw [if_pos k4]
          exact ⟨rfl, show (2 : Int) ≠ 5 by decide, show (2 : Int) ≠ 6 by decide, show (2 : Int) ≠ 7 by decide⟩
        rw [if_neg k4, if_pos (by omega)]
        exact ⟨rfl, show (4 : Int) ≠ 5 by decide, show (4 : Int) ≠ 6 by decide, show (4 : Int) ≠ 7 by decide⟩
      obtain ⟨a, b⟩ := rel_same hL hM h same.2.1 same.2.2.1 same.2.2.2 he'
      unfold didE doF
      rw [t, same.1]
      exact ⟨a, b, fun e => absurd e k2⟩
  obtain ⟨a, b, c⟩ := key
  have hdM : didL f M (turnO s (giftL L) o) = M ++ [opE M (turnO s (giftL L) o)] := by unfold didL addL; rw [if_pos a]
  refine ⟨a, by rw [hdL, hdM]; exact b, fun k2 => ?_⟩
  rw [hdL, c k2]
  have kt : opK (turnO s (giftL L) o) = 2 := by unfold turnO; rw [if_pos k2]; exact k2
  unfold didN
  rw [if_pos a, if_neg (by omega), if_pos kt]
/-- What is left out. -/
theorem secret_hidden {s : Int} {L M : List Entry} (hL : Acc L) (h : RelV s L M) {f : List Fact} {o : Opn} (hh : concernsB s o = true ∨ 6 ≤ opK o ∧ idV s (giftL L) o.x.g.id = 0) : RelV s (didL f L o) M := by
  by_cases he : didE f L o = 0
  · have he' : doE (sgF f (opE L o).w) L (opE L o) = 0 := he
    have hdL : didL f L o = L ++ [opE L o] := by unfold didL addL; rw [if_pos he]
    rw [hdL]
    rcases hh with hc | ⟨k6, h0⟩
    · unfold concernsB at hc
      simp only [Bool.and_eq_true, decide_eq_true_eq, Bool.not_eq_true', decide_eq_false_iff_not] at hc
      obtain ⟨k2, c1, c2⟩ := hc
      have e1 : opE L o = offerE L o.x.day o.x.g.frm o.x.g.to o.x.g.cur o.x.g.n o.x.g.returns := by unfold opE; rw [if_neg (by omega), if_pos k2]
      rw [e1] at he' ⊢
      exact rel_hidden hL h (.inl rfl) he' (.inl ⟨rfl, c1, c2⟩)
    · have hk := opK_lt o
      have e1 : opE L o = if opK o = 6 then takeE o.x.day o.x.g.id else refuseE o.x.day o.x.g.id := by
        unfold opE
        rw [if_neg (by omega), if_neg (by omega), if_neg (by omega), if_neg (by omega), if_neg (by omega)]
        by_cases q : opK o = 6
        · rw [if_pos q, if_pos q]
        · rw [if_neg q, if_neg q, if_pos (by omega)]
      rw [e1] at he' ⊢
      split at he'
      · rename_i q
        rw [if_pos q]
        exact rel_hidden hL h (.inr (.inl rfl)) he' (.inr ⟨show (6 : Int) ≠ 5 by decide, h0⟩)
      · rename_i q
        rw [if_neg q]
        exact rel_hidden hL h (.inr (.inr rfl)) he' (.inr ⟨show (7 : Int) ≠ 5 by decide, h0⟩)
  · have : didL f L o = L := by unfold didL addL; rw [if_neg he]
    rw [this]; exact h
theorem sight_same {s : Int} {L M : List Entry} (hL : Acc L) (hM : Acc M) (h : RelV s L M) (day : Int) : sightAt L s day = sightAt M s day := by
  unfold sightAt
  rw [sights_obs hL, sights_obs hM, h.obs]
/-- The numbers behind an operation that a state does not see the gift of, or that is no offer. -/
theorem ids_same {s : Int} {L : List Entry} (hL : Acc L) {f : List Fact} {o : Opn} (hh : opK o ≠ 2 ∨ concernsB s o = true) (h0 : opK o ≠ 0) : idsC s (giftL (didL f L o)) = idsC s (giftL L) := by
  by_cases he : didE f L o = 0
  · have he' : doE (sgF f (opE L o).w) L (opE L o) = 0 := he
    have hdL : didL f L o = L ++ [opE L o] := by unfold didL addL; rw [if_pos he]
    rw [hdL]
    refine idsC_same fun n => ?_
    by_cases k2 : opK o = 2
    · have hc : concernsB s o = true := hh.resolve_left (fun h => h k2)
      unfold concernsB at hc
      simp only [Bool.and_eq_true, decide_eq_true_eq, Bool.not_eq_true', decide_eq_false_iff_not] at hc
      obtain ⟨_, c1, c2⟩ := hc
      have e1 : opE L o = offerE L o.x.day o.x.g.frm o.x.g.to o.x.g.cur o.x.g.n o.x.g.returns := by unfold opE; rw [if_neg (by omega), if_pos k2]
      rw [e1] at he' ⊢
      rw [(offer_gift rfl he').1]
      by_cases hn : n = (((giftL L).length + 1 : Nat) : Int)
      · rw [hn, idV_last, if_neg]
        · unfold idV
          rw [if_neg (fun e => by have := e.2.1; omega)]
        · show ¬ sidesB s _ = true
          unfold sidesB
          show ¬ (decide (o.x.g.frm = s) || decide (o.x.g.to = s)) = true
          rw [decide_eq_false c1, decide_eq_false c2]; decide
      · exact idV_snoc' hn
    · refine idV_keep hL he' ?_ n
      have hk := opK_lt o
      unfold opE
      split
      · exact show (3 : Int) ≠ 5 by decide
      split
      · exact show (1 : Int) ≠ 5 by decide
      split
      · exact show (2 : Int) ≠ 5 by decide
      split
      · exact show (4 : Int) ≠ 5 by decide
      split
      · exact show (6 : Int) ≠ 5 by decide
      split
      · exact show (7 : Int) ≠ 5 by decide
      · exfalso; omega
  · have : didL f L o = L := by unfold didL addL; rw [if_neg he]
    rw [this]


theorem LdNew.put {w0 w w' : World} {l : LV} {es : List Entry} {g : Nat} {o : Obj} (h : LdNew w0 w l es) (p : Put w g o w') (hg : ¬ l.has g) (h0 : w0.heap.size ≤ g) : LdNew w0 w' l es :=
  ⟨h.is.keep fun k hk => p.there k (fun e => hg (e ▸ hk)), h.new, p.ext_of h.ext h0⟩
theorem Two.put {w0 w w' : World} {l m : LV} {L M : List Entry} {g : Nat} {o : Obj} (h : Two w0 w l m L M) (p : Put w g o w') (h1 : ¬ l.has g) (h2 : ¬ m.has g) (h0 : w0.heap.size ≤ g) : Two w0 w' l m L M := ⟨h.fst.put p h1 h0, h.snd.put p h2 h0, h.apart⟩
theorem idsC_len (s : Int) (gl : List Gift) : (idsC s gl).length = 600 := by unfold idsC; simp
theorem Opn.Nums.turn {o : Opn} (h : o.Nums) (s : Int) {gl : List Gift} (hg : gl.length ≤ 500) : (turnO s gl o).Nums := by
  have b := fun n => idV_le s gl n
  have c : cntV s gl ≤ gl.length := List.length_filter_le _ _
  have i64 : ∀ n, In64 (idV s gl n) := fun n => ⟨by have := b n; omega, by have := b n; omega⟩
  unfold turnO
  split
  · exact ⟨h.kind, { h.x with g := { h.x.g with returns := i64 _ } }⟩
  split
  · exact ⟨h.kind, { h.x with g := { h.x.g with id := i64 _ } }⟩
  · exact h
theorem ids_index {n : Int} (h : 0 ≤ n ∧ n ≤ 599) : min (max n 0) 599 = ((n.toNat : Nat) : Int) := by
  rw [Int.max_def, Int.min_def]
  split <;> split <;> omega

set_option maxRecDepth 100000 in
set_option maxHeartbeats 4000000 in
theorem DuesSecret_spec {w : World} {A B : Option Addr} {f : List Fact} {s : List Opn} {c d : Nat} (hf : HF w A f c) (hs : HL Opn.cells w B s d) (hn : ∀ o ∈ s, o.Nums) (T : TabP w) (st day : Int) :
    CallsV C.P 10 #[.slice A f.length c, .slice B s.length d, .int .i64 st, .int .i64 day] w fun v w' => v = .bool true ∧ Ext w w' := by
  refine callsV_of C_ok (args := [_, _, _, _]) (plans := []) Tryz.func10 rfl Tryz.ntmps10 (by kernel_rfl) (Nat.le_of_ble_eq_true rfl) ?_
  refine (few_spec hf hs.cap).mono ?_
  rintro v w1 ⟨⟨bf, rfl, hb⟩, rfl⟩
  refine brE_mk (fun c1 => ?_) (fun c1 => ?_)
  · refine (grants_spec w1 T).mono ?_
    rintro v w2 ⟨rfl, e2⟩
    exact ⟨rfl, e2⟩
  obtain ⟨hfl, hsl⟩ := hb (by simpa using c1)
  refine (New_spec w1).mono ?_
  rintro v w2 ⟨l0, rfl, n2⟩
  refine (New_spec w2).mono ?_
  rintro v w3 ⟨m0, rfl, n3⟩
  have t3 : Two w1 w3 l0 m0 [] [] := ⟨n2.then n3.ext, ⟨n3.is, fun k hk => Nat.le_trans n2.ext.size (n3.new k hk), n2.ext.trans n3.ext⟩, fun k h1 h2 => by
    have := n2.is.lt h1
    have := n3.new k h2
    omega⟩
  intro g11 w4 h4
  have hz : (ty85).zero.cells = (idsC st []).toArray := by
    have e1 : (ty85).zero.cells = (List.replicate 600 (Value.int .i64 0)).toArray := by kernel_rfl
    have e2 : idsC st [] = List.replicate 600 (Value.int .i64 0) := by
      unfold idsC
      rw [List.map_congr_left (g := fun _ => Value.int .i64 0) (fun n _ => by rw [idV_nil]), List.map_const', List.length_range]
    rw [e1, e2]
  have hids4 : w4.heap[g11]? = some (.cells (idsC st (giftL [])).toArray 85 (0, 0)) := by
    have := h4.here
    rw [hz] at this
    exact this
  have t4 := t3.then h4.ext
  have new11 : w1.heap.size ≤ g11 := by rw [h4.new]; exact t3.fst.ext.size
  clear t3 n2 n3 h4 hz
  refine loopE C_ok (fun (i : Nat) => [(0, .slice A f.length c), (1, .slice B s.length d), (2, .int .i64 st), (3, .int .i64 day), (9, l0.ptr), (10, m0.ptr), (11, .pointer (some ⟨g11, 0, none⟩)), (12, .int .i64 (i : Nat))])
    (fun i w' => i ≤ s.length ∧ ∃ l m L M, l.gl = l0.gl ∧ m.gl = m0.gl ∧ Two w1 w' l m L M ∧ RelV st L M ∧ L.length ≤ i ∧ M.length ≤ i ∧ w'.heap[g11]? = some (.cells (idsC st (giftL L)).toArray 85 (0, 0))) (fun i => s.length - i) 0 ⟨rfl, rfl, rfl, rfl, rfl, rfl, rfl, rfl, trivial⟩
    ⟨Nat.zero_le _, l0, m0, [], [], rfl, rfl, t4, RelV.nil st, Nat.zero_le _, Nat.zero_le _, hids4⟩ ?_
  rintro i w5 ⟨hi, l, m, L, M, hgl, hgm, t5, hrel, hL5, hM5, hids5⟩
  refine brE_dec (fun hlt => ?_) (fun hge => ?_)
  · have hlti : i < s.length := by have : (i : Int) < (s.length : Nat) := hlt; omega
    have next : IntKind.i64.wrap ((i : Int) + 1) = ((i + 1 : Nat) : Int) := fit ⟨by omega, by omega⟩
    obtain ⟨b1, o1, hB1, hr1⟩ := Opn.part_at (hs.ext t5.fst.ext) hlti
    have ho := hn _ (List.getElem_mem hlti)
    generalize s[i] = o at *
    have haL := t5.fst.is.acc
    have haM := t5.snd.is.acc
    have hkk := opK_lt o
    refine ⟨i, b1, o1, rfl, hlti, hB1, ?_⟩
    refine ⟨o.cells, rfl, hr1, ?_⟩
    intro g13 w6 h6
    refine ⟨rfl, _, _, h6.here, Nat.le_of_ble_eq_true rfl, rfl, ?_⟩
    intro w7 h7
    have h7 : Put w6 g13 (.cells o.cells.toArray 41 (0, 0)) w7 := h7
    have e57 : Ext w5 w7 := h7.ext_of h6.ext (by rw [h6.new]; exact Nat.le_refl _)
    have t7 := t5.then e57
    have hids7 := e57.heap hids5
    have x7 := h7.here
    clear h6 h7 t5 hids5 hr1
    refine ⟨_, cell_of_block (i := 0) x7 rfl, ?_⟩
    refine ⟨by decide, opK o, by unfold opK; exact Int.tmod_eq_emod_of_nonneg ho.kind.1, ?_⟩
    refine brE_dec (fun k0 => ?_) (fun k0 => ?_)
    · refine ⟨_, next, ?_⟩
      exact ⟨i + 1, ⟨rfl, rfl, rfl, rfl, rfl, rfl, rfl, rfl, trivial⟩, ⟨hlti, l, m, L, M, hgl, hgm, t7, hrel, by omega, by omega, hids7⟩, by show s.length - (i + 1) < s.length - i; omega⟩
    have k0 : opK o ≠ 0 := k0
    refine ⟨o.cells, rfl, Rd.of_block x7, ?_⟩
    have D7 := did_spec t7.fst.is (by omega) (hf.ext t7.fst.ext) (by omega) ho
    rw [ptr_eq hgl] at D7
    refine D7.mono ?_
    rintro v w8 ⟨rfl, go8⟩
    obtain ⟨l8, hl8, t8, same8⟩ := t7.go go8
    have hl8 := hl8.trans hgl
    have x8 : w8.heap[g13]? = _ := (same8 g13 (lt_of_heap x7) (t7.fst.is.offT x7 (by decide) (by decide) (by decide) (by decide) (by decide))).trans x7
    have hids8 : w8.heap[g11]? = _ := (same8 g11 (lt_of_heap hids7) (t7.fst.is.offT hids7 (by decide) (by decide) (by decide) (by decide) (by decide))).trans hids7
    have hLl : (didL f L o).length ≤ i + 1 := by
      have := add_length (didE f L o) L (opE L o)
      show (addL (didE f L o) L (opE L o)).length ≤ i + 1
      omega
    refine ⟨o.cells, rfl, Rd.of_block x8, ?_⟩
    refine (concerns_spec o ho st w8).mono ?_
    rintro v w9 ⟨rfl, e89⟩
    have t9 := t8.then e89
    have x9 := e89.heap x8
    have hids9 := e89.heap hids8
    clear t8 x8 hids8 same8 t7 x7 hids7 e57
    refine brE_mk (fun c2 => ?_) (fun c2 => ?_)
    · refine ⟨_, next, ?_⟩
      exact ⟨i + 1, ⟨rfl, rfl, rfl, rfl, rfl, rfl, rfl, rfl, trivial⟩, ⟨hlti, l8, m, _, M, hl8, hgm, t9, secret_hidden haL hrel (.inl c2), hLl, by omega, by rw [ids_same haL (.inr c2) k0]; exact hids9⟩, by show s.length - (i + 1) < s.length - i; omega⟩
    refine brE_ndec (fun c3 => ?_) (fun c3 => ?_)
    · have c3 : ¬ didE f L o = 0 := c3
      have hsame : didL f L o = L := by unfold didL addL; rw [if_neg c3]
      refine ⟨_, next, ?_⟩
      exact ⟨i + 1, ⟨rfl, rfl, rfl, rfl, rfl, rfl, rfl, rfl, trivial⟩, ⟨hlti, l8, m, _, M, hl8, hgm, t9, by rw [hsame]; exact hrel, hLl, by omega, by rw [hsame]; exact hids9⟩, by show s.length - (i + 1) < s.length - i; omega⟩
    have c3 : didE f L o = 0 := c3
    have hgiftl : (giftL L).length ≤ 80 := by have := giftL_length L; omega
    refine ⟨o.cells, rfl, Rd.of_block x9, ?_⟩
    intro g16 w10 h10
    refine ⟨rfl, _, _, h10.here, Nat.le_of_ble_eq_true rfl, rfl, ?_⟩
    intro w11 h11
    have h11 : Put w10 g16 (.cells o.cells.toArray 41 (0, 0)) w11 := h11
    have e911 : Ext w9 w11 := h11.ext_of h10.ext (by rw [h10.new]; exact Nat.le_refl _)
    have t11 := t9.then e911
    have x11 := e911.heap x9
    have hids11 := e911.heap hids9
    have y11 := h11.here
    have new16 : w9.heap.size ≤ g16 := by rw [h10.new]; exact Nat.le_refl _
    have n13 : g13 ≠ g16 := by have := lt_of_heap x9; omega
    have n11 : g11 ≠ g16 := by have := lt_of_heap hids9; omega
    clear x9 h10 h11 e89
    refine ⟨_, cell_of_block (i := 0) x11 rfl, ?_⟩
    refine ⟨by decide, opK o, by unfold opK; exact Int.tmod_eq_emod_of_nonneg ho.kind.1, ?_⟩
    refine brE_dec (fun k2 => ?isOffer) (fun k2 => ?noOffer)
    case' isOffer =>
      have k2 : opK o = 2 := k2
      have hret : 0 ≤ o.x.g.returns ∧ o.x.g.returns ≤ 500 := by
        have he' : doE (sgF f (opE L o).w) L (opE L o) = 0 := c3
        have e1 : opE L o = offerE L o.x.day o.x.g.frm o.x.g.to o.x.g.cur o.x.g.n o.x.g.returns := by unfold opE; rw [if_neg (by omega), if_pos k2]
        rw [e1] at he'
        obtain ⟨hok, _, _⟩ := form_okE (do_zero he').1
        rw [okE_5 rfl] at hok
        unfold rightG at hok
        simp only [Bool.and_eq_true, decide_eq_true_eq] at hok
        exact hok.1.1.1.1.2
      refine ⟨_, cell_of_block (i := 21) x11 rfl, ?_⟩
      refine ⟨_, maxQ rfl rfl rfl rfl, ?_⟩
      refine ⟨_, minQ (ids_index ⟨hret.1, by omega⟩) rfl rfl rfl, ?_⟩
      refine ⟨o.x.g.returns.toNat, rfl, by show o.x.g.returns.toNat < 600; omega, ?_⟩
      refine ⟨.int .i64 (idV st (giftL L) o.x.g.returns), by
        have := cell_of_block hids11 (idsC_at st (giftL L) (n := o.x.g.returns.toNat) (by omega))
        have e : ((o.x.g.returns.toNat : Nat) : Int) = o.x.g.returns := by omega
        rw [e] at this
        show w11.cell? ⟨g11, 0 + o.x.g.returns.toNat * 1, none⟩ = _
        rw [Nat.zero_add, Nat.mul_one]; exact this, ?_⟩
      refine ⟨rfl, _, _, y11, Nat.le_of_ble_eq_true rfl, rfl, ?_⟩
      intro w12 h12
      have ht : turnO st (giftL L) o = { o with x := { o.x with g := { o.x.g with returns := idV st (giftL L) o.x.g.returns } } } := by unfold turnO; rw [if_pos k2]
      have y12 : w12.heap[g16]? = some (.cells (turnO st (giftL L) o).cells.toArray 41 (0, 0)) := by rw [ht]; exact h12.here
      have xZ := (h12.there g13 n13).trans x11
      have idZ := (h12.there g11 n11).trans hids11
      have tZ := t9.then (h12.ext_of e911 new16)
      have h6Z : 6 ≤ opK o → idV st (giftL L) o.x.g.id ≠ 0 := fun h => by omega
      have yZ := y12
      refine ⟨_, cell_of_block (i := 0) xZ rfl, ?_⟩
      refine ⟨by decide, opK o, by unfold opK; exact Int.tmod_eq_emod_of_nonneg ho.kind.1, ?_⟩
      refine brE_false (decide_eq_false (by show ¬ opK o ≥ 6; omega)) ?_
      clear h12 y12
    case' noOffer =>
      have k2 : ¬ opK o = 2 := k2
      refine ⟨_, cell_of_block (i := 0) x11 rfl, ?_⟩
      refine ⟨by decide, opK o, by unfold opK; exact Int.tmod_eq_emod_of_nonneg ho.kind.1, ?_⟩
      refine brE_dec (fun k6 => ?answer) (fun k6 => ?plain)
    case' plain =>
      have k6 : ¬ opK o ≥ 6 := k6
      have ht : turnO st (giftL L) o = o := by unfold turnO; rw [if_neg k2, if_neg k6]
      have xZ := x11
      have idZ := hids11
      have tZ := t11
      have h6Z : 6 ≤ opK o → idV st (giftL L) o.x.g.id ≠ 0 := fun h => absurd h k6
      have yZ : w11.heap[g16]? = some (.cells (turnO st (giftL L) o).cells.toArray 41 (0, 0)) := by rw [ht]; exact y11
    case' answer =>
      have k6 : opK o ≥ 6 := k6
      have hid : 1 ≤ o.x.g.id ∧ o.x.g.id ≤ 500 := by
        have he' : doE (sgF f (opE L o).w) L (opE L o) = 0 := c3
        have e1 : opE L o = if opK o = 6 then takeE o.x.day o.x.g.id else refuseE o.x.day o.x.g.id := by
          unfold opE
          rw [if_neg (by omega), if_neg k2, if_neg (by omega), if_neg (by omega), if_neg (by omega)]
          by_cases q : opK o = 6
          · rw [if_pos q, if_pos q]
          · rw [if_neg q, if_neg q, if_pos (by omega)]
        rw [e1] at he'
        split at he'
        · exact ans_id (x := takeE o.x.day o.x.g.id) (do_zero he').1 (.inl rfl)
        · exact ans_id (x := refuseE o.x.day o.x.g.id) (do_zero he').1 (.inr rfl)
      refine ⟨_, cell_of_block (i := 12) x11 rfl, ?_⟩
      refine ⟨_, maxQ rfl rfl rfl rfl, ?_⟩
      refine ⟨_, minQ (ids_index ⟨by omega, by omega⟩) rfl rfl rfl, ?_⟩
      refine ⟨o.x.g.id.toNat, rfl, by show o.x.g.id.toNat < 600; omega, ?_⟩
      refine ⟨.int .i64 (idV st (giftL L) o.x.g.id), by
        have := cell_of_block hids11 (idsC_at st (giftL L) (n := o.x.g.id.toNat) (by omega))
        have e : ((o.x.g.id.toNat : Nat) : Int) = o.x.g.id := by omega
        rw [e] at this
        show w11.cell? ⟨g11, 0 + o.x.g.id.toNat * 1, none⟩ = _
        rw [Nat.zero_add, Nat.mul_one]; exact this, ?_⟩
      refine ⟨rfl, _, _, y11, Nat.le_of_ble_eq_true rfl, rfl, ?_⟩
      intro w12 h12
      have h12 : Put w11 g16 (.cells ({ o with x := { o.x with g := { o.x.g with id := idV st (giftL L) o.x.g.id } } } : Opn).cells.toArray 41 (0, 0)) w12 := h12
      have ht : turnO st (giftL L) o = { o with x := { o.x with g := { o.x.g with id := idV st (giftL L) o.x.g.id } } } := by unfold turnO; rw [if_neg k2, if_pos k6]
      have xZ := (h12.there g13 n13).trans x11
      have idZ := (h12.there g11 n11).trans hids11
      have tZ := t9.then (h12.ext_of e911 new16)
      refine ⟨.int .i64 (idV st (giftL L) o.x.g.id), cell_of_block (i := 12) h12.here rfl, ?_⟩
      refine brE_dec (fun h0 => ?hidden) (fun h0 => ?seen)
    case hidden =>
      have h0 : idV st (giftL L) o.x.g.id = 0 := h0
      refine ⟨_, next, ?_⟩
      exact ⟨i + 1, ⟨rfl, rfl, rfl, rfl, rfl, rfl, rfl, rfl, trivial⟩, ⟨hlti, l8, m, _, M, hl8, hgm, tZ, secret_hidden haL hrel (.inr ⟨k6, h0⟩), hLl, by omega, by rw [ids_same haL (.inl k2) k0]; exact idZ⟩, by show s.length - (i + 1) < s.length - i; omega⟩
    case' seen =>
      have h6Z : 6 ≤ opK o → idV st (giftL L) o.x.g.id ≠ 0 := fun _ => h0
      have yZ : w12.heap[g16]? = some (.cells (turnO st (giftL L) o).cells.toArray 41 (0, 0)) := by rw [ht]; exact h12.here
      clear h12
    all_goals
      have c2' : concernsB st o = false := c2
      obtain ⟨a1, a2, a3⟩ := secret_step haL haM hrel k0 c3 c2' h6Z
      have hpn := ho.turn st (gl := giftL L) (by omega)
      generalize hp : turnO st (giftL L) o = p at *
      refine ⟨p.cells, rfl, Rd.of_block yZ, ?_⟩
      have DZ := did_spec tZ.snd.is (by omega) (hf.ext tZ.fst.ext) (by omega) hpn
      rw [ptr_eq hgm] at DZ
      refine DZ.mono ?_
      rintro v wQ ⟨rfl, goQ⟩
      obtain ⟨mQ, hmQ, tQ', sameQ⟩ := tZ.swap.go goQ
      have tQ := tQ'.swap
      have hmQ := hmQ.trans hgm
      have xQ : wQ.heap[g13]? = _ := (sameQ g13 (lt_of_heap xZ) (tZ.snd.is.offT xZ (by decide) (by decide) (by decide) (by decide) (by decide))).trans xZ
      have idQ : wQ.heap[g11]? = _ := (sameQ g11 (lt_of_heap idZ) (tZ.snd.is.offT idZ (by decide) (by decide) (by decide) (by decide) (by decide))).trans idZ
      have hMl : (didL f M p).length ≤ i + 1 := by
        have := add_length (didE f M p) M (opE M p)
        show (addL (didE f M p) M (opE M p)).length ≤ i + 1
        omega
      refine brE_ndec (fun h => absurd a1 h) (fun _ => ?_)
      refine ⟨_, cell_of_block (i := 0) xQ rfl, ?_⟩
      refine ⟨by decide, opK o, by unfold opK; exact Int.tmod_eq_emod_of_nonneg ho.kind.1, ?_⟩
      refine brE_dec (fun q2 => ?_) (fun q2 => ?_)
      · have q2 : opK o = 2 := q2
        have hN : didN f L o = (((giftL L).length + 1 : Nat) : Int) := by unfold didN; rw [if_pos c3, if_neg (by omega), if_pos q2]
        refine brE_true (decide_eq_true (by show didN f L o ≥ 1; omega)) ?_
        refine brE_true (decide_eq_true (by show didN f L o ≤ 500; omega)) ?_
        refine ⟨(giftL L).length + 1, hN, by show (giftL L).length + 1 < 600; omega, ?_⟩
        refine ⟨rfl, _, _, idQ, by show 0 + ((giftL L).length + 1) * 1 + 1 ≤ (idsC st (giftL L)).length; rw [idsC_len]; omega, rfl, ?_⟩
        intro wR hR
        have he' : doE (sgF f (opE L o).w) L (opE L o) = 0 := c3
        have e1 : opE L o = offerE L o.x.day o.x.g.frm o.x.g.to o.x.g.cur o.x.g.n o.x.g.returns := by unfold opE; rw [if_neg (by omega), if_pos q2]
        have hgift : ∃ g, giftL (didL f L o) = giftL L ++ [g] := by
          have hdL : didL f L o = L ++ [opE L o] := by unfold didL addL; rw [if_pos c3]
          rw [hdL, e1]
          rw [e1] at he'
          exact ⟨_, (offer_gift rfl he').1⟩
        obtain ⟨g, hg⟩ := hgift
        have hnew := a3 q2
        have hsp : splice (idsC st (giftL L)) (0 + ((giftL L).length + 1) * 1) [.int .i64 (didN f M p)] = idsC st (giftL (didL f L o)) := by
          rw [← hnew, hg, Nat.zero_add, Nat.mul_one]
          exact idsC_offer (by omega)
        have idR : wR.heap[g11]? = some (.cells (idsC st (giftL (didL f L o))).toArray 85 (0, 0)) := by
          rw [← hsp]; exact hR.here
        have tR := tQ.put hR (tQ.fst.is.offT idQ (by decide) (by decide) (by decide) (by decide) (by decide)) (tQ.snd.is.offT idQ (by decide) (by decide) (by decide) (by decide) (by decide)) new11
        refine ⟨_, next, ?_⟩
        exact ⟨i + 1, ⟨rfl, rfl, rfl, rfl, rfl, rfl, rfl, rfl, trivial⟩, ⟨hlti, l8, mQ, _, _, hl8, hmQ, tR, a2, hLl, hMl, idR⟩, by show s.length - (i + 1) < s.length - i; omega⟩
      · have q2 : opK o ≠ 2 := q2
        refine ⟨_, next, ?_⟩
        exact ⟨i + 1, ⟨rfl, rfl, rfl, rfl, rfl, rfl, rfl, rfl, trivial⟩, ⟨hlti, l8, mQ, _, _, hl8, hmQ, tQ, a2, hLl, hMl, by rw [ids_same haL (.inl q2) k0]; exact idQ⟩, by show s.length - (i + 1) < s.length - i; omega⟩
  · refine (grants_spec w5 (tabP_ext T t5.fst.ext)).mono ?_
    rintro v w6 ⟨rfl, e6⟩
    have t6 := t5.then e6
    have S6 := Sight_spec t6.fst.is (by omega) st day
    rw [ptr_eq hgl] at S6
    refine S6.mono ?_
    rintro v w7 ⟨h7, e7⟩
    have t7 := t6.then e7
    obtain ⟨A7, c7, rfl, hr7⟩ := h7.hl
    have S7 := Sight_spec t7.snd.is (by omega) st day
    rw [ptr_eq hgm] at S7
    refine S7.mono ?_
    rintro v w8 ⟨h8, e8⟩
    obtain ⟨A8, c8, rfl, hr8⟩ := h8.hl
    refine (SameSs_spec (hr7.ext e8) hr8).mono ?_
    rintro v w9 ⟨rfl, rfl⟩
    exact ⟨congrArg _ (decide_eq_true (sight_same t5.fst.is.acc t5.snd.is.acc hrel day)), t7.fst.ext.trans e8⟩

end Go.Proofs.YtcnbpfecgokhiaaGreatDoor

namespace Go.Proofs.YtcnbpfecgokhiaaGreatDoor
open Go.Eng Go.RowKit Go.ChangeShapes Go.WideShapes Go.ChangeAt
open Go.ChangeMaps (open_string shut_string)

set_option maxRecDepth 100000 in
theorem duesSecret_lifted (os : Os) (started : os.Started) (H : Type) (enc : TypeId × Value → H) :
    ReturnsInHanded {} Tryz.checked os 10 .any (fun w args => (Rows.duesSecretSpec.pre enc Tryz.prog Tryz.f10 Rows.duesSecretRow.domain false w args ∧ laidMet Tryz.prog laidL w) ∧ sizedMet enc Tryz.prog Tryz.f10 (OpenSpec.ofChange Rows.duesSecretSpec) false w args)
      (Rows.duesSecretSpec.post enc Tryz.prog Tryz.f10 false true false false) := by
  refine returnsInHanded_of_change_and (C := Tryz.checked) (X := fun w _ => laidMet Tryz.prog laidL w) (fun _ _ _ hh h => h.of_heap hh) own started (by kernel_rfl) Tryz.func10
    (ChangeSpec.witness_at (enc := enc) (C := Tryz.checked) (os := os) (X := fun w _ => laidMet Tryz.prog laidL w) false (laidWorld os) #[.slice none 0 0, .slice none 0 0, .int .i64 0, .int .i64 0] 8 rfl (by kernel_rfl) (by kernel_rfl) (by kernel_rfl) (by kernel_rfl) (by kernel_rfl) (laidWorld_met os _)) ?_
  intro W base args ds gs before hval0 hW _ hsz0 hL _
  have T := tabs_of_laid hL
  have hval : ∀ (j : Nat) t v, Tryz.f10.params[j]? = some t → args[j]? = some v → Value.okWide Tryz.prog W .any base t v := hval0
  have hW' := hW
  obtain ⟨p, q, hA0, hV, rfl, hfz, hnd⟩ := hW
  have hA : DataW.TrodAll enc Tryz.prog W 0 (fun _ => true) true [22, 23, 3, 3] args.toList ds p := hA0
  obtain ⟨v0, v1, v2, v3, d0, d1, d2, d3, p0, p1, p2, p3, rfl, rfl, rfl, h0, h1, h2, h3⟩ := trodAll_four hA
  obtain ⟨rfl, rfl⟩ := trodVars_none hV
  obtain ⟨A0, l0, c0, rfl, hf0⟩ := open_facts (hval 0 22 v0 rfl rfl) h0
  obtain ⟨A1, l1, c1, rfl, hs1, ns1⟩ := open_list Opn.len (by omega) (fun y => ⟨.u8, _, rfl⟩) underOs cellsO open_cO (hval 1 23 v1 rfl rfl) h1
  obtain ⟨i2, rfl, _, _, wf2⟩ := open_int under3 (hval 2 3 v2 rfl rfl) h2
  obtain ⟨i3, rfl, _, _, wf3⟩ := open_int under3 (hval 3 3 v3 rfl rfl) h3
  refine (DuesSecret_spec hf0 hs1 ns1 T i2 i3 W (Same.refl W)).mono ?_
  rintro e W' ⟨⟨v, w'', rfl, ⟨rfl, he⟩, hs⟩, _⟩
  have he' : Ext W W' := he.same_right hs
  refine ⟨_, rfl, ?_⟩
  refine ⟨[d0, d1, d2, d3], [], (p0 ++ p1 ++ p2 ++ p3) ++ [], [], p0 ++ (p1 ++ (p2 ++ (p3))), [], hW', ?_, ?_, rfl, Below.frame he' _, fun h => by cases h⟩
  · exact trodAll_mk1 (shut_bool under4 true)
  · exact trodAll_mk4 (Below.trod laidOut recFs rowFs h0 he' fun x hx => hW'.lt x (by simp [hx])) (Below.trod laidOut recOs rowOs h1 he' fun x hx => hW'.lt x (by simp [hx])) (Below.trod laidOut rec3 row3 h2 he' fun x hx => hW'.lt x (by simp [hx])) (Below.trod laidOut rec3 row3 h3 he' fun x hx => hW'.lt x (by simp [hx]))

set_option maxHeartbeats 4000000 in
theorem duesSecret_closed : joinedFacts Tryz.pinned.checked.prog 10 Tryz.f10 Rows.duesSecretSpec Rows.duesSecretRow = true := by
  unfold joinedFacts
  iterate 31 refine Bool.and_eq_true_iff.2 ⟨?_, ?_⟩
  · as_aux_lemma => kernel_rfl
  · exact kLaid
  · exact kMaps
  · as_aux_lemma => kernel_rfl
  · as_aux_lemma => kernel_rfl
  · as_aux_lemma => kernel_rfl
  · exact kStops
  · as_aux_lemma => kernel_rfl
  · exact kKnobs
  · as_aux_lemma => kernel_rfl
  · as_aux_lemma => kernel_rfl
  · as_aux_lemma => kernel_rfl
  · as_aux_lemma => kernel_rfl
  · as_aux_lemma => kernel_rfl
  · as_aux_lemma => kernel_rfl
  · as_aux_lemma => kernel_rfl
  · as_aux_lemma => kernel_rfl
  · as_aux_lemma => kernel_rfl
  · as_aux_lemma => kernel_rfl
  · as_aux_lemma => kernel_rfl
  · as_aux_lemma => kernel_rfl
  · as_aux_lemma => kernel_rfl
  · exact beq_iff_eq.2 kPlain.symm
  · as_aux_lemma => kernel_rfl
  · exact kHeard
  · exact kEnter
  · exact beq_iff_eq.2 kLifts.symm
  · as_aux_lemma => kernel_rfl
  · as_aux_lemma => kernel_rfl
  · as_aux_lemma => kernel_rfl
  · as_aux_lemma => kernel_rfl
  · as_aux_lemma => kernel_rfl

theorem duesSecret_named : Tryz.pinned.checked.prog.funcNamed Rows.duesSecretRow.func = some 10 := by kernel_rfl
theorem duesSecret_func : Tryz.pinned.checked.prog.funcs[10]? = some Tryz.f10 := Tryz.func10
theorem duesSecret_inst : Tryz.f10.isInstance Tryz.pinned.checked.prog Rows.duesSecretRow.origin Rows.duesSecretRow.targs := of_decide_eq_true (by kernel_rfl)
theorem duesSecret_wrap : Tryz.f10.isWrapper Tryz.pinned.checked.prog Rows.duesSecretRow.wrapper Rows.duesSecretRow.mainSum := by
  unfold Func.isWrapper; first | (rw [if_pos (by decide +kernel)]; kernel_rfl) | (rw [if_neg (by decide +kernel)]; exact ⟨rfl, rfl⟩)
theorem duesSecret_text : Rows.duesSecretRow.wfByText (OpenSpec.ofChange Rows.duesSecretSpec) = true := by kernel_rfl
theorem duesSecret_main : Tryz.pinned.checked.prog.mainIs = some (Rows.duesSecretCard.stood.harness.1, Rows.duesSecretCard.stood.harness.2.toList) := by kernel_rfl
theorem duesSecret_looks : true = Tryz.pinned.checked.prog.looks [] := by kernel_rfl
theorem duesSecret_goes : false = Rows.duesSecretRow.goesBy Tryz.pinned.checked.prog := by kernel_rfl
theorem duesSecret_stand : (Tryz.f10.params.toList.all fun t => !Tryz.pinned.checked.prog.wantsStandIn t) = true := by kernel_rfl

theorem duesSecret_holds : Rows.DuesSecretSaid :=
  OpenClaim.holds_of_wide 10 Tryz.f10 rfl rfl rfl rfl rfl rfl rfl ⟨rfl, rfl, rfl, rfl, rfl⟩ rfl rfl rfl rfl rfl duesSecret_named duesSecret_func duesSecret_closed duesSecret_inst duesSecret_wrap
    (fun os started H enc _ => duesSecret_lifted os started H enc)

theorem duesSecret : Rows.DuesSecretCardSaid :=
  Claim7.holds_tied_plain_at .later [] [.data, .data, .data] true Rows.duesSecretCard.stood.harness true
    duesSecret_holds (fun _ h => by cases h) duesSecret_text (fun _ h => by cases h) duesSecret_row_tie rfl ⟨rfl, rfl⟩ duesSecret_main rfl
    (fun f fn hf hfn => by
      obtain rfl : f = 10 := Option.some.inj (duesSecret_named.symm.trans hf) |>.symm
      obtain rfl : fn = Tryz.f10 := (Option.some.inj (duesSecret_func.symm.trans hfn)).symm
      refine ⟨duesSecret_looks, fun j t ht => ?_⟩
      have hm : t ∈ Tryz.f10.params.toList := by
        have := Array.mem_of_getElem? ht
        simpa using this
      exact Bool.not_eq_true' _ |>.mp (List.all_eq_true.1 duesSecret_stand t hm))
    duesSecret_goes

#print axioms duesSecret
end Go.Proofs.YtcnbpfecgokhiaaGreatDoor
