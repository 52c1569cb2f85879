/- a part of the proof: steps, walks and plain laws that the law below stands on; no condition. -/
import Derived.Test.YtcnbpfecgokhiaaGreatDoorDVa
import Derived.Test.YtcnbpfecgokhiaaGreatDoorDWh
import Derived.Test.YtcnbpfecgokhiaaGreatDoorDWc
import Derived.Test.YtcnbpfecgokhiaaGreatDoorDFf
import Derived.Test.YtcnbpfecgokhiaaGreatDoorDFd
set_option linter.unusedVariables false
set_option linter.unusedSimpArgs false
set_option linter.unnecessarySimpa false
set_option linter.unusedSectionVars false
namespace Go.Proofs.YtcnbpfecgokhiaaGreatDoor
open Go.Eng Go.RowKit

def mayE (f : List Fact) (x : Waiv) : Int := if rightW { x with id := 1 } = false then 1 else (chkF f).2
def mayB (f : List Fact) (x : Waiv) : Bool := rightW { x with id := 1 } && decide ((chkF f).2 = 0) && decide (leastL (atL x.day x.day f) x.signer x.giver ≤ 2)

theorem refMaySign_spec {w : World} {A : Option Addr} {f : List Fact} {c : Nat} (hf : HF w A f c) (hl : f.length ≤ 2 ^ 20) (x : Waiv) :
    CallsV C.P 40 #[.slice A f.length c, x.val] w fun v w' => v = .tuple #[.bool (mayB f x), .int .i64 (mayE f x)] ∧ Ext w w' := by
  refine callsV_of C_ok (args := [_, _]) (plans := []) Tryz.func40 rfl Tryz.ntmps40 (by kernel_rfl) (Nat.le_of_ble_eq_true rfl) ?_
  intro g1 w1 h1
  have M1 : Mem w w1 [(g1, .cells x.cells.toArray 35 (0, 0))] := (Mem.start w).alloc h1
  refine ⟨rfl, _, _, M1.get 0 rfl, Nat.le_of_ble_eq_true rfl, rfl, ?_⟩
  intro w2 h2
  obtain ⟨y, hy⟩ : ∃ y : Waiv, y = { x with id := 1 } := ⟨_, rfl⟩
  have M2 : Mem w w2 [(g1, .cells y.cells.toArray 35 (0, 0))] := by rw [hy]; exact M1.put 0 rfl h2
  have y1 : y.day = x.day := by rw [hy]
  have y2 : y.signer = x.signer := by rw [hy]
  have y3 : y.giver = x.giver := by rw [hy]
  unfold mayB mayE
  rw [← hy, ← y1, ← y2, ← y3]
  refine ⟨y.cells, rfl, M2.rd 0 rfl, ?_⟩
  refine (valid_spec y w2).mono ?_
  rintro v w3 ⟨rfl, e3⟩
  have M3 := M2.grow e3
  refine brE_mk (fun b1 => ?_) (fun b1 => ?_)
  · have b1 : rightW y = false := by simpa using b1
    exact ⟨by rw [b1]; rfl, M3.ext⟩
  have b1 : rightW y = true := by simpa using b1
  refine (refCheck_spec (hf.ext M3.ext) hl).mono ?_
  rintro v w4 ⟨rfl, e4⟩
  have M4 := M3.grow e4
  refine brE_ndec (fun b2 => ?_) (fun b2 => ?_)
  · have b2 : ¬ (chkF f).2 = 0 := b2
    exact ⟨by rw [b1, decide_eq_false b2]; rfl, M4.ext⟩
  have b2 : (chkF f).2 = 0 := b2
  refine ⟨_, M4.cell 0 rfl rfl, ?_⟩
  refine ⟨_, M4.cell 0 rfl rfl, ?_⟩
  refine ⟨_, M4.cell 0 rfl rfl, ?_⟩
  refine ⟨_, M4.cell 0 rfl rfl, ?_⟩
  refine (refHoldsClass_spec (hf.ext M4.ext) hl _ _ _ _).mono ?_
  rintro v w5 ⟨rfl, e5⟩
  exact ⟨by rw [b1, decide_eq_true b2, if_neg (by decide), b2]; rfl, M4.ext.trans e5⟩

theorem MaySign_spec {w : World} {A : Option Addr} {f : List Fact} {c : Nat} (hf : HF w A f c) (hl : f.length ≤ 2 ^ 20) (x : Waiv) :
    CallsV C.P 39 #[.slice A f.length c, x.val] w fun v w' => v = .tuple #[.bool (mayB f x), .int .i64 (mayE f x)] ∧ Ext w w' := by
  refine callsV_of C_ok (args := [_, _]) (plans := []) Tryz.func39 rfl Tryz.ntmps39 (by kernel_rfl) (Nat.le_of_ble_eq_true rfl) ?_
  intro g1 w1 h1
  have M1 : Mem w w1 [(g1, .cells x.cells.toArray 35 (0, 0))] := (Mem.start w).alloc h1
  refine ⟨rfl, _, _, M1.get 0 rfl, Nat.le_of_ble_eq_true rfl, rfl, ?_⟩
  intro w2 h2
  obtain ⟨y, hy⟩ : ∃ y : Waiv, y = { x with id := 1 } := ⟨_, rfl⟩
  have M2 : Mem w w2 [(g1, .cells y.cells.toArray 35 (0, 0))] := by rw [hy]; exact M1.put 0 rfl h2
  have y1 : y.day = x.day := by rw [hy]
  have y2 : y.signer = x.signer := by rw [hy]
  have y3 : y.giver = x.giver := by rw [hy]
  unfold mayB mayE
  rw [← hy, ← y1, ← y2, ← y3]
  refine ⟨y.cells, rfl, M2.rd 0 rfl, ?_⟩
  refine (rightW_spec y w2).mono ?_
  rintro v w3 ⟨rfl, e3⟩
  have M3 := M2.grow e3
  refine brE_mk (fun b1 => ?_) (fun b1 => ?_)
  · have b1 : rightW y = false := by simpa using b1
    exact ⟨by rw [b1]; rfl, M3.ext⟩
  have b1 : rightW y = true := by simpa using b1
  refine (Check_spec (hf.ext M3.ext) hl).mono ?_
  rintro v w4 ⟨rfl, e4⟩
  have M4 := M3.grow e4
  refine brE_ndec (fun b2 => ?_) (fun b2 => ?_)
  · have b2 : ¬ (chkF f).2 = 0 := b2
    exact ⟨by rw [b1, decide_eq_false b2]; rfl, M4.ext⟩
  have b2 : (chkF f).2 = 0 := b2
  refine ⟨y.cells, rfl, M4.rd 0 rfl, ?_⟩
  refine (signs_spec (hf.ext M4.ext) hl y).mono ?_
  rintro v w5 ⟨rfl, e5⟩
  exact ⟨by rw [b1, decide_eq_true b2, if_neg (by decide), b2]; rfl, M4.ext.trans e5⟩

/-! ### what is owed -/
abbrev metD (x : Waiv) (d : Due) : Bool := decide (d.cred = x.taker ∧ d.debt = x.giver)
theorem dueS_none {l : List Due} {x : Waiv} (h : l.any (metD x) = false) : l.filter (fun d => !metD x d) = l := by
  refine List.filter_eq_self.2 fun d hd => ?_
  have := List.any_eq_false.1 h d hd
  rw [Bool.not_eq_true] at this
  rw [this]; rfl
theorem dueS_length (l : List Due) (x : Waiv) : (dueS l x).length ≤ l.length + 1 := by
  unfold dueS
  split
  · exact Nat.le_succ_of_le (List.length_filter_le _ _)
  · simp
theorem fold_due_len : ∀ (ws : List Waiv) (l : List Due), (ws.foldl dueS l).length ≤ l.length + ws.length
  | [], l => by simp
  | x :: r, l => by
    have h1 := fold_due_len r (dueS l x)
    have h2 := dueS_length l x
    rw [List.foldl_cons, List.length_cons]; omega

set_option maxRecDepth 100000 in
theorem owing_spec {w : World} {A : Option Addr} {ws : List Waiv} {c : Nat} (h : HL Waiv.cells w A ws c) (hl : ws.length ≤ 2 ^ 16) :
    CallsV C.P 103 #[.slice A ws.length c] w fun v w' => NewL Due.cells 74 3 w.heap.size w' v (ws.foldl dueS []) ∧ Ext w w' := by
  refine callsV_of C_ok (args := [_]) (plans := plans103) Tryz.func103 rfl Tryz.ntmps103 (by kernel_rfl) (Nat.le_of_ble_eq_true rfl) ?_
  refine loopE C_ok (fun (p : Nat × Value) => [(0, .slice A ws.length c), (3, p.2), (4, .int .i64 p.1)])
    (fun p w' => p.1 ≤ ws.length ∧ NewL Due.cells 74 3 w.heap.size w' p.2 ((ws.take p.1).foldl dueS []) ∧ Ext w w') (fun p => ws.length - p.1) (0, .slice none 0 0) ⟨rfl, rfl, rfl, trivial⟩
    ⟨Nat.zero_le _, newL_nil, Ext.refl _⟩ ?_
  rintro ⟨i, v⟩ w1 ⟨hi', ho', e1⟩
  have hi : i ≤ ws.length := hi'
  have ho : NewL Due.cells 74 3 w.heap.size w1 v ((ws.take i).foldl dueS []) := ho'
  clear hi' ho'
  have hlen : ((ws.take i).foldl dueS []).length ≤ i := by
    have := fold_due_len (ws.take i) []
    rw [List.length_take] at this
    simp only [List.length_nil] at this
    omega
  refine brE_dec (fun hlt => ?_) (fun hge => ?_)
  · have hlti : i < ws.length := by have : (i : Int) < (ws.length : Nat) := hlt; omega
    have next : IntKind.i64.wrap ((i : Int) + 1) = ((i + 1 : Nat) : Int) := fit ⟨by omega, by omega⟩
    have hsucc : (ws.take (i + 1)).foldl dueS [] = dueS ((ws.take i).foldl dueS []) ws[i] := by rw [List.take_succ_eq_append_getElem hlti, List.foldl_append]; rfl
    obtain ⟨b, o, hAd, hc⟩ := h.at Waiv.len (by omega) hlti
    obtain ⟨l, hle⟩ : ∃ l, l = (ws.take i).foldl dueS [] := ⟨_, rfl⟩
    rw [← hle] at ho hlen hsucc
    obtain ⟨x, hx⟩ : ∃ x, x = ws[i] := ⟨_, rfl⟩
    rw [← hx] at hsucc hc
    obtain ⟨Al, cl, rfl, hHl⟩ := ho.hl
    refine loopE C_ok (fun (p : Nat × Value × Bool) => [(0, .slice A ws.length c), (3, .slice Al l.length cl), (4, .int .i64 i), (5, p.2.1), (6, .bool p.2.2), (7, .int .i64 p.1)])
      (fun p w' => p.1 ≤ l.length ∧ NewL Due.cells 74 3 w1.heap.size w' p.2.1 ((l.take p.1).filter fun d => !metD x d) ∧ p.2.2 = (l.take p.1).any (metD x) ∧ Mem w1 w' []) (fun p => l.length - p.1) (0, .slice none 0 0, false) ⟨rfl, rfl, rfl, rfl, rfl, rfl, trivial⟩
      ⟨Nat.zero_le _, newL_nil, rfl, Mem.start _⟩ ?_
    rintro ⟨j, u, q⟩ w2 ⟨hj', hu', hq', M2⟩
    have hj : j ≤ l.length := hj'
    have hu : NewL Due.cells 74 3 w1.heap.size w2 u ((l.take j).filter fun d => !metD x d) := hu'
    have hq : q = (l.take j).any (metD x) := hq'
    clear hj' hu' hq'
    have hfl : ((l.take j).filter fun d => !metD x d).length ≤ j := Nat.le_trans (List.length_filter_le _ _) (by rw [List.length_take]; omega)
    refine brE_dec (fun hlt2 => ?_) (fun hge2 => ?_)
    · have hltj : j < l.length := by have : (j : Int) < (l.length : Nat) := hlt2; omega
      have next2 : IntKind.i64.wrap ((j : Int) + 1) = ((j + 1 : Nat) : Int) := fit ⟨by omega, by omega⟩
      obtain ⟨bd, od, hAl, hd⟩ := (hHl.ext M2.ext).at Due.len (by omega) hltj
      have hcx : Rd w2 b (o + i * 9) x.cells := fun k v hv => (e1.trans M2.ext).cell (hc k v hv)
      have hs1 : (l.take (j + 1)).filter (fun d => !metD x d) = ((l.take j).filter fun d => !metD x d) ++ if metD x l[j] = true then [] else [l[j]] := by
        rw [List.take_succ_eq_append_getElem hltj, List.filter_append, List.filter_cons, List.filter_nil]
        cases metD x l[j] <;> rfl
      have hs2 : (l.take (j + 1)).any (metD x) = (q || metD x l[j]) := by
        rw [List.take_succ_eq_append_getElem hltj, List.any_append, ← hq]; simp
      refine ⟨j, bd, od, rfl, hltj, hAl, ?_⟩
      refine ⟨_, hd 0 _ rfl, ?_⟩
      refine ⟨i, b, o, rfl, hlti, hAd, ?_⟩
      refine ⟨_, hcx 4 _ rfl, ?_⟩
      refine brE_dec (fun c1 => ?_) (fun c1 => ?_)
      · have c1 : l[j].cred = x.taker := c1
        refine ⟨j, bd, od, rfl, hltj, hAl, ?_⟩
        refine ⟨_, hd 1 _ rfl, ?_⟩
        refine ⟨i, b, o, rfl, hlti, hAd, ?_⟩
        refine ⟨_, hcx 3 _ rfl, ?_⟩
        refine brE_dec (fun c2 => ?_) (fun c2 => ?_)
        · have c2 : l[j].debt = x.giver := c2
          have hm : metD x l[j] = true := decide_eq_true ⟨c1, c2⟩
          refine ⟨_, next2, ?_⟩
          refine ⟨(j + 1, u, true), ⟨rfl, rfl, rfl, rfl, rfl, rfl, trivial⟩, ⟨hltj, ?_, by show true = _; rw [hs2, hm, Bool.or_true], M2⟩, by show l.length - (j + 1) < l.length - j; omega⟩
          show NewL _ _ _ _ _ _ ((l.take (j + 1)).filter fun d => !metD x d)
          rw [hs1, if_pos hm, List.append_nil]; exact hu
        · have c2 : ¬ l[j].debt = x.giver := c2
          have hm : metD x l[j] = false := decide_eq_false fun e => c2 e.2
          refine ⟨j, bd, od, rfl, hltj, hAl, ?_⟩
          refine ⟨l[j].cells, rfl, hd, ?_⟩
          intro g6 w3 h3
          have hu3 := hu.ext h3.ext
          have M3 := M2.grow h3.ext
          refine ⟨rfl, rfl, rfl, w1.heap.size, _, _, l[j].cells, hu3, M3.ext.size, Nat.le_of_ble_eq_true rfl, rfl, rfl, .inr ⟨g6, 0, rfl, Rd.of_block h3.here⟩, rfl, rfl, by omega, by simp only [maxLen]; omega, ?_⟩
          intro u4 w4 hu4 hg4 hpl
          have M4 := M3.grown hg4 (fun k hk => (hu3.lt k hk).1) (fun p hp => by cases hp)
          refine ⟨_, next2, ?_⟩
          refine ⟨(j + 1, u4, q), ⟨rfl, rfl, rfl, rfl, rfl, rfl, trivial⟩, ⟨hltj, ?_, by show q = _; rw [hs2, hm, Bool.or_false], M4⟩, by show l.length - (j + 1) < l.length - j; omega⟩
          show NewL _ _ _ _ _ _ ((l.take (j + 1)).filter fun d => !metD x d)
          rw [hs1, if_neg (by rw [hm]; decide)]
          unfold NewL
          rw [List.length_append, List.flatMap_append]
          simpa using hu4
      · have c1 : ¬ l[j].cred = x.taker := c1
        have hm : metD x l[j] = false := decide_eq_false fun e => c1 e.1
        refine ⟨j, bd, od, rfl, hltj, hAl, ?_⟩
        refine ⟨l[j].cells, rfl, hd, ?_⟩
        intro g6 w3 h3
        have hu3 := hu.ext h3.ext
        have M3 := M2.grow h3.ext
        refine ⟨rfl, rfl, rfl, w1.heap.size, _, _, l[j].cells, hu3, M3.ext.size, Nat.le_of_ble_eq_true rfl, rfl, rfl, .inr ⟨g6, 0, rfl, Rd.of_block h3.here⟩, rfl, rfl, by omega, by simp only [maxLen]; omega, ?_⟩
        intro u4 w4 hu4 hg4 hpl
        have M4 := M3.grown hg4 (fun k hk => (hu3.lt k hk).1) (fun p hp => by cases hp)
        refine ⟨_, next2, ?_⟩
        refine ⟨(j + 1, u4, q), ⟨rfl, rfl, rfl, rfl, rfl, rfl, trivial⟩, ⟨hltj, ?_, by show q = _; rw [hs2, hm, Bool.or_false], M4⟩, by show l.length - (j + 1) < l.length - j; omega⟩
        show NewL _ _ _ _ _ _ ((l.take (j + 1)).filter fun d => !metD x d)
        rw [hs1, if_neg (by rw [hm]; decide)]
        unfold NewL
        rw [List.length_append, List.flatMap_append]
        simpa using hu4
    · have hje : j = l.length := by have : ¬ (j : Int) < (l.length : Nat) := hge2; omega
      rw [hje, List.take_length] at hu hq
      have hcx : Rd w2 b (o + i * 9) x.cells := fun k v hv => (e1.trans M2.ext).cell (hc k v hv)
      refine brE_mk (fun b1 => ?_) (fun b1 => ?_)
      · have b1 : q = false := by simpa using b1
        rw [b1] at hq
        rw [dueS_none hq.symm] at hu
        refine ⟨i, b, o, rfl, hlti, hAd, ?_⟩
        refine ⟨_, hcx 3 _ rfl, ?_⟩
        refine ⟨i, b, o, rfl, hlti, hAd, ?_⟩
        refine ⟨_, hcx 4 _ rfl, ?_⟩
        refine ⟨i, b, o, rfl, hlti, hAd, ?_⟩
        refine ⟨_, hcx 0 _ rfl, ?_⟩
        intro g6 w3 h3
        have hu3 := hu.ext h3.ext
        have M3 := M2.grow h3.ext
        refine ⟨rfl, rfl, rfl, w1.heap.size, _, _, (⟨x.giver, x.taker, x.id⟩ : Due).cells, hu3, M3.ext.size, Nat.le_of_ble_eq_true rfl, rfl, rfl, .inr ⟨g6, 0, rfl, Rd.of_block h3.here⟩, rfl, rfl, by omega, by simp only [maxLen]; omega, ?_⟩
        intro u4 w4 hu4 hg4 hpl
        have M4 := M3.grown hg4 (fun k hk => (hu3.lt k hk).1) (fun p hp => by cases hp)
        refine ⟨_, next, ?_⟩
        refine ⟨(i + 1, u4), ⟨rfl, rfl, rfl, trivial⟩, ⟨hlti, ?_, e1.trans M4.ext⟩, by show ws.length - (i + 1) < ws.length - i; omega⟩
        show NewL _ _ _ _ _ _ ((ws.take (i + 1)).foldl dueS [])
        rw [hsucc]
        unfold dueS
        rw [if_neg (by rw [← hq]; decide)]
        refine NewL.base ?_ e1.size
        unfold NewL
        rw [List.length_append, List.flatMap_append]
        simpa using hu4
      · have b1 : q = true := by simpa using b1
        rw [b1] at hq
        refine ⟨_, next, ?_⟩
        refine ⟨(i + 1, u), ⟨rfl, rfl, rfl, trivial⟩, ⟨hlti, ?_, e1.trans M2.ext⟩, by show ws.length - (i + 1) < ws.length - i; omega⟩
        show NewL _ _ _ _ _ _ ((ws.take (i + 1)).foldl dueS [])
        rw [hsucc]
        unfold dueS
        rw [if_pos hq.symm]
        exact hu.base e1.size
  · have hie : i = ws.length := by have : ¬ (i : Int) < (ws.length : Nat) := hge; omega
    rw [hie, List.take_length] at ho
    exact ⟨ho, e1⟩

end Go.Proofs.YtcnbpfecgokhiaaGreatDoor

namespace Go.Proofs.YtcnbpfecgokhiaaGreatDoor
open Go.Eng Go.RowKit

theorem right_one {x : Waiv} (h : rightW x = true) : rightW { x with id := 1 } = true := by
  unfold rightW at *
  simp only [Bool.and_eq_true] at *
  obtain ⟨⟨⟨⟨⟨⟨⟨⟨⟨⟨⟨_, a1⟩, a2⟩, a3⟩, a4⟩, a5⟩, a6⟩, a7⟩, a8⟩, a9⟩, a10⟩, a11⟩ := h
  exact ⟨⟨⟨⟨⟨⟨⟨⟨⟨⟨⟨by decide, a1⟩, a2⟩, a3⟩, a4⟩, a5⟩, a6⟩, a7⟩, a8⟩, a9⟩, a10⟩, a11⟩

set_option maxRecDepth 100000 in
theorem refGrant_spec {w : World} {A : Option Addr} {es : List Entry} {c : Nat} (h : HL Entry.cells w A es c) (hl : es.length ≤ 2 ^ 16) (hA : Acc es) {x : Waiv} (hr : rightW x = true) {B : Option Addr} {f : List Fact} {d : Nat} (hf : HF w B f d) (hfl : f.length ≤ 2 ^ 20) :
    CallsV C.P 144 #[.agg #[.slice A es.length c], .slice B f.length d, x.val] w fun v w' => v = .int .i64 (grantedE (sgF f x) es x) ∧ Ext w w' := by
  have hwl := (acc_ok hA).wlen
  refine callsV_of C_ok (args := [_, _, _]) (plans := plans144) Tryz.func144 rfl Tryz.ntmps144 (by kernel_rfl) (Nat.le_of_ble_eq_true rfl) ?_
  intro g3 w1 h1
  have M1 : Mem w w1 [(g3, .cells #[.slice A es.length c] 30 (0, 0))] := (Mem.start w).alloc h1
  intro g5 w2 h2
  have M2 : Mem w w2 [(g5, .cells x.cells.toArray 35 (0, 0)), (g3, .cells #[.slice A es.length c] 30 (0, 0))] := M1.alloc h2
  refine ⟨[_], rfl, M2.rd 1 rfl, ?_⟩
  refine (Granted_spec (h.ext M2.ext) hl hA).mono ?_
  rintro v w3 ⟨hv, e3⟩
  obtain ⟨Aw, cw, rfl, hHw⟩ := hv.hl
  have M3 := M2.grow e3
  refine brE_dec (fun b1 => ?_) (fun b1 => ?_)
  · have b1 : ((waivL es).length : Nat) ≥ (500 : Int) := b1
    exact ⟨congrArg _ (by unfold grantedE; rw [if_pos (by omega)]), M3.ext⟩
  have b1 : ¬ ((waivL es).length : Nat) ≥ (500 : Int) := b1
  refine ⟨_, M3.cell 0 rfl rfl, ?_⟩
  refine ⟨(((waivL es).length + 1 : Nat) : Int), fit ⟨by omega, by omega⟩, ?_⟩
  refine brE_ndec (fun b2 => ?_) (fun b2 => ?_)
  · have b2 : ¬ x.id = (((waivL es).length + 1 : Nat) : Int) := b2
    exact ⟨congrArg _ (by unfold grantedE; rw [if_neg (by omega), if_pos (by omega)]), M3.ext⟩
  have b2 : x.id = (((waivL es).length + 1 : Nat) : Int) := b2
  refine ⟨x.cells, rfl, M3.rd 0 rfl, ?_⟩
  refine (refMaySign_spec (hf.ext M3.ext) hfl x).mono ?_
  rintro v w4 ⟨rfl, e4⟩
  have M4 := M3.grow e4
  have hme : mayE f x = (chkF f).2 := by unfold mayE; rw [if_neg (by rw [right_one hr]; decide)]
  rw [hme]
  refine brE_ndec (fun b3 => ?_) (fun b3 => ?_)
  · have b3 : ¬ (chkF f).2 = 0 := b3
    exact ⟨congrArg _ (by unfold grantedE sgF; rw [if_neg (by omega), if_neg (by omega), if_pos b3, if_pos b3]), M4.ext⟩
  have b3 : (chkF f).2 = 0 := b3
  have hmb : mayB f x = decide (leastL (atL x.day x.day f) x.signer x.giver ≤ 2) := by unfold mayB; rw [right_one hr, decide_eq_true b3]; rfl
  refine brE_mk (fun b4 => ?_) (fun b4 => ?_)
  · have b4 : mayB f x = false := by simpa using b4
    rw [hmb] at b4
    have hsg : sgF f x = 60 := by unfold sgF; rw [if_neg (fun h => h b3), if_neg (of_decide_eq_false b4)]
    exact ⟨congrArg _ (by unfold grantedE; rw [if_neg (by omega), if_neg (by omega), hsg, if_pos (by decide)]), M4.ext⟩
  have b4 : mayB f x = true := by simpa using b4
  rw [hmb] at b4
  have hg : grantedE (sgF f x) es x = if owesB (dueL es) x.giver x.taker = true then 61 else 0 := by
    have hsg : sgF f x = 0 := by unfold sgF; rw [if_neg (fun h => h b3), if_pos (of_decide_eq_true b4)]
    unfold grantedE
    rw [if_neg (by omega), if_neg (by omega), hsg, if_neg (by decide)]
  have hHw4 := hHw.ext e4
  refine (owing_spec hHw4 (by omega)).mono ?_
  rintro v w5 ⟨hv5, e5⟩
  rw [owing_eq] at hv5
  have M5 := M4.grow e5
  obtain ⟨Ad, cd, rfl, hHd⟩ := hv5.hl
  have hcap := hHd.cap
  rw [hg]
  obtain ⟨l, hle⟩ : ∃ l, l = dueL es := ⟨_, rfl⟩
  rw [← hle] at hHd hcap ⊢
  refine loopE C_ok (fun (i : Nat) => [(5, .pointer (some ⟨g5, 0, none⟩)), (10, .slice Ad l.length cd), (11, .int .i64 i)]) (fun i w' => i ≤ l.length ∧ w' = w5 ∧ ∀ k (hk : k < l.length), k < i → ¬ (l[k].cred = x.giver ∧ l[k].debt = x.taker)) (fun i => l.length - i) 0 ⟨rfl, rfl, rfl, trivial⟩ ⟨Nat.zero_le _, rfl, fun k _ hk => absurd hk (Nat.not_lt_zero _)⟩ ?_
  rintro i w6 ⟨hi, rfl, hno⟩
  refine brE_dec (fun hlt => ?_) (fun hge => ?_)
  · have hlti : i < l.length := by have : (i : Int) < (l.length : Nat) := hlt; omega
    have next : IntKind.i64.wrap ((i : Int) + 1) = ((i + 1 : Nat) : Int) := fit ⟨by omega, by omega⟩
    obtain ⟨b, o, hAd, hc⟩ := hHd.at Due.len (by omega) hlti
    refine ⟨i, b, o, rfl, hlti, hAd, ?_⟩
    refine ⟨_, hc 0 _ rfl, ?_⟩
    refine ⟨_, M5.cell 0 rfl rfl, ?_⟩
    refine brE_dec (fun c1 => ?_) (fun c1 => ?_)
    · have c1 : l[i].cred = x.giver := c1
      refine ⟨i, b, o, rfl, hlti, hAd, ?_⟩
      refine ⟨_, hc 1 _ rfl, ?_⟩
      refine ⟨_, M5.cell 0 rfl rfl, ?_⟩
      refine brE_dec (fun c2 => ?_) (fun c2 => ?_)
      · have c2 : l[i].debt = x.taker := c2
        exact ⟨congrArg _ (by rw [if_pos (owes_iff.2 ⟨l[i], List.getElem_mem hlti, c1, c2⟩)]), M5.ext⟩
      · have c2 : ¬ l[i].debt = x.taker := c2
        refine ⟨_, next, ?_⟩
        exact ⟨i + 1, ⟨rfl, rfl, rfl, trivial⟩, ⟨hlti, rfl, fun k hk hki e => if he : k = i then by subst he; exact c2 e.2 else hno k hk (by omega) e⟩, by show l.length - (i + 1) < l.length - i; omega⟩
    · have c1 : ¬ l[i].cred = x.giver := c1
      refine ⟨_, next, ?_⟩
      exact ⟨i + 1, ⟨rfl, rfl, rfl, trivial⟩, ⟨hlti, rfl, fun k hk hki e => if he : k = i then by subst he; exact c1 e.1 else hno k hk (by omega) e⟩, by show l.length - (i + 1) < l.length - i; omega⟩
  · have hie : i = l.length := by have : ¬ (i : Int) < (l.length : Nat) := hge; omega
    refine ⟨congrArg _ (by
      rw [if_neg]
      intro ho
      obtain ⟨y, hy, e1, e2⟩ := owes_iff.1 ho
      obtain ⟨k, hk, rfl⟩ := List.getElem_of_mem hy
      exact hno k hk (by omega) ⟨e1, e2⟩), M5.ext⟩

set_option maxRecDepth 100000 in
theorem refOffer_spec {w : World} {A : Option Addr} {es : List Entry} {c : Nat} (h : HL Entry.cells w A es c) (hl : es.length ≤ 2 ^ 16) (hA : Acc es) {x : Gift} (hx : x.Nums) (hn : 1 ≤ x.n ∧ x.n ≤ 1000000) (hret : 0 ≤ x.returns) :
    CallsV C.P 145 #[.agg #[.slice A es.length c], x.val] w fun v w' => v = .int .i64 (offeredE es x) ∧ Ext w w' := by
  have hgl := (acc_ok hA).gifts.len
  have hrate := (acc_ok hA).rate x.cur
  have hceil := (acc_ok hA).ceil x.to
  have hcur := hx.cur
  have hb : 0 ≤ x.n * rateL es x.cur ∧ x.n * rateL es x.cur ≤ 1000000 * 1000000 := ⟨Int.mul_nonneg (by omega) hrate.1, Int.mul_le_mul hn.2 hrate.2 hrate.1 (by omega)⟩
  refine callsV_of C_ok (args := [_, _]) (plans := []) Tryz.func145 rfl Tryz.ntmps145 (by kernel_rfl) (Nat.le_of_ble_eq_true rfl) ?_
  intro g2 w1 h1
  have M1 : Mem w w1 [(g2, .cells #[.slice A es.length c] 30 (0, 0))] := (Mem.start w).alloc h1
  intro g3 w2 h2
  have M2 : Mem w w2 [(g3, .cells x.cells.toArray 37 (0, 0)), (g2, .cells #[.slice A es.length c] 30 (0, 0))] := M1.alloc h2
  refine ⟨[_], rfl, M2.rd 1 rfl, ?_⟩
  refine (Given_spec (h.ext M2.ext) hl hA).mono ?_
  rintro v w3 ⟨hv, e3⟩
  obtain ⟨Ag, cg, rfl, hHg⟩ := hv.hl
  have M3 := M2.grow e3
  refine brE_dec (fun b1 => ?_) (fun b1 => ?_)
  · have b1 : ((giftL es).length : Nat) ≥ (500 : Int) := b1
    exact ⟨congrArg _ (by unfold offeredE; rw [if_pos (by omega)]), M3.ext⟩
  have b1 : ¬ ((giftL es).length : Nat) ≥ (500 : Int) := b1
  refine ⟨_, M3.cell 0 rfl rfl, ?_⟩
  refine ⟨(((giftL es).length + 1 : Nat) : Int), fit ⟨by omega, by omega⟩, ?_⟩
  refine brE_ndec (fun b2 => ?_) (fun b2 => ?_)
  · have b2 : ¬ x.id = (((giftL es).length + 1 : Nat) : Int) := b2
    exact ⟨congrArg _ (by unfold offeredE; rw [if_neg (by omega), if_pos (by omega)]), M3.ext⟩
  have b2 : x.id = (((giftL es).length + 1 : Nat) : Int) := b2
  refine ⟨_, M3.cell 1 rfl rfl, ?_⟩
  refine ⟨_, M3.cell 0 rfl rfl, ?_⟩
  refine (refRate_spec (h.ext M3.ext) hl hcur).mono ?_
  rintro v w4 ⟨rfl, e4⟩
  have M4 := M3.grow e4
  have hHg4 := hHg.ext e4
  refine brE_dec (fun b3 => ?_) (fun b3 => ?_)
  · have b3 : rateL es x.cur = 0 := b3
    exact ⟨congrArg _ (by unfold offeredE; rw [if_neg (by omega), if_neg (by omega), if_pos b3]), M4.ext⟩
  have b3 : ¬ rateL es x.cur = 0 := b3
  refine ⟨_, M4.cell 0 rfl rfl, ?_⟩
  refine brE_dec (fun b4 => ?_) (fun b4 => ?_)
  · have b4 : x.returns > ((giftL es).length : Nat) := b4
    exact ⟨congrArg _ (by unfold offeredE; rw [if_neg (by omega), if_neg (by omega), if_neg b3, if_pos (by omega)]), M4.ext⟩
  have b4 : ¬ x.returns > ((giftL es).length : Nat) := b4
  have hof : offeredE es x = if x.returns > 0 ∧ (let r := atN (giftL es) x.returns; ¬ (r.frm = x.to ∧ r.to = x.frm ∧ r.returns = 0 ∧ r.state = 2)) then 8 else if ceilL es x.to > 0 ∧ x.n * rateL es x.cur > ceilL es x.to then 2 else 0 := by
    unfold offeredE
    rw [if_neg (by omega), if_neg (by omega), if_neg b3, if_neg b4]
  refine ⟨_, M4.cell 0 rfl rfl, ?_⟩
  refine brE_dec (fun b5 => ?yes) (fun b5 => ?no)
  case' yes =>
    have b5 : x.returns > 0 := b5
    obtain ⟨j, hj, hje⟩ := num_of (n := (giftL es).length) (i := x.returns) (by omega) (by omega)
    obtain ⟨b, o, hA', hrd⟩ := hHg4.at Gift.len (by omega) hj
    have hat : atN (giftL es) x.returns = (giftL es)[j] := by rw [hje]; exact atN_get hj
    rw [hat] at hof
    refine ⟨_, M4.cell 0 rfl rfl, ?_⟩
    refine ⟨(j : Int), by show IntKind.i64.wrap (x.returns - 1) = _; rw [hje, fit ⟨by omega, by omega⟩]; omega, ?_⟩
    refine ⟨j, b, o, rfl, hj, hA', ?_⟩
    refine ⟨(giftL es)[j].cells, rfl, hrd, ?_⟩
    intro g7 w5 h5
    have M5 := M4.alloc h5
    refine ⟨rfl, _, _, M5.get 0 rfl, Nat.le_of_ble_eq_true rfl, rfl, ?_⟩
    intro w6 h6
    have M6 : Mem w w6 [(g7, .cells (giftL es)[j].cells.toArray 37 (0, 0)), (g3, .cells x.cells.toArray 37 (0, 0)), (g2, .cells #[.slice A es.length c] 30 (0, 0))] := M5.put 0 rfl h6
    refine ⟨_, M6.cell 0 rfl rfl, ?_⟩
    refine ⟨_, M6.cell 1 rfl rfl, ?_⟩
    refine brE_ndec (fun c1 => ?_) (fun c1 => ?_)
    · have c1 : ¬ (giftL es)[j].frm = x.to := c1
      exact ⟨congrArg _ (by rw [hof, if_pos ⟨b5, fun e => c1 e.1⟩]), M6.ext⟩
    have c1 : (giftL es)[j].frm = x.to := c1
    refine ⟨_, M6.cell 0 rfl rfl, ?_⟩
    refine ⟨_, M6.cell 1 rfl rfl, ?_⟩
    refine brE_ndec (fun c2 => ?_) (fun c2 => ?_)
    · have c2 : ¬ (giftL es)[j].to = x.frm := c2
      exact ⟨congrArg _ (by rw [hof, if_pos ⟨b5, fun e => c2 e.2.1⟩]), M6.ext⟩
    have c2 : (giftL es)[j].to = x.frm := c2
    refine ⟨_, M6.cell 0 rfl rfl, ?_⟩
    refine brE_ndec (fun c3 => ?_) (fun c3 => ?_)
    · have c3 : ¬ (giftL es)[j].returns = 0 := c3
      exact ⟨congrArg _ (by rw [hof, if_pos ⟨b5, fun e => c3 e.2.2.1⟩]), M6.ext⟩
    have c3 : (giftL es)[j].returns = 0 := c3
    refine ⟨_, M6.cell 0 rfl rfl, ?_⟩
    refine brE_ndec (fun c4 => ?_) (fun c4 => ?_)
    · have c4 : ¬ (giftL es)[j].state = 2 := c4
      exact ⟨congrArg _ (by rw [hof, if_pos ⟨b5, fun e => c4 e.2.2.2⟩]), M6.ext⟩
    have c4 : (giftL es)[j].state = 2 := c4
    rw [if_neg (fun e => e.2 ⟨c1, c2, c3, c4⟩)] at hof
    have M7 := M6.tail
  case' no =>
    have b5 : ¬ x.returns > 0 := b5
    rw [if_neg (fun e => b5 e.1)] at hof
    have M7 := M4
  all_goals
    refine ⟨_, M7.cell 1 rfl rfl, ?_⟩
    refine ⟨_, M7.cell 0 rfl rfl, ?_⟩
    refine (refCeil_spec (h.ext M7.ext) hl x.to).mono ?_
    rintro v w8 ⟨rfl, e8⟩
    have M8 := M7.grow e8
    refine brE_dec (fun d1 => ?_) (fun d1 => ?_)
    · have d1 : ceilL es x.to > 0 := d1
      refine ⟨_, M8.cell 0 rfl rfl, ?_⟩
      refine ⟨x.n * rateL es x.cur, fit ⟨by omega, by omega⟩, ?_⟩
      refine brE_dec (fun d2 => ?_) (fun d2 => ?_)
      · have d2 : x.n * rateL es x.cur > ceilL es x.to := d2
        exact ⟨congrArg _ (by rw [hof, if_pos ⟨d1, d2⟩]), M8.ext⟩
      · have d2 : ¬ x.n * rateL es x.cur > ceilL es x.to := d2
        exact ⟨congrArg _ (by rw [hof, if_neg (fun e => d2 e.2)]), M8.ext⟩
    · have d1 : ¬ ceilL es x.to > 0 := d1
      exact ⟨congrArg _ (by rw [hof, if_neg (fun e => d1 e.1)]), M8.ext⟩

end Go.Proofs.YtcnbpfecgokhiaaGreatDoor

namespace Go.Proofs.YtcnbpfecgokhiaaGreatDoor
open Go.Eng Go.RowKit

theorem form_right {x : Entry} (hf : formX x = true) (hk : x.kind = 3) : rightW x.w = true := by
  obtain ⟨hok, _, _⟩ := form_okE hf
  unfold okE at hok
  rw [if_neg (by omega), if_neg (by omega), if_pos hk, Bool.and_eq_true] at hok
  exact hok.1

set_option maxRecDepth 100000 in
theorem Refused_spec {w : World} {A : Option Addr} {es : List Entry} {c : Nat} (h : HL Entry.cells w A es c) (hl : es.length ≤ 2 ^ 16) (hA : Acc es) {x : Entry} (hx : x.Nums) {B : Option Addr} {f : List Fact} {d : Nat} (hf : HF w B f d) (hfl : f.length ≤ 2 ^ 20) :
    CallsV C.P 100 #[.agg #[.slice A es.length c], .slice B f.length d, x.val] w fun v w' => v = .int .i64 (doF f es x) ∧ Ext w w' := by
  have hwl := (acc_ok hA).wlen
  have hgl := (acc_ok hA).gifts.len
  refine callsV_of C_ok (args := [_, _, _]) (plans := plans100) Tryz.func100 rfl Tryz.ntmps100 (by kernel_rfl) (Nat.le_of_ble_eq_true rfl) ?_
  intro g3 w1 h1
  have M1 : Mem w w1 [(g3, .cells #[.slice A es.length c] 30 (0, 0))] := (Mem.start w).alloc h1
  intro g5 w2 h2
  have M2 : Mem w w2 [(g5, .cells x.cells.toArray 39 (0, 0)), (g3, .cells #[.slice A es.length c] 30 (0, 0))] := M1.alloc h2
  refine ⟨x.cells, rfl, M2.rd 0 rfl, ?_⟩
  refine (formed6_spec x hx w2).mono ?_
  rintro v w3 ⟨rfl, e3⟩
  have M3 := M2.grow e3
  refine brE_mk (fun b1 => ?_) (fun b1 => ?_)
  · have b1 : formX x = false := by simpa using b1
    exact ⟨congrArg _ (by unfold doF doE; rw [if_pos b1]), M3.ext⟩
  have b1 : formX x = true := by simpa using b1
  refine ⟨_, M3.cell 0 rfl rfl, ?_⟩
  refine ⟨[_], rfl, M3.rd 1 rfl, ?_⟩
  refine (refDay_spec (h.ext M3.ext)).mono ?_
  rintro v w4 ⟨rfl, e4⟩
  refine ⟨e4, ?_⟩
  have M4 := M3.grow e4
  refine brE_dec (fun b2 => ?_) (fun b2 => ?_)
  · have b2 : x.day < lastDay es := b2
    exact ⟨congrArg _ (by unfold doF doE; rw [if_neg (by rw [b1]; decide), if_pos b2]), M4.ext⟩
  have b2 : ¬ x.day < lastDay es := b2
  have hdo : doF f es x = refusedE (sgF f x.w) es x := by unfold doF doE; rw [if_neg (by rw [b1]; decide), if_neg b2]
  rw [hdo]
  refine ⟨_, M4.cell 0 rfl rfl, ?_⟩
  refine brE_dec (fun k3 => ?_) (fun k3 => ?_)
  · have k3 : x.kind = 3 := k3
    refine ⟨[_], rfl, M4.rd 1 rfl, ?_⟩
    refine ⟨x.w.cells, rfl, (M4.rd 0 rfl).part x.w_part, ?_⟩
    refine (refGrant_spec (h.ext M4.ext) hl hA (form_right b1 k3) (hf.ext M4.ext) hfl).mono ?_
    rintro v w5 ⟨rfl, e5⟩
    exact ⟨congrArg _ (by unfold refusedE; rw [if_pos k3]), M4.ext.trans e5⟩
  have k3 : ¬ x.kind = 3 := k3
  refine brE_dec (fun k4 => ?_) (fun k4 => ?_)
  · have k4 : x.kind = 4 := k4
    have hid := end_id b1 k4
    have hr : refusedE (sgF f x.w) es x = if x.w.id > (waivL es).length then 5 else if (atN (waivL es) x.w.id).til ≤ x.day then 8 else 0 := by
      unfold refusedE; rw [if_neg k3, if_pos k4]
    refine ⟨[_], rfl, M4.rd 1 rfl, ?_⟩
    refine (Granted_spec (h.ext M4.ext) hl hA).mono ?_
    rintro v w5 ⟨hv, e5⟩
    obtain ⟨Aw, cw, rfl, hHw⟩ := hv.hl
    have M5 := M4.grow e5
    refine ⟨_, M5.cell 0 rfl rfl, ?_⟩
    refine brE_dec (fun c1 => ?_) (fun c1 => ?_)
    · have c1 : x.w.id > ((waivL es).length : Nat) := c1
      exact ⟨congrArg _ (by rw [hr, if_pos c1]), M5.ext⟩
    have c1 : ¬ x.w.id > ((waivL es).length : Nat) := c1
    obtain ⟨j, hj, hje⟩ := num_of (n := (waivL es).length) (i := x.w.id) (by omega) (by omega)
    obtain ⟨b, o, hA', hrd⟩ := hHw.at Waiv.len (by omega) hj
    have hat : atN (waivL es) x.w.id = (waivL es)[j] := by rw [hje]; exact atN_get hj
    rw [hat, if_neg c1] at hr
    refine ⟨_, M5.cell 0 rfl rfl, ?_⟩
    refine ⟨(j : Int), by show IntKind.i64.wrap (x.w.id - 1) = _; rw [hje, fit ⟨by omega, by omega⟩]; omega, ?_⟩
    refine ⟨j, b, o, rfl, hj, hA', ?_⟩
    refine ⟨_, hrd 8 _ rfl, ?_⟩
    refine ⟨_, M5.cell 0 rfl rfl, ?_⟩
    refine brE_dec (fun c2 => ?_) (fun c2 => ?_)
    · have c2 : (waivL es)[j].til ≤ x.day := c2
      exact ⟨congrArg _ (by rw [hr, if_pos c2]), M5.ext⟩
    · have c2 : ¬ (waivL es)[j].til ≤ x.day := c2
      exact ⟨congrArg _ (by rw [hr, if_neg c2]), M5.ext⟩
  have k4 : ¬ x.kind = 4 := k4
  refine brE_dec (fun k5 => ?_) (fun k5 => ?_)
  · have k5 : x.kind = 5 := k5
    obtain ⟨hn, hret⟩ := offer_nums b1 k5
    refine ⟨[_], rfl, M4.rd 1 rfl, ?_⟩
    refine ⟨x.g.cells, rfl, (M4.rd 0 rfl).part x.g_part, ?_⟩
    refine (refOffer_spec (h.ext M4.ext) hl hA hx.g hn hret).mono ?_
    rintro v w5 ⟨rfl, e5⟩
    exact ⟨congrArg _ (by unfold refusedE; rw [if_neg k3, if_neg k4, if_pos k5]), M4.ext.trans e5⟩
  have k5 : ¬ x.kind = 5 := k5
  have ans : x.kind = 6 ∨ x.kind = 7 → refusedE (sgF f x.w) es x = if x.g.id > (giftL es).length then 5 else if ¬ (atN (giftL es) x.g.id).state = 1 then 8 else 0 := fun k => by
    unfold refusedE; rw [if_neg k3, if_neg k4, if_neg k5, if_pos k]
  refine brE_dec (fun k6 => ?k6) (fun k6 => ?no)
  case' no =>
    have k6 : ¬ x.kind = 6 := k6
    refine brE_dec (fun k7 => ?k7) (fun k7 => ?k8)
  case k8 =>
    have k7 : ¬ x.kind = 7 := k7
    exact ⟨congrArg _ (by unfold refusedE; rw [if_neg k3, if_neg k4, if_neg k5, if_neg (by omega)]), M4.ext⟩
  case' k6 =>
    have kk : x.kind = 6 ∨ x.kind = 7 := .inl k6
    refine brE_true (decide_eq_true k6) ?_
  case' k7 => have kk : x.kind = 6 ∨ x.kind = 7 := .inr k7
  all_goals
    have hid := ans_id b1 kk
    have hr := ans kk
    refine ⟨[_], rfl, M4.rd 1 rfl, ?_⟩
    refine (Given_spec (h.ext M4.ext) hl hA).mono ?_
    rintro v w5 ⟨hv, e5⟩
    obtain ⟨Ag, cg, rfl, hHg⟩ := hv.hl
    have M5 := M4.grow e5
    refine ⟨_, M5.cell 0 rfl rfl, ?_⟩
    refine brE_dec (fun c1 => ?_) (fun c1 => ?_)
    · have c1 : x.g.id > ((giftL es).length : Nat) := c1
      exact ⟨congrArg _ (by rw [hr, if_pos c1]), M5.ext⟩
    have c1 : ¬ x.g.id > ((giftL es).length : Nat) := c1
    obtain ⟨j, hj, hje⟩ := num_of (n := (giftL es).length) (i := x.g.id) (by omega) (by omega)
    obtain ⟨b, o, hA', hrd⟩ := hHg.at Gift.len (by omega) hj
    have hat : atN (giftL es) x.g.id = (giftL es)[j] := by rw [hje]; exact atN_get hj
    rw [hat, if_neg c1] at hr
    refine ⟨_, M5.cell 0 rfl rfl, ?_⟩
    refine ⟨(j : Int), by show IntKind.i64.wrap (x.g.id - 1) = _; rw [hje, fit ⟨by omega, by omega⟩]; omega, ?_⟩
    refine ⟨j, b, o, rfl, hj, hA', ?_⟩
    refine ⟨_, hrd 7 _ rfl, ?_⟩
    refine brE_ndec (fun c2 => ?_) (fun c2 => ?_)
    · have c2 : ¬ (giftL es)[j].state = 1 := c2
      exact ⟨congrArg _ (by rw [hr, if_pos c2]), M5.ext⟩
    · have c2 : (giftL es)[j].state = 1 := c2
      exact ⟨congrArg _ (by rw [hr, if_neg (fun e => e c2)]), M5.ext⟩

end Go.Proofs.YtcnbpfecgokhiaaGreatDoor
