/- Dues: who may sign, both sides; what is owed, of the reference. -/
import Derived.Test.YtcnbpfecgokhiaaGreatDoorDVa
import Derived.Test.YtcnbpfecgokhiaaGreatDoorDWh
import Derived.Test.YtcnbpfecgokhiaaGreatDoorDWc
import Derived.Test.YtcnbpfecgokhiaaGreatDoorDFf
import Derived.Test.YtcnbpfecgokhiaaGreatDoorDFd
set_option linter.unusedVariables false
set_option linter.unusedSimpArgs false
set_option linter.unnecessarySimpa false
set_option linter.unusedSectionVars false
namespace Go.Proofs.YtcnbpfecgokhiaaGreatDoor
open Go.Eng Go.RowKit

def mayE (f : List Fact) (x : Waiv) : Int := if rightW { x with id := 1 } = false then 1 else (chkF f).2
def mayB (f : List Fact) (x : Waiv) : Bool := rightW { x with id := 1 } && decide ((chkF f).2 = 0) && decide (leastL (atL x.day x.day f) x.signer x.giver ≤ 2)

theorem refMaySign_spec {w : World} {A : Option Addr} {f : List Fact} {c : Nat} (hf : HF w A f c) (hl : f.length ≤ 2 ^ 20) (x : Waiv) :
    CallsV C.P 40 #[.slice A f.length c, x.val] w fun v w' => v = .tuple #[.bool (mayB f x), .int .i64 (mayE f x)] ∧ Ext w w' := by
  refine callsV_of C_ok (args := [_, _]) (plans := []) Tryz.func40 rfl Tryz.ntmps40 (by kernel_rfl) (Nat.le_of_ble_eq_true rfl) ?_
  intro g1 w1 h1
  have M1 : Mem w w1 [(g1, .cells x.cells.toArray 35 (0, 0))] := (Mem.start w).alloc h1
  refine ⟨rfl, _, _, M1.get 0 rfl, Nat.le_of_ble_eq_true rfl, rfl, ?_⟩
  intro w2 h2
  obtain ⟨y, hy⟩ : ∃ y : Waiv, y = { x with id := 1 } := ⟨_, rfl⟩
  have M2 : Mem w w2 [(g1, .cells y.cells.toArray 35 (0, 0))] := by rw [hy]; exact M1.put 0 rfl h2
  have y1 : y.day = x.day := by rw [hy]
  have y2 : y.signer = x.signer := by rw [hy]
  have y3 : y.giver = x.giver := by rw [hy]
  unfold mayB mayE
  rw [← hy, ← y1, ← y2, ← y3]
  refine ⟨y.cells, rfl, M2.rd 0 rfl, ?_⟩
  refine (valid_spec y w2).mono ?_
  rintro v w3 ⟨rfl, e3⟩
  have M3 := M2.grow e3
  refine brE_mk (fun b1 => ?_) (fun b1 => ?_)
  · have b1 : rightW y = false := by simpa using b1
    exact ⟨by rw [b1]; rfl, M3.ext⟩
  have b1 : rightW y = true := by simpa using b1
  refine (refCheck_spec (hf.ext M3.ext) hl).mono ?_
  rintro v w4 ⟨rfl, e4⟩
  have M4 := M3.grow e4
  refine brE_ndec (fun b2 => ?_) (fun b2 => ?_)
  · have b2 : ¬ (chkF f).2 = 0 := b2
    exact ⟨by rw [b1, decide_eq_false b2]; rfl, M4.ext⟩
  have b2 : (chkF f).2 = 0 := b2
  refine ⟨_, M4.cell 0 rfl rfl, ?_⟩
  refine ⟨_, M4.cell 0 rfl rfl, ?_⟩
  refine ⟨_, M4.cell 0 rfl rfl, ?_⟩
  refine ⟨_, M4.cell 0 rfl rfl, ?_⟩
  refine (refHoldsClass_spec (hf.ext M4.ext) hl _ _ _ _).mono ?_
  rintro v w5 ⟨rfl, e5⟩
  exact ⟨by rw [b1, decide_eq_true b2, if_neg (by decide), b2]; rfl, M4.ext.trans e5⟩

theorem MaySign_spec {w : World} {A : Option Addr} {f : List Fact} {c : Nat} (hf : HF w A f c) (hl : f.length ≤ 2 ^ 20) (x : Waiv) :
    CallsV C.P 39 #[.slice A f.length c, x.val] w fun v w' => v = .tuple #[.bool (mayB f x), .int .i64 (mayE f x)] ∧ Ext w w' := by
  refine callsV_of C_ok (args := [_, _]) (plans := []) Tryz.func39 rfl Tryz.ntmps39 (by kernel_rfl) (Nat.le_of_ble_eq_true rfl) ?_
  intro g1 w1 h1
  have M1 : Mem w w1 [(g1, .cells x.cells.toArray 35 (0, 0))] := (Mem.start w).alloc h1
  refine ⟨rfl, _, _, M1.get 0 rfl, Nat.le_of_ble_eq_true rfl, rfl, ?_⟩
  intro w2 h2
  obtain ⟨y, hy⟩ : ∃ y : Waiv, y = { x with id := 1 } := ⟨_, rfl⟩
  have M2 : Mem w w2 [(g1, .cells y.cells.toArray 35 (0, 0))] := by rw [hy]; exact M1.put 0 rfl h2
  have y1 : y.day = x.day := by rw [hy]
  have y2 : y.signer = x.signer := by rw [hy]
  have y3 : y.giver = x.giver := by rw [hy]
  unfold mayB mayE
  rw [← hy, ← y1, ← y2, ← y3]
  refine ⟨y.cells, rfl, M2.rd 0 rfl, ?_⟩
  refine (rightW_spec y w2).mono ?_
  rintro v w3 ⟨rfl, e3⟩
  have M3 := M2.grow e3
  refine brE_mk (fun b1 => ?_) (fun b1 => ?_)
  · have b1 : rightW y = false := by simpa using b1
    exact ⟨by rw [b1]; rfl, M3.ext⟩
  have b1 : rightW y = true := by simpa using b1
  refine (Check_spec (hf.ext M3.ext) hl).mono ?_
  rintro v w4 ⟨rfl, e4⟩
  have M4 := M3.grow e4
  refine brE_ndec (fun b2 => ?_) (fun b2 => ?_)
  · have b2 : ¬ (chkF f).2 = 0 := b2
    exact ⟨by rw [b1, decide_eq_false b2]; rfl, M4.ext⟩
  have b2 : (chkF f).2 = 0 := b2
  refine ⟨y.cells, rfl, M4.rd 0 rfl, ?_⟩
  refine (signs_spec (hf.ext M4.ext) hl y).mono ?_
  rintro v w5 ⟨rfl, e5⟩
  exact ⟨by rw [b1, decide_eq_true b2, if_neg (by decide), b2]; rfl, M4.ext.trans e5⟩

/-! ### what is owed -/
abbrev metD (x : Waiv) (d : Due) : Bool := decide (d.cred = x.taker ∧ d.debt = x.giver)
theorem dueS_none {l : List Due} {x : Waiv} (h : l.any (metD x) = false) : l.filter (fun d => !metD x d) = l := by
  refine List.filter_eq_self.2 fun d hd => ?_
  have := List.any_eq_false.1 h d hd
  rw [Bool.not_eq_true] at this
  rw [this]; rfl
theorem dueS_length (l : List Due) (x : Waiv) : (dueS l x).length ≤ l.length + 1 := by
  unfold dueS
  split
  · exact Nat.le_succ_of_le (List.length_filter_le _ _)
  · simp
theorem fold_due_len : ∀ (ws : List Waiv) (l : List Due), (ws.foldl dueS l).length ≤ l.length + ws.length
  | [], l => by simp
  | x :: r, l => by
    have h1 := fold_due_len r (dueS l x)
    have h2 := dueS_length l x
    rw [List.foldl_cons, List.length_cons]; omega

set_option maxRecDepth 100000 in
theorem owing_spec {w : World} {A : Option Addr} {ws : List Waiv} {c : Nat} (h : HL Waiv.cells w A ws c) (hl : ws.length ≤ 2 ^ 16) :
    CallsV C.P 103 #[.slice A ws.length c] w fun v w' => NewL Due.cells 74 3 w.heap.size w' v (ws.foldl dueS []) ∧ Ext w w' := by
  refine callsV_of C_ok (args := [_]) (plans := plans103) Tryz.func103 rfl Tryz.ntmps103 (by kernel_rfl) (Nat.le_of_ble_eq_true rfl) ?_
  refine loopE C_ok (fun (p : Nat × Value) => [(0, .slice A ws.length c), (3, p.2), (4, .int .i64 p.1)])
    (fun p w' => p.1 ≤ ws.length ∧ NewL Due.cells 74 3 w.heap.size w' p.2 ((ws.take p.1).foldl dueS []) ∧ Ext w w') (fun p => ws.length - p.1) (0, .slice none 0 0) ⟨rfl, rfl, rfl, trivial⟩
    ⟨Nat.zero_le _, newL_nil, Ext.refl _⟩ ?_
  rintro ⟨i, v⟩ w1 ⟨hi', ho', e1⟩
  have hi : i ≤ ws.length := hi'
  have ho : NewL Due.cells 74 3 w.heap.size w1 v ((ws.take i).foldl dueS []) := ho'
  clear hi' ho'
  have hlen : ((ws.take i).foldl dueS []).length ≤ i := by
    have := fold_due_len (ws.take i) []
    rw [List.length_take] at this
    simp only [List.length_nil] at this
    omega
  refine brE_dec (fun hlt => ?_) (fun hge => ?_)
  · have hlti : i < ws.length := by have : (i : Int) < (ws.length : Nat) := hlt; omega
    have next : IntKind.i64.wrap ((i : Int) + 1) = ((i + 1 : Nat) : Int) := fit ⟨by omega, by omega⟩
    have hsucc : (ws.take (i + 1)).foldl dueS [] = dueS ((ws.take i).foldl dueS []) ws[i] := by rw [List.take_succ_eq_append_getElem hlti, List.foldl_append]; rfl
    obtain ⟨b, o, hAd, hc⟩ := h.at Waiv.len (by omega) hlti
    obtain ⟨l, hle⟩ : ∃ l, l = (ws.take i).foldl dueS [] := ⟨_, rfl⟩
    rw [← hle] at ho hlen hsucc
    obtain ⟨x, hx⟩ : ∃ x, x = ws[i] := ⟨_, rfl⟩
    rw [← hx] at hsucc hc
    obtain ⟨Al, cl, rfl, hHl⟩ := ho.hl
    refine loopE C_ok (fun (p : Nat × Value × Bool) => [(0, .slice A ws.length c), (3, .slice Al l.length cl), (4, .int .i64 i), (5, p.2.1), (6, .bool p.2.2), (7, .int .i64 p.1)])
      (fun p w' => p.1 ≤ l.length ∧ NewL Due.cells 74 3 w1.heap.size w' p.2.1 ((l.take p.1).filter fun d => !metD x d) ∧ p.2.2 = (l.take p.1).any (metD x) ∧ Mem w1 w' []) (fun p => l.length - p.1) (0, .slice none 0 0, false) ⟨rfl, rfl, rfl, rfl, rfl, rfl, trivial⟩
      ⟨Nat.zero_le _, newL_nil, rfl, Mem.start _⟩ ?_
    rintro ⟨j, u, q⟩ w2 ⟨hj', hu', hq', M2⟩
    have hj : j ≤ l.length := hj'
    have hu : NewL Due.cells 74 3 w1.heap.size w2 u ((l.take j).filter fun d => !metD x d) := hu'
    have hq : q = (l.take j).any (metD x) := hq'
    clear hj' hu' hq'
    have hfl : ((l.take j).filter fun d => !metD x d).length ≤ j := Nat.le_trans (List.length_filter_le _ _) (by rw [List.length_take]; omega)
    refine brE_dec (fun hlt2 => ?_) (fun hge2 => ?_)
    · have hltj : j < l.length := by have : (j : Int) < (l.length : Nat) := hlt2; omega
      have next2 : IntKind.i64.wrap ((j : Int) + 1) = ((j + 1 : Nat) : Int) := fit ⟨by omega, by omega⟩
      obtain ⟨bd, od, hAl, hd⟩ := (hHl.ext M2.ext).at Due.len (by omega) hltj
      have hcx : Rd w2 b (o + i * 9) x.cells := fun k v hv => (e1.trans M2.ext).cell (hc k v hv)
      have hs1 : (l.take (j + 1)).filter (fun d => !metD x d) = ((l.take j).filter fun d => !metD x d) ++ if metD x l[j] = true then [] else [l[j]] := by
        rw [List.take_succ_eq_append_getElem hltj, List.filter_append, List.filter_cons, List.filter_nil]
        cases metD x l[j] <;> rfl
      have hs2 : (l.take (j + 1)).any (metD x) = (q || metD x l[j]) := by
        rw [List.take_succ_eq_append_getElem hltj, List.any_append, ← hq]; simp
      refine ⟨j, bd, od, rfl, hltj, hAl, ?_⟩
      refine ⟨_, hd 0 _ rfl, ?_⟩
      refine ⟨i, b, o, rfl, hlti, hAd, ?_⟩
      refine ⟨_, hcx 4 _ rfl, ?_⟩
      refine brE_dec (fun c1 => ?_) (fun c1 => ?_)
      · have c1 : l[j].cred = x.taker := c1
        refine ⟨j, bd, od, rfl, hltj, hAl, ?_⟩
        refine ⟨_, hd 1 _ rfl, ?_⟩
        refine ⟨i, b, o, rfl, hlti, hAd, ?_⟩
        refine ⟨_, hcx 3 _ rfl, ?_⟩
        refine brE_dec (fun c2 => ?_) (fun c2 => ?_)
        · have c2 : l[j].debt = x.giver := c2
          have hm : metD x l[j] = true := decide_eq_true ⟨c1, c2⟩
          refine ⟨_, next2, ?_⟩
          refine ⟨(j + 1, u, true), ⟨rfl, rfl, rfl, rfl, rfl, rfl, trivial⟩, ⟨hltj, ?_, by show true = _; rw [hs2, hm, Bool.or_true], M2⟩, by show l.length - (j + 1) < l.length - j; omega⟩
          show NewL _ _ _ _ _ _ ((l.take (j + 1)).filter fun d => !metD x d)
          rw [hs1, if_pos hm, List.append_nil]; exact hu
        · have c2 : ¬ l[j].debt = x.giver := c2
          have hm : metD x l[j] = false := decide_eq_false fun e => c2 e.2
          refine ⟨j, bd, od, rfl, hltj, hAl, ?_⟩
          refine ⟨l[j].cells, rfl, hd, ?_⟩
          intro g6 w3 h3
          have hu3 := hu.ext h3.ext
          have M3 := M2.grow h3.ext
          refine ⟨rfl, rfl, rfl, w1.heap.size, _, _, l[j].cells, hu3, M3.ext.size, Nat.le_of_ble_eq_true rfl, rfl, rfl, .inr ⟨g6, 0, rfl, Rd.of_block h3.here⟩, rfl, rfl, by omega, by simp only [maxLen]; omega, ?_⟩
          intro u4 w4 hu4 hg4 hpl
          have M4 := M3.grown hg4 (fun k hk => (hu3.lt k hk).1) (fun p hp => by cases hp)
          refine ⟨_, next2, ?_⟩
          refine ⟨(j + 1, u4, q), ⟨rfl, rfl, rfl, rfl, rfl, rfl, trivial⟩, ⟨hltj, ?_, by show q = _; rw [hs2, hm, Bool.or_false], M4⟩, by show l.length - (j + 1) < l.length - j; omega⟩
          show NewL _ _ _ _ _ _ ((l.take (j + 1)).filter fun d => !metD x d)
          rw [hs1, if_neg (by rw [hm]; decide)]
          unfold NewL
          rw [List.length_append, List.flatMap_append]
          simpa using hu4
      · have c1 : ¬ l[j].cred = x.taker := c1
        have hm : metD x l[j] = false := decide_eq_false fun e => c1 e.1
        refine ⟨j, bd, od, rfl, hltj, hAl, ?_⟩
        refine ⟨l[j].cells, rfl, hd, ?_⟩
        intro g6 w3 h3
        have hu3 := hu.ext h3.ext
        have M3 := M2.grow h3.ext
        refine ⟨rfl, rfl, rfl, w1.heap.size, _, _, l[j].cells, hu3, M3.ext.size, Nat.le_of_ble_eq_true rfl, rfl, rfl, .inr ⟨g6, 0, rfl, Rd.of_block h3.here⟩, rfl, rfl, by omega, by simp only [maxLen]; omega, ?_⟩
        intro u4 w4 hu4 hg4 hpl
        have M4 := M3.grown hg4 (fun k hk => (hu3.lt k hk).1) (fun p hp => by cases hp)
        refine ⟨_, next2, ?_⟩
        refine ⟨(j + 1, u4, q), ⟨rfl, rfl, rfl, rfl, rfl, rfl, trivial⟩, ⟨hltj, ?_, by show q = _; rw [hs2, hm, Bool.or_false], M4⟩, by show l.length - (j + 1) < l.length - j; omega⟩
        show NewL _ _ _ _ _ _ ((l.take (j + 1)).filter fun d => !metD x d)
        rw [hs1, if_neg (by rw [hm]; decide)]
        unfold NewL
        rw [List.length_append, List.flatMap_append]
        simpa using hu4
    · have hje : j = l.length := by have : ¬ (j : Int) < (l.length : Nat) := hge2; omega
      rw [hje, List.take_length] at hu hq
      have hcx : Rd w2 b (o + i * 9) x.cells := fun k v hv => (e1.trans M2.ext).cell (hc k v hv)
      refine brE_mk (fun b1 => ?_) (fun b1 => ?_)
      · have b1 : q = false := by simpa using b1
        rw [b1] at hq
        rw [dueS_none hq.symm] at hu
        refine ⟨i, b, o, rfl, hlti, hAd, ?_⟩
        refine ⟨_, hcx 3 _ rfl, ?_⟩
        refine ⟨i, b, o, rfl, hlti, hAd, ?_⟩
        refine ⟨_, hcx 4 _ rfl, ?_⟩
        refine ⟨i, b, o, rfl, hlti, hAd, ?_⟩
        refine ⟨_, hcx 0 _ rfl, ?_⟩
        intro g6 w3 h3
        have hu3 := hu.ext h3.ext
        have M3 := M2.grow h3.ext
        refine ⟨rfl, rfl, rfl, w1.heap.size, _, _, (⟨x.giver, x.taker, x.id⟩ : Due).cells, hu3, M3.ext.size, Nat.le_of_ble_eq_true rfl, rfl, rfl, .inr ⟨g6, 0, rfl, Rd.of_block h3.here⟩, rfl, rfl, by omega, by simp only [maxLen]; omega, ?_⟩
        intro u4 w4 hu4 hg4 hpl
        have M4 := M3.grown hg4 (fun k hk => (hu3.lt k hk).1) (fun p hp => by cases hp)
        refine ⟨_, next, ?_⟩
        refine ⟨(i + 1, u4), ⟨rfl, rfl, rfl, trivial⟩, ⟨hlti, ?_, e1.trans M4.ext⟩, by show ws.length - (i + 1) < ws.length - i; omega⟩
        show NewL _ _ _ _ _ _ ((ws.take (i + 1)).foldl dueS [])
        rw [hsucc]
        unfold dueS
        rw [if_neg (by rw [← hq]; decide)]
        refine NewL.base ?_ e1.size
        unfold NewL
        rw [List.length_append, List.flatMap_append]
        simpa using hu4
      · have b1 : q = true := by simpa using b1
        rw [b1] at hq
        refine ⟨_, next, ?_⟩
        refine ⟨(i + 1, u), ⟨rfl, rfl, rfl, trivial⟩, ⟨hlti, ?_, e1.trans M2.ext⟩, by show ws.length - (i + 1) < ws.length - i; omega⟩
        show NewL _ _ _ _ _ _ ((ws.take (i + 1)).foldl dueS [])
        rw [hsucc]
        unfold dueS
        rw [if_pos hq.symm]
        exact hu.base e1.size
  · have hie : i = ws.length := by have : ¬ (i : Int) < (ws.length : Nat) := hge; omega
    rw [hie, List.take_length] at ho
    exact ⟨ho, e1⟩

end Go.Proofs.YtcnbpfecgokhiaaGreatDoor
