/- a part of the proof: steps, walks and plain laws that the law below stands on; no condition. -/
import Derived.Test.YtcnbpfecgokhiaaGreatDoorDVd
import Derived.Test.YtcnbpfecgokhiaaGreatDoorDBb
set_option linter.unusedVariables false
set_option linter.unusedSimpArgs false
set_option linter.unnecessarySimpa false
set_option linter.unusedSectionVars false
namespace Go.Proofs.YtcnbpfecgokhiaaGreatDoor
open Go.Eng Go.RowKit

/-- The first entry that is refused, and why; else their number. -/
def repG (f : List Fact) (seen : List Entry) : List Entry → Nat × Int
  | [] => (seen.length, 0)
  | x :: r => if doF (knownL x.day f) seen x ≠ 0 then (seen.length, doF (knownL x.day f) seen x) else repG f (seen ++ [x]) r
theorem repG_at {f : List Fact} {l : List Entry} {i : Nat} (hi : i < l.length) : repG f (l.take i) (l.drop i) = if doF (knownL l[i].day f) (l.take i) l[i] ≠ 0 then (i, doF (knownL l[i].day f) (l.take i) l[i]) else repG f (l.take (i + 1)) (l.drop (i + 1)) := by
  rw [List.drop_eq_getElem_cons hi, repG, List.take_succ_eq_append_getElem hi, List.length_take, Nat.min_eq_left (Nat.le_of_lt hi)]

set_option maxRecDepth 100000 in
theorem Replay_spec {w : World} {A B : Option Addr} {f : List Fact} {s : List Entry} {c d : Nat} (hf : HF w A f c) (hfl : f.length ≤ 2 ^ 20) (hs : HL Entry.cells w B s d) (hsl : s.length ≤ 400) (hn : ∀ x ∈ s, x.Nums) :
    CallsV C.P 24 #[.slice A f.length c, .slice B s.length d] w fun v w' => (∃ p, v = .tuple #[p, .int .i64 ((repG f [] s).1 : Nat), .int .i64 (repG f [] s).2] ∧ (((repG f [] s).2 ≠ 0 ∧ p = .pointer none) ∨ ((repG f [] s).2 = 0 ∧ ∃ l : LV, p = l.ptr ∧ LdNew w w' l s))) ∧ Ext w w' := by
  refine callsV_of C_ok (args := [_, _]) (plans := plans24) Tryz.func24 rfl Tryz.ntmps24 (by kernel_rfl) (Nat.le_of_ble_eq_true rfl) ?_
  refine (New_spec w).mono ?_
  rintro v w1 ⟨l0, rfl, h0⟩
  refine loopE C_ok (fun (i : Nat) => [(0, .slice A f.length c), (1, .slice B s.length d), (7, l0.ptr), (12, .slice B s.length d), (13, .int .i64 s.length), (14, .int .i64 (i : Nat))])
    (fun i w' => i ≤ s.length ∧ repG f (s.take i) (s.drop i) = repG f [] s ∧ ∃ l : LV, l.gl = l0.gl ∧ LdNew w w' l (s.take i)) (fun i => s.length - i) 0 ⟨rfl, rfl, rfl, rfl, rfl, rfl, trivial⟩ ⟨Nat.zero_le _, rfl, l0, rfl, h0⟩ ?_
  rintro i w2 ⟨hi, hrep, l, hgl, hl⟩
  have hptr : l.ptr = l0.ptr := by unfold LV.ptr; rw [hgl]
  refine brE_dec (fun hlt => ?_) (fun hge => ?_)
  · have hlti : i < s.length := by have : (i : Int) < (s.length : Nat) := hlt; omega
    have next : IntKind.i64.wrap ((i : Int) + 1) = ((i + 1 : Nat) : Int) := fit ⟨by omega, by omega⟩
    rw [repG_at hlti] at hrep
    obtain ⟨b, o, hB, hr⟩ := (hs.ext hl.ext).at Entry.len (by omega) hlti
    have hxn := hn s[i] (List.getElem_mem hlti)
    refine ⟨i, b, o, rfl, hlti, hB, ?_⟩
    refine ⟨s[i].cells, rfl, hr, ?_⟩
    intro g9 w3 h3
    refine ⟨rfl, _, _, h3.here, Nat.le_of_ble_eq_true rfl, rfl, ?_⟩
    intro w4 h4
    have h4 : Put w3 g9 (.cells s[i].cells.toArray 39 (0, 0)) w4 := h4
    have e24 : Ext w2 w4 := h4.ext_of h3.ext (by rw [h3.new]; exact Nat.le_refl _)
    have hl4 := hl.then e24
    refine ⟨_, cell_of_block (i := 1) h4.here rfl, ?_⟩
    refine ⟨s[i].cells, rfl, Rd.of_block h4.here, ?_⟩
    refine (Known_spec (hf.ext hl4.ext) hfl s[i].day).mono ?_
    rintro v w5 ⟨hk, e5⟩
    refine ⟨e5, ?_⟩
    obtain ⟨Ak, ck, rfl, hkf⟩ := hk.hf fun y hy => hf.nums y (knownL_sub y hy)
    have hl5 := hl4.then e5
    have hlen : (s.take i).length ≤ 2 ^ 16 := by rw [List.length_take]; omega
    have hkl := knownL_length s[i].day f
    have hd := Do_spec hl5.is hlen hxn hkf (by omega)
    rw [hptr] at hd
    refine hd.mono ?_
    rintro v w6 ⟨rfl, hgo⟩
    obtain ⟨l6, hg6, h6⟩ := hl5.go hgo
    refine brE_ndec (fun b1 => ?_) (fun b1 => ?_)
    · have b1 : ¬ doF (knownL s[i].day f) (s.take i) s[i] = 0 := b1
      rw [if_pos b1] at hrep
      rw [← hrep]
      exact ⟨⟨_, rfl, .inl ⟨b1, rfl⟩⟩, h6.ext⟩
    · have b1 : doF (knownL s[i].day f) (s.take i) s[i] = 0 := b1
      rw [if_neg (fun h => h b1)] at hrep
      refine ⟨_, next, ?_⟩
      refine ⟨i + 1, ⟨rfl, rfl, rfl, rfl, rfl, rfl, trivial⟩, ⟨hlti, hrep, l6, hg6.trans hgl, ?_⟩, by show s.length - (i + 1) < s.length - i; omega⟩
      rw [List.take_succ_eq_append_getElem hlti]
      have : addL (doF (knownL s[i].day f) (s.take i) s[i]) (s.take i) s[i] = s.take i ++ [s[i]] := by unfold addL; rw [if_pos b1]
      rw [this] at h6
      exact h6
  · have hie : i = s.length := by have : ¬ (i : Int) < (s.length : Nat) := hge; omega
    rw [hie, List.take_length] at hl
    rw [hie, List.take_length, List.drop_length] at hrep
    rw [← hrep]
    exact ⟨⟨_, rfl, .inr ⟨rfl, l, hptr.symm, hl⟩⟩, hl.ext⟩

end Go.Proofs.YtcnbpfecgokhiaaGreatDoor

namespace Go.Proofs.YtcnbpfecgokhiaaGreatDoor
open Go.Eng Go.RowKit

set_option maxRecDepth 100000 in
set_option maxHeartbeats 1000000 in
theorem refReplay_spec {w : World} {A B : Option Addr} {f : List Fact} {s : List Entry} {c d : Nat} (hf : HF w A f c) (hfl : f.length ≤ 2 ^ 20) (hs : HL Entry.cells w B s d) (hsl : s.length ≤ 400) (hn : ∀ x ∈ s, x.Nums) :
    CallsV C.P 25 #[.slice A f.length c, .slice B s.length d] w fun v w' => (∃ A' c', ∃ y : List Entry, v = .tuple #[.agg #[.slice A' y.length c'], .int .i64 ((repG f [] s).1 : Nat), .int .i64 (repG f [] s).2] ∧ HL Entry.cells w' A' y c' ∧ ((repG f [] s).2 = 0 → y = s)) ∧ Ext w w' := by
  refine callsV_of C_ok (args := [_, _]) (plans := plans25) Tryz.func25 rfl Tryz.ntmps25 (by kernel_rfl) (Nat.le_of_ble_eq_true rfl) ?_
  intro g4 w0 h0
  have M0 : Mem w w0 [(g4, .cells #[.slice none 0 0] 30 (0, 0))] := (Mem.start w).alloc h0
  intro g7 w1 h1
  have M1 : Mem w w1 [(g7, .cells #[.slice none 0 0] 30 (0, 0)), (g4, .cells #[.slice none 0 0] 30 (0, 0))] := M0.alloc h1
  clear M0 h0 h1
  refine loopE C_ok (fun (p : Nat × Option Addr × Nat) => [(0, .slice A f.length c), (1, .slice B s.length d), (4, .pointer (some ⟨g4, 0, none⟩)), (7, .pointer (some ⟨g7, 0, none⟩)), (8, .int .i64 p.1)])
    (fun p w' => p.1 ≤ s.length ∧ repG f (s.take p.1) (s.drop p.1) = repG f [] s ∧ Acc (s.take p.1) ∧ HL Entry.cells w' p.2.1 (s.take p.1) p.2.2 ∧ Mem w w' [(g7, .cells #[.slice p.2.1 (s.take p.1).length p.2.2] 30 (0, 0)), (g4, .cells #[.slice none 0 0] 30 (0, 0))]) (fun p => s.length - p.1) (0, none, 0) ⟨rfl, rfl, rfl, rfl, rfl, trivial⟩
    ⟨Nat.zero_le _, rfl, .nil, ⟨.inl rfl, Nat.le_refl _, Nat.zero_le _⟩, M1⟩ ?_
  rintro ⟨i, Am, cm⟩ w2 ⟨hi', hrep', hacc', hm', M2'⟩
  have hi : i ≤ s.length := hi'
  have hrep : repG f (s.take i) (s.drop i) = repG f [] s := hrep'
  have hacc : Acc (s.take i) := hacc'
  have hm : HL Entry.cells w2 Am (s.take i) cm := hm'
  have M2 : Mem w w2 [(g7, .cells #[.slice Am (s.take i).length cm] 30 (0, 0)), (g4, .cells #[.slice none 0 0] 30 (0, 0))] := M2'
  clear hi' hrep' hacc' hm' M2' M1
  refine brE_dec (fun hlt => ?_) (fun hge => ?_)
  · have hlti : i < s.length := by have : (i : Int) < (s.length : Nat) := hlt; omega
    have next : IntKind.i64.wrap ((i : Int) + 1) = ((i + 1 : Nat) : Int) := fit ⟨by omega, by omega⟩
    rw [repG_at hlti] at hrep
    have hxn := hn s[i] (List.getElem_mem hlti)
    have hlen : (s.take i).length ≤ 2 ^ 16 := by rw [List.length_take]; omega
    have hkl := knownL_length s[i].day f
    obtain ⟨b, o, hB, hr⟩ := (hs.ext M2.ext).at Entry.len (by omega) hlti
    refine ⟨[_], rfl, M2.rd 0 rfl, ?_⟩
    refine ⟨i, b, o, rfl, hlti, hB, ?_⟩
    refine ⟨_, hr 1 _ rfl, ?_⟩
    refine ⟨i, b, o, rfl, hlti, hB, ?_⟩
    refine ⟨s[i].cells, rfl, hr, ?_⟩
    have tail : ∀ (w6 : World) (g9 : Nat) (A' : Option Addr) (c' : Nat), Ext w2 w6 → w2.heap.size ≤ g9 → w6.heap[g9]? = some (.cells #[.slice A' (addL (doF (knownL s[i].day f) (s.take i) s[i]) (s.take i) s[i]).length c'] 30 (0, 0)) → HL Entry.cells w6 A' (addL (doF (knownL s[i].day f) (s.take i) s[i]) (s.take i) s[i]) c' →
        Mem w w6 [(g9, .cells #[.slice A' (addL (doF (knownL s[i].day f) (s.take i) s[i]) (s.take i) s[i]).length c'] 30 (0, 0)), (g7, .cells #[.slice Am (s.take i).length cm] 30 (0, 0)), (g4, .cells #[.slice none 0 0] 30 (0, 0))] := fun w6 g9 A' c' e hg9 h9 _ =>
      (M2.grow e).add h9 (Nat.le_trans M2.ext.size hg9) (fun p hp => by have := M2.lt (g := p.1) (o := p.2) hp; omega)
    refine ⟨?fA, ?fB⟩
    case' fA =>
      refine (refKnown_spec (hf.ext M2.ext) hfl s[i].day).mono ?_
      rintro v w3 ⟨hk, e3⟩
      refine ⟨e3, ?_⟩
      obtain ⟨Ak, ck, rfl, hkf⟩ := hk.hf fun y hy => hf.nums y (knownL_sub y hy)
      refine ⟨?fC, ?fD⟩
      case' fC =>
        refine (refDo_spec (hm.ext e3) hlen hacc hxn hkf (by omega)).mono ?_
        rintro v w4 ⟨⟨A', c', rfl, hH, _⟩, e4⟩
        refine ⟨e4, ?_⟩
        intro g9 w5 h5
        refine ⟨h5.ext, ?_⟩
        refine ⟨rfl, _, _, h5.here, Nat.le_of_ble_eq_true rfl, rfl, ?_⟩
        intro w6 h6
        have e45 : Ext w2 w5 := (e3.trans e4).trans h5.ext
        have hn9 : w2.heap.size ≤ g9 := by rw [h5.new]; exact (e3.trans e4).size
        have e26 : Ext w2 w6 := h6.ext_of e45 hn9
        have hH6 := hl_put (hH.ext h5.ext) h5.here h6
      case' fD =>
        intro g9 w5 h5
        refine ⟨h5.ext, ?_⟩
        refine (refDo_spec (hm.ext (e3.trans h5.ext)) hlen hacc hxn (hkf.ext h5.ext) (by omega)).mono ?_
        rintro v w4 ⟨⟨A', c', rfl, hH, _⟩, e4⟩
        refine ⟨e4, ?_⟩
        refine ⟨rfl, _, _, e4.heap h5.here, Nat.le_of_ble_eq_true rfl, rfl, ?_⟩
        intro w6 h6
        have e45 : Ext w2 w4 := (e3.trans h5.ext).trans e4
        have hn9 : w2.heap.size ≤ g9 := by rw [h5.new]; exact e3.size
        have e26 : Ext w2 w6 := h6.ext_of e45 hn9
        have hH6 := hl_put hH (e4.heap h5.here) h6
    case' fB =>
      intro g9 w5 h5
      refine ⟨h5.ext, ?_⟩
      refine (refKnown_spec (hf.ext (M2.ext.trans h5.ext)) hfl s[i].day).mono ?_
      rintro v w3 ⟨hk, e3⟩
      refine ⟨e3, ?_⟩
      obtain ⟨Ak, ck, rfl, hkf⟩ := hk.hf fun y hy => hf.nums y (knownL_sub y hy)
      refine (refDo_spec (hm.ext (h5.ext.trans e3)) hlen hacc hxn hkf (by omega)).mono ?_
      rintro v w4 ⟨⟨A', c', rfl, hH, _⟩, e4⟩
      refine ⟨e4, ?_⟩
      refine ⟨rfl, _, _, (e3.trans e4).heap h5.here, Nat.le_of_ble_eq_true rfl, rfl, ?_⟩
      intro w6 h6
      have e45 : Ext w2 w4 := (h5.ext.trans e3).trans e4
      have hn9 : w2.heap.size ≤ g9 := by rw [h5.new]; exact Nat.le_refl _
      have e26 : Ext w2 w6 := h6.ext_of e45 hn9
      have hH6 := hl_put hH ((e3.trans e4).heap h5.here) h6
    all_goals
      have M6 := tail w6 g9 A' c' e26 hn9 h6.here hH6
      refine brE_ndec (fun b1 => ?_) (fun b1 => ?_)
      · have b1 : ¬ doF (knownL s[i].day f) (s.take i) s[i] = 0 := b1
        rw [if_pos b1] at hrep
        rw [← hrep]
        refine ⟨rfl, _, _, M6.get 2 rfl, Nat.le_of_ble_eq_true rfl, rfl, ?_⟩
        intro w7 h7
        have M7 := M6.put 2 rfl h7
        refine ⟨[_], rfl, M7.rd 2 rfl, ?_⟩
        exact ⟨⟨none, 0, [], rfl, ⟨.inl rfl, Nat.le_refl _, Nat.zero_le _⟩, fun h => absurd h b1⟩, M7.ext⟩
      · have b1 : doF (knownL s[i].day f) (s.take i) s[i] = 0 := b1
        have hadd : addL (doF (knownL s[i].day f) (s.take i) s[i]) (s.take i) s[i] = s.take (i + 1) := by
          unfold addL; rw [if_pos b1, List.take_succ_eq_append_getElem hlti]
        have hacc2 : Acc (s.take (i + 1)) := by rw [← hadd]; exact acc_add hacc
        rw [if_neg (fun h => h b1)] at hrep
        refine ⟨[_], rfl, M6.rd 0 rfl, ?_⟩
        refine ⟨rfl, _, _, M6.get 1 rfl, Nat.le_of_ble_eq_true rfl, rfl, ?_⟩
        intro w7 h7
        have M7 := M6.put 1 rfl h7
        have hH7 := hl_put hH6 (M6.get 1 rfl) h7
        refine ⟨_, next, ?_⟩
        refine ⟨(i + 1, A', c'), ⟨rfl, rfl, rfl, rfl, rfl, trivial⟩, ⟨hlti, hrep, hacc2, ?_, ?_⟩, by show s.length - (i + 1) < s.length - i; omega⟩
        · show HL Entry.cells w7 A' (s.take (i + 1)) c'
          rw [← hadd]; exact hH7
        · show Mem w w7 [(g7, .cells #[.slice A' (s.take (i + 1)).length c'] 30 (0, 0)), (g4, .cells #[.slice none 0 0] 30 (0, 0))]
          rw [← hadd]
          exact M7.tail
  · have hie : i = s.length := by have : ¬ (i : Int) < (s.length : Nat) := hge; omega
    subst hie
    rw [List.take_length] at hm M2 hrep
    rw [List.drop_length] at hrep
    rw [← hrep]
    refine ⟨[_], rfl, M2.rd 0 rfl, ?_⟩
    refine ⟨rfl, _, _, M2.get 1 rfl, Nat.le_of_ble_eq_true rfl, rfl, ?_⟩
    intro w7 h7
    have M7 := M2.put 1 rfl h7
    refine ⟨[_], rfl, M7.rd 1 rfl, ?_⟩
    exact ⟨⟨Am, cm, s, rfl, hl_put hm (M2.get 1 rfl) h7, fun _ => rfl⟩, M7.ext⟩

end Go.Proofs.YtcnbpfecgokhiaaGreatDoor
