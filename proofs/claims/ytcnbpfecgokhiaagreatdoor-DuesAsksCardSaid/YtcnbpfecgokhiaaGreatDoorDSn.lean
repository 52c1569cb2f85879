/- a part of the proof: steps, walks and plain laws that the law below stands on; no condition. -/
import Derived.Test.YtcnbpfecgokhiaaGreatDoorDSa
import Derived.Test.YtcnbpfecgokhiaaGreatDoorDSb
import Derived.Test.YtcnbpfecgokhiaaGreatDoorDSc
import Derived.Test.YtcnbpfecgokhiaaGreatDoorDSd
import Derived.Test.YtcnbpfecgokhiaaGreatDoorDSe
import Derived.Test.YtcnbpfecgokhiaaGreatDoorDSf
import Derived.Test.YtcnbpfecgokhiaaGreatDoorDSg
import Derived.Test.YtcnbpfecgokhiaaGreatDoorDSh
import Derived.Test.YtcnbpfecgokhiaaGreatDoorDSi
import Derived.Test.YtcnbpfecgokhiaaGreatDoorDSj
import Derived.Test.YtcnbpfecgokhiaaGreatDoorDSk
import Derived.Test.YtcnbpfecgokhiaaGreatDoorDSl
import Derived.Test.YtcnbpfecgokhiaaGreatDoorDSm
import Derived.Sort.Walk0
import Derived.Ground.SlsfProg
import Derived.Scope
import Derived.Laws.StructEq
set_option linter.unusedVariables false
set_option linter.unusedSimpArgs false
set_option linter.unnecessarySimpa false
set_option linter.unusedSectionVars false
namespace Go.Proofs.YtcnbpfecgokhiaaGreatDoor
open Go.Eng Go.RowKit
theorem acc_replay {es : List Entry} (h : Acc es) : ∀ i (hi : i < es.length), Acc (es.take i) ∧ replayB (es.take i) es[i] = true := by
  induction h with
  | nil => intro i hi; cases hi
  | @snoc es x sg hA hx ih =>
    intro i hi
    rcases Nat.lt_or_ge i es.length with hlt | hge
    · have := ih i hlt
      rw [List.take_append_of_le_length (by omega), List.getElem_append_left hlt]
      exact this
    · have hie : i = es.length := by rw [List.length_append, List.length_singleton] at hi; omega
      subst hie
      rw [List.take_left, List.getElem_append_right (Nat.le_refl _)]
      simp only [Nat.sub_self, List.getElem_cons_zero]
      exact ⟨hA, replay_law hA hx⟩
theorem doE_other {sg : Int} {es : List Entry} {x : Entry} (hk : ¬ x.kind = 3) : doE sg es x = doE 0 es x := by
  unfold doE refusedE
  rw [if_neg hk, if_neg hk]
theorem grantsL_len (es : List Entry) : (grantsL es).length ≤ es.length := by
  unfold grantsL
  rw [List.length_map]
  exact List.length_filter_le _ _
set_option maxRecDepth 100000 in
set_option maxHeartbeats 1000000 in
theorem replayed_spec {w : World} {A : Option Addr} {es : List Entry} {c : Nat} (h : HL Entry.cells w A es c) (hl : es.length ≤ 2 ^ 16) (hA : ∀ i (hi : i < es.length), Acc (es.take i) ∧ replayB (es.take i) es[i] = true) (hn : ∀ x ∈ es, x.Nums) :
    CallsV C.P 49 #[.agg #[.slice A es.length c]] w fun v w' => v = .bool true ∧ Ext w w' := by
  refine callsV_of C_ok (args := [_]) (plans := plans49) Tryz.func49 rfl Tryz.ntmps49 (by kernel_rfl) (Nat.le_of_ble_eq_true rfl) ?_
  intro g1 w1 h1
  have M1 : Mem w w1 [(g1, .cells #[.slice A es.length c] 30 (0, 0))] := (Mem.start w).alloc h1
  intro g3 w2 h2
  have M2 : Mem w w2 [(g3, .cells #[.slice none 0 0] 30 (0, 0)), (g1, .cells #[.slice A es.length c] 30 (0, 0))] := M1.alloc h2
  have hg3 : g3 < w2.heap.size := lt_of_heap (M2.get 0 rfl)
  have hg1 : g1 < w2.heap.size := lt_of_heap (M2.get 1 rfl)
  have hw02 := M2.ext.size
  clear M1 h1 h2
  refine loopE C_ok (fun (p : Nat × Value) => [(1, .pointer (some ⟨g1, 0, none⟩)), (3, .pointer (some ⟨g3, 0, none⟩)), (4, .int .i64 ((grantsL (es.take p.1)).length : Nat)), (5, .int .i64 p.1)])
    (fun p w' => p.1 ≤ es.length ∧ w2.heap.size ≤ w'.heap.size ∧ NewL Entry.cells 39 24 w2.heap.size w' p.2 (es.take p.1) ∧ Mem w w' [(g3, .cells #[p.2] 30 (0, 0)), (g1, .cells #[.slice A es.length c] 30 (0, 0))]) (fun p => es.length - p.1) (0, .slice none 0 0) ⟨rfl, rfl, rfl, rfl, trivial⟩
    ⟨Nat.zero_le _, Nat.le_refl _, newL_nil, M2⟩ ?_
  rintro ⟨i, v⟩ w3 ⟨hi', hw23, ho', M3'⟩
  have hi : i ≤ es.length := hi'
  have ho : NewL Entry.cells 39 24 w2.heap.size w3 v (es.take i) := ho'
  obtain ⟨A3, c3, rfl, h3⟩ := ho.hl
  have M3 : Mem w w3 [(g3, .cells #[.slice A3 (es.take i).length c3] 30 (0, 0)), (g1, .cells #[.slice A es.length c] 30 (0, 0))] := M3'
  clear hi' ho' M3'
  have hil : (es.take i).length ≤ 2 ^ 16 := by rw [List.length_take]; omega
  have hgl := grantsL_len (es.take i)
  refine ⟨_, M3.cell 1 rfl rfl, ?_⟩
  refine brE_dec (fun hlt => ?_) (fun hge => ?_)
  · have hlti : i < es.length := by have : (i : Int) < (es.length : Nat) := hlt; omega
    have next : IntKind.i64.wrap ((i : Int) + 1) = ((i + 1 : Nat) : Int) := fit ⟨by omega, by omega⟩
    obtain ⟨hacc, hrb⟩ := hA i hlti
    have hxn := hn es[i] (List.getElem_mem hlti)
    obtain ⟨x, hx⟩ : ∃ x, x = es[i] := ⟨_, rfl⟩
    obtain ⟨b, o, hAe, hc⟩ := (h.ext M3.ext).at Entry.len (by omega) hlti
    rw [← hx] at hrb hxn hc
    have htake : es.take (i + 1) = es.take i ++ [x] := by rw [hx]; exact List.take_succ_eq_append_getElem hlti
    have hgr : grantsL (es.take (i + 1)) = grantsL (es.take i) ++ if x.kind = 3 then [x.w] else [] := by rw [htake]; exact grantsL_snoc _ _
    refine ⟨_, M3.cell 1 rfl rfl, ?_⟩
    refine ⟨i, b, o, rfl, hlti, hAe, ?_⟩
    refine ⟨x.cells, rfl, hc, ?_⟩
    intro g6 w4 h4
    have M4 := M3.alloc h4
    refine ⟨rfl, _, _, M4.get 0 rfl, Nat.le_of_ble_eq_true rfl, rfl, ?_⟩
    intro w5 h5
    have M5 : Mem w w5 [(g6, .cells x.cells.toArray 39 (0, 0)), (g3, .cells #[.slice A3 (es.take i).length c3] 30 (0, 0)), (g1, .cells #[.slice A es.length c] 30 (0, 0))] := M4.put 0 rfl h5
    have e35 : Ext w3 w5 := h5.ext_of h4.ext (by rw [h4.new]; exact Nat.le_refl _)
    have hg6 : g6 = w3.heap.size := h4.new
    clear M4 h4 h5
    refine ⟨_, M5.cell 0 rfl rfl, ?_⟩
    refine brE_dec (fun k3 => ?y) (fun k3 => ?n)
    case' y =>
      have k3 : x.kind = 3 := k3
      unfold replayB at hrb
      rw [if_pos k3] at hrb
      simp only [Bool.and_eq_true, Bool.not_eq_true', decide_eq_false_iff_not, decide_eq_true_eq] at hrb
      obtain ⟨⟨r1, r2⟩, r3⟩ := hrb
      have hcount : (grantsL (es.take (i + 1))).length = (grantsL (es.take i)).length + 1 := by rw [hgr, if_pos k3]; simp
      have hcount2 : (some (Value.int .i64 (((grantsL (es.take i)).length + 1 : Nat) : Int))) = some (Value.int .i64 ((grantsL (es.take (i + 1))).length : Nat)) := by rw [hcount]
      refine ⟨(((grantsL (es.take i)).length + 1 : Nat) : Int), by show IntKind.i64.wrap ((((grantsL (es.take i)).length : Nat) : Int) + 1) = _; rw [fit ⟨by omega, by omega⟩]; omega, ?_⟩
      refine ⟨x.cells, rfl, M5.rd 0 rfl, ?_⟩
      refine (formed6_spec x hxn w5).mono ?_
      rintro v w6 ⟨rfl, e6⟩
      have M6 := M5.grow e6
      rw [r1]
      refine ⟨_, M6.cell 0 rfl rfl, ?_⟩
      refine ⟨[_], rfl, M6.rd 1 rfl, ?_⟩
      refine (refDay_spec (h3.ext (e35.trans e6))).mono ?_
      rintro v w7 ⟨rfl, e7⟩
      refine ⟨e7, ?_⟩
      have M7 := M6.grow e7
      have e37 := e35.trans (e6.trans e7)
      refine brE_dec (fun hd => absurd hd r2) (fun _ => ?_)
      refine ⟨_, M7.cell 0 rfl rfl, ?_⟩
      refine brE_ndec (fun hne => absurd r3 hne) (fun _ => ?_)
    case' n =>
      have k3 : ¬ x.kind = 3 := k3
      unfold replayB at hrb
      rw [if_neg k3] at hrb
      have hrb : doE 0 (es.take i) x = 0 := of_decide_eq_true hrb
      have hcount : (grantsL (es.take (i + 1))).length = (grantsL (es.take i)).length := by rw [hgr, if_neg k3, List.append_nil]
      have hcount2 : (some (Value.int .i64 ((grantsL (es.take i)).length : Nat))) = some (Value.int .i64 ((grantsL (es.take (i + 1))).length : Nat)) := by rw [hcount]
      refine ⟨[_], rfl, M5.rd 1 rfl, ?_⟩
      refine ⟨x.cells, rfl, M5.rd 0 rfl, ?_⟩
      refine (Refused_spec (B := none) (f := []) (d := 0) (h3.ext e35) hil hacc hxn ⟨(fun y hy => by cases hy), .inl rfl, Nat.le_refl _, Nat.zero_le _⟩ (Nat.zero_le _)).mono ?_
      rintro v w7 ⟨rfl, e7⟩
      have M7 := M5.grow e7
      have e37 := e35.trans e7
      have hdo : doF [] (es.take i) x = 0 := by
        unfold doF
        rw [doE_other k3]
        exact hrb
      refine brE_ndec (fun hne => absurd hdo hne) (fun _ => ?_)
    all_goals
      refine ⟨_, M7.cell 1 rfl rfl, ?_⟩
      refine ⟨x.cells, rfl, M7.rd 0 rfl, ?_⟩
      intro g8 w8 h8
      have ho8 := (ho.ext e37).ext h8.ext
      have M8 := M7.grow h8.ext
      refine ⟨rfl, rfl, rfl, w2.heap.size, _, _, x.cells, ho8, Nat.le_trans hw23 (Nat.le_trans e37.size h8.ext.size), Nat.le_of_ble_eq_true rfl, rfl, rfl, .inr ⟨g8, 0, rfl, Rd.of_block h8.here⟩, rfl, rfl, by omega, by simp only [maxLen]; omega, ?_⟩
      intro v9 w9 ho9 hg9 _
      have M9 : Mem w w9 [(g6, .cells x.cells.toArray 39 (0, 0)), (g3, .cells #[.slice A3 (es.take i).length c3] 30 (0, 0)), (g1, .cells #[.slice A es.length c] 30 (0, 0))] := M8.grown hg9 (fun k hk => Nat.le_trans hw02 (ho8.lt k hk).1) (fun p hp => by
        intro e
        have hk1 := (ho.lt p.1 e.symm).1
        have hk2 := (ho.lt p.1 e.symm).2
        rcases List.mem_cons.1 hp with rfl | hp
        · exact absurd hk2 (by rw [hg6]; exact Nat.lt_irrefl _)
        · rcases List.mem_cons.1 hp with rfl | hp
          · exact absurd hg3 (Nat.not_lt.2 hk1)
          · rw [List.mem_singleton.1 hp] at hk1
            exact absurd hg1 (Nat.not_lt.2 hk1))
      obtain ⟨A9, c9, rfl, _, _⟩ := reads_of_owns ho9
      refine ⟨rfl, _, _, M9.get 1 rfl, Nat.le_of_ble_eq_true rfl, rfl, ?_⟩
      intro w10 h10
      have M10 := (M9.put 1 rfl h10).tail
      refine ⟨_, next, ?_⟩
      refine ⟨(i + 1, _), ⟨rfl, rfl, hcount2, rfl, trivial⟩, ⟨hlti, ?_, ?_, M10⟩, by show es.length - (i + 1) < es.length - i; omega⟩
      · show w2.heap.size ≤ w10.heap.size
        rw [h10.size]
        exact Nat.le_trans hw23 (Nat.le_trans (Nat.le_trans e37.size h8.ext.size) hg9.size)
      · show NewL _ _ _ _ _ _ (es.take (i + 1))
        rw [htake]
        unfold NewL
        rw [List.length_append, List.flatMap_append]
        have h9 := ownsRow_put ho9 h10 (fun e => absurd hg3 (Nat.not_lt.2 (ho9.lt _ e).1))
        simpa using h9
  · exact ⟨rfl, M3.ext⟩
end Go.Proofs.YtcnbpfecgokhiaaGreatDoor
namespace Go.Proofs.YtcnbpfecgokhiaaGreatDoor
open Go.Eng Go.RowKit
/-- A list that is the one that came in, or lies in a new block. -/
def Fresh (w : World) (A A' : Option Addr) (l l' : List Entry) : Prop := (A' = A ∧ l' = l) ∨ ∀ ad : Addr, A' = some ad → w.heap.size ≤ ad.block
theorem Fresh.of_ext {w0 w : World} {A A' : Option Addr} {l l' : List Entry} (h : Fresh w A A' l l') (e : Ext w0 w) : Fresh w0 A A' l l' := h.imp id fun k ad ha => Nat.le_trans e.size (k ad ha)
end Go.Proofs.YtcnbpfecgokhiaaGreatDoor
namespace Go.Proofs.YtcnbpfecgokhiaaGreatDoor
open Go.Eng Go.RowKit
theorem hl_put {w w' : World} {A : Option Addr} {l : List Entry} {c g t n m : Nat} {fr : Nat × Nat} {B : Option Addr} {o : Obj} (h : HL Entry.cells w A l c) (hg : w.heap[g]? = some (.cells #[.slice B n m] t fr)) (p : Put w g o w') : HL Entry.cells w' A l c := by
  refine ⟨?_, h.len, h.cap⟩
  rcases h.reads with h0 | ⟨b, i, hA, hr⟩
  · exact .inl h0
  cases l with
  | nil => exact .inl rfl
  | cons x r =>
    have hne : b ≠ g := fun e => by
      have h0 := hr 0 (.int .u8 x.kind) rfl
      rw [e] at h0
      unfold World.cell? at h0
      simp only [hg] at h0
      cases i with
      | zero => simp at h0
      | succ j => simp at h0
    exact .inr ⟨b, i, hA, fun k v hv => by rw [← hr k v hv]; exact World.cell?_of_block (p.there b hne)⟩
end Go.Proofs.YtcnbpfecgokhiaaGreatDoor
