/- Dues: what is well-formed, small tests: both sides (printed by tools/dform.py). -/
import Derived.Test.YtcnbpfecgokhiaaGreatDoorDWa
import Derived.Test.YtcnbpfecgokhiaaGreatDoorDBa
set_option linter.unusedVariables false
set_option linter.unusedSimpArgs false
set_option linter.unnecessarySimpa false
set_option linter.unusedSectionVars false
namespace Go.Proofs.YtcnbpfecgokhiaaGreatDoor
open Go.Eng Go.RowKit

theorem in_spec (n a b : Int) (w : World) : CallsV C.P 117 #[.int .i64 n, .int .i64 a, .int .i64 b] w fun v w' => v = .bool (inB n a b) ∧ w' = w := by
  refine callsV_of C_ok (args := [_, _, _]) (plans := []) Tryz.func117 rfl Tryz.ntmps117 (by kernel_rfl) (Nat.le_of_ble_eq_true rfl) ?_
  refine brE_dec (fun h1 => ?_) (fun h1 => ?_)
  · refine ⟨congrArg Value.bool ?_, rfl⟩
    have h1 : a ≤ n := h1
    rw [Bool.eq_iff_iff]; simp only [decide_eq_true_eq]; omega
  · refine ⟨congrArg Value.bool ?_, rfl⟩
    have h1 : ¬ a ≤ n := h1
    rw [inB, decide_eq_false]; omega
theorem within6_spec (n a b : Int) (w : World) : CallsV C.P 134 #[.int .i64 n, .int .i64 a, .int .i64 b] w fun v w' => v = .bool (inB n a b) ∧ w' = w := by
  refine callsV_of C_ok (args := [_, _, _]) (plans := []) Tryz.func134 rfl Tryz.ntmps134 (by kernel_rfl) (Nat.le_of_ble_eq_true rfl) ?_
  refine brE_dec (fun h1 => ?_) (fun h1 => ?_)
  · refine ⟨congrArg Value.bool ?_, rfl⟩
    have h1 : a ≤ n := h1
    rw [Bool.eq_iff_iff]; simp only [decide_eq_true_eq]; omega
  · refine ⟨congrArg Value.bool ?_, rfl⟩
    have h1 : ¬ a ≤ n := h1
    rw [inB, decide_eq_false]; omega
theorem isId_spec (n : Int) (w : World) : CallsV C.P 131 #[.int .i64 n] w fun v w' => v = .bool (idB n) ∧ w' = w := by
  refine callsV_of C_ok (args := [_]) (plans := []) Tryz.func131 rfl Tryz.ntmps131 (by kernel_rfl) (Nat.le_of_ble_eq_true rfl) ?_
  refine (in_spec n 1 1000000 w).mono ?_
  rintro _ w' ⟨rfl, rfl⟩
  exact ⟨rfl, rfl⟩
theorem id6_spec (n : Int) (w : World) : CallsV C.P 135 #[.int .i64 n] w fun v w' => v = .bool (idB n) ∧ w' = w := by
  refine callsV_of C_ok (args := [_]) (plans := []) Tryz.func135 rfl Tryz.ntmps135 (by kernel_rfl) (Nat.le_of_ble_eq_true rfl) ?_
  refine brE_dec (fun h1 => ?_) (fun h1 => ?_)
  · refine ⟨congrArg Value.bool ?_, rfl⟩
    have h1 : 1 ≤ n := h1
    rw [Bool.eq_iff_iff]; simp only [decide_eq_true_eq]; omega
  · refine ⟨congrArg Value.bool ?_, rfl⟩
    have h1 : ¬ 1 ≤ n := h1
    rw [idB, decide_eq_false]; omega
def persB (n : Int) : Bool := decide (n = 0) || idB n
theorem pers_spec (n : Int) (w : World) : CallsV C.P 130 (#[] ++ [.int .i64 n].toArray ++ #[]) w fun v w' => v = .bool (persB n) ∧ w' = w := by
  refine callsV_of C_ok (args := [_]) (plans := []) Tryz.func130 rfl Tryz.ntmps130 (by kernel_rfl) (Nat.le_of_ble_eq_true rfl) ?_
  refine brE_dec (fun h1 => ?_) (fun h1 => ?_)
  · have h1 : n = 0 := h1
    exact ⟨congrArg Value.bool (by unfold persB; rw [decide_eq_true h1]; rfl), rfl⟩
  · have h1 : ¬ n = 0 := h1
    refine (isId_spec n w).mono ?_
    rintro _ w' ⟨rfl, rfl⟩
    exact ⟨congrArg Value.bool (by unfold persB; rw [decide_eq_false h1]; rfl), rfl⟩

def idsW (x : Waiv) : Bool := inB x.id 1 500 && idB x.signer && idB x.giver && idB x.taker && !decide (x.giver = x.taker)
def guestsW (x : Waiv) : Bool := persB x.under && persB x.over && (decide (x.under = 0) || !decide (x.under = x.over))
def spanW (x : Waiv) : Bool := decide (x.day ≤ x.since) && decide (x.since < x.til) && decide (x.til ≤ 100000)
theorem rightW_parts (x : Waiv) : rightW x = (idsW x && guestsW x && inB x.day 0 100000 && decide (x.day ≤ x.since) && decide (x.since < x.til) && decide (x.til ≤ 100000)) := by
  unfold rightW idsW guestsW persB
  simp only [Bool.and_assoc]
set_option maxRecDepth 100000 in
theorem rightW_spec (x : Waiv) (w : World) : CallsV C.P 91 #[x.val] w fun v w' => v = .bool (rightW x) ∧ Ext w w' := by
  refine callsV_ofS (args := [_]) Tryz.func91 rfl Tryz.ntmps91 C_ok (Nat.le_of_ble_eq_true rfl) ?_
  refine Snd.go C_ok [] (by kernel_rfl) ?_
  intro g1 w1 h1
  have M1 : Mem w w1 [(g1, .cells x.cells.toArray 35 (0, 0))] := (Mem.start w).alloc h1
  refine ⟨Snd.go C_ok [] (by kernel_rfl) ?_⟩
  refine ⟨Snd.join C_ok [] (fun b : Bool => [(1, .pointer (some ⟨g1, 0, none⟩)), (3, .func (.func 130) #[] #[]), (4, .bool b)]) (fun b w' => w' = w1 ∧ b = idsW x) (by kernel_rfl) ?_ ?_⟩
  · have hE : idsW x = (inB x.id 1 500 && idB x.signer && idB x.giver && idB x.taker && !decide (x.giver = x.taker)) := rfl
    refine ⟨_, M1.cell 0 rfl rfl, ?_⟩
    refine (in_spec x.id 1 500 _).mono ?_
    rintro _ w9 ⟨rfl, rfl⟩
    refine brE_mk (fun q => ?_) (fun q => ⟨false, ⟨rfl, rfl, rfl, trivial⟩, rfl, by rw [hE, show inB x.id 1 500 = false from q]; simp only [Bool.and_false, Bool.false_and]⟩)
    have q0 : inB x.id 1 500 = true := q
    refine ⟨_, M1.cell 0 rfl rfl, ?_⟩
    refine (isId_spec x.signer _).mono ?_
    rintro _ w9 ⟨rfl, rfl⟩
    refine brE_mk (fun q => ?_) (fun q => ⟨false, ⟨rfl, rfl, rfl, trivial⟩, rfl, by rw [hE, show idB x.signer = false from q]; simp only [Bool.and_false, Bool.false_and]⟩)
    have q1 : idB x.signer = true := q
    refine ⟨_, M1.cell 0 rfl rfl, ?_⟩
    refine (isId_spec x.giver _).mono ?_
    rintro _ w9 ⟨rfl, rfl⟩
    refine brE_mk (fun q => ?_) (fun q => ⟨false, ⟨rfl, rfl, rfl, trivial⟩, rfl, by rw [hE, show idB x.giver = false from q]; simp only [Bool.and_false, Bool.false_and]⟩)
    have q2 : idB x.giver = true := q
    refine ⟨_, M1.cell 0 rfl rfl, ?_⟩
    refine (isId_spec x.taker _).mono ?_
    rintro _ w9 ⟨rfl, rfl⟩
    refine brE_mk (fun q => ?_) (fun q => ⟨false, ⟨rfl, rfl, rfl, trivial⟩, rfl, by rw [hE, show idB x.taker = false from q]; simp only [Bool.and_false, Bool.false_and]⟩)
    have q3 : idB x.taker = true := q
    refine ⟨_, M1.cell 0 rfl rfl, ?_⟩
    refine ⟨_, M1.cell 0 rfl rfl, ?_⟩
    exact ⟨!decide (x.giver = x.taker), ⟨rfl, rfl, rfl, trivial⟩, rfl, by rw [hE]; simp only [q0, q1, q2, q3, Bool.true_and]⟩
  rintro b1 w1' ⟨rfl, hb1⟩
  refine Snd.join C_ok [] (fun b : Bool => [(1, .pointer (some ⟨g1, 0, none⟩)), (4, .bool b1), (5, .bool b)]) (fun b w' => w' = w1' ∧ b = guestsW x) (by kernel_rfl) ?_ ?_
  · have hE : guestsW x = (persB x.under && persB x.over && (decide (x.under = 0) || !decide (x.under = x.over))) := rfl
    refine ⟨_, M1.cell 0 rfl rfl, ?_⟩
    refine (pers_spec x.under _).mono ?_
    rintro _ w9 ⟨rfl, rfl⟩
    refine brE_mk (fun q => ?_) (fun q => ⟨false, ⟨rfl, rfl, rfl, trivial⟩, rfl, by rw [hE, show persB x.under = false from q]; simp only [Bool.and_false, Bool.false_and]⟩)
    have q0 : persB x.under = true := q
    refine ⟨_, M1.cell 0 rfl rfl, ?_⟩
    refine (pers_spec x.over _).mono ?_
    rintro _ w9 ⟨rfl, rfl⟩
    refine brE_mk (fun q => ?_) (fun q => ⟨false, ⟨rfl, rfl, rfl, trivial⟩, rfl, by rw [hE, show persB x.over = false from q]; simp only [Bool.and_false, Bool.false_and]⟩)
    have q1 : persB x.over = true := q
    refine ⟨_, M1.cell 0 rfl rfl, ?_⟩
    refine brE_dec (fun q => ?_) (fun q => ?_)
    · have q : x.under = 0 := q
      exact ⟨true, ⟨rfl, rfl, rfl, trivial⟩, rfl, by rw [hE, q0, q1, decide_eq_true q]; rfl⟩
    · have q : ¬ x.under = 0 := q
      refine ⟨_, M1.cell 0 rfl rfl, ?_⟩
      refine ⟨_, M1.cell 0 rfl rfl, ?_⟩
      exact ⟨!decide (x.under = x.over), ⟨rfl, rfl, rfl, trivial⟩, rfl, by rw [hE, q0, q1, decide_eq_false q]; rfl⟩
  rintro b2 w2 ⟨rfl, hb2⟩
  refine Snd.fin C_ok (plans := []) (by kernel_rfl) ?_
  rw [rightW_parts, ← hb1, ← hb2]
  refine brE_mk (fun q => ?_) (fun q => ⟨congrArg Value.bool (by rw [show b1 = false from q]; simp only [Bool.and_false, Bool.false_and]), M1.ext⟩)
  have q0 : b1 = true := q
  refine brE_mk (fun q => ?_) (fun q => ⟨congrArg Value.bool (by rw [show b2 = false from q]; simp only [Bool.and_false, Bool.false_and]), M1.ext⟩)
  have q1 : b2 = true := q
  refine ⟨_, M1.cell 0 rfl rfl, ?_⟩
  refine (in_spec x.day 0 100000 _).mono ?_
  rintro _ w9 ⟨rfl, rfl⟩
  refine brE_mk (fun q => ?_) (fun q => ⟨congrArg Value.bool (by rw [show inB x.day 0 100000 = false from q]; simp only [Bool.and_false, Bool.false_and]), M1.ext⟩)
  have q2 : inB x.day 0 100000 = true := q
  refine ⟨_, M1.cell 0 rfl rfl, ?_⟩
  refine ⟨_, M1.cell 0 rfl rfl, ?_⟩
  refine brE_mk (fun q => ?_) (fun q => ⟨congrArg Value.bool (by rw [show decide (x.day ≤ x.since) = false from q]; simp only [Bool.and_false, Bool.false_and]), M1.ext⟩)
  have q3 : decide (x.day ≤ x.since) = true := q
  refine ⟨_, M1.cell 0 rfl rfl, ?_⟩
  refine ⟨_, M1.cell 0 rfl rfl, ?_⟩
  refine brE_mk (fun q => ?_) (fun q => ⟨congrArg Value.bool (by rw [show decide (x.since < x.til) = false from q]; simp only [Bool.and_false, Bool.false_and]), M1.ext⟩)
  have q4 : decide (x.since < x.til) = true := q
  refine ⟨_, M1.cell 0 rfl rfl, ?_⟩
  exact ⟨congrArg Value.bool (by simp only [q0, q1, q2, q3, q4, Bool.true_and]), M1.ext⟩

structure Waiv.Nums (x : Waiv) : Prop where
  id : In64 x.id
  day : In64 x.day
  signer : In64 x.signer
  giver : In64 x.giver
  taker : In64 x.taker
  under : In64 x.under
  over : In64 x.over
  since : In64 x.since
  til : In64 x.til
structure Gift.Nums (x : Gift) : Prop where
  id : In64 x.id
  day : In64 x.day
  frm : In64 x.frm
  to : In64 x.to
  cur : 0 ≤ x.cur ∧ x.cur ≤ 255
  n : In64 x.n
  worth : In64 x.worth
  state : 0 ≤ x.state ∧ x.state ≤ 255
  answered : In64 x.answered
  returns : In64 x.returns
structure Entry.Nums (x : Entry) : Prop where
  kind : 0 ≤ x.kind ∧ x.kind ≤ 255
  day : In64 x.day
  w : x.w.Nums
  g : x.g.Nums
  a : In64 x.a
  b : In64 x.b
  n : In64 x.n
theorem Entry.w_part (x : Entry) : ∀ i v, x.w.cells[i]? = some v → x.cells[2 + i]? = some v := by
  intro i v h
  match i, h with
  | 0, h | 1, h | 2, h | 3, h | 4, h | 5, h | 6, h | 7, h | 8, h => exact h
  | n + 9, h => exact absurd (List.getElem?_eq_some_iff.1 h).1 (by rw [Waiv.len]; omega)
theorem Entry.g_part (x : Entry) : ∀ i v, x.g.cells[i]? = some v → x.cells[11 + i]? = some v := by
  intro i v h
  match i, h with
  | 0, h | 1, h | 2, h | 3, h | 4, h | 5, h | 6, h | 7, h | 8, h | 9, h => exact h
  | n + 10, h => exact absurd (List.getElem?_eq_some_iff.1 h).1 (by rw [Gift.len]; omega)
def idsG (x : Gift) : Bool := inB x.id 1 500 && idB x.frm && idB x.to && !decide (x.frm = x.to) && inB x.returns 0 500 && !decide (x.returns = x.id)
theorem rightG_day (x : Gift) (d : Int) : (rightG x && decide (x.day = d)) = (idsG x && decide (x.day = d) && inB x.cur 1 2 && inB x.n 1 1000000) := by
  unfold rightG
  have e : (inB x.id 1 500 && idB x.frm && idB x.to && !decide (x.frm = x.to) && inB x.returns 0 500 && !decide (x.returns = x.id)) = idsG x := rfl
  rw [e]
  generalize idsG x = a
  generalize decide (x.day = d) = b
  generalize inB x.cur 1 2 = c
  generalize inB x.n 1 1000000 = e
  cases a <;> cases b <;> cases c <;> cases e <;> rfl
set_option maxRecDepth 100000 in
set_option maxHeartbeats 2000000 in
theorem formed_spec (x : Entry) (hx : x.Nums) (w : World) : CallsV C.P 107 #[x.val] w fun v w' => v = .bool (formX x) ∧ Ext w w' := by
  refine callsV_ofS (args := [_]) Tryz.func107 rfl Tryz.ntmps107 C_ok (Nat.le_of_ble_eq_true rfl) ?_
  refine Snd.go C_ok plans107 (by kernel_rfl) ?_
  intro g1 w1 h1
  have M1 : Mem w w1 [(g1, .cells x.cells.toArray 39 (0, 0))] := (Mem.start w).alloc h1
  refine ⟨Snd.go C_ok plans107 (by kernel_rfl) ?_⟩
  refine ⟨_, M1.cell 0 rfl rfl, ?_⟩
  refine ⟨_, M1.cell 0 rfl rfl, ?_⟩
  intro g3 w2 h2
  have M2 := M1.alloc h2
  refine ⟨rfl, _, _, M2.get 0 rfl, Nat.le_of_ble_eq_true rfl, rfl, ?_⟩
  intro w3 h3
  have M3 : Mem w w3 [(g3, .cells (⟨x.kind, x.day, waivZ, giftZ, 0, 0, 0⟩ : Entry).cells.toArray 39 (0, 0)), (g1, .cells x.cells.toArray 39 (0, 0))] := M2.put 0 rfl h3
  have hne : g3 ≠ g1 := fun e => by
    have := M3.nodup
    simp [e] at this
  clear M1 M2 h1 h2 h3
  refine ⟨Snd.go C_ok plans107 (by kernel_rfl) ?_⟩
  refine ⟨Snd.join C_ok plans107 (fun s : Entry × Bool => [(1, .pointer (some ⟨g1, 0, none⟩)), (3, .pointer (some ⟨g3, 0, none⟩)), (4, .bool s.2)]) (fun s w' => Mem w w' [(g3, .cells s.1.cells.toArray 39 (0, 0)), (g1, .cells x.cells.toArray 39 (0, 0))] ∧ s.1 = wantE x ∧ s.2 = okE x) (by kernel_rfl) ?_ ?_⟩
  · refine ⟨_, M3.cell 1 rfl rfl, ?_⟩
    refine brE_dec (fun k1 => ?_) (fun k1 => ?_)
    · have k1 : x.kind = 1 := k1
      have hE : okE x = (inB x.a 1 2 && inB x.n 1 1000000) := by unfold okE; rw [if_pos k1]
      have hW : (⟨x.kind, x.day, waivZ, giftZ, x.a, 0, x.n⟩ : Entry) = wantE x := by unfold wantE; rw [if_pos (.inl k1)]
      refine ⟨fun q => q = g1, ?_⟩
      refine ⟨_, M3.cell 1 rfl rfl, ?_⟩
      refine ⟨.int .i64 x.n, fun u hu => ⟨_, hu.cell rfl (M3.cell 1 (i := 23) rfl rfl), rfl⟩, ?_⟩
      refine ⟨rfl, _, _, M3.get 0 rfl, Nat.le_of_ble_eq_true rfl, rfl, ?_⟩
      intro w4 h4
      have M4 := M3.put 0 rfl h4
      refine ⟨(Keep.refl _ w3).put h4 hne, ?_⟩
      refine ⟨rfl, _, _, M4.get 0 rfl, Nat.le_of_ble_eq_true rfl, rfl, ?_⟩
      intro w5 h5
      have M5 : Mem w w5 [(g3, .cells (⟨x.kind, x.day, waivZ, giftZ, x.a, 0, x.n⟩ : Entry).cells.toArray 39 (0, 0)), (g1, .cells x.cells.toArray 39 (0, 0))] := M4.put 0 rfl h5
      refine ⟨_, M5.cell 1 rfl rfl, ?_⟩
      refine (in_spec x.a 1 2 _).mono ?_
      rintro _ w9 ⟨rfl, rfl⟩
      refine brE_mk (fun q => ?_) (fun q => ⟨(_, false), ⟨rfl, rfl, rfl, trivial⟩, M5, hW, by rw [hE, show inB x.a 1 2 = false from q]; simp only [Bool.and_false, Bool.false_and]⟩)
      have q0 : inB x.a 1 2 = true := q
      refine ⟨_, M5.cell 1 rfl rfl, ?_⟩
      refine (in_spec x.n 1 1000000 _).mono ?_
      rintro _ w9 ⟨rfl, rfl⟩
      exact ⟨(_, inB x.n 1 1000000), ⟨rfl, rfl, rfl, trivial⟩, M5, hW, by rw [hE]; simp only [q0, Bool.true_and]⟩
    have k1 : ¬ x.kind = 1 := k1
    refine brE_dec (fun k2 => ?_) (fun k2 => ?_)
    · have k2 : x.kind = 2 := k2
      have hE : okE x = (idB x.a && inB x.n 1 1000000000000) := by unfold okE; rw [if_neg k1, if_pos k2]
      have hW : (⟨x.kind, x.day, waivZ, giftZ, x.a, 0, x.n⟩ : Entry) = wantE x := by unfold wantE; rw [if_pos (.inr k2)]
      refine ⟨fun q => q = g1, ?_⟩
      refine ⟨_, M3.cell 1 rfl rfl, ?_⟩
      refine ⟨.int .i64 x.n, fun u hu => ⟨_, hu.cell rfl (M3.cell 1 (i := 23) rfl rfl), rfl⟩, ?_⟩
      refine ⟨rfl, _, _, M3.get 0 rfl, Nat.le_of_ble_eq_true rfl, rfl, ?_⟩
      intro w4 h4
      have M4 := M3.put 0 rfl h4
      refine ⟨(Keep.refl _ w3).put h4 hne, ?_⟩
      refine ⟨rfl, _, _, M4.get 0 rfl, Nat.le_of_ble_eq_true rfl, rfl, ?_⟩
      intro w5 h5
      have M5 : Mem w w5 [(g3, .cells (⟨x.kind, x.day, waivZ, giftZ, x.a, 0, x.n⟩ : Entry).cells.toArray 39 (0, 0)), (g1, .cells x.cells.toArray 39 (0, 0))] := M4.put 0 rfl h5
      refine ⟨_, M5.cell 1 rfl rfl, ?_⟩
      refine (isId_spec x.a _).mono ?_
      rintro _ w9 ⟨rfl, rfl⟩
      refine brE_mk (fun q => ?_) (fun q => ⟨(_, false), ⟨rfl, rfl, rfl, trivial⟩, M5, hW, by rw [hE, show idB x.a = false from q]; simp only [Bool.and_false, Bool.false_and]⟩)
      have q0 : idB x.a = true := q
      refine ⟨_, M5.cell 1 rfl rfl, ?_⟩
      refine (in_spec x.n 1 1000000000000 _).mono ?_
      rintro _ w9 ⟨rfl, rfl⟩
      exact ⟨(_, inB x.n 1 1000000000000), ⟨rfl, rfl, rfl, trivial⟩, M5, hW, by rw [hE]; simp only [q0, Bool.true_and]⟩
    have k2 : ¬ x.kind = 2 := k2
    refine brE_dec (fun k3 => ?_) (fun k3 => ?_)
    · have k3 : x.kind = 3 := k3
      have hE : okE x = (rightW x.w && decide (x.w.day = x.day)) := by unfold okE; rw [if_neg k1, if_neg k2, if_pos k3]
      have hW : (⟨x.kind, x.day, x.w, giftZ, 0, 0, 0⟩ : Entry) = wantE x := by unfold wantE; rw [if_neg (fun e => e.elim k1 k2), if_pos k3]
      refine ⟨x.w.cells, rfl, (M3.rd 1 rfl).part x.w_part, ?_⟩
      refine ⟨rfl, _, _, M3.get 0 rfl, Nat.le_of_ble_eq_true rfl, rfl, ?_⟩
      intro w4 h4
      have M5 : Mem w w4 [(g3, .cells (⟨x.kind, x.day, x.w, giftZ, 0, 0, 0⟩ : Entry).cells.toArray 39 (0, 0)), (g1, .cells x.cells.toArray 39 (0, 0))] := M3.put 0 rfl h4
      refine ⟨x.w.cells, rfl, (M5.rd 1 rfl).part x.w_part, ?_⟩
      refine (rightW_spec x.w _).mono ?_
      rintro _ w9 ⟨rfl, e9⟩
      have M6 := M5.grow e9
      refine brE_mk (fun q => ?_) (fun q => ⟨(_, false), ⟨rfl, rfl, rfl, trivial⟩, M6, hW, by rw [hE, show rightW x.w = false from q]; simp only [Bool.and_false, Bool.false_and]⟩)
      have q0 : rightW x.w = true := q
      refine ⟨_, M6.cell 1 rfl rfl, ?_⟩
      refine ⟨_, M6.cell 1 rfl rfl, ?_⟩
      exact ⟨(_, decide (x.w.day = x.day)), ⟨rfl, rfl, rfl, trivial⟩, M6, hW, by rw [hE]; simp only [q0, Bool.true_and]⟩
    have k3 : ¬ x.kind = 3 := k3
    refine brE_dec (fun k4 => ?_) (fun k4 => ?_)
    · have k4 : x.kind = 4 := k4
      have hE : okE x = (inB x.w.id 1 500) := by unfold okE; rw [if_neg k1, if_neg k2, if_neg k3, if_pos k4]
      have hW : (⟨x.kind, x.day, { waivZ with id := x.w.id }, giftZ, 0, 0, 0⟩ : Entry) = wantE x := by unfold wantE; rw [if_neg (fun e => e.elim k1 k2), if_neg k3, if_pos k4]
      refine ⟨_, M3.cell 1 rfl rfl, ?_⟩
      refine ⟨rfl, _, _, M3.get 0 rfl, Nat.le_of_ble_eq_true rfl, rfl, ?_⟩
      intro w4 h4
      have M5 : Mem w w4 [(g3, .cells (⟨x.kind, x.day, { waivZ with id := x.w.id }, giftZ, 0, 0, 0⟩ : Entry).cells.toArray 39 (0, 0)), (g1, .cells x.cells.toArray 39 (0, 0))] := M3.put 0 rfl h4
      refine ⟨_, M5.cell 1 rfl rfl, ?_⟩
      refine (in_spec x.w.id 1 500 _).mono ?_
      rintro _ w9 ⟨rfl, rfl⟩
      exact ⟨(_, inB x.w.id 1 500), ⟨rfl, rfl, rfl, trivial⟩, M5, hW, by rw [hE]⟩
    have k4 : ¬ x.kind = 4 := k4
    refine brE_dec (fun k5 => ?_) (fun k5 => ?_)
    · have k5 : x.kind = 5 := k5
      have hE : okE x = (rightG x.g && decide (x.g.day = x.day)) := by unfold okE; rw [if_neg k1, if_neg k2, if_neg k3, if_neg k4, if_pos k5]
      have hW : (⟨x.kind, x.day, waivZ, plainG x.g, 0, 0, 0⟩ : Entry) = wantE x := by unfold wantE; rw [if_neg (fun e => e.elim k1 k2), if_neg k3, if_neg k4, if_pos k5]
      rw [rightG_day] at hE
      refine ⟨x.g.cells, rfl, (M3.rd 1 rfl).part x.g_part, ?_⟩
      intro g5 w4 h4
      have M4 := M3.alloc h4
      refine ⟨rfl, _, _, M4.get 0 rfl, Nat.le_of_ble_eq_true rfl, rfl, ?_⟩
      intro w5 h5
      have M5 : Mem w w5 [(g5, .cells x.g.cells.toArray 37 (0, 0)), (g3, .cells (⟨x.kind, x.day, waivZ, giftZ, 0, 0, 0⟩ : Entry).cells.toArray 39 (0, 0)), (g1, .cells x.cells.toArray 39 (0, 0))] := M4.put 0 rfl h5
      clear M4 h4 h5
      refine ⟨_, M5.cell 0 rfl rfl, ?_⟩
      refine ⟨_, M5.cell 0 rfl rfl, ?_⟩
      refine ⟨_, M5.cell 0 rfl rfl, ?_⟩
      refine ⟨_, M5.cell 0 rfl rfl, ?_⟩
      refine ⟨_, M5.cell 0 rfl rfl, ?_⟩
      refine ⟨_, M5.cell 0 rfl rfl, ?_⟩
      refine ⟨_, M5.cell 0 rfl rfl, ?_⟩
      refine ⟨rfl, _, _, M5.get 1 rfl, Nat.le_of_ble_eq_true rfl, rfl, ?_⟩
      intro w6 h6
      have M6 : Mem w w6 [(g5, .cells x.g.cells.toArray 37 (0, 0)), (g3, .cells (⟨x.kind, x.day, waivZ, plainG x.g, 0, 0, 0⟩ : Entry).cells.toArray 39 (0, 0)), (g1, .cells x.cells.toArray 39 (0, 0))] := M5.put 1 rfl h6
      have M7 : Mem w w6 [(g3, .cells (⟨x.kind, x.day, waivZ, plainG x.g, 0, 0, 0⟩ : Entry).cells.toArray 39 (0, 0)), (g1, .cells x.cells.toArray 39 (0, 0))] := M6.tail
      have hI : idsG x.g = (inB x.g.id 1 500 && idB x.g.frm && idB x.g.to && !decide (x.g.frm = x.g.to) && inB x.g.returns 0 500 && !decide (x.g.returns = x.g.id)) := rfl
      rw [hI] at hE
      refine ⟨_, M6.cell 0 rfl rfl, ?_⟩
      refine (in_spec x.g.id 1 500 _).mono ?_
      rintro _ w9 ⟨rfl, rfl⟩
      refine brE_mk (fun q => ?_) (fun q => ⟨(_, false), ⟨rfl, rfl, rfl, trivial⟩, M7, hW, by rw [hE, show inB x.g.id 1 500 = false from q]; simp only [Bool.and_false, Bool.false_and]⟩)
      have q0 : inB x.g.id 1 500 = true := q
      refine ⟨_, M6.cell 0 rfl rfl, ?_⟩
      refine (isId_spec x.g.frm _).mono ?_
      rintro _ w9 ⟨rfl, rfl⟩
      refine brE_mk (fun q => ?_) (fun q => ⟨(_, false), ⟨rfl, rfl, rfl, trivial⟩, M7, hW, by rw [hE, show idB x.g.frm = false from q]; simp only [Bool.and_false, Bool.false_and]⟩)
      have q1 : idB x.g.frm = true := q
      refine ⟨_, M6.cell 0 rfl rfl, ?_⟩
      refine (isId_spec x.g.to _).mono ?_
      rintro _ w9 ⟨rfl, rfl⟩
      refine brE_mk (fun q => ?_) (fun q => ⟨(_, false), ⟨rfl, rfl, rfl, trivial⟩, M7, hW, by rw [hE, show idB x.g.to = false from q]; simp only [Bool.and_false, Bool.false_and]⟩)
      have q2 : idB x.g.to = true := q
      refine ⟨_, M6.cell 0 rfl rfl, ?_⟩
      refine ⟨_, M6.cell 0 rfl rfl, ?_⟩
      refine brE_mk (fun q => ?_) (fun q => ⟨(_, false), ⟨rfl, rfl, rfl, trivial⟩, M7, hW, by rw [hE, show (!decide (x.g.frm = x.g.to)) = false from q]; simp only [Bool.and_false, Bool.false_and]⟩)
      have q3 : (!decide (x.g.frm = x.g.to)) = true := q
      refine ⟨_, M6.cell 0 rfl rfl, ?_⟩
      refine (in_spec x.g.returns 0 500 _).mono ?_
      rintro _ w9 ⟨rfl, rfl⟩
      refine brE_mk (fun q => ?_) (fun q => ⟨(_, false), ⟨rfl, rfl, rfl, trivial⟩, M7, hW, by rw [hE, show inB x.g.returns 0 500 = false from q]; simp only [Bool.and_false, Bool.false_and]⟩)
      have q4 : inB x.g.returns 0 500 = true := q
      refine ⟨_, M6.cell 0 rfl rfl, ?_⟩
      refine ⟨_, M6.cell 0 rfl rfl, ?_⟩
      refine brE_mk (fun q => ?_) (fun q => ⟨(_, false), ⟨rfl, rfl, rfl, trivial⟩, M7, hW, by rw [hE, show (!decide (x.g.returns = x.g.id)) = false from q]; simp only [Bool.and_false, Bool.false_and]⟩)
      have q5 : (!decide (x.g.returns = x.g.id)) = true := q
      refine ⟨_, M6.cell 0 rfl rfl, ?_⟩
      refine ⟨_, M6.cell 2 rfl rfl, ?_⟩
      refine brE_mk (fun q => ?_) (fun q => ⟨(_, false), ⟨rfl, rfl, rfl, trivial⟩, M7, hW, by rw [hE, show decide (x.g.day = x.day) = false from q]; simp only [Bool.and_false, Bool.false_and]⟩)
      have q6 : decide (x.g.day = x.day) = true := q
      refine ⟨_, M6.cell 0 rfl rfl, ?_⟩
      refine ⟨_, fit ⟨by have := hx.g.cur; omega, by have := hx.g.cur; omega⟩, ?_⟩
      refine (in_spec x.g.cur 1 2 _).mono ?_
      rintro _ w9 ⟨rfl, rfl⟩
      refine brE_mk (fun q => ?_) (fun q => ⟨(_, false), ⟨rfl, rfl, rfl, trivial⟩, M7, hW, by rw [hE, show inB x.g.cur 1 2 = false from q]; simp only [Bool.and_false, Bool.false_and]⟩)
      have q7 : inB x.g.cur 1 2 = true := q
      refine ⟨_, M6.cell 0 rfl rfl, ?_⟩
      refine (in_spec x.g.n 1 1000000 _).mono ?_
      rintro _ w9 ⟨rfl, rfl⟩
      exact ⟨(_, inB x.g.n 1 1000000), ⟨rfl, rfl, rfl, trivial⟩, M7, hW, by rw [hE]; simp only [q0, q1, q2, q3, q4, q5, q6, q7, Bool.true_and]⟩
    have k5 : ¬ x.kind = 5 := k5
    refine brE_dec (fun k6 => ?K6) (fun k6 => ?N6)
    case' K6 =>
      have hk : x.kind = 6 ∨ x.kind = 7 := .inl k6
      refine brE_true (decide_eq_true k6) ?_
    case' N6 =>
      have k6 : ¬ x.kind = 6 := k6
      refine brE_dec (fun k7 => ?K7) (fun k7 => ?N7)
      case' K7 =>
        have hk : x.kind = 6 ∨ x.kind = 7 := .inr k7
      case' N7 =>
        have k7 : ¬ x.kind = 7 := k7
        exact ⟨(⟨x.kind, x.day, waivZ, giftZ, 0, 0, 0⟩, false), ⟨rfl, rfl, rfl, trivial⟩, M3, by unfold wantE; rw [if_neg (fun e => e.elim k1 k2), if_neg k3, if_neg k4, if_neg k5, if_neg (fun e => e.elim k6 k7)], by unfold okE; rw [if_neg k1, if_neg k2, if_neg k3, if_neg k4, if_neg k5, if_neg (fun e => e.elim k6 k7)]⟩
    all_goals
      have hW : (⟨x.kind, x.day, waivZ, { giftZ with id := x.g.id }, 0, 0, 0⟩ : Entry) = wantE x := by unfold wantE; rw [if_neg (fun e => e.elim k1 k2), if_neg k3, if_neg k4, if_neg k5, if_pos hk]
      refine ⟨_, M3.cell 1 rfl rfl, ?_⟩
      refine ⟨rfl, _, _, M3.get 0 rfl, Nat.le_of_ble_eq_true rfl, rfl, ?_⟩
      intro w4 h4
      have M5 : Mem w w4 [(g3, .cells (⟨x.kind, x.day, waivZ, { giftZ with id := x.g.id }, 0, 0, 0⟩ : Entry).cells.toArray 39 (0, 0)), (g1, .cells x.cells.toArray 39 (0, 0))] := M3.put 0 rfl h4
      refine ⟨_, M5.cell 1 rfl rfl, ?_⟩
      refine (in_spec x.g.id 1 500 _).mono ?_
      rintro _ w9 ⟨rfl, rfl⟩
      exact ⟨(_, inB x.g.id 1 500), ⟨rfl, rfl, rfl, trivial⟩, M5, hW, by unfold okE; rw [if_neg k1, if_neg k2, if_neg k3, if_neg k4, if_neg k5, if_pos hk]⟩
  rintro ⟨y, ok⟩ w4 ⟨M4, hy, hok⟩
  have hy : y = wantE x := hy
  have hok : ok = okE x := hok
  refine Snd.fin C_ok (plans := plans107) (by kernel_rfl) ?_
  have hE : formX x = (ok && decide (x = y) && inB x.day 0 100000) := by rw [hok, hy]; rfl
  refine brE_mk (fun q => ?_) (fun q => ⟨congrArg Value.bool (by rw [hE, show ok = false from q]; rfl), M4.ext⟩)
  have q0 : ok = true := q
  refine ⟨x.cells, rfl, M4.rd 1 rfl, ?_⟩
  refine ⟨y.cells, rfl, M4.rd 0 rfl, ?_⟩
  refine ⟨_, eqE _ _ x y, ?_⟩
  refine brE_mk (fun q => ?_) (fun q => ⟨congrArg Value.bool (by rw [hE, show decide (x = y) = false from q]; simp only [Bool.and_false, Bool.false_and]), M4.ext⟩)
  have q1 : decide (x = y) = true := q
  refine ⟨_, M4.cell 1 rfl rfl, ?_⟩
  refine (in_spec x.day 0 100000 _).mono ?_
  rintro _ w9 ⟨rfl, rfl⟩
  exact ⟨congrArg Value.bool (by rw [hE, q0, q1]; rfl), M4.ext⟩

end Go.Proofs.YtcnbpfecgokhiaaGreatDoor
