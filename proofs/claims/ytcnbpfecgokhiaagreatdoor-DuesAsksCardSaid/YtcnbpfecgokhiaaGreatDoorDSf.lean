/- a part of the proof: steps, walks and plain laws that the law below stands on; no condition. -/
import Derived.Test.YtcnbpfecgokhiaaGreatDoorDSa
import Derived.Test.YtcnbpfecgokhiaaGreatDoorDSb
import Derived.Test.YtcnbpfecgokhiaaGreatDoorDSc
import Derived.Test.YtcnbpfecgokhiaaGreatDoorDSd
import Derived.Test.YtcnbpfecgokhiaaGreatDoorDSe
import Derived.Scope
import Derived.Laws.StructEq
set_option linter.unusedVariables false
set_option linter.unusedSimpArgs false
set_option linter.unnecessarySimpa false
set_option linter.unusedSectionVars false
namespace Go.Proofs.YtcnbpfecgokhiaaGreatDoor
open Go.Eng Go.RowKit
theorem of_not_true {b : Bool} (h : (!b) = true) : b = false := by cases b with | true => cases h | false => rfl
theorem of_not_false {b : Bool} (h : (!b) = false) : b = true := by cases b with | true => rfl | false => cases h
set_option maxRecDepth 100000 in
theorem valid_spec (x : Waiv) (w : World) : CallsV C.P 94 #[x.val] w fun v w' => v = .bool (rightW x) ∧ Ext w w' := by
  have hids : ∀ {b : Bool}, b = idsW x → b = false → rightW x = false := fun h1 h2 => by rw [rightW_parts, ← h1, h2]; simp only [Bool.false_and]
  have hday : inB x.day 0 100000 = false → rightW x = false := fun h => by rw [rightW_parts, h]; simp only [Bool.and_false, Bool.false_and]
  have hgue : guestsW x = false → rightW x = false := fun h => by rw [rightW_parts, h]; simp only [Bool.and_false, Bool.false_and]
  have hI : idsW x = (inB x.id 1 500 && idB x.signer && idB x.giver && idB x.taker && !decide (x.giver = x.taker)) := rfl
  refine callsV_ofS (args := [_]) Tryz.func94 rfl Tryz.ntmps94 C_ok (Nat.le_of_ble_eq_true rfl) ?_
  refine Snd.go C_ok [] (by kernel_rfl) ?_
  intro g1 w1 h1
  have M1 : Mem w w1 [(g1, .cells x.cells.toArray 35 (0, 0))] := (Mem.start w).alloc h1
  refine ⟨Snd.go C_ok [] (by kernel_rfl) ?_⟩
  refine ⟨_, M1.cell 0 rfl rfl, ?_⟩
  refine (within6_spec x.id 1 500 _).mono ?_
  rintro _ w9 ⟨rfl, rfl⟩
  refine brE_mk (fun q => ⟨congrArg Value.bool (by have h : inB x.id 1 500 = false := of_not_true q; exact (hids (b := idsW x) rfl (by rw [hI, h]; simp only [Bool.and_false, Bool.false_and])).symm), M1.ext⟩) (fun q => ?_)
  have q0 : inB x.id 1 500 = true := of_not_false q
  refine ⟨_, M1.cell 0 rfl rfl, ?_⟩
  refine (within6_spec x.day 0 100000 _).mono ?_
  rintro _ w9 ⟨rfl, rfl⟩
  refine brE_mk (fun q => ⟨congrArg Value.bool (by have h : inB x.day 0 100000 = false := of_not_true q; exact (hday h).symm), M1.ext⟩) (fun q => ?_)
  have q1 : inB x.day 0 100000 = true := of_not_false q
  refine ⟨_, M1.cell 0 rfl rfl, ?_⟩
  refine (id6_spec x.signer _).mono ?_
  rintro _ w9 ⟨rfl, rfl⟩
  refine brE_mk (fun q => ⟨congrArg Value.bool (by have h : idB x.signer = false := of_not_true q; exact (hids (b := idsW x) rfl (by rw [hI, h]; simp only [Bool.and_false, Bool.false_and])).symm), M1.ext⟩) (fun q => ?_)
  have q2 : idB x.signer = true := of_not_false q
  refine ⟨_, M1.cell 0 rfl rfl, ?_⟩
  refine (id6_spec x.giver _).mono ?_
  rintro _ w9 ⟨rfl, rfl⟩
  refine brE_mk (fun q => ⟨congrArg Value.bool (by have h : idB x.giver = false := of_not_true q; exact (hids (b := idsW x) rfl (by rw [hI, h]; simp only [Bool.and_false, Bool.false_and])).symm), M1.ext⟩) (fun q => ?_)
  have q3 : idB x.giver = true := of_not_false q
  refine ⟨_, M1.cell 0 rfl rfl, ?_⟩
  refine (id6_spec x.taker _).mono ?_
  rintro _ w9 ⟨rfl, rfl⟩
  refine brE_mk (fun q => ⟨congrArg Value.bool (by have h : idB x.taker = false := of_not_true q; exact (hids (b := idsW x) rfl (by rw [hI, h]; simp only [Bool.and_false, Bool.false_and])).symm), M1.ext⟩) (fun q => ?_)
  have q4 : idB x.taker = true := of_not_false q
  refine ⟨_, M1.cell 0 rfl rfl, ?_⟩
  refine ⟨_, M1.cell 0 rfl rfl, ?_⟩
  refine brE_dec (fun q => ⟨congrArg Value.bool (by have h : decide (x.giver = x.taker) = true := decide_eq_true q; exact (hids (b := idsW x) rfl (by rw [hI, h]; simp only [Bool.not_true, Bool.and_false])).symm), M1.ext⟩) (fun q => ?_)
  have q5 : decide (x.giver = x.taker) = false := decide_eq_false q
  have hI1 : idsW x = true := by rw [hI, q0, q2, q3, q4, q5]; rfl
  refine ⟨Snd.join C_ok [] (fun _ : Unit => [(1, .pointer (some ⟨g1, 0, none⟩))]) (fun _ w' => w' = w9 ∧ guestsW x = true) (by kernel_rfl) ?_ ?_⟩
  · have hE : guestsW x = (persB x.under && persB x.over && (decide (x.under = 0) || !decide (x.under = x.over))) := rfl
    refine ⟨_, M1.cell 0 rfl rfl, ?_⟩
    have both : ∀ (u : Bool), decide (x.under = 0) = u → persB x.under = true → True := fun _ _ _ => trivial
    refine brE_ndec (fun u => ?_) (fun u => ?_)
    · have u : ¬ x.under = 0 := u
      refine ⟨_, M1.cell 0 rfl rfl, ?_⟩
      refine (id6_spec x.under _).mono ?_
      rintro _ w8 ⟨rfl, rfl⟩
      refine brE_mk (fun q => ⟨congrArg Value.bool (by have h : idB x.under = false := of_not_true q; exact (hgue (by rw [hE]; unfold persB; rw [h, decide_eq_false u]; simp only [Bool.or_false, Bool.and_false, Bool.false_and])).symm), M1.ext⟩) (fun q => ?_)
      have hu : persB x.under = true := by unfold persB; rw [show idB x.under = true from of_not_false q, Bool.or_true]
      refine ⟨_, M1.cell 0 rfl rfl, ?_⟩
      refine brE_ndec (fun o => ?_) (fun o => ?_)
      · have o : ¬ x.over = 0 := o
        refine ⟨_, M1.cell 0 rfl rfl, ?_⟩
        refine (id6_spec x.over _).mono ?_
        rintro _ w8 ⟨rfl, rfl⟩
        refine brE_mk (fun q => ⟨congrArg Value.bool (by have h : idB x.over = false := of_not_true q; exact (hgue (by rw [hE]; unfold persB; rw [h, decide_eq_false o]; simp only [Bool.or_false, Bool.and_false, Bool.false_and])).symm), M1.ext⟩) (fun q => ?_)
        have ho : persB x.over = true := by unfold persB; rw [show idB x.over = true from of_not_false q, Bool.or_true]
        refine ⟨_, M1.cell 0 rfl rfl, ?_⟩
        refine brE_ndec (fun u2 => ?_) (fun u2 => ?_)
        · have u2 : ¬ x.under = 0 := u2
          refine ⟨_, M1.cell 0 rfl rfl, ?_⟩
          refine ⟨_, M1.cell 0 rfl rfl, ?_⟩
          refine brE_dec (fun q => ⟨congrArg Value.bool (hgue (by rw [hE, decide_eq_true (show x.under = x.over from q), decide_eq_false u2]; simp only [Bool.not_true, Bool.or_false, Bool.and_false])).symm, M1.ext⟩) (fun q => ?_)
          exact ⟨(), ⟨rfl, trivial⟩, rfl, by rw [hE, hu, ho, decide_eq_false (show ¬ x.under = x.over from q), Bool.not_false, Bool.or_true]; rfl⟩
        · have u2 : x.under = 0 := u2
          exact ⟨(), ⟨rfl, trivial⟩, rfl, by rw [hE, hu, ho, decide_eq_true u2]; rfl⟩
      · have o : x.over = 0 := o
        have ho : persB x.over = true := by unfold persB; rw [decide_eq_true o]; rfl
        refine ⟨_, M1.cell 0 rfl rfl, ?_⟩
        refine brE_ndec (fun u2 => ?_) (fun u2 => ?_)
        · have u2 : ¬ x.under = 0 := u2
          refine ⟨_, M1.cell 0 rfl rfl, ?_⟩
          refine ⟨_, M1.cell 0 rfl rfl, ?_⟩
          refine brE_dec (fun q => ⟨congrArg Value.bool (hgue (by rw [hE, decide_eq_true (show x.under = x.over from q), decide_eq_false u2]; simp only [Bool.not_true, Bool.or_false, Bool.and_false])).symm, M1.ext⟩) (fun q => ?_)
          exact ⟨(), ⟨rfl, trivial⟩, rfl, by rw [hE, hu, ho, decide_eq_false (show ¬ x.under = x.over from q), Bool.not_false, Bool.or_true]; rfl⟩
        · have u2 : x.under = 0 := u2
          exact ⟨(), ⟨rfl, trivial⟩, rfl, by rw [hE, hu, ho, decide_eq_true u2]; rfl⟩
    · have u : x.under = 0 := u
      have hu : persB x.under = true := by unfold persB; rw [decide_eq_true u]; rfl
      refine ⟨_, M1.cell 0 rfl rfl, ?_⟩
      refine brE_ndec (fun o => ?_) (fun o => ?_)
      · have o : ¬ x.over = 0 := o
        refine ⟨_, M1.cell 0 rfl rfl, ?_⟩
        refine (id6_spec x.over _).mono ?_
        rintro _ w8 ⟨rfl, rfl⟩
        refine brE_mk (fun q => ⟨congrArg Value.bool (by have h : idB x.over = false := of_not_true q; exact (hgue (by rw [hE]; unfold persB; rw [h, decide_eq_false o]; simp only [Bool.or_false, Bool.and_false, Bool.false_and])).symm), M1.ext⟩) (fun q => ?_)
        have ho : persB x.over = true := by unfold persB; rw [show idB x.over = true from of_not_false q, Bool.or_true]
        refine ⟨_, M1.cell 0 rfl rfl, ?_⟩
        refine brE_ndec (fun u2 => ?_) (fun u2 => ?_)
        · have u2 : ¬ x.under = 0 := u2
          refine ⟨_, M1.cell 0 rfl rfl, ?_⟩
          refine ⟨_, M1.cell 0 rfl rfl, ?_⟩
          refine brE_dec (fun q => ⟨congrArg Value.bool (hgue (by rw [hE, decide_eq_true (show x.under = x.over from q), decide_eq_false u2]; simp only [Bool.not_true, Bool.or_false, Bool.and_false])).symm, M1.ext⟩) (fun q => ?_)
          exact ⟨(), ⟨rfl, trivial⟩, rfl, by rw [hE, hu, ho, decide_eq_false (show ¬ x.under = x.over from q), Bool.not_false, Bool.or_true]; rfl⟩
        · have u2 : x.under = 0 := u2
          exact ⟨(), ⟨rfl, trivial⟩, rfl, by rw [hE, hu, ho, decide_eq_true u2]; rfl⟩
      · have o : x.over = 0 := o
        have ho : persB x.over = true := by unfold persB; rw [decide_eq_true o]; rfl
        refine ⟨_, M1.cell 0 rfl rfl, ?_⟩
        refine brE_ndec (fun u2 => ?_) (fun u2 => ?_)
        · have u2 : ¬ x.under = 0 := u2
          refine ⟨_, M1.cell 0 rfl rfl, ?_⟩
          refine ⟨_, M1.cell 0 rfl rfl, ?_⟩
          refine brE_dec (fun q => ⟨congrArg Value.bool (hgue (by rw [hE, decide_eq_true (show x.under = x.over from q), decide_eq_false u2]; simp only [Bool.not_true, Bool.or_false, Bool.and_false])).symm, M1.ext⟩) (fun q => ?_)
          exact ⟨(), ⟨rfl, trivial⟩, rfl, by rw [hE, hu, ho, decide_eq_false (show ¬ x.under = x.over from q), Bool.not_false, Bool.or_true]; rfl⟩
        · have u2 : x.under = 0 := u2
          exact ⟨(), ⟨rfl, trivial⟩, rfl, by rw [hE, hu, ho, decide_eq_true u2]; rfl⟩
  rintro _ w8 ⟨rfl, hG⟩
  have hE : rightW x = (decide (x.day ≤ x.since) && decide (x.since < x.til) && decide (x.til ≤ 100000)) := by rw [rightW_parts, hI1, hG, q1]; simp only [Bool.true_and]
  refine Snd.fin C_ok (plans := []) (by kernel_rfl) ?_
  refine ⟨_, M1.cell 0 rfl rfl, ?_⟩
  refine ⟨_, M1.cell 0 rfl rfl, ?_⟩
  refine brE_mk (fun q => ?_) (fun q => ⟨congrArg Value.bool (by rw [hE, show decide (x.day ≤ x.since) = false from q]; simp only [Bool.and_false, Bool.false_and]), M1.ext⟩)
  have q0 : decide (x.day ≤ x.since) = true := q
  refine ⟨_, M1.cell 0 rfl rfl, ?_⟩
  refine ⟨_, M1.cell 0 rfl rfl, ?_⟩
  refine brE_mk (fun q => ?_) (fun q => ⟨congrArg Value.bool (by rw [hE, show decide (x.since < x.til) = false from q]; simp only [Bool.and_false, Bool.false_and]), M1.ext⟩)
  have q1 : decide (x.since < x.til) = true := q
  refine ⟨_, M1.cell 0 rfl rfl, ?_⟩
  exact ⟨congrArg Value.bool (by rw [hE]; simp only [q0, q1, Bool.true_and]), M1.ext⟩
theorem okE_5 {x : Entry} (h5 : x.kind = 5) : okE x = (rightG x.g && decide (x.g.day = x.day)) := by
  unfold okE; rw [if_neg (by omega), if_neg (by omega), if_neg (by omega), if_neg (by omega), if_pos h5]
theorem form_5 {x : Entry} (h5 : x.kind = 5) : (okE x && decide (x = wantE x)) = (decide (x = ⟨x.kind, x.day, waivZ, { plainG x.g with day := x.day }, 0, 0, 0⟩) && inB x.g.id 1 500 && idB x.g.frm && idB x.g.to && !decide (x.g.frm = x.g.to) && inB x.g.cur 1 2 && inB x.g.n 1 1000000 && inB x.g.returns 0 500 && !decide (x.g.returns = x.g.id)) := by
  have hW : wantE x = ⟨x.kind, x.day, waivZ, plainG x.g, 0, 0, 0⟩ := by unfold wantE; rw [if_neg (by omega), if_neg (by omega), if_neg (by omega), if_pos h5]
  rw [okE_5 h5, hW]
  have hd : decide (x = ⟨x.kind, x.day, waivZ, { plainG x.g with day := x.day }, 0, 0, 0⟩) = (decide (x.g.day = x.day) && decide (x = ⟨x.kind, x.day, waivZ, plainG x.g, 0, 0, 0⟩)) := by
    rw [Bool.eq_iff_iff, Bool.and_eq_true, decide_eq_true_eq, decide_eq_true_eq, decide_eq_true_eq]
    constructor
    · intro h
      have h1 : x.g.day = x.day := congrArg (fun e => e.g.day) h
      refine ⟨h1, ?_⟩
      have : plainG x.g = { plainG x.g with day := x.day } := by rw [← h1]; rfl
      rw [this]; exact h
    · rintro ⟨h1, h⟩
      have : plainG x.g = { plainG x.g with day := x.day } := by rw [← h1]; rfl
      rw [this] at h; exact h
  rw [hd]
  unfold rightG
  generalize decide (x.g.day = x.day) = a0
  generalize decide (x = ⟨x.kind, x.day, waivZ, plainG x.g, 0, 0, 0⟩) = a1
  generalize inB x.g.id 1 500 = a2
  generalize idB x.g.frm = a3
  generalize idB x.g.to = a4
  generalize (!decide (x.g.frm = x.g.to)) = a5
  generalize inB x.g.cur 1 2 = a6
  generalize inB x.g.n 1 1000000 = a7
  generalize inB x.g.returns 0 500 = a8
  generalize (!decide (x.g.returns = x.g.id)) = a9
  revert a0 a1 a2 a3 a4 a5 a6 a7 a8 a9
  decide
set_option maxRecDepth 100000 in
set_option maxHeartbeats 4000000 in
theorem formed6_spec (x : Entry) (hx : x.Nums) (w : World) : CallsV C.P 99 #[x.val] w fun v w' => v = .bool (formX x) ∧ Ext w w' := by
  refine callsV_ofS (args := [_]) Tryz.func99 rfl Tryz.ntmps99 C_ok (Nat.le_of_ble_eq_true rfl) ?_
  refine Snd.go C_ok [] (by kernel_rfl) ?_
  intro g1 w1 h1
  have M1 : Mem w w1 [(g1, .cells x.cells.toArray 39 (0, 0))] := (Mem.start w).alloc h1
  refine ⟨Snd.go C_ok [] (by kernel_rfl) ?_⟩
  refine ⟨_, M1.cell 0 rfl rfl, ?_⟩
  refine (within6_spec x.day 0 100000 _).mono ?_
  rintro _ w1' ⟨rfl, rfl⟩
  refine brE_mk (fun q => ⟨congrArg Value.bool (by have h : inB x.day 0 100000 = false := of_not_true q; unfold formX; rw [show dayB x.day = false from h]; simp only [Bool.and_false]), M1.ext⟩) (fun q => ?_)
  have hdy : dayB x.day = true := of_not_false q
  have hF : formX x = (okE x && decide (x = wantE x)) := by unfold formX; rw [hdy, Bool.and_true]
  refine ⟨Snd.go C_ok [] (by kernel_rfl) ?_⟩
  refine ⟨_, M1.cell 0 rfl rfl, ?_⟩
  refine ⟨_, M1.cell 0 rfl rfl, ?_⟩
  intro g3 w2 h2
  have M2 := M1.alloc h2
  refine ⟨rfl, _, _, M2.get 0 rfl, Nat.le_of_ble_eq_true rfl, rfl, ?_⟩
  intro w3 h3
  have M3 : Mem w w3 [(g3, .cells (⟨x.kind, x.day, waivZ, giftZ, 0, 0, 0⟩ : Entry).cells.toArray 39 (0, 0)), (g1, .cells x.cells.toArray 39 (0, 0))] := M2.put 0 rfl h3
  clear M1 M2 h1 h2 h3
  refine ⟨Snd.fin C_ok (plans := []) (by kernel_rfl) ?_⟩
  refine ⟨_, M3.cell 1 rfl rfl, ?_⟩
  refine brE_dec (fun k1 => ?_) (fun k1 => ?_)
  · have k1 : x.kind = 1 := k1
    have hW : wantE x = (⟨x.kind, x.day, waivZ, giftZ, x.a, 0, x.n⟩ : Entry) := by unfold wantE; rw [if_pos (.inl k1)]
    have hE : formX x = (decide (x = (⟨x.kind, x.day, waivZ, giftZ, x.a, 0, x.n⟩ : Entry)) && inB x.a 1 2 && inB x.n 1 1000000) := by rw [hF, hW]; unfold okE; rw [if_pos k1, Bool.and_comm]; simp only [Bool.and_assoc]
    refine ⟨_, M3.cell 1 rfl rfl, ?_⟩
    refine ⟨rfl, _, _, M3.get 0 rfl, Nat.le_of_ble_eq_true rfl, rfl, ?_⟩
    intro w4 h4
    have M4 := M3.put 0 rfl h4
    refine ⟨_, M4.cell 1 rfl rfl, ?_⟩
    refine ⟨rfl, _, _, M4.get 0 rfl, Nat.le_of_ble_eq_true rfl, rfl, ?_⟩
    intro w5 h5
    have M5 : Mem w w5 [(g3, .cells (⟨x.kind, x.day, waivZ, giftZ, x.a, 0, x.n⟩ : Entry).cells.toArray 39 (0, 0)), (g1, .cells x.cells.toArray 39 (0, 0))] := M4.put 0 rfl h5
    refine ⟨x.cells, rfl, M5.rd 1 rfl, ?_⟩
    refine ⟨(⟨x.kind, x.day, waivZ, giftZ, x.a, 0, x.n⟩ : Entry).cells, rfl, M5.rd 0 rfl, ?_⟩
    refine ⟨_, eqE _ _ x ⟨x.kind, x.day, waivZ, giftZ, x.a, 0, x.n⟩, ?_⟩
    refine brE_mk (fun q => ?_) (fun q => ⟨congrArg Value.bool (by rw [hE, show decide (x = (⟨x.kind, x.day, waivZ, giftZ, x.a, 0, x.n⟩ : Entry)) = false from q]; simp only [Bool.and_false, Bool.false_and]), M5.ext⟩)
    have q0 : decide (x = (⟨x.kind, x.day, waivZ, giftZ, x.a, 0, x.n⟩ : Entry)) = true := q
    refine ⟨_, M5.cell 1 rfl rfl, ?_⟩
    refine (within6_spec x.a 1 2 _).mono ?_
    rintro _ w9 ⟨rfl, rfl⟩
    refine brE_mk (fun q => ?_) (fun q => ⟨congrArg Value.bool (by rw [hE, show inB x.a 1 2 = false from q]; simp only [Bool.and_false, Bool.false_and]), M5.ext⟩)
    have q1 : inB x.a 1 2 = true := q
    refine ⟨_, M5.cell 1 rfl rfl, ?_⟩
    refine (within6_spec x.n 1 1000000 _).mono ?_
    rintro _ w9 ⟨rfl, rfl⟩
    exact ⟨congrArg Value.bool (by rw [hE]; simp only [q0, q1, Bool.true_and]), M5.ext⟩
  have k1 : ¬ x.kind = 1 := k1
  refine brE_dec (fun k2 => ?_) (fun k2 => ?_)
  · have k2 : x.kind = 2 := k2
    have hW : wantE x = (⟨x.kind, x.day, waivZ, giftZ, x.a, 0, x.n⟩ : Entry) := by unfold wantE; rw [if_pos (.inr k2)]
    have hE : formX x = (decide (x = (⟨x.kind, x.day, waivZ, giftZ, x.a, 0, x.n⟩ : Entry)) && idB x.a && inB x.n 1 1000000000000) := by rw [hF, hW]; unfold okE; rw [if_neg k1, if_pos k2, Bool.and_comm]; simp only [Bool.and_assoc]
    refine ⟨_, M3.cell 1 rfl rfl, ?_⟩
    refine ⟨rfl, _, _, M3.get 0 rfl, Nat.le_of_ble_eq_true rfl, rfl, ?_⟩
    intro w4 h4
    have M4 := M3.put 0 rfl h4
    refine ⟨_, M4.cell 1 rfl rfl, ?_⟩
    refine ⟨rfl, _, _, M4.get 0 rfl, Nat.le_of_ble_eq_true rfl, rfl, ?_⟩
    intro w5 h5
    have M5 : Mem w w5 [(g3, .cells (⟨x.kind, x.day, waivZ, giftZ, x.a, 0, x.n⟩ : Entry).cells.toArray 39 (0, 0)), (g1, .cells x.cells.toArray 39 (0, 0))] := M4.put 0 rfl h5
    refine ⟨x.cells, rfl, M5.rd 1 rfl, ?_⟩
    refine ⟨(⟨x.kind, x.day, waivZ, giftZ, x.a, 0, x.n⟩ : Entry).cells, rfl, M5.rd 0 rfl, ?_⟩
    refine ⟨_, eqE _ _ x ⟨x.kind, x.day, waivZ, giftZ, x.a, 0, x.n⟩, ?_⟩
    refine brE_mk (fun q => ?_) (fun q => ⟨congrArg Value.bool (by rw [hE, show decide (x = (⟨x.kind, x.day, waivZ, giftZ, x.a, 0, x.n⟩ : Entry)) = false from q]; simp only [Bool.and_false, Bool.false_and]), M5.ext⟩)
    have q0 : decide (x = (⟨x.kind, x.day, waivZ, giftZ, x.a, 0, x.n⟩ : Entry)) = true := q
    refine ⟨_, M5.cell 1 rfl rfl, ?_⟩
    refine (id6_spec x.a _).mono ?_
    rintro _ w9 ⟨rfl, rfl⟩
    refine brE_mk (fun q => ?_) (fun q => ⟨congrArg Value.bool (by rw [hE, show idB x.a = false from q]; simp only [Bool.and_false, Bool.false_and]), M5.ext⟩)
    have q1 : idB x.a = true := q
    refine ⟨_, M5.cell 1 rfl rfl, ?_⟩
    refine (within6_spec x.n 1 1000000000000 _).mono ?_
    rintro _ w9 ⟨rfl, rfl⟩
    exact ⟨congrArg Value.bool (by rw [hE]; simp only [q0, q1, Bool.true_and]), M5.ext⟩
  have k2 : ¬ x.kind = 2 := k2
  refine brE_dec (fun k3 => ?_) (fun k3 => ?_)
  · have k3 : x.kind = 3 := k3
    have hW : wantE x = (⟨x.kind, x.day, x.w, giftZ, 0, 0, 0⟩ : Entry) := by unfold wantE; rw [if_neg (fun e => e.elim k1 k2), if_pos k3]
    have hE : formX x = (decide (x = (⟨x.kind, x.day, x.w, giftZ, 0, 0, 0⟩ : Entry)) && rightW x.w && decide (x.w.day = x.day)) := by rw [hF, hW]; unfold okE; rw [if_neg k1, if_neg k2, if_pos k3, Bool.and_comm]; simp only [Bool.and_assoc]
    refine ⟨x.w.cells, rfl, (M3.rd 1 rfl).part x.w_part, ?_⟩
    refine ⟨rfl, _, _, M3.get 0 rfl, Nat.le_of_ble_eq_true rfl, rfl, ?_⟩
    intro w4 h4
    have M5 : Mem w w4 [(g3, .cells (⟨x.kind, x.day, x.w, giftZ, 0, 0, 0⟩ : Entry).cells.toArray 39 (0, 0)), (g1, .cells x.cells.toArray 39 (0, 0))] := M3.put 0 rfl h4
    refine ⟨x.cells, rfl, M5.rd 1 rfl, ?_⟩
    refine ⟨(⟨x.kind, x.day, x.w, giftZ, 0, 0, 0⟩ : Entry).cells, rfl, M5.rd 0 rfl, ?_⟩
    refine ⟨_, eqE _ _ x ⟨x.kind, x.day, x.w, giftZ, 0, 0, 0⟩, ?_⟩
    refine brE_mk (fun q => ?_) (fun q => ⟨congrArg Value.bool (by rw [hE, show decide (x = (⟨x.kind, x.day, x.w, giftZ, 0, 0, 0⟩ : Entry)) = false from q]; simp only [Bool.and_false, Bool.false_and]), M5.ext⟩)
    have q0 : decide (x = (⟨x.kind, x.day, x.w, giftZ, 0, 0, 0⟩ : Entry)) = true := q
    refine ⟨x.w.cells, rfl, (M5.rd 1 rfl).part x.w_part, ?_⟩
    refine (valid_spec x.w _).mono ?_
    rintro _ w9 ⟨rfl, e9⟩
    replace M5 := M5.grow e9
    refine brE_mk (fun q => ?_) (fun q => ⟨congrArg Value.bool (by rw [hE, show rightW x.w = false from q]; simp only [Bool.and_false, Bool.false_and]), M5.ext⟩)
    have q1 : rightW x.w = true := q
    refine ⟨_, M5.cell 1 rfl rfl, ?_⟩
    refine ⟨_, M5.cell 1 rfl rfl, ?_⟩
    exact ⟨congrArg Value.bool (by rw [hE]; simp only [q0, q1, Bool.true_and]), M5.ext⟩
  have k3 : ¬ x.kind = 3 := k3
  refine brE_dec (fun k4 => ?_) (fun k4 => ?_)
  · have k4 : x.kind = 4 := k4
    have hW : wantE x = (⟨x.kind, x.day, { waivZ with id := x.w.id }, giftZ, 0, 0, 0⟩ : Entry) := by unfold wantE; rw [if_neg (fun e => e.elim k1 k2), if_neg k3, if_pos k4]
    have hE : formX x = (decide (x = (⟨x.kind, x.day, { waivZ with id := x.w.id }, giftZ, 0, 0, 0⟩ : Entry)) && inB x.w.id 1 500) := by rw [hF, hW]; unfold okE; rw [if_neg k1, if_neg k2, if_neg k3, if_pos k4, Bool.and_comm]
    refine ⟨_, M3.cell 1 rfl rfl, ?_⟩
    refine ⟨rfl, _, _, M3.get 0 rfl, Nat.le_of_ble_eq_true rfl, rfl, ?_⟩
    intro w4 h4
    have M5 : Mem w w4 [(g3, .cells (⟨x.kind, x.day, { waivZ with id := x.w.id }, giftZ, 0, 0, 0⟩ : Entry).cells.toArray 39 (0, 0)), (g1, .cells x.cells.toArray 39 (0, 0))] := M3.put 0 rfl h4
    refine ⟨x.cells, rfl, M5.rd 1 rfl, ?_⟩
    refine ⟨(⟨x.kind, x.day, { waivZ with id := x.w.id }, giftZ, 0, 0, 0⟩ : Entry).cells, rfl, M5.rd 0 rfl, ?_⟩
    refine ⟨_, eqE _ _ x ⟨x.kind, x.day, { waivZ with id := x.w.id }, giftZ, 0, 0, 0⟩, ?_⟩
    refine brE_mk (fun q => ?_) (fun q => ⟨congrArg Value.bool (by rw [hE, show decide (x = (⟨x.kind, x.day, { waivZ with id := x.w.id }, giftZ, 0, 0, 0⟩ : Entry)) = false from q]; simp only [Bool.and_false, Bool.false_and]), M5.ext⟩)
    have q0 : decide (x = (⟨x.kind, x.day, { waivZ with id := x.w.id }, giftZ, 0, 0, 0⟩ : Entry)) = true := q
    refine ⟨_, M5.cell 1 rfl rfl, ?_⟩
    refine (within6_spec x.w.id 1 500 _).mono ?_
    rintro _ w9 ⟨rfl, rfl⟩
    exact ⟨congrArg Value.bool (by rw [hE]; simp only [q0, Bool.true_and]), M5.ext⟩
  have k4 : ¬ x.kind = 4 := k4
  refine brE_dec (fun k5 => ?_) (fun k5 => ?_)
  · have k5 : x.kind = 5 := k5
    have hE : formX x = (decide (x = (⟨x.kind, x.day, waivZ, { plainG x.g with day := x.day }, 0, 0, 0⟩ : Entry)) && inB x.g.id 1 500 && idB x.g.frm && idB x.g.to && (!decide (x.g.frm = x.g.to)) && inB x.g.cur 1 2 && inB x.g.n 1 1000000 && inB x.g.returns 0 500 && (!decide (x.g.returns = x.g.id))) := by rw [hF, form_5 k5]
    refine ⟨x.g.cells, rfl, (M3.rd 1 rfl).part x.g_part, ?_⟩
    intro g5 w4 h4
    have M4 := M3.alloc h4
    refine ⟨rfl, _, _, M4.get 0 rfl, Nat.le_of_ble_eq_true rfl, rfl, ?_⟩
    intro w5 h5
    have M5' : Mem w w5 [(g5, .cells x.g.cells.toArray 37 (0, 0)), (g3, .cells (⟨x.kind, x.day, waivZ, giftZ, 0, 0, 0⟩ : Entry).cells.toArray 39 (0, 0)), (g1, .cells x.cells.toArray 39 (0, 0))] := M4.put 0 rfl h5
    clear M4 h4 h5
    refine ⟨_, M5'.cell 0 rfl rfl, ?_⟩
    refine ⟨_, M5'.cell 2 rfl rfl, ?_⟩
    refine ⟨_, M5'.cell 0 rfl rfl, ?_⟩
    refine ⟨_, M5'.cell 0 rfl rfl, ?_⟩
    refine ⟨_, M5'.cell 0 rfl rfl, ?_⟩
    refine ⟨_, M5'.cell 0 rfl rfl, ?_⟩
    refine ⟨_, M5'.cell 0 rfl rfl, ?_⟩
    refine ⟨rfl, _, _, M5'.get 1 rfl, Nat.le_of_ble_eq_true rfl, rfl, ?_⟩
    intro w6 h6
    have M5 : Mem w w6 [(g5, .cells x.g.cells.toArray 37 (0, 0)), (g3, .cells (⟨x.kind, x.day, waivZ, { plainG x.g with day := x.day }, 0, 0, 0⟩ : Entry).cells.toArray 39 (0, 0)), (g1, .cells x.cells.toArray 39 (0, 0))] := M5'.put 1 rfl h6
    refine ⟨x.cells, rfl, M5.rd 2 rfl, ?_⟩
    refine ⟨(⟨x.kind, x.day, waivZ, { plainG x.g with day := x.day }, 0, 0, 0⟩ : Entry).cells, rfl, M5.rd 1 rfl, ?_⟩
    refine ⟨_, eqE _ _ x ⟨x.kind, x.day, waivZ, { plainG x.g with day := x.day }, 0, 0, 0⟩, ?_⟩
    refine brE_mk (fun q => ?_) (fun q => ⟨congrArg Value.bool (by rw [hE, show decide (x = (⟨x.kind, x.day, waivZ, { plainG x.g with day := x.day }, 0, 0, 0⟩ : Entry)) = false from q]; simp only [Bool.and_false, Bool.false_and]), M5.ext⟩)
    have q0 : decide (x = (⟨x.kind, x.day, waivZ, { plainG x.g with day := x.day }, 0, 0, 0⟩ : Entry)) = true := q
    refine ⟨_, M5.cell 0 rfl rfl, ?_⟩
    refine (within6_spec x.g.id 1 500 _).mono ?_
    rintro _ w9 ⟨rfl, rfl⟩
    refine brE_mk (fun q => ?_) (fun q => ⟨congrArg Value.bool (by rw [hE, show inB x.g.id 1 500 = false from q]; simp only [Bool.and_false, Bool.false_and]), M5.ext⟩)
    have q1 : inB x.g.id 1 500 = true := q
    refine ⟨_, M5.cell 0 rfl rfl, ?_⟩
    refine (id6_spec x.g.frm _).mono ?_
    rintro _ w9 ⟨rfl, rfl⟩
    refine brE_mk (fun q => ?_) (fun q => ⟨congrArg Value.bool (by rw [hE, show idB x.g.frm = false from q]; simp only [Bool.and_false, Bool.false_and]), M5.ext⟩)
    have q2 : idB x.g.frm = true := q
    refine ⟨_, M5.cell 0 rfl rfl, ?_⟩
    refine (id6_spec x.g.to _).mono ?_
    rintro _ w9 ⟨rfl, rfl⟩
    refine brE_mk (fun q => ?_) (fun q => ⟨congrArg Value.bool (by rw [hE, show idB x.g.to = false from q]; simp only [Bool.and_false, Bool.false_and]), M5.ext⟩)
    have q3 : idB x.g.to = true := q
    refine ⟨_, M5.cell 0 rfl rfl, ?_⟩
    refine ⟨_, M5.cell 0 rfl rfl, ?_⟩
    refine brE_mk (fun q => ?_) (fun q => ⟨congrArg Value.bool (by rw [hE, show (!decide (x.g.frm = x.g.to)) = false from q]; simp only [Bool.and_false, Bool.false_and]), M5.ext⟩)
    have q4 : (!decide (x.g.frm = x.g.to)) = true := q
    refine ⟨_, M5.cell 0 rfl rfl, ?_⟩
    refine ⟨_, fit ⟨by have := hx.g.cur; omega, by have := hx.g.cur; omega⟩, ?_⟩
    refine (within6_spec x.g.cur 1 2 _).mono ?_
    rintro _ w9 ⟨rfl, rfl⟩
    refine brE_mk (fun q => ?_) (fun q => ⟨congrArg Value.bool (by rw [hE, show inB x.g.cur 1 2 = false from q]; simp only [Bool.and_false, Bool.false_and]), M5.ext⟩)
    have q5 : inB x.g.cur 1 2 = true := q
    refine ⟨_, M5.cell 0 rfl rfl, ?_⟩
    refine (within6_spec x.g.n 1 1000000 _).mono ?_
    rintro _ w9 ⟨rfl, rfl⟩
    refine brE_mk (fun q => ?_) (fun q => ⟨congrArg Value.bool (by rw [hE, show inB x.g.n 1 1000000 = false from q]; simp only [Bool.and_false, Bool.false_and]), M5.ext⟩)
    have q6 : inB x.g.n 1 1000000 = true := q
    refine ⟨_, M5.cell 0 rfl rfl, ?_⟩
    refine (within6_spec x.g.returns 0 500 _).mono ?_
    rintro _ w9 ⟨rfl, rfl⟩
    refine brE_mk (fun q => ?_) (fun q => ⟨congrArg Value.bool (by rw [hE, show inB x.g.returns 0 500 = false from q]; simp only [Bool.and_false, Bool.false_and]), M5.ext⟩)
    have q7 : inB x.g.returns 0 500 = true := q
    refine ⟨_, M5.cell 0 rfl rfl, ?_⟩
    refine ⟨_, M5.cell 0 rfl rfl, ?_⟩
    exact ⟨congrArg Value.bool (by rw [hE]; simp only [q0, q1, q2, q3, q4, q5, q6, q7, Bool.true_and]), M5.ext⟩
  have k5 : ¬ x.kind = 5 := k5
  refine brE_dec (fun k6 => ?K6) (fun k6 => ?N6)
  case' K6 =>
    have hk : x.kind = 6 ∨ x.kind = 7 := .inl k6
    refine brE_true (decide_eq_true k6) ?_
  case' N6 =>
    have k6 : ¬ x.kind = 6 := k6
    refine brE_dec (fun k7 => ?K7) (fun k7 => ?N7)
    case' K7 =>
      have hk : x.kind = 6 ∨ x.kind = 7 := .inr k7
    case' N7 =>
      have k7 : ¬ x.kind = 7 := k7
      exact ⟨congrArg Value.bool (by rw [hF]; unfold okE; rw [if_neg k1, if_neg k2, if_neg k3, if_neg k4, if_neg k5, if_neg (fun e => e.elim k6 k7)]; rfl), M3.ext⟩
  all_goals
    have hW : wantE x = (⟨x.kind, x.day, waivZ, { giftZ with id := x.g.id }, 0, 0, 0⟩ : Entry) := by unfold wantE; rw [if_neg (fun e => e.elim k1 k2), if_neg k3, if_neg k4, if_neg k5, if_pos hk]
    have hE : formX x = (decide (x = (⟨x.kind, x.day, waivZ, { giftZ with id := x.g.id }, 0, 0, 0⟩ : Entry)) && inB x.g.id 1 500) := by rw [hF, hW]; unfold okE; rw [if_neg k1, if_neg k2, if_neg k3, if_neg k4, if_neg k5, if_pos hk, Bool.and_comm]
    refine ⟨_, M3.cell 1 rfl rfl, ?_⟩
    refine ⟨rfl, _, _, M3.get 0 rfl, Nat.le_of_ble_eq_true rfl, rfl, ?_⟩
    intro w4 h4
    have M5 : Mem w w4 [(g3, .cells (⟨x.kind, x.day, waivZ, { giftZ with id := x.g.id }, 0, 0, 0⟩ : Entry).cells.toArray 39 (0, 0)), (g1, .cells x.cells.toArray 39 (0, 0))] := M3.put 0 rfl h4
    refine ⟨x.cells, rfl, M5.rd 1 rfl, ?_⟩
    refine ⟨(⟨x.kind, x.day, waivZ, { giftZ with id := x.g.id }, 0, 0, 0⟩ : Entry).cells, rfl, M5.rd 0 rfl, ?_⟩
    refine ⟨_, eqE _ _ x ⟨x.kind, x.day, waivZ, { giftZ with id := x.g.id }, 0, 0, 0⟩, ?_⟩
    refine brE_mk (fun q => ?_) (fun q => ⟨congrArg Value.bool (by rw [hE, show decide (x = (⟨x.kind, x.day, waivZ, { giftZ with id := x.g.id }, 0, 0, 0⟩ : Entry)) = false from q]; rfl), M5.ext⟩)
    have q0 : decide (x = (⟨x.kind, x.day, waivZ, { giftZ with id := x.g.id }, 0, 0, 0⟩ : Entry)) = true := q
    refine ⟨_, M5.cell 1 rfl rfl, ?_⟩
    refine (within6_spec x.g.id 1 500 _).mono ?_
    rintro _ w9 ⟨rfl, rfl⟩
    exact ⟨congrArg Value.bool (by rw [hE, q0]; rfl), M5.ext⟩
theorem debt_spec (x : Gift) (w : World) : CallsV C.P 83 #[x.val] w fun v w' => v = .bool (debtB x) ∧ Ext w w' := by
  refine callsV_of C_ok (args := [_]) (plans := []) Tryz.func83 rfl Tryz.ntmps83 (by kernel_rfl) (Nat.le_of_ble_eq_true rfl) ?_
  intro g1 w1 h1
  have M1 : Mem w w1 [(g1, .cells x.cells.toArray 37 (0, 0))] := (Mem.start w).alloc h1
  refine ⟨_, M1.cell 0 rfl rfl, ?_⟩
  refine brE_mk (fun q => ?_) (fun q => ⟨congrArg Value.bool (by unfold debtB; rw [show decide (x.returns = 0) = false from q]; rfl), M1.ext⟩)
  refine ⟨_, M1.cell 0 rfl rfl, ?_⟩
  exact ⟨congrArg Value.bool (by unfold debtB; rw [show decide (x.returns = 0) = true from q]; rfl), M1.ext⟩
theorem whom_spec (n : Int) (g : Guest) (w : World) : CallsV C.P 127 (#[] ++ [.int .i64 n, g.val].toArray ++ #[]) w fun v w' => v = .bool (decide (n = 0) || decide (n = g.person)) ∧ Ext w w' := by
  refine callsV_of C_ok (args := [_, _]) (plans := []) Tryz.func127 rfl Tryz.ntmps127 (by kernel_rfl) (Nat.le_of_ble_eq_true rfl) ?_
  intro g1 w1 h1
  have M1 : Mem w w1 [(g1, .cells g.cells.toArray 70 (0, 0))] := (Mem.start w).alloc h1
  refine brE_mk (fun q => ⟨congrArg Value.bool (by rw [show decide (n = 0) = true from q]; rfl), M1.ext⟩) (fun q => ?_)
  refine ⟨_, M1.cell 0 rfl rfl, ?_⟩
  exact ⟨congrArg Value.bool (by rw [show decide (n = 0) = false from q]; rfl), M1.ext⟩
set_option maxRecDepth 100000 in
theorem covers_spec (x : Waiv) (u o : Guest) (w : World) : CallsV C.P 86 #[x.val, u.val, o.val] w fun v w' => v = .bool (coversB x u o) ∧ Ext w w' := by
  have hE : coversB x u o = (decide (x.giver = u.state) && decide (x.taker = o.state) && (decide (x.under = 0) || decide (x.under = u.person)) && (decide (x.over = 0) || decide (x.over = o.person))) := by unfold coversB; simp only [Bool.and_assoc]
  refine callsV_of C_ok (args := [_, _, _]) (plans := []) Tryz.func86 rfl Tryz.ntmps86 (by kernel_rfl) (Nat.le_of_ble_eq_true rfl) ?_
  intro g1 w1 h1
  have M1 := (Mem.start w).alloc h1
  intro g2 w2 h2
  have M2 := M1.alloc h2
  intro g3 w3 h3
  have M3 : Mem w w3 [(g3, .cells o.cells.toArray 70 (0, 0)), (g2, .cells u.cells.toArray 70 (0, 0)), (g1, .cells x.cells.toArray 35 (0, 0))] := M2.alloc h3
  clear M1 M2 h1 h2 h3
  refine ⟨_, M3.cell 2 rfl rfl, ?_⟩
  refine ⟨_, M3.cell 1 rfl rfl, ?_⟩
  refine brE_mk (fun q => ?_) (fun q => ⟨congrArg Value.bool (by rw [hE, show decide (x.giver = u.state) = false from q]; simp only [Bool.false_and]), M3.ext⟩)
  have q0 : decide (x.giver = u.state) = true := q
  refine ⟨_, M3.cell 2 rfl rfl, ?_⟩
  refine ⟨_, M3.cell 0 rfl rfl, ?_⟩
  refine brE_mk (fun q => ?_) (fun q => ⟨congrArg Value.bool (by rw [hE, show decide (x.taker = o.state) = false from q]; simp only [Bool.and_false, Bool.false_and]), M3.ext⟩)
  have q1 : decide (x.taker = o.state) = true := q
  refine ⟨_, M3.cell 2 rfl rfl, ?_⟩
  refine ⟨u.cells, rfl, M3.rd 1 rfl, ?_⟩
  refine (whom_spec x.under u _).mono ?_
  rintro _ w4 ⟨rfl, e4⟩
  have M4 := M3.grow e4
  refine brE_mk (fun q => ?_) (fun q => ⟨congrArg Value.bool (by rw [hE, show (decide (x.under = 0) || decide (x.under = u.person)) = false from q]; simp only [Bool.and_false, Bool.false_and]), M4.ext⟩)
  have q2 : (decide (x.under = 0) || decide (x.under = u.person)) = true := q
  refine ⟨_, M4.cell 2 rfl rfl, ?_⟩
  refine ⟨o.cells, rfl, M4.rd 0 rfl, ?_⟩
  refine (whom_spec x.over o _).mono ?_
  rintro _ w5 ⟨rfl, e5⟩
  have M5 := M4.grow e5
  exact ⟨congrArg Value.bool (by rw [hE, q0, q1, q2]; simp only [Bool.true_and]), M5.ext⟩
end Go.Proofs.YtcnbpfecgokhiaaGreatDoor
namespace Go.Eng
open Go.RowKit
theorem splice_mid (a b c d : List Value) (h : d.length = b.length) : splice (a ++ (b ++ c)) a.length d = a ++ (d ++ c) := by
  unfold splice
  rw [List.take_append_of_le_length (Nat.le_refl _), List.take_length, List.append_assoc]
  congr 2
  rw [List.drop_append, List.drop_eq_nil_of_le (by omega), List.nil_append, h, Nat.add_sub_cancel_left, List.drop_append, List.drop_length, List.nil_append, Nat.sub_self, List.drop_zero]
theorem flat_set {α : Type} {enc : α → List Value} {k : Nat} (hk : ∀ x, (enc x).length = k) {l : List α} {i : Nat} (hi : i < l.length) (x : α) : splice (l.flatMap enc) (i * k) (enc x) = (l.set i x).flatMap enc := by
  have e1 : l.flatMap enc = (l.take i).flatMap enc ++ (enc l[i] ++ (l.drop (i + 1)).flatMap enc) := by
    conv => lhs; rw [← List.take_append_drop i l, List.drop_eq_getElem_cons hi]
    rw [List.flatMap_append, List.flatMap_cons]
  have e2 : (l.set i x).flatMap enc = (l.take i).flatMap enc ++ (enc x ++ (l.drop (i + 1)).flatMap enc) := by
    rw [List.set_eq_take_append_cons_drop, if_pos hi, List.flatMap_append, List.flatMap_cons]
  have hl : ((l.take i).flatMap enc).length = i * k := by rw [flat_length hk, List.length_take, Nat.min_eq_left (Nat.le_of_lt hi)]
  rw [e1, e2, ← hl]
  exact splice_mid _ _ _ _ (by rw [hk, hk])
theorem flat_take {α : Type} {enc : α → List Value} {k : Nat} (hk : ∀ x, (enc x).length = k) {l : List α} {i : Nat} (hi : i ≤ l.length) : (l.flatMap enc).take (i * k) = (l.take i).flatMap enc := by
  have e : l.flatMap enc = (l.take i).flatMap enc ++ (l.drop i).flatMap enc := by rw [← List.flatMap_append, List.take_append_drop]
  have hl : ((l.take i).flatMap enc).length = i * k := by rw [flat_length hk, List.length_take, Nat.min_eq_left hi]
  rw [e, List.take_append_of_le_length (by omega), ← hl, List.take_length]
theorem splice_take_at {cs vs : List Value} {i : Nat} (h : i ≤ cs.length) : (splice cs i vs).take i = cs.take i := by
  unfold splice
  rw [List.append_assoc, List.take_append_of_le_length (by simp; omega), List.take_take, Nat.min_self]
theorem put_below {B g : Nat} {o : Obj} {w w' : World} (h : Put w g o w') (hg : B ≤ g) : Below B w w' := below_put (Below.refl _ _) h hg
/-- What is kept of a row while it is gone through. -/
theorem keep_at {α : Type} {p : α → Bool} {l : List α} {j : Nat} (hj : j < l.length) : (l.take (j + 1)).filter (fun x => !p x) = (l.take j).filter (fun x => !p x) ++ if p l[j] = true then [] else [l[j]] := by
  rw [List.take_succ_eq_append_getElem hj, List.filter_append, List.filter_cons, List.filter_nil]
  cases p l[j] <;> rfl
theorem keep_first {α : Type} {p : α → Bool} {l : List α} {i : Nat} (hi : i < l.length) (hp : p l[i] = true) (h : ∀ j (hj : j < l.length), j < i → p l[j] = false) : (l.take (i + 1)).filter (fun x => !p x) = l.take i := by
  rw [keep_at hi, if_pos hp, List.append_nil]
  refine List.filter_eq_self.2 fun x hx => ?_
  obtain ⟨j, hj, rfl⟩ := List.getElem_of_mem hx
  rw [List.length_take] at hj
  rw [List.getElem_take, h j (by omega) (by omega)]
  rfl
end Go.Eng
namespace Go.Proofs.YtcnbpfecgokhiaaGreatDoor
open Go.Eng Go.RowKit
theorem IndexFuncF_spec {w : World} {A : Option Addr} {l : List Fact} {c gd : Nat} {cb : Array Value} {p : Fact → Bool} (hr : Reads w A (fcells l)) (hl : l.length ≤ 2 ^ 20) (hgd : C.can gd = true)
    (hdel : ∀ (x : Fact) (w' : World), Ext w w' → CallsV C.P gd (#[] ++ [x.val].toArray ++ cb) w' fun v w'' => v = .bool (p x) ∧ Ext w' w'') :
    CallsV C.P 249 #[.slice A l.length c, .func (.func gd) #[] cb] w fun v w' => ((v = .int .i64 (-1) ∧ ∀ x ∈ l, p x = false) ∨ ∃ i : Nat, v = .int .i64 (i : Nat) ∧ ∃ h : i < l.length, p l[i] = true ∧ ∀ j (hj : j < l.length), j < i → p l[j] = false) ∧ Ext w w' := by
  refine callsV_of C_ok (args := [_, _]) (plans := []) Tryz.func249 rfl Tryz.ntmps249 (by kernel_rfl) (Nat.le_of_ble_eq_true rfl) ?_
  refine loopE C_ok (fun (i : Nat) => [(0, .slice A l.length c), (1, .func (.func gd) #[] cb), (7, .int .i64 l.length), (8, .int .i64 i)])
    (fun i w' => Ext w w' ∧ i ≤ l.length ∧ ∀ j (hj : j < l.length), j < i → p l[j] = false) (fun i => l.length - i) 0 ⟨rfl, rfl, rfl, rfl, trivial⟩
    ⟨Ext.refl _, Nat.zero_le _, fun j _ hj => absurd hj (Nat.not_lt_zero _)⟩ ?_
  rintro i w1 ⟨e1, hi, hall⟩
  refine brE_dec (fun hlt => ?_) (fun hge => ?_)
  · have hlt : i < l.length := by have : (i : Int) < (l.length : Nat) := hlt; omega
    obtain ⟨b, o, hA, hc⟩ := Reads.fact (hr.ext e1) hlt
    refine ⟨i, b, o, rfl, hlt, hA, ?_⟩
    refine ⟨l[i].cells, rfl, hc, ?_⟩
    refine brE_true hgd ?_
    refine (hdel l[i] w1 e1).mono ?_
    rintro v w2 ⟨rfl, e2⟩
    refine brE_mk (fun h2 => ?_) (fun h2 => ?_)
    · exact ⟨.inr ⟨i, rfl, hlt, h2, hall⟩, e1.trans e2⟩
    · refine ⟨((i + 1 : Nat) : Int), fit ⟨by omega, by omega⟩, ?_⟩
      refine ⟨i + 1, ⟨rfl, rfl, rfl, rfl, trivial⟩, ⟨e1.trans e2, hlt, fun j hj hji => ?_⟩, by omega⟩
      rcases Nat.lt_or_ge j i with h | h
      · exact hall j hj h
      · obtain rfl : j = i := by omega
        exact h2
  · have : i = l.length := by have : ¬ (i : Int) < (l.length : Nat) := hge; omega
    subst this
    refine ⟨.inl ⟨rfl, fun x hx => ?_⟩, e1⟩
    obtain ⟨j, hj, rfl⟩ := List.getElem_of_mem hx
    exact hall j hj hj
set_option maxRecDepth 100000 in
theorem DeleteFuncF_spec {B : Nat} {w : World} {v : Value} {l : List Fact} {gd : Nat} {cb : Array Value} {p : Fact → Bool} (ho : NewF B w v l) (hB : B ≤ w.heap.size) (hl : l.length ≤ 2 ^ 20) (hgd : C.can gd = true)
    (hdel : ∀ (x : Fact) (w' : World), Below B w w' → CallsV C.P gd (#[] ++ [x.val].toArray ++ cb) w' fun v w'' => v = .bool (p x) ∧ Ext w' w'') :
    CallsV C.P 228 #[v, .func (.func gd) #[] cb] w fun v' w' => NewF B w' v' (l.filter fun x => !p x) ∧ Below B w w' := by
  obtain ⟨A, cap, rfl, hR, hlc⟩ := ho.slice
  refine callsV_of C_ok (args := [_, _]) (plans := []) Tryz.func228 rfl Tryz.ntmps228 (by kernel_rfl) (Nat.le_of_ble_eq_true rfl) ?_
  refine (IndexFuncF_spec hR hl hgd fun x w' e => hdel x w' (e.mono hB)).mono ?_
  rintro v w1 ⟨hi | ⟨i0, rfl, hi0, hsm, hfirst⟩, e1⟩
  · obtain ⟨rfl, hall⟩ := hi
    have e : (l.filter fun x => !p x) = l := List.filter_eq_self.2 fun x hx => by rw [hall x hx]; rfl
    rw [e]
    exact ⟨ho.ext e1, e1.mono hB⟩
  refine ⟨((i0 + 1 : Nat) : Int), fit ⟨by omega, by omega⟩, ?_⟩
  have hA : ∃ g, A = some ⟨g, 0, none⟩ := by
    obtain ⟨_, ⟨hv, h0⟩ | ⟨g, cap', cur, hv, _⟩⟩ := ho
    · omega
    · simp at hv; exact ⟨g, hv.1⟩
  obtain ⟨g, rfl⟩ := hA
  have kp0 := keep_first hi0 hsm hfirst
  have ho1 : w1.ownsRow B 81 9 (.slice (some ⟨g, 0, none⟩) l.length cap) l.length (fcells l) := ho.ext e1
  refine loopE C_ok (fun (s : Nat × Nat × List Fact) => [(0, .slice (some ⟨g, 0, none⟩) l.length cap), (1, .func (.func gd) #[] cb), (5, .int .i64 s.2.1), (6, .int .i64 s.1)])
    (fun s w' => s.2.1 = ((l.take s.1).filter fun x => !p x).length ∧ s.2.1 < s.1 ∧ s.1 ≤ l.length ∧ s.2.2.length = l.length ∧ w'.ownsRow B 81 9 (.slice (some ⟨g, 0, none⟩) l.length cap) l.length (fcells s.2.2) ∧ s.2.2.take s.2.1 = ((l.take s.1).filter fun x => !p x) ∧ (∀ k, s.1 ≤ k → s.2.2[k]? = l[k]?) ∧ Below B w w')
    (fun s => l.length - s.1) (i0 + 1, i0, l) ⟨rfl, rfl, rfl, rfl, trivial⟩
    ⟨by show i0 = _; rw [kp0, List.length_take]; omega, Nat.lt_succ_self _, hi0, rfl, ho1, kp0.symm, fun _ _ => rfl, e1.mono hB⟩ ?_
  rintro ⟨j, i, R⟩ w2 ⟨hi', hij', hj', hRl', ho2', htake', hrest', b2⟩
  have hi : i = ((l.take j).filter fun x => !p x).length := hi'
  have hij : i < j := hij'
  have hj : j ≤ l.length := hj'
  have hRl : R.length = l.length := hRl'
  have ho2 : w2.ownsRow B 81 9 (.slice (some ⟨g, 0, none⟩) l.length cap) l.length (fcells R) := ho2'
  have htake : R.take i = ((l.take j).filter fun x => !p x) := htake'
  have hrest : ∀ k, j ≤ k → R[k]? = l[k]? := hrest'
  clear hRl' hi' hij' hj' ho2' hrest' htake'
  refine brE_dec (fun hlt => ?_) (fun hge => ?_)
  · have hlt : j < l.length := by have : (j : Int) < (l.length : Nat) := hlt; omega
    have next : IntKind.i64.wrap ((j : Int) + 1) = ((j + 1 : Nat) : Int) := fit ⟨by omega, by omega⟩
    have hRj : R[j]'(by omega) = l[j] := by
      have := hrest j (Nat.le_refl _)
      rw [List.getElem?_eq_getElem hlt, List.getElem?_eq_getElem (by omega)] at this
      exact Option.some.inj this
    have hreads : Reads w2 (some ⟨g, 0, none⟩) (fcells R) := by
      obtain ⟨A', c', e, h, _⟩ := reads_of_owns ho2
      cases e; exact h
    obtain ⟨b1, o1, hA1, hc1⟩ := Reads.fact hreads (i := j) (by omega)
    cases hA1
    rw [hRj] at hc1
    refine ⟨j, g, 0, rfl, hlt, rfl, ?_⟩
    refine ⟨l[j].cells, rfl, hc1, ?_⟩
    intro g7 w3 h3
    refine ⟨rfl, _, _, h3.here, Nat.le_of_ble_eq_true rfl, rfl, ?_⟩
    intro w4 h4
    have h4 : Put w3 g7 (.cells l[j].cells.toArray 81 (0, 0)) w4 := h4
    have e24 : Ext w2 w4 := h4.ext_of h3.ext (by rw [h3.new]; exact Nat.le_refl _)
    have hBw2 : B ≤ w2.heap.size := Nat.le_trans hB b2.size
    have b4 : Below B w w4 := b2.trans (e24.mono hBw2)
    refine ⟨l[j].cells, rfl, Rd.of_block h4.here, ?_⟩
    refine brE_true hgd ?_
    refine (hdel l[j] w4 b4).mono ?_
    rintro v w5 ⟨rfl, e5⟩
    have e25 := e24.trans e5
    have b5 : Below B w w5 := b2.trans (e25.mono hBw2)
    have ho5 := ownsRow_ext ho2 e25
    have hk := keep_at (p := p) hlt
    refine brE_mk (fun h2 => ?_) (fun h2 => ?_)
    · have h2 : p l[j] = false := by simpa using h2
      rw [h2, if_neg (by decide)] at hk
      obtain ⟨cur, hg, hgB, hcl, hccap, hncap, hdl, hct, hput⟩ := ownsRow_open ho5
      refine ⟨l[j].cells, rfl, Rd.of_block (e5.heap h4.here), ?_⟩
      refine ⟨i, g, 0, rfl, (by omega : i < l.length), rfl, ?_⟩
      refine ⟨rfl, _, _, hg, by show 0 + i * 9 + 9 ≤ cur.length; omega, rfl, ?_⟩
      intro w6 h6
      have h6 : Put w5 g (.cells (splice cur (0 + i * 9) l[j].cells).toArray 81 (0, 0)) w6 := h6
      have ho6 := hput (0 + i * 9) l[j].cells w6 (by show 0 + i * 9 + 9 ≤ _; omega) h6
      have e0 : 0 + i * 9 = i * 9 := by omega
      rw [e0] at ho6
      have hset : splice (fcells R) (i * 9) l[j].cells = fcells (R.set i l[j]) := flat_set Fact.len (by omega) _
      rw [hset] at ho6
      have nexti : IntKind.i64.wrap ((i : Int) + 1) = ((i + 1 : Nat) : Int) := fit ⟨by omega, by omega⟩
      refine ⟨_, nexti, ?_⟩
      refine ⟨_, next, ?_⟩
      refine ⟨(j + 1, i + 1, R.set i l[j]), ⟨rfl, rfl, rfl, rfl, trivial⟩, ⟨?_, by show i + 1 < j + 1; omega, hlt, by show (R.set i l[j]).length = _; rw [List.length_set, hRl], ho6, ?_, ?_, below_put b5 h6 hgB⟩, by show l.length - (j + 1) < l.length - j; omega⟩
      · show i + 1 = ((l.take (j + 1)).filter fun x => !p x).length
        rw [hk, List.length_append, ← hi]; rfl
      · show (R.set i l[j]).take (i + 1) = ((l.take (j + 1)).filter fun x => !p x)
        have hil : i < (R.set i l[j]).length := by rw [List.length_set]; omega
        rw [hk, List.take_succ_eq_append_getElem hil, List.take_set_of_le (Nat.le_refl _), htake]
        congr 1
        simp
      · intro k hk1
        show (R.set i l[j])[k]? = l[k]?
        have hk1 : j + 1 ≤ k := hk1
        rw [List.getElem?_set_ne (by omega)]
        exact hrest k (by omega)
    · have h2 : p l[j] = true := by simpa using h2
      rw [h2, if_pos rfl, List.append_nil] at hk
      refine ⟨_, next, ?_⟩
      exact ⟨(j + 1, i, R), ⟨rfl, rfl, rfl, rfl, trivial⟩, ⟨by show i = ((l.take (j + 1)).filter fun x => !p x).length; rw [hk]; exact hi, by show i < j + 1; omega, hlt, hRl, ho5, by show R.take i = ((l.take (j + 1)).filter fun x => !p x); rw [hk]; exact htake, fun k hk1 => hrest k (by have : j + 1 ≤ k := hk1; omega), b5⟩, by show l.length - (j + 1) < l.length - j; omega⟩
  · have : j = l.length := by have : ¬ (j : Int) < (l.length : Nat) := hge; omega
    subst this
    rw [List.take_length] at hi htake
    obtain ⟨cur, hg, hgB, hcl, hccap, hncap, hdl, hct, hput⟩ := ownsRow_open ho2
    refine ⟨i, l.length, rfl, rfl, by omega, by omega, ?_⟩
    have hA : (if cap = i then (some (⟨g, 0, none⟩ : Addr)) else (some (⟨g, 0, none⟩ : Addr)).map (·.add (i * 9))) = some ⟨g, 0 + i * 9, none⟩ := by
      rw [if_neg (by omega)]
      simp [add_spot]
    refine clearRow (esz := 9) C_ok rfl rfl rfl rfl rfl rfl rfl (by decide) hA (by omega) hg (by omega) ?_
    intro zs w3 hzs h3
    have ho3 := hput (0 + i * 9) zs w3 (by rw [hzs]; omega) h3
    refine ⟨0, i, rfl, rfl, Nat.zero_le _, by omega, ?_⟩
    have e : (if cap = 0 then (some ⟨g, 0, none⟩ : Option Addr) else (some (⟨g, 0, none⟩ : Addr)).map (·.add (0 * 9))) = some ⟨g, 0, none⟩ := by
      split <;> rfl
    have hcut := ownsRow_cut ho3 (k := i) (by omega)
    have e0 : 0 + i * 9 = i * 9 := by omega
    have hft : (fcells R).take (i * 9) = fcells (R.take i) := flat_take Fact.len (by omega)
    rw [e0, splice_take_at (by rw [fcells_length]; omega), hft, htake] at hcut
    refine ⟨?_, below_put b2 h3 hgB⟩
    show w3.ownsRow B 81 9 (.slice (if cap = 0 then (some ⟨g, 0, none⟩ : Option Addr) else (some (⟨g, 0, none⟩ : Addr)).map (·.add (0 * 9))) i cap) (l.filter fun x => !p x).length _
    rw [e, ← hi]
    exact hcut
end Go.Proofs.YtcnbpfecgokhiaaGreatDoor
namespace Go.Proofs.YtcnbpfecgokhiaaGreatDoor
open Go.Eng Go.RowKit
theorem IndexFuncW_spec {w : World} {A : Option Addr} {l : List Waiv} {c gd : Nat} {cb : Array Value} {p : Waiv → Bool} (hr : Reads w A (l.flatMap Waiv.cells)) (hl : l.length ≤ 2 ^ 20) (hgd : C.can gd = true)
    (hdel : ∀ (x : Waiv) (w' : World), Ext w w' → CallsV C.P gd (#[] ++ [x.val].toArray ++ cb) w' fun v w'' => v = .bool (p x) ∧ Ext w' w'') :
    CallsV C.P 125 #[.slice A l.length c, .func (.func gd) #[] cb] w fun v w' => ((v = .int .i64 (-1) ∧ ∀ x ∈ l, p x = false) ∨ ∃ i : Nat, v = .int .i64 (i : Nat) ∧ ∃ h : i < l.length, p l[i] = true ∧ ∀ j (hj : j < l.length), j < i → p l[j] = false) ∧ Ext w w' := by
  refine callsV_of C_ok (args := [_, _]) (plans := []) Tryz.func125 rfl Tryz.ntmps125 (by kernel_rfl) (Nat.le_of_ble_eq_true rfl) ?_
  refine loopE C_ok (fun (i : Nat) => [(0, .slice A l.length c), (1, .func (.func gd) #[] cb), (7, .int .i64 l.length), (8, .int .i64 i)])
    (fun i w' => Ext w w' ∧ i ≤ l.length ∧ ∀ j (hj : j < l.length), j < i → p l[j] = false) (fun i => l.length - i) 0 ⟨rfl, rfl, rfl, rfl, trivial⟩
    ⟨Ext.refl _, Nat.zero_le _, fun j _ hj => absurd hj (Nat.not_lt_zero _)⟩ ?_
  rintro i w1 ⟨e1, hi, hall⟩
  refine brE_dec (fun hlt => ?_) (fun hge => ?_)
  · have hlt : i < l.length := by have : (i : Int) < (l.length : Nat) := hlt; omega
    obtain ⟨b, o, hA, hc⟩ := Reads.elem Waiv.len (by omega) (hr.ext e1) hlt
    refine ⟨i, b, o, rfl, hlt, hA, ?_⟩
    refine ⟨l[i].cells, rfl, hc, ?_⟩
    refine brE_true hgd ?_
    refine (hdel l[i] w1 e1).mono ?_
    rintro v w2 ⟨rfl, e2⟩
    refine brE_mk (fun h2 => ?_) (fun h2 => ?_)
    · exact ⟨.inr ⟨i, rfl, hlt, h2, hall⟩, e1.trans e2⟩
    · refine ⟨((i + 1 : Nat) : Int), fit ⟨by omega, by omega⟩, ?_⟩
      refine ⟨i + 1, ⟨rfl, rfl, rfl, rfl, trivial⟩, ⟨e1.trans e2, hlt, fun j hj hji => ?_⟩, by omega⟩
      rcases Nat.lt_or_ge j i with h | h
      · exact hall j hj h
      · obtain rfl : j = i := by omega
        exact h2
  · have : i = l.length := by have : ¬ (i : Int) < (l.length : Nat) := hge; omega
    subst this
    refine ⟨.inl ⟨rfl, fun x hx => ?_⟩, e1⟩
    obtain ⟨j, hj, rfl⟩ := List.getElem_of_mem hx
    exact hall j hj hj
set_option maxRecDepth 100000 in
theorem DeleteFuncW_spec {B : Nat} {w : World} {v : Value} {l : List Waiv} {gd : Nat} {cb : Array Value} {p : Waiv → Bool} (ho : NewL Waiv.cells 35 9 B w v l) (hB : B ≤ w.heap.size) (hl : l.length ≤ 2 ^ 20) (hgd : C.can gd = true)
    (hdel : ∀ (x : Waiv) (w' : World), Below B w w' → CallsV C.P gd (#[] ++ [x.val].toArray ++ cb) w' fun v w'' => v = .bool (p x) ∧ Ext w' w'') :
    CallsV C.P 78 #[v, .func (.func gd) #[] cb] w fun v' w' => NewL Waiv.cells 35 9 B w' v' (l.filter fun x => !p x) ∧ Below B w w' := by
  obtain ⟨A, cap, rfl, hR, hlc⟩ := reads_of_owns ho
  refine callsV_of C_ok (args := [_, _]) (plans := []) Tryz.func78 rfl Tryz.ntmps78 (by kernel_rfl) (Nat.le_of_ble_eq_true rfl) ?_
  refine (IndexFuncW_spec hR hl hgd fun x w' e => hdel x w' (e.mono hB)).mono ?_
  rintro v w1 ⟨hi | ⟨i0, rfl, hi0, hsm, hfirst⟩, e1⟩
  · obtain ⟨rfl, hall⟩ := hi
    have e : (l.filter fun x => !p x) = l := List.filter_eq_self.2 fun x hx => by rw [hall x hx]; rfl
    rw [e]
    exact ⟨ho.ext e1, e1.mono hB⟩
  refine ⟨((i0 + 1 : Nat) : Int), fit ⟨by omega, by omega⟩, ?_⟩
  have hA : ∃ g, A = some ⟨g, 0, none⟩ := by
    obtain ⟨_, ⟨hv, h0⟩ | ⟨g, cap', cur, hv, _⟩⟩ := ho
    · omega
    · simp at hv; exact ⟨g, hv.1⟩
  obtain ⟨g, rfl⟩ := hA
  have kp0 := keep_first hi0 hsm hfirst
  have ho1 : w1.ownsRow B 35 9 (.slice (some ⟨g, 0, none⟩) l.length cap) l.length (l.flatMap Waiv.cells) := ho.ext e1
  refine loopE C_ok (fun (s : Nat × Nat × List Waiv) => [(0, .slice (some ⟨g, 0, none⟩) l.length cap), (1, .func (.func gd) #[] cb), (5, .int .i64 s.2.1), (6, .int .i64 s.1)])
    (fun s w' => s.2.1 = ((l.take s.1).filter fun x => !p x).length ∧ s.2.1 < s.1 ∧ s.1 ≤ l.length ∧ s.2.2.length = l.length ∧ w'.ownsRow B 35 9 (.slice (some ⟨g, 0, none⟩) l.length cap) l.length (s.2.2.flatMap Waiv.cells) ∧ s.2.2.take s.2.1 = ((l.take s.1).filter fun x => !p x) ∧ (∀ k, s.1 ≤ k → s.2.2[k]? = l[k]?) ∧ Below B w w')
    (fun s => l.length - s.1) (i0 + 1, i0, l) ⟨rfl, rfl, rfl, rfl, trivial⟩
    ⟨by show i0 = _; rw [kp0, List.length_take]; omega, Nat.lt_succ_self _, hi0, rfl, ho1, kp0.symm, fun _ _ => rfl, e1.mono hB⟩ ?_
  rintro ⟨j, i, R⟩ w2 ⟨hi', hij', hj', hRl', ho2', htake', hrest', b2⟩
  have hi : i = ((l.take j).filter fun x => !p x).length := hi'
  have hij : i < j := hij'
  have hj : j ≤ l.length := hj'
  have hRl : R.length = l.length := hRl'
  have ho2 : w2.ownsRow B 35 9 (.slice (some ⟨g, 0, none⟩) l.length cap) l.length (R.flatMap Waiv.cells) := ho2'
  have htake : R.take i = ((l.take j).filter fun x => !p x) := htake'
  have hrest : ∀ k, j ≤ k → R[k]? = l[k]? := hrest'
  clear hRl' hi' hij' hj' ho2' hrest' htake'
  refine brE_dec (fun hlt => ?_) (fun hge => ?_)
  · have hlt : j < l.length := by have : (j : Int) < (l.length : Nat) := hlt; omega
    have next : IntKind.i64.wrap ((j : Int) + 1) = ((j + 1 : Nat) : Int) := fit ⟨by omega, by omega⟩
    have hRj : R[j]'(by omega) = l[j] := by
      have := hrest j (Nat.le_refl _)
      rw [List.getElem?_eq_getElem hlt, List.getElem?_eq_getElem (by omega)] at this
      exact Option.some.inj this
    have hreads : Reads w2 (some ⟨g, 0, none⟩) (R.flatMap Waiv.cells) := by
      obtain ⟨A', c', e, h, _⟩ := reads_of_owns ho2
      cases e; exact h
    obtain ⟨b1, o1, hA1, hc1⟩ := Reads.elem Waiv.len (by omega) hreads (i := j) (by omega)
    cases hA1
    rw [hRj] at hc1
    refine ⟨j, g, 0, rfl, hlt, rfl, ?_⟩
    refine ⟨l[j].cells, rfl, hc1, ?_⟩
    intro g7 w3 h3
    refine ⟨rfl, _, _, h3.here, Nat.le_of_ble_eq_true rfl, rfl, ?_⟩
    intro w4 h4
    have h4 : Put w3 g7 (.cells l[j].cells.toArray 35 (0, 0)) w4 := h4
    have e24 : Ext w2 w4 := h4.ext_of h3.ext (by rw [h3.new]; exact Nat.le_refl _)
    have hBw2 : B ≤ w2.heap.size := Nat.le_trans hB b2.size
    have b4 : Below B w w4 := b2.trans (e24.mono hBw2)
    refine ⟨l[j].cells, rfl, Rd.of_block h4.here, ?_⟩
    refine brE_true hgd ?_
    refine (hdel l[j] w4 b4).mono ?_
    rintro v w5 ⟨rfl, e5⟩
    have e25 := e24.trans e5
    have b5 : Below B w w5 := b2.trans (e25.mono hBw2)
    have ho5 := ownsRow_ext ho2 e25
    have hk := keep_at (p := p) hlt
    refine brE_mk (fun h2 => ?_) (fun h2 => ?_)
    · have h2 : p l[j] = false := by simpa using h2
      rw [h2, if_neg (by decide)] at hk
      obtain ⟨cur, hg, hgB, hcl, hccap, hncap, hdl, hct, hput⟩ := ownsRow_open ho5
      refine ⟨l[j].cells, rfl, Rd.of_block (e5.heap h4.here), ?_⟩
      refine ⟨i, g, 0, rfl, (by omega : i < l.length), rfl, ?_⟩
      refine ⟨rfl, _, _, hg, by show 0 + i * 9 + 9 ≤ cur.length; omega, rfl, ?_⟩
      intro w6 h6
      have h6 : Put w5 g (.cells (splice cur (0 + i * 9) l[j].cells).toArray 35 (0, 0)) w6 := h6
      have ho6 := hput (0 + i * 9) l[j].cells w6 (by show 0 + i * 9 + 9 ≤ _; omega) h6
      have e0 : 0 + i * 9 = i * 9 := by omega
      rw [e0] at ho6
      have hset : splice (R.flatMap Waiv.cells) (i * 9) l[j].cells = (R.set i l[j]).flatMap Waiv.cells := flat_set Waiv.len (by omega) _
      rw [hset] at ho6
      have nexti : IntKind.i64.wrap ((i : Int) + 1) = ((i + 1 : Nat) : Int) := fit ⟨by omega, by omega⟩
      refine ⟨_, nexti, ?_⟩
      refine ⟨_, next, ?_⟩
      refine ⟨(j + 1, i + 1, R.set i l[j]), ⟨rfl, rfl, rfl, rfl, trivial⟩, ⟨?_, by show i + 1 < j + 1; omega, hlt, by show (R.set i l[j]).length = _; rw [List.length_set, hRl], ho6, ?_, ?_, below_put b5 h6 hgB⟩, by show l.length - (j + 1) < l.length - j; omega⟩
      · show i + 1 = ((l.take (j + 1)).filter fun x => !p x).length
        rw [hk, List.length_append, ← hi]; rfl
      · show (R.set i l[j]).take (i + 1) = ((l.take (j + 1)).filter fun x => !p x)
        have hil : i < (R.set i l[j]).length := by rw [List.length_set]; omega
        rw [hk, List.take_succ_eq_append_getElem hil, List.take_set_of_le (Nat.le_refl _), htake]
        congr 1
        simp
      · intro k hk1
        show (R.set i l[j])[k]? = l[k]?
        have hk1 : j + 1 ≤ k := hk1
        rw [List.getElem?_set_ne (by omega)]
        exact hrest k (by omega)
    · have h2 : p l[j] = true := by simpa using h2
      rw [h2, if_pos rfl, List.append_nil] at hk
      refine ⟨_, next, ?_⟩
      exact ⟨(j + 1, i, R), ⟨rfl, rfl, rfl, rfl, trivial⟩, ⟨by show i = ((l.take (j + 1)).filter fun x => !p x).length; rw [hk]; exact hi, by show i < j + 1; omega, hlt, hRl, ho5, by show R.take i = ((l.take (j + 1)).filter fun x => !p x); rw [hk]; exact htake, fun k hk1 => hrest k (by have : j + 1 ≤ k := hk1; omega), b5⟩, by show l.length - (j + 1) < l.length - j; omega⟩
  · have : j = l.length := by have : ¬ (j : Int) < (l.length : Nat) := hge; omega
    subst this
    rw [List.take_length] at hi htake
    obtain ⟨cur, hg, hgB, hcl, hccap, hncap, hdl, hct, hput⟩ := ownsRow_open ho2
    refine ⟨i, l.length, rfl, rfl, by omega, by omega, ?_⟩
    have hA : (if cap = i then (some (⟨g, 0, none⟩ : Addr)) else (some (⟨g, 0, none⟩ : Addr)).map (·.add (i * 9))) = some ⟨g, 0 + i * 9, none⟩ := by
      rw [if_neg (by omega)]
      simp [add_spot]
    refine clearRow (esz := 9) C_ok rfl rfl rfl rfl rfl rfl rfl (by decide) hA (by omega) hg (by omega) ?_
    intro zs w3 hzs h3
    have ho3 := hput (0 + i * 9) zs w3 (by rw [hzs]; omega) h3
    refine ⟨0, i, rfl, rfl, Nat.zero_le _, by omega, ?_⟩
    have e : (if cap = 0 then (some ⟨g, 0, none⟩ : Option Addr) else (some (⟨g, 0, none⟩ : Addr)).map (·.add (0 * 9))) = some ⟨g, 0, none⟩ := by
      split <;> rfl
    have hcut := ownsRow_cut ho3 (k := i) (by omega)
    have e0 : 0 + i * 9 = i * 9 := by omega
    have hft : (R.flatMap Waiv.cells).take (i * 9) = (R.take i).flatMap Waiv.cells := flat_take Waiv.len (by omega)
    rw [e0, splice_take_at (by rw [flat_length Waiv.len]; omega), hft, htake] at hcut
    refine ⟨?_, below_put b2 h3 hgB⟩
    show w3.ownsRow B 35 9 (.slice (if cap = 0 then (some ⟨g, 0, none⟩ : Option Addr) else (some (⟨g, 0, none⟩ : Addr)).map (·.add (0 * 9))) i cap) (l.filter fun x => !p x).length _
    rw [e, ← hi]
    exact hcut
theorem IndexFuncG_spec {w : World} {A : Option Addr} {l : List Gift} {c gd : Nat} {cb : Array Value} {p : Gift → Bool} (hr : Reads w A (l.flatMap Gift.cells)) (hl : l.length ≤ 2 ^ 20) (hgd : C.can gd = true)
    (hdel : ∀ (x : Gift) (w' : World), Ext w w' → CallsV C.P gd (#[] ++ [x.val].toArray ++ cb) w' fun v w'' => v = .bool (p x) ∧ Ext w' w'') :
    CallsV C.P 126 #[.slice A l.length c, .func (.func gd) #[] cb] w fun v w' => ((v = .int .i64 (-1) ∧ ∀ x ∈ l, p x = false) ∨ ∃ i : Nat, v = .int .i64 (i : Nat) ∧ ∃ h : i < l.length, p l[i] = true ∧ ∀ j (hj : j < l.length), j < i → p l[j] = false) ∧ Ext w w' := by
  refine callsV_of C_ok (args := [_, _]) (plans := []) Tryz.func126 rfl Tryz.ntmps126 (by kernel_rfl) (Nat.le_of_ble_eq_true rfl) ?_
  refine loopE C_ok (fun (i : Nat) => [(0, .slice A l.length c), (1, .func (.func gd) #[] cb), (7, .int .i64 l.length), (8, .int .i64 i)])
    (fun i w' => Ext w w' ∧ i ≤ l.length ∧ ∀ j (hj : j < l.length), j < i → p l[j] = false) (fun i => l.length - i) 0 ⟨rfl, rfl, rfl, rfl, trivial⟩
    ⟨Ext.refl _, Nat.zero_le _, fun j _ hj => absurd hj (Nat.not_lt_zero _)⟩ ?_
  rintro i w1 ⟨e1, hi, hall⟩
  refine brE_dec (fun hlt => ?_) (fun hge => ?_)
  · have hlt : i < l.length := by have : (i : Int) < (l.length : Nat) := hlt; omega
    obtain ⟨b, o, hA, hc⟩ := Reads.elem Gift.len (by omega) (hr.ext e1) hlt
    refine ⟨i, b, o, rfl, hlt, hA, ?_⟩
    refine ⟨l[i].cells, rfl, hc, ?_⟩
    refine brE_true hgd ?_
    refine (hdel l[i] w1 e1).mono ?_
    rintro v w2 ⟨rfl, e2⟩
    refine brE_mk (fun h2 => ?_) (fun h2 => ?_)
    · exact ⟨.inr ⟨i, rfl, hlt, h2, hall⟩, e1.trans e2⟩
    · refine ⟨((i + 1 : Nat) : Int), fit ⟨by omega, by omega⟩, ?_⟩
      refine ⟨i + 1, ⟨rfl, rfl, rfl, rfl, trivial⟩, ⟨e1.trans e2, hlt, fun j hj hji => ?_⟩, by omega⟩
      rcases Nat.lt_or_ge j i with h | h
      · exact hall j hj h
      · obtain rfl : j = i := by omega
        exact h2
  · have : i = l.length := by have : ¬ (i : Int) < (l.length : Nat) := hge; omega
    subst this
    refine ⟨.inl ⟨rfl, fun x hx => ?_⟩, e1⟩
    obtain ⟨j, hj, rfl⟩ := List.getElem_of_mem hx
    exact hall j hj hj
set_option maxRecDepth 100000 in
theorem DeleteFuncG_spec {B : Nat} {w : World} {v : Value} {l : List Gift} {gd : Nat} {cb : Array Value} {p : Gift → Bool} (ho : NewL Gift.cells 37 10 B w v l) (hB : B ≤ w.heap.size) (hl : l.length ≤ 2 ^ 20) (hgd : C.can gd = true)
    (hdel : ∀ (x : Gift) (w' : World), Below B w w' → CallsV C.P gd (#[] ++ [x.val].toArray ++ cb) w' fun v w'' => v = .bool (p x) ∧ Ext w' w'') :
    CallsV C.P 81 #[v, .func (.func gd) #[] cb] w fun v' w' => NewL Gift.cells 37 10 B w' v' (l.filter fun x => !p x) ∧ Below B w w' := by
  obtain ⟨A, cap, rfl, hR, hlc⟩ := reads_of_owns ho
  refine callsV_of C_ok (args := [_, _]) (plans := []) Tryz.func81 rfl Tryz.ntmps81 (by kernel_rfl) (Nat.le_of_ble_eq_true rfl) ?_
  refine (IndexFuncG_spec hR hl hgd fun x w' e => hdel x w' (e.mono hB)).mono ?_
  rintro v w1 ⟨hi | ⟨i0, rfl, hi0, hsm, hfirst⟩, e1⟩
  · obtain ⟨rfl, hall⟩ := hi
    have e : (l.filter fun x => !p x) = l := List.filter_eq_self.2 fun x hx => by rw [hall x hx]; rfl
    rw [e]
    exact ⟨ho.ext e1, e1.mono hB⟩
  refine ⟨((i0 + 1 : Nat) : Int), fit ⟨by omega, by omega⟩, ?_⟩
  have hA : ∃ g, A = some ⟨g, 0, none⟩ := by
    obtain ⟨_, ⟨hv, h0⟩ | ⟨g, cap', cur, hv, _⟩⟩ := ho
    · omega
    · simp at hv; exact ⟨g, hv.1⟩
  obtain ⟨g, rfl⟩ := hA
  have kp0 := keep_first hi0 hsm hfirst
  have ho1 : w1.ownsRow B 37 10 (.slice (some ⟨g, 0, none⟩) l.length cap) l.length (l.flatMap Gift.cells) := ho.ext e1
  refine loopE C_ok (fun (s : Nat × Nat × List Gift) => [(0, .slice (some ⟨g, 0, none⟩) l.length cap), (1, .func (.func gd) #[] cb), (5, .int .i64 s.2.1), (6, .int .i64 s.1)])
    (fun s w' => s.2.1 = ((l.take s.1).filter fun x => !p x).length ∧ s.2.1 < s.1 ∧ s.1 ≤ l.length ∧ s.2.2.length = l.length ∧ w'.ownsRow B 37 10 (.slice (some ⟨g, 0, none⟩) l.length cap) l.length (s.2.2.flatMap Gift.cells) ∧ s.2.2.take s.2.1 = ((l.take s.1).filter fun x => !p x) ∧ (∀ k, s.1 ≤ k → s.2.2[k]? = l[k]?) ∧ Below B w w')
    (fun s => l.length - s.1) (i0 + 1, i0, l) ⟨rfl, rfl, rfl, rfl, trivial⟩
    ⟨by show i0 = _; rw [kp0, List.length_take]; omega, Nat.lt_succ_self _, hi0, rfl, ho1, kp0.symm, fun _ _ => rfl, e1.mono hB⟩ ?_
  rintro ⟨j, i, R⟩ w2 ⟨hi', hij', hj', hRl', ho2', htake', hrest', b2⟩
  have hi : i = ((l.take j).filter fun x => !p x).length := hi'
  have hij : i < j := hij'
  have hj : j ≤ l.length := hj'
  have hRl : R.length = l.length := hRl'
  have ho2 : w2.ownsRow B 37 10 (.slice (some ⟨g, 0, none⟩) l.length cap) l.length (R.flatMap Gift.cells) := ho2'
  have htake : R.take i = ((l.take j).filter fun x => !p x) := htake'
  have hrest : ∀ k, j ≤ k → R[k]? = l[k]? := hrest'
  clear hRl' hi' hij' hj' ho2' hrest' htake'
  refine brE_dec (fun hlt => ?_) (fun hge => ?_)
  · have hlt : j < l.length := by have : (j : Int) < (l.length : Nat) := hlt; omega
    have next : IntKind.i64.wrap ((j : Int) + 1) = ((j + 1 : Nat) : Int) := fit ⟨by omega, by omega⟩
    have hRj : R[j]'(by omega) = l[j] := by
      have := hrest j (Nat.le_refl _)
      rw [List.getElem?_eq_getElem hlt, List.getElem?_eq_getElem (by omega)] at this
      exact Option.some.inj this
    have hreads : Reads w2 (some ⟨g, 0, none⟩) (R.flatMap Gift.cells) := by
      obtain ⟨A', c', e, h, _⟩ := reads_of_owns ho2
      cases e; exact h
    obtain ⟨b1, o1, hA1, hc1⟩ := Reads.elem Gift.len (by omega) hreads (i := j) (by omega)
    cases hA1
    rw [hRj] at hc1
    refine ⟨j, g, 0, rfl, hlt, rfl, ?_⟩
    refine ⟨l[j].cells, rfl, hc1, ?_⟩
    intro g7 w3 h3
    refine ⟨rfl, _, _, h3.here, Nat.le_of_ble_eq_true rfl, rfl, ?_⟩
    intro w4 h4
    have h4 : Put w3 g7 (.cells l[j].cells.toArray 37 (0, 0)) w4 := h4
    have e24 : Ext w2 w4 := h4.ext_of h3.ext (by rw [h3.new]; exact Nat.le_refl _)
    have hBw2 : B ≤ w2.heap.size := Nat.le_trans hB b2.size
    have b4 : Below B w w4 := b2.trans (e24.mono hBw2)
    refine ⟨l[j].cells, rfl, Rd.of_block h4.here, ?_⟩
    refine brE_true hgd ?_
    refine (hdel l[j] w4 b4).mono ?_
    rintro v w5 ⟨rfl, e5⟩
    have e25 := e24.trans e5
    have b5 : Below B w w5 := b2.trans (e25.mono hBw2)
    have ho5 := ownsRow_ext ho2 e25
    have hk := keep_at (p := p) hlt
    refine brE_mk (fun h2 => ?_) (fun h2 => ?_)
    · have h2 : p l[j] = false := by simpa using h2
      rw [h2, if_neg (by decide)] at hk
      obtain ⟨cur, hg, hgB, hcl, hccap, hncap, hdl, hct, hput⟩ := ownsRow_open ho5
      refine ⟨l[j].cells, rfl, Rd.of_block (e5.heap h4.here), ?_⟩
      refine ⟨i, g, 0, rfl, (by omega : i < l.length), rfl, ?_⟩
      refine ⟨rfl, _, _, hg, by show 0 + i * 10 + 10 ≤ cur.length; omega, rfl, ?_⟩
      intro w6 h6
      have h6 : Put w5 g (.cells (splice cur (0 + i * 10) l[j].cells).toArray 37 (0, 0)) w6 := h6
      have ho6 := hput (0 + i * 10) l[j].cells w6 (by show 0 + i * 10 + 10 ≤ _; omega) h6
      have e0 : 0 + i * 10 = i * 10 := by omega
      rw [e0] at ho6
      have hset : splice (R.flatMap Gift.cells) (i * 10) l[j].cells = (R.set i l[j]).flatMap Gift.cells := flat_set Gift.len (by omega) _
      rw [hset] at ho6
      have nexti : IntKind.i64.wrap ((i : Int) + 1) = ((i + 1 : Nat) : Int) := fit ⟨by omega, by omega⟩
      refine ⟨_, nexti, ?_⟩
      refine ⟨_, next, ?_⟩
      refine ⟨(j + 1, i + 1, R.set i l[j]), ⟨rfl, rfl, rfl, rfl, trivial⟩, ⟨?_, by show i + 1 < j + 1; omega, hlt, by show (R.set i l[j]).length = _; rw [List.length_set, hRl], ho6, ?_, ?_, below_put b5 h6 hgB⟩, by show l.length - (j + 1) < l.length - j; omega⟩
      · show i + 1 = ((l.take (j + 1)).filter fun x => !p x).length
        rw [hk, List.length_append, ← hi]; rfl
      · show (R.set i l[j]).take (i + 1) = ((l.take (j + 1)).filter fun x => !p x)
        have hil : i < (R.set i l[j]).length := by rw [List.length_set]; omega
        rw [hk, List.take_succ_eq_append_getElem hil, List.take_set_of_le (Nat.le_refl _), htake]
        congr 1
        simp
      · intro k hk1
        show (R.set i l[j])[k]? = l[k]?
        have hk1 : j + 1 ≤ k := hk1
        rw [List.getElem?_set_ne (by omega)]
        exact hrest k (by omega)
    · have h2 : p l[j] = true := by simpa using h2
      rw [h2, if_pos rfl, List.append_nil] at hk
      refine ⟨_, next, ?_⟩
      exact ⟨(j + 1, i, R), ⟨rfl, rfl, rfl, rfl, trivial⟩, ⟨by show i = ((l.take (j + 1)).filter fun x => !p x).length; rw [hk]; exact hi, by show i < j + 1; omega, hlt, hRl, ho5, by show R.take i = ((l.take (j + 1)).filter fun x => !p x); rw [hk]; exact htake, fun k hk1 => hrest k (by have : j + 1 ≤ k := hk1; omega), b5⟩, by show l.length - (j + 1) < l.length - j; omega⟩
  · have : j = l.length := by have : ¬ (j : Int) < (l.length : Nat) := hge; omega
    subst this
    rw [List.take_length] at hi htake
    obtain ⟨cur, hg, hgB, hcl, hccap, hncap, hdl, hct, hput⟩ := ownsRow_open ho2
    refine ⟨i, l.length, rfl, rfl, by omega, by omega, ?_⟩
    have hA : (if cap = i then (some (⟨g, 0, none⟩ : Addr)) else (some (⟨g, 0, none⟩ : Addr)).map (·.add (i * 10))) = some ⟨g, 0 + i * 10, none⟩ := by
      rw [if_neg (by omega)]
      simp [add_spot]
    refine clearRow (esz := 10) C_ok rfl rfl rfl rfl rfl rfl rfl (by decide) hA (by omega) hg (by omega) ?_
    intro zs w3 hzs h3
    have ho3 := hput (0 + i * 10) zs w3 (by rw [hzs]; omega) h3
    refine ⟨0, i, rfl, rfl, Nat.zero_le _, by omega, ?_⟩
    have e : (if cap = 0 then (some ⟨g, 0, none⟩ : Option Addr) else (some (⟨g, 0, none⟩ : Addr)).map (·.add (0 * 10))) = some ⟨g, 0, none⟩ := by
      split <;> rfl
    have hcut := ownsRow_cut ho3 (k := i) (by omega)
    have e0 : 0 + i * 10 = i * 10 := by omega
    have hft : (R.flatMap Gift.cells).take (i * 10) = (R.take i).flatMap Gift.cells := flat_take Gift.len (by omega)
    rw [e0, splice_take_at (by rw [flat_length Gift.len]; omega), hft, htake] at hcut
    refine ⟨?_, below_put b2 h3 hgB⟩
    show w3.ownsRow B 37 10 (.slice (if cap = 0 then (some ⟨g, 0, none⟩ : Option Addr) else (some (⟨g, 0, none⟩ : Addr)).map (·.add (0 * 10))) i cap) (l.filter fun x => !p x).length _
    rw [e, ← hi]
    exact hcut
theorem ContainsFuncW_spec {w : World} {A : Option Addr} {l : List Waiv} {c gd : Nat} {cb : Array Value} {p : Waiv → Bool} (hr : Reads w A (l.flatMap Waiv.cells)) (hl : l.length ≤ 2 ^ 20) (hgd : C.can gd = true)
    (hdel : ∀ (x : Waiv) (w' : World), Ext w w' → CallsV C.P gd (#[] ++ [x.val].toArray ++ cb) w' fun v w'' => v = .bool (p x) ∧ Ext w' w'') :
    CallsV C.P 84 #[.slice A l.length c, .func (.func gd) #[] cb] w fun v w' => v = .bool (l.any p) ∧ Ext w w' := by
  refine callsV_of C_ok (args := [_, _]) (plans := []) Tryz.func84 rfl Tryz.ntmps84 (by kernel_rfl) (Nat.le_of_ble_eq_true rfl) ?_
  refine (IndexFuncW_spec hr hl hgd hdel).mono ?_
  rintro v w1 ⟨⟨rfl, h⟩ | ⟨i, rfl, hi, hp, _⟩, e1⟩
  · have e : l.any p = false := by rw [List.any_eq_false]; intro x hx; rw [h x hx]; decide
    rw [e]; exact ⟨rfl, e1⟩
  · have e : l.any p = true := List.any_eq_true.2 ⟨_, List.getElem_mem hi, hp⟩
    rw [e]
    refine ⟨?_, e1⟩
    show Value.bool (decide ((0 : Int) ≤ (i : Nat))) = _
    rw [decide_eq_true (by omega)]
theorem underEs : Tryz.prog.underlying 28 = some (.slice 39) := by kernel_rfl
theorem eqNilE (x y : Operand) (A : Option Addr) (n c : Nat) : EqIs C.P .eql 28 x y (.slice A n c) (.slice none 0 0) A.isNone := by
  intro w
  have hu : C.P.underlying 28 = some (.slice 39) := underEs
  have h1 : (eqGuard .eql 28 x y (.slice A n c) (.slice none 0 0)).run C.P w = .ok () w := by simp [eqGuard]
  rw [Sem.run_bind, h1]
  simp only [Result.andThen_ok]
  exact Lib.run_eql_slice_nil w _ _ A n c _ _ hu
theorem CloneE_spec {w : World} {A : Option Addr} {l : List Entry} {c : Nat} (h : Reads w A (l.flatMap Entry.cells)) (hl : l.length ≤ 2 ^ 20) :
    CallsV C.P 75 #[.slice A l.length c] w fun v w' => NewL Entry.cells 39 24 w.heap.size w' v l ∧ Ext w w' := by
  refine callsV_of C_ok (args := [_]) (plans := []) Tryz.func75 rfl Tryz.ntmps75 (by kernel_rfl) (Nat.le_of_ble_eq_true rfl) ?_
  refine ⟨_, eqNilE _ _ _ _ _, ?_⟩
  refine brE_mk (fun hn => ?_) (fun hn => ?_)
  · have hl0 : l = [] := by
      rcases h with h | ⟨b, o, hA, _⟩
      · have := congrArg List.length h
        rw [flat_length Entry.len] at this
        have : l.length * 24 = 0 := this
        exact List.length_eq_zero_iff.1 (by omega)
      · rw [hA] at hn; cases hn
    subst hl0
    exact ⟨newL_nil, Ext.refl _⟩
  · intro g w1 h1
    have ho : w1.ownsRow w.heap.size 39 24 (.slice (some ⟨g, 0, none⟩) 0 0) 0 [] := owns_block (cs := []) h1.here (by rw [h1.new]; exact Nat.le_refl _) rfl (Nat.zero_le _)
    have hd : l.flatMap Entry.cells = [] ∨ ∃ b o, A = some ⟨b, o, none⟩ ∧ Rd w1 b o (l.flatMap Entry.cells) := h.ext h1.ext
    have hs : A.isSome = true := by cases A with
      | none => cases hn
      | some a => rfl
    have h1c : (l.flatMap Entry.cells).all (·.oneCell') = true := by
      rw [List.all_eq_true]
      intro v hv
      obtain ⟨x, _, hx⟩ := List.mem_flatMap.1 hv
      simp [Entry.cells] at hx
      rcases hx with rfl | rfl | rfl | rfl | rfl | rfl | rfl | rfl | rfl | rfl | rfl | rfl | rfl | rfl | rfl | rfl | rfl | rfl | rfl | rfl | rfl | rfl | rfl | rfl <;> rfl
    refine ⟨rfl, rfl, rfl, w.heap.size, 0, [], l.flatMap Entry.cells, ho, h1.ext.size, Nat.le_of_ble_eq_true rfl, rfl, flat_length Entry.len l, hd, by rw [hs]; rfl, h1c, by omega, by simp only [maxLen]; omega, ?_⟩
    intro v2 w2 ho2 hg2 _
    refine ⟨?_, app_ext h1.ext ho hg2⟩
    show w2.ownsRow _ _ _ v2 _ _
    rw [Nat.zero_add, List.nil_append] at ho2
    exact ho2
theorem underDs : Tryz.prog.underlying 93 = some (.slice 74) := by kernel_rfl
theorem eqNilD (x y : Operand) (A : Option Addr) (n c : Nat) : EqIs C.P .eql 93 x y (.slice A n c) (.slice none 0 0) A.isNone := by
  intro w
  have hu : C.P.underlying 93 = some (.slice 74) := underDs
  have h1 : (eqGuard .eql 93 x y (.slice A n c) (.slice none 0 0)).run C.P w = .ok () w := by simp [eqGuard]
  rw [Sem.run_bind, h1]
  simp only [Result.andThen_ok]
  exact Lib.run_eql_slice_nil w _ _ A n c _ _ hu
theorem CloneD_spec {w : World} {A : Option Addr} {l : List Due} {c : Nat} (h : Reads w A (l.flatMap Due.cells)) (hl : l.length ≤ 2 ^ 20) :
    CallsV C.P 172 #[.slice A l.length c] w fun v w' => NewL Due.cells 74 3 w.heap.size w' v l ∧ Ext w w' := by
  refine callsV_of C_ok (args := [_]) (plans := []) Tryz.func172 rfl Tryz.ntmps172 (by kernel_rfl) (Nat.le_of_ble_eq_true rfl) ?_
  refine ⟨_, eqNilD _ _ _ _ _, ?_⟩
  refine brE_mk (fun hn => ?_) (fun hn => ?_)
  · have hl0 : l = [] := by
      rcases h with h | ⟨b, o, hA, _⟩
      · have := congrArg List.length h
        rw [flat_length Due.len] at this
        have : l.length * 3 = 0 := this
        exact List.length_eq_zero_iff.1 (by omega)
      · rw [hA] at hn; cases hn
    subst hl0
    exact ⟨newL_nil, Ext.refl _⟩
  · intro g w1 h1
    have ho : w1.ownsRow w.heap.size 74 3 (.slice (some ⟨g, 0, none⟩) 0 0) 0 [] := owns_block (cs := []) h1.here (by rw [h1.new]; exact Nat.le_refl _) rfl (Nat.zero_le _)
    have hd : l.flatMap Due.cells = [] ∨ ∃ b o, A = some ⟨b, o, none⟩ ∧ Rd w1 b o (l.flatMap Due.cells) := h.ext h1.ext
    have hs : A.isSome = true := by cases A with
      | none => cases hn
      | some a => rfl
    have h1c : (l.flatMap Due.cells).all (·.oneCell') = true := by
      rw [List.all_eq_true]
      intro v hv
      obtain ⟨x, _, hx⟩ := List.mem_flatMap.1 hv
      simp [Due.cells] at hx
      rcases hx with rfl | rfl | rfl <;> rfl
    refine ⟨rfl, rfl, rfl, w.heap.size, 0, [], l.flatMap Due.cells, ho, h1.ext.size, Nat.le_of_ble_eq_true rfl, rfl, flat_length Due.len l, hd, by rw [hs]; rfl, h1c, by omega, by simp only [maxLen]; omega, ?_⟩
    intro v2 w2 ho2 hg2 _
    refine ⟨?_, app_ext h1.ext ho hg2⟩
    show w2.ownsRow _ _ _ v2 _ _
    rw [Nat.zero_add, List.nil_append] at ho2
    exact ho2
end Go.Proofs.YtcnbpfecgokhiaaGreatDoor
namespace Go.Proofs.YtcnbpfecgokhiaaGreatDoor
open Go.Eng Go.RowKit
open Go.Maps (Keyed)
def sidesV (c d : Int) : Value := .agg #[.int .i64 c, .int .i64 d]
theorem sidesRow : (136 : TypeId) < Tryz.prog.types.size := of_decide_eq_true (by kernel_rfl)
theorem sidesAt : Tryz.prog.keyTypeAt 2 136 = true := by kernel_rfl
theorem sidesT : Tryz.prog.keyType 136 = true := by kernel_rfl
theorem sidesC : Tryz.prog.cellsOf 136 = 2 := by kernel_rfl
theorem intC : Tryz.prog.cellsOf 3 = 1 := by kernel_rfl
theorem sidesU : Tryz.prog.underlying 136 = some (.struct #[⟨ "creditor", 3, 0, false, "", "sennet/dues", 0⟩, ⟨ "debtor", 3, 1, false, "", "sennet/dues", 8⟩]) := by kernel_rfl
theorem sidesK : Keyed C.P 136 := Keyed.of_law (deep_law_laid laidOut (m := 2) (by omega) sidesRow sidesAt (by rw [sidesU]))
theorem succ_ofL {k n : Nat} (h : k < n) : ∃ m, n = m + 1 := ⟨n - 1, by omega⟩
theorem sidesKey {c d : Int} (h1 : In64 c) (h2 : In64 d) : keyOf C.P 136 (sidesV c d) = some (.string (keyBytes [.int .i64 c, .int .i64 d])) := by
  show keyOf Tryz.prog 136 _ = _
  have w1 := wf64 h1
  have w2 := wf64 h2
  obtain ⟨m, hm⟩ : ∃ m, Tryz.prog.types.size = m + 1 := succ_ofL sidesRow
  have hk : Tryz.prog.keyLits (m + 2) 136 [.int .i64 c, .int .i64 d] = some [.int .i64 c, .int .i64 d] := by
    simp [Program.keyLits, sidesC, intC, w1, w2]
  simp [keyOf, sidesT, sidesV, Value.formed, sidesC, Value.cells, hm, hk]
theorem sidesV_inj {a b c d : Int} (h : sidesV a b = sidesV c d) : a = c ∧ b = d := by
  simp [sidesV] at h
  exact h
def dueP (d : Due) : Value × Value := (sidesV d.cred d.debt, .int .i64 d.waiver)
theorem dueP_mem {l : List Due} {c d : Int} {u : Value} : (sidesV c d, u) ∈ l.map dueP ↔ ∃ x ∈ l, x.cred = c ∧ x.debt = d ∧ u = .int .i64 x.waiver := by
  rw [List.mem_map]
  constructor
  · rintro ⟨x, hx, e⟩
    unfold dueP at e
    injection e with e1 e2
    obtain ⟨h1, h2⟩ := sidesV_inj e1
    exact ⟨x, hx, h1, h2, e2.symm⟩
  · rintro ⟨x, hx, h1, h2, h3⟩
    exact ⟨x, hx, by unfold dueP; rw [h1, h2, h3]⟩
theorem owns_at {w : World} {base e size n : Nat} {v : Value} {xs : List Value} (h : w.ownsRow base e size v n xs) {k : Nat} (hk : v.ownBlock = some k) : base ≤ k ∧ ∃ cur, w.heap[k]? = some (.cells cur e (0, 0)) := by
  obtain ⟨_, hv | ⟨g, cap, cur, hv, hb, hg, _⟩⟩ := h
  · rw [hv.1] at hk; cases hk
  · rw [hv] at hk
    have hk : g = k := by simpa [Value.ownBlock] using hk
    subst hk
    exact ⟨hb, cur, hg⟩
theorem owns_same {w w' : World} {base e size n : Nat} {v : Value} {xs : List Value} (h : w.ownsRow base e size v n xs) (hs : ∀ k, v.ownBlock = some k → w'.heap[k]? = w.heap[k]?) : w'.ownsRow base e size v n xs := by
  obtain ⟨hl, hv | ⟨g, cap, cur, hv, hb, hg, h1⟩⟩ := h
  · exact ⟨hl, .inl hv⟩
  · exact ⟨hl, .inr ⟨g, cap, cur, hv, hb, by rw [hs g (by rw [hv]; rfl)]; exact hg, h1⟩⟩
theorem map_at {P : Program} {k b : Nat} {w : World} {f : Value → Option Value} (h : MapIs P k w b f) : ∃ es clk, w.heap[b]? = some (.map es clk) := by
  obtain ⟨es, clk, h, _⟩ := h
  exact ⟨es, clk, h⟩
theorem mapL_at {P : Program} {k b : Nat} {w : World} {D : List (Value × Value)} (h : MapL P k w b D) : ∃ es clk, w.heap[b]? = some (.map es clk) := by
  obtain ⟨es, clk, h, _⟩ := h
  exact ⟨es, clk, h⟩
structure SV where
  gs : Nat
  bR : Nat
  bC : Nat
  bD : Nat
  bM : Nat
  vW : Value
  vG : Value
def SV.cells (s : SV) : List Value := [.map (some s.bR), .map (some s.bC), s.vW, .map (some s.bD), s.vG, .map (some s.bM)]
def SV.has (s : SV) (k : Nat) : Prop := k = s.gs ∨ k = s.bR ∨ k = s.bC ∨ k = s.bD ∨ k = s.bM ∨ s.vW.ownBlock = some k ∨ s.vG.ownBlock = some k
def numV (n : Int) : Option Value := if n = 0 then none else some (.int .i64 n)
structure StateIs (w : World) (s : SV) (es : List Entry) : Prop where
  block : w.heap[s.gs]? = some (.cells s.cells.toArray 125 (0, 0))
  rates : ∃ f, MapIs C.P 3 w s.bR f ∧ ∀ c, f (.int .i64 c) = numV (rateL es c)
  ceils : ∃ f, MapIs C.P 3 w s.bC f ∧ ∀ c, f (.int .i64 c) = numV (ceilL es c)
  waivs : w.ownsRow 0 35 9 s.vW (waivL es).length ((waivL es).flatMap Waiv.cells)
  dues : MapL C.P 136 w s.bD ((dueL es).map dueP)
  gifts : w.ownsRow 0 37 10 s.vG (giftL es).length ((giftL es).flatMap Gift.cells)
  mets : ∃ f, MapIs C.P 3 w s.bM f ∧ ∀ c, c ≠ 0 → f (.int .i64 c) = numV (metL (giftL es) c)
  nodup : [s.gs, s.bR, s.bC, s.bD, s.bM].Nodup
theorem StateIs.lt {w : World} {s : SV} {es : List Entry} (h : StateIs w s es) {k : Nat} (hk : s.has k) : k < w.heap.size := by
  rcases hk with rfl | rfl | rfl | rfl | rfl | hk | hk
  · exact lt_of_heap h.block
  · obtain ⟨f, hm, _⟩ := h.rates; obtain ⟨a, b, e⟩ := map_at hm; exact lt_of_heap e
  · obtain ⟨f, hm, _⟩ := h.ceils; obtain ⟨a, b, e⟩ := map_at hm; exact lt_of_heap e
  · exact h.dues.lt
  · obtain ⟨f, hm, _⟩ := h.mets; obtain ⟨a, b, e⟩ := map_at hm; exact lt_of_heap e
  · obtain ⟨_, cur, e⟩ := owns_at h.waivs hk; exact lt_of_heap e
  · obtain ⟨_, cur, e⟩ := owns_at h.gifts hk; exact lt_of_heap e
theorem StateIs.keep {w w' : World} {s : SV} {es : List Entry} (h : StateIs w s es) (hs : ∀ k, s.has k → w'.heap[k]? = w.heap[k]?) : StateIs w' s es := by
  refine ⟨by rw [hs _ (.inl rfl)]; exact h.block, ?_, ?_, owns_same h.waivs fun k hk => hs k (.inr (.inr (.inr (.inr (.inr (.inl hk)))))), h.dues.same (hs _ (.inr (.inr (.inr (.inl rfl))))), owns_same h.gifts fun k hk => hs k (.inr (.inr (.inr (.inr (.inr (.inr hk)))))), ?_, h.nodup⟩
  · obtain ⟨f, hm, hf⟩ := h.rates; exact ⟨f, hm.same (hs _ (.inr (.inl rfl))), hf⟩
  · obtain ⟨f, hm, hf⟩ := h.ceils; exact ⟨f, hm.same (hs _ (.inr (.inr (.inl rfl)))), hf⟩
  · obtain ⟨f, hm, hf⟩ := h.mets; exact ⟨f, hm.same (hs _ (.inr (.inr (.inr (.inr (.inl rfl)))))), hf⟩
theorem StateIs.ext {w w' : World} {s : SV} {es : List Entry} (h : StateIs w s es) (e : Ext w w') : StateIs w' s es := h.keep fun _ hk => e.block _ (h.lt hk)
/-- The rows lie apart from the other blocks, and from one another. -/
theorem StateIs.apartW {w : World} {s : SV} {es : List Entry} (h : StateIs w s es) {k : Nat} (hk : s.vW.ownBlock = some k) : k ≠ s.gs ∧ k ≠ s.bR ∧ k ≠ s.bC ∧ k ≠ s.bD ∧ k ≠ s.bM ∧ s.vG.ownBlock ≠ some k := by
  obtain ⟨_, cur, hc⟩ := owns_at h.waivs hk
  refine ⟨fun e => ?_, fun e => ?_, fun e => ?_, fun e => ?_, fun e => ?_, fun e => ?_⟩
  · rw [e, h.block] at hc; simp at hc
  · obtain ⟨f, hm, _⟩ := h.rates; obtain ⟨a, b, e2⟩ := map_at hm; rw [e, e2] at hc; cases hc
  · obtain ⟨f, hm, _⟩ := h.ceils; obtain ⟨a, b, e2⟩ := map_at hm; rw [e, e2] at hc; cases hc
  · obtain ⟨a, b, e2⟩ := mapL_at h.dues; rw [e, e2] at hc; cases hc
  · obtain ⟨f, hm, _⟩ := h.mets; obtain ⟨a, b, e2⟩ := map_at hm; rw [e, e2] at hc; cases hc
  · obtain ⟨_, cur2, hc2⟩ := owns_at h.gifts e; rw [hc2] at hc; simp at hc
theorem StateIs.apartG {w : World} {s : SV} {es : List Entry} (h : StateIs w s es) {k : Nat} (hk : s.vG.ownBlock = some k) : k ≠ s.gs ∧ k ≠ s.bR ∧ k ≠ s.bC ∧ k ≠ s.bD ∧ k ≠ s.bM ∧ s.vW.ownBlock ≠ some k := by
  obtain ⟨_, cur, hc⟩ := owns_at h.gifts hk
  refine ⟨fun e => ?_, fun e => ?_, fun e => ?_, fun e => ?_, fun e => ?_, fun e => ?_⟩
  · rw [e, h.block] at hc; simp at hc
  · obtain ⟨f, hm, _⟩ := h.rates; obtain ⟨a, b, e2⟩ := map_at hm; rw [e, e2] at hc; cases hc
  · obtain ⟨f, hm, _⟩ := h.ceils; obtain ⟨a, b, e2⟩ := map_at hm; rw [e, e2] at hc; cases hc
  · obtain ⟨a, b, e2⟩ := mapL_at h.dues; rw [e, e2] at hc; cases hc
  · obtain ⟨f, hm, _⟩ := h.mets; obtain ⟨a, b, e2⟩ := map_at hm; rw [e, e2] at hc; cases hc
  · obtain ⟨_, cur2, hc2⟩ := owns_at h.waivs e; rw [hc2] at hc; simp at hc
/-- What becomes of a state: the same block, other entries; all else is as it was. -/
def StGo (w : World) (s : SV) (es : List Entry) (w' : World) : Prop := ∃ s', s'.gs = s.gs ∧ StateIs w' s' es ∧ Keep (fun k => ¬ s.has k) w w' ∧ ∀ k, s'.has k → s.has k ∨ w.heap.size ≤ k
theorem keep_ext {D : Nat → Prop} {w w' : World} (e : Ext w w') : Keep D w w' := (Keep.refl D w).ext e
theorem newState_spec (w : World) : CallsV C.P 68 #[] w fun v w' => (∃ s, v = .pointer (some ⟨s.gs, 0, none⟩) ∧ StateIs w' s [] ∧ ∀ k, s.has k → w.heap.size ≤ k) ∧ Ext w w' := by
  refine callsV_of C_ok (args := []) (plans := []) Tryz.func68 rfl Tryz.ntmps68 (by kernel_rfl) (Nat.le_of_ble_eq_true rfl) ?_
  intro g1 w1 h1
  have M1 := (Mem.start w).alloc h1
  intro g2 w2 h2
  have M2 := M1.alloc h2
  intro g3 w3 h3
  have M3 := M2.alloc h3
  intro g4 w4 h4
  have M4 := M3.alloc h4
  intro g5 w5 h5
  have M5 : Mem w w5 [(g5, .cells (SV.mk g5 g1 g2 g3 g4 (.slice none 0 0) (.slice none 0 0)).cells.toArray 125 (0, 0)), (g4, .map #[] 0), (g3, .map #[] 0), (g2, .map #[] 0), (g1, .map #[] 0)] := M4.alloc h5
  refine ⟨⟨⟨g5, g1, g2, g3, g4, .slice none 0 0, .slice none 0 0⟩, rfl, ⟨M5.get 0 rfl, ⟨_, MapIs.empty (M5.get 4 rfl), fun c => rfl⟩, ⟨_, MapIs.empty (M5.get 3 rfl), fun c => rfl⟩, World.ownsRow_nil _ _ _ _, MapL.empty (M5.get 2 rfl), World.ownsRow_nil _ _ _ _, ⟨_, MapIs.empty (M5.get 1 rfl), fun c _ => rfl⟩, ?_⟩, ?_⟩, M5.ext⟩
  · have := M5.nodup
    simp only [List.map_cons, List.map_nil, List.nodup_cons, List.mem_cons, List.not_mem_nil, or_false, not_or, not_false_eq_true, List.nodup_nil, and_true] at this ⊢
    omega
  · rintro k (rfl | rfl | rfl | rfl | rfl | hk | hk)
    · exact M5.new 0 rfl
    · exact M5.new 4 rfl
    · exact M5.new 3 rfl
    · exact M5.new 2 rfl
    · exact M5.new 1 rfl
    · cases hk
    · cases hk
theorem upd_num {f : Value → Option Value} {g g' : Int → Int} (hf : ∀ c, f (.int .i64 c) = numV (g c)) {a n : Int} (hn : n ≠ 0) (hg : ∀ c, g' c = if a = c then n else g c) : ∀ c, updV f (.int .i64 a) (.int .i64 n) (.int .i64 c) = numV (g' c) := by
  intro c
  unfold updV
  rw [hg c]
  by_cases h : a = c
  · subst h
    rw [if_pos rfl, if_pos rfl, numV, if_neg hn]
  · rw [if_neg (fun e => h (by injection e with _ e; exact e.symm)), if_neg h, hf c]
theorem plain_gifts {es : List Entry} {x : Entry} (hk : x.kind ≠ 5 ∧ x.kind ≠ 6 ∧ x.kind ≠ 7) : giftL (es ++ [x]) = giftL es := gift_plain hk.1 hk.2.1 hk.2.2
theorem plain_waivs {es : List Entry} {x : Entry} (hk : x.kind ≠ 3 ∧ x.kind ≠ 4) : waivL (es ++ [x]) = waivL es := by
  rw [waivL_snoc]; unfold waivS; rw [if_neg hk.1, if_neg hk.2]
theorem plain_dues {es : List Entry} {x : Entry} (hk : x.kind ≠ 3) : dueL (es ++ [x]) = dueL es := by rw [dueL_snoc, if_neg hk]
theorem plain_rate {es : List Entry} {x : Entry} (hk : x.kind ≠ 1) (c : Int) : rateL (es ++ [x]) c = rateL es c := by
  rw [rateL_snoc]; unfold rateS; rw [if_neg (fun h => hk h.1)]
theorem plain_ceil {es : List Entry} {x : Entry} (hk : x.kind ≠ 2) (c : Int) : ceilL (es ++ [x]) c = ceilL es c := by
  rw [ceilL_snoc]; unfold ceilS; rw [if_neg (fun h => hk h.1)]
theorem rate_spec {w : World} {s : SV} {es : List Entry} {x : Entry} (h : StateIs w s es) (hk : x.kind = 1) (hx : x.Nums) (hn : x.n ≠ 0) :
    CallsV C.P 154 (#[] ++ [.pointer (some ⟨s.gs, 0, none⟩), x.val].toArray ++ #[]) w fun _ w' => StGo w s (es ++ [x]) w' := by
  refine callsV_of C_ok (args := [_, _]) (plans := plans154) Tryz.func154 rfl Tryz.ntmps154 (by kernel_rfl) (Nat.le_of_ble_eq_true rfl) ?_
  intro g1 w1 h1
  have M1 : Mem w w1 [(g1, .cells x.cells.toArray 39 (0, 0))] := (Mem.start w).alloc h1
  have hs := h.ext M1.ext
  refine ⟨_, cell_of_block (i := 0) hs.block rfl, ?_⟩
  refine ⟨_, M1.cell 0 rfl rfl, ?_⟩
  refine ⟨_, M1.cell 0 rfl rfl, ?_⟩
  obtain ⟨f, hm, hf⟩ := hs.rates
  refine mapPut C_ok rfl rfl (x := .int .i64 x.a) rfl rfl rfl rfl intK (intKey hx.a) hm ?_
  intro o' w2 h2 hm2
  have same : ∀ k, s.has k → k ≠ s.bR → w2.heap[k]? = w.heap[k]? := fun k hk hne => by rw [h2.there k hne, M1.ext.block k (h.lt hk)]
  have hnd := h.nodup
  simp only [List.nodup_cons, List.mem_cons, List.not_mem_nil, or_false, not_or, not_false_eq_true, List.nodup_nil, and_true] at hnd
  refine ⟨s, rfl, ⟨by rw [same _ (.inl rfl) (by omega)]; exact h.block, ⟨_, hm2, upd_num hf hn fun c => by rw [rateL_snoc]; unfold rateS; simp only [hk, true_and]⟩, ?_, ?_, ?_, ?_, ?_, h.nodup⟩, ?_, fun k hk => .inl hk⟩
  · obtain ⟨f, hm, hf⟩ := h.ceils
    exact ⟨f, hm.same (same _ (.inr (.inr (.inl rfl))) (by omega)), fun c => by rw [plain_ceil (by omega)]; exact hf c⟩
  · rw [plain_waivs (by omega)]
    exact owns_same h.waivs fun k hk => same k (.inr (.inr (.inr (.inr (.inr (.inl hk)))))) (h.apartW hk).2.1
  · rw [plain_dues (by omega)]
    exact h.dues.same (same _ (.inr (.inr (.inr (.inl rfl)))) (by omega))
  · rw [plain_gifts (by omega)]
    exact owns_same h.gifts fun k hk => same k (.inr (.inr (.inr (.inr (.inr (.inr hk)))))) (h.apartG hk).2.1
  · obtain ⟨f, hm, hf⟩ := h.mets
    exact ⟨f, hm.same (same _ (.inr (.inr (.inr (.inr (.inl rfl))))) (by omega)), fun c hc => by rw [plain_gifts (by omega)]; exact hf c hc⟩
  · exact (keep_ext M1.ext).put h2 (fun hn => hn (.inr (.inl rfl)))
theorem ceiling_spec {w : World} {s : SV} {es : List Entry} {x : Entry} (h : StateIs w s es) (hk : x.kind = 2) (hx : x.Nums) (hn : x.n ≠ 0) :
    CallsV C.P 155 (#[] ++ [.pointer (some ⟨s.gs, 0, none⟩), x.val].toArray ++ #[]) w fun _ w' => StGo w s (es ++ [x]) w' := by
  refine callsV_of C_ok (args := [_, _]) (plans := plans155) Tryz.func155 rfl Tryz.ntmps155 (by kernel_rfl) (Nat.le_of_ble_eq_true rfl) ?_
  intro g1 w1 h1
  have M1 : Mem w w1 [(g1, .cells x.cells.toArray 39 (0, 0))] := (Mem.start w).alloc h1
  have hs := h.ext M1.ext
  refine ⟨_, cell_of_block (i := 1) hs.block rfl, ?_⟩
  refine ⟨_, M1.cell 0 rfl rfl, ?_⟩
  refine ⟨_, M1.cell 0 rfl rfl, ?_⟩
  obtain ⟨f, hm, hf⟩ := hs.ceils
  refine mapPut C_ok rfl rfl (x := .int .i64 x.a) rfl rfl rfl rfl intK (intKey hx.a) hm ?_
  intro o' w2 h2 hm2
  have same : ∀ k, s.has k → k ≠ s.bC → w2.heap[k]? = w.heap[k]? := fun k hk hne => by rw [h2.there k hne, M1.ext.block k (h.lt hk)]
  have hnd := h.nodup
  simp only [List.nodup_cons, List.mem_cons, List.not_mem_nil, or_false, not_or, not_false_eq_true, List.nodup_nil, and_true] at hnd
  refine ⟨s, rfl, ⟨by rw [same _ (.inl rfl) (by omega)]; exact h.block, ?_, ⟨_, hm2, upd_num hf hn fun c => by rw [ceilL_snoc]; unfold ceilS; simp only [hk, true_and]⟩, ?_, ?_, ?_, ?_, h.nodup⟩, ?_, fun k hk => .inl hk⟩
  · obtain ⟨f, hm, hf⟩ := h.rates
    exact ⟨f, hm.same (same _ (.inr (.inl rfl)) (by omega)), fun c => by rw [plain_rate (by omega)]; exact hf c⟩
  · rw [plain_waivs (by omega)]
    exact owns_same h.waivs fun k hk => same k (.inr (.inr (.inr (.inr (.inr (.inl hk)))))) (h.apartW hk).2.2.1
  · rw [plain_dues (by omega)]
    exact h.dues.same (same _ (.inr (.inr (.inr (.inl rfl)))) (by omega))
  · rw [plain_gifts (by omega)]
    exact owns_same h.gifts fun k hk => same k (.inr (.inr (.inr (.inr (.inr (.inr hk)))))) (h.apartG hk).2.2.1
  · obtain ⟨f, hm, hf⟩ := h.mets
    exact ⟨f, hm.same (same _ (.inr (.inr (.inr (.inr (.inl rfl))))) (by omega)), fun c hc => by rw [plain_gifts (by omega)]; exact hf c hc⟩
  · exact (keep_ext M1.ext).put h2 (fun hn => hn (.inr (.inr (.inl rfl))))
end Go.Proofs.YtcnbpfecgokhiaaGreatDoor
namespace Go.Proofs.YtcnbpfecgokhiaaGreatDoor
open Go.Eng Go.RowKit
open Go.Maps (Keyed)
theorem maxQ {o : Oper} {l : Env} {w : World} {x y : Operand} {ts : Array Nat} {a b c : Int} (hm : max a b = c) (ho : o.op = .call ⟨.builtin .max, #[x, y], ts⟩) (hx : evo l x = some (.int .i64 a)) (hy : evo l y = some (.int .i64 b)) :
    QuietRun C o l w (.int .i64 c) := by
  have hm : (if b > a then b else a) = c := by rw [← hm, Int.max_def]; split <;> split <;> omega
  intro ρ hρ w' _
  unfold execOp
  rw [ho, ← hm]
  simp [resolve, invoke, builtin, hρ _ _ hx, hρ _ _ hy, Builtin.max_, Builtin.max2]
theorem minQ {o : Oper} {l : Env} {w : World} {x y : Operand} {ts : Array Nat} {a b c : Int} (hm : min a b = c) (ho : o.op = .call ⟨.builtin .min, #[x, y], ts⟩) (hx : evo l x = some (.int .i64 a)) (hy : evo l y = some (.int .i64 b)) :
    QuietRun C o l w (.int .i64 c) := by
  have hm : (if b < a then b else a) = c := by rw [← hm, Int.min_def]; split <;> split <;> omega
  intro ρ hρ w' _
  unfold execOp
  rw [ho, ← hm]
  simp [resolve, invoke, builtin, hρ _ _ hx, hρ _ _ hy, Builtin.min_, Builtin.min2]
/-- An element of a row of one's own: read, and a part of it written. -/
theorem row_open {α : Type} {enc : α → List Value} {k e : Nat} (hk : ∀ x, (enc x).length = k) (k0 : 0 < k) {w : World} {v : Value} {l : List α} (h : w.ownsRow 0 e k v l.length (l.flatMap enc)) {i : Nat} (hi : i < l.length) :
    ∃ g cap, ∃ cur : List Value, v = .slice (some ⟨g, 0, none⟩) l.length cap ∧ w.heap[g]? = some (.cells cur.toArray e (0, 0)) ∧ 0 + i * k + k ≤ cur.length ∧ v.ownBlock = some g ∧ Rd w g (0 + i * k) (enc l[i]) ∧
      ∀ (c : Nat) (vs : List Value) (y : α) (w' : World), splice (enc l[i]) c vs = enc y → c + vs.length ≤ k → Put w g (.cells (splice cur (0 + i * k + c) vs).toArray e (0, 0)) w' → w'.ownsRow 0 e k v (l.set i y).length ((l.set i y).flatMap enc) := by
  have hv : ∃ g cap, v = .slice (some ⟨g, 0, none⟩) l.length cap := by
    obtain ⟨_, ⟨_, h0⟩ | ⟨g, cap, cur, hv, _⟩⟩ := h
    · omega
    · exact ⟨g, cap, hv⟩
  obtain ⟨g, cap, rfl⟩ := hv
  obtain ⟨cur, hg, _, hn, _, _, hxl, ht, hput⟩ := ownsRow_open h
  have hb : (i + 1) * k ≤ l.length * k := Nat.mul_le_mul_right k hi
  rw [Nat.add_mul, Nat.one_mul] at hb
  obtain ⟨A, c2, hA, hr, _⟩ := reads_of_owns h
  refine ⟨g, cap, cur, rfl, hg, by omega, rfl, ?_, fun c vs y w' h1 h2 h3 => ?_⟩
  · cases hA
    obtain ⟨b, o, hb2, hrd⟩ := Reads.elem hk k0 hr hi
    cases hb2
    exact hrd
  · have := hput (0 + i * k + c) vs w' (by omega) h3
    rw [Nat.zero_add, flat_field hk hi h1 h2] at this
    rw [List.length_set]
    exact this
theorem grant_facts {sg : Int} {es : List Entry} {x : Entry} (hk : x.kind = 3) (hx : doE sg es x = 0) : (waivL es).length < 500 ∧ x.w.id = (((waivL es).length + 1 : Nat) : Int) ∧ owesB (dueL es) x.w.giver x.w.taker = false := by
  obtain ⟨hf, hl, hr⟩ := do_zero hx
  unfold refusedE at hr
  rw [if_pos hk] at hr
  unfold grantedE at hr
  split at hr
  · cases hr
  rename_i r1
  split at hr
  · cases hr
  rename_i r2
  split at hr
  · rename_i r3; exact absurd hr r3
  split at hr
  · cases hr
  rename_i r4
  have := Decidable.not_not.1 r2
  exact ⟨by omega, by omega, by simpa using r4⟩
theorem dropK_dues (l : List Due) (c d : Int) : dropK (sidesV c d) (l.map dueP) = (l.filter fun x => !decide (x.cred = c ∧ x.debt = d)).map dueP := by
  classical
  unfold dropK
  rw [List.filter_map]
  congr 1
  refine List.filter_congr fun x _ => ?_
  show (!decide ((dueP x).1 = sidesV c d)) = _
  congr 1
  rw [decide_eq_decide]
  constructor
  · intro h; exact sidesV_inj h
  · rintro ⟨h1, h2⟩; unfold dueP; rw [h1, h2]
set_option maxRecDepth 100000 in
theorem grant_spec {w : World} {s : SV} {es : List Entry} {x : Entry} {sg : Int} (h : StateIs w s es) (hk : x.kind = 3) (hx : x.Nums) (hdo : doE sg es x = 0) :
    CallsV C.P 156 (#[] ++ [.pointer (some ⟨s.gs, 0, none⟩), x.val].toArray ++ #[]) w fun _ w' => StGo w s (es ++ [x]) w' := by
  obtain ⟨hlen, hid, how⟩ := grant_facts hk hdo
  refine callsV_of C_ok (args := [_, _]) (plans := plans156) Tryz.func156 rfl Tryz.ntmps156 (by kernel_rfl) (Nat.le_of_ble_eq_true rfl) ?_
  intro g1 w1 h1
  have M1 : Mem w w1 [(g1, .cells x.cells.toArray 39 (0, 0))] := (Mem.start w).alloc h1
  refine ⟨x.w.cells, rfl, (M1.rd 0 rfl).part x.w_part, ?_⟩
  intro g2 w2 h2
  have M2 := M1.alloc h2
  refine ⟨rfl, _, _, M2.get 0 rfl, Nat.le_of_ble_eq_true rfl, rfl, ?_⟩
  intro w3 h3
  have M3 : Mem w w3 [(g2, .cells x.w.cells.toArray 35 (0, 0)), (g1, .cells x.cells.toArray 39 (0, 0))] := M2.put 0 rfl h3
  have hs3 := h.ext M3.ext
  refine ⟨_, cell_of_block (i := 2) hs3.block rfl, ?_⟩
  refine ⟨x.w.cells, rfl, M3.rd 0 rfl, ?_⟩
  intro g4 w4 h4
  refine ⟨h4.ext, ?_⟩
  have M4 := M3.alloc h4
  have hs4 := h.ext M4.ext
  refine ⟨rfl, rfl, rfl, 0, _, _, x.w.cells, hs4.waivs, Nat.zero_le _, Nat.le_of_ble_eq_true rfl, rfl, rfl, .inr ⟨g4, 0, rfl, Rd.of_block h4.here⟩, rfl, rfl, by omega, by simp only [maxLen]; omega, ?_⟩
  intro v5 w5 ho5 hg5 hpl
  obtain ⟨A5, c5, rfl, _, _⟩ := reads_of_owns ho5
  have lt4 : ∀ k, s.has k → k < w4.heap.size := fun k hk => hs4.lt hk
  have hW : ∀ k, s.vW.ownBlock = some k → k ≠ s.gs ∧ k ≠ s.bR ∧ k ≠ s.bC ∧ k ≠ s.bD ∧ k ≠ s.bM ∧ s.vG.ownBlock ≠ some k := fun k hk => h.apartW hk
  have same5 : ∀ k, s.has k → s.vW.ownBlock ≠ some k → w5.heap[k]? = w.heap[k]? := fun k hk hne => by
    rw [hg5.block k (lt4 k hk) (fun e => hne e.symm), M4.ext.block k (h.lt hk)]
  have hb5 : w5.heap[s.gs]? = some (.cells s.cells.toArray 125 (0, 0)) := by
    rw [same5 _ (.inl rfl) (fun e => (hW _ e).1 rfl)]; exact h.block
  have old : ∀ k, s.has k → k < w.heap.size := fun k hk => h.lt hk
  have hg2 : w5.heap[g2]? = some (.cells x.w.cells.toArray 35 (0, 0)) := by
    rw [hg5.block g2 (lt_of_heap (M4.get 1 rfl)) (fun e => by have := old g2 (.inr (.inr (.inr (.inr (.inr (.inl e.symm)))))); have := M4.new 1 rfl; omega)]
    exact M4.get 1 rfl
  refine ⟨rfl, _, _, hb5, Nat.le_of_ble_eq_true rfl, rfl, ?_⟩
  intro w6 h6
  generalize hs' : (SV.mk s.gs s.bR s.bC s.bD s.bM (.slice A5 ((waivL es).length + 1) c5) s.vG) = s'
  have h6 : Put w5 s.gs (.cells s'.cells.toArray 125 (0, 0)) w6 := by rw [← hs']; exact h6
  have hg26 : w6.heap[g2]? = some (.cells x.w.cells.toArray 35 (0, 0)) := by
    rw [h6.there g2 (fun e => by have := old g2 (.inl e); have := M4.new 1 rfl; omega)]; exact hg2
  refine ⟨_, cell_of_block (i := 4) hg26 rfl, ?_⟩
  refine ⟨_, cell_of_block (i := 3) hg26 rfl, ?_⟩
  intro g7 w7 h7
  refine ⟨rfl, _, _, h7.here, Nat.le_of_ble_eq_true rfl, rfl, ?_⟩
  intro w8 h8
  have e68 : Ext w6 w8 := h8.ext_of h7.ext (by rw [h7.new]; exact Nat.le_refl _)
  -- the pieces at w8
  have hb8 : w8.heap[s.gs]? = some (.cells s'.cells.toArray 125 (0, 0)) := e68.heap h6.here
  have size46 : w6.heap.size = w5.heap.size := h6.size
  have same8 : ∀ k, s.has k → s.vW.ownBlock ≠ some k → k ≠ s.gs → w8.heap[k]? = w.heap[k]? := fun k hk hne hng => by
    have : w6.heap[k]? = w.heap[k]? := by rw [h6.there k hng, same5 k hk hne]
    rw [e68.block k (by have := lt4 k hk; have := hg5.size; omega), this]
  have hD8 : MapL C.P 136 w8 s.bD ((dueL es).map dueP) := h.dues.same (same8 _ (.inr (.inr (.inr (.inl rfl)))) (fun e => (hW _ e).2.2.2.1 rfl) (by
    have hnd := h.nodup
    simp only [List.nodup_cons, List.mem_cons, List.not_mem_nil, or_false, not_or, not_false_eq_true, List.nodup_nil, and_true] at hnd
    omega))
  have hg28 : w8.heap[g2]? = some (.cells x.w.cells.toArray 35 (0, 0)) := e68.heap hg26
  have ho8 : w8.ownsRow 0 35 9 (.slice A5 ((waivL es).length + 1) c5) ((waivL es).length + 1) ((waivL es).flatMap Waiv.cells ++ x.w.cells) := by
    refine ownsRow_ext (ownsRow_put ho5 h6 (fun e => ?_)) e68
    obtain ⟨_, cur, hc⟩ := owns_at ho5 e
    rw [hb5] at hc; simp at hc
  have keep8 : Keep (fun k => ¬ s.has k) w w8 := ((((keep_ext M4.ext).grown hg5 (fun k hk hn => hn (.inr (.inr (.inr (.inr (.inr (.inl hk)))))))).put h6 (fun hn => hn (.inl rfl))).ext e68)
  have hnd := h.nodup
  have hnd' : [s'.gs, s'.bR, s'.bC, s'.bD, s'.bM].Nodup := by rw [← hs']; exact hnd
  simp only [List.nodup_cons, List.mem_cons, List.not_mem_nil, or_false, not_or, not_false_eq_true, List.nodup_nil, and_true] at hnd
  have hv5 : ∀ k, (Value.slice A5 ((waivL es).length + 1) c5).ownBlock = some k → s.has k ∨ w.heap.size ≤ k := fun k hk => by
    rcases hpl.2 k hk with h | h
    · exact .inl (.inr (.inr (.inr (.inr (.inr (.inl h))))))
    · exact .inr (Nat.le_trans M4.ext.size h)
  have hv5d : (Value.slice A5 ((waivL es).length + 1) c5).ownBlock ≠ some s.bD := fun e => by
    obtain ⟨_, cur, hc⟩ := owns_at ho8 e
    obtain ⟨a, b, e2⟩ := mapL_at hD8
    rw [e2] at hc; cases hc
  -- what is left to be shown behind the last step
  have fin : ∀ {o' : Obj} {w9 : World}, Put w8 s.bD o' w9 → MapL C.P 136 w9 s.bD ((dueS (dueL es) x.w).map dueP) → StGo w s (es ++ [x]) w9 := fun {o'} {w9} h9 hD9 => by
    have same9 : ∀ k, s.has k → s.vW.ownBlock ≠ some k → k ≠ s.gs → k ≠ s.bD → w9.heap[k]? = w.heap[k]? := fun k hk hne hng hnd => by rw [h9.there k hnd, same8 k hk hne hng]
    refine ⟨s', by rw [← hs'], ⟨?_, ?_, ?_, ?_, ?_, ?_, ?_, hnd'⟩, keep8.put h9 (fun hn => hn (.inr (.inr (.inr (.inl rfl))))), fun k hk => ?_⟩
    · rw [show s'.gs = s.gs by rw [← hs'], h9.there _ (by omega)]; exact hb8
    · obtain ⟨f, hm, hf⟩ := h.rates
      rw [← hs']
      exact ⟨f, hm.same (same9 _ (.inr (.inl rfl)) (fun e => (hW _ e).2.1 rfl) (by omega) (by omega)), fun c => by rw [plain_rate (by omega)]; exact hf c⟩
    · obtain ⟨f, hm, hf⟩ := h.ceils
      rw [← hs']
      exact ⟨f, hm.same (same9 _ (.inr (.inr (.inl rfl))) (fun e => (hW _ e).2.2.1 rfl) (by omega) (by omega)), fun c => by rw [plain_ceil (by omega)]; exact hf c⟩
    · have hw : waivL (es ++ [x]) = waivL es ++ [x.w] := by rw [waivL_snoc]; unfold waivS; rw [if_pos hk]
      rw [hw, ← hs', List.length_append, List.flatMap_append]
      have := ownsRow_put ho8 h9 hv5d
      simpa using this
    · rw [← hs', dueL_snoc, if_pos hk]; exact hD9
    · rw [plain_gifts (by omega), ← hs']
      exact owns_same h.gifts fun k hk => same9 k (.inr (.inr (.inr (.inr (.inr (.inr hk)))))) (h.apartG hk).2.2.2.2.2 (h.apartG hk).1 (h.apartG hk).2.2.2.1
    · obtain ⟨f, hm, hf⟩ := h.mets
      rw [← hs']
      exact ⟨f, hm.same (same9 _ (.inr (.inr (.inr (.inr (.inl rfl))))) (fun e => (hW _ e).2.2.2.2.1 rfl) (by omega) (by omega)), fun c hc => by rw [plain_gifts (by omega)]; exact hf c hc⟩
    · rw [← hs'] at hk
      rcases hk with hk | hk | hk | hk | hk | hk | hk
      · exact .inl (.inl hk)
      · exact .inl (.inr (.inl hk))
      · exact .inl (.inr (.inr (.inl hk)))
      · exact .inl (.inr (.inr (.inr (.inl hk))))
      · exact .inl (.inr (.inr (.inr (.inr (.inl hk)))))
      · exact hv5 k hk
      · exact .inl (.inr (.inr (.inr (.inr (.inr (.inr hk))))))
  refine ⟨_, cell_of_block (i := 3) hb8 (by rw [← hs']; rfl), ?_⟩
  refine ⟨[.int .i64 x.w.taker, .int .i64 x.w.giver], rfl, Rd.of_block h8.here, ?_⟩
  by_cases hd : (dueL es).any (fun d => decide (d.cred = x.w.taker ∧ d.debt = x.w.giver)) = true
  · obtain ⟨d, hd1, hd2⟩ := List.any_eq_true.1 hd
    have hd2 := of_decide_eq_true hd2
    refine ⟨.tuple #[.int .i64 d.waiver, .bool true], mapLGet C_ok (te := ty3) (x := sidesV x.w.taker x.w.giver) (sidesKey hx.w.taker hx.w.giver) hD8 sidesK rfl rfl rfl rfl rfl rfl (.inl ⟨rfl, dueP_mem.2 ⟨d, hd1, hd2.1, hd2.2, rfl⟩⟩), ?_⟩
    refine ⟨_, cell_of_block (i := 3) hb8 (by rw [← hs']; rfl), ?_⟩
    refine ⟨[.int .i64 x.w.taker, .int .i64 x.w.giver], rfl, Rd.of_block h8.here, ?_⟩
    refine mapLDel C_ok (x := sidesV x.w.taker x.w.giver) (sidesKey hx.w.taker hx.w.giver) hD8 sidesK rfl rfl rfl rfl rfl ?_
    intro o' w9 h9 hD9
    refine fin h9 ?_
    rw [dropK_dues] at hD9
    unfold dueS
    rw [if_pos hd]; exact hD9
  · have hno : ∀ u, (sidesV x.w.taker x.w.giver, u) ∉ (dueL es).map dueP := fun u hu => by
      obtain ⟨d, hd1, hd2, hd3, _⟩ := dueP_mem.1 hu
      exact hd (List.any_eq_true.2 ⟨d, hd1, decide_eq_true ⟨hd2, hd3⟩⟩)
    refine ⟨.tuple #[.int .i64 0, .bool false], mapLGet C_ok (te := ty3) (x := sidesV x.w.taker x.w.giver) (sidesKey hx.w.taker hx.w.giver) hD8 sidesK rfl rfl rfl rfl rfl rfl (.inr ⟨rfl, rfl, hno⟩), ?_⟩
    refine ⟨_, cell_of_block (i := 3) hb8 (by rw [← hs']; rfl), ?_⟩
    refine ⟨_, cell_of_block (i := 3) hg28 rfl, ?_⟩
    refine ⟨_, cell_of_block (i := 4) hg28 rfl, ?_⟩
    refine ⟨_, cell_of_block (i := 0) hg28 rfl, ?_⟩
    refine mapLPut C_ok (x := sidesV x.w.giver x.w.taker) (sidesKey hx.w.giver hx.w.taker) hD8 sidesK rfl rfl rfl rfl rfl rfl (fun u hu => by
      obtain ⟨d, hd1, hd2, hd3, _⟩ := dueP_mem.1 hu
      have := owes_iff.2 ⟨d, hd1, hd2, hd3⟩
      rw [how] at this; cases this) ?_
    intro o' w9 h9 hD9
    refine fin h9 ?_
    unfold dueS
    rw [if_neg hd, List.map_append]
    exact hD9
theorem end_facts {sg : Int} {es : List Entry} {x : Entry} (hk : x.kind = 4) (hx : doE sg es x = 0) : ∃ k, ∃ _ : k < (waivL es).length, x.w.id = ((k + 1 : Nat) : Int) := by
  obtain ⟨hf, hl, hr⟩ := do_zero hx
  obtain ⟨hok, _, _⟩ := form_okE hf
  have hid : 1 ≤ x.w.id := by
    unfold okE at hok
    rw [if_neg (by omega), if_neg (by omega), if_neg (by omega), if_pos hk, decide_eq_true_eq] at hok
    exact hok.1
  unfold refusedE at hr
  rw [if_neg (by omega), if_pos hk] at hr
  split at hr
  · cases hr
  rename_i r1
  obtain ⟨k, hk, he⟩ := num_of (n := (waivL es).length) (i := x.w.id) hid (by omega)
  exact ⟨k, hk, he⟩
set_option maxRecDepth 100000 in
theorem end_spec {w : World} {s : SV} {es : List Entry} {x : Entry} {sg : Int} (h : StateIs w s es) (hA : Acc es) (hk : x.kind = 4) (hx : x.Nums) (hdo : doE sg es x = 0) :
    CallsV C.P 157 (#[] ++ [.pointer (some ⟨s.gs, 0, none⟩), x.val].toArray ++ #[]) w fun _ w' => StGo w s (es ++ [x]) w' := by
  obtain ⟨k, hlk, hid⟩ := end_facts hk hdo
  have hwl := (acc_ok hA).wlen
  refine callsV_of C_ok (args := [_, _]) (plans := plans157) Tryz.func157 rfl Tryz.ntmps157 (by kernel_rfl) (Nat.le_of_ble_eq_true rfl) ?_
  intro g1 w1 h1
  have M1 : Mem w w1 [(g1, .cells x.cells.toArray 39 (0, 0))] := (Mem.start w).alloc h1
  have hs := h.ext M1.ext
  obtain ⟨g, cap, cur, hv, hg, hb, hown, hrd, hput⟩ := row_open Waiv.len (by omega) hs.waivs hlk
  refine ⟨.slice (some ⟨g, 0, none⟩) (waivL es).length cap, cell_of_block (i := 2) hs.block (by show some s.vW = _; rw [hv]), ?_⟩
  refine ⟨_, M1.cell 0 rfl rfl, ?_⟩
  refine ⟨(k : Int), by show IntKind.i64.wrap (x.w.id - 1) = _; rw [hid, fit ⟨by omega, by omega⟩]; omega, ?_⟩
  refine ⟨k, g, 0, rfl, hlk, rfl, ?_⟩
  refine ⟨_, hrd 8 _ rfl, ?_⟩
  refine ⟨_, M1.cell 0 rfl rfl, ?_⟩
  refine ⟨_, hrd 7 _ rfl, ?_⟩
  refine ⟨_, maxQ rfl rfl rfl rfl, ?_⟩
  refine ⟨_, minQ rfl rfl rfl rfl, ?_⟩
  refine ⟨rfl, _, _, hg, by show 0 + k * 9 + 8 + 1 ≤ _; omega, rfl, ?_⟩
  intro w2 h2
  have hrow := hput 8 _ (endW x.day (waivL es)[k]) w2 rfl (Nat.le_of_ble_eq_true rfl) h2
  have hW := h.apartW hown
  have same : ∀ q, s.has q → q ≠ g → w2.heap[q]? = w.heap[q]? := fun q hq hne => by rw [h2.there q hne, M1.ext.block q (h.lt hq)]
  refine ⟨s, rfl, ⟨?_, ?_, ?_, ?_, ?_, ?_, ?_, h.nodup⟩, (keep_ext M1.ext).put h2 (fun hn => hn (.inr (.inr (.inr (.inr (.inr (.inl hown))))))), fun k hk => .inl hk⟩
  · rw [same _ (.inl rfl) hW.1.symm]; exact h.block
  · obtain ⟨f, hm, hf⟩ := h.rates
    exact ⟨f, hm.same (same _ (.inr (.inl rfl)) hW.2.1.symm), fun c => by rw [plain_rate (by omega)]; exact hf c⟩
  · obtain ⟨f, hm, hf⟩ := h.ceils
    exact ⟨f, hm.same (same _ (.inr (.inr (.inl rfl))) hW.2.2.1.symm), fun c => by rw [plain_ceil (by omega)]; exact hf c⟩
  · have hw : waivL (es ++ [x]) = (waivL es).set k (endW x.day (waivL es)[k]) := by rw [waivL_snoc]; unfold waivS; rw [if_neg (by omega), if_pos hk, hid, updAt_eq hlk]
    rw [hw]; exact hrow
  · rw [plain_dues (by omega)]
    exact h.dues.same (same _ (.inr (.inr (.inr (.inl rfl)))) hW.2.2.2.1.symm)
  · rw [plain_gifts (by omega)]
    exact owns_same h.gifts fun q hq => same q (.inr (.inr (.inr (.inr (.inr (.inr hq)))))) (fun e => hW.2.2.2.2.2 (by rw [← e]; exact hq))
  · obtain ⟨f, hm, hf⟩ := h.mets
    exact ⟨f, hm.same (same _ (.inr (.inr (.inr (.inr (.inl rfl))))) hW.2.2.2.2.1.symm), fun c hc => by rw [plain_gifts (by omega)]; exact hf c hc⟩
end Go.Proofs.YtcnbpfecgokhiaaGreatDoor
