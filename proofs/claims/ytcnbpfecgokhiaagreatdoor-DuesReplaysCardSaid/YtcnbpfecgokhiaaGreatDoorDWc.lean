/- Dues: what is well-formed: the reference; small tests (printed by tools/dform.py). -/
import Derived.Test.YtcnbpfecgokhiaaGreatDoorDWb
set_option linter.unusedVariables false
set_option linter.unusedSimpArgs false
set_option linter.unnecessarySimpa false
set_option linter.unusedSectionVars false
namespace Go.Proofs.YtcnbpfecgokhiaaGreatDoor
open Go.Eng Go.RowKit
theorem of_not_true {b : Bool} (h : (!b) = true) : b = false := by cases b with | true => cases h | false => rfl
theorem of_not_false {b : Bool} (h : (!b) = false) : b = true := by cases b with | true => rfl | false => cases h

set_option maxRecDepth 100000 in
theorem valid_spec (x : Waiv) (w : World) : CallsV C.P 94 #[x.val] w fun v w' => v = .bool (rightW x) ∧ Ext w w' := by
  have hids : ∀ {b : Bool}, b = idsW x → b = false → rightW x = false := fun h1 h2 => by rw [rightW_parts, ← h1, h2]; simp only [Bool.false_and]
  have hday : inB x.day 0 100000 = false → rightW x = false := fun h => by rw [rightW_parts, h]; simp only [Bool.and_false, Bool.false_and]
  have hgue : guestsW x = false → rightW x = false := fun h => by rw [rightW_parts, h]; simp only [Bool.and_false, Bool.false_and]
  have hI : idsW x = (inB x.id 1 500 && idB x.signer && idB x.giver && idB x.taker && !decide (x.giver = x.taker)) := rfl
  refine callsV_ofS (args := [_]) Tryz.func94 rfl Tryz.ntmps94 C_ok (Nat.le_of_ble_eq_true rfl) ?_
  refine Snd.go C_ok [] (by kernel_rfl) ?_
  intro g1 w1 h1
  have M1 : Mem w w1 [(g1, .cells x.cells.toArray 35 (0, 0))] := (Mem.start w).alloc h1
  refine ⟨Snd.go C_ok [] (by kernel_rfl) ?_⟩
  refine ⟨_, M1.cell 0 rfl rfl, ?_⟩
  refine (within6_spec x.id 1 500 _).mono ?_
  rintro _ w9 ⟨rfl, rfl⟩
  refine brE_mk (fun q => ⟨congrArg Value.bool (by have h : inB x.id 1 500 = false := of_not_true q; exact (hids (b := idsW x) rfl (by rw [hI, h]; simp only [Bool.and_false, Bool.false_and])).symm), M1.ext⟩) (fun q => ?_)
  have q0 : inB x.id 1 500 = true := of_not_false q
  refine ⟨_, M1.cell 0 rfl rfl, ?_⟩
  refine (within6_spec x.day 0 100000 _).mono ?_
  rintro _ w9 ⟨rfl, rfl⟩
  refine brE_mk (fun q => ⟨congrArg Value.bool (by have h : inB x.day 0 100000 = false := of_not_true q; exact (hday h).symm), M1.ext⟩) (fun q => ?_)
  have q1 : inB x.day 0 100000 = true := of_not_false q
  refine ⟨_, M1.cell 0 rfl rfl, ?_⟩
  refine (id6_spec x.signer _).mono ?_
  rintro _ w9 ⟨rfl, rfl⟩
  refine brE_mk (fun q => ⟨congrArg Value.bool (by have h : idB x.signer = false := of_not_true q; exact (hids (b := idsW x) rfl (by rw [hI, h]; simp only [Bool.and_false, Bool.false_and])).symm), M1.ext⟩) (fun q => ?_)
  have q2 : idB x.signer = true := of_not_false q
  refine ⟨_, M1.cell 0 rfl rfl, ?_⟩
  refine (id6_spec x.giver _).mono ?_
  rintro _ w9 ⟨rfl, rfl⟩
  refine brE_mk (fun q => ⟨congrArg Value.bool (by have h : idB x.giver = false := of_not_true q; exact (hids (b := idsW x) rfl (by rw [hI, h]; simp only [Bool.and_false, Bool.false_and])).symm), M1.ext⟩) (fun q => ?_)
  have q3 : idB x.giver = true := of_not_false q
  refine ⟨_, M1.cell 0 rfl rfl, ?_⟩
  refine (id6_spec x.taker _).mono ?_
  rintro _ w9 ⟨rfl, rfl⟩
  refine brE_mk (fun q => ⟨congrArg Value.bool (by have h : idB x.taker = false := of_not_true q; exact (hids (b := idsW x) rfl (by rw [hI, h]; simp only [Bool.and_false, Bool.false_and])).symm), M1.ext⟩) (fun q => ?_)
  have q4 : idB x.taker = true := of_not_false q
  refine ⟨_, M1.cell 0 rfl rfl, ?_⟩
  refine ⟨_, M1.cell 0 rfl rfl, ?_⟩
  refine brE_dec (fun q => ⟨congrArg Value.bool (by have h : decide (x.giver = x.taker) = true := decide_eq_true q; exact (hids (b := idsW x) rfl (by rw [hI, h]; simp only [Bool.not_true, Bool.and_false])).symm), M1.ext⟩) (fun q => ?_)
  have q5 : decide (x.giver = x.taker) = false := decide_eq_false q
  have hI1 : idsW x = true := by rw [hI, q0, q2, q3, q4, q5]; rfl
  refine ⟨Snd.join C_ok [] (fun _ : Unit => [(1, .pointer (some ⟨g1, 0, none⟩))]) (fun _ w' => w' = w9 ∧ guestsW x = true) (by kernel_rfl) ?_ ?_⟩
  · have hE : guestsW x = (persB x.under && persB x.over && (decide (x.under = 0) || !decide (x.under = x.over))) := rfl
    refine ⟨_, M1.cell 0 rfl rfl, ?_⟩
    have both : ∀ (u : Bool), decide (x.under = 0) = u → persB x.under = true → True := fun _ _ _ => trivial
    refine brE_ndec (fun u => ?_) (fun u => ?_)
    · have u : ¬ x.under = 0 := u
      refine ⟨_, M1.cell 0 rfl rfl, ?_⟩
      refine (id6_spec x.under _).mono ?_
      rintro _ w8 ⟨rfl, rfl⟩
      refine brE_mk (fun q => ⟨congrArg Value.bool (by have h : idB x.under = false := of_not_true q; exact (hgue (by rw [hE]; unfold persB; rw [h, decide_eq_false u]; simp only [Bool.or_false, Bool.and_false, Bool.false_and])).symm), M1.ext⟩) (fun q => ?_)
      have hu : persB x.under = true := by unfold persB; rw [show idB x.under = true from of_not_false q, Bool.or_true]
      refine ⟨_, M1.cell 0 rfl rfl, ?_⟩
      refine brE_ndec (fun o => ?_) (fun o => ?_)
      · have o : ¬ x.over = 0 := o
        refine ⟨_, M1.cell 0 rfl rfl, ?_⟩
        refine (id6_spec x.over _).mono ?_
        rintro _ w8 ⟨rfl, rfl⟩
        refine brE_mk (fun q => ⟨congrArg Value.bool (by have h : idB x.over = false := of_not_true q; exact (hgue (by rw [hE]; unfold persB; rw [h, decide_eq_false o]; simp only [Bool.or_false, Bool.and_false, Bool.false_and])).symm), M1.ext⟩) (fun q => ?_)
        have ho : persB x.over = true := by unfold persB; rw [show idB x.over = true from of_not_false q, Bool.or_true]
        refine ⟨_, M1.cell 0 rfl rfl, ?_⟩
        refine brE_ndec (fun u2 => ?_) (fun u2 => ?_)
        · have u2 : ¬ x.under = 0 := u2
          refine ⟨_, M1.cell 0 rfl rfl, ?_⟩
          refine ⟨_, M1.cell 0 rfl rfl, ?_⟩
          refine brE_dec (fun q => ⟨congrArg Value.bool (hgue (by rw [hE, decide_eq_true (show x.under = x.over from q), decide_eq_false u2]; simp only [Bool.not_true, Bool.or_false, Bool.and_false])).symm, M1.ext⟩) (fun q => ?_)
          exact ⟨(), ⟨rfl, trivial⟩, rfl, by rw [hE, hu, ho, decide_eq_false (show ¬ x.under = x.over from q), Bool.not_false, Bool.or_true]; rfl⟩
        · have u2 : x.under = 0 := u2
          exact ⟨(), ⟨rfl, trivial⟩, rfl, by rw [hE, hu, ho, decide_eq_true u2]; rfl⟩
      · have o : x.over = 0 := o
        have ho : persB x.over = true := by unfold persB; rw [decide_eq_true o]; rfl
        refine ⟨_, M1.cell 0 rfl rfl, ?_⟩
        refine brE_ndec (fun u2 => ?_) (fun u2 => ?_)
        · have u2 : ¬ x.under = 0 := u2
          refine ⟨_, M1.cell 0 rfl rfl, ?_⟩
          refine ⟨_, M1.cell 0 rfl rfl, ?_⟩
          refine brE_dec (fun q => ⟨congrArg Value.bool (hgue (by rw [hE, decide_eq_true (show x.under = x.over from q), decide_eq_false u2]; simp only [Bool.not_true, Bool.or_false, Bool.and_false])).symm, M1.ext⟩) (fun q => ?_)
          exact ⟨(), ⟨rfl, trivial⟩, rfl, by rw [hE, hu, ho, decide_eq_false (show ¬ x.under = x.over from q), Bool.not_false, Bool.or_true]; rfl⟩
        · have u2 : x.under = 0 := u2
          exact ⟨(), ⟨rfl, trivial⟩, rfl, by rw [hE, hu, ho, decide_eq_true u2]; rfl⟩
    · have u : x.under = 0 := u
      have hu : persB x.under = true := by unfold persB; rw [decide_eq_true u]; rfl
      refine ⟨_, M1.cell 0 rfl rfl, ?_⟩
      refine brE_ndec (fun o => ?_) (fun o => ?_)
      · have o : ¬ x.over = 0 := o
        refine ⟨_, M1.cell 0 rfl rfl, ?_⟩
        refine (id6_spec x.over _).mono ?_
        rintro _ w8 ⟨rfl, rfl⟩
        refine brE_mk (fun q => ⟨congrArg Value.bool (by have h : idB x.over = false := of_not_true q; exact (hgue (by rw [hE]; unfold persB; rw [h, decide_eq_false o]; simp only [Bool.or_false, Bool.and_false, Bool.false_and])).symm), M1.ext⟩) (fun q => ?_)
        have ho : persB x.over = true := by unfold persB; rw [show idB x.over = true from of_not_false q, Bool.or_true]
        refine ⟨_, M1.cell 0 rfl rfl, ?_⟩
        refine brE_ndec (fun u2 => ?_) (fun u2 => ?_)
        · have u2 : ¬ x.under = 0 := u2
          refine ⟨_, M1.cell 0 rfl rfl, ?_⟩
          refine ⟨_, M1.cell 0 rfl rfl, ?_⟩
          refine brE_dec (fun q => ⟨congrArg Value.bool (hgue (by rw [hE, decide_eq_true (show x.under = x.over from q), decide_eq_false u2]; simp only [Bool.not_true, Bool.or_false, Bool.and_false])).symm, M1.ext⟩) (fun q => ?_)
          exact ⟨(), ⟨rfl, trivial⟩, rfl, by rw [hE, hu, ho, decide_eq_false (show ¬ x.under = x.over from q), Bool.not_false, Bool.or_true]; rfl⟩
        · have u2 : x.under = 0 := u2
          exact ⟨(), ⟨rfl, trivial⟩, rfl, by rw [hE, hu, ho, decide_eq_true u2]; rfl⟩
      · have o : x.over = 0 := o
        have ho : persB x.over = true := by unfold persB; rw [decide_eq_true o]; rfl
        refine ⟨_, M1.cell 0 rfl rfl, ?_⟩
        refine brE_ndec (fun u2 => ?_) (fun u2 => ?_)
        · have u2 : ¬ x.under = 0 := u2
          refine ⟨_, M1.cell 0 rfl rfl, ?_⟩
          refine ⟨_, M1.cell 0 rfl rfl, ?_⟩
          refine brE_dec (fun q => ⟨congrArg Value.bool (hgue (by rw [hE, decide_eq_true (show x.under = x.over from q), decide_eq_false u2]; simp only [Bool.not_true, Bool.or_false, Bool.and_false])).symm, M1.ext⟩) (fun q => ?_)
          exact ⟨(), ⟨rfl, trivial⟩, rfl, by rw [hE, hu, ho, decide_eq_false (show ¬ x.under = x.over from q), Bool.not_false, Bool.or_true]; rfl⟩
        · have u2 : x.under = 0 := u2
          exact ⟨(), ⟨rfl, trivial⟩, rfl, by rw [hE, hu, ho, decide_eq_true u2]; rfl⟩
  rintro _ w8 ⟨rfl, hG⟩
  have hE : rightW x = (decide (x.day ≤ x.since) && decide (x.since < x.til) && decide (x.til ≤ 100000)) := by rw [rightW_parts, hI1, hG, q1]; simp only [Bool.true_and]
  refine Snd.fin C_ok (plans := []) (by kernel_rfl) ?_
  refine ⟨_, M1.cell 0 rfl rfl, ?_⟩
  refine ⟨_, M1.cell 0 rfl rfl, ?_⟩
  refine brE_mk (fun q => ?_) (fun q => ⟨congrArg Value.bool (by rw [hE, show decide (x.day ≤ x.since) = false from q]; simp only [Bool.and_false, Bool.false_and]), M1.ext⟩)
  have q0 : decide (x.day ≤ x.since) = true := q
  refine ⟨_, M1.cell 0 rfl rfl, ?_⟩
  refine ⟨_, M1.cell 0 rfl rfl, ?_⟩
  refine brE_mk (fun q => ?_) (fun q => ⟨congrArg Value.bool (by rw [hE, show decide (x.since < x.til) = false from q]; simp only [Bool.and_false, Bool.false_and]), M1.ext⟩)
  have q1 : decide (x.since < x.til) = true := q
  refine ⟨_, M1.cell 0 rfl rfl, ?_⟩
  exact ⟨congrArg Value.bool (by rw [hE]; simp only [q0, q1, Bool.true_and]), M1.ext⟩

theorem okE_5 {x : Entry} (h5 : x.kind = 5) : okE x = (rightG x.g && decide (x.g.day = x.day)) := by
  unfold okE; rw [if_neg (by omega), if_neg (by omega), if_neg (by omega), if_neg (by omega), if_pos h5]
theorem form_5 {x : Entry} (h5 : x.kind = 5) : (okE x && decide (x = wantE x)) = (decide (x = ⟨x.kind, x.day, waivZ, { plainG x.g with day := x.day }, 0, 0, 0⟩) && inB x.g.id 1 500 && idB x.g.frm && idB x.g.to && !decide (x.g.frm = x.g.to) && inB x.g.cur 1 2 && inB x.g.n 1 1000000 && inB x.g.returns 0 500 && !decide (x.g.returns = x.g.id)) := by
  have hW : wantE x = ⟨x.kind, x.day, waivZ, plainG x.g, 0, 0, 0⟩ := by unfold wantE; rw [if_neg (by omega), if_neg (by omega), if_neg (by omega), if_pos h5]
  rw [okE_5 h5, hW]
  have hd : decide (x = ⟨x.kind, x.day, waivZ, { plainG x.g with day := x.day }, 0, 0, 0⟩) = (decide (x.g.day = x.day) && decide (x = ⟨x.kind, x.day, waivZ, plainG x.g, 0, 0, 0⟩)) := by
    rw [Bool.eq_iff_iff, Bool.and_eq_true, decide_eq_true_eq, decide_eq_true_eq, decide_eq_true_eq]
    constructor
    · intro h
      have h1 : x.g.day = x.day := congrArg (fun e => e.g.day) h
      refine ⟨h1, ?_⟩
      have : plainG x.g = { plainG x.g with day := x.day } := by rw [← h1]; rfl
      rw [this]; exact h
    · rintro ⟨h1, h⟩
      have : plainG x.g = { plainG x.g with day := x.day } := by rw [← h1]; rfl
      rw [this] at h; exact h
  rw [hd]
  unfold rightG
  generalize decide (x.g.day = x.day) = a0
  generalize decide (x = ⟨x.kind, x.day, waivZ, plainG x.g, 0, 0, 0⟩) = a1
  generalize inB x.g.id 1 500 = a2
  generalize idB x.g.frm = a3
  generalize idB x.g.to = a4
  generalize (!decide (x.g.frm = x.g.to)) = a5
  generalize inB x.g.cur 1 2 = a6
  generalize inB x.g.n 1 1000000 = a7
  generalize inB x.g.returns 0 500 = a8
  generalize (!decide (x.g.returns = x.g.id)) = a9
  revert a0 a1 a2 a3 a4 a5 a6 a7 a8 a9
  decide
set_option maxRecDepth 100000 in
set_option maxHeartbeats 4000000 in
theorem formed6_spec (x : Entry) (hx : x.Nums) (w : World) : CallsV C.P 99 #[x.val] w fun v w' => v = .bool (formX x) ∧ Ext w w' := by
  refine callsV_ofS (args := [_]) Tryz.func99 rfl Tryz.ntmps99 C_ok (Nat.le_of_ble_eq_true rfl) ?_
  refine Snd.go C_ok [] (by kernel_rfl) ?_
  intro g1 w1 h1
  have M1 : Mem w w1 [(g1, .cells x.cells.toArray 39 (0, 0))] := (Mem.start w).alloc h1
  refine ⟨Snd.go C_ok [] (by kernel_rfl) ?_⟩
  refine ⟨_, M1.cell 0 rfl rfl, ?_⟩
  refine (within6_spec x.day 0 100000 _).mono ?_
  rintro _ w1' ⟨rfl, rfl⟩
  refine brE_mk (fun q => ⟨congrArg Value.bool (by have h : inB x.day 0 100000 = false := of_not_true q; unfold formX; rw [show dayB x.day = false from h]; simp only [Bool.and_false]), M1.ext⟩) (fun q => ?_)
  have hdy : dayB x.day = true := of_not_false q
  have hF : formX x = (okE x && decide (x = wantE x)) := by unfold formX; rw [hdy, Bool.and_true]
  refine ⟨Snd.go C_ok [] (by kernel_rfl) ?_⟩
  refine ⟨_, M1.cell 0 rfl rfl, ?_⟩
  refine ⟨_, M1.cell 0 rfl rfl, ?_⟩
  intro g3 w2 h2
  have M2 := M1.alloc h2
  refine ⟨rfl, _, _, M2.get 0 rfl, Nat.le_of_ble_eq_true rfl, rfl, ?_⟩
  intro w3 h3
  have M3 : Mem w w3 [(g3, .cells (⟨x.kind, x.day, waivZ, giftZ, 0, 0, 0⟩ : Entry).cells.toArray 39 (0, 0)), (g1, .cells x.cells.toArray 39 (0, 0))] := M2.put 0 rfl h3
  clear M1 M2 h1 h2 h3
  refine ⟨Snd.fin C_ok (plans := []) (by kernel_rfl) ?_⟩
  refine ⟨_, M3.cell 1 rfl rfl, ?_⟩
  refine brE_dec (fun k1 => ?_) (fun k1 => ?_)
  · have k1 : x.kind = 1 := k1
    have hW : wantE x = (⟨x.kind, x.day, waivZ, giftZ, x.a, 0, x.n⟩ : Entry) := by unfold wantE; rw [if_pos (.inl k1)]
    have hE : formX x = (decide (x = (⟨x.kind, x.day, waivZ, giftZ, x.a, 0, x.n⟩ : Entry)) && inB x.a 1 2 && inB x.n 1 1000000) := by rw [hF, hW]; unfold okE; rw [if_pos k1, Bool.and_comm]; simp only [Bool.and_assoc]
    refine ⟨_, M3.cell 1 rfl rfl, ?_⟩
    refine ⟨rfl, _, _, M3.get 0 rfl, Nat.le_of_ble_eq_true rfl, rfl, ?_⟩
    intro w4 h4
    have M4 := M3.put 0 rfl h4
    refine ⟨_, M4.cell 1 rfl rfl, ?_⟩
    refine ⟨rfl, _, _, M4.get 0 rfl, Nat.le_of_ble_eq_true rfl, rfl, ?_⟩
    intro w5 h5
    have M5 : Mem w w5 [(g3, .cells (⟨x.kind, x.day, waivZ, giftZ, x.a, 0, x.n⟩ : Entry).cells.toArray 39 (0, 0)), (g1, .cells x.cells.toArray 39 (0, 0))] := M4.put 0 rfl h5
    refine ⟨x.cells, rfl, M5.rd 1 rfl, ?_⟩
    refine ⟨(⟨x.kind, x.day, waivZ, giftZ, x.a, 0, x.n⟩ : Entry).cells, rfl, M5.rd 0 rfl, ?_⟩
    refine ⟨_, eqE _ _ x ⟨x.kind, x.day, waivZ, giftZ, x.a, 0, x.n⟩, ?_⟩
    refine brE_mk (fun q => ?_) (fun q => ⟨congrArg Value.bool (by rw [hE, show decide (x = (⟨x.kind, x.day, waivZ, giftZ, x.a, 0, x.n⟩ : Entry)) = false from q]; simp only [Bool.and_false, Bool.false_and]), M5.ext⟩)
    have q0 : decide (x = (⟨x.kind, x.day, waivZ, giftZ, x.a, 0, x.n⟩ : Entry)) = true := q
    refine ⟨_, M5.cell 1 rfl rfl, ?_⟩
    refine (within6_spec x.a 1 2 _).mono ?_
    rintro _ w9 ⟨rfl, rfl⟩
    refine brE_mk (fun q => ?_) (fun q => ⟨congrArg Value.bool (by rw [hE, show inB x.a 1 2 = false from q]; simp only [Bool.and_false, Bool.false_and]), M5.ext⟩)
    have q1 : inB x.a 1 2 = true := q
    refine ⟨_, M5.cell 1 rfl rfl, ?_⟩
    refine (within6_spec x.n 1 1000000 _).mono ?_
    rintro _ w9 ⟨rfl, rfl⟩
    exact ⟨congrArg Value.bool (by rw [hE]; simp only [q0, q1, Bool.true_and]), M5.ext⟩
  have k1 : ¬ x.kind = 1 := k1
  refine brE_dec (fun k2 => ?_) (fun k2 => ?_)
  · have k2 : x.kind = 2 := k2
    have hW : wantE x = (⟨x.kind, x.day, waivZ, giftZ, x.a, 0, x.n⟩ : Entry) := by unfold wantE; rw [if_pos (.inr k2)]
    have hE : formX x = (decide (x = (⟨x.kind, x.day, waivZ, giftZ, x.a, 0, x.n⟩ : Entry)) && idB x.a && inB x.n 1 1000000000000) := by rw [hF, hW]; unfold okE; rw [if_neg k1, if_pos k2, Bool.and_comm]; simp only [Bool.and_assoc]
    refine ⟨_, M3.cell 1 rfl rfl, ?_⟩
    refine ⟨rfl, _, _, M3.get 0 rfl, Nat.le_of_ble_eq_true rfl, rfl, ?_⟩
    intro w4 h4
    have M4 := M3.put 0 rfl h4
    refine ⟨_, M4.cell 1 rfl rfl, ?_⟩
    refine ⟨rfl, _, _, M4.get 0 rfl, Nat.le_of_ble_eq_true rfl, rfl, ?_⟩
    intro w5 h5
    have M5 : Mem w w5 [(g3, .cells (⟨x.kind, x.day, waivZ, giftZ, x.a, 0, x.n⟩ : Entry).cells.toArray 39 (0, 0)), (g1, .cells x.cells.toArray 39 (0, 0))] := M4.put 0 rfl h5
    refine ⟨x.cells, rfl, M5.rd 1 rfl, ?_⟩
    refine ⟨(⟨x.kind, x.day, waivZ, giftZ, x.a, 0, x.n⟩ : Entry).cells, rfl, M5.rd 0 rfl, ?_⟩
    refine ⟨_, eqE _ _ x ⟨x.kind, x.day, waivZ, giftZ, x.a, 0, x.n⟩, ?_⟩
    refine brE_mk (fun q => ?_) (fun q => ⟨congrArg Value.bool (by rw [hE, show decide (x = (⟨x.kind, x.day, waivZ, giftZ, x.a, 0, x.n⟩ : Entry)) = false from q]; simp only [Bool.and_false, Bool.false_and]), M5.ext⟩)
    have q0 : decide (x = (⟨x.kind, x.day, waivZ, giftZ, x.a, 0, x.n⟩ : Entry)) = true := q
    refine ⟨_, M5.cell 1 rfl rfl, ?_⟩
    refine (id6_spec x.a _).mono ?_
    rintro _ w9 ⟨rfl, rfl⟩
    refine brE_mk (fun q => ?_) (fun q => ⟨congrArg Value.bool (by rw [hE, show idB x.a = false from q]; simp only [Bool.and_false, Bool.false_and]), M5.ext⟩)
    have q1 : idB x.a = true := q
    refine ⟨_, M5.cell 1 rfl rfl, ?_⟩
    refine (within6_spec x.n 1 1000000000000 _).mono ?_
    rintro _ w9 ⟨rfl, rfl⟩
    exact ⟨congrArg Value.bool (by rw [hE]; simp only [q0, q1, Bool.true_and]), M5.ext⟩
  have k2 : ¬ x.kind = 2 := k2
  refine brE_dec (fun k3 => ?_) (fun k3 => ?_)
  · have k3 : x.kind = 3 := k3
    have hW : wantE x = (⟨x.kind, x.day, x.w, giftZ, 0, 0, 0⟩ : Entry) := by unfold wantE; rw [if_neg (fun e => e.elim k1 k2), if_pos k3]
    have hE : formX x = (decide (x = (⟨x.kind, x.day, x.w, giftZ, 0, 0, 0⟩ : Entry)) && rightW x.w && decide (x.w.day = x.day)) := by rw [hF, hW]; unfold okE; rw [if_neg k1, if_neg k2, if_pos k3, Bool.and_comm]; simp only [Bool.and_assoc]
    refine ⟨x.w.cells, rfl, (M3.rd 1 rfl).part x.w_part, ?_⟩
    refine ⟨rfl, _, _, M3.get 0 rfl, Nat.le_of_ble_eq_true rfl, rfl, ?_⟩
    intro w4 h4
    have M5 : Mem w w4 [(g3, .cells (⟨x.kind, x.day, x.w, giftZ, 0, 0, 0⟩ : Entry).cells.toArray 39 (0, 0)), (g1, .cells x.cells.toArray 39 (0, 0))] := M3.put 0 rfl h4
    refine ⟨x.cells, rfl, M5.rd 1 rfl, ?_⟩
    refine ⟨(⟨x.kind, x.day, x.w, giftZ, 0, 0, 0⟩ : Entry).cells, rfl, M5.rd 0 rfl, ?_⟩
    refine ⟨_, eqE _ _ x ⟨x.kind, x.day, x.w, giftZ, 0, 0, 0⟩, ?_⟩
    refine brE_mk (fun q => ?_) (fun q => ⟨congrArg Value.bool (by rw [hE, show decide (x = (⟨x.kind, x.day, x.w, giftZ, 0, 0, 0⟩ : Entry)) = false from q]; simp only [Bool.and_false, Bool.false_and]), M5.ext⟩)
    have q0 : decide (x = (⟨x.kind, x.day, x.w, giftZ, 0, 0, 0⟩ : Entry)) = true := q
    refine ⟨x.w.cells, rfl, (M5.rd 1 rfl).part x.w_part, ?_⟩
    refine (valid_spec x.w _).mono ?_
    rintro _ w9 ⟨rfl, e9⟩
    replace M5 := M5.grow e9
    refine brE_mk (fun q => ?_) (fun q => ⟨congrArg Value.bool (by rw [hE, show rightW x.w = false from q]; simp only [Bool.and_false, Bool.false_and]), M5.ext⟩)
    have q1 : rightW x.w = true := q
    refine ⟨_, M5.cell 1 rfl rfl, ?_⟩
    refine ⟨_, M5.cell 1 rfl rfl, ?_⟩
    exact ⟨congrArg Value.bool (by rw [hE]; simp only [q0, q1, Bool.true_and]), M5.ext⟩
  have k3 : ¬ x.kind = 3 := k3
  refine brE_dec (fun k4 => ?_) (fun k4 => ?_)
  · have k4 : x.kind = 4 := k4
    have hW : wantE x = (⟨x.kind, x.day, { waivZ with id := x.w.id }, giftZ, 0, 0, 0⟩ : Entry) := by unfold wantE; rw [if_neg (fun e => e.elim k1 k2), if_neg k3, if_pos k4]
    have hE : formX x = (decide (x = (⟨x.kind, x.day, { waivZ with id := x.w.id }, giftZ, 0, 0, 0⟩ : Entry)) && inB x.w.id 1 500) := by rw [hF, hW]; unfold okE; rw [if_neg k1, if_neg k2, if_neg k3, if_pos k4, Bool.and_comm]
    refine ⟨_, M3.cell 1 rfl rfl, ?_⟩
    refine ⟨rfl, _, _, M3.get 0 rfl, Nat.le_of_ble_eq_true rfl, rfl, ?_⟩
    intro w4 h4
    have M5 : Mem w w4 [(g3, .cells (⟨x.kind, x.day, { waivZ with id := x.w.id }, giftZ, 0, 0, 0⟩ : Entry).cells.toArray 39 (0, 0)), (g1, .cells x.cells.toArray 39 (0, 0))] := M3.put 0 rfl h4
    refine ⟨x.cells, rfl, M5.rd 1 rfl, ?_⟩
    refine ⟨(⟨x.kind, x.day, { waivZ with id := x.w.id }, giftZ, 0, 0, 0⟩ : Entry).cells, rfl, M5.rd 0 rfl, ?_⟩
    refine ⟨_, eqE _ _ x ⟨x.kind, x.day, { waivZ with id := x.w.id }, giftZ, 0, 0, 0⟩, ?_⟩
    refine brE_mk (fun q => ?_) (fun q => ⟨congrArg Value.bool (by rw [hE, show decide (x = (⟨x.kind, x.day, { waivZ with id := x.w.id }, giftZ, 0, 0, 0⟩ : Entry)) = false from q]; simp only [Bool.and_false, Bool.false_and]), M5.ext⟩)
    have q0 : decide (x = (⟨x.kind, x.day, { waivZ with id := x.w.id }, giftZ, 0, 0, 0⟩ : Entry)) = true := q
    refine ⟨_, M5.cell 1 rfl rfl, ?_⟩
    refine (within6_spec x.w.id 1 500 _).mono ?_
    rintro _ w9 ⟨rfl, rfl⟩
    exact ⟨congrArg Value.bool (by rw [hE]; simp only [q0, Bool.true_and]), M5.ext⟩
  have k4 : ¬ x.kind = 4 := k4
  refine brE_dec (fun k5 => ?_) (fun k5 => ?_)
  · have k5 : x.kind = 5 := k5
    have hE : formX x = (decide (x = (⟨x.kind, x.day, waivZ, { plainG x.g with day := x.day }, 0, 0, 0⟩ : Entry)) && inB x.g.id 1 500 && idB x.g.frm && idB x.g.to && (!decide (x.g.frm = x.g.to)) && inB x.g.cur 1 2 && inB x.g.n 1 1000000 && inB x.g.returns 0 500 && (!decide (x.g.returns = x.g.id))) := by rw [hF, form_5 k5]
    refine ⟨x.g.cells, rfl, (M3.rd 1 rfl).part x.g_part, ?_⟩
    intro g5 w4 h4
    have M4 := M3.alloc h4
    refine ⟨rfl, _, _, M4.get 0 rfl, Nat.le_of_ble_eq_true rfl, rfl, ?_⟩
    intro w5 h5
    have M5' : Mem w w5 [(g5, .cells x.g.cells.toArray 37 (0, 0)), (g3, .cells (⟨x.kind, x.day, waivZ, giftZ, 0, 0, 0⟩ : Entry).cells.toArray 39 (0, 0)), (g1, .cells x.cells.toArray 39 (0, 0))] := M4.put 0 rfl h5
    clear M4 h4 h5
    refine ⟨_, M5'.cell 0 rfl rfl, ?_⟩
    refine ⟨_, M5'.cell 2 rfl rfl, ?_⟩
    refine ⟨_, M5'.cell 0 rfl rfl, ?_⟩
    refine ⟨_, M5'.cell 0 rfl rfl, ?_⟩
    refine ⟨_, M5'.cell 0 rfl rfl, ?_⟩
    refine ⟨_, M5'.cell 0 rfl rfl, ?_⟩
    refine ⟨_, M5'.cell 0 rfl rfl, ?_⟩
    refine ⟨rfl, _, _, M5'.get 1 rfl, Nat.le_of_ble_eq_true rfl, rfl, ?_⟩
    intro w6 h6
    have M5 : Mem w w6 [(g5, .cells x.g.cells.toArray 37 (0, 0)), (g3, .cells (⟨x.kind, x.day, waivZ, { plainG x.g with day := x.day }, 0, 0, 0⟩ : Entry).cells.toArray 39 (0, 0)), (g1, .cells x.cells.toArray 39 (0, 0))] := M5'.put 1 rfl h6
    refine ⟨x.cells, rfl, M5.rd 2 rfl, ?_⟩
    refine ⟨(⟨x.kind, x.day, waivZ, { plainG x.g with day := x.day }, 0, 0, 0⟩ : Entry).cells, rfl, M5.rd 1 rfl, ?_⟩
    refine ⟨_, eqE _ _ x ⟨x.kind, x.day, waivZ, { plainG x.g with day := x.day }, 0, 0, 0⟩, ?_⟩
    refine brE_mk (fun q => ?_) (fun q => ⟨congrArg Value.bool (by rw [hE, show decide (x = (⟨x.kind, x.day, waivZ, { plainG x.g with day := x.day }, 0, 0, 0⟩ : Entry)) = false from q]; simp only [Bool.and_false, Bool.false_and]), M5.ext⟩)
    have q0 : decide (x = (⟨x.kind, x.day, waivZ, { plainG x.g with day := x.day }, 0, 0, 0⟩ : Entry)) = true := q
    refine ⟨_, M5.cell 0 rfl rfl, ?_⟩
    refine (within6_spec x.g.id 1 500 _).mono ?_
    rintro _ w9 ⟨rfl, rfl⟩
    refine brE_mk (fun q => ?_) (fun q => ⟨congrArg Value.bool (by rw [hE, show inB x.g.id 1 500 = false from q]; simp only [Bool.and_false, Bool.false_and]), M5.ext⟩)
    have q1 : inB x.g.id 1 500 = true := q
    refine ⟨_, M5.cell 0 rfl rfl, ?_⟩
    refine (id6_spec x.g.frm _).mono ?_
    rintro _ w9 ⟨rfl, rfl⟩
    refine brE_mk (fun q => ?_) (fun q => ⟨congrArg Value.bool (by rw [hE, show idB x.g.frm = false from q]; simp only [Bool.and_false, Bool.false_and]), M5.ext⟩)
    have q2 : idB x.g.frm = true := q
    refine ⟨_, M5.cell 0 rfl rfl, ?_⟩
    refine (id6_spec x.g.to _).mono ?_
    rintro _ w9 ⟨rfl, rfl⟩
    refine brE_mk (fun q => ?_) (fun q => ⟨congrArg Value.bool (by rw [hE, show idB x.g.to = false from q]; simp only [Bool.and_false, Bool.false_and]), M5.ext⟩)
    have q3 : idB x.g.to = true := q
    refine ⟨_, M5.cell 0 rfl rfl, ?_⟩
    refine ⟨_, M5.cell 0 rfl rfl, ?_⟩
    refine brE_mk (fun q => ?_) (fun q => ⟨congrArg Value.bool (by rw [hE, show (!decide (x.g.frm = x.g.to)) = false from q]; simp only [Bool.and_false, Bool.false_and]), M5.ext⟩)
    have q4 : (!decide (x.g.frm = x.g.to)) = true := q
    refine ⟨_, M5.cell 0 rfl rfl, ?_⟩
    refine ⟨_, fit ⟨by have := hx.g.cur; omega, by have := hx.g.cur; omega⟩, ?_⟩
    refine (within6_spec x.g.cur 1 2 _).mono ?_
    rintro _ w9 ⟨rfl, rfl⟩
    refine brE_mk (fun q => ?_) (fun q => ⟨congrArg Value.bool (by rw [hE, show inB x.g.cur 1 2 = false from q]; simp only [Bool.and_false, Bool.false_and]), M5.ext⟩)
    have q5 : inB x.g.cur 1 2 = true := q
    refine ⟨_, M5.cell 0 rfl rfl, ?_⟩
    refine (within6_spec x.g.n 1 1000000 _).mono ?_
    rintro _ w9 ⟨rfl, rfl⟩
    refine brE_mk (fun q => ?_) (fun q => ⟨congrArg Value.bool (by rw [hE, show inB x.g.n 1 1000000 = false from q]; simp only [Bool.and_false, Bool.false_and]), M5.ext⟩)
    have q6 : inB x.g.n 1 1000000 = true := q
    refine ⟨_, M5.cell 0 rfl rfl, ?_⟩
    refine (within6_spec x.g.returns 0 500 _).mono ?_
    rintro _ w9 ⟨rfl, rfl⟩
    refine brE_mk (fun q => ?_) (fun q => ⟨congrArg Value.bool (by rw [hE, show inB x.g.returns 0 500 = false from q]; simp only [Bool.and_false, Bool.false_and]), M5.ext⟩)
    have q7 : inB x.g.returns 0 500 = true := q
    refine ⟨_, M5.cell 0 rfl rfl, ?_⟩
    refine ⟨_, M5.cell 0 rfl rfl, ?_⟩
    exact ⟨congrArg Value.bool (by rw [hE]; simp only [q0, q1, q2, q3, q4, q5, q6, q7, Bool.true_and]), M5.ext⟩
  have k5 : ¬ x.kind = 5 := k5
  refine brE_dec (fun k6 => ?K6) (fun k6 => ?N6)
  case' K6 =>
    have hk : x.kind = 6 ∨ x.kind = 7 := .inl k6
    refine brE_true (decide_eq_true k6) ?_
  case' N6 =>
    have k6 : ¬ x.kind = 6 := k6
    refine brE_dec (fun k7 => ?K7) (fun k7 => ?N7)
    case' K7 =>
      have hk : x.kind = 6 ∨ x.kind = 7 := .inr k7
    case' N7 =>
      have k7 : ¬ x.kind = 7 := k7
      exact ⟨congrArg Value.bool (by rw [hF]; unfold okE; rw [if_neg k1, if_neg k2, if_neg k3, if_neg k4, if_neg k5, if_neg (fun e => e.elim k6 k7)]; rfl), M3.ext⟩
  all_goals
    have hW : wantE x = (⟨x.kind, x.day, waivZ, { giftZ with id := x.g.id }, 0, 0, 0⟩ : Entry) := by unfold wantE; rw [if_neg (fun e => e.elim k1 k2), if_neg k3, if_neg k4, if_neg k5, if_pos hk]
    have hE : formX x = (decide (x = (⟨x.kind, x.day, waivZ, { giftZ with id := x.g.id }, 0, 0, 0⟩ : Entry)) && inB x.g.id 1 500) := by rw [hF, hW]; unfold okE; rw [if_neg k1, if_neg k2, if_neg k3, if_neg k4, if_neg k5, if_pos hk, Bool.and_comm]
    refine ⟨_, M3.cell 1 rfl rfl, ?_⟩
    refine ⟨rfl, _, _, M3.get 0 rfl, Nat.le_of_ble_eq_true rfl, rfl, ?_⟩
    intro w4 h4
    have M5 : Mem w w4 [(g3, .cells (⟨x.kind, x.day, waivZ, { giftZ with id := x.g.id }, 0, 0, 0⟩ : Entry).cells.toArray 39 (0, 0)), (g1, .cells x.cells.toArray 39 (0, 0))] := M3.put 0 rfl h4
    refine ⟨x.cells, rfl, M5.rd 1 rfl, ?_⟩
    refine ⟨(⟨x.kind, x.day, waivZ, { giftZ with id := x.g.id }, 0, 0, 0⟩ : Entry).cells, rfl, M5.rd 0 rfl, ?_⟩
    refine ⟨_, eqE _ _ x ⟨x.kind, x.day, waivZ, { giftZ with id := x.g.id }, 0, 0, 0⟩, ?_⟩
    refine brE_mk (fun q => ?_) (fun q => ⟨congrArg Value.bool (by rw [hE, show decide (x = (⟨x.kind, x.day, waivZ, { giftZ with id := x.g.id }, 0, 0, 0⟩ : Entry)) = false from q]; rfl), M5.ext⟩)
    have q0 : decide (x = (⟨x.kind, x.day, waivZ, { giftZ with id := x.g.id }, 0, 0, 0⟩ : Entry)) = true := q
    refine ⟨_, M5.cell 1 rfl rfl, ?_⟩
    refine (within6_spec x.g.id 1 500 _).mono ?_
    rintro _ w9 ⟨rfl, rfl⟩
    exact ⟨congrArg Value.bool (by rw [hE, q0]; rfl), M5.ext⟩


/-! ### small tests -/
theorem debt_spec (x : Gift) (w : World) : CallsV C.P 83 #[x.val] w fun v w' => v = .bool (debtB x) ∧ Ext w w' := by
  refine callsV_of C_ok (args := [_]) (plans := []) Tryz.func83 rfl Tryz.ntmps83 (by kernel_rfl) (Nat.le_of_ble_eq_true rfl) ?_
  intro g1 w1 h1
  have M1 : Mem w w1 [(g1, .cells x.cells.toArray 37 (0, 0))] := (Mem.start w).alloc h1
  refine ⟨_, M1.cell 0 rfl rfl, ?_⟩
  refine brE_mk (fun q => ?_) (fun q => ⟨congrArg Value.bool (by unfold debtB; rw [show decide (x.returns = 0) = false from q]; rfl), M1.ext⟩)
  refine ⟨_, M1.cell 0 rfl rfl, ?_⟩
  exact ⟨congrArg Value.bool (by unfold debtB; rw [show decide (x.returns = 0) = true from q]; rfl), M1.ext⟩
theorem whom_spec (n : Int) (g : Guest) (w : World) : CallsV C.P 127 (#[] ++ [.int .i64 n, g.val].toArray ++ #[]) w fun v w' => v = .bool (decide (n = 0) || decide (n = g.person)) ∧ Ext w w' := by
  refine callsV_of C_ok (args := [_, _]) (plans := []) Tryz.func127 rfl Tryz.ntmps127 (by kernel_rfl) (Nat.le_of_ble_eq_true rfl) ?_
  intro g1 w1 h1
  have M1 : Mem w w1 [(g1, .cells g.cells.toArray 70 (0, 0))] := (Mem.start w).alloc h1
  refine brE_mk (fun q => ⟨congrArg Value.bool (by rw [show decide (n = 0) = true from q]; rfl), M1.ext⟩) (fun q => ?_)
  refine ⟨_, M1.cell 0 rfl rfl, ?_⟩
  exact ⟨congrArg Value.bool (by rw [show decide (n = 0) = false from q]; rfl), M1.ext⟩
set_option maxRecDepth 100000 in
theorem covers_spec (x : Waiv) (u o : Guest) (w : World) : CallsV C.P 86 #[x.val, u.val, o.val] w fun v w' => v = .bool (coversB x u o) ∧ Ext w w' := by
  have hE : coversB x u o = (decide (x.giver = u.state) && decide (x.taker = o.state) && (decide (x.under = 0) || decide (x.under = u.person)) && (decide (x.over = 0) || decide (x.over = o.person))) := by unfold coversB; simp only [Bool.and_assoc]
  refine callsV_of C_ok (args := [_, _, _]) (plans := []) Tryz.func86 rfl Tryz.ntmps86 (by kernel_rfl) (Nat.le_of_ble_eq_true rfl) ?_
  intro g1 w1 h1
  have M1 := (Mem.start w).alloc h1
  intro g2 w2 h2
  have M2 := M1.alloc h2
  intro g3 w3 h3
  have M3 : Mem w w3 [(g3, .cells o.cells.toArray 70 (0, 0)), (g2, .cells u.cells.toArray 70 (0, 0)), (g1, .cells x.cells.toArray 35 (0, 0))] := M2.alloc h3
  clear M1 M2 h1 h2 h3
  refine ⟨_, M3.cell 2 rfl rfl, ?_⟩
  refine ⟨_, M3.cell 1 rfl rfl, ?_⟩
  refine brE_mk (fun q => ?_) (fun q => ⟨congrArg Value.bool (by rw [hE, show decide (x.giver = u.state) = false from q]; simp only [Bool.false_and]), M3.ext⟩)
  have q0 : decide (x.giver = u.state) = true := q
  refine ⟨_, M3.cell 2 rfl rfl, ?_⟩
  refine ⟨_, M3.cell 0 rfl rfl, ?_⟩
  refine brE_mk (fun q => ?_) (fun q => ⟨congrArg Value.bool (by rw [hE, show decide (x.taker = o.state) = false from q]; simp only [Bool.and_false, Bool.false_and]), M3.ext⟩)
  have q1 : decide (x.taker = o.state) = true := q
  refine ⟨_, M3.cell 2 rfl rfl, ?_⟩
  refine ⟨u.cells, rfl, M3.rd 1 rfl, ?_⟩
  refine (whom_spec x.under u _).mono ?_
  rintro _ w4 ⟨rfl, e4⟩
  have M4 := M3.grow e4
  refine brE_mk (fun q => ?_) (fun q => ⟨congrArg Value.bool (by rw [hE, show (decide (x.under = 0) || decide (x.under = u.person)) = false from q]; simp only [Bool.and_false, Bool.false_and]), M4.ext⟩)
  have q2 : (decide (x.under = 0) || decide (x.under = u.person)) = true := q
  refine ⟨_, M4.cell 2 rfl rfl, ?_⟩
  refine ⟨o.cells, rfl, M4.rd 0 rfl, ?_⟩
  refine (whom_spec x.over o _).mono ?_
  rintro _ w5 ⟨rfl, e5⟩
  have M5 := M4.grow e5
  exact ⟨congrArg Value.bool (by rw [hE, q0, q1, q2]; simp only [Bool.true_and]), M5.ext⟩

end Go.Proofs.YtcnbpfecgokhiaaGreatDoor
