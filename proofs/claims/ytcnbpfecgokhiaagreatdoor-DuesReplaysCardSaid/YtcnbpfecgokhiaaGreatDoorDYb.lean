/- The laws of the dues: what they share: facts that are few, operations, ledgers built. -/
import Derived.Test.YtcnbpfecgokhiaaGreatDoorDWk
import Derived.Test.YtcnbpfecgokhiaaGreatDoorDUb
set_option linter.unusedVariables false
set_option linter.unusedSimpArgs false
set_option linter.unnecessarySimpa false
set_option linter.unusedSectionVars false
namespace Go.Proofs.YtcnbpfecgokhiaaGreatDoor
open Go.Eng Go.RowKit

theorem Opn.len (x : Opn) : x.cells.length = 25 := rfl
structure Opn.Nums (o : Opn) : Prop where
  kind : 0 ≤ o.kind ∧ o.kind ≤ 255
  x : o.x.Nums
theorem Opn.x_part (o : Opn) : ∀ i v, o.x.cells[i]? = some v → o.cells[1 + i]? = some v := by
  intro i v h
  unfold Opn.cells
  rw [Nat.add_comm, List.getElem?_cons_succ]; exact h

theorem few_spec {w : World} {A B : Option Addr} {f : List Fact} {s : List Opn} {c d : Nat} (hf : HF w A f c) (hs : s.length ≤ 9223372036854775807) :
    CallsV C.P 15 #[.slice A f.length c, .slice B s.length d] w fun v w' => (∃ b, v = .bool b ∧ (b = true → f.length ≤ 40 ∧ s.length ≤ 80)) ∧ w' = w := by
  have hcap := hf.cap
  refine callsV_of C_ok (args := [_, _]) (plans := []) Tryz.func15 rfl Tryz.ntmps15 (by kernel_rfl) (Nat.le_of_ble_eq_true rfl) ?_
  refine brE_dec (fun c1 => ?_) (fun c1 => ?_)
  · exact ⟨⟨false, rfl, fun h => by cases h⟩, rfl⟩
  have c1 : ¬ ((f.length : Nat) : Int) > 40 := c1
  refine brE_dec (fun c2 => ?_) (fun c2 => ?_)
  · exact ⟨⟨false, rfl, fun h => by cases h⟩, rfl⟩
  have c2 : ¬ ((s.length : Nat) : Int) > 80 := c2
  refine loopE C_ok (fun (i : Nat) => [(0, .slice A f.length c), (5, .int .i64 (i : Nat))]) (fun i w' => i ≤ f.length ∧ w' = w) (fun i => f.length - i) 0 ⟨rfl, rfl, trivial⟩ ⟨Nat.zero_le _, rfl⟩ ?_
  rintro i w1 ⟨hi, rfl⟩
  refine brE_dec (fun hlt => ?_) (fun hge => ?_)
  · have hlt : i < f.length := by have : (i : Int) < (f.length : Nat) := hlt; omega
    obtain ⟨b, o, hA, hc⟩ := Reads.fact hf.reads hlt
    refine ⟨i, b, o, rfl, hlt, hA, ?_⟩
    refine ⟨_, hc 8 _ rfl, ?_⟩
    refine brE_dec (fun c3 => ?_) (fun c3 => ?_)
    · exact ⟨⟨false, rfl, fun h => by cases h⟩, rfl⟩
    refine ⟨((i + 1 : Nat) : Int), fit ⟨by omega, by omega⟩, ?_⟩
    exact ⟨i + 1, ⟨rfl, rfl, trivial⟩, ⟨hlt, rfl⟩, by show f.length - (i + 1) < f.length - i; omega⟩
  · exact ⟨⟨true, rfl, fun _ => ⟨by omega, by omega⟩⟩, rfl⟩

theorem LdGo.of_ext {w w1 w' : World} {l : LV} {es : List Entry} (k : LdGo w1 l es w') (e : Ext w w1) : LdGo w l es w' := by
  obtain ⟨l', h1, h2, h3, h4⟩ := k
  exact ⟨l', h1, h2, keep_trans (keep_ext e) h3 fun _ hq _ => hq, fun k hk => (h4 k hk).imp id fun h => Nat.le_trans e.size h⟩
theorem didN_off {f : List Fact} {es : List Entry} {o : Opn} (h1 : opK o ≠ 1) (h2 : opK o ≠ 2) : didN f es o = 0 := by
  unfold didN
  rw [if_neg h1, if_neg h2]
  split <;> rfl

set_option maxRecDepth 100000 in
set_option maxHeartbeats 1000000 in
theorem did_spec {w : World} {l : LV} {es : List Entry} (h : LedgerIs w l es) (hl : es.length ≤ 400) {A : Option Addr} {f : List Fact} {c : Nat} (hf : HF w A f c) (hfl : f.length ≤ 2 ^ 20) {o : Opn} (ho : o.Nums) :
    CallsV C.P 18 #[l.ptr, .slice A f.length c, o.val] w fun v w' => v = .tuple #[.int .i64 (didN f es o), .int .i64 (didE f es o)] ∧ LdGo w l (didL f es o) w' := by
  have hx := ho.x
  refine callsV_of C_ok (args := [_, _, _]) (plans := []) Tryz.func18 rfl Tryz.ntmps18 (by kernel_rfl) (Nat.le_of_ble_eq_true rfl) ?_
  intro g5 w1 h1
  have M1 : Mem w w1 [(g5, .cells o.cells.toArray 41 (0, 0))] := (Mem.start w).alloc h1
  refine ⟨o.x.cells, rfl, (M1.rd 0 rfl).part o.x_part, ?_⟩
  intro g8 w2 h2
  have M2 := M1.alloc h2
  refine ⟨rfl, _, _, M2.get 0 rfl, Nat.le_of_ble_eq_true rfl, rfl, ?_⟩
  intro w3 h3
  have M : Mem w w3 [(g8, .cells o.x.cells.toArray 39 (0, 0)), (g5, .cells o.cells.toArray 41 (0, 0))] := M2.put 0 rfl h3
  clear M1 M2 h1 h2 h3
  have hL := h.ext M.ext
  have hF := hf.ext M.ext
  refine ⟨_, M.cell 1 rfl rfl, ?_⟩
  refine ⟨by decide, opK o, by unfold opK; exact Int.tmod_eq_emod_of_nonneg ho.kind.1, ?_⟩
  refine brE_dec (fun k1 => ?_) (fun k1 => ?_)
  · have k1 : opK o = 1 := k1
    have e0 : opE es o = grantE es o.x.w := by unfold opE; rw [if_pos k1]
    have e1 : didE f es o = doF f es (grantE es o.x.w) := by unfold didE; rw [e0]
    have e2 : didL f es o = addL (doF f es (grantE es o.x.w)) es (grantE es o.x.w) := by unfold didL; rw [e1, e0]
    have e3 : didN f es o = if doF f es (grantE es o.x.w) = 0 then (((waivL es).length + 1 : Nat) : Int) else 0 := by unfold didN; rw [e1]; rw [if_pos k1]
    refine ⟨o.x.w.cells, rfl, (M.rd 0 rfl).part o.x.w_part, ?_⟩
    refine (Grant_spec hL hl hF hfl hx.w).mono ?_
    rintro v w' ⟨rfl, hgo⟩
    exact ⟨by rw [e3, e1], by rw [e2]; exact hgo.of_ext M.ext⟩
  have k1 : ¬ opK o = 1 := k1
  refine brE_dec (fun k2 => ?_) (fun k2 => ?_)
  · have k2 : opK o = 2 := k2
    have e0 : opE es o = offerE es o.x.day o.x.g.frm o.x.g.to o.x.g.cur o.x.g.n o.x.g.returns := by unfold opE; rw [if_neg k1, if_pos k2]
    have e1 : didE f es o = doF f es (offerE es o.x.day o.x.g.frm o.x.g.to o.x.g.cur o.x.g.n o.x.g.returns) := by unfold didE; rw [e0]
    have e2 : didL f es o = addL (doF f es (offerE es o.x.day o.x.g.frm o.x.g.to o.x.g.cur o.x.g.n o.x.g.returns)) es (offerE es o.x.day o.x.g.frm o.x.g.to o.x.g.cur o.x.g.n o.x.g.returns) := by unfold didL; rw [e1, e0]
    have e3 : didN f es o = if doF f es (offerE es o.x.day o.x.g.frm o.x.g.to o.x.g.cur o.x.g.n o.x.g.returns) = 0 then (((giftL es).length + 1 : Nat) : Int) else 0 := by unfold didN; rw [e1]; rw [if_neg k1, if_pos k2]
    refine ⟨_, M.cell 0 rfl rfl, ?_⟩
    refine ⟨_, M.cell 0 rfl rfl, ?_⟩
    refine ⟨_, M.cell 0 rfl rfl, ?_⟩
    refine ⟨_, M.cell 0 rfl rfl, ?_⟩
    refine ⟨_, M.cell 0 rfl rfl, ?_⟩
    refine ⟨_, M.cell 0 rfl rfl, ?_⟩
    refine (Offer_spec hL hl hx.day hx.g.frm hx.g.to hx.g.cur hx.g.n hx.g.returns f).mono ?_
    rintro v w' ⟨rfl, hgo⟩
    exact ⟨by rw [e3, e1], by rw [e2]; exact hgo.of_ext M.ext⟩
  have k2 : ¬ opK o = 2 := k2
  refine brE_dec (fun k3 => ?_) (fun k3 => ?_)
  · have k3 : opK o = 3 := k3
    have e0 : opE es o = rateE o.x.day o.x.g.cur o.x.n := by unfold opE; rw [if_neg k1, if_neg k2, if_pos k3]
    have e1 : didE f es o = doF f es (rateE o.x.day o.x.g.cur o.x.n) := by unfold didE; rw [e0]
    have e2 : didL f es o = addL (doF f es (rateE o.x.day o.x.g.cur o.x.n)) es (rateE o.x.day o.x.g.cur o.x.n) := by unfold didL; rw [e1, e0]
    have e3 : didN f es o = 0 := didN_off k1 k2
    refine ⟨_, M.cell 0 rfl rfl, ?_⟩
    refine ⟨_, M.cell 0 rfl rfl, ?_⟩
    refine ⟨_, M.cell 0 rfl rfl, ?_⟩
    refine (SetRate_spec hL (by omega) hx.day hx.g.cur hx.n f).mono ?_
    rintro v w' ⟨rfl, hgo⟩
    exact ⟨by rw [e3, e1], by rw [e2]; exact hgo.of_ext M.ext⟩
  have k3 : ¬ opK o = 3 := k3
  refine brE_dec (fun k4 => ?_) (fun k4 => ?_)
  · have k4 : opK o = 4 := k4
    have e0 : opE es o = ceilE o.x.day o.x.a o.x.n := by unfold opE; rw [if_neg k1, if_neg k2, if_neg k3, if_pos k4]
    have e1 : didE f es o = doF f es (ceilE o.x.day o.x.a o.x.n) := by unfold didE; rw [e0]
    have e2 : didL f es o = addL (doF f es (ceilE o.x.day o.x.a o.x.n)) es (ceilE o.x.day o.x.a o.x.n) := by unfold didL; rw [e1, e0]
    have e3 : didN f es o = 0 := didN_off k1 k2
    refine ⟨_, M.cell 0 rfl rfl, ?_⟩
    refine ⟨_, M.cell 0 rfl rfl, ?_⟩
    refine ⟨_, M.cell 0 rfl rfl, ?_⟩
    refine (SetCeiling_spec hL (by omega) hx.day hx.a hx.n f).mono ?_
    rintro v w' ⟨rfl, hgo⟩
    exact ⟨by rw [e3, e1], by rw [e2]; exact hgo.of_ext M.ext⟩
  have k4 : ¬ opK o = 4 := k4
  refine brE_dec (fun k5 => ?_) (fun k5 => ?_)
  · have k5 : opK o = 5 := k5
    have e0 : opE es o = endE o.x.day o.x.w.id := by unfold opE; rw [if_neg k1, if_neg k2, if_neg k3, if_neg k4, if_pos k5]
    have e1 : didE f es o = doF f es (endE o.x.day o.x.w.id) := by unfold didE; rw [e0]
    have e2 : didL f es o = addL (doF f es (endE o.x.day o.x.w.id)) es (endE o.x.day o.x.w.id) := by unfold didL; rw [e1, e0]
    have e3 : didN f es o = 0 := didN_off k1 k2
    refine ⟨_, M.cell 0 rfl rfl, ?_⟩
    refine ⟨_, M.cell 0 rfl rfl, ?_⟩
    refine (End_spec hL (by omega) hx.day hx.w.id f).mono ?_
    rintro v w' ⟨rfl, hgo⟩
    exact ⟨by rw [e3, e1], by rw [e2]; exact hgo.of_ext M.ext⟩
  have k5 : ¬ opK o = 5 := k5
  refine brE_dec (fun k6 => ?_) (fun k6 => ?_)
  · have k6 : opK o = 6 := k6
    have e0 : opE es o = takeE o.x.day o.x.g.id := by unfold opE; rw [if_neg k1, if_neg k2, if_neg k3, if_neg k4, if_neg k5, if_pos k6]
    have e1 : didE f es o = doF f es (takeE o.x.day o.x.g.id) := by unfold didE; rw [e0]
    have e2 : didL f es o = addL (doF f es (takeE o.x.day o.x.g.id)) es (takeE o.x.day o.x.g.id) := by unfold didL; rw [e1, e0]
    have e3 : didN f es o = 0 := didN_off k1 k2
    refine ⟨_, M.cell 0 rfl rfl, ?_⟩
    refine ⟨_, M.cell 0 rfl rfl, ?_⟩
    refine (Take_spec hL (by omega) hx.day hx.g.id f).mono ?_
    rintro v w' ⟨rfl, hgo⟩
    exact ⟨by rw [e3, e1], by rw [e2]; exact hgo.of_ext M.ext⟩
  have k6 : ¬ opK o = 6 := k6
  refine brE_dec (fun k7 => ?_) (fun k7 => ?_)
  · have k7 : opK o = 7 := k7
    have e0 : opE es o = refuseE o.x.day o.x.g.id := by unfold opE; rw [if_neg k1, if_neg k2, if_neg k3, if_neg k4, if_neg k5, if_neg k6, if_pos k7]
    have e1 : didE f es o = doF f es (refuseE o.x.day o.x.g.id) := by unfold didE; rw [e0]
    have e2 : didL f es o = addL (doF f es (refuseE o.x.day o.x.g.id)) es (refuseE o.x.day o.x.g.id) := by unfold didL; rw [e1, e0]
    have e3 : didN f es o = 0 := didN_off k1 k2
    refine ⟨_, M.cell 0 rfl rfl, ?_⟩
    refine ⟨_, M.cell 0 rfl rfl, ?_⟩
    refine (Refuse_spec hL (by omega) hx.day hx.g.id f).mono ?_
    rintro v w' ⟨rfl, hgo⟩
    exact ⟨by rw [e3, e1], by rw [e2]; exact hgo.of_ext M.ext⟩
  have k7 : ¬ opK o = 7 := k7
  have e0 : opE es o = o.x := by unfold opE; rw [if_neg k1, if_neg k2, if_neg k3, if_neg k4, if_neg k5, if_neg k6, if_neg k7]
  have e1 : didE f es o = doF f es o.x := by unfold didE; rw [e0]
  have e2 : didL f es o = addL (doF f es o.x) es o.x := by unfold didL; rw [e1, e0]
  have e3 : didN f es o = 0 := didN_off k1 k2
  refine ⟨o.x.cells, rfl, M.rd 0 rfl, ?_⟩
  refine (Do_spec hL (by omega) hx hF hfl).mono ?_
  rintro v w' ⟨rfl, hgo⟩
  exact ⟨by rw [e3, e1], by rw [e2]; exact hgo.of_ext M.ext⟩

theorem Opn.part_at {w : World} {A : Option Addr} {s : List Opn} {c i : Nat} (h : HL Opn.cells w A s c) (hi : i < s.length) : ∃ b o, A = some ⟨b, o, none⟩ ∧ Rd w b (o + i * 25) s[i].cells := h.at Opn.len (by omega) hi

set_option maxRecDepth 100000 in
theorem built_spec {w : World} {A B : Option Addr} {f : List Fact} {s : List Opn} {c d : Nat} (hf : HF w A f c) (hfl : f.length ≤ 2 ^ 20) (hs : HL Opn.cells w B s d) (hsl : s.length ≤ 400) (hn : ∀ o ∈ s, o.Nums) :
    CallsV C.P 26 #[.slice A f.length c, .slice B s.length d] w fun v w' => ∃ l : LV, v = l.ptr ∧ LdNew w w' l (builtL f s) := by
  refine callsV_of C_ok (args := [_, _]) (plans := []) Tryz.func26 rfl Tryz.ntmps26 (by kernel_rfl) (Nat.le_of_ble_eq_true rfl) ?_
  refine (New_spec w).mono ?_
  rintro v w1 ⟨l0, rfl, h0⟩
  refine loopE C_ok (fun (i : Nat) => [(0, .slice A f.length c), (1, .slice B s.length d), (5, l0.ptr), (6, .int .i64 (i : Nat))])
    (fun i w' => i ≤ s.length ∧ ∃ l : LV, l.gl = l0.gl ∧ LdNew w w' l (builtL f (s.take i))) (fun i => s.length - i) 0 ⟨rfl, rfl, rfl, rfl, trivial⟩ ⟨Nat.zero_le _, l0, rfl, by rw [List.take_zero]; exact h0⟩ ?_
  rintro i w2 ⟨hi, l, hgl, hl⟩
  have hptr : l.ptr = l0.ptr := by unfold LV.ptr; rw [hgl]
  refine brE_dec (fun hlt => ?_) (fun hge => ?_)
  · have hlt : i < s.length := by have : (i : Int) < (s.length : Nat) := hlt; omega
    obtain ⟨b, o, hB, hr⟩ := Opn.part_at (hs.ext hl.ext) hlt
    refine ⟨i, b, o, rfl, hlt, hB, ?_⟩
    refine ⟨s[i].cells, rfl, hr, ?_⟩
    have hlen := (acc_built f (s.take i)).2
    rw [List.length_take] at hlen
    have hd := did_spec hl.is (by omega) (hf.ext hl.ext) hfl (hn s[i] (List.getElem_mem hlt))
    rw [hptr] at hd
    refine hd.mono ?_
    rintro v w3 ⟨rfl, hgo⟩
    obtain ⟨l3, hg3, h3⟩ := hl.go hgo
    refine ⟨((i + 1 : Nat) : Int), fit ⟨by omega, by omega⟩, ?_⟩
    exact ⟨i + 1, ⟨rfl, rfl, rfl, rfl, trivial⟩, ⟨hlt, l3, hg3.trans hgl, by rw [built_take hlt]; exact h3⟩, by show s.length - (i + 1) < s.length - i; omega⟩
  · have hi : i = s.length := by have : ¬ (i : Int) < (s.length : Nat) := hge; omega
    rw [hi, List.take_length] at hl
    exact ⟨l, hptr.symm, hl⟩

theorem among_spec {w : World} {A : Option Addr} {ws : List Waiv} {c : Nat} (h : HL Waiv.cells w A ws c) (id : Int) :
    CallsV C.P 27 #[.slice A ws.length c, .int .i64 id] w fun v w' => v = .bool (amongB ws id) ∧ w' = w := by
  have hcap := h.cap
  refine callsV_of C_ok (args := [_, _]) (plans := []) Tryz.func27 rfl Tryz.ntmps27 (by kernel_rfl) (Nat.le_of_ble_eq_true rfl) ?_
  refine loopE C_ok (fun (i : Nat) => [(0, .slice A ws.length c), (1, .int .i64 id), (5, .int .i64 (i : Nat))]) (fun i w' => i ≤ ws.length ∧ (∀ j (hj : j < ws.length), j < i → ¬ ws[j].id = id) ∧ w' = w) (fun i => ws.length - i) 0 ⟨rfl, rfl, rfl, trivial⟩ ⟨Nat.zero_le _, fun j _ hj => absurd hj (Nat.not_lt_zero _), rfl⟩ ?_
  rintro i w1 ⟨hi, hall, rfl⟩
  refine brE_dec (fun hlt => ?_) (fun hge => ?_)
  · have hlt : i < ws.length := by have : (i : Int) < (ws.length : Nat) := hlt; omega
    obtain ⟨b, o, hA, hr⟩ := h.at Waiv.len (by omega) hlt
    refine ⟨i, b, o, rfl, hlt, hA, ?_⟩
    refine ⟨_, hr 0 _ rfl, ?_⟩
    refine brE_dec (fun c1 => ?_) (fun c1 => ?_)
    · have c1 : ws[i].id = id := c1
      exact ⟨congrArg _ (among_iff.2 ⟨_, List.getElem_mem hlt, c1⟩).symm, rfl⟩
    have c1 : ¬ ws[i].id = id := c1
    refine ⟨((i + 1 : Nat) : Int), fit ⟨by omega, by omega⟩, ?_⟩
    refine ⟨i + 1, ⟨rfl, rfl, rfl, trivial⟩, ⟨hlt, fun j hj hji => ?_, rfl⟩, by show ws.length - (i + 1) < ws.length - i; omega⟩
    rcases Nat.lt_or_ge j i with h | h
    · exact hall j hj h
    · obtain rfl : j = i := by omega
      exact c1
  · have hi : i = ws.length := by have : ¬ (i : Int) < (ws.length : Nat) := hge; omega
    refine ⟨congrArg _ ?_, rfl⟩
    cases e : amongB ws id with
    | false => rfl
    | true =>
      obtain ⟨x, hx, hid⟩ := among_iff.1 e
      obtain ⟨j, hj, rfl⟩ := List.getElem_of_mem hx
      exact absurd hid (hall j hj (by omega))

end Go.Proofs.YtcnbpfecgokhiaaGreatDoor
