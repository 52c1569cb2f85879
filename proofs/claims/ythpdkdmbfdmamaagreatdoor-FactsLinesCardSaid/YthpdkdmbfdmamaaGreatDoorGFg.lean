/- Facts, the reference: how lines are written, and read back: the program (printed by tools/fwrite.py). -/
import Derived.Test.YthpdkdmbfdmamaaGreatDoorGFf
set_option linter.unusedVariables false
set_option linter.unusedSimpArgs false
set_option linter.unnecessarySimpa false
set_option linter.unusedSectionVars false
namespace Go.Proofs.YthpdkdmbfdmamaaGreatDoor
open Go.Eng Go.RowKit

theorem bs_append (a b : List UInt8) : bs a ++ bs b = bs (a ++ b) := by
  apply ByteArray.ext
  simp
theorem addBs {t : Nat} (a b : List UInt8) (h : a.length + b.length ≤ 9223372036854775807) (w : World) : (binOp .add t (.string (bs a)) (.string (bs b))).run C.P w = .ok (.string (bs (a ++ b))) w := by
  have hs : (bs a).size + (bs b).size = a.length + b.length := by
    show a.toArray.size + b.toArray.size = _
    simp
  have hm : ¬ (((bs a).size + (bs b).size : Nat) : Int) > IntKind.i64.max := by
    rw [hs]
    show ¬ ((a.length + b.length : Nat) : Int) > 9223372036854775807
    omega
  show (Op.stringOp .add (bs a) (bs b)).run C.P w = _
  unfold Op.stringOp
  simp only [if_neg hm, bs_append, Sem.run_pure]

/-- What a written fact bears is small. -/
theorem small_fields {x : Fact} (h : formE x = 0) : (0 ≤ x.who ∧ x.who ≤ 1000000) ∧ (0 ≤ x.what ∧ x.what ≤ 1000000) ∧ (0 ≤ x.other ∧ x.other ≤ 1000000) ∧ (0 ≤ x.since ∧ x.since ≤ 1000000) ∧ (0 ≤ x.til ∧ x.til ≤ 1000000) ∧ (1 ≤ x.id ∧ x.id ≤ 1000000) ∧ (0 ≤ x.known ∧ x.known ≤ 1000000) := by
  obtain ⟨hh, hr, hri, _⟩ := formE_zero h
  obtain ⟨hk, hid, hkn, hs, ht⟩ := headB_iff.1 hh
  have hid : 1 ≤ x.id ∧ x.id ≤ 1000000 := of_decide_eq_true hid
  have f := fun o ho => right_fields hh hri (o := o) ho
  simp only [restB, Bool.and_eq_true, Bool.or_eq_true, decide_eq_true_eq] at hr
  obtain ⟨⟨⟨⟨⟨r3, r4⟩, r5⟩, r6⟩, r7⟩, _⟩ := hr
  refine ⟨?_, ?_, ?_, ⟨hs.1, by omega⟩, ⟨by omega, by omega⟩, hid, ⟨hkn.1, by omega⟩⟩
  · rcases r3 with r | r
    · exact f 3 r
    · omega
  · rcases r4 with r | r
    · exact f 4 r
    · omega
  · rcases r5 with r | r
    · exact f 5 r
    · omega

theorem num_spec (n : Int) (h0 : 0 ≤ n) (h1 : n ≤ 1000000) (w : World) (T : Tabs w) : CallsV C.P 92 #[.int .i64 n] w fun v w' => v = .string (bs (32 :: Lib.itoa n)) ∧ Ext w w' := by
  refine callsV_of C_ok (args := [_]) (plans := []) Tryz.func92 rfl Tryz.ntmps92 (by kernel_rfl) (Nat.le_of_ble_eq_true rfl) ?_
  have hl := (itoa_small h0 h1).2.1
  refine (Itoa_spec n ⟨by omega, by omega⟩ w T).mono ?_
  rintro _ w1 ⟨rfl, e1⟩
  refine ⟨_, addBs [32] (Lib.itoa n) (by simp; omega), ⟨by decide, by decide⟩, ?_⟩
  exact ⟨rfl, e1⟩

set_option maxRecDepth 100000 in
set_option maxHeartbeats 4000000 in
theorem refWrite_spec (x : Fact) (hx : x.Nums) (w : World) (T : Tabs w) :
    CallsV C.P 31 #[x.val] w fun v w' => v = .tuple #[.string (if formE x = 0 then lineS x else ⟨#[]⟩), .int .i64 (formE x)] ∧ Ext w w' := by
  refine callsV_of C_ok (args := [_]) (plans := plans31) Tryz.func31 rfl Tryz.ntmps31 (by kernel_rfl) (Nat.le_of_ble_eq_true rfl) ?_
  intro g1 w1 h1
  have M1 : Mem w w1 [(g1, .cells x.cells.toArray 29 (0, 0))] := (Mem.start w).alloc h1
  refine ⟨x.cells, rfl, M1.rd 0 rfl, ?_⟩
  refine (refFormed_spec x hx w1).mono ?_
  rintro _ w2 ⟨rfl, e2⟩
  have M := M1.grow e2
  clear M1 h1 e2
  refine brE_ndec (fun a1 => ?_) (fun a1 => ?_)
  · have a1 : ¬ formE x = 0 := a1
    exact ⟨by rw [if_neg a1], M.ext⟩
  have a1 : formE x = 0 := a1
  obtain ⟨s3, s4, s5, s6, s7, s0, s1⟩ := small_fields a1
  have hkk := (headB_iff.1 (formE_zero a1).1).1
  have hnm : x.kind = 1 → x.name.data.toList.length ≤ 24 := fun hk => by
    have := (nameB_iff.1 ((formE_zero a1).2.2.2 hk)).1.1.2
    exact this
  rw [if_pos a1, a1]
  have hls : lineS x = bs (lineL x) := rfl
  rw [hls]
  have L0 := (itoa_small (n := x.id) (by omega) s0.2).2.1
  have L1 := (itoa_small s1.1 s1.2).2.1
  have L3 := (itoa_small s3.1 s3.2).2.1
  have L4 := (itoa_small s4.1 s4.2).2.1
  have L5 := (itoa_small s5.1 s5.2).2.1
  have L6 := (itoa_small s6.1 s6.2).2.1
  have L7 := (itoa_small s7.1 s7.2).2.1
  refine ⟨_, M.cell 0 rfl rfl, ?_⟩
  refine ⟨_, M.cell 0 rfl rfl, ?_⟩
  refine (Itoa_spec x.id ⟨by omega, by omega⟩ w2 (T.ext M.ext)).mono ?_
  rintro _ w3 ⟨rfl, e3⟩
  refine ⟨e3, ?_⟩
  have M := M.grow e3
  refine (num_spec x.known s1.1 s1.2 w3 (T.ext M.ext)).mono ?_
  rintro _ w4 ⟨rfl, e4⟩
  have M := M.grow e4
  refine ⟨_, addBs (Lib.itoa x.id) (32 :: Lib.itoa x.known) (by simp; omega), ⟨by decide, by decide⟩, ?_⟩
  refine ⟨_, M.cell 0 rfl rfl, ?_⟩
  refine (num_spec x.who s3.1 s3.2 w4 (T.ext M.ext)).mono ?_
  rintro _ w5 ⟨rfl, e5⟩
  have M := M.grow e5
  refine ⟨_, M.cell 0 rfl rfl, ?_⟩
  refine (num_spec x.what s4.1 s4.2 w5 (T.ext M.ext)).mono ?_
  rintro _ w6 ⟨rfl, e6⟩
  have M := M.grow e6
  refine ⟨_, M.cell 0 rfl rfl, ?_⟩
  refine (num_spec x.other s5.1 s5.2 w6 (T.ext M.ext)).mono ?_
  rintro _ w7 ⟨rfl, e7⟩
  have M := M.grow e7
  refine ⟨_, M.cell 0 rfl rfl, ?_⟩
  refine ⟨_, M.cell 0 rfl rfl, ?_⟩
  refine (num_spec x.since s6.1 s6.2 w7 (T.ext M.ext)).mono ?_
  rintro _ w8 ⟨rfl, e8⟩
  refine ⟨e8, ?_⟩
  have M := M.grow e8
  refine (num_spec x.til s7.1 s7.2 w8 (T.ext M.ext)).mono ?_
  rintro _ w9 ⟨rfl, e9⟩
  have M := M.grow e9
  refine ⟨_, addBs (32 :: Lib.itoa x.since) (32 :: Lib.itoa x.til) (by simp; omega), ⟨by decide, by decide⟩, ?_⟩
  refine ⟨_, M.cell 0 rfl rfl, ?_⟩
  refine brE_dec (fun k1 => ?_) (fun k1 => ?_)
  · have k1 : x.kind = 1 := k1
    have k1' := k1
    refine ⟨_, addBs _ _ (by simp; omega), ⟨by decide, by decide⟩, ?_⟩
    refine ⟨_, addBs _ _ (by simp; omega), ⟨by decide, by decide⟩, ?_⟩
    refine ⟨_, addBs _ _ (by simp; omega), ⟨by decide, by decide⟩, ?_⟩
    refine ⟨_, addBs _ _ (by simp; omega), ⟨by decide, by decide⟩, ?_⟩
    have hnm := hnm k1
    refine ⟨_, addBs _ [32] (by simp; omega), ⟨by decide, by decide⟩, ?_⟩
    refine ⟨.string (bs x.name.data.toList), by rw [bs_eq]; exact M.cell 0 rfl rfl, ?_⟩
    refine ⟨_, addBs _ x.name.data.toList (by simp; simp at hnm; omega), ⟨by decide, by decide⟩, ?_⟩
    exact ⟨by simp [lineL, wordsL, k1, Lib.join_cons, Lib.joinTail, offs, fieldI, wordA], M.ext⟩
  have k1 : ¬ x.kind = 1 := k1
  refine brE_dec (fun k2 => ?_) (fun k2 => ?_)
  · have k2 : x.kind = 2 := k2
    refine ⟨_, addBs _ _ (by simp; omega), ⟨by decide, by decide⟩, ?_⟩
    refine ⟨_, addBs _ _ (by simp; omega), ⟨by decide, by decide⟩, ?_⟩
    refine ⟨_, addBs _ _ (by simp; omega), ⟨by decide, by decide⟩, ?_⟩
    refine ⟨_, addBs _ _ (by simp; omega), ⟨by decide, by decide⟩, ?_⟩
    refine ⟨_, addBs _ _ (by simp; omega), ⟨by decide, by decide⟩, ?_⟩
    exact ⟨by simp [lineL, wordsL, k2, Lib.join_cons, Lib.joinTail, offs, fieldI, wordA], M.ext⟩
  have k2 : ¬ x.kind = 2 := k2
  refine brE_dec (fun k3 => ?_) (fun k3 => ?_)
  · have k3 : x.kind = 3 := k3
    refine ⟨_, addBs _ _ (by simp; omega), ⟨by decide, by decide⟩, ?_⟩
    refine ⟨_, addBs _ _ (by simp; omega), ⟨by decide, by decide⟩, ?_⟩
    refine ⟨_, addBs _ _ (by simp; omega), ⟨by decide, by decide⟩, ?_⟩
    refine ⟨_, addBs _ _ (by simp; omega), ⟨by decide, by decide⟩, ?_⟩
    refine ⟨_, addBs _ _ (by simp; omega), ⟨by decide, by decide⟩, ?_⟩
    exact ⟨by simp [lineL, wordsL, k3, Lib.join_cons, Lib.joinTail, offs, fieldI, wordA], M.ext⟩
  have k3 : ¬ x.kind = 3 := k3
  refine brE_dec (fun k4 => ?_) (fun k4 => ?_)
  · have k4 : x.kind = 4 := k4
    refine ⟨_, addBs _ _ (by simp; omega), ⟨by decide, by decide⟩, ?_⟩
    refine ⟨_, addBs _ _ (by simp; omega), ⟨by decide, by decide⟩, ?_⟩
    refine ⟨_, addBs _ _ (by simp; omega), ⟨by decide, by decide⟩, ?_⟩
    refine ⟨_, addBs _ _ (by simp; omega), ⟨by decide, by decide⟩, ?_⟩
    refine ⟨_, addBs _ _ (by simp; omega), ⟨by decide, by decide⟩, ?_⟩
    exact ⟨by simp [lineL, wordsL, k4, Lib.join_cons, Lib.joinTail, offs, fieldI, wordA], M.ext⟩
  have k4 : ¬ x.kind = 4 := k4
  refine brE_dec (fun k5 => ?_) (fun k5 => ?_)
  · have k5 : x.kind = 5 := k5
    refine ⟨_, addBs _ _ (by simp; omega), ⟨by decide, by decide⟩, ?_⟩
    refine ⟨_, addBs _ _ (by simp; omega), ⟨by decide, by decide⟩, ?_⟩
    refine ⟨_, addBs _ _ (by simp; omega), ⟨by decide, by decide⟩, ?_⟩
    refine ⟨_, addBs _ _ (by simp; omega), ⟨by decide, by decide⟩, ?_⟩
    exact ⟨by simp [lineL, wordsL, k5, Lib.join_cons, Lib.joinTail, offs, fieldI, wordA], M.ext⟩
  have k5 : ¬ x.kind = 5 := k5
  refine brE_dec (fun k6 => ?_) (fun k6 => ?_)
  · have k6 : x.kind = 6 := k6
    refine ⟨_, addBs _ _ (by simp; omega), ⟨by decide, by decide⟩, ?_⟩
    refine ⟨_, addBs _ _ (by simp; omega), ⟨by decide, by decide⟩, ?_⟩
    refine ⟨_, addBs _ _ (by simp; omega), ⟨by decide, by decide⟩, ?_⟩
    refine ⟨_, addBs _ _ (by simp; omega), ⟨by decide, by decide⟩, ?_⟩
    exact ⟨by simp [lineL, wordsL, k6, Lib.join_cons, Lib.joinTail, offs, fieldI, wordA], M.ext⟩
  have k6 : ¬ x.kind = 6 := k6
  refine brE_dec (fun k7 => ?_) (fun k7 => ?_)
  · have k7 : x.kind = 7 := k7
    refine ⟨_, addBs _ _ (by simp; omega), ⟨by decide, by decide⟩, ?_⟩
    refine ⟨_, addBs _ _ (by simp; omega), ⟨by decide, by decide⟩, ?_⟩
    refine ⟨_, addBs _ _ (by simp; omega), ⟨by decide, by decide⟩, ?_⟩
    exact ⟨by simp [lineL, wordsL, k7, Lib.join_cons, Lib.joinTail, offs, fieldI, wordA], M.ext⟩
  have k7 : ¬ x.kind = 7 := k7
  refine brE_dec (fun k8 => ?_) (fun k8 => ?_)
  · have k8 : x.kind = 8 := k8
    refine ⟨_, addBs _ _ (by simp; omega), ⟨by decide, by decide⟩, ?_⟩
    refine ⟨_, addBs _ _ (by simp; omega), ⟨by decide, by decide⟩, ?_⟩
    refine ⟨_, addBs _ _ (by simp; omega), ⟨by decide, by decide⟩, ?_⟩
    refine ⟨_, addBs _ _ (by simp; omega), ⟨by decide, by decide⟩, ?_⟩
    refine ⟨_, addBs _ _ (by simp; omega), ⟨by decide, by decide⟩, ?_⟩
    exact ⟨by simp [lineL, wordsL, k8, Lib.join_cons, Lib.joinTail, offs, fieldI, wordA], M.ext⟩
  have k8 : ¬ x.kind = 8 := k8
  refine brE_dec (fun k9 => ?_) (fun k9 => ?_)
  · have k9 : x.kind = 9 := k9
    refine ⟨_, addBs _ _ (by simp; omega), ⟨by decide, by decide⟩, ?_⟩
    refine ⟨_, addBs _ _ (by simp; omega), ⟨by decide, by decide⟩, ?_⟩
    refine ⟨_, addBs _ _ (by simp; omega), ⟨by decide, by decide⟩, ?_⟩
    refine ⟨_, addBs _ _ (by simp; omega), ⟨by decide, by decide⟩, ?_⟩
    exact ⟨by simp [lineL, wordsL, k9, Lib.join_cons, Lib.joinTail, offs, fieldI, wordA], M.ext⟩
  have k9 : ¬ x.kind = 9 := k9
  refine brE_dec (fun k10 => ?_) (fun k10 => ?_)
  · have k10 : x.kind = 10 := k10
    refine ⟨_, addBs _ _ (by simp; omega), ⟨by decide, by decide⟩, ?_⟩
    refine ⟨_, addBs _ _ (by simp; omega), ⟨by decide, by decide⟩, ?_⟩
    refine ⟨_, M.cell 0 rfl rfl, ?_⟩
    refine (num_spec x.since s6.1 s6.2 w9 (T.ext M.ext)).mono ?_
    rintro _ w10 ⟨rfl, e10⟩
    have M := M.grow e10
    refine ⟨_, addBs _ _ (by simp; omega), ⟨by decide, by decide⟩, ?_⟩
    exact ⟨by simp [lineL, wordsL, k10, Lib.join_cons, Lib.joinTail, offs, fieldI, wordA], M.ext⟩
  have k10 : ¬ x.kind = 10 := k10
  have k11 : x.kind = 11 := by omega
  refine ⟨_, addBs _ _ (by simp; omega), ⟨by decide, by decide⟩, ?_⟩
  refine ⟨_, addBs _ _ (by simp; omega), ⟨by decide, by decide⟩, ?_⟩
  exact ⟨by simp [lineL, wordsL, k11, Lib.join_cons, Lib.joinTail, offs, fieldI, wordA], M.ext⟩

theorem numR_64 (s : List UInt8) : In64 (numR s) := by
  have := numR_in s
  exact ⟨by omega, by omega⟩
theorem fillG_nums : ∀ (os : List Nat) {x : Fact} (s : List UInt8), x.Nums → (fillG os x s).Nums
  | [], _, _, h => h
  | o :: r, x, s, h => fillG_nums r (cutW s).2 (setF_nums h o (numR_64 _))
theorem kindAt_le {v : List UInt8} : ∀ {ks : List Nat}, (∀ k ∈ ks, k ≤ 11) → kindAt v ks ≤ 11
  | [], _ => Nat.zero_le _
  | k :: r, h => by
    unfold kindAt
    split
    · exact h k (by simp)
    · exact kindAt_le fun q hq => h q (by simp [hq])
theorem guess_nums (s : List UInt8) (hl : s.length ≤ 281474976710656) : (guessP s).Nums := by
  have z64 : In64 0 := ⟨by decide, by decide⟩
  have hk : kindOf (cutW (cutW (cutW s).2).2).1 ≤ 11 := kindAt_le (by decide)
  have h0 : (⟨numR (cutW s).1, numR (cutW (cutW s).2).1, kindOf (cutW (cutW (cutW s).2).2).1, 0, 0, 0, 0, 0, ⟨#[]⟩⟩ : Fact).Nums := ⟨numR_64 _, numR_64 _, ⟨by show (0 : Int) ≤ (kindOf _ : Nat); omega, by show ((kindOf _ : Nat) : Int) ≤ 255; omega⟩, z64, z64, z64, z64, z64, Nat.zero_le _⟩
  unfold guessP
  simp only
  split
  · exact h0
  · split
    · refine { fillG_nums _ _ h0 with name := ?_ }
      have h1 := cutW_length s
      have h2 := cutW_length (cutW s).2
      have h3 := cutW_length (cutW (cutW s).2).2
      have h4 := restN_length 4 (cutW (cutW (cutW s).2).2).2
      show (restN 4 (cutW (cutW (cutW s).2).2).2).toArray.size ≤ _
      simp only [List.size_toArray]
      omega
    · exact fillG_nums _ _ h0

set_option maxRecDepth 100000 in
theorem refRead_spec (line : ByteArray) (hsz : line.size ≤ 281474976710656) (w : World) (T : Tabs w) :
    CallsV C.P 33 #[.string line] w fun v w' => v = .tuple #[(readF line).1.val, .int .i64 (readF line).2] ∧ Ext w w' := by
  rw [← readR_eq]
  have hl : line.data.toList.length ≤ 281474976710656 := by rw [← ba_size]; exact hsz
  refine callsV_of C_ok (args := [_]) (plans := []) Tryz.func33 rfl Tryz.ntmps33 (by kernel_rfl) (Nat.le_of_ble_eq_true rfl) ?_
  intro g2 w1 h1
  have M1 := (Mem.start w).alloc h1
  have hg := refguess_spec line.data.toList (by omega) w1
  rw [bs_eq] at hg
  refine hg.mono ?_
  rintro _ w2 ⟨rfl, e2⟩
  have hgn := guess_nums line.data.toList hl
  have hrr : readR line = if formE (guessP line.data.toList) = 0 ∧ lineS (guessP line.data.toList) = line then (guessP line.data.toList, 0) else (factZ, 4) := rfl
  generalize guessP line.data.toList = X at *
  have M2 := M1.grow e2
  intro g4 w3 h3
  have M3 := M2.alloc h3
  refine ⟨rfl, _, _, M3.get 0 rfl, Nat.le_of_ble_eq_true rfl, rfl, ?_⟩
  intro w4 h4
  have M4 : Mem w w4 [(g4, .cells X.cells.toArray 29 (0, 0)), (g2, .cells factZ.cells.toArray 29 (0, 0))] := M3.put 0 rfl h4
  refine ⟨X.cells, rfl, M4.rd 0 rfl, ?_⟩
  refine (refWrite_spec X hgn w4 (T.ext M4.ext)).mono ?_
  rintro _ w5 ⟨rfl, e5⟩
  have M5 := M4.grow e5
  have bad : ¬ (formE X = 0 ∧ lineS X = line) → ∀ w', Mem w w' [(g4, .cells X.cells.toArray 29 (0, 0)), (g2, .cells factZ.cells.toArray 29 (0, 0))] → (Value.tuple #[factZ.val, .int .i64 4] = .tuple #[(readR line).1.val, .int .i64 (readR line).2] ∧ Ext w w') := fun h w' M => ⟨by rw [hrr, if_neg h], M.ext⟩
  refine brE_ndec (fun a1 => ?_) (fun a1 => ?_)
  · have a1 : ¬ formE X = 0 := a1
    refine ⟨rfl, _, _, M5.get 1 rfl, Nat.le_of_ble_eq_true rfl, rfl, ?_⟩
    intro w6 h6
    have M6 : Mem w w6 [(g4, .cells X.cells.toArray 29 (0, 0)), (g2, .cells factZ.cells.toArray 29 (0, 0))] := M5.put 1 rfl h6
    exact ⟨factZ.cells, rfl, M6.rd 1 rfl, bad (fun h => a1 h.1) w6 M6⟩
  have a1 : formE X = 0 := a1
  rw [if_pos a1]
  refine ⟨_, neqStr _ _ (lineS X) line, ?_⟩
  refine brE_ndec (fun a2 => ?_) (fun a2 => ?_)
  · have a2 : ¬ lineS X = line := a2
    refine ⟨rfl, _, _, M5.get 1 rfl, Nat.le_of_ble_eq_true rfl, rfl, ?_⟩
    intro w6 h6
    have M6 : Mem w w6 [(g4, .cells X.cells.toArray 29 (0, 0)), (g2, .cells factZ.cells.toArray 29 (0, 0))] := M5.put 1 rfl h6
    exact ⟨factZ.cells, rfl, M6.rd 1 rfl, bad (fun h => a2 h.2) w6 M6⟩
  · have a2 : lineS X = line := a2
    refine ⟨X.cells, rfl, M5.rd 0 rfl, ?_⟩
    refine ⟨rfl, _, _, M5.get 1 rfl, Nat.le_of_ble_eq_true rfl, rfl, ?_⟩
    intro w6 h6
    have M6 : Mem w w6 [(g4, .cells X.cells.toArray 29 (0, 0)), (g2, .cells X.cells.toArray 29 (0, 0))] := M5.put 1 rfl h6
    exact ⟨X.cells, rfl, M6.rd 1 rfl, by rw [hrr, if_pos ⟨a1, a2⟩]; rfl, M6.ext⟩

end Go.Proofs.YthpdkdmbfdmamaaGreatDoor
