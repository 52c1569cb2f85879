/- a part of the proof: steps, walks and plain laws that the law below stands on; no condition. -/
import Derived.Test.YtcnbpfecgokhiaaGreatDoorDBd
import Derived.Test.YtcnbpfecgokhiaaGreatDoorDBb
import Derived.Lib.AtoiAllCases
import Derived.Lib.AtoiTie
import Derived.Lib.ItoaLen
import Derived.Lib.Join
set_option linter.unusedVariables false
set_option linter.unusedSimpArgs false
set_option linter.unnecessarySimpa false
set_option linter.unusedSectionVars false
namespace Go.Proofs.YtcnbpfecgokhiaaGreatDoor
open Go.Eng Go.RowKit

theorem ptrs_get {g : Nat} {os : List Nat} {i : Nat} (hi : i < os.length) : (ptrs g os)[i]? = some (.pointer (some ⟨g, os[i], none⟩)) := by
  simp [ptrs, hi]
theorem offs_lt (k : Int) : ∀ o ∈ offs k, o < 9 := by
  intro o ho
  unfold offs at ho
  split at ho
  · simp at ho; omega
  · split at ho
    · simp at ho; omega
    · split at ho
      · simp at ho; omega
      · split at ho
        · simp at ho; omega
        · split at ho
          · simp at ho; omega
          · simp at ho; omega
theorem offs_len (k : Int) : (offs k).length ≤ 5 := by
  unfold offs
  split
  · decide
  · split
    · decide
    · split
      · decide
      · split
        · decide
        · split <;> decide

theorem formE_rest {x : Fact} (h : restB x = true → False) : formE x = 1 := by
  unfold formE
  rw [if_neg]
  intro hh
  simp only [Bool.and_eq_true] at hh
  exact h hh.1.2
theorem formE_right {x : Fact} (h : rightB x = true → False) : formE x = 1 := by
  unfold formE
  rw [if_neg]
  intro hh
  simp only [Bool.and_eq_true] at hh
  exact h hh.2
theorem formE_ok {x : Fact} (h1 : headB x = true) (h2 : restB x = true) (h3 : rightB x = true) : formE x = if x.kind = 1 ∧ nameB x.name.data.toList = false then 4 else 0 := by
  unfold formE
  rw [if_pos (by rw [h1, h2, h3]; rfl)]

set_option maxRecDepth 100000 in
theorem formedF_spec (x : Fact) (hx : x.Nums) (w : World) : CallsV C.P 162 #[x.val] w fun v w' => v = .int .i64 (formE x) ∧ Ext w w' := by
  obtain ⟨k, hk⟩ := Int.eq_ofNat_of_zero_le hx.kind.1
  refine callsV_of C_ok (args := [_]) (plans := []) Tryz.func162 rfl Tryz.ntmps162 (by kernel_rfl) (Nat.le_of_ble_eq_true rfl) ?_
  intro g1 w1 h1
  have M1 := (Mem.start w).alloc h1
  have bad : ∀ {w' : World}, (headB x = true → False) → Ext w w' → Value.int .i64 1 = .int .i64 (formE x) ∧ Ext w w' := fun h e => ⟨by rw [formE_head (headB_no h)], e⟩
  refine ⟨.int .u8 (k : Int), by rw [← hk]; exact M1.cell 0 rfl rfl, ?_⟩
  refine (formOf_spec k w1).mono ?_
  rintro v w2 ⟨hv, e2⟩
  have M2 := M1.grow e2
  by_cases hr : 1 ≤ k ∧ k ≤ 11
  case neg =>
    rw [if_neg hr] at hv
    subst hv
    intro g3 w3 h3
    have M3 := M2.alloc h3
    refine ⟨rfl, _, _, M3.get 0 rfl, Nat.le_of_ble_eq_true rfl, rfl, ?_⟩
    intro w4 h4
    exact bad (fun h => hr (by have := (headB_iff.1 h).1; omega)) (M3.put 0 rfl h4).ext
  rw [if_pos hr] at hv
  obtain ⟨cs, rfl, hlen, hone, hform⟩ := hv
  obtain ⟨n1, n2, n3, c2, heq, r1, r2, r3, a1, a2, a3⟩ := hform
  have hcs : cs = [.string (wordA k), .func (.func n1) #[] #[], .func (.func n2) #[] c2, .func (.func n3) #[] #[], .bool (Nat.beq k 1)] := by
    injection heq with h
    exact congrArg Array.toList h
  subst hcs
  intro g3 w3 h3
  have M3 := M2.alloc h3
  refine ⟨rfl, _, _, M3.get 0 rfl, Nat.le_of_ble_eq_true rfl, hone, ?_⟩
  intro w4 h4
  have M4 : Mem w w4 [(g3, .cells #[.string (wordA k), .func (.func n1) #[] #[], .func (.func n2) #[] c2, .func (.func n3) #[] #[], .bool (Nat.beq k 1)] 203 (0, 0)), (g1, .cells x.cells.toArray 81 (0, 0))] := M3.put 0 rfl h4
  refine ⟨_, M4.cell 1 rfl rfl, ?_⟩
  refine (id_spec x.id w4).mono ?_
  rintro v w5 ⟨rfl, rfl⟩
  refine brE_mk (fun b1 => ?_) (fun b1 => ?_)
  · exact bad (fun h => by rw [(headB_iff.1 h).2.1] at b1; cases b1) M4.ext
  have b1 : idB x.id = true := by simpa using b1
  refine ⟨_, M4.cell 1 rfl rfl, ?_⟩
  refine brE_dec (fun b2 => ?_) (fun b2 => ?_)
  · have b2 : x.known < 0 := b2
    exact bad (fun h => by have := (headB_iff.1 h).2.2.1; omega) M4.ext
  have b2 : ¬ x.known < 0 := b2
  refine ⟨_, M4.cell 1 rfl rfl, ?_⟩
  refine brE_dec (fun b3 => ?_) (fun b3 => ?_)
  · have b3 : x.known > 100000 := b3
    exact bad (fun h => by have := (headB_iff.1 h).2.2.1; omega) M4.ext
  have b3 : ¬ x.known > 100000 := b3
  refine ⟨_, M4.cell 1 rfl rfl, ?_⟩
  refine brE_dec (fun b4 => ?_) (fun b4 => ?_)
  · have b4 : x.since < 0 := b4
    exact bad (fun h => by have := (headB_iff.1 h).2.2.2.1; omega) M4.ext
  have b4 : ¬ x.since < 0 := b4
  refine ⟨_, M4.cell 1 rfl rfl, ?_⟩
  refine brE_dec (fun b5 => ?_) (fun b5 => ?_)
  · have b5 : x.since > 100000 := b5
    exact bad (fun h => by have := (headB_iff.1 h).2.2.2.1; omega) M4.ext
  have b5 : ¬ x.since > 100000 := b5
  refine ⟨_, M4.cell 1 rfl rfl, ?_⟩
  refine brE_ndec (fun b6 => ?A) (fun b6 => ?B)
  case' A =>
    have b6 : ¬ x.til = 0 := b6
    refine ⟨_, M4.cell 1 rfl rfl, ?_⟩
    refine ⟨_, M4.cell 1 rfl rfl, ?_⟩
    refine brE_dec (fun b7 => ?A1) (fun b7 => ?A2)
    case' A1 =>
      have b7 : x.til ≤ x.since := b7
      exact bad (fun h => by have := (headB_iff.1 h).2.2.2.2; omega) M4.ext
    have b7 : ¬ x.til ≤ x.since := b7
    refine ⟨_, M4.cell 1 rfl rfl, ?_⟩
    refine brE_dec (fun b8 => ?A3) (fun b8 => ?A4)
    case' A3 =>
      have b8 : x.til > 100000 := b8
      exact bad (fun h => by have := (headB_iff.1 h).2.2.2.2; omega) M4.ext
    have b8 : ¬ x.til > 100000 := b8
    have hhead : headB x = true := headB_iff.2 ⟨by omega, b1, by omega, by omega, .inr (by omega)⟩
  case' B =>
    have b6 : x.til = 0 := b6
    have hhead : headB x = true := headB_iff.2 ⟨by omega, b1, by omega, by omega, .inl b6⟩
  all_goals
    clear bad
    have N4 : Mem w2 w5 [(g3, .cells #[.string (wordA k), .func (.func n1) #[] #[], .func (.func n2) #[] c2, .func (.func n3) #[] #[], .bool (Nat.beq k 1)] 203 (0, 0))] := ((Mem.start w2).alloc h3).put 0 rfl h4
    have hg1 : w2.heap[g1]? = some (.cells x.cells.toArray 81 (0, 0)) := M2.get 0 rfl
    have e02 := M2.ext
    clear M4 M2 M1
    refine ⟨x.cells, rfl, Rd.of_block (N4.ext.heap hg1), ?_⟩
    intro g5 w6 h6
    have N6 := N4.alloc h6
    refine ⟨rfl, _, _, N6.get 0 rfl, Nat.le_of_ble_eq_true rfl, rfl, ?_⟩
    intro w7 h7
    have h7 : Put w6 g5 (.cells x.cells.toArray 81 (0, 0)) w7 := h7
    have N7 : Mem w2 w7 [(g5, .cells x.cells.toArray 81 (0, 0)), (g3, .cells #[.string (wordA k), .func (.func n1) #[] #[], .func (.func n2) #[] c2, .func (.func n3) #[] #[], .bool (Nat.beq k 1)] 203 (0, 0))] := N6.put 0 rfl h7
    refine ⟨_, N7.cell 1 rfl rfl, ?_⟩
    refine brE_true r1 ?_
    refine (a1 g5 w7).mono ?_
    rintro v w8 ⟨⟨h, rfl, hh, hnew⟩, e8⟩
    have N8 := (N7.grow e8).add hh (Nat.le_trans N7.ext.size hnew) (fun p hp => by
      have := N7.lt (g := p.1) (o := p.2) hp
      omega)
    have hlen5 := offs_len k
    refine loopE C_ok (fun (i : Nat) => [(1, .pointer (some ⟨g1, 0, none⟩)), (3, .pointer (some ⟨g3, 0, none⟩)), (5, .pointer (some ⟨g5, 0, none⟩)), (62, .slice (some ⟨h, 0, none⟩) (offs k).length (offs k).length), (63, .int .i64 (offs k).length), (64, .int .i64 i)])
      (fun i w' => i ≤ (offs k).length ∧ Mem w2 w' [(h, .cells (ptrs g5 (offs k)).toArray 167 (0, 0)), (g5, .cells (zeroAt x ((offs k).take i)).toArray 81 (0, 0)), (g3, .cells #[.string (wordA k), .func (.func n1) #[] #[], .func (.func n2) #[] c2, .func (.func n3) #[] #[], .bool (Nat.beq k 1)] 203 (0, 0))]) (fun i => (offs k).length - i) 0
      ⟨rfl, rfl, rfl, rfl, rfl, rfl, trivial⟩ ⟨Nat.zero_le _, N8⟩ ?_
    rintro i w9 ⟨hi, N9⟩
    have hzl := zeroAt_length x ((offs k).take i) (fun o ho => offs_lt k o (List.mem_of_mem_take ho))
    refine brE_dec (fun hlt => ?_) (fun hge => ?_)
    · have hlt : i < (offs k).length := by have : (i : Int) < ((offs k).length : Nat) := hlt; omega
      have hol := offs_lt k _ (List.getElem_mem hlt)
      refine ⟨i, h, 0, rfl, hlt, rfl, ?_⟩
      refine ⟨.pointer (some ⟨g5, (offs k)[i], none⟩), by have := (N9.rd 0 rfl) i _ (ptrs_get hlt); simpa using this, ?_⟩
      refine ⟨rfl, _, _, N9.get 1 rfl, by rw [hzl]; show (offs k)[i] + 1 ≤ 9; omega, rfl, ?_⟩
      intro w10 h10
      have h10 : Put w9 g5 (.cells (splice (zeroAt x ((offs k).take i)) (offs k)[i] [.int .i64 0]).toArray 81 (0, 0)) w10 := h10
      rw [← zeroAt_snoc, ← List.take_succ_eq_append_getElem hlt] at h10
      refine ⟨((i + 1 : Nat) : Int), fit ⟨by omega, by omega⟩, ?_⟩
      exact ⟨i + 1, ⟨rfl, rfl, rfl, rfl, rfl, rfl, trivial⟩, ⟨hlt, N9.put 1 rfl h10⟩, by omega⟩
    have : i = (offs k).length := by have : ¬ (i : Int) < ((offs k).length : Nat) := hge; omega
    subst this
    rw [List.take_length] at N9 hzl
    have hst := struck hk hr.1 hr.2
    generalize zeroAt x (offs k) = Z at N9 hzl hst
    refine ⟨rfl, _, _, N9.get 1 rfl, by rw [hzl]; exact Nat.le_of_ble_eq_true rfl, rfl, ?_⟩
    intro w10 h10
    have N10 := N9.put 1 rfl h10
    have hz0 : (splice Z 0 [.int .i64 0]).length = 9 := by rw [splice_length (by rw [hzl]; exact Nat.le_of_ble_eq_true rfl)]; exact hzl
    refine ⟨rfl, _, _, N10.get 1 rfl, by show _ ≤ (splice Z 0 [.int .i64 0]).length; rw [hz0]; exact Nat.le_of_ble_eq_true rfl, rfl, ?_⟩
    intro w11 h11
    have N11 := N10.put 1 rfl h11
    have hz1 : (splice (splice Z 0 [.int .i64 0]) 1 [.int .i64 0]).length = 9 := by rw [splice_length (by rw [hz0]; exact Nat.le_of_ble_eq_true rfl)]; exact hz0
    refine ⟨rfl, _, _, N11.get 1 rfl, by show _ ≤ (splice (splice Z 0 [.int .i64 0]) 1 [.int .i64 0]).length; rw [hz1]; exact Nat.le_of_ble_eq_true rfl, rfl, ?_⟩
    intro w12 h12
    have N12 := N11.put 1 rfl h12
    have hz2 : (splice (splice (splice Z 0 [.int .i64 0]) 1 [.int .i64 0]) 2 [.int .u8 0]).length = 9 := by rw [splice_length (by rw [hz1]; exact Nat.le_of_ble_eq_true rfl)]; exact hz1
    refine ⟨_, N12.cell 2 rfl rfl, ?_⟩
    refine brE_mk (fun hn => ?_) (fun hn => ?_)
    case' refine_1 =>
      have hn : k = 1 := Nat.eq_of_beq_eq_true hn
      rw [if_pos hn] at hst
      refine ⟨rfl, _, _, N12.get 1 rfl, by show _ ≤ (splice (splice (splice Z 0 [.int .i64 0]) 1 [.int .i64 0]) 2 [.int .u8 0]).length; rw [hz2]; exact Nat.le_of_ble_eq_true rfl, rfl, ?_⟩
      intro w13 h13
      have N13 : Mem w2 w13 [(h, .cells (ptrs g5 (offs k)).toArray 167 (0, 0)), (g5, .cells (restF x).cells.toArray 81 (0, 0)), (g3, .cells #[.string (wordA k), .func (.func n1) #[] #[], .func (.func n2) #[] c2, .func (.func n3) #[] #[], .bool (Nat.beq k 1)] 203 (0, 0))] := by
        rw [← hst]; exact N12.put 1 rfl h13
    case' refine_2 =>
      have hn : ¬ k = 1 := fun e => by rw [e] at hn; cases hn
      rw [if_neg hn] at hst
      have N13 : Mem w2 w12 [(h, .cells (ptrs g5 (offs k)).toArray 167 (0, 0)), (g5, .cells (restF x).cells.toArray 81 (0, 0)), (g3, .cells #[.string (wordA k), .func (.func n1) #[] #[], .func (.func n2) #[] c2, .func (.func n3) #[] #[], .bool (Nat.beq k 1)] 203 (0, 0))] := by
        rw [← hst]; exact N12
    all_goals
      clear hst hz2 hz1 hz0 N12 N11 N10 N9
      have hrz := restF_zero x
      refine ⟨(restF x).cells, rfl, N13.rd 1 rfl, ?_⟩
      refine ⟨_, neqF _ _ (restF x) factZ, ?_⟩
      refine brE_ndec (fun hd => ?_) (fun hd => ?_)
      · exact ⟨by rw [formE_rest fun h => hd (hrz.2 h)], e02.trans N13.ext⟩
      have hrest := hrz.1 hd
      refine ⟨_, N13.cell 2 rfl rfl, ?_⟩
      refine ⟨x.cells, rfl, Rd.of_block (N13.ext.heap hg1), ?_⟩
      refine brE_true r2 ?_
      refine (a2 x _ hk N13.ext).mono ?_
      rintro v w14 ⟨rfl, e14⟩
      have N14 := N13.grow e14
      refine brE_mk (fun hri => ?_) (fun hri => ?_)
      · exact ⟨by rw [formE_right fun h => by rw [h] at hri; cases hri], e02.trans N14.ext⟩
      have hri : rightB x = true := by simpa using hri
      have hok := formE_ok hhead hrest hri
      refine ⟨_, N14.cell 2 rfl rfl, ?_⟩
      first
      | (have hk1 : x.kind = 1 := by omega
         refine brE_mk (fun hb => ?_) (fun hb => ?_)
         · refine ⟨_, cell_of_block (N14.ext.heap hg1) rfl, ?_⟩
           refine (isName_spec x.name w14 hx.name).mono ?_
           rintro v w15 ⟨rfl, rfl⟩
           refine brE_mk (fun hm => ?_) (fun hm => ?_)
           · exact ⟨by rw [hok, if_pos ⟨hk1, by simpa using hm⟩], e02.trans N14.ext⟩
           · have hm : nameB x.name.data.toList = true := by simpa using hm
             exact ⟨by rw [hok, if_neg (fun h => by rw [hm] at h; cases h.2)], e02.trans N14.ext⟩
         · exact absurd hb (by rw [show k = 1 by omega]; decide))
      | (have hk1 : ¬ x.kind = 1 := by omega
         refine brE_mk (fun hb => ?_) (fun hb => ?_)
         · exact absurd (Nat.eq_of_beq_eq_true hb) (by omega)
         · exact ⟨by rw [hok, if_neg (fun h => hk1 h.1)], e02.trans N14.ext⟩)

end Go.Proofs.YtcnbpfecgokhiaaGreatDoor

namespace Go.Proofs.YtcnbpfecgokhiaaGreatDoor
open Go.Eng Go.RowKit

def fieldI (x : Fact) (o : Nat) : Int := if o = 3 then x.who else if o = 4 then x.what else if o = 5 then x.other else if o = 6 then x.since else x.til
def setF (x : Fact) (o : Nat) (n : Int) : Fact := if o = 3 then { x with who := n } else if o = 4 then { x with what := n } else if o = 5 then { x with other := n } else if o = 6 then { x with since := n } else { x with til := n }

theorem offs_mem {k : Int} {o : Nat} (h : o ∈ offs k) : o = 3 ∨ o = 4 ∨ o = 5 ∨ o = 6 ∨ o = 7 := by
  unfold offs at h
  split at h
  · simp at h; omega
  · split at h
    · simp at h; omega
    · split at h
      · simp at h; omega
      · split at h
        · simp at h; omega
        · split at h
          · simp at h; omega
          · simp at h; omega
theorem fieldI_cell (x : Fact) {o : Nat} (h : o = 3 ∨ o = 4 ∨ o = 5 ∨ o = 6 ∨ o = 7) : x.cells[o]? = some (.int .i64 (fieldI x o)) := by
  rcases h with rfl | rfl | rfl | rfl | rfl <;> rfl
theorem setF_cells (x : Fact) {o : Nat} (h : o = 3 ∨ o = 4 ∨ o = 5 ∨ o = 6 ∨ o = 7) (n : Int) : splice x.cells o [.int .i64 n] = (setF x o n).cells := by
  rcases h with rfl | rfl | rfl | rfl | rfl <;> rfl

/-- The words of a line. -/
def wordsL (x : Fact) : List (List UInt8) := [Lib.itoa x.id, Lib.itoa x.known, (wordA x.kind.toNat).data.toList] ++ (offs x.kind).map (fun o => Lib.itoa (fieldI x o)) ++ if x.kind = 1 then [x.name.data.toList] else []
def lineL (x : Fact) : List UInt8 := Lib.join (wordsL x) [32]
def lineS (x : Fact) : ByteArray := ⟨(lineL x).toArray⟩

/-! ### cutting -/
def cutW : List UInt8 → List UInt8 × List UInt8
  | [] => ([], [])
  | c :: r => if c = 32 then ([], r) else (c :: (cutW r).1, (cutW r).2)

theorem cutW_none : ∀ {w : List UInt8}, 32 ∉ w → cutW w = (w, [])
  | [], _ => rfl
  | c :: r, h => by
    have h1 : ¬ c = 32 := fun e => h (by simp [e])
    have h2 : 32 ∉ r := fun e => h (by simp [e])
    rw [cutW, if_neg h1, cutW_none h2]
theorem cutW_at : ∀ {w : List UInt8} (s : List UInt8), 32 ∉ w → cutW (w ++ 32 :: s) = (w, s)
  | [], s, _ => by rw [List.nil_append, cutW, if_pos rfl]
  | c :: r, s, h => by
    have h1 : ¬ c = 32 := fun e => h (by simp [e])
    have h2 : 32 ∉ r := fun e => h (by simp [e])
    rw [List.cons_append, cutW, if_neg h1, cutW_at s h2]
theorem join_two (w v : List UInt8) (r : List (List UInt8)) : Lib.join (w :: v :: r) [32] = w ++ 32 :: Lib.join (v :: r) [32] := by
  rw [Lib.join_cons, Lib.join_cons]
  simp [Lib.joinTail]
theorem cutW_join {w : List UInt8} (r : List (List UInt8)) (h : 32 ∉ w) : cutW (Lib.join (w :: r) [32]) = (w, Lib.join r [32]) := by
  cases r with
  | nil => rw [Lib.join_one, Lib.join_nil]; exact cutW_none h
  | cons v r => rw [join_two]; exact cutW_at _ h
theorem cutW_length : ∀ (s : List UInt8), (cutW s).1.length ≤ s.length ∧ (cutW s).2.length ≤ s.length
  | [] => by simp [cutW]
  | c :: r => by
    have := cutW_length r
    rw [cutW]
    split
    · simp
    · simp; omega

/-! ### numbers -/
def numW (w : List UInt8) : Int × Bool := match Lib.atoiAll w with
  | .ok v => (v, true)
  | .«syntax» => (0, false)
  | .range => (Lib.atoiSat w, false)
theorem numW_in (w : List UInt8) : In64 (numW w).1 := by
  unfold numW
  cases h : Lib.atoiAll w with
  | ok v => exact Lib.atoiAll_bounds h
  | «syntax» => exact ⟨by show (-9223372036854775808 : Int) ≤ 0; decide, by show (0 : Int) ≤ 9223372036854775807; decide⟩
  | range => exact Lib.atoiSat_bounds w

theorem dec_from : ∀ (k u acc : Nat), u < 10 ^ k → ∃ m, Lib.decFrom acc (Lib.decDigits u) = some (acc * 10 ^ m + u) ∧ (Lib.decDigits u).length = m ∧ (∀ c ∈ Lib.decDigits u, 48 ≤ c.toNat ∧ c.toNat ≤ 57) ∧ 1 ≤ m ∧ (1 ≤ k → m ≤ k)
  | 0, u, acc, h => by
    have : u = 0 := by simpa using h
    subst this
    rw [Lib.decDigits_one (by decide)]
    exact ⟨1, by simp [Lib.decFrom, Lib.digitVal], rfl, by simp, by decide, fun h => absurd h (by decide)⟩
  | k + 1, u, acc, h => by
    by_cases hu : u < 10
    · rw [Lib.decDigits_one hu]
      have hn : (UInt8.ofNat (48 + u)).toNat = 48 + u := by simp; omega
      refine ⟨1, ?_, rfl, ?_, by decide, fun _ => by omega⟩
      · simp only [Lib.decFrom, Lib.digitVal, hn]
        rw [if_pos (by omega)]
        simp only [Lib.decFrom]
        congr 1; omega
      · intro c hc
        rw [List.mem_singleton.1 hc, hn]; omega
    · rw [Lib.decDigits, dif_neg hu]
      have hd : u / 10 < 10 ^ k := by rw [Nat.pow_succ] at h; omega
      obtain ⟨m, h1, h2, h3, h4, h5⟩ := dec_from k (u / 10) acc hd
      have hn : (UInt8.ofNat (48 + u % 10)).toNat = 48 + u % 10 := by simp; omega
      have app : ∀ (l : List UInt8) (a b : Nat) (r : List UInt8), Lib.decFrom a l = some b → Lib.decFrom a (l ++ r) = Lib.decFrom b r := by
        intro l
        induction l with
        | nil => intro a b r h; simp only [Lib.decFrom, Option.some.injEq] at h; rw [h]; rfl
        | cons c t ih =>
          intro a b r h
          simp only [Lib.decFrom, List.cons_append] at h ⊢
          cases hc : Lib.digitVal c with
          | none => rw [hc] at h; cases h
          | some d => rw [hc] at h; exact ih _ _ _ h
      refine ⟨m + 1, ?_, by rw [List.length_append, h2]; rfl, ?_, by omega, fun _ => ?_⟩
      · rw [app _ _ _ _ h1]
        simp only [Lib.decFrom, Lib.digitVal, hn]
        rw [if_pos (by omega)]
        simp only [Lib.decFrom]
        congr 1
        rw [Nat.pow_succ, ← Nat.mul_assoc, Nat.add_mul]
        omega
      · intro c hc
        rcases List.mem_append.1 hc with hc | hc
        · exact h3 c hc
        · rw [List.mem_singleton.1 hc, hn]; omega
      · by_cases hk : 1 ≤ k
        · have := h5 hk; omega
        · have : k = 0 := by omega
          subst this
          have : u / 10 = 0 := by simpa using hd
          omega

/-- The digits of a small number, and what they are read as. -/
theorem itoa_small {n : Int} (h0 : 0 ≤ n) (h1 : n ≤ 1000000) : numW (Lib.itoa n) = (n, true) ∧ (Lib.itoa n).length ≤ 7 ∧ (∀ c ∈ Lib.itoa n, 48 ≤ c.toNat ∧ c.toNat ≤ 57) ∧ Lib.decFrom 0 (Lib.itoa n) = some n.toNat ∧ Lib.itoa n ≠ [] := by
  obtain ⟨m, a1, a2, a3, a4, a5⟩ := dec_from 7 n.toNat 0 (by omega)
  have e : Lib.itoa n = Lib.decDigits n.toNat := by unfold Lib.itoa; rw [if_neg (by omega)]
  rw [Nat.zero_mul, Nat.zero_add] at a1
  have a6 := a5 (by decide)
  rw [e]
  have hne : Lib.decDigits n.toNat ≠ [] := fun e => by rw [e] at a2; simp at a2; omega
  refine ⟨?_, by omega, a3, a1, hne⟩
  unfold numW
  rw [Lib.atoiAll_short _ (by omega)]
  cases hl : Lib.decDigits n.toNat with
  | nil => exact absurd hl hne
  | cons c r =>
    have hc := a3 c (by rw [hl]; simp)
    have n45 : (c == 45) = false := by
      rw [beq_eq_false_iff_ne]
      intro e; rw [e] at hc; revert hc; decide
    have n43 : (c == 43) = false := by
      rw [beq_eq_false_iff_ne]
      intro e; rw [e] at hc; revert hc; decide
    rw [hl] at a1
    have : Lib.atoi (c :: r) = some n := by
      simp only [Lib.atoi, n45, n43, Lib.decNat, List.isEmpty_cons, a1]
      simp
      omega
    rw [this]
    rfl

theorem no_blank {n : Int} (h0 : 0 ≤ n) (h1 : n ≤ 1000000) : 32 ∉ Lib.itoa n := fun h => by
  have := (itoa_small h0 h1).2.2.1 32 h
  revert this; decide

/-! ### reading -/
def fillF : List Nat → Fact → List UInt8 → Bool → Fact × List UInt8 × Bool
  | [], x, s, b => (x, s, b)
  | o :: r, x, s, b => fillF r (setF x o (numW (cutW s).1).1) (cutW s).2 (b && (numW (cutW s).1).2)
def kindAt (v : List UInt8) : List Nat → Nat
  | [] => 0
  | k :: r => if (wordA k).data.toList = v then k else kindAt v r
def kindOf (v : List UInt8) : Nat := kindAt v [1, 2, 3, 4, 5, 6, 7, 8, 9, 10, 11]
def readP (s : List UInt8) : Fact × Bool :=
  let a := cutW s
  let b := cutW a.2
  let c := cutW b.2
  let k := kindOf c.1
  let x0 : Fact := ⟨(numW a.1).1, (numW b.1).1, k, 0, 0, 0, 0, 0, ⟨#[]⟩⟩
  let f0 := true && (numW a.1).2 && (numW b.1).2
  if k = 0 then (x0, f0) else
    let r := fillF (offs k) x0 c.2 f0
    (if k = 1 then { r.1 with name := ⟨r.2.1.toArray⟩ } else r.1, r.2.2)
def readF (line : ByteArray) : Fact × Int :=
  let r := readP line.data.toList
  if r.2 = true ∧ formE r.1 = 0 ∧ lineS r.1 = line then (r.1, 0) else (factZ, 4)

theorem kind_word {k : Nat} (h1 : 1 ≤ k) (h2 : k ≤ 11) : kindOf (wordA k).data.toList = k ∧ 32 ∉ (wordA k).data.toList := by
  have : k = 1 ∨ k = 2 ∨ k = 3 ∨ k = 4 ∨ k = 5 ∨ k = 6 ∨ k = 7 ∨ k = 8 ∨ k = 9 ∨ k = 10 ∨ k = 11 := by omega
  rcases this with rfl | rfl | rfl | rfl | rfl | rfl | rfl | rfl | rfl | rfl | rfl <;> decide +kernel

theorem formE_zero {x : Fact} (h : formE x = 0) : headB x = true ∧ restB x = true ∧ rightB x = true ∧ (x.kind = 1 → nameB x.name.data.toList = true) := by
  unfold formE at h
  split at h
  · rename_i h1
    simp only [Bool.and_eq_true] at h1
    refine ⟨h1.1.1, h1.1.2, h1.2, fun hk => ?_⟩
    cases hn : nameB x.name.data.toList with
    | true => rfl
    | false => rw [if_pos ⟨hk, hn⟩] at h; cases h
  · cases h

/-- The fields that a kind uses hold small numbers. -/
theorem right_fields {x : Fact} (hh : headB x = true) (hr : rightB x = true) {o : Nat} (ho : o ∈ offs x.kind) : 0 ≤ fieldI x o ∧ fieldI x o ≤ 1000000 := by
  obtain ⟨hk, _, hkn, hs, ht⟩ := headB_iff.1 hh
  have htil : 0 ≤ x.til ∧ x.til ≤ 1000000 := by omega
  have cases : x.kind = 1 ∨ x.kind = 2 ∨ x.kind = 3 ∨ x.kind = 4 ∨ x.kind = 5 ∨ x.kind = 6 ∨ x.kind = 7 ∨ x.kind = 8 ∨ x.kind = 9 ∨ x.kind = 10 ∨ x.kind = 11 := by omega
  rcases cases with e | e | e | e | e | e | e | e | e | e | e <;> simp [rightB, e, offs] at hr ho <;> (rcases ho with rfl | rfl | rfl | rfl | rfl) <;> simp [fieldI] <;> omega

theorem fill_line (f : Nat → Int) (ws : List (List UInt8)) (b : Bool) : ∀ (os : List Nat) (x : Fact), (∀ o ∈ os, 0 ≤ f o ∧ f o ≤ 1000000) →
    fillF os x (Lib.join (os.map (fun o => Lib.itoa (f o)) ++ ws) [32]) b = (os.foldl (fun y o => setF y o (f o)) x, Lib.join ws [32], b)
  | [], x, _ => rfl
  | o :: r, x, h => by
    obtain ⟨h0, h1⟩ := h o (by simp)
    rw [List.map_cons, List.cons_append, fillF, cutW_join _ (no_blank h0 h1)]
    simp only [(itoa_small h0 h1).1, Bool.and_true]
    rw [fill_line f ws b r _ fun o ho => h o (by simp [ho]), List.foldl_cons]

/-- What was left zero is filled again. -/
theorem filled {x : Fact} (hh : headB x = true) (hr : restB x = true) : (offs x.kind).foldl (fun y o => setF y o (fieldI x o)) ⟨x.id, x.known, x.kind, 0, 0, 0, 0, 0, if x.kind = 1 then x.name else ⟨#[]⟩⟩ = x := by
  obtain ⟨hk, _⟩ := headB_iff.1 hh
  obtain ⟨x0, x1, x2, x3, x4, x5, x6, x7, x8⟩ := x
  have hk : 1 ≤ x2 ∧ x2 ≤ 11 := hk
  have cases : x2 = 1 ∨ x2 = 2 ∨ x2 = 3 ∨ x2 = 4 ∨ x2 = 5 ∨ x2 = 6 ∨ x2 = 7 ∨ x2 = 8 ∨ x2 = 9 ∨ x2 = 10 ∨ x2 = 11 := by omega
  rcases cases with rfl | rfl | rfl | rfl | rfl | rfl | rfl | rfl | rfl | rfl | rfl <;> simp [restB, offs] at hr <;> simp [offs, setF, fieldI, hr]

theorem fold_name (f : Nat → Int) (s : ByteArray) : ∀ (os : List Nat) (x : Fact), { os.foldl (fun y o => setF y o (f o)) x with name := s } = os.foldl (fun y o => setF y o (f o)) { x with name := s }
  | [], _ => rfl
  | o :: r, x => by
    rw [List.foldl_cons, List.foldl_cons, fold_name f s r]
    congr 1
    unfold setF
    split
    · rfl
    · split
      · rfl
      · split
        · rfl
        · split <;> rfl
theorem ba_mk (s : ByteArray) : (⟨s.data.toList.toArray⟩ : ByteArray) = s := by cases s; simp

theorem readP_line {x : Fact} (h : formE x = 0) : readP (lineL x) = (x, true) := by
  obtain ⟨hh, hr, hri, _⟩ := formE_zero h
  obtain ⟨hk, hid, hkn, _, _⟩ := headB_iff.1 hh
  have hid : 1 ≤ x.id ∧ x.id ≤ 1000000 := of_decide_eq_true hid
  obtain ⟨k, hkk⟩ := Int.eq_ofNat_of_zero_le (show 0 ≤ x.kind by omega)
  have hkt : x.kind.toNat = k := by omega
  obtain ⟨hw1, hw2⟩ := kind_word (k := k) (by omega) (by omega)
  have e1 := itoa_small (n := x.id) (by omega) (by omega)
  have e2 := itoa_small (n := x.known) (by omega) (by omega)
  have hl : lineL x = Lib.join (Lib.itoa x.id :: Lib.itoa x.known :: (wordA k).data.toList :: ((offs x.kind).map (fun o => Lib.itoa (fieldI x o)) ++ if x.kind = 1 then [x.name.data.toList] else [])) [32] := by
    unfold lineL wordsL; rw [hkt]; rfl
  rw [hl]
  unfold readP
  simp only [cutW_join _ (no_blank (n := x.id) (by omega) (by omega)), cutW_join _ (no_blank (n := x.known) (by omega) (by omega)), cutW_join _ hw2, hw1, e1.1, e2.1, Bool.and_true]
  rw [if_neg (by omega), ← hkk, fill_line (fieldI x) _ true (offs x.kind) _ fun o ho => right_fields hh hri ho]
  have hf := filled hh hr
  by_cases h1 : x.kind = 1
  · rw [if_pos h1] at hf
    rw [if_pos (by omega : k = 1), if_pos h1]
    simp only [Lib.join_one, fold_name, ba_mk]
    rw [hf]
  · rw [if_neg h1] at hf
    rw [if_neg (by omega : ¬ k = 1), hf]

theorem lineS_data (x : Fact) : (lineS x).data.toList = lineL x := by simp [lineS]
theorem readF_line {x : Fact} (h : formE x = 0) : readF (lineS x) = (x, 0) := by
  have e : readP (lineS x).data.toList = (x, true) := by rw [lineS_data]; exact readP_line h
  show (if (readP (lineS x).data.toList).2 = true ∧ formE (readP (lineS x).data.toList).1 = 0 ∧ lineS (readP (lineS x).data.toList).1 = lineS x then ((readP (lineS x).data.toList).1, (0 : Int)) else (factZ, 4)) = _
  rw [e]
  exact if_pos ⟨rfl, h, rfl⟩
theorem readF_some {line : ByteArray} {x : Fact} (h : readF line = (x, 0)) : formE x = 0 ∧ lineS x = line := by
  unfold readF at h
  simp only at h
  split at h
  · rename_i h1
    obtain ⟨_, h2, h3⟩ := h1
    injection h with h _
    rw [h] at h2 h3
    exact ⟨h2, h3⟩
  · injection h with _ h; cases h

end Go.Proofs.YtcnbpfecgokhiaaGreatDoor

namespace Go.Proofs.YtcnbpfecgokhiaaGreatDoor
open Go.Eng Go.RowKit

def numR (s : List UInt8) : Int := if s.length ≤ 7 then (match Lib.decFrom 0 s with | some n => (n : Int) | none => 0) else 0
theorem numR_small {n : Int} (h0 : 0 ≤ n) (h1 : n ≤ 1000000) : numR (Lib.itoa n) = n := by
  obtain ⟨_, h2, _, h3, _⟩ := itoa_small h0 h1
  unfold numR
  rw [if_pos h2, h3]
  show (n.toNat : Int) = n
  omega
theorem numR_in (s : List UInt8) : 0 ≤ numR s ∧ numR s ≤ 9999999 := by
  unfold numR
  split
  · rename_i h
    cases hd : Lib.decFrom 0 s with
    | none => exact ⟨by decide, by decide⟩
    | some n =>
      have := Lib.decFrom_lt s 0 n hd
      have h2 : 10 ^ s.length ≤ 10 ^ 7 := Nat.pow_le_pow_right (by decide) h
      have : n < 10 ^ 7 := by omega
      have : n < 10000000 := this
      constructor <;> simp only <;> omega
  · exact ⟨by decide, by decide⟩

def restN : Nat → List UInt8 → List UInt8
  | 0, s => s
  | n + 1, s => restN n (cutW s).2
def fillG : List Nat → Fact → List UInt8 → Fact
  | [], x, _ => x
  | o :: r, x, s => fillG r (setF x o (numR (cutW s).1)) (cutW s).2
def guessP (s : List UInt8) : Fact :=
  let a := cutW s
  let b := cutW a.2
  let c := cutW b.2
  let k := kindOf c.1
  let x0 : Fact := ⟨numR a.1, numR b.1, k, 0, 0, 0, 0, 0, ⟨#[]⟩⟩
  if k = 0 then x0 else
    let x := fillG (offs k) x0 c.2
    if k = 1 then { x with name := ⟨(restN 4 c.2).toArray⟩ } else x
def readR (line : ByteArray) : Fact × Int :=
  let x := guessP line.data.toList
  if formE x = 0 ∧ lineS x = line then (x, 0) else (factZ, 4)

theorem fillG_line (f : Nat → Int) (ws : List (List UInt8)) : ∀ (os : List Nat) (x : Fact), (∀ o ∈ os, 0 ≤ f o ∧ f o ≤ 1000000) →
    fillG os x (Lib.join (os.map (fun o => Lib.itoa (f o)) ++ ws) [32]) = os.foldl (fun y o => setF y o (f o)) x ∧ restN os.length (Lib.join (os.map (fun o => Lib.itoa (f o)) ++ ws) [32]) = Lib.join ws [32]
  | [], x, _ => ⟨rfl, rfl⟩
  | o :: r, x, h => by
    obtain ⟨h0, h1⟩ := h o (by simp)
    rw [List.map_cons, List.cons_append, fillG, List.length_cons, restN, cutW_join _ (no_blank h0 h1)]
    simp only [numR_small h0 h1]
    obtain ⟨a, b⟩ := fillG_line f ws r (setF x o (f o)) fun o ho => h o (by simp [ho])
    rw [a, b, List.foldl_cons]
    exact ⟨rfl, rfl⟩

theorem guessP_line {x : Fact} (h : formE x = 0) : guessP (lineL x) = x := by
  obtain ⟨hh, hr, hri, _⟩ := formE_zero h
  obtain ⟨hk, hid, hkn, _, _⟩ := headB_iff.1 hh
  have hid : 1 ≤ x.id ∧ x.id ≤ 1000000 := of_decide_eq_true hid
  obtain ⟨k, hkk⟩ := Int.eq_ofNat_of_zero_le (show 0 ≤ x.kind by omega)
  have hkt : x.kind.toNat = k := by omega
  obtain ⟨hw1, hw2⟩ := kind_word (k := k) (by omega) (by omega)
  have e1 := numR_small (n := x.id) (by omega) (by omega)
  have e2 := numR_small (n := x.known) (by omega) (by omega)
  have hl : lineL x = Lib.join (Lib.itoa x.id :: Lib.itoa x.known :: (wordA k).data.toList :: ((offs x.kind).map (fun o => Lib.itoa (fieldI x o)) ++ if x.kind = 1 then [x.name.data.toList] else [])) [32] := by
    unfold lineL wordsL; rw [hkt]; rfl
  rw [hl]
  unfold guessP
  simp only [cutW_join _ (no_blank (n := x.id) (by omega) (by omega)), cutW_join _ (no_blank (n := x.known) (by omega) (by omega)), cutW_join _ hw2, hw1, e1, e2]
  obtain ⟨g1, g2⟩ := fillG_line (fieldI x) (if x.kind = 1 then [x.name.data.toList] else []) (offs x.kind) ⟨x.id, x.known, x.kind, 0, 0, 0, 0, 0, ⟨#[]⟩⟩ fun o ho => right_fields hh hri ho
  rw [if_neg (by omega), ← hkk, g1]
  have hf := filled hh hr
  by_cases h1 : x.kind = 1
  · have hlen : (offs x.kind).length = 4 := by rw [h1]; rfl
    rw [hlen] at g2
    rw [if_pos h1] at hf g2
    rw [if_pos (by omega : k = 1), if_pos h1, g2]
    simp only [Lib.join_one, fold_name, ba_mk]
    exact hf
  · rw [if_neg h1] at hf
    rw [if_neg (by omega : ¬ k = 1)]
    exact hf

theorem readR_eq (line : ByteArray) : readR line = readF line := by
  unfold readR
  simp only
  split
  · rename_i h
    rw [← h.2, lineS_data, guessP_line h.1, readF_line h.1]
  · rename_i h
    unfold readF
    simp only
    rw [if_neg]
    rintro ⟨_, h2, h3⟩
    refine h ?_
    rw [← h3, lineS_data, guessP_line h2]
    exact ⟨h2, rfl⟩

end Go.Proofs.YtcnbpfecgokhiaaGreatDoor

namespace Go.Proofs.YtcnbpfecgokhiaaGreatDoor
open Go.Eng Go.RowKit

/-- A map that has these numbers, each with true. -/
def SetIs (w : World) (g : Nat) (l : List Int) : Prop := ∃ f, MapIs C.P 3 w g f ∧ ∀ x, (f x = some (.bool true) ∧ ∃ s ∈ l, x = .int .i64 s) ∨ (f x = none ∧ ∀ s ∈ l, x ≠ .int .i64 s)
theorem SetIs.ext {w w' : World} {g : Nat} {l : List Int} (h : SetIs w g l) (e : Ext w w') : SetIs w' g l := let ⟨f, h1, h2⟩ := h; ⟨f, h1.ext e, h2⟩
theorem SetIs.other {w w' : World} {g b : Nat} {o : Obj} {l : List Int} (h : SetIs w g l) (p : Put w b o w') (hne : g ≠ b) : SetIs w' g l := let ⟨f, h1, h2⟩ := h; ⟨f, h1.put p hne, h2⟩
theorem SetIs.empty {w : World} {g : Nat} (h : w.heap[g]? = some (.map #[] 0)) : SetIs w g [] := ⟨_, MapIs.empty h, fun _ => .inr ⟨rfl, fun _ h => by cases h⟩⟩
theorem SetIs.block {w : World} {g : Nat} {l : List Int} (h : SetIs w g l) : ∃ es clk, w.heap[g]? = some (.map es clk) := let ⟨_, ⟨es, clk, hb, _⟩, _⟩ := h; ⟨es, clk, hb⟩
theorem set_get {f : Value → Option Value} {l : List Int} (h : ∀ x, (f x = some (.bool true) ∧ ∃ s ∈ l, x = .int .i64 s) ∨ (f x = none ∧ ∀ s ∈ l, x ≠ .int .i64 s)) (q : Int) : (f (.int .i64 q)).getD (.bool false) = .bool (decide (q ∈ l)) := by
  rcases h (.int .i64 q) with ⟨h1, s, hs, e⟩ | ⟨h1, h2⟩
  · injection e with _ e
    subst e
    rw [h1, decide_eq_true hs]; rfl
  · rw [h1, decide_eq_false fun hq => h2 q hq rfl]; rfl
theorem set_put {w : World} {g : Nat} {f : Value → Option Value} {l : List Int} (h : ∀ x, (f x = some (.bool true) ∧ ∃ s ∈ l, x = .int .i64 s) ∨ (f x = none ∧ ∀ s ∈ l, x ≠ .int .i64 s)) {q : Int} (hM : MapIs C.P 3 w g (updV f (.int .i64 q) (.bool true))) : SetIs w g (l ++ [q]) := by
  refine ⟨_, hM, fun x => ?_⟩
  unfold updV
  by_cases e : x = .int .i64 q
  · rw [if_pos e]; exact .inl ⟨rfl, q, by simp, e⟩
  · rw [if_neg e]
    rcases h x with ⟨h1, s, hs, e'⟩ | ⟨h1, h2⟩
    · exact .inl ⟨h1, s, by simp [hs], e'⟩
    · refine .inr ⟨h1, fun s hs => ?_⟩
      rcases List.mem_append.1 hs with hs | hs
      · exact h2 s hs
      · rw [List.mem_singleton.1 hs]; exact e
theorem SetIs.size {w : World} {g : Nat} {l : List Int} (h : SetIs w g l) : ∃ es clk, w.heap[g]? = some (.map es clk) ∧ es.size = (sortD l).length := by
  obtain ⟨f, ⟨es, clk, hb, _, hnd, hval, hdom⟩, hf⟩ := h
  refine ⟨es, clk, hb, ?_⟩
  have hn : (ints (sortD l)).Nodup := by
    unfold ints
    rw [List.Nodup, List.pairwise_map]
    refine (sortD_asc l).imp fun h e => ?_
    injection e with _ e
    omega
  have hp : (es.toList.map MapEntry.key).Perm (ints (sortD l)) := by
    refine (List.perm_ext_iff_of_nodup hnd hn).2 fun x => ?_
    constructor
    · intro hx
      obtain ⟨e, he, rfl⟩ := List.mem_map.1 hx
      rcases hf e.key with ⟨_, s, hs, e'⟩ | ⟨h1, _⟩
      · rw [e']; exact List.mem_map.2 ⟨s, mem_sortD.2 hs, rfl⟩
      · rw [hval e he] at h1; cases h1
    · intro hx
      obtain ⟨s, hs, rfl⟩ := List.mem_map.1 hx
      rcases hf (.int .i64 s) with ⟨h1, _⟩ | ⟨_, h2⟩
      · obtain ⟨e, he, hk⟩ := hdom _ _ h1
        exact List.mem_map.2 ⟨e, he, hk⟩
      · exact absurd rfl (h2 s (mem_sortD.1 hs))
  have := hp.length_eq
  rw [List.length_map, ints_length] at this
  simpa using this

theorem idIn_eq (l : List Fact) (n : Int) : idIn l n = decide (n ∈ l.map Fact.id) := by
  unfold idIn
  rw [Bool.eq_iff_iff, List.any_eq_true, decide_eq_true_eq, List.mem_map]
  simp only [decide_eq_true_eq]
theorem namedIn_eq (l : List Fact) (n : Int) : namedIn l n = decide (n ∈ whos l) := by
  unfold namedIn whos
  rw [Bool.eq_iff_iff, List.any_eq_true, decide_eq_true_eq, List.mem_map]
  simp only [decide_eq_true_eq, List.mem_filter]
  constructor
  · rintro ⟨y, hy, h1, h2⟩; exact ⟨y, ⟨hy, h1⟩, h2⟩
  · rintro ⟨y, ⟨hy, h1⟩, h2⟩; exact ⟨y, hy, h1, h2⟩

/-- The register of what was seen. -/
abbrev RegIs (w : World) (g gi gs : Nat) (n : Nat) (kn : Int) : Prop := w.heap[g]? = some (.cells #[.map (some gi), .map (some gs), .int .i64 n, .int .i64 kn] 183 (0, 0))
def lastKnown (l : List Fact) : Int := (l.getLast?.map Fact.known).getD 0

theorem speaks_num {x : Fact} (hx : x.Nums) : ∀ s ∈ speaks x, In64 s := by
  intro s hs
  unfold speaks at hs
  split at hs
  · rw [List.mem_singleton.1 hs]; exact hx.what
  · split at hs
    · simp at hs
      rcases hs with rfl | rfl
      · exact hx.who
      · exact hx.what
    · split at hs
      · rw [List.mem_singleton.1 hs]; exact hx.who
      · cases hs

set_option maxRecDepth 100000 in
theorem refuses_spec {w : World} {g gi gs : Nat} {l : List Fact} {x : Fact} (hx : x.Nums) (hl : l.length ≤ 2 ^ 20) (hg : RegIs w g gi gs l.length (lastKnown l)) (hi : SetIs w gi (l.map Fact.id)) (hs : SetIs w gs (whos l)) :
    CallsV C.P 132 #[.pointer (some ⟨g, 0, none⟩), x.val] w fun v w' => v = .int .i64 (behindE l x) ∧ Ext w w' := by
  refine callsV_of C_ok (args := [_, _]) (plans := plans132) Tryz.func132 rfl Tryz.ntmps132 (by kernel_rfl) (Nat.le_of_ble_eq_true rfl) ?_
  intro g3 w1 h1
  have M1 : Mem w w1 [(g3, .cells x.cells.toArray 81 (0, 0))] := (Mem.start w).alloc h1
  refine ⟨x.cells, rfl, M1.rd 0 rfl, ?_⟩
  refine (formedF_spec x hx w1).mono ?_
  rintro v w2 ⟨rfl, e2⟩
  have M2 := M1.grow e2
  unfold behindE
  refine brE_ndec (fun a1 => ?_) (fun a1 => ?_)
  · have a1 : ¬ formE x = 0 := a1
    exact ⟨by rw [if_pos a1], M2.ext⟩
  have a1 : formE x = 0 := a1
  rw [if_neg (by omega)]
  have g2 := M2.ext.heap hg
  refine ⟨_, cell_of_block g2 rfl, ?_⟩
  refine brE_dec (fun a2 => ?_) (fun a2 => ?_)
  · have a2 : (l.length : Int) ≥ 300 := a2
    exact ⟨by rw [if_pos (by omega)], M2.ext⟩
  have a2 : ¬ (l.length : Int) ≥ 300 := a2
  rw [if_neg (by omega)]
  refine ⟨_, cell_of_block g2 rfl, ?_⟩
  have hi2 := hi.ext M2.ext
  have hs2 := hs.ext M2.ext
  have hlast : l.getLast?.any (fun y => decide (x.known < y.known)) = (decide ((l.length : Int) > 0) && decide (x.known < lastKnown l)) := by
    unfold lastKnown
    cases hll : l.getLast? with
    | none =>
      have := List.getLast?_eq_none_iff.1 hll
      subst this
      rfl
    | some y =>
      have hne : l ≠ [] := fun e => by subst e; cases hll
      have := List.length_pos_iff.2 hne
      rw [decide_eq_true (by omega : (l.length : Int) > 0)]
      rfl
  rw [hlast]
  clear hlast
  refine brE_dec (fun a3 => ?A) (fun a3 => ?B)
  case' A =>
    have a3 : (l.length : Int) > 0 := a3
    rw [decide_eq_true a3, Bool.true_and]
    refine ⟨_, M2.cell 0 rfl rfl, ?_⟩
    refine ⟨_, cell_of_block g2 rfl, ?_⟩
    refine brE_dec (fun a4 => ?A1) (fun a4 => ?A2)
    case' A1 =>
      have a4 : x.known < lastKnown l := a4
      exact ⟨by rw [if_pos (decide_eq_true a4)], M2.ext⟩
    have a4 : ¬ x.known < lastKnown l := a4
    rw [if_neg (by simpa using a4)]
  case' B =>
    have a3 : ¬ (l.length : Int) > 0 := a3
    rw [decide_eq_false a3, Bool.false_and, if_neg (by decide)]
  all_goals
    clear a3
    obtain ⟨fi, hfi, hfi2⟩ := hi2
    obtain ⟨fs, hfs, hfs2⟩ := hs2
    refine ⟨_, cell_of_block g2 rfl, ?_⟩
    refine ⟨_, M2.cell 0 rfl rfl, ?_⟩
    refine ⟨_, mapGet1 C_ok (te := ty4) (x := .int .i64 x.id) (intKey hx.id) hfi intK rfl rfl rfl rfl rfl rfl (set_get hfi2 _), ?_⟩
    rw [idIn_eq l x.id]
    refine brE_mk (fun a5 => ?_) (fun a5 => ?_)
    · exact ⟨by rw [if_pos a5], M2.ext⟩
    rw [if_neg (by rw [a5]; decide)]
    obtain ⟨hh, _, _, _⟩ := formE_zero a1
    obtain ⟨hk, _⟩ := headB_iff.1 hh
    obtain ⟨k, hkk⟩ := Int.eq_ofNat_of_zero_le (show 0 ≤ x.kind by omega)
    refine ⟨.int .u8 (k : Int), by rw [← hkk]; exact M2.cell 0 rfl rfl, ?_⟩
    refine (formOf_spec k w2).mono ?_
    rintro v w3 ⟨hv, e3⟩
    rw [if_pos ⟨by omega, by omega⟩] at hv
    obtain ⟨cs, rfl, hlen, hone, hform⟩ := hv
    obtain ⟨n1, n2, n3, c2, heq, r1, r2, r3, a1', a2', a3'⟩ := hform
    have hcs : cs = [.string (wordA k), .func (.func n1) #[] #[], .func (.func n2) #[] c2, .func (.func n3) #[] #[], .bool (Nat.beq k 1)] := by
      injection heq with h
      exact congrArg Array.toList h
    subst hcs
    have M3 := M2.grow e3
    intro g6 w4 h4
    have M4 := M3.alloc h4
    refine ⟨rfl, _, _, M4.get 0 rfl, Nat.le_of_ble_eq_true rfl, hone, ?_⟩
    intro w5 h5
    have h5 : Put w4 g6 (.cells #[.string (wordA k), .func (.func n1) #[] #[], .func (.func n2) #[] c2, .func (.func n3) #[] #[], .bool (Nat.beq k 1)] 203 (0, 0)) w5 := h5
    have M5 := M4.put 0 rfl h5
    have e35 : Ext w3 w5 := h5.ext_of h4.ext (by rw [h4.new]; exact Nat.le_refl _)
    refine ⟨_, M5.cell 0 rfl rfl, ?_⟩
    refine ⟨x.cells, rfl, M5.rd 1 rfl, ?_⟩
    refine brE_true r3 ?_
    refine (a3' x _ hkk e35).mono ?_
    rintro v w6 ⟨ho6, e6⟩
    have M6 := M5.grow e6
    have e26 := (e3.trans e35).trans e6
    have g6' := e26.heap g2
    have hfi6 := hfi.ext e26
    have hfs6 := hfs.ext e26
    have hsp := speaks_num hx
    have hspl : (speaks x).length ≤ 2 := by
      unfold speaks
      split
      · exact Nat.le_of_ble_eq_true rfl
      · split
        · exact Nat.le_of_ble_eq_true rfl
        · split <;> exact Nat.le_of_ble_eq_true rfl
    generalize speaks x = S at *
    obtain ⟨AS, cS, rfl, hrS, _⟩ := ho6.slice
    refine loopE C_ok (fun (i : Nat) => [(0, .pointer (some ⟨g, 0, none⟩)), (3, .pointer (some ⟨g3, 0, none⟩)), (53, .slice AS S.length cS), (54, .int .i64 S.length), (55, .int .i64 i)])
      (fun i w' => w' = w6 ∧ i ≤ S.length ∧ S.all (namedIn l) = (S.drop i).all (namedIn l)) (fun i => S.length - i) 0 ⟨rfl, rfl, rfl, rfl, rfl, trivial⟩ ⟨rfl, Nat.zero_le _, rfl⟩ ?_
    rintro i w7 ⟨rfl, hile, hall⟩
    refine brE_dec (fun hlt => ?_) (fun hge => ?_)
    · have hlt : i < S.length := by have : (i : Int) < (S.length : Nat) := hlt; omega
      rw [List.drop_eq_getElem_cons hlt, List.all_cons] at hall
      obtain ⟨b, o, hA, hc⟩ := Reads.int hrS hlt
      refine ⟨i, b, o, rfl, hlt, hA, ?_⟩
      refine ⟨_, by simpa using hc, ?_⟩
      refine ⟨_, cell_of_block g6' rfl, ?_⟩
      refine ⟨_, mapGet1 C_ok (te := ty4) (x := .int .i64 S[i]) (intKey (hsp _ (List.getElem_mem hlt))) hfs6 intK rfl rfl rfl rfl rfl rfl (set_get hfs2 _), ?_⟩
      refine brE_mk (fun b1 => ?_) (fun b1 => ?_)
      · have b1 : namedIn l S[i] = false := by rw [namedIn_eq]; simpa using b1
        rw [b1, Bool.false_and] at hall
        exact ⟨by rw [if_pos hall], M6.ext⟩
      · have b1 : namedIn l S[i] = true := by rw [namedIn_eq]; simpa using b1
        rw [b1, Bool.true_and] at hall
        refine ⟨((i + 1 : Nat) : Int), fit ⟨by omega, by omega⟩, ?_⟩
        exact ⟨i + 1, ⟨rfl, rfl, rfl, rfl, rfl, trivial⟩, ⟨rfl, hlt, hall⟩, by omega⟩
    have : i = S.length := by have : ¬ (i : Int) < (S.length : Nat) := hge; omega
    subst this
    rw [List.drop_length] at hall
    rw [if_neg (by rw [hall]; simp)]
    have hkc : (k : Int) = x.kind := hkk.symm
    refine ⟨.int .u8 (k : Int), by rw [hkc]; exact M6.cell 1 rfl rfl, ?_⟩
    refine brE_dec (fun c1 => ?_) (fun c1 => ?_)
    · have c1 : x.kind = 11 := by have : (k : Int) = 11 := c1; omega
      refine ⟨_, cell_of_block g6' rfl, ?_⟩
      refine ⟨_, M6.cell 1 rfl rfl, ?_⟩
      refine ⟨_, mapGet1 C_ok (te := ty4) (x := .int .i64 x.what) (intKey hx.what) hfi6 intK rfl rfl rfl rfl rfl rfl (set_get hfi2 _), ?_⟩
      rw [idIn_eq l x.what]
      refine brE_mk (fun b1 => ?_) (fun b1 => ?_)
      · have b1 : decide (x.what ∈ l.map Fact.id) = false := by simpa using b1
        exact ⟨by rw [if_pos ⟨c1, b1⟩], M6.ext⟩
      · have b1 : decide (x.what ∈ l.map Fact.id) = true := by simpa using b1
        rw [if_neg (fun h => by rw [b1] at h; cases h.2), if_neg (fun h => by omega)]
        refine ⟨.int .u8 (k : Int), by rw [hkc]; exact M6.cell 1 rfl rfl, ?_⟩
        refine brE_dec (fun c2 => ?_) (fun c2 => ?_)
        · have : (k : Int) = 1 := c2
          omega
        · exact ⟨rfl, M6.ext⟩
    · have c1 : ¬ x.kind = 11 := fun e => c1 (by show (k : Int) = 11; omega)
      rw [if_neg (fun h => c1 h.1)]
      refine ⟨.int .u8 (k : Int), by rw [hkc]; exact M6.cell 1 rfl rfl, ?_⟩
      refine brE_dec (fun c2 => ?_) (fun c2 => ?_)
      · have c2 : x.kind = 1 := by have : (k : Int) = 1 := c2; omega
        refine ⟨_, cell_of_block g6' rfl, ?_⟩
        refine ⟨_, M6.cell 1 rfl rfl, ?_⟩
        refine ⟨_, mapGet1 C_ok (te := ty4) (x := .int .i64 x.who) (intKey hx.who) hfs6 intK rfl rfl rfl rfl rfl rfl (set_get hfs2 _), ?_⟩
        rw [namedIn_eq l x.who]
        refine brE_mk (fun b1 => ?_) (fun b1 => ?_)
        · have b1 : decide (x.who ∈ whos l) = false := by simpa using b1
          refine ⟨_, cell_of_block g6' rfl, ?_⟩
          obtain ⟨es, clk, hes, hsz⟩ := SetIs.size ⟨fs, hfs6, hfs2⟩
          refine ⟨es, clk, hes, ?_⟩
          refine brE_dec (fun d1 => ?_) (fun d1 => ?_)
          · have d1 : (es.size : Int) ≥ 200 := d1
            exact ⟨by rw [if_pos ⟨c2, b1, by unfold statesN; omega⟩], M6.ext⟩
          · have d1 : ¬ (es.size : Int) ≥ 200 := d1
            exact ⟨by rw [if_neg (fun h => by have := h.2.2; unfold statesN at this; omega)], M6.ext⟩
        · have b1 : decide (x.who ∈ whos l) = true := by simpa using b1
          exact ⟨by rw [if_neg (fun h => by rw [b1] at h; cases h.2.1)], M6.ext⟩
      · have c2 : ¬ x.kind = 1 := fun e => c2 (by show (k : Int) = 1; omega)
        exact ⟨by rw [if_neg (fun h => c2 h.1)], M6.ext⟩

end Go.Proofs.YtcnbpfecgokhiaaGreatDoor

namespace Go.Proofs.YtcnbpfecgokhiaaGreatDoor
open Go.Eng Go.RowKit

theorem whos_snoc (l : List Fact) (x : Fact) : whos (l ++ [x]) = whos l ++ if x.kind = 1 then [x.who] else [] := by
  unfold whos
  rw [List.filter_append, List.map_append, List.filter_cons, List.filter_nil]
  congr 1
  by_cases h : x.kind = 1
  · rw [if_pos (decide_eq_true h), if_pos h]; rfl
  · rw [if_neg (by simpa using h), if_neg h]; rfl
theorem lastKnown_snoc (l : List Fact) (x : Fact) : lastKnown (l ++ [x]) = x.known := by simp [lastKnown]

set_option maxRecDepth 100000 in
theorem Check_spec {w : World} {A : Option Addr} {l : List Fact} {c : Nat} (h : HF w A l c) (hl : l.length ≤ 2 ^ 20) :
    CallsV C.P 92 #[.slice A l.length c] w fun v w' => v = .tuple #[.int .i64 ((chkF l).1 : Nat), .int .i64 (chkF l).2] ∧ Ext w w' := by
  refine callsV_of C_ok (args := [_]) (plans := plans92) Tryz.func92 rfl Tryz.ntmps92 (by kernel_rfl) (Nat.le_of_ble_eq_true rfl) ?_
  intro gi w1 h1
  intro gs w2 h2
  intro g w3 h3
  have hgi : w.heap.size ≤ gi := by rw [h1.new]; exact Nat.le_refl _
  have hgs : w.heap.size ≤ gs := by rw [h2.new, h1.size]; omega
  have hg : w.heap.size ≤ g := by rw [h3.new, h2.size, h1.size]; omega
  have n1 : gi ≠ gs := by rw [h1.new, h2.new, h1.size]; omega
  have n2 : gi ≠ g := by rw [h1.new, h3.new, h2.size, h1.size]; omega
  have n3 : gs ≠ g := by rw [h2.new, h3.new, h2.size, h1.size]; omega
  have M3 : Mem w w3 [(g, .cells #[.map (some gi), .map (some gs), .int .i64 (0 : Nat), .int .i64 0] 183 (0, 0))] := ((Mem.start w).grow (h1.ext.trans h2.ext)).alloc h3
  have si3 : SetIs w3 gi [] := SetIs.empty ((h2.ext.trans h3.ext).heap h1.here)
  have ss3 : SetIs w3 gs [] := SetIs.empty (h3.ext.heap h2.here)
  have hchk : chkF l = chkG (l.take 0) (l.drop 0) := rfl
  refine loopE C_ok (fun (i : Nat) => [(4, .pointer (some ⟨g, 0, none⟩)), (12, .slice A l.length c), (13, .int .i64 l.length), (14, .int .i64 i)])
    (fun i w' => i ≤ l.length ∧ Mem w w' [(g, .cells #[.map (some gi), .map (some gs), .int .i64 (i : Nat), .int .i64 (lastKnown (l.take i))] 183 (0, 0))] ∧ SetIs w' gi ((l.take i).map Fact.id) ∧ SetIs w' gs (whos (l.take i)) ∧ chkF l = chkG (l.take i) (l.drop i)) (fun i => l.length - i) 0
    ⟨rfl, rfl, rfl, rfl, trivial⟩ ⟨Nat.zero_le _, M3, si3, ss3, hchk⟩ ?_
  rintro i w4 ⟨hi, M4, si4, ss4, hc⟩
  refine brE_dec (fun hlt => ?_) (fun hge => ?_)
  case' refine_2 =>
    have : i = l.length := by have : ¬ (i : Int) < (l.length : Nat) := hge; omega
    subst this
    rw [List.drop_length] at hc
    exact ⟨by rw [hc]; rfl, M4.ext⟩
  have hlt : i < l.length := by have : (i : Int) < (l.length : Nat) := hlt; omega
  have hx := h.nums _ (List.getElem_mem hlt)
  have hti : (l.take i).length = i := by rw [List.length_take]; omega
  have htk : l.take (i + 1) = l.take i ++ [l[i]] := List.take_succ_eq_append_getElem hlt
  rw [chkG_at hlt] at hc
  obtain ⟨b, o, hA, hcc⟩ := Reads.fact (h.reads.ext M4.ext) hlt
  refine ⟨i, b, o, rfl, hlt, hA, ?_⟩
  refine ⟨l[i].cells, rfl, hcc, ?_⟩
  intro g6 w5 h5
  refine ⟨rfl, _, _, h5.here, Nat.le_of_ble_eq_true rfl, rfl, ?_⟩
  intro w6 h6
  have h6 : Put w5 g6 (.cells l[i].cells.toArray 81 (0, 0)) w6 := h6
  have e46 : Ext w4 w6 := h6.ext_of h5.ext (by rw [h5.new]; exact Nat.le_refl _)
  have M6 : Mem w w6 [(g6, .cells l[i].cells.toArray 81 (0, 0)), (g, .cells #[.map (some gi), .map (some gs), .int .i64 (i : Nat), .int .i64 (lastKnown (l.take i))] 183 (0, 0))] := (M4.alloc h5).put 0 rfl h6
  have hgi6 : gi ≠ g6 := fun e => by
    obtain ⟨es, clk, hb⟩ := (si4.ext e46).block
    rw [e, h6.here] at hb; cases hb
  have hgs6 : gs ≠ g6 := fun e => by
    obtain ⟨es, clk, hb⟩ := (ss4.ext e46).block
    rw [e, h6.here] at hb; cases hb
  refine ⟨l[i].cells, rfl, M6.rd 0 rfl, ?_⟩
  have reg6 : RegIs w6 g gi gs (l.take i).length (lastKnown (l.take i)) := by rw [hti]; exact M6.get 1 rfl
  refine (refuses_spec hx (by omega) reg6 (si4.ext e46) (ss4.ext e46)).mono ?_
  rintro v w7 ⟨rfl, e7⟩
  have M7 := M6.grow e7
  have si7 := (si4.ext e46).ext e7
  have ss7 := (ss4.ext e46).ext e7
  refine brE_ndec (fun a1 => ?_) (fun a1 => ?_)
  · have a1 : ¬ behindE (l.take i) l[i] = 0 := a1
    rw [if_pos a1] at hc
    exact ⟨by rw [hc], M7.ext⟩
  have a1 : behindE (l.take i) l[i] = 0 := a1
  rw [if_neg (fun h => h a1)] at hc
  obtain ⟨fi, hfi, hfi2⟩ := si7
  refine ⟨_, M7.cell 1 rfl rfl, ?_⟩
  refine ⟨_, M7.cell 0 rfl rfl, ?_⟩
  refine mapPut C_ok rfl rfl (x := .int .i64 l[i].id) rfl rfl rfl rfl intK (intKey hx.id) hfi ?_
  intro o8 w8 h8 hf8
  have si8 : SetIs w8 gi ((l.take (i + 1)).map Fact.id) := by
    rw [htk, List.map_append]
    exact set_put hfi2 hf8
  have ss8 := ss7.other h8 (fun e => n1 e.symm)
  have M8 := M7.grown h8.grownBy (fun q hq => by cases hq; exact hgi) (fun p hp => by
    simp at hp
    rcases hp with rfl | rfl
    · exact fun e => hgi6 (by injection e with e; exact e.symm)
    · exact fun e => n2 (by injection e with e; exact e.symm))
  refine ⟨_, M8.cell 0 rfl rfl, ?_⟩
  refine brE_dec (fun a2 => ?A) (fun a2 => ?B)
  case' A =>
    have a2 : l[i].kind = 1 := a2
    obtain ⟨fs, hfs, hfs2⟩ := ss8
    refine ⟨_, M8.cell 1 rfl rfl, ?_⟩
    refine ⟨_, M8.cell 0 rfl rfl, ?_⟩
    refine mapPut C_ok rfl rfl (x := .int .i64 l[i].who) rfl rfl rfl rfl intK (intKey hx.who) hfs ?_
    intro o9 w9 h9 hf9
    have ss9 : SetIs w9 gs (whos (l.take (i + 1))) := by
      rw [htk, whos_snoc, if_pos a2]
      exact set_put hfs2 hf9
    have si9 := si8.other h9 n1
    have M9 := M8.grown h9.grownBy (fun q hq => by cases hq; exact hgs) (fun p hp => by
      simp at hp
      rcases hp with rfl | rfl
      · exact fun e => hgs6 (by injection e with e; exact e.symm)
      · exact fun e => n3 (by injection e with e; exact e.symm))
  case' B =>
    have a2 : ¬ l[i].kind = 1 := a2
    have ss9 : SetIs w8 gs (whos (l.take (i + 1))) := by
      rw [htk, whos_snoc, if_neg a2, List.append_nil]
      exact ss8
    have si9 := si8
    have M9 := M8
  all_goals
    refine ⟨_, M9.cell 1 rfl rfl, ?_⟩
    refine ⟨((i + 1 : Nat) : Int), fit ⟨by omega, by omega⟩, ?_⟩
    refine ⟨rfl, _, _, M9.get 1 rfl, Nat.le_of_ble_eq_true rfl, rfl, ?_⟩
    intro w10 h10
    have M10 := M9.put 1 rfl h10
    have si10 := si9.other h10 n2
    have ss10 := ss9.other h10 n3
    refine ⟨_, M10.cell 0 rfl rfl, ?_⟩
    refine ⟨rfl, _, _, M10.get 1 rfl, Nat.le_of_ble_eq_true rfl, rfl, ?_⟩
    intro w11 h11
    have M11 := M10.put 1 rfl h11
    have si11 := si10.other h11 n2
    have ss11 := ss10.other h11 n3
    refine ⟨((i + 1 : Nat) : Int), fit ⟨by omega, by omega⟩, ?_⟩
    refine ⟨i + 1, ⟨rfl, rfl, rfl, rfl, trivial⟩, ⟨hlt, ?_, si11, ss11, hc⟩, by omega⟩
    rw [htk, lastKnown_snoc]
    exact M11.tail

/-- A list with one more fact, if both are right. -/
def appE (l : List Fact) (x : Fact) : Int := if (chkF l).2 ≠ 0 then (chkF l).2 else (chkF (l ++ [x])).2
def appL (l : List Fact) (x : Fact) : List Fact := if appE l x = 0 then l ++ [x] else []

set_option maxRecDepth 100000 in
theorem Append_spec {w : World} {A : Option Addr} {l : List Fact} {c : Nat} (h : HF w A l c) (hl : l.length ≤ 2 ^ 19) {x : Fact} (hx : x.Nums) :
    CallsV C.P 41 #[.slice A l.length c, x.val] w fun v w' => (∃ r, v = .tuple #[r, .int .i64 (appE l x)] ∧ NewF w.heap.size w' r (appL l x)) ∧ Ext w w' := by
  refine callsV_of C_ok (args := [_, _]) (plans := plans41) Tryz.func41 rfl Tryz.ntmps41 (by kernel_rfl) (Nat.le_of_ble_eq_true rfl) ?_
  intro g3 w1 h1
  have M1 : Mem w w1 [(g3, .cells x.cells.toArray 81 (0, 0))] := (Mem.start w).alloc h1
  refine (Check_spec (h.ext M1.ext) (by omega)).mono ?_
  rintro v w2 ⟨rfl, e2⟩
  have M2 := M1.grow e2
  unfold appL appE
  refine brE_ndec (fun a1 => ?_) (fun a1 => ?_)
  · have a1 : ¬ (chkF l).2 = 0 := a1
    refine ⟨⟨_, by rw [if_pos a1], ?_⟩, M2.ext⟩
    rw [if_pos a1, if_neg a1]
    exact newF_nil _ _
  have a1 : (chkF l).2 = 0 := a1
  simp only [a1, ne_eq, not_true, if_false]
  have hnum : ∀ y ∈ l ++ [x], y.Nums := fun y hy => by
    rcases List.mem_append.1 hy with hy | hy
    · exact h.nums y hy
    · rw [List.mem_singleton.1 hy]; exact hx
  refine ⟨x.cells, rfl, M2.rd 0 rfl, ?_⟩
  refine ⟨?A, ?B⟩
  case' A =>
    refine (Clone_spec (h.reads.ext M2.ext) (by omega)).mono ?_
    rintro v w3 ⟨ho3, e3⟩
    refine ⟨e3, ?_⟩
    intro g4 w4 h4
    refine ⟨h4.ext, ?_⟩
    have ho4 : w4.ownsRow w2.heap.size 81 9 v _ _ := ownsRow_ext ho3 h4.ext
    have e4 := e3.trans h4.ext
    refine ⟨rfl, rfl, rfl, w2.heap.size, _, _, x.cells, ho4, e4.size, Nat.le_of_ble_eq_true rfl, rfl, rfl, .inr ⟨g4, 0, rfl, Rd.of_block h4.here⟩, rfl, rfl, by omega, by simp only [maxLen]; omega, ?_⟩
  case' B =>
    intro g4 w4 h4
    refine ⟨h4.ext, ?_⟩
    refine (Clone_spec (h.reads.ext (M2.ext.trans h4.ext)) (by omega)).mono ?_
    rintro v w3 ⟨ho3, e3⟩
    refine ⟨e3, ?_⟩
    have ho4 : w3.ownsRow w2.heap.size 81 9 v _ _ := NewF.base ho3 h4.ext.size
    have e4 := h4.ext.trans e3
    refine ⟨rfl, rfl, rfl, w2.heap.size, _, _, x.cells, ho4, e4.size, Nat.le_of_ble_eq_true rfl, rfl, rfl, .inr ⟨g4, 0, rfl, Rd.of_block (e3.heap h4.here)⟩, rfl, rfl, by omega, by simp only [maxLen]; omega, ?_⟩
  all_goals
    intro v5 w5 ho5 hg5 _
    have e25 : Ext w2 w5 := app_ext e4 ho4 hg5
    have e05 := M2.ext.trans e25
    have hn5 : NewF w.heap.size w5 v5 (l ++ [x]) := by
      refine NewF.base (B' := w2.heap.size) ?_ M2.ext.size
      unfold NewF
      rw [fcells_append, fcells_one, List.length_append]
      exact ho5
    obtain ⟨A5, c5, rfl, hf5⟩ := hn5.hf hnum
    refine (Check_spec hf5 (by rw [List.length_append]; simp; omega)).mono ?_
    rintro v w6 ⟨rfl, e6⟩
    refine brE_ndec (fun a2 => ?_) (fun a2 => ?_)
    · have a2 : ¬ (chkF (l ++ [x])).2 = 0 := a2
      refine ⟨⟨_, rfl, ?_⟩, e05.trans e6⟩
      rw [if_neg a2]
      exact newF_nil _ _
    · have a2 : (chkF (l ++ [x])).2 = 0 := a2
      refine ⟨⟨_, by rw [a2], ?_⟩, e05.trans e6⟩
      rw [if_pos a2]
      exact hn5.ext e6

end Go.Proofs.YtcnbpfecgokhiaaGreatDoor
