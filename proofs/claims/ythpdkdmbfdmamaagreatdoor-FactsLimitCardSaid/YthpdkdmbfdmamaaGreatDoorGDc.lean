/- A line read: the program. -/
import Derived.Test.YthpdkdmbfdmamaaGreatDoorGDb
set_option linter.unusedVariables false
set_option linter.unusedSimpArgs false
set_option linter.unnecessarySimpa false
set_option linter.unusedSectionVars false
namespace Go.Proofs.YthpdkdmbfdmamaaGreatDoor
open Go.Eng Go.RowKit

/-- The boxes of Read: what is left of the line, whether all numbers were fine, the function that cuts a word. -/
abbrev restO (l : List UInt8) : Obj := .cells #[.string ⟨l.toArray⟩] 9 (0, 0)
abbrev fineO (b : Bool) : Obj := .cells #[.bool b] 4 (0, 0)
abbrev wordO (g4 : Nat) : Obj := .cells #[.func (.func 93) #[] #[.pointer (some ⟨g4, 0, none⟩)]] 99 (0, 0)
theorem mk_list (l : List UInt8) : (⟨l.toArray⟩ : ByteArray).data.toList = l := by simp
theorem mk_size (l : List UInt8) : (⟨l.toArray⟩ : ByteArray).size = l.length := by simp [ByteArray.size]

theorem data_eq {a b : ByteArray} : a.data.toList = b.data.toList ↔ a = b := ⟨fun h => ByteArray.ext (Array.toList_inj.1 h), fun h => by rw [h]⟩
theorem Read1_spec {w : World} {g : Nat} {l : List UInt8} (hl : l.length ≤ 281474976710656) (hg : w.heap[g]? = some (restO l)) :
    CallsV C.P 93 (#[] ++ ([] : List Value).toArray ++ #[.pointer (some ⟨g, 0, none⟩)]) w fun v w' => v = .string ⟨(cutW l).1.toArray⟩ ∧ Put w g (restO (cutW l).2) w' := by
  refine callsV_of C_ok (args := [_]) (plans := []) Tryz.func93 rfl Tryz.ntmps93 (by kernel_rfl) (Nat.le_of_ble_eq_true rfl) ?_
  refine ⟨_, cell_of_block hg rfl, ?_⟩
  refine (Cut_spec ⟨l.toArray⟩ (by rw [mk_size]; omega) w).mono ?_
  rintro v w1 ⟨⟨b, rfl⟩, rfl⟩
  rw [mk_list]
  refine ⟨rfl, _, _, hg, Nat.le_of_ble_eq_true rfl, rfl, ?_⟩
  intro w2 h2
  exact ⟨rfl, h2⟩

theorem Read2_spec {w0 w : World} {L : List (Nat × Obj)} {g4 g5 g6 i4 i5 i6 : Nat} {l : List UInt8} {b : Bool} (T : Tabs w0) (M : Mem w0 w L) (h4 : L[i4]? = some (g4, restO l)) (h5 : L[i5]? = some (g5, fineO b)) (h6 : L[i6]? = some (g6, wordO g4)) (hne : i4 ≠ i5) (hl : l.length ≤ 281474976710656) :
    CallsW C.P 95 (#[] ++ ([] : List Value).toArray ++ #[.pointer (some ⟨g6, 0, none⟩), .pointer (some ⟨g5, 0, none⟩)]) w fun v w' => v = .int .i64 (numW (cutW l).1).1 ∧ Mem w0 w' ((L.set i4 (g4, restO (cutW l).2)).set i5 (g5, fineO (b && (numW (cutW l).1).2))) := by
  refine callsV_of Cw_ok (args := [_, _]) (plans := []) Tryz.func95 rfl Tryz.ntmps95 (by kernel_rfl) (Nat.le_of_ble_eq_true rfl) ?_
  refine ⟨_, cell_of_block (M.get i6 h6) rfl, ?_⟩
  refine (Read1_spec hl (M.get i4 h4)).weak.mono ?_
  rintro v w1 ⟨rfl, p1⟩
  have M1 := M.put i4 h4 p1
  have hcl := (cutW_length l).1
  refine (Atoi_spec ⟨(cutW l).1.toArray⟩ (by rw [mk_size]; omega) w1 (T.ext M1.ext)).mono ?_
  rintro v w2 ⟨⟨err, rfl, herr⟩, e2⟩
  rw [mk_list] at herr ⊢
  have M2 := M1.grow e2
  have h5' : (L.set i4 (g4, restO (cutW l).2))[i5]? = some (g5, fineO b) := by rw [List.getElem?_set_ne hne]; exact h5
  refine ⟨_, cell_of_block (M2.get i5 h5') rfl, ?_⟩
  refine brE_mk (fun hb => ?_) (fun hb => ?_)
  · subst hb
    rw [Bool.true_and]
    rcases herr with ⟨h1, rfl⟩ | ⟨h1, t, p, rfl⟩
    · refine ⟨_, eqErr0 _, ?_⟩
      refine ⟨rfl, _, _, M2.get i5 h5', Nat.le_of_ble_eq_true rfl, rfl, ?_⟩
      intro w3 h3
      refine ⟨rfl, ?_⟩
      rw [h1]
      exact M2.put i5 h5' h3
    · refine ⟨_, eqErr _ _ _ _, ?_⟩
      refine ⟨rfl, _, _, M2.get i5 h5', Nat.le_of_ble_eq_true rfl, rfl, ?_⟩
      intro w3 h3
      refine ⟨rfl, ?_⟩
      rw [h1]
      exact M2.put i5 h5' h3
  · subst hb
    refine ⟨rfl, _, _, M2.get i5 h5', Nat.le_of_ble_eq_true rfl, rfl, ?_⟩
    intro w3 h3
    exact ⟨rfl, M2.put i5 h5' h3⟩

theorem setF_nums {x : Fact} (hx : x.Nums) (o : Nat) {n : Int} (hn : In64 n) : (setF x o n).Nums := by
  unfold setF
  repeat' split
  · exact ⟨hx.id, hx.known, hx.kind, hn, hx.what, hx.other, hx.since, hx.til, hx.name⟩
  · exact ⟨hx.id, hx.known, hx.kind, hx.who, hn, hx.other, hx.since, hx.til, hx.name⟩
  · exact ⟨hx.id, hx.known, hx.kind, hx.who, hx.what, hn, hx.since, hx.til, hx.name⟩
  · exact ⟨hx.id, hx.known, hx.kind, hx.who, hx.what, hx.other, hn, hx.til, hx.name⟩
  · exact ⟨hx.id, hx.known, hx.kind, hx.who, hx.what, hx.other, hx.since, hn, hx.name⟩
theorem u8_next {j : Nat} (h1 : 1 ≤ j) (h2 : j ≤ 11) : IntKind.u8.wrap ((j : Int) + 1) = ((j + 1 : Nat) : Int) := by
  have : j = 1 ∨ j = 2 ∨ j = 3 ∨ j = 4 ∨ j = 5 ∨ j = 6 ∨ j = 7 ∨ j = 8 ∨ j = 9 ∨ j = 10 ∨ j = 11 := by omega
  rcases this with rfl | rfl | rfl | rfl | rfl | rfl | rfl | rfl | rfl | rfl | rfl <;> rfl

abbrev kinds : List Nat := [1, 2, 3, 4, 5, 6, 7, 8, 9, 10, 11]
theorem kinds_drop {n : Nat} (h : n < 11) : kinds.drop n = (n + 1) :: kinds.drop (n + 1) := by
  have : n = 0 ∨ n = 1 ∨ n = 2 ∨ n = 3 ∨ n = 4 ∨ n = 5 ∨ n = 6 ∨ n = 7 ∨ n = 8 ∨ n = 9 ∨ n = 10 := by omega
  rcases this with rfl | rfl | rfl | rfl | rfl | rfl | rfl | rfl | rfl | rfl | rfl <;> rfl
theorem kindAt_drop {v : List UInt8} {n : Nat} (h : n < 11) : kindAt v (kinds.drop n) = if (wordA (n + 1)).data.toList = v then n + 1 else kindAt v (kinds.drop (n + 1)) := by
  rw [kinds_drop h]; rfl

def x0F (n1 n2 : Int) (k : Nat) : Fact := ⟨n1, n2, k, 0, 0, 0, 0, 0, ⟨#[]⟩⟩
/-- What is read behind the two numbers. -/
def tailP (n1 n2 : Int) (c : List UInt8 × List UInt8) (f0 : Bool) : Fact × Bool :=
  if kindOf c.1 = 0 then (x0F n1 n2 (kindOf c.1), f0) else
    (if kindOf c.1 = 1 then { (fillF (offs (kindOf c.1 : Nat)) (x0F n1 n2 (kindOf c.1)) c.2 f0).1 with name := ⟨(fillF (offs (kindOf c.1 : Nat)) (x0F n1 n2 (kindOf c.1)) c.2 f0).2.1.toArray⟩ } else (fillF (offs (kindOf c.1 : Nat)) (x0F n1 n2 (kindOf c.1)) c.2 f0).1,
      (fillF (offs (kindOf c.1 : Nat)) (x0F n1 n2 (kindOf c.1)) c.2 f0).2.2)
theorem readP_eq {s : List UInt8} {a b c : List UInt8 × List UInt8} (ha : cutW s = a) (hb : cutW a.2 = b) (hc : cutW b.2 = c) : readP s = tailP (numW a.1).1 (numW b.1).1 c (true && (numW a.1).2 && (numW b.1).2) := by
  subst ha; subst hb; subst hc; rfl
theorem x0F_nums {n1 n2 : Int} (h1 : In64 n1) (h2 : In64 n2) {k : Nat} (hk : k ≤ 11) : (x0F n1 n2 k).Nums := by
  have z : In64 0 := ⟨by decide, by decide⟩
  exact ⟨h1, h2, by show 0 ≤ (k : Int) ∧ (k : Int) ≤ 255; omega, z, z, z, z, z, by show (0 : Nat) ≤ _; omega⟩

set_option maxRecDepth 100000 in
theorem Read_spec (line : ByteArray) (hsz : line.size ≤ 281474976710656) (w : World) (T : Tabs w) :
    CallsW C.P 32 #[.string line] w fun v w' => v = .tuple #[(readF line).1.val, .int .i64 (readF line).2] ∧ Ext w w' := by
  have hlen : line.data.toList.length ≤ 281474976710656 := by rw [← ba_size]; exact hsz
  have hline : line = ⟨line.data.toList.toArray⟩ := (ba_mk line).symm
  refine callsV_of Cw_ok (args := [_]) (plans := []) Tryz.func32 rfl Tryz.ntmps32 (by kernel_rfl) (Nat.le_of_ble_eq_true rfl) ?_
  intro g2 w1 h1
  have M1 : Mem w w1 [(g2, .cells factZ.cells.toArray 29 (0, 0))] := (Mem.start w).alloc h1
  refine scopeE Cw_ok ?_
  intro g4 w2 h2
  have M2 := M1.alloc h2
  refine ⟨rfl, _, _, M2.get 0 rfl, Nat.le_of_ble_eq_true rfl, rfl, ?_⟩
  intro w3 h3
  have M3 : Mem w w3 [(g4, restO line.data.toList), (g2, .cells factZ.cells.toArray 29 (0, 0))] := by
    rw [show restO line.data.toList = .cells #[.string line] 9 (0, 0) by rw [restO, ba_mk]]
    exact M2.put 0 rfl h3
  intro g5 w4 h4
  have M4 := M3.alloc h4
  refine ⟨rfl, _, _, M4.get 0 rfl, Nat.le_of_ble_eq_true rfl, rfl, ?_⟩
  intro w5 h5
  have M5 : Mem w w5 [(g5, fineO true), (g4, restO line.data.toList), (g2, .cells factZ.cells.toArray 29 (0, 0))] := M4.put 0 rfl h5
  refine ⟨[], [.pointer (some ⟨g4, 0, none⟩)], rfl, rfl, ?_⟩
  intro g6 w6 h6
  have M6 := M5.alloc h6
  refine ⟨rfl, _, _, M6.get 0 rfl, Nat.le_of_ble_eq_true rfl, rfl, ?_⟩
  intro w7 h7
  have M7 : Mem w w7 [(g6, wordO g4), (g5, fineO true), (g4, restO line.data.toList), (g2, .cells factZ.cells.toArray 29 (0, 0))] := M6.put 0 rfl h7
  refine ⟨[], [.pointer (some ⟨g6, 0, none⟩), .pointer (some ⟨g5, 0, none⟩)], rfl, rfl, ?_⟩
  intro g8 w8 h8
  have M8 : Mem w w8 [(g8, .cells factZ.cells.toArray 29 (0, 0)), (g6, wordO g4), (g5, fineO true), (g4, restO line.data.toList), (g2, .cells factZ.cells.toArray 29 (0, 0))] := M7.alloc h8
  have hc1 := cutW_length line.data.toList
  refine (Read2_spec (i4 := 3) (i5 := 2) (i6 := 1) T M8 rfl rfl rfl (by decide) hlen).mono ?_
  rintro v w9 ⟨rfl, M9⟩
  generalize hA : cutW line.data.toList = a at *
  have hc2 := cutW_length a.2
  have hn1 := numW_in a.1
  have M9 : Mem w w9 [(g8, .cells factZ.cells.toArray 29 (0, 0)), (g6, wordO g4), (g5, fineO (true && (numW a.1).2)), (g4, restO a.2), (g2, .cells factZ.cells.toArray 29 (0, 0))] := M9
  refine ⟨rfl, _, _, M9.get 0 rfl, Nat.le_of_ble_eq_true rfl, rfl, ?_⟩
  intro w10 h10
  have M10 : Mem w w10 [(g8, .cells (⟨(numW a.1).1, 0, 0, 0, 0, 0, 0, 0, ⟨#[]⟩⟩ : Fact).cells.toArray 29 (0, 0)), (g6, wordO g4), (g5, fineO (true && (numW a.1).2)), (g4, restO a.2), (g2, .cells factZ.cells.toArray 29 (0, 0))] := M9.put 0 rfl h10
  refine (Read2_spec (i4 := 3) (i5 := 2) (i6 := 1) T M10 rfl rfl rfl (by decide) (by omega)).mono ?_
  rintro v w11 ⟨rfl, M11⟩
  generalize hB : cutW a.2 = b at *
  have hc3 := cutW_length b.2
  have hn2 := numW_in b.1
  have M11 : Mem w w11 [(g8, .cells (⟨(numW a.1).1, 0, 0, 0, 0, 0, 0, 0, ⟨#[]⟩⟩ : Fact).cells.toArray 29 (0, 0)), (g6, wordO g4), (g5, fineO (true && (numW a.1).2 && (numW b.1).2)), (g4, restO b.2), (g2, .cells factZ.cells.toArray 29 (0, 0))] := M11
  refine ⟨rfl, _, _, M11.get 0 rfl, Nat.le_of_ble_eq_true rfl, rfl, ?_⟩
  intro w12 h12
  have M12 : Mem w w12 [(g8, .cells (⟨(numW a.1).1, (numW b.1).1, 0, 0, 0, 0, 0, 0, ⟨#[]⟩⟩ : Fact).cells.toArray 29 (0, 0)), (g6, wordO g4), (g5, fineO (true && (numW a.1).2 && (numW b.1).2)), (g4, restO b.2), (g2, .cells factZ.cells.toArray 29 (0, 0))] := M11.put 0 rfl h12
  refine ⟨_, M12.cell 1 rfl rfl, ?_⟩
  refine (Read1_spec (by omega) (M12.get 3 rfl)).weak.mono ?_
  rintro v w13 ⟨rfl, p13⟩
  generalize hC : cutW b.2 = c at *
  have hRP := readP_eq hA hB hC
  generalize hf0 : (true && (numW a.1).2 && (numW b.1).2) = f0 at *
  generalize (numW a.1).1 = n1 at *
  generalize (numW b.1).1 = n2 at *
  have M13 : Mem w w13 [(g8, .cells (x0F n1 n2 0).cells.toArray 29 (0, 0)), (g6, wordO g4), (g5, fineO f0), (g4, restO c.2), (g2, .cells factZ.cells.toArray 29 (0, 0))] := M12.put 3 rfl p13
  have hko : kindOf c.1 = kindAt c.1 (kinds.drop 0) := rfl
  have hcl : c.2.length ≤ 281474976710656 := by omega
  refine loopE Cw_ok (fun (j : Nat) => [(0, .string line), (2, .pointer (some ⟨g2, 0, none⟩)), (4, .pointer (some ⟨g4, 0, none⟩)), (5, .pointer (some ⟨g5, 0, none⟩)), (7, .func (.func 95) #[] #[.pointer (some ⟨g6, 0, none⟩), .pointer (some ⟨g5, 0, none⟩)]), (8, .pointer (some ⟨g8, 0, none⟩)), (9, .string ⟨c.1.toArray⟩), (10, .int .u8 ((j + 1 : Nat) : Int))])
    (fun j w' => j ≤ 11 ∧ Mem w w' [(g8, .cells (x0F n1 n2 0).cells.toArray 29 (0, 0)), (g6, wordO g4), (g5, fineO f0), (g4, restO c.2), (g2, .cells factZ.cells.toArray 29 (0, 0))] ∧ kindOf c.1 = kindAt c.1 (kinds.drop j)) (fun j => 11 - j) 0
    ⟨rfl, rfl, rfl, rfl, rfl, rfl, rfl, rfl, trivial⟩ ⟨Nat.zero_le _, M13, hko⟩ ?_
  rintro j w14 ⟨hj, M14, hk⟩
  refine brE_dec (fun hle => ?found) (fun hgt => ?none)
  case' none =>
    have hj11 : j = 11 := by have : ¬ ((j + 1 : Nat) : Int) ≤ 11 := hgt; omega
    subst hj11
    have hk0 : kindOf c.1 = 0 := hk
    have hR : readP line.data.toList = (x0F n1 n2 0, f0) := by rw [hRP]; unfold tailP; rw [hk0]; rfl
    have hxn : (x0F n1 n2 0).Nums := x0F_nums hn1 hn2 (by omega)
    generalize x0F n1 n2 0 = xf at *
    have Mt := M14
    generalize f0 = fb at *
    generalize c.2 = lf at *
  case' found =>
    have hj10 : j < 11 := by have : ((j + 1 : Nat) : Int) ≤ 11 := hle; omega
    rw [kindAt_drop hj10] at hk
    refine (formOf_spec (j + 1) w14).weak.mono ?_
    rintro v w15 ⟨hv, e15⟩
    rw [if_pos ⟨by omega, by omega⟩] at hv
    obtain ⟨cs, rfl, hlen', hone, hform⟩ := hv
    obtain ⟨m1, m2, m3, c2, heq, r1, r2, r3, a1', a2', a3'⟩ := hform
    have hcs : cs = [.string (wordA (j + 1)), .func (.func m1) #[] #[], .func (.func m2) #[] c2, .func (.func m3) #[] #[], .bool (Nat.beq (j + 1) 1)] := by
      injection heq with h
      exact congrArg Array.toList h
    subst hcs
    have M15 := M14.grow e15
    intro g11 w16 h16
    have M16 := M15.alloc h16
    refine ⟨rfl, _, _, M16.get 0 rfl, Nat.le_of_ble_eq_true rfl, hone, ?_⟩
    intro w17 h17
    have M17 : Mem w w17 ((g11, .cells #[.string (wordA (j + 1)), .func (.func m1) #[] #[], .func (.func m2) #[] c2, .func (.func m3) #[] #[], .bool (Nat.beq (j + 1) 1)] 88 (0, 0)) :: [(g8, .cells (x0F n1 n2 0).cells.toArray 29 (0, 0)), (g6, wordO g4), (g5, fineO f0), (g4, restO c.2), (g2, .cells factZ.cells.toArray 29 (0, 0))]) := M16.put 0 rfl h17
    refine ⟨_, M17.cell 0 rfl rfl, ?_⟩
    refine ⟨_, eqStr _ _ (wordA (j + 1)) ⟨c.1.toArray⟩, ?_⟩
    have hwe : (wordA (j + 1)).data.toList = c.1 ↔ wordA (j + 1) = ⟨c.1.toArray⟩ := by
      rw [← data_eq, mk_list]
    refine brE_dec (fun he => ?hit) (fun hne => ?miss)
    case' miss =>
      have hne : ¬ wordA (j + 1) = ⟨c.1.toArray⟩ := hne
      rw [if_neg (fun h => hne (hwe.1 h))] at hk
      refine ⟨_, u8_next (by omega) (by omega), ?_⟩
      exact ⟨j + 1, ⟨rfl, rfl, rfl, rfl, rfl, rfl, rfl, rfl, trivial⟩, ⟨hj10, M17.tail, hk⟩, by omega⟩
    have he : wordA (j + 1) = ⟨c.1.toArray⟩ := he
    rw [if_pos (hwe.2 he)] at hk
    refine ⟨rfl, _, _, M17.get 1 rfl, Nat.le_of_ble_eq_true rfl, rfl, ?_⟩
    intro w18 h18
    have M18 : Mem w w18 ((g11, .cells #[.string (wordA (j + 1)), .func (.func m1) #[] #[], .func (.func m2) #[] c2, .func (.func m3) #[] #[], .bool (Nat.beq (j + 1) 1)] 88 (0, 0)) :: [(g8, .cells (x0F n1 n2 (j + 1)).cells.toArray 29 (0, 0)), (g6, wordO g4), (g5, fineO f0), (g4, restO c.2), (g2, .cells factZ.cells.toArray 29 (0, 0))]) := M17.put 1 rfl h18
    refine ⟨_, M18.cell 0 rfl rfl, ?_⟩
    refine brE_true r1 ?_
    refine (a1' g8 w18).weak.mono ?_
    rintro v w19 ⟨⟨h, rfl, hh, hnew⟩, e19⟩
    have M19 := (M18.grow e19).add hh (Nat.le_trans M18.ext.size hnew) (fun p hp => by
      have := M18.lt (g := p.1) (o := p.2) hp
      omega)
    have hlen5 := offs_len ((j + 1 : Nat) : Int)
    have hov := fun (o : Nat) => @offs_mem ((j + 1 : Nat) : Int) o
    have hx1 : (x0F n1 n2 (j + 1)).Nums := x0F_nums hn1 hn2 (by omega)
    have hRP2 : readP line.data.toList = (if j + 1 = 1 then { (fillF (offs ((j + 1 : Nat) : Int)) (x0F n1 n2 (j + 1)) c.2 f0).1 with name := ⟨(fillF (offs ((j + 1 : Nat) : Int)) (x0F n1 n2 (j + 1)) c.2 f0).2.1.toArray⟩ } else (fillF (offs ((j + 1 : Nat) : Int)) (x0F n1 n2 (j + 1)) c.2 f0).1, (fillF (offs ((j + 1 : Nat) : Int)) (x0F n1 n2 (j + 1)) c.2 f0).2.2) := by
      rw [hRP]; unfold tailP; rw [hk, if_neg (by omega)]
    generalize hF : fillF (offs ((j + 1 : Nat) : Int)) (x0F n1 n2 (j + 1)) c.2 f0 = F at *
    generalize offs ((j + 1 : Nat) : Int) = OS at *
    refine loopE Cw_ok (fun (t : Nat × Fact × List UInt8 × Bool) => [(0, .string line), (2, .pointer (some ⟨g2, 0, none⟩)), (4, .pointer (some ⟨g4, 0, none⟩)), (5, .pointer (some ⟨g5, 0, none⟩)), (7, .func (.func 95) #[] #[.pointer (some ⟨g6, 0, none⟩), .pointer (some ⟨g5, 0, none⟩)]), (8, .pointer (some ⟨g8, 0, none⟩)), (11, .pointer (some ⟨g11, 0, none⟩)), (45, .slice (some ⟨h, 0, none⟩) OS.length OS.length), (46, .int .i64 OS.length), (47, .int .i64 t.1)])
      (fun t w' => t.1 ≤ OS.length ∧ Mem w w' [(h, .cells (ptrs g8 OS).toArray 95 (0, 0)), (g11, .cells #[.string (wordA (j + 1)), .func (.func m1) #[] #[], .func (.func m2) #[] c2, .func (.func m3) #[] #[], .bool (Nat.beq (j + 1) 1)] 88 (0, 0)), (g8, .cells t.2.1.cells.toArray 29 (0, 0)), (g6, wordO g4), (g5, fineO t.2.2.2), (g4, restO t.2.2.1), (g2, .cells factZ.cells.toArray 29 (0, 0))] ∧
        t.2.1.Nums ∧ t.2.2.1.length ≤ 281474976710656 ∧ F = fillF (OS.drop t.1) t.2.1 t.2.2.1 t.2.2.2) (fun t => OS.length - t.1) (0, x0F n1 n2 (j + 1), c.2, f0)
      ⟨rfl, rfl, rfl, rfl, rfl, rfl, rfl, rfl, rfl, rfl, trivial⟩ ⟨Nat.zero_le _, M19, hx1, hcl, hF.symm⟩ ?_
    rintro ⟨i, x, l, bb⟩ w20 ⟨hi', M20', hx', hl', hf'⟩
    have hi : i ≤ OS.length := hi'
    have M20 : Mem w w20 [(h, .cells (ptrs g8 OS).toArray 95 (0, 0)), (g11, .cells #[.string (wordA (j + 1)), .func (.func m1) #[] #[], .func (.func m2) #[] c2, .func (.func m3) #[] #[], .bool (Nat.beq (j + 1) 1)] 88 (0, 0)), (g8, .cells x.cells.toArray 29 (0, 0)), (g6, wordO g4), (g5, fineO bb), (g4, restO l), (g2, .cells factZ.cells.toArray 29 (0, 0))] := M20'
    have hx : x.Nums := hx'
    have hl : l.length ≤ 281474976710656 := hl'
    have hf : F = fillF (OS.drop i) x l bb := hf'
    clear hi' M20' hx' hl' hf'
    refine brE_dec (fun hlt => ?_) (fun hge => ?_)
    case' refine_1 =>
      have hlt : i < OS.length := by have : (i : Int) < (OS.length : Nat) := hlt; omega
      have hom := hov _ (List.getElem_mem hlt)
      rw [List.drop_eq_getElem_cons hlt, fillF] at hf
      refine ⟨i, h, 0, rfl, hlt, rfl, ?_⟩
      refine ⟨.pointer (some ⟨g8, OS[i], none⟩), by have := (M20.rd 0 rfl) i _ (ptrs_get hlt); simpa using this, ?_⟩
      refine (Read2_spec (i4 := 5) (i5 := 4) (i6 := 3) T M20 rfl rfl rfl (by decide) hl).mono ?_
      rintro u w21 ⟨rfl, M21⟩
      have hcw := cutW_length l
      refine ⟨rfl, _, _, M21.get 2 rfl, by show OS[i] + 1 ≤ 9; omega, rfl, ?_⟩
      intro w22 h22
      have h22 : Put w21 g8 (.cells (splice x.cells OS[i] [.int .i64 (numW (cutW l).1).1]).toArray 29 (0, 0)) w22 := h22
      rw [setF_cells x hom] at h22
      have M22 := M21.put 2 rfl h22
      refine ⟨((i + 1 : Nat) : Int), fit ⟨by omega, by omega⟩, ?_⟩
      exact ⟨(i + 1, setF x OS[i] (numW (cutW l).1).1, (cutW l).2, bb && (numW (cutW l).1).2), ⟨rfl, rfl, rfl, rfl, rfl, rfl, rfl, rfl, rfl, rfl, trivial⟩, ⟨hlt, M22, setF_nums hx _ (numW_in _), by show (cutW l).2.length ≤ _; omega, hf⟩, by show OS.length - (i + 1) < OS.length - i; omega⟩
    have : i = OS.length := by have : ¬ (i : Int) < (OS.length : Nat) := hge; omega
    subst this
    rw [List.drop_length, fillF] at hf
    subst hf
    refine ⟨_, M20.cell 1 rfl rfl, ?_⟩
    refine brE_mk (fun hn => ?nm) (fun hn => ?un)
    case' nm =>
      have hk1 : j + 1 = 1 := Nat.eq_of_beq_eq_true hn
      rw [if_pos hk1] at hRP2
      refine ⟨_, M20.cell 5 rfl rfl, ?_⟩
      refine ⟨rfl, _, _, M20.get 2 rfl, Nat.le_of_ble_eq_true rfl, rfl, ?_⟩
      intro w23 h23
      have Mt := (M20.put 2 rfl h23).tail.tail
      have hxn : ({ x with name := ⟨l.toArray⟩ } : Fact).Nums := ⟨hx.id, hx.known, hx.kind, hx.who, hx.what, hx.other, hx.since, hx.til, by rw [mk_size]; omega⟩
      have Mt : Mem w w23 [(g8, .cells ({ x with name := ⟨l.toArray⟩ } : Fact).cells.toArray 29 (0, 0)), (g6, wordO g4), (g5, fineO bb), (g4, restO l), (g2, .cells factZ.cells.toArray 29 (0, 0))] := Mt
      have hR : readP line.data.toList = ({ x with name := ⟨l.toArray⟩ }, bb) := hRP2
      generalize ({ x with name := ⟨l.toArray⟩ } : Fact) = xf at *
      generalize bb = fb at *
      generalize l = lf at *
    case' un =>
      have hk1 : ¬ j + 1 = 1 := fun e => by rw [e] at hn; cases hn
      rw [if_neg hk1] at hRP2
      have Mt := M20.tail.tail
      have hxn := hx
      have hR : readP line.data.toList = (x, bb) := hRP2
      generalize x = xf at *
      generalize bb = fb at *
      generalize l = lf at *
  all_goals
    have hrf : readF line = if fb = true ∧ formE xf = 0 ∧ lineS xf = line then (xf, 0) else (factZ, 4) := by
      show (if (readP line.data.toList).2 = true ∧ formE (readP line.data.toList).1 = 0 ∧ lineS (readP line.data.toList).1 = line then ((readP line.data.toList).1, (0 : Int)) else (factZ, 4)) = _
      rw [hR]
    refine ⟨xf.cells, rfl, Mt.rd 0 rfl, ?_⟩
    refine (Write_spec xf hxn _ (T.ext Mt.ext)).mono ?_
    rintro v w30 ⟨rfl, e30⟩
    have Mu := Mt.grow e30
    refine ⟨_, Mu.cell 2 rfl rfl, ?_⟩
    have bad : ∀ {w31 : World}, ¬ (fb = true ∧ formE xf = 0 ∧ lineS xf = line) → Put w30 g2 (.cells factZ.cells.toArray 29 (0, 0)) w31 → (Value.tuple #[.agg factZ.cells.toArray, .int .i64 4] = .tuple #[(readF line).1.val, .int .i64 (readF line).2] ∧ Ext w w31) := fun hb h31 => by
      rw [hrf, if_neg hb]
      exact ⟨rfl, (Mu.put 4 rfl h31).ext⟩
    refine brE_mk (fun hb1 => ?_) (fun hb1 => ?_)
    · have hb1 : fb = false := by simpa using hb1
      refine ⟨rfl, _, _, Mu.get 4 rfl, Nat.le_of_ble_eq_true rfl, rfl, ?_⟩
      intro w31 h31
      refine ⟨factZ.cells, rfl, Rd.of_block h31.here, ?_⟩
      exact bad (fun h => by rw [hb1] at h; cases h.1) h31
    have hb1 : fb = true := by simpa using hb1
    refine brE_ndec (fun hb2 => ?_) (fun hb2 => ?_)
    · have hb2 : ¬ formE xf = 0 := hb2
      refine ⟨rfl, _, _, Mu.get 4 rfl, Nat.le_of_ble_eq_true rfl, rfl, ?_⟩
      intro w31 h31
      refine ⟨factZ.cells, rfl, Rd.of_block h31.here, ?_⟩
      exact bad (fun h => hb2 h.2.1) h31
    have hb2 : formE xf = 0 := hb2
    rw [if_pos hb2]
    refine ⟨_, neqStr _ _ (lineS xf) line, ?_⟩
    refine brE_ndec (fun hb3 => ?_) (fun hb3 => ?_)
    · refine ⟨rfl, _, _, Mu.get 4 rfl, Nat.le_of_ble_eq_true rfl, rfl, ?_⟩
      intro w31 h31
      refine ⟨factZ.cells, rfl, Rd.of_block h31.here, ?_⟩
      exact bad (fun h => hb3 h.2.2) h31
    · rw [if_pos ⟨hb1, hb2, hb3⟩] at hrf
      refine ⟨xf.cells, rfl, Mu.rd 0 rfl, ?_⟩
      refine ⟨rfl, _, _, Mu.get 4 rfl, Nat.le_of_ble_eq_true rfl, rfl, ?_⟩
      intro w31 h31
      have h31 : Put w30 g2 (.cells xf.cells.toArray 29 (0, 0)) w31 := h31
      refine ⟨xf.cells, rfl, Rd.of_block h31.here, ?_⟩
      rw [hrf]
      exact ⟨rfl, (Mu.put 4 rfl h31).ext⟩

end Go.Proofs.YthpdkdmbfdmamaaGreatDoor
