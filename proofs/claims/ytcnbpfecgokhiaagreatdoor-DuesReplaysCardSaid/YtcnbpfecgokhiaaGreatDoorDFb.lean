/- a part of the proof: steps, walks and plain laws that the law below stands on; no condition. -/
import Derived.Test.YtcnbpfecgokhiaaGreatDoorDCb
import Derived.Test.YtcnbpfecgokhiaaGreatDoorDFa
import Derived.Test.YtcnbpfecgokhiaaGreatDoorDBe
import Derived.Test.YtcnbpfecgokhiaaGreatDoorDDa
import Derived.Test.YtcnbpfecgokhiaaGreatDoorDCd
set_option linter.unusedVariables false
set_option linter.unusedSimpArgs false
set_option linter.unnecessarySimpa false
set_option linter.unusedSectionVars false
namespace Go.Proofs.YtcnbpfecgokhiaaGreatDoor
open Go.Eng Go.RowKit

theorem endsL_length : ∀ (l : List Fact), (endsL l).length = 2 * l.length
  | [] => rfl
  | x :: r => by
    have := endsL_length r
    unfold endsL at *
    rw [List.flatMap_cons, List.length_append, this]
    simp; omega
abbrev knownsL (l : List Fact) : List Int := l.map Fact.known
theorem knownsL_length (l : List Fact) : (knownsL l).length = l.length := List.length_map ..

end Go.Proofs.YtcnbpfecgokhiaaGreatDoor

namespace Go.Proofs.YtcnbpfecgokhiaaGreatDoor
open Go.Eng Go.RowKit

theorem spouseL_some {c : List Fact} {p : Int} {y : Fact} (h : lastP (marriedB p) c = some y) : spouseL c p = if (deadB c y.who || deadB c y.other) = true then (0, false) else if y.who = p then (y.other, true) else (y.who, true) := by
  unfold spouseL; rw [h]
theorem spouseL_none {c : List Fact} {p : Int} (h : lastP (marriedB p) c = none) : spouseL c p = (0, false) := by
  unfold spouseL; rw [h]
end Go.Proofs.YtcnbpfecgokhiaaGreatDoor

namespace Go.Proofs.YtcnbpfecgokhiaaGreatDoor
open Go.Eng Go.RowKit

theorem sortD_nodup_length {l : List Int} (h : l.Nodup) : (sortD l).length = l.length := by
  have hn : (sortD l).Nodup := (sortD_asc l).imp fun h e => by subst e; exact Int.lt_irrefl _ h
  exact ((List.perm_ext_iff_of_nodup hn h).2 fun x => mem_sortD).length_eq
theorem nodup_length_le {a l : List Int} (hn : a.Nodup) (h : ∀ x ∈ a, x ∈ l) : a.length ≤ l.length := by
  rw [← sortD_nodup_length hn]
  exact asc_length (sortD_asc a) fun x hx => h x (mem_sortD.1 hx)

theorem HF.at_nums {w : World} {A : Option Addr} {l : List Fact} {c : Nat} (h : HF w A l c) (k day : Int) : ∀ x ∈ atL k day l, x.Nums := fun x hx => h.nums x (atL_sub hx)

end Go.Proofs.YtcnbpfecgokhiaaGreatDoor

namespace Go.Proofs.YtcnbpfecgokhiaaGreatDoor
open Go.Eng Go.RowKit

def itoaS (n : Int) : ByteArray := ⟨(Lib.itoa n).toArray⟩
/-- The words of a line, as strings. -/
def wordsB (x : Fact) : List ByteArray := ([itoaS x.id, itoaS x.known, wordA x.kind.toNat] ++ (offs x.kind).map (fun o => itoaS (fieldI x o))) ++ if x.kind = 1 then [x.name] else []
theorem wordsB_L (x : Fact) : (wordsB x).map (fun b => b.data.toList) = wordsL x := by
  have e : ∀ n, (itoaS n).data.toList = Lib.itoa n := fun n => by simp [itoaS]
  unfold wordsB wordsL
  rw [List.map_append, List.map_append, List.map_map]
  have h1 : ([itoaS x.id, itoaS x.known, wordA x.kind.toNat] : List ByteArray).map (fun b => b.data.toList) = [Lib.itoa x.id, Lib.itoa x.known, (wordA x.kind.toNat).data.toList] := by
    rw [List.map_cons, List.map_cons, List.map_cons, List.map_nil, e, e]
  have h2 : (offs x.kind).map ((fun b : ByteArray => b.data.toList) ∘ fun o => itoaS (fieldI x o)) = (offs x.kind).map fun o => Lib.itoa (fieldI x o) := List.map_congr_left fun o _ => e _
  have h3 : ((if x.kind = 1 then [x.name] else []) : List ByteArray).map (fun b => b.data.toList) = if x.kind = 1 then [x.name.data.toList] else [] := by split <;> rfl
  rw [h1, h2, h3]
theorem join_bound : ∀ (ws : List (List UInt8)), (∀ v ∈ ws, v.length ≤ 30) → (Lib.join ws [32]).length ≤ 31 * ws.length
  | [], _ => by simp [Lib.join_nil]
  | [v], h => by
    have := h v (by simp)
    rw [Lib.join_one]; simp; omega
  | v :: u :: r, h => by
    have h1 := h v (by simp)
    have h2 := join_bound (u :: r) fun y hy => h y (by simp at hy ⊢; exact .inr hy)
    rw [join_two, List.length_append, List.length_cons]
    simp only [List.length_cons] at h2 ⊢
    omega
theorem field_num {x : Fact} (hx : x.Nums) {o : Nat} (h : o = 3 ∨ o = 4 ∨ o = 5 ∨ o = 6 ∨ o = 7) : In64 (fieldI x o) := by
  rcases h with rfl | rfl | rfl | rfl | rfl
  · exact hx.who
  · exact hx.what
  · exact hx.other
  · exact hx.since
  · exact hx.til
theorem word_len (k : Nat) : (wordA k).data.toList.length ≤ 11 := by
  unfold wordA
  split <;> exact Nat.le_of_ble_eq_true rfl
theorem line_bound {x : Fact} (hx : x.Nums) (h : formE x = 0) : (Lib.join (wordsL x) [32]).length ≤ 1000 ∧ 0 < (wordsB x).length ∧ (wordsB x).length ≤ 9 := by
  obtain ⟨_, _, _, hn⟩ := formE_zero h
  have hl : (offs x.kind).length ≤ 5 := by
    unfold offs
    repeat' split
    all_goals exact Nat.le_of_ble_eq_true rfl
  have hw : (wordsB x).length ≤ 9 ∧ 0 < (wordsB x).length := by
    unfold wordsB
    simp only [List.length_append, List.length_map, List.length_cons, List.length_nil]
    split
    · simp only [List.length_cons, List.length_nil]; omega
    · simp only [List.length_nil]; omega
  refine ⟨?_, hw.2, hw.1⟩
  have hb := join_bound (wordsL x) fun v hv => by
    unfold wordsL at hv
    rcases List.mem_append.1 hv with hv | hv
    · rcases List.mem_append.1 hv with hv | hv
      · simp only [List.mem_cons, List.not_mem_nil, or_false] at hv
        rcases hv with rfl | rfl | rfl
        · exact Nat.le_trans (Lib.itoa_length_le _ hx.id.1 hx.id.2) (by decide)
        · exact Nat.le_trans (Lib.itoa_length_le _ hx.known.1 hx.known.2) (by decide)
        · exact Nat.le_trans (word_len _) (by decide)
      · obtain ⟨o, ho, rfl⟩ := List.mem_map.1 hv
        have := field_num hx (offs_mem ho)
        exact Nat.le_trans (Lib.itoa_length_le _ this.1 this.2) (by decide)
    · split at hv
      · rename_i h1
        rw [List.mem_singleton.1 hv]
        have := (nameB_iff.1 (hn h1)).1.1
        omega
      · cases hv
  have : (wordsL x).length = (wordsB x).length := by rw [← wordsB_L, List.length_map]
  omega

end Go.Proofs.YtcnbpfecgokhiaaGreatDoor

namespace Go.Proofs.YtcnbpfecgokhiaaGreatDoor
open Go.Eng Go.RowKit

/-- The boxes of Read: what is left of the line, whether all numbers were fine, the function that cuts a word. -/
abbrev restO (l : List UInt8) : Obj := .cells #[.string ⟨l.toArray⟩] 9 (0, 0)
abbrev fineO (b : Bool) : Obj := .cells #[.bool b] 4 (0, 0)
theorem mk_list (l : List UInt8) : (⟨l.toArray⟩ : ByteArray).data.toList = l := by simp
theorem mk_size (l : List UInt8) : (⟨l.toArray⟩ : ByteArray).size = l.length := by simp [ByteArray.size]

theorem data_eq {a b : ByteArray} : a.data.toList = b.data.toList ↔ a = b := ⟨fun h => ByteArray.ext (Array.toList_inj.1 h), fun h => by rw [h]⟩
theorem setF_nums {x : Fact} (hx : x.Nums) (o : Nat) {n : Int} (hn : In64 n) : (setF x o n).Nums := by
  unfold setF
  repeat' split
  · exact ⟨hx.id, hx.known, hx.kind, hn, hx.what, hx.other, hx.since, hx.til, hx.name⟩
  · exact ⟨hx.id, hx.known, hx.kind, hx.who, hn, hx.other, hx.since, hx.til, hx.name⟩
  · exact ⟨hx.id, hx.known, hx.kind, hx.who, hx.what, hn, hx.since, hx.til, hx.name⟩
  · exact ⟨hx.id, hx.known, hx.kind, hx.who, hx.what, hx.other, hn, hx.til, hx.name⟩
  · exact ⟨hx.id, hx.known, hx.kind, hx.who, hx.what, hx.other, hx.since, hn, hx.name⟩
theorem u8_next {j : Nat} (h1 : 1 ≤ j) (h2 : j ≤ 11) : IntKind.u8.wrap ((j : Int) + 1) = ((j + 1 : Nat) : Int) := by
  have : j = 1 ∨ j = 2 ∨ j = 3 ∨ j = 4 ∨ j = 5 ∨ j = 6 ∨ j = 7 ∨ j = 8 ∨ j = 9 ∨ j = 10 ∨ j = 11 := by omega
  rcases this with rfl | rfl | rfl | rfl | rfl | rfl | rfl | rfl | rfl | rfl | rfl <;> rfl

abbrev kinds : List Nat := [1, 2, 3, 4, 5, 6, 7, 8, 9, 10, 11]
theorem kinds_drop {n : Nat} (h : n < 11) : kinds.drop n = (n + 1) :: kinds.drop (n + 1) := by
  have : n = 0 ∨ n = 1 ∨ n = 2 ∨ n = 3 ∨ n = 4 ∨ n = 5 ∨ n = 6 ∨ n = 7 ∨ n = 8 ∨ n = 9 ∨ n = 10 := by omega
  rcases this with rfl | rfl | rfl | rfl | rfl | rfl | rfl | rfl | rfl | rfl | rfl <;> rfl
theorem kindAt_drop {v : List UInt8} {n : Nat} (h : n < 11) : kindAt v (kinds.drop n) = if (wordA (n + 1)).data.toList = v then n + 1 else kindAt v (kinds.drop (n + 1)) := by
  rw [kinds_drop h]; rfl

def x0F (n1 n2 : Int) (k : Nat) : Fact := ⟨n1, n2, k, 0, 0, 0, 0, 0, ⟨#[]⟩⟩
/-- What is read behind the two numbers. -/
def tailP (n1 n2 : Int) (c : List UInt8 × List UInt8) (f0 : Bool) : Fact × Bool :=
  if kindOf c.1 = 0 then (x0F n1 n2 (kindOf c.1), f0) else
    (if kindOf c.1 = 1 then { (fillF (offs (kindOf c.1 : Nat)) (x0F n1 n2 (kindOf c.1)) c.2 f0).1 with name := ⟨(fillF (offs (kindOf c.1 : Nat)) (x0F n1 n2 (kindOf c.1)) c.2 f0).2.1.toArray⟩ } else (fillF (offs (kindOf c.1 : Nat)) (x0F n1 n2 (kindOf c.1)) c.2 f0).1,
      (fillF (offs (kindOf c.1 : Nat)) (x0F n1 n2 (kindOf c.1)) c.2 f0).2.2)
theorem readP_eq {s : List UInt8} {a b c : List UInt8 × List UInt8} (ha : cutW s = a) (hb : cutW a.2 = b) (hc : cutW b.2 = c) : readP s = tailP (numW a.1).1 (numW b.1).1 c (true && (numW a.1).2 && (numW b.1).2) := by
  subst ha; subst hb; subst hc; rfl
theorem x0F_nums {n1 n2 : Int} (h1 : In64 n1) (h2 : In64 n2) {k : Nat} (hk : k ≤ 11) : (x0F n1 n2 k).Nums := by
  have z : In64 0 := ⟨by decide, by decide⟩
  exact ⟨h1, h2, by show 0 ≤ (k : Int) ∧ (k : Int) ≤ 255; omega, z, z, z, z, z, by show (0 : Nat) ≤ _; omega⟩

end Go.Proofs.YtcnbpfecgokhiaaGreatDoor

namespace Go.Proofs.YtcnbpfecgokhiaaGreatDoor
open Go.Eng Go.RowKit

theorem sample_nums : ∀ x ∈ sampleL, x.Nums := by
  have key : sampleL.all (fun x => decide (In64 x.id ∧ In64 x.known ∧ (0 ≤ x.kind ∧ x.kind ≤ 255) ∧ In64 x.who ∧ In64 x.what ∧ In64 x.other ∧ In64 x.since ∧ In64 x.til ∧ x.name.size ≤ 9223372036854775807)) = true := by decide +kernel
  intro x hx
  obtain ⟨a, b, c, d, e, f, g, h, i⟩ := of_decide_eq_true (List.all_eq_true.1 key x hx)
  exact ⟨a, b, c, d, e, f, g, h, i⟩
theorem fact11_nums : fact11.Nums := by
  have key : decide (In64 fact11.id ∧ In64 fact11.known ∧ (0 ≤ fact11.kind ∧ fact11.kind ≤ 255) ∧ In64 fact11.who ∧ In64 fact11.what ∧ In64 fact11.other ∧ In64 fact11.since ∧ In64 fact11.til ∧ fact11.name.size ≤ 9223372036854775807) = true := by decide +kernel
  obtain ⟨a, b, c, d, e, f, g, h, i⟩ := of_decide_eq_true key
  exact ⟨a, b, c, d, e, f, g, h, i⟩
theorem lines_len : linesL.all (fun l => decide (l.length ≤ 100)) = true := by decide +kernel

end Go.Proofs.YtcnbpfecgokhiaaGreatDoor

namespace Go.Proofs.YtcnbpfecgokhiaaGreatDoor
open Go.Eng Go.RowKit

end Go.Proofs.YtcnbpfecgokhiaaGreatDoor

namespace Go.Proofs.YtcnbpfecgokhiaaGreatDoor
open Go.Eng Go.RowKit

structure Asked where
  person : Int
  state : Int
  host : Int
  cls : Int
  lang : Int
  lot : Int
def Asked.cells (q : Asked) : List Value := [.int .i64 q.person, .int .i64 q.state, .int .i64 q.host, .int .i64 q.cls, .int .i64 q.lang, .int .i64 q.lot]
def Asked.val (q : Asked) : Value := .agg q.cells.toArray
def Asked.Nums (q : Asked) : Prop := In64 q.person ∧ In64 q.state ∧ In64 q.host ∧ In64 q.cls ∧ In64 q.lang ∧ In64 q.lot

/-- The answers to all questions. -/
structure Ans where
  states : List Int
  alphabet : List Int
  holders : List Int
  acting : List Int
  contested : List Int
  name : ByteArray
  letter : Int
  recognised : Int
  cls : Int
  least : Int
  cred : Int
  visit : Int
  spouse : Int
  principal : Int
  inn : Bool
  mourns : Bool
  dead : Bool
  is : Bool
  alone : Bool
  married : Bool
  stands : Bool
def askL (X : List Fact) (q : Asked) : Ans := ⟨statesL X, alphaL X q.lang q.lot, livingL X 2 q.state q.cls, livingL X 3 q.state q.cls, contestedL X, nameL X q.state q.lang, (letterL X q.lang q.lot q.state).1, (recogL X q.host q.state).1, (classL X q.host q.person q.state).1, leastL X q.person q.state, credL X q.person q.state, visitL X q.person q.state, (spouseL X q.person).1, (princL X q.person).1, (letterL X q.lang q.lot q.state).2, X.any (mournB q.state), deadB X q.person, (recogL X q.host q.state).2, (classL X q.host q.person q.state).2, (spouseL X q.person).2, (princL X q.person).2⟩
def ansC (s1 : Value) (s2 : Value) (s3 : Value) (s4 : Value) (s5 : Value) (nm : ByteArray) (le : Int) (re : Int) (cl : Int) (ls : Int) (cr : Int) (vi : Int) (sp : Int) (pr : Int) (bi : Bool) (bm : Bool) (bd : Bool) (bs : Bool) (ba : Bool) (bp : Bool) (bt : Bool) : List Value := [s1, s2, s3, s4, s5, .string nm, .int .i64 le, .int .i64 re, .int .i64 cl, .int .i64 ls, .int .i64 cr, .int .i64 vi, .int .i64 sp, .int .i64 pr, .bool bi, .bool bm, .bool bd, .bool bs, .bool ba, .bool bp, .bool bt]
def Ans.cells (a : Ans) (s1 s2 s3 s4 s5 : Value) : List Value := ansC s1 s2 s3 s4 s5 a.name a.letter a.recognised a.cls a.least a.cred a.visit a.spouse a.principal a.inn a.mourns a.dead a.is a.alone a.married a.stands
/-- The answers, their rows made by the call. -/
def AnsIs (B : Nat) (w : World) (v : Value) (a : Ans) : Prop := ∃ s1 s2 s3 s4 s5, v = .agg (a.cells s1 s2 s3 s4 s5).toArray ∧ NewInts B w s1 a.states ∧ NewInts B w s2 a.alphabet ∧ NewInts B w s3 a.holders ∧ NewInts B w s4 a.acting ∧ NewInts B w s5 a.contested
theorem AnsIs.ext {B : Nat} {w w' : World} {v : Value} {a : Ans} (h : AnsIs B w v a) (e : Ext w w') : AnsIs B w' v a := by
  obtain ⟨s1, s2, s3, s4, s5, rfl, h1, h2, h3, h4, h5⟩ := h
  exact ⟨s1, s2, s3, s4, s5, rfl, h1.ext e, h2.ext e, h3.ext e, h4.ext e, h5.ext e⟩
theorem AnsIs.base {B B' : Nat} {w : World} {v : Value} {a : Ans} (h : AnsIs B' w v a) (hb : B ≤ B') : AnsIs B w v a := by
  obtain ⟨s1, s2, s3, s4, s5, rfl, h1, h2, h3, h4, h5⟩ := h
  exact ⟨s1, s2, s3, s4, s5, rfl, h1.base hb, h2.base hb, h3.base hb, h4.base hb, h5.base hb⟩
end Go.Proofs.YtcnbpfecgokhiaaGreatDoor

namespace Go.Proofs.YtcnbpfecgokhiaaGreatDoor
open Go.Eng Go.RowKit

theorem oneF (l : List Fact) : (fcells l).all (·.oneCell') = true := by
  rw [List.all_eq_true]
  intro v hv
  obtain ⟨x, _, hx⟩ := List.mem_flatMap.1 hv
  simp [Fact.cells] at hx
  rcases hx with rfl | rfl | rfl | rfl | rfl | rfl | rfl | rfl | rfl <;> rfl
theorem someF {w : World} {A : Option Addr} {l : List Fact} (h : Reads w A (fcells l)) : (A.isSome || Nat.beq l.length 0) = true := by
  cases A with
  | some a => rfl
  | none =>
    rcases h with h | ⟨b, o, hA, _⟩
    · have := congrArg List.length h
      rw [fcells_length] at this
      have : l.length * 9 = 0 := this
      have hl : l = [] := List.length_eq_zero_iff.1 (by omega)
      subst hl; rfl
    · cases hA
theorem nums_append {a b : List Fact} (ha : ∀ x ∈ a, x.Nums) (hb : ∀ x ∈ b, x.Nums) : ∀ x ∈ a ++ b, x.Nums := fun x hx => by
  rcases List.mem_append.1 hx with h | h
  · exact ha x h
  · exact hb x h

/-- Facts that are entered later, picked out one by one. -/
def laterL (k : Int) (l : List Fact) : List Fact := l.filter fun x => decide (k < x.known)
theorem laterL_known {k : Int} {l : List Fact} : ∀ x ∈ laterL k l, k < x.known := fun x hx => of_decide_eq_true (List.mem_filter.1 hx).2
theorem laterL_step {k : Int} {l : List Fact} {i : Nat} (hi : i < l.length) : laterL k (l.take (i + 1)) = laterL k (l.take i) ++ if k < l[i].known then [l[i]] else [] := by
  unfold laterL
  rw [List.take_succ_eq_append_getElem hi, List.filter_append, List.filter_cons, List.filter_nil]
  congr 1
  by_cases h : k < l[i].known
  · rw [if_pos (decide_eq_true h), if_pos h]
  · rw [if_neg (by simpa using h), if_neg h]

end Go.Proofs.YtcnbpfecgokhiaaGreatDoor
