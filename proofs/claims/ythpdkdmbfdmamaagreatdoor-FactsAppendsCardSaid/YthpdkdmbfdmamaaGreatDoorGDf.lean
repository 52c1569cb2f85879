/- a part of the proof: steps, walks and plain laws that the law below stands on; no condition. -/
import Derived.Test.YthpdkdmbfdmamaaGreatDoorGDd
import Derived.Test.YthpdkdmbfdmamaaGreatDoorGBb
import Derived.Carry
set_option linter.unusedVariables false
set_option linter.unusedSimpArgs false
set_option linter.unnecessarySimpa false
set_option linter.unusedSectionVars false
namespace Go.Proofs.YthpdkdmbfdmamaaGreatDoor
open Go.Eng Go.RowKit

structure Asked where
  person : Int
  state : Int
  host : Int
  cls : Int
  lang : Int
  lot : Int
def Asked.cells (q : Asked) : List Value := [.int .i64 q.person, .int .i64 q.state, .int .i64 q.host, .int .i64 q.cls, .int .i64 q.lang, .int .i64 q.lot]
def Asked.val (q : Asked) : Value := .agg q.cells.toArray
def Asked.Nums (q : Asked) : Prop := In64 q.person ∧ In64 q.state ∧ In64 q.host ∧ In64 q.cls ∧ In64 q.lang ∧ In64 q.lot

/-- The answers to all questions. -/
structure Ans where
  states : List Int
  alphabet : List Int
  holders : List Int
  acting : List Int
  contested : List Int
  name : ByteArray
  letter : Int
  recognised : Int
  cls : Int
  least : Int
  cred : Int
  visit : Int
  spouse : Int
  principal : Int
  inn : Bool
  mourns : Bool
  dead : Bool
  is : Bool
  alone : Bool
  married : Bool
  stands : Bool
def askL (X : List Fact) (q : Asked) : Ans := ⟨statesL X, alphaL X q.lang q.lot, livingL X 2 q.state q.cls, livingL X 3 q.state q.cls, contestedL X, nameL X q.state q.lang, (letterL X q.lang q.lot q.state).1, (recogL X q.host q.state).1, (classL X q.host q.person q.state).1, leastL X q.person q.state, credL X q.person q.state, visitL X q.person q.state, (spouseL X q.person).1, (princL X q.person).1, (letterL X q.lang q.lot q.state).2, X.any (mournB q.state), deadB X q.person, (recogL X q.host q.state).2, (classL X q.host q.person q.state).2, (spouseL X q.person).2, (princL X q.person).2⟩
def ansC (s1 : Value) (s2 : Value) (s3 : Value) (s4 : Value) (s5 : Value) (nm : ByteArray) (le : Int) (re : Int) (cl : Int) (ls : Int) (cr : Int) (vi : Int) (sp : Int) (pr : Int) (bi : Bool) (bm : Bool) (bd : Bool) (bs : Bool) (ba : Bool) (bp : Bool) (bt : Bool) : List Value := [s1, s2, s3, s4, s5, .string nm, .int .i64 le, .int .i64 re, .int .i64 cl, .int .i64 ls, .int .i64 cr, .int .i64 vi, .int .i64 sp, .int .i64 pr, .bool bi, .bool bm, .bool bd, .bool bs, .bool ba, .bool bp, .bool bt]
def Ans.cells (a : Ans) (s1 s2 s3 s4 s5 : Value) : List Value := ansC s1 s2 s3 s4 s5 a.name a.letter a.recognised a.cls a.least a.cred a.visit a.spouse a.principal a.inn a.mourns a.dead a.is a.alone a.married a.stands
/-- The answers, their rows made by the call. -/
def AnsIs (B : Nat) (w : World) (v : Value) (a : Ans) : Prop := ∃ s1 s2 s3 s4 s5, v = .agg (a.cells s1 s2 s3 s4 s5).toArray ∧ NewInts B w s1 a.states ∧ NewInts B w s2 a.alphabet ∧ NewInts B w s3 a.holders ∧ NewInts B w s4 a.acting ∧ NewInts B w s5 a.contested
theorem AnsIs.ext {B : Nat} {w w' : World} {v : Value} {a : Ans} (h : AnsIs B w v a) (e : Ext w w') : AnsIs B w' v a := by
  obtain ⟨s1, s2, s3, s4, s5, rfl, h1, h2, h3, h4, h5⟩ := h
  exact ⟨s1, s2, s3, s4, s5, rfl, h1.ext e, h2.ext e, h3.ext e, h4.ext e, h5.ext e⟩
theorem AnsIs.base {B B' : Nat} {w : World} {v : Value} {a : Ans} (h : AnsIs B' w v a) (hb : B ≤ B') : AnsIs B w v a := by
  obtain ⟨s1, s2, s3, s4, s5, rfl, h1, h2, h3, h4, h5⟩ := h
  exact ⟨s1, s2, s3, s4, s5, rfl, h1.base hb, h2.base hb, h3.base hb, h4.base hb, h5.base hb⟩
theorem keepInts {B g : Nat} {w w1 w2 : World} {cs : Array Value} {fr : Nat × Nat} {o : Obj} {v : Value} {xs : List Int} (e : Ext w w1) (hg : w1.heap[g]? = some (.cells cs 69 fr)) (p : Put w1 g o w2) (h : NewInts B w v xs) : NewInts B w2 v xs :=
  ownsRow_put (h.ext e) p (fun x => own_ne (h.ext e) hg (fun c fr x => by cases x) x.symm)

set_option maxRecDepth 100000 in
set_option maxHeartbeats 4000000 in
theorem ask_spec {w : World} {A : Option Addr} {l : List Fact} {c : Nat} (h : HF w A l c) (hl : l.length ≤ 2 ^ 20) (k day : Int) (q : Asked) (hq : In64 q.person) :
    CallsV C.P 80 #[.slice A l.length c, .int .i64 k, .int .i64 day, q.val] w fun v w' => AnsIs w.heap.size w' v (askL (atL k day l) q) ∧ Ext w w' := by
  refine callsV_of C_ok (args := [_, _, _, _]) (plans := []) Tryz.func80 rfl Tryz.ntmps80 (by kernel_rfl) (Nat.le_of_ble_eq_true rfl) ?_
  intro g7 w1 h1
  intro g8 w2 h2
  intro g9 w3 h3
  have M : Mem w w3 [(g9, .cells #[.slice none 0 0, .slice none 0 0, .slice none 0 0, .slice none 0 0, .slice none 0 0, .string ⟨#[]⟩, .int .i64 0, .int .i64 0, .int .i64 0, .int .i64 0, .int .i64 0, .int .i64 0, .int .i64 0, .int .i64 0, .bool false, .bool false, .bool false, .bool false, .bool false, .bool false, .bool false] 69 (0, 0)), (g8, .cells #[.slice none 0 0, .slice none 0 0, .slice none 0 0, .slice none 0 0, .slice none 0 0, .string ⟨#[]⟩, .int .i64 0, .int .i64 0, .int .i64 0, .int .i64 0, .int .i64 0, .int .i64 0, .int .i64 0, .int .i64 0, .bool false, .bool false, .bool false, .bool false, .bool false, .bool false, .bool false] 69 (0, 0)), (g7, .cells q.cells.toArray 66 (0, 0))] := (((Mem.start w).alloc h1).alloc h2).alloc h3
  have hE : Ext w w3 := M.ext
  clear h1 h2 h3 hE
  refine (States_spec (h.ext M.ext) hl k day ).mono ?_
  rintro r4 w4 ⟨ho4, e4⟩
  have B4 : w.heap.size ≤ w3.heap.size := M.ext.size
  have M := M.grow e4
  obtain ⟨A4, c4, rfl, _, _⟩ := NewInts.slice ho4
  have ho4 := ho4.base B4
  refine ⟨rfl, _, _, M.get 0 rfl, Nat.le_of_ble_eq_true rfl, rfl, ?_⟩
  intro w5 h5
  have h5 := put_eq h5 (o' := .cells #[.slice A4 (statesL (atL k day l)).length c4, .slice none 0 0, .slice none 0 0, .slice none 0 0, .slice none 0 0, .string ⟨#[]⟩, .int .i64 0, .int .i64 0, .int .i64 0, .int .i64 0, .int .i64 0, .int .i64 0, .int .i64 0, .int .i64 0, .bool false, .bool false, .bool false, .bool false, .bool false, .bool false, .bool false] 69 (0, 0)) rfl
  have keep : ∀ {v : Value} {xs : List Int}, NewInts w.heap.size w3 v xs → NewInts w.heap.size w5 v xs := fun hh => keepInts e4 (M.get 0 rfl) h5 hh
  have ho4 := keepInts (Ext.refl _) (M.get 0 rfl) h5 ho4
  have M : Mem w w5 [(g9, .cells #[.slice A4 (statesL (atL k day l)).length c4, .slice none 0 0, .slice none 0 0, .slice none 0 0, .slice none 0 0, .string ⟨#[]⟩, .int .i64 0, .int .i64 0, .int .i64 0, .int .i64 0, .int .i64 0, .int .i64 0, .int .i64 0, .int .i64 0, .bool false, .bool false, .bool false, .bool false, .bool false, .bool false, .bool false] 69 (0, 0)), (g8, .cells #[.slice none 0 0, .slice none 0 0, .slice none 0 0, .slice none 0 0, .slice none 0 0, .string ⟨#[]⟩, .int .i64 0, .int .i64 0, .int .i64 0, .int .i64 0, .int .i64 0, .int .i64 0, .int .i64 0, .int .i64 0, .bool false, .bool false, .bool false, .bool false, .bool false, .bool false, .bool false] 69 (0, 0)), (g7, .cells q.cells.toArray 66 (0, 0))] := M.put 0 rfl h5
  clear keep h5
  refine ⟨_, M.cell 2 (i := 4) rfl rfl, ?_⟩
  refine ⟨_, M.cell 2 (i := 5) rfl rfl, ?_⟩
  refine (Alphabet_spec (h.ext M.ext) hl k day q.lang q.lot).mono ?_
  rintro r6 w6 ⟨ho6, e6⟩
  have B6 : w.heap.size ≤ w5.heap.size := M.ext.size
  have M := M.grow e6
  obtain ⟨A6, c6, rfl, _, _⟩ := NewInts.slice ho6
  have ho6 := ho6.base B6
  refine ⟨rfl, _, _, M.get 0 rfl, Nat.le_of_ble_eq_true rfl, rfl, ?_⟩
  intro w7 h7
  have h7 := put_eq h7 (o' := .cells #[.slice A4 (statesL (atL k day l)).length c4, .slice A6 (alphaL (atL k day l) q.lang q.lot).length c6, .slice none 0 0, .slice none 0 0, .slice none 0 0, .string ⟨#[]⟩, .int .i64 0, .int .i64 0, .int .i64 0, .int .i64 0, .int .i64 0, .int .i64 0, .int .i64 0, .int .i64 0, .bool false, .bool false, .bool false, .bool false, .bool false, .bool false, .bool false] 69 (0, 0)) rfl
  have keep : ∀ {v : Value} {xs : List Int}, NewInts w.heap.size w5 v xs → NewInts w.heap.size w7 v xs := fun hh => keepInts e6 (M.get 0 rfl) h7 hh
  have ho4 := keep ho4
  have ho6 := keepInts (Ext.refl _) (M.get 0 rfl) h7 ho6
  have M : Mem w w7 [(g9, .cells #[.slice A4 (statesL (atL k day l)).length c4, .slice A6 (alphaL (atL k day l) q.lang q.lot).length c6, .slice none 0 0, .slice none 0 0, .slice none 0 0, .string ⟨#[]⟩, .int .i64 0, .int .i64 0, .int .i64 0, .int .i64 0, .int .i64 0, .int .i64 0, .int .i64 0, .int .i64 0, .bool false, .bool false, .bool false, .bool false, .bool false, .bool false, .bool false] 69 (0, 0)), (g8, .cells #[.slice none 0 0, .slice none 0 0, .slice none 0 0, .slice none 0 0, .slice none 0 0, .string ⟨#[]⟩, .int .i64 0, .int .i64 0, .int .i64 0, .int .i64 0, .int .i64 0, .int .i64 0, .int .i64 0, .int .i64 0, .bool false, .bool false, .bool false, .bool false, .bool false, .bool false, .bool false] 69 (0, 0)), (g7, .cells q.cells.toArray 66 (0, 0))] := M.put 0 rfl h7
  clear keep h7
  refine ⟨_, M.cell 2 (i := 1) rfl rfl, ?_⟩
  refine ⟨_, M.cell 2 (i := 3) rfl rfl, ?_⟩
  refine (Holders_spec (h.ext M.ext) hl k day q.state q.cls).mono ?_
  rintro r8 w8 ⟨ho8, e8⟩
  have B8 : w.heap.size ≤ w7.heap.size := M.ext.size
  have M := M.grow e8
  obtain ⟨A8, c8, rfl, _, _⟩ := NewInts.slice ho8
  have ho8 := ho8.base B8
  refine ⟨rfl, _, _, M.get 0 rfl, Nat.le_of_ble_eq_true rfl, rfl, ?_⟩
  intro w9 h9
  have h9 := put_eq h9 (o' := .cells #[.slice A4 (statesL (atL k day l)).length c4, .slice A6 (alphaL (atL k day l) q.lang q.lot).length c6, .slice A8 (livingL (atL k day l) 2 q.state q.cls).length c8, .slice none 0 0, .slice none 0 0, .string ⟨#[]⟩, .int .i64 0, .int .i64 0, .int .i64 0, .int .i64 0, .int .i64 0, .int .i64 0, .int .i64 0, .int .i64 0, .bool false, .bool false, .bool false, .bool false, .bool false, .bool false, .bool false] 69 (0, 0)) rfl
  have keep : ∀ {v : Value} {xs : List Int}, NewInts w.heap.size w7 v xs → NewInts w.heap.size w9 v xs := fun hh => keepInts e8 (M.get 0 rfl) h9 hh
  have ho4 := keep ho4
  have ho6 := keep ho6
  have ho8 := keepInts (Ext.refl _) (M.get 0 rfl) h9 ho8
  have M : Mem w w9 [(g9, .cells #[.slice A4 (statesL (atL k day l)).length c4, .slice A6 (alphaL (atL k day l) q.lang q.lot).length c6, .slice A8 (livingL (atL k day l) 2 q.state q.cls).length c8, .slice none 0 0, .slice none 0 0, .string ⟨#[]⟩, .int .i64 0, .int .i64 0, .int .i64 0, .int .i64 0, .int .i64 0, .int .i64 0, .int .i64 0, .int .i64 0, .bool false, .bool false, .bool false, .bool false, .bool false, .bool false, .bool false] 69 (0, 0)), (g8, .cells #[.slice none 0 0, .slice none 0 0, .slice none 0 0, .slice none 0 0, .slice none 0 0, .string ⟨#[]⟩, .int .i64 0, .int .i64 0, .int .i64 0, .int .i64 0, .int .i64 0, .int .i64 0, .int .i64 0, .int .i64 0, .bool false, .bool false, .bool false, .bool false, .bool false, .bool false, .bool false] 69 (0, 0)), (g7, .cells q.cells.toArray 66 (0, 0))] := M.put 0 rfl h9
  clear keep h9
  refine ⟨_, M.cell 2 (i := 1) rfl rfl, ?_⟩
  refine ⟨_, M.cell 2 (i := 3) rfl rfl, ?_⟩
  refine (Acting_spec (h.ext M.ext) hl k day q.state q.cls).mono ?_
  rintro r10 w10 ⟨ho10, e10⟩
  have B10 : w.heap.size ≤ w9.heap.size := M.ext.size
  have M := M.grow e10
  obtain ⟨A10, c10, rfl, _, _⟩ := NewInts.slice ho10
  have ho10 := ho10.base B10
  refine ⟨rfl, _, _, M.get 0 rfl, Nat.le_of_ble_eq_true rfl, rfl, ?_⟩
  intro w11 h11
  have h11 := put_eq h11 (o' := .cells #[.slice A4 (statesL (atL k day l)).length c4, .slice A6 (alphaL (atL k day l) q.lang q.lot).length c6, .slice A8 (livingL (atL k day l) 2 q.state q.cls).length c8, .slice A10 (livingL (atL k day l) 3 q.state q.cls).length c10, .slice none 0 0, .string ⟨#[]⟩, .int .i64 0, .int .i64 0, .int .i64 0, .int .i64 0, .int .i64 0, .int .i64 0, .int .i64 0, .int .i64 0, .bool false, .bool false, .bool false, .bool false, .bool false, .bool false, .bool false] 69 (0, 0)) rfl
  have keep : ∀ {v : Value} {xs : List Int}, NewInts w.heap.size w9 v xs → NewInts w.heap.size w11 v xs := fun hh => keepInts e10 (M.get 0 rfl) h11 hh
  have ho4 := keep ho4
  have ho6 := keep ho6
  have ho8 := keep ho8
  have ho10 := keepInts (Ext.refl _) (M.get 0 rfl) h11 ho10
  have M : Mem w w11 [(g9, .cells #[.slice A4 (statesL (atL k day l)).length c4, .slice A6 (alphaL (atL k day l) q.lang q.lot).length c6, .slice A8 (livingL (atL k day l) 2 q.state q.cls).length c8, .slice A10 (livingL (atL k day l) 3 q.state q.cls).length c10, .slice none 0 0, .string ⟨#[]⟩, .int .i64 0, .int .i64 0, .int .i64 0, .int .i64 0, .int .i64 0, .int .i64 0, .int .i64 0, .int .i64 0, .bool false, .bool false, .bool false, .bool false, .bool false, .bool false, .bool false] 69 (0, 0)), (g8, .cells #[.slice none 0 0, .slice none 0 0, .slice none 0 0, .slice none 0 0, .slice none 0 0, .string ⟨#[]⟩, .int .i64 0, .int .i64 0, .int .i64 0, .int .i64 0, .int .i64 0, .int .i64 0, .int .i64 0, .int .i64 0, .bool false, .bool false, .bool false, .bool false, .bool false, .bool false, .bool false] 69 (0, 0)), (g7, .cells q.cells.toArray 66 (0, 0))] := M.put 0 rfl h11
  clear keep h11
  refine (Contested_spec (h.ext M.ext) hl k day ).mono ?_
  rintro r12 w12 ⟨ho12, e12⟩
  have B12 : w.heap.size ≤ w11.heap.size := M.ext.size
  have M := M.grow e12
  obtain ⟨A12, c12, rfl, _, _⟩ := NewInts.slice ho12
  have ho12 := ho12.base B12
  refine ⟨rfl, _, _, M.get 0 rfl, Nat.le_of_ble_eq_true rfl, rfl, ?_⟩
  intro w13 h13
  have h13 := put_eq h13 (o' := .cells #[.slice A4 (statesL (atL k day l)).length c4, .slice A6 (alphaL (atL k day l) q.lang q.lot).length c6, .slice A8 (livingL (atL k day l) 2 q.state q.cls).length c8, .slice A10 (livingL (atL k day l) 3 q.state q.cls).length c10, .slice A12 (contestedL (atL k day l)).length c12, .string ⟨#[]⟩, .int .i64 0, .int .i64 0, .int .i64 0, .int .i64 0, .int .i64 0, .int .i64 0, .int .i64 0, .int .i64 0, .bool false, .bool false, .bool false, .bool false, .bool false, .bool false, .bool false] 69 (0, 0)) rfl
  have keep : ∀ {v : Value} {xs : List Int}, NewInts w.heap.size w11 v xs → NewInts w.heap.size w13 v xs := fun hh => keepInts e12 (M.get 0 rfl) h13 hh
  have ho4 := keep ho4
  have ho6 := keep ho6
  have ho8 := keep ho8
  have ho10 := keep ho10
  have ho12 := keepInts (Ext.refl _) (M.get 0 rfl) h13 ho12
  have M : Mem w w13 [(g9, .cells #[.slice A4 (statesL (atL k day l)).length c4, .slice A6 (alphaL (atL k day l) q.lang q.lot).length c6, .slice A8 (livingL (atL k day l) 2 q.state q.cls).length c8, .slice A10 (livingL (atL k day l) 3 q.state q.cls).length c10, .slice A12 (contestedL (atL k day l)).length c12, .string ⟨#[]⟩, .int .i64 0, .int .i64 0, .int .i64 0, .int .i64 0, .int .i64 0, .int .i64 0, .int .i64 0, .int .i64 0, .bool false, .bool false, .bool false, .bool false, .bool false, .bool false, .bool false] 69 (0, 0)), (g8, .cells #[.slice none 0 0, .slice none 0 0, .slice none 0 0, .slice none 0 0, .slice none 0 0, .string ⟨#[]⟩, .int .i64 0, .int .i64 0, .int .i64 0, .int .i64 0, .int .i64 0, .int .i64 0, .int .i64 0, .int .i64 0, .bool false, .bool false, .bool false, .bool false, .bool false, .bool false, .bool false] 69 (0, 0)), (g7, .cells q.cells.toArray 66 (0, 0))] := M.put 0 rfl h13
  clear keep h13
  refine ⟨_, M.cell 2 (i := 1) rfl rfl, ?_⟩
  refine ⟨_, M.cell 2 (i := 4) rfl rfl, ?_⟩
  refine (Name_spec (h.ext M.ext) hl k day q.state q.lang).mono ?_
  rintro _ w14 ⟨rfl, e14⟩
  have B14 : w.heap.size ≤ w13.heap.size := M.ext.size
  have M := M.grow e14
  refine ⟨rfl, _, _, M.get 0 rfl, Nat.le_of_ble_eq_true rfl, rfl, ?_⟩
  intro w15 h15
  have h15 := put_eq h15 (o' := .cells #[.slice A4 (statesL (atL k day l)).length c4, .slice A6 (alphaL (atL k day l) q.lang q.lot).length c6, .slice A8 (livingL (atL k day l) 2 q.state q.cls).length c8, .slice A10 (livingL (atL k day l) 3 q.state q.cls).length c10, .slice A12 (contestedL (atL k day l)).length c12, .string (nameL (atL k day l) q.state q.lang), .int .i64 0, .int .i64 0, .int .i64 0, .int .i64 0, .int .i64 0, .int .i64 0, .int .i64 0, .int .i64 0, .bool false, .bool false, .bool false, .bool false, .bool false, .bool false, .bool false] 69 (0, 0)) rfl
  have keep : ∀ {v : Value} {xs : List Int}, NewInts w.heap.size w13 v xs → NewInts w.heap.size w15 v xs := fun hh => keepInts e14 (M.get 0 rfl) h15 hh
  have ho4 := keep ho4
  have ho6 := keep ho6
  have ho8 := keep ho8
  have ho10 := keep ho10
  have ho12 := keep ho12
  have M : Mem w w15 [(g9, .cells #[.slice A4 (statesL (atL k day l)).length c4, .slice A6 (alphaL (atL k day l) q.lang q.lot).length c6, .slice A8 (livingL (atL k day l) 2 q.state q.cls).length c8, .slice A10 (livingL (atL k day l) 3 q.state q.cls).length c10, .slice A12 (contestedL (atL k day l)).length c12, .string (nameL (atL k day l) q.state q.lang), .int .i64 0, .int .i64 0, .int .i64 0, .int .i64 0, .int .i64 0, .int .i64 0, .int .i64 0, .int .i64 0, .bool false, .bool false, .bool false, .bool false, .bool false, .bool false, .bool false] 69 (0, 0)), (g8, .cells #[.slice none 0 0, .slice none 0 0, .slice none 0 0, .slice none 0 0, .slice none 0 0, .string ⟨#[]⟩, .int .i64 0, .int .i64 0, .int .i64 0, .int .i64 0, .int .i64 0, .int .i64 0, .int .i64 0, .int .i64 0, .bool false, .bool false, .bool false, .bool false, .bool false, .bool false, .bool false] 69 (0, 0)), (g7, .cells q.cells.toArray 66 (0, 0))] := M.put 0 rfl h15
  clear keep h15
  refine ⟨_, M.cell 2 (i := 4) rfl rfl, ?_⟩
  refine ⟨_, M.cell 2 (i := 5) rfl rfl, ?_⟩
  refine ⟨_, M.cell 2 (i := 1) rfl rfl, ?_⟩
  refine (Letter_spec (h.ext M.ext) hl k day q.lang q.lot q.state).mono ?_
  rintro _ w16 ⟨rfl, e16⟩
  have B16 : w.heap.size ≤ w15.heap.size := M.ext.size
  have M := M.grow e16
  refine ⟨rfl, _, _, M.get 0 rfl, Nat.le_of_ble_eq_true rfl, rfl, ?_⟩
  intro w17 h17
  have h17 := put_eq h17 (o' := .cells #[.slice A4 (statesL (atL k day l)).length c4, .slice A6 (alphaL (atL k day l) q.lang q.lot).length c6, .slice A8 (livingL (atL k day l) 2 q.state q.cls).length c8, .slice A10 (livingL (atL k day l) 3 q.state q.cls).length c10, .slice A12 (contestedL (atL k day l)).length c12, .string (nameL (atL k day l) q.state q.lang), .int .i64 ((letterL (atL k day l) q.lang q.lot q.state).1), .int .i64 0, .int .i64 0, .int .i64 0, .int .i64 0, .int .i64 0, .int .i64 0, .int .i64 0, .bool false, .bool false, .bool false, .bool false, .bool false, .bool false, .bool false] 69 (0, 0)) rfl
  have keep : ∀ {v : Value} {xs : List Int}, NewInts w.heap.size w15 v xs → NewInts w.heap.size w17 v xs := fun hh => keepInts e16 (M.get 0 rfl) h17 hh
  have ho4 := keep ho4
  have ho6 := keep ho6
  have ho8 := keep ho8
  have ho10 := keep ho10
  have ho12 := keep ho12
  have M : Mem w w17 [(g9, .cells #[.slice A4 (statesL (atL k day l)).length c4, .slice A6 (alphaL (atL k day l) q.lang q.lot).length c6, .slice A8 (livingL (atL k day l) 2 q.state q.cls).length c8, .slice A10 (livingL (atL k day l) 3 q.state q.cls).length c10, .slice A12 (contestedL (atL k day l)).length c12, .string (nameL (atL k day l) q.state q.lang), .int .i64 ((letterL (atL k day l) q.lang q.lot q.state).1), .int .i64 0, .int .i64 0, .int .i64 0, .int .i64 0, .int .i64 0, .int .i64 0, .int .i64 0, .bool false, .bool false, .bool false, .bool false, .bool false, .bool false, .bool false] 69 (0, 0)), (g8, .cells #[.slice none 0 0, .slice none 0 0, .slice none 0 0, .slice none 0 0, .slice none 0 0, .string ⟨#[]⟩, .int .i64 0, .int .i64 0, .int .i64 0, .int .i64 0, .int .i64 0, .int .i64 0, .int .i64 0, .int .i64 0, .bool false, .bool false, .bool false, .bool false, .bool false, .bool false, .bool false] 69 (0, 0)), (g7, .cells q.cells.toArray 66 (0, 0))] := M.put 0 rfl h17
  clear keep h17
  refine ⟨rfl, _, _, M.get 0 rfl, Nat.le_of_ble_eq_true rfl, rfl, ?_⟩
  intro w18 h18
  have h18 := put_eq h18 (o' := .cells #[.slice A4 (statesL (atL k day l)).length c4, .slice A6 (alphaL (atL k day l) q.lang q.lot).length c6, .slice A8 (livingL (atL k day l) 2 q.state q.cls).length c8, .slice A10 (livingL (atL k day l) 3 q.state q.cls).length c10, .slice A12 (contestedL (atL k day l)).length c12, .string (nameL (atL k day l) q.state q.lang), .int .i64 ((letterL (atL k day l) q.lang q.lot q.state).1), .int .i64 0, .int .i64 0, .int .i64 0, .int .i64 0, .int .i64 0, .int .i64 0, .int .i64 0, .bool ((letterL (atL k day l) q.lang q.lot q.state).2), .bool false, .bool false, .bool false, .bool false, .bool false, .bool false] 69 (0, 0)) rfl
  have keep : ∀ {v : Value} {xs : List Int}, NewInts w.heap.size w17 v xs → NewInts w.heap.size w18 v xs := fun hh => keepInts (Ext.refl _) (M.get 0 rfl) h18 hh
  have ho4 := keep ho4
  have ho6 := keep ho6
  have ho8 := keep ho8
  have ho10 := keep ho10
  have ho12 := keep ho12
  have M : Mem w w18 [(g9, .cells #[.slice A4 (statesL (atL k day l)).length c4, .slice A6 (alphaL (atL k day l) q.lang q.lot).length c6, .slice A8 (livingL (atL k day l) 2 q.state q.cls).length c8, .slice A10 (livingL (atL k day l) 3 q.state q.cls).length c10, .slice A12 (contestedL (atL k day l)).length c12, .string (nameL (atL k day l) q.state q.lang), .int .i64 ((letterL (atL k day l) q.lang q.lot q.state).1), .int .i64 0, .int .i64 0, .int .i64 0, .int .i64 0, .int .i64 0, .int .i64 0, .int .i64 0, .bool ((letterL (atL k day l) q.lang q.lot q.state).2), .bool false, .bool false, .bool false, .bool false, .bool false, .bool false] 69 (0, 0)), (g8, .cells #[.slice none 0 0, .slice none 0 0, .slice none 0 0, .slice none 0 0, .slice none 0 0, .string ⟨#[]⟩, .int .i64 0, .int .i64 0, .int .i64 0, .int .i64 0, .int .i64 0, .int .i64 0, .int .i64 0, .int .i64 0, .bool false, .bool false, .bool false, .bool false, .bool false, .bool false, .bool false] 69 (0, 0)), (g7, .cells q.cells.toArray 66 (0, 0))] := M.put 0 rfl h18
  clear keep h18
  refine ⟨_, M.cell 2 (i := 1) rfl rfl, ?_⟩
  refine (Mourns_spec (h.ext M.ext) hl k day q.state).mono ?_
  rintro _ w19 ⟨rfl, e19⟩
  have B19 : w.heap.size ≤ w18.heap.size := M.ext.size
  have M := M.grow e19
  refine ⟨rfl, _, _, M.get 0 rfl, Nat.le_of_ble_eq_true rfl, rfl, ?_⟩
  intro w20 h20
  have h20 := put_eq h20 (o' := .cells #[.slice A4 (statesL (atL k day l)).length c4, .slice A6 (alphaL (atL k day l) q.lang q.lot).length c6, .slice A8 (livingL (atL k day l) 2 q.state q.cls).length c8, .slice A10 (livingL (atL k day l) 3 q.state q.cls).length c10, .slice A12 (contestedL (atL k day l)).length c12, .string (nameL (atL k day l) q.state q.lang), .int .i64 ((letterL (atL k day l) q.lang q.lot q.state).1), .int .i64 0, .int .i64 0, .int .i64 0, .int .i64 0, .int .i64 0, .int .i64 0, .int .i64 0, .bool ((letterL (atL k day l) q.lang q.lot q.state).2), .bool ((atL k day l).any (mournB q.state)), .bool false, .bool false, .bool false, .bool false, .bool false] 69 (0, 0)) rfl
  have keep : ∀ {v : Value} {xs : List Int}, NewInts w.heap.size w18 v xs → NewInts w.heap.size w20 v xs := fun hh => keepInts e19 (M.get 0 rfl) h20 hh
  have ho4 := keep ho4
  have ho6 := keep ho6
  have ho8 := keep ho8
  have ho10 := keep ho10
  have ho12 := keep ho12
  have M : Mem w w20 [(g9, .cells #[.slice A4 (statesL (atL k day l)).length c4, .slice A6 (alphaL (atL k day l) q.lang q.lot).length c6, .slice A8 (livingL (atL k day l) 2 q.state q.cls).length c8, .slice A10 (livingL (atL k day l) 3 q.state q.cls).length c10, .slice A12 (contestedL (atL k day l)).length c12, .string (nameL (atL k day l) q.state q.lang), .int .i64 ((letterL (atL k day l) q.lang q.lot q.state).1), .int .i64 0, .int .i64 0, .int .i64 0, .int .i64 0, .int .i64 0, .int .i64 0, .int .i64 0, .bool ((letterL (atL k day l) q.lang q.lot q.state).2), .bool ((atL k day l).any (mournB q.state)), .bool false, .bool false, .bool false, .bool false, .bool false] 69 (0, 0)), (g8, .cells #[.slice none 0 0, .slice none 0 0, .slice none 0 0, .slice none 0 0, .slice none 0 0, .string ⟨#[]⟩, .int .i64 0, .int .i64 0, .int .i64 0, .int .i64 0, .int .i64 0, .int .i64 0, .int .i64 0, .int .i64 0, .bool false, .bool false, .bool false, .bool false, .bool false, .bool false, .bool false] 69 (0, 0)), (g7, .cells q.cells.toArray 66 (0, 0))] := M.put 0 rfl h20
  clear keep h20
  refine ⟨_, M.cell 2 (i := 0) rfl rfl, ?_⟩
  refine (Dead_spec (h.ext M.ext) hl k day q.person).mono ?_
  rintro _ w21 ⟨rfl, e21⟩
  have B21 : w.heap.size ≤ w20.heap.size := M.ext.size
  have M := M.grow e21
  refine ⟨rfl, _, _, M.get 0 rfl, Nat.le_of_ble_eq_true rfl, rfl, ?_⟩
  intro w22 h22
  have h22 := put_eq h22 (o' := .cells #[.slice A4 (statesL (atL k day l)).length c4, .slice A6 (alphaL (atL k day l) q.lang q.lot).length c6, .slice A8 (livingL (atL k day l) 2 q.state q.cls).length c8, .slice A10 (livingL (atL k day l) 3 q.state q.cls).length c10, .slice A12 (contestedL (atL k day l)).length c12, .string (nameL (atL k day l) q.state q.lang), .int .i64 ((letterL (atL k day l) q.lang q.lot q.state).1), .int .i64 0, .int .i64 0, .int .i64 0, .int .i64 0, .int .i64 0, .int .i64 0, .int .i64 0, .bool ((letterL (atL k day l) q.lang q.lot q.state).2), .bool ((atL k day l).any (mournB q.state)), .bool (deadB (atL k day l) q.person), .bool false, .bool false, .bool false, .bool false] 69 (0, 0)) rfl
  have keep : ∀ {v : Value} {xs : List Int}, NewInts w.heap.size w20 v xs → NewInts w.heap.size w22 v xs := fun hh => keepInts e21 (M.get 0 rfl) h22 hh
  have ho4 := keep ho4
  have ho6 := keep ho6
  have ho8 := keep ho8
  have ho10 := keep ho10
  have ho12 := keep ho12
  have M : Mem w w22 [(g9, .cells #[.slice A4 (statesL (atL k day l)).length c4, .slice A6 (alphaL (atL k day l) q.lang q.lot).length c6, .slice A8 (livingL (atL k day l) 2 q.state q.cls).length c8, .slice A10 (livingL (atL k day l) 3 q.state q.cls).length c10, .slice A12 (contestedL (atL k day l)).length c12, .string (nameL (atL k day l) q.state q.lang), .int .i64 ((letterL (atL k day l) q.lang q.lot q.state).1), .int .i64 0, .int .i64 0, .int .i64 0, .int .i64 0, .int .i64 0, .int .i64 0, .int .i64 0, .bool ((letterL (atL k day l) q.lang q.lot q.state).2), .bool ((atL k day l).any (mournB q.state)), .bool (deadB (atL k day l) q.person), .bool false, .bool false, .bool false, .bool false] 69 (0, 0)), (g8, .cells #[.slice none 0 0, .slice none 0 0, .slice none 0 0, .slice none 0 0, .slice none 0 0, .string ⟨#[]⟩, .int .i64 0, .int .i64 0, .int .i64 0, .int .i64 0, .int .i64 0, .int .i64 0, .int .i64 0, .int .i64 0, .bool false, .bool false, .bool false, .bool false, .bool false, .bool false, .bool false] 69 (0, 0)), (g7, .cells q.cells.toArray 66 (0, 0))] := M.put 0 rfl h22
  clear keep h22
  refine ⟨_, M.cell 2 (i := 2) rfl rfl, ?_⟩
  refine ⟨_, M.cell 2 (i := 1) rfl rfl, ?_⟩
  refine (Recognised_spec (h.ext M.ext) hl k day q.host q.state).mono ?_
  rintro _ w23 ⟨rfl, e23⟩
  have B23 : w.heap.size ≤ w22.heap.size := M.ext.size
  have M := M.grow e23
  refine ⟨rfl, _, _, M.get 0 rfl, Nat.le_of_ble_eq_true rfl, rfl, ?_⟩
  intro w24 h24
  have h24 := put_eq h24 (o' := .cells #[.slice A4 (statesL (atL k day l)).length c4, .slice A6 (alphaL (atL k day l) q.lang q.lot).length c6, .slice A8 (livingL (atL k day l) 2 q.state q.cls).length c8, .slice A10 (livingL (atL k day l) 3 q.state q.cls).length c10, .slice A12 (contestedL (atL k day l)).length c12, .string (nameL (atL k day l) q.state q.lang), .int .i64 ((letterL (atL k day l) q.lang q.lot q.state).1), .int .i64 ((recogL (atL k day l) q.host q.state).1), .int .i64 0, .int .i64 0, .int .i64 0, .int .i64 0, .int .i64 0, .int .i64 0, .bool ((letterL (atL k day l) q.lang q.lot q.state).2), .bool ((atL k day l).any (mournB q.state)), .bool (deadB (atL k day l) q.person), .bool false, .bool false, .bool false, .bool false] 69 (0, 0)) rfl
  have keep : ∀ {v : Value} {xs : List Int}, NewInts w.heap.size w22 v xs → NewInts w.heap.size w24 v xs := fun hh => keepInts e23 (M.get 0 rfl) h24 hh
  have ho4 := keep ho4
  have ho6 := keep ho6
  have ho8 := keep ho8
  have ho10 := keep ho10
  have ho12 := keep ho12
  have M : Mem w w24 [(g9, .cells #[.slice A4 (statesL (atL k day l)).length c4, .slice A6 (alphaL (atL k day l) q.lang q.lot).length c6, .slice A8 (livingL (atL k day l) 2 q.state q.cls).length c8, .slice A10 (livingL (atL k day l) 3 q.state q.cls).length c10, .slice A12 (contestedL (atL k day l)).length c12, .string (nameL (atL k day l) q.state q.lang), .int .i64 ((letterL (atL k day l) q.lang q.lot q.state).1), .int .i64 ((recogL (atL k day l) q.host q.state).1), .int .i64 0, .int .i64 0, .int .i64 0, .int .i64 0, .int .i64 0, .int .i64 0, .bool ((letterL (atL k day l) q.lang q.lot q.state).2), .bool ((atL k day l).any (mournB q.state)), .bool (deadB (atL k day l) q.person), .bool false, .bool false, .bool false, .bool false] 69 (0, 0)), (g8, .cells #[.slice none 0 0, .slice none 0 0, .slice none 0 0, .slice none 0 0, .slice none 0 0, .string ⟨#[]⟩, .int .i64 0, .int .i64 0, .int .i64 0, .int .i64 0, .int .i64 0, .int .i64 0, .int .i64 0, .int .i64 0, .bool false, .bool false, .bool false, .bool false, .bool false, .bool false, .bool false] 69 (0, 0)), (g7, .cells q.cells.toArray 66 (0, 0))] := M.put 0 rfl h24
  clear keep h24
  refine ⟨rfl, _, _, M.get 0 rfl, Nat.le_of_ble_eq_true rfl, rfl, ?_⟩
  intro w25 h25
  have h25 := put_eq h25 (o' := .cells #[.slice A4 (statesL (atL k day l)).length c4, .slice A6 (alphaL (atL k day l) q.lang q.lot).length c6, .slice A8 (livingL (atL k day l) 2 q.state q.cls).length c8, .slice A10 (livingL (atL k day l) 3 q.state q.cls).length c10, .slice A12 (contestedL (atL k day l)).length c12, .string (nameL (atL k day l) q.state q.lang), .int .i64 ((letterL (atL k day l) q.lang q.lot q.state).1), .int .i64 ((recogL (atL k day l) q.host q.state).1), .int .i64 0, .int .i64 0, .int .i64 0, .int .i64 0, .int .i64 0, .int .i64 0, .bool ((letterL (atL k day l) q.lang q.lot q.state).2), .bool ((atL k day l).any (mournB q.state)), .bool (deadB (atL k day l) q.person), .bool ((recogL (atL k day l) q.host q.state).2), .bool false, .bool false, .bool false] 69 (0, 0)) rfl
  have keep : ∀ {v : Value} {xs : List Int}, NewInts w.heap.size w24 v xs → NewInts w.heap.size w25 v xs := fun hh => keepInts (Ext.refl _) (M.get 0 rfl) h25 hh
  have ho4 := keep ho4
  have ho6 := keep ho6
  have ho8 := keep ho8
  have ho10 := keep ho10
  have ho12 := keep ho12
  have M : Mem w w25 [(g9, .cells #[.slice A4 (statesL (atL k day l)).length c4, .slice A6 (alphaL (atL k day l) q.lang q.lot).length c6, .slice A8 (livingL (atL k day l) 2 q.state q.cls).length c8, .slice A10 (livingL (atL k day l) 3 q.state q.cls).length c10, .slice A12 (contestedL (atL k day l)).length c12, .string (nameL (atL k day l) q.state q.lang), .int .i64 ((letterL (atL k day l) q.lang q.lot q.state).1), .int .i64 ((recogL (atL k day l) q.host q.state).1), .int .i64 0, .int .i64 0, .int .i64 0, .int .i64 0, .int .i64 0, .int .i64 0, .bool ((letterL (atL k day l) q.lang q.lot q.state).2), .bool ((atL k day l).any (mournB q.state)), .bool (deadB (atL k day l) q.person), .bool ((recogL (atL k day l) q.host q.state).2), .bool false, .bool false, .bool false] 69 (0, 0)), (g8, .cells #[.slice none 0 0, .slice none 0 0, .slice none 0 0, .slice none 0 0, .slice none 0 0, .string ⟨#[]⟩, .int .i64 0, .int .i64 0, .int .i64 0, .int .i64 0, .int .i64 0, .int .i64 0, .int .i64 0, .int .i64 0, .bool false, .bool false, .bool false, .bool false, .bool false, .bool false, .bool false] 69 (0, 0)), (g7, .cells q.cells.toArray 66 (0, 0))] := M.put 0 rfl h25
  clear keep h25
  refine ⟨_, M.cell 2 (i := 2) rfl rfl, ?_⟩
  refine ⟨_, M.cell 2 (i := 0) rfl rfl, ?_⟩
  refine ⟨_, M.cell 2 (i := 1) rfl rfl, ?_⟩
  refine (Class_spec (h.ext M.ext) hl k day q.host q.person q.state).mono ?_
  rintro _ w26 ⟨rfl, e26⟩
  have B26 : w.heap.size ≤ w25.heap.size := M.ext.size
  have M := M.grow e26
  refine ⟨rfl, _, _, M.get 0 rfl, Nat.le_of_ble_eq_true rfl, rfl, ?_⟩
  intro w27 h27
  have h27 := put_eq h27 (o' := .cells #[.slice A4 (statesL (atL k day l)).length c4, .slice A6 (alphaL (atL k day l) q.lang q.lot).length c6, .slice A8 (livingL (atL k day l) 2 q.state q.cls).length c8, .slice A10 (livingL (atL k day l) 3 q.state q.cls).length c10, .slice A12 (contestedL (atL k day l)).length c12, .string (nameL (atL k day l) q.state q.lang), .int .i64 ((letterL (atL k day l) q.lang q.lot q.state).1), .int .i64 ((recogL (atL k day l) q.host q.state).1), .int .i64 ((classL (atL k day l) q.host q.person q.state).1), .int .i64 0, .int .i64 0, .int .i64 0, .int .i64 0, .int .i64 0, .bool ((letterL (atL k day l) q.lang q.lot q.state).2), .bool ((atL k day l).any (mournB q.state)), .bool (deadB (atL k day l) q.person), .bool ((recogL (atL k day l) q.host q.state).2), .bool false, .bool false, .bool false] 69 (0, 0)) rfl
  have keep : ∀ {v : Value} {xs : List Int}, NewInts w.heap.size w25 v xs → NewInts w.heap.size w27 v xs := fun hh => keepInts e26 (M.get 0 rfl) h27 hh
  have ho4 := keep ho4
  have ho6 := keep ho6
  have ho8 := keep ho8
  have ho10 := keep ho10
  have ho12 := keep ho12
  have M : Mem w w27 [(g9, .cells #[.slice A4 (statesL (atL k day l)).length c4, .slice A6 (alphaL (atL k day l) q.lang q.lot).length c6, .slice A8 (livingL (atL k day l) 2 q.state q.cls).length c8, .slice A10 (livingL (atL k day l) 3 q.state q.cls).length c10, .slice A12 (contestedL (atL k day l)).length c12, .string (nameL (atL k day l) q.state q.lang), .int .i64 ((letterL (atL k day l) q.lang q.lot q.state).1), .int .i64 ((recogL (atL k day l) q.host q.state).1), .int .i64 ((classL (atL k day l) q.host q.person q.state).1), .int .i64 0, .int .i64 0, .int .i64 0, .int .i64 0, .int .i64 0, .bool ((letterL (atL k day l) q.lang q.lot q.state).2), .bool ((atL k day l).any (mournB q.state)), .bool (deadB (atL k day l) q.person), .bool ((recogL (atL k day l) q.host q.state).2), .bool false, .bool false, .bool false] 69 (0, 0)), (g8, .cells #[.slice none 0 0, .slice none 0 0, .slice none 0 0, .slice none 0 0, .slice none 0 0, .string ⟨#[]⟩, .int .i64 0, .int .i64 0, .int .i64 0, .int .i64 0, .int .i64 0, .int .i64 0, .int .i64 0, .int .i64 0, .bool false, .bool false, .bool false, .bool false, .bool false, .bool false, .bool false] 69 (0, 0)), (g7, .cells q.cells.toArray 66 (0, 0))] := M.put 0 rfl h27
  clear keep h27
  refine ⟨rfl, _, _, M.get 0 rfl, Nat.le_of_ble_eq_true rfl, rfl, ?_⟩
  intro w28 h28
  have h28 := put_eq h28 (o' := .cells #[.slice A4 (statesL (atL k day l)).length c4, .slice A6 (alphaL (atL k day l) q.lang q.lot).length c6, .slice A8 (livingL (atL k day l) 2 q.state q.cls).length c8, .slice A10 (livingL (atL k day l) 3 q.state q.cls).length c10, .slice A12 (contestedL (atL k day l)).length c12, .string (nameL (atL k day l) q.state q.lang), .int .i64 ((letterL (atL k day l) q.lang q.lot q.state).1), .int .i64 ((recogL (atL k day l) q.host q.state).1), .int .i64 ((classL (atL k day l) q.host q.person q.state).1), .int .i64 0, .int .i64 0, .int .i64 0, .int .i64 0, .int .i64 0, .bool ((letterL (atL k day l) q.lang q.lot q.state).2), .bool ((atL k day l).any (mournB q.state)), .bool (deadB (atL k day l) q.person), .bool ((recogL (atL k day l) q.host q.state).2), .bool ((classL (atL k day l) q.host q.person q.state).2), .bool false, .bool false] 69 (0, 0)) rfl
  have keep : ∀ {v : Value} {xs : List Int}, NewInts w.heap.size w27 v xs → NewInts w.heap.size w28 v xs := fun hh => keepInts (Ext.refl _) (M.get 0 rfl) h28 hh
  have ho4 := keep ho4
  have ho6 := keep ho6
  have ho8 := keep ho8
  have ho10 := keep ho10
  have ho12 := keep ho12
  have M : Mem w w28 [(g9, .cells #[.slice A4 (statesL (atL k day l)).length c4, .slice A6 (alphaL (atL k day l) q.lang q.lot).length c6, .slice A8 (livingL (atL k day l) 2 q.state q.cls).length c8, .slice A10 (livingL (atL k day l) 3 q.state q.cls).length c10, .slice A12 (contestedL (atL k day l)).length c12, .string (nameL (atL k day l) q.state q.lang), .int .i64 ((letterL (atL k day l) q.lang q.lot q.state).1), .int .i64 ((recogL (atL k day l) q.host q.state).1), .int .i64 ((classL (atL k day l) q.host q.person q.state).1), .int .i64 0, .int .i64 0, .int .i64 0, .int .i64 0, .int .i64 0, .bool ((letterL (atL k day l) q.lang q.lot q.state).2), .bool ((atL k day l).any (mournB q.state)), .bool (deadB (atL k day l) q.person), .bool ((recogL (atL k day l) q.host q.state).2), .bool ((classL (atL k day l) q.host q.person q.state).2), .bool false, .bool false] 69 (0, 0)), (g8, .cells #[.slice none 0 0, .slice none 0 0, .slice none 0 0, .slice none 0 0, .slice none 0 0, .string ⟨#[]⟩, .int .i64 0, .int .i64 0, .int .i64 0, .int .i64 0, .int .i64 0, .int .i64 0, .int .i64 0, .int .i64 0, .bool false, .bool false, .bool false, .bool false, .bool false, .bool false, .bool false] 69 (0, 0)), (g7, .cells q.cells.toArray 66 (0, 0))] := M.put 0 rfl h28
  clear keep h28
  refine ⟨_, M.cell 2 (i := 0) rfl rfl, ?_⟩
  refine ⟨_, M.cell 2 (i := 1) rfl rfl, ?_⟩
  refine (HoldsClass_spec (h.ext M.ext) hl k day q.person q.state).mono ?_
  rintro _ w29 ⟨rfl, e29⟩
  have B29 : w.heap.size ≤ w28.heap.size := M.ext.size
  have M := M.grow e29
  refine ⟨rfl, _, _, M.get 0 rfl, Nat.le_of_ble_eq_true rfl, rfl, ?_⟩
  intro w30 h30
  have h30 := put_eq h30 (o' := .cells #[.slice A4 (statesL (atL k day l)).length c4, .slice A6 (alphaL (atL k day l) q.lang q.lot).length c6, .slice A8 (livingL (atL k day l) 2 q.state q.cls).length c8, .slice A10 (livingL (atL k day l) 3 q.state q.cls).length c10, .slice A12 (contestedL (atL k day l)).length c12, .string (nameL (atL k day l) q.state q.lang), .int .i64 ((letterL (atL k day l) q.lang q.lot q.state).1), .int .i64 ((recogL (atL k day l) q.host q.state).1), .int .i64 ((classL (atL k day l) q.host q.person q.state).1), .int .i64 (leastL (atL k day l) q.person q.state), .int .i64 0, .int .i64 0, .int .i64 0, .int .i64 0, .bool ((letterL (atL k day l) q.lang q.lot q.state).2), .bool ((atL k day l).any (mournB q.state)), .bool (deadB (atL k day l) q.person), .bool ((recogL (atL k day l) q.host q.state).2), .bool ((classL (atL k day l) q.host q.person q.state).2), .bool false, .bool false] 69 (0, 0)) rfl
  have keep : ∀ {v : Value} {xs : List Int}, NewInts w.heap.size w28 v xs → NewInts w.heap.size w30 v xs := fun hh => keepInts e29 (M.get 0 rfl) h30 hh
  have ho4 := keep ho4
  have ho6 := keep ho6
  have ho8 := keep ho8
  have ho10 := keep ho10
  have ho12 := keep ho12
  have M : Mem w w30 [(g9, .cells #[.slice A4 (statesL (atL k day l)).length c4, .slice A6 (alphaL (atL k day l) q.lang q.lot).length c6, .slice A8 (livingL (atL k day l) 2 q.state q.cls).length c8, .slice A10 (livingL (atL k day l) 3 q.state q.cls).length c10, .slice A12 (contestedL (atL k day l)).length c12, .string (nameL (atL k day l) q.state q.lang), .int .i64 ((letterL (atL k day l) q.lang q.lot q.state).1), .int .i64 ((recogL (atL k day l) q.host q.state).1), .int .i64 ((classL (atL k day l) q.host q.person q.state).1), .int .i64 (leastL (atL k day l) q.person q.state), .int .i64 0, .int .i64 0, .int .i64 0, .int .i64 0, .bool ((letterL (atL k day l) q.lang q.lot q.state).2), .bool ((atL k day l).any (mournB q.state)), .bool (deadB (atL k day l) q.person), .bool ((recogL (atL k day l) q.host q.state).2), .bool ((classL (atL k day l) q.host q.person q.state).2), .bool false, .bool false] 69 (0, 0)), (g8, .cells #[.slice none 0 0, .slice none 0 0, .slice none 0 0, .slice none 0 0, .slice none 0 0, .string ⟨#[]⟩, .int .i64 0, .int .i64 0, .int .i64 0, .int .i64 0, .int .i64 0, .int .i64 0, .int .i64 0, .int .i64 0, .bool false, .bool false, .bool false, .bool false, .bool false, .bool false, .bool false] 69 (0, 0)), (g7, .cells q.cells.toArray 66 (0, 0))] := M.put 0 rfl h30
  clear keep h30
  refine ⟨_, M.cell 2 (i := 0) rfl rfl, ?_⟩
  refine ⟨_, M.cell 2 (i := 1) rfl rfl, ?_⟩
  refine (Credentials_spec (h.ext M.ext) hl k day q.person q.state).mono ?_
  rintro _ w31 ⟨rfl, e31⟩
  have B31 : w.heap.size ≤ w30.heap.size := M.ext.size
  have M := M.grow e31
  refine ⟨rfl, _, _, M.get 0 rfl, Nat.le_of_ble_eq_true rfl, rfl, ?_⟩
  intro w32 h32
  have h32 := put_eq h32 (o' := .cells #[.slice A4 (statesL (atL k day l)).length c4, .slice A6 (alphaL (atL k day l) q.lang q.lot).length c6, .slice A8 (livingL (atL k day l) 2 q.state q.cls).length c8, .slice A10 (livingL (atL k day l) 3 q.state q.cls).length c10, .slice A12 (contestedL (atL k day l)).length c12, .string (nameL (atL k day l) q.state q.lang), .int .i64 ((letterL (atL k day l) q.lang q.lot q.state).1), .int .i64 ((recogL (atL k day l) q.host q.state).1), .int .i64 ((classL (atL k day l) q.host q.person q.state).1), .int .i64 (leastL (atL k day l) q.person q.state), .int .i64 (credL (atL k day l) q.person q.state), .int .i64 0, .int .i64 0, .int .i64 0, .bool ((letterL (atL k day l) q.lang q.lot q.state).2), .bool ((atL k day l).any (mournB q.state)), .bool (deadB (atL k day l) q.person), .bool ((recogL (atL k day l) q.host q.state).2), .bool ((classL (atL k day l) q.host q.person q.state).2), .bool false, .bool false] 69 (0, 0)) rfl
  have keep : ∀ {v : Value} {xs : List Int}, NewInts w.heap.size w30 v xs → NewInts w.heap.size w32 v xs := fun hh => keepInts e31 (M.get 0 rfl) h32 hh
  have ho4 := keep ho4
  have ho6 := keep ho6
  have ho8 := keep ho8
  have ho10 := keep ho10
  have ho12 := keep ho12
  have M : Mem w w32 [(g9, .cells #[.slice A4 (statesL (atL k day l)).length c4, .slice A6 (alphaL (atL k day l) q.lang q.lot).length c6, .slice A8 (livingL (atL k day l) 2 q.state q.cls).length c8, .slice A10 (livingL (atL k day l) 3 q.state q.cls).length c10, .slice A12 (contestedL (atL k day l)).length c12, .string (nameL (atL k day l) q.state q.lang), .int .i64 ((letterL (atL k day l) q.lang q.lot q.state).1), .int .i64 ((recogL (atL k day l) q.host q.state).1), .int .i64 ((classL (atL k day l) q.host q.person q.state).1), .int .i64 (leastL (atL k day l) q.person q.state), .int .i64 (credL (atL k day l) q.person q.state), .int .i64 0, .int .i64 0, .int .i64 0, .bool ((letterL (atL k day l) q.lang q.lot q.state).2), .bool ((atL k day l).any (mournB q.state)), .bool (deadB (atL k day l) q.person), .bool ((recogL (atL k day l) q.host q.state).2), .bool ((classL (atL k day l) q.host q.person q.state).2), .bool false, .bool false] 69 (0, 0)), (g8, .cells #[.slice none 0 0, .slice none 0 0, .slice none 0 0, .slice none 0 0, .slice none 0 0, .string ⟨#[]⟩, .int .i64 0, .int .i64 0, .int .i64 0, .int .i64 0, .int .i64 0, .int .i64 0, .int .i64 0, .int .i64 0, .bool false, .bool false, .bool false, .bool false, .bool false, .bool false, .bool false] 69 (0, 0)), (g7, .cells q.cells.toArray 66 (0, 0))] := M.put 0 rfl h32
  clear keep h32
  refine ⟨_, M.cell 2 (i := 0) rfl rfl, ?_⟩
  refine ⟨_, M.cell 2 (i := 1) rfl rfl, ?_⟩
  refine (Visit_spec (h.ext M.ext) hl k day q.person q.state).mono ?_
  rintro _ w33 ⟨rfl, e33⟩
  have B33 : w.heap.size ≤ w32.heap.size := M.ext.size
  have M := M.grow e33
  refine ⟨rfl, _, _, M.get 0 rfl, Nat.le_of_ble_eq_true rfl, rfl, ?_⟩
  intro w34 h34
  have h34 := put_eq h34 (o' := .cells #[.slice A4 (statesL (atL k day l)).length c4, .slice A6 (alphaL (atL k day l) q.lang q.lot).length c6, .slice A8 (livingL (atL k day l) 2 q.state q.cls).length c8, .slice A10 (livingL (atL k day l) 3 q.state q.cls).length c10, .slice A12 (contestedL (atL k day l)).length c12, .string (nameL (atL k day l) q.state q.lang), .int .i64 ((letterL (atL k day l) q.lang q.lot q.state).1), .int .i64 ((recogL (atL k day l) q.host q.state).1), .int .i64 ((classL (atL k day l) q.host q.person q.state).1), .int .i64 (leastL (atL k day l) q.person q.state), .int .i64 (credL (atL k day l) q.person q.state), .int .i64 (visitL (atL k day l) q.person q.state), .int .i64 0, .int .i64 0, .bool ((letterL (atL k day l) q.lang q.lot q.state).2), .bool ((atL k day l).any (mournB q.state)), .bool (deadB (atL k day l) q.person), .bool ((recogL (atL k day l) q.host q.state).2), .bool ((classL (atL k day l) q.host q.person q.state).2), .bool false, .bool false] 69 (0, 0)) rfl
  have keep : ∀ {v : Value} {xs : List Int}, NewInts w.heap.size w32 v xs → NewInts w.heap.size w34 v xs := fun hh => keepInts e33 (M.get 0 rfl) h34 hh
  have ho4 := keep ho4
  have ho6 := keep ho6
  have ho8 := keep ho8
  have ho10 := keep ho10
  have ho12 := keep ho12
  have M : Mem w w34 [(g9, .cells #[.slice A4 (statesL (atL k day l)).length c4, .slice A6 (alphaL (atL k day l) q.lang q.lot).length c6, .slice A8 (livingL (atL k day l) 2 q.state q.cls).length c8, .slice A10 (livingL (atL k day l) 3 q.state q.cls).length c10, .slice A12 (contestedL (atL k day l)).length c12, .string (nameL (atL k day l) q.state q.lang), .int .i64 ((letterL (atL k day l) q.lang q.lot q.state).1), .int .i64 ((recogL (atL k day l) q.host q.state).1), .int .i64 ((classL (atL k day l) q.host q.person q.state).1), .int .i64 (leastL (atL k day l) q.person q.state), .int .i64 (credL (atL k day l) q.person q.state), .int .i64 (visitL (atL k day l) q.person q.state), .int .i64 0, .int .i64 0, .bool ((letterL (atL k day l) q.lang q.lot q.state).2), .bool ((atL k day l).any (mournB q.state)), .bool (deadB (atL k day l) q.person), .bool ((recogL (atL k day l) q.host q.state).2), .bool ((classL (atL k day l) q.host q.person q.state).2), .bool false, .bool false] 69 (0, 0)), (g8, .cells #[.slice none 0 0, .slice none 0 0, .slice none 0 0, .slice none 0 0, .slice none 0 0, .string ⟨#[]⟩, .int .i64 0, .int .i64 0, .int .i64 0, .int .i64 0, .int .i64 0, .int .i64 0, .int .i64 0, .int .i64 0, .bool false, .bool false, .bool false, .bool false, .bool false, .bool false, .bool false] 69 (0, 0)), (g7, .cells q.cells.toArray 66 (0, 0))] := M.put 0 rfl h34
  clear keep h34
  refine ⟨_, M.cell 2 (i := 0) rfl rfl, ?_⟩
  refine (Spouse_spec (h.ext M.ext) hl k day q.person).mono ?_
  rintro _ w35 ⟨rfl, e35⟩
  have B35 : w.heap.size ≤ w34.heap.size := M.ext.size
  have M := M.grow e35
  refine ⟨rfl, _, _, M.get 0 rfl, Nat.le_of_ble_eq_true rfl, rfl, ?_⟩
  intro w36 h36
  have h36 := put_eq h36 (o' := .cells #[.slice A4 (statesL (atL k day l)).length c4, .slice A6 (alphaL (atL k day l) q.lang q.lot).length c6, .slice A8 (livingL (atL k day l) 2 q.state q.cls).length c8, .slice A10 (livingL (atL k day l) 3 q.state q.cls).length c10, .slice A12 (contestedL (atL k day l)).length c12, .string (nameL (atL k day l) q.state q.lang), .int .i64 ((letterL (atL k day l) q.lang q.lot q.state).1), .int .i64 ((recogL (atL k day l) q.host q.state).1), .int .i64 ((classL (atL k day l) q.host q.person q.state).1), .int .i64 (leastL (atL k day l) q.person q.state), .int .i64 (credL (atL k day l) q.person q.state), .int .i64 (visitL (atL k day l) q.person q.state), .int .i64 ((spouseL (atL k day l) q.person).1), .int .i64 0, .bool ((letterL (atL k day l) q.lang q.lot q.state).2), .bool ((atL k day l).any (mournB q.state)), .bool (deadB (atL k day l) q.person), .bool ((recogL (atL k day l) q.host q.state).2), .bool ((classL (atL k day l) q.host q.person q.state).2), .bool false, .bool false] 69 (0, 0)) rfl
  have keep : ∀ {v : Value} {xs : List Int}, NewInts w.heap.size w34 v xs → NewInts w.heap.size w36 v xs := fun hh => keepInts e35 (M.get 0 rfl) h36 hh
  have ho4 := keep ho4
  have ho6 := keep ho6
  have ho8 := keep ho8
  have ho10 := keep ho10
  have ho12 := keep ho12
  have M : Mem w w36 [(g9, .cells #[.slice A4 (statesL (atL k day l)).length c4, .slice A6 (alphaL (atL k day l) q.lang q.lot).length c6, .slice A8 (livingL (atL k day l) 2 q.state q.cls).length c8, .slice A10 (livingL (atL k day l) 3 q.state q.cls).length c10, .slice A12 (contestedL (atL k day l)).length c12, .string (nameL (atL k day l) q.state q.lang), .int .i64 ((letterL (atL k day l) q.lang q.lot q.state).1), .int .i64 ((recogL (atL k day l) q.host q.state).1), .int .i64 ((classL (atL k day l) q.host q.person q.state).1), .int .i64 (leastL (atL k day l) q.person q.state), .int .i64 (credL (atL k day l) q.person q.state), .int .i64 (visitL (atL k day l) q.person q.state), .int .i64 ((spouseL (atL k day l) q.person).1), .int .i64 0, .bool ((letterL (atL k day l) q.lang q.lot q.state).2), .bool ((atL k day l).any (mournB q.state)), .bool (deadB (atL k day l) q.person), .bool ((recogL (atL k day l) q.host q.state).2), .bool ((classL (atL k day l) q.host q.person q.state).2), .bool false, .bool false] 69 (0, 0)), (g8, .cells #[.slice none 0 0, .slice none 0 0, .slice none 0 0, .slice none 0 0, .slice none 0 0, .string ⟨#[]⟩, .int .i64 0, .int .i64 0, .int .i64 0, .int .i64 0, .int .i64 0, .int .i64 0, .int .i64 0, .int .i64 0, .bool false, .bool false, .bool false, .bool false, .bool false, .bool false, .bool false] 69 (0, 0)), (g7, .cells q.cells.toArray 66 (0, 0))] := M.put 0 rfl h36
  clear keep h36
  refine ⟨rfl, _, _, M.get 0 rfl, Nat.le_of_ble_eq_true rfl, rfl, ?_⟩
  intro w37 h37
  have h37 := put_eq h37 (o' := .cells #[.slice A4 (statesL (atL k day l)).length c4, .slice A6 (alphaL (atL k day l) q.lang q.lot).length c6, .slice A8 (livingL (atL k day l) 2 q.state q.cls).length c8, .slice A10 (livingL (atL k day l) 3 q.state q.cls).length c10, .slice A12 (contestedL (atL k day l)).length c12, .string (nameL (atL k day l) q.state q.lang), .int .i64 ((letterL (atL k day l) q.lang q.lot q.state).1), .int .i64 ((recogL (atL k day l) q.host q.state).1), .int .i64 ((classL (atL k day l) q.host q.person q.state).1), .int .i64 (leastL (atL k day l) q.person q.state), .int .i64 (credL (atL k day l) q.person q.state), .int .i64 (visitL (atL k day l) q.person q.state), .int .i64 ((spouseL (atL k day l) q.person).1), .int .i64 0, .bool ((letterL (atL k day l) q.lang q.lot q.state).2), .bool ((atL k day l).any (mournB q.state)), .bool (deadB (atL k day l) q.person), .bool ((recogL (atL k day l) q.host q.state).2), .bool ((classL (atL k day l) q.host q.person q.state).2), .bool ((spouseL (atL k day l) q.person).2), .bool false] 69 (0, 0)) rfl
  have keep : ∀ {v : Value} {xs : List Int}, NewInts w.heap.size w36 v xs → NewInts w.heap.size w37 v xs := fun hh => keepInts (Ext.refl _) (M.get 0 rfl) h37 hh
  have ho4 := keep ho4
  have ho6 := keep ho6
  have ho8 := keep ho8
  have ho10 := keep ho10
  have ho12 := keep ho12
  have M : Mem w w37 [(g9, .cells #[.slice A4 (statesL (atL k day l)).length c4, .slice A6 (alphaL (atL k day l) q.lang q.lot).length c6, .slice A8 (livingL (atL k day l) 2 q.state q.cls).length c8, .slice A10 (livingL (atL k day l) 3 q.state q.cls).length c10, .slice A12 (contestedL (atL k day l)).length c12, .string (nameL (atL k day l) q.state q.lang), .int .i64 ((letterL (atL k day l) q.lang q.lot q.state).1), .int .i64 ((recogL (atL k day l) q.host q.state).1), .int .i64 ((classL (atL k day l) q.host q.person q.state).1), .int .i64 (leastL (atL k day l) q.person q.state), .int .i64 (credL (atL k day l) q.person q.state), .int .i64 (visitL (atL k day l) q.person q.state), .int .i64 ((spouseL (atL k day l) q.person).1), .int .i64 0, .bool ((letterL (atL k day l) q.lang q.lot q.state).2), .bool ((atL k day l).any (mournB q.state)), .bool (deadB (atL k day l) q.person), .bool ((recogL (atL k day l) q.host q.state).2), .bool ((classL (atL k day l) q.host q.person q.state).2), .bool ((spouseL (atL k day l) q.person).2), .bool false] 69 (0, 0)), (g8, .cells #[.slice none 0 0, .slice none 0 0, .slice none 0 0, .slice none 0 0, .slice none 0 0, .string ⟨#[]⟩, .int .i64 0, .int .i64 0, .int .i64 0, .int .i64 0, .int .i64 0, .int .i64 0, .int .i64 0, .int .i64 0, .bool false, .bool false, .bool false, .bool false, .bool false, .bool false, .bool false] 69 (0, 0)), (g7, .cells q.cells.toArray 66 (0, 0))] := M.put 0 rfl h37
  clear keep h37
  refine ⟨_, M.cell 2 (i := 0) rfl rfl, ?_⟩
  refine (Principal_spec (h.ext M.ext) hl k day q.person hq).mono ?_
  rintro _ w38 ⟨rfl, e38⟩
  have B38 : w.heap.size ≤ w37.heap.size := M.ext.size
  have M := M.grow e38
  refine ⟨rfl, _, _, M.get 0 rfl, Nat.le_of_ble_eq_true rfl, rfl, ?_⟩
  intro w39 h39
  have h39 := put_eq h39 (o' := .cells #[.slice A4 (statesL (atL k day l)).length c4, .slice A6 (alphaL (atL k day l) q.lang q.lot).length c6, .slice A8 (livingL (atL k day l) 2 q.state q.cls).length c8, .slice A10 (livingL (atL k day l) 3 q.state q.cls).length c10, .slice A12 (contestedL (atL k day l)).length c12, .string (nameL (atL k day l) q.state q.lang), .int .i64 ((letterL (atL k day l) q.lang q.lot q.state).1), .int .i64 ((recogL (atL k day l) q.host q.state).1), .int .i64 ((classL (atL k day l) q.host q.person q.state).1), .int .i64 (leastL (atL k day l) q.person q.state), .int .i64 (credL (atL k day l) q.person q.state), .int .i64 (visitL (atL k day l) q.person q.state), .int .i64 ((spouseL (atL k day l) q.person).1), .int .i64 ((princL (atL k day l) q.person).1), .bool ((letterL (atL k day l) q.lang q.lot q.state).2), .bool ((atL k day l).any (mournB q.state)), .bool (deadB (atL k day l) q.person), .bool ((recogL (atL k day l) q.host q.state).2), .bool ((classL (atL k day l) q.host q.person q.state).2), .bool ((spouseL (atL k day l) q.person).2), .bool false] 69 (0, 0)) rfl
  have keep : ∀ {v : Value} {xs : List Int}, NewInts w.heap.size w37 v xs → NewInts w.heap.size w39 v xs := fun hh => keepInts e38 (M.get 0 rfl) h39 hh
  have ho4 := keep ho4
  have ho6 := keep ho6
  have ho8 := keep ho8
  have ho10 := keep ho10
  have ho12 := keep ho12
  have M : Mem w w39 [(g9, .cells #[.slice A4 (statesL (atL k day l)).length c4, .slice A6 (alphaL (atL k day l) q.lang q.lot).length c6, .slice A8 (livingL (atL k day l) 2 q.state q.cls).length c8, .slice A10 (livingL (atL k day l) 3 q.state q.cls).length c10, .slice A12 (contestedL (atL k day l)).length c12, .string (nameL (atL k day l) q.state q.lang), .int .i64 ((letterL (atL k day l) q.lang q.lot q.state).1), .int .i64 ((recogL (atL k day l) q.host q.state).1), .int .i64 ((classL (atL k day l) q.host q.person q.state).1), .int .i64 (leastL (atL k day l) q.person q.state), .int .i64 (credL (atL k day l) q.person q.state), .int .i64 (visitL (atL k day l) q.person q.state), .int .i64 ((spouseL (atL k day l) q.person).1), .int .i64 ((princL (atL k day l) q.person).1), .bool ((letterL (atL k day l) q.lang q.lot q.state).2), .bool ((atL k day l).any (mournB q.state)), .bool (deadB (atL k day l) q.person), .bool ((recogL (atL k day l) q.host q.state).2), .bool ((classL (atL k day l) q.host q.person q.state).2), .bool ((spouseL (atL k day l) q.person).2), .bool false] 69 (0, 0)), (g8, .cells #[.slice none 0 0, .slice none 0 0, .slice none 0 0, .slice none 0 0, .slice none 0 0, .string ⟨#[]⟩, .int .i64 0, .int .i64 0, .int .i64 0, .int .i64 0, .int .i64 0, .int .i64 0, .int .i64 0, .int .i64 0, .bool false, .bool false, .bool false, .bool false, .bool false, .bool false, .bool false] 69 (0, 0)), (g7, .cells q.cells.toArray 66 (0, 0))] := M.put 0 rfl h39
  clear keep h39
  refine ⟨rfl, _, _, M.get 0 rfl, Nat.le_of_ble_eq_true rfl, rfl, ?_⟩
  intro w40 h40
  have h40 := put_eq h40 (o' := .cells #[.slice A4 (statesL (atL k day l)).length c4, .slice A6 (alphaL (atL k day l) q.lang q.lot).length c6, .slice A8 (livingL (atL k day l) 2 q.state q.cls).length c8, .slice A10 (livingL (atL k day l) 3 q.state q.cls).length c10, .slice A12 (contestedL (atL k day l)).length c12, .string (nameL (atL k day l) q.state q.lang), .int .i64 ((letterL (atL k day l) q.lang q.lot q.state).1), .int .i64 ((recogL (atL k day l) q.host q.state).1), .int .i64 ((classL (atL k day l) q.host q.person q.state).1), .int .i64 (leastL (atL k day l) q.person q.state), .int .i64 (credL (atL k day l) q.person q.state), .int .i64 (visitL (atL k day l) q.person q.state), .int .i64 ((spouseL (atL k day l) q.person).1), .int .i64 ((princL (atL k day l) q.person).1), .bool ((letterL (atL k day l) q.lang q.lot q.state).2), .bool ((atL k day l).any (mournB q.state)), .bool (deadB (atL k day l) q.person), .bool ((recogL (atL k day l) q.host q.state).2), .bool ((classL (atL k day l) q.host q.person q.state).2), .bool ((spouseL (atL k day l) q.person).2), .bool ((princL (atL k day l) q.person).2)] 69 (0, 0)) rfl
  have keep : ∀ {v : Value} {xs : List Int}, NewInts w.heap.size w39 v xs → NewInts w.heap.size w40 v xs := fun hh => keepInts (Ext.refl _) (M.get 0 rfl) h40 hh
  have ho4 := keep ho4
  have ho6 := keep ho6
  have ho8 := keep ho8
  have ho10 := keep ho10
  have ho12 := keep ho12
  have M : Mem w w40 [(g9, .cells #[.slice A4 (statesL (atL k day l)).length c4, .slice A6 (alphaL (atL k day l) q.lang q.lot).length c6, .slice A8 (livingL (atL k day l) 2 q.state q.cls).length c8, .slice A10 (livingL (atL k day l) 3 q.state q.cls).length c10, .slice A12 (contestedL (atL k day l)).length c12, .string (nameL (atL k day l) q.state q.lang), .int .i64 ((letterL (atL k day l) q.lang q.lot q.state).1), .int .i64 ((recogL (atL k day l) q.host q.state).1), .int .i64 ((classL (atL k day l) q.host q.person q.state).1), .int .i64 (leastL (atL k day l) q.person q.state), .int .i64 (credL (atL k day l) q.person q.state), .int .i64 (visitL (atL k day l) q.person q.state), .int .i64 ((spouseL (atL k day l) q.person).1), .int .i64 ((princL (atL k day l) q.person).1), .bool ((letterL (atL k day l) q.lang q.lot q.state).2), .bool ((atL k day l).any (mournB q.state)), .bool (deadB (atL k day l) q.person), .bool ((recogL (atL k day l) q.host q.state).2), .bool ((classL (atL k day l) q.host q.person q.state).2), .bool ((spouseL (atL k day l) q.person).2), .bool ((princL (atL k day l) q.person).2)] 69 (0, 0)), (g8, .cells #[.slice none 0 0, .slice none 0 0, .slice none 0 0, .slice none 0 0, .slice none 0 0, .string ⟨#[]⟩, .int .i64 0, .int .i64 0, .int .i64 0, .int .i64 0, .int .i64 0, .int .i64 0, .int .i64 0, .int .i64 0, .bool false, .bool false, .bool false, .bool false, .bool false, .bool false, .bool false] 69 (0, 0)), (g7, .cells q.cells.toArray 66 (0, 0))] := M.put 0 rfl h40
  clear keep h40
  refine ⟨[.slice A4 (statesL (atL k day l)).length c4, .slice A6 (alphaL (atL k day l) q.lang q.lot).length c6, .slice A8 (livingL (atL k day l) 2 q.state q.cls).length c8, .slice A10 (livingL (atL k day l) 3 q.state q.cls).length c10, .slice A12 (contestedL (atL k day l)).length c12, .string (nameL (atL k day l) q.state q.lang), .int .i64 ((letterL (atL k day l) q.lang q.lot q.state).1), .int .i64 ((recogL (atL k day l) q.host q.state).1), .int .i64 ((classL (atL k day l) q.host q.person q.state).1), .int .i64 (leastL (atL k day l) q.person q.state), .int .i64 (credL (atL k day l) q.person q.state), .int .i64 (visitL (atL k day l) q.person q.state), .int .i64 ((spouseL (atL k day l) q.person).1), .int .i64 ((princL (atL k day l) q.person).1), .bool ((letterL (atL k day l) q.lang q.lot q.state).2), .bool ((atL k day l).any (mournB q.state)), .bool (deadB (atL k day l) q.person), .bool ((recogL (atL k day l) q.host q.state).2), .bool ((classL (atL k day l) q.host q.person q.state).2), .bool ((spouseL (atL k day l) q.person).2), .bool ((princL (atL k day l) q.person).2)], rfl, M.rd 0 rfl, ?_⟩
  refine ⟨rfl, _, _, M.get 1 rfl, Nat.le_of_ble_eq_true rfl, rfl, ?_⟩
  intro w41 h41
  have h41 := put_eq h41 (o' := .cells #[.slice A4 (statesL (atL k day l)).length c4, .slice A6 (alphaL (atL k day l) q.lang q.lot).length c6, .slice A8 (livingL (atL k day l) 2 q.state q.cls).length c8, .slice A10 (livingL (atL k day l) 3 q.state q.cls).length c10, .slice A12 (contestedL (atL k day l)).length c12, .string (nameL (atL k day l) q.state q.lang), .int .i64 ((letterL (atL k day l) q.lang q.lot q.state).1), .int .i64 ((recogL (atL k day l) q.host q.state).1), .int .i64 ((classL (atL k day l) q.host q.person q.state).1), .int .i64 (leastL (atL k day l) q.person q.state), .int .i64 (credL (atL k day l) q.person q.state), .int .i64 (visitL (atL k day l) q.person q.state), .int .i64 ((spouseL (atL k day l) q.person).1), .int .i64 ((princL (atL k day l) q.person).1), .bool ((letterL (atL k day l) q.lang q.lot q.state).2), .bool ((atL k day l).any (mournB q.state)), .bool (deadB (atL k day l) q.person), .bool ((recogL (atL k day l) q.host q.state).2), .bool ((classL (atL k day l) q.host q.person q.state).2), .bool ((spouseL (atL k day l) q.person).2), .bool ((princL (atL k day l) q.person).2)] 69 (0, 0)) rfl
  have ho4 := keepInts (Ext.refl _) (M.get 1 rfl) h41 ho4
  have ho6 := keepInts (Ext.refl _) (M.get 1 rfl) h41 ho6
  have ho8 := keepInts (Ext.refl _) (M.get 1 rfl) h41 ho8
  have ho10 := keepInts (Ext.refl _) (M.get 1 rfl) h41 ho10
  have ho12 := keepInts (Ext.refl _) (M.get 1 rfl) h41 ho12
  have M := M.put 1 rfl h41
  refine ⟨[.slice A4 (statesL (atL k day l)).length c4, .slice A6 (alphaL (atL k day l) q.lang q.lot).length c6, .slice A8 (livingL (atL k day l) 2 q.state q.cls).length c8, .slice A10 (livingL (atL k day l) 3 q.state q.cls).length c10, .slice A12 (contestedL (atL k day l)).length c12, .string (nameL (atL k day l) q.state q.lang), .int .i64 ((letterL (atL k day l) q.lang q.lot q.state).1), .int .i64 ((recogL (atL k day l) q.host q.state).1), .int .i64 ((classL (atL k day l) q.host q.person q.state).1), .int .i64 (leastL (atL k day l) q.person q.state), .int .i64 (credL (atL k day l) q.person q.state), .int .i64 (visitL (atL k day l) q.person q.state), .int .i64 ((spouseL (atL k day l) q.person).1), .int .i64 ((princL (atL k day l) q.person).1), .bool ((letterL (atL k day l) q.lang q.lot q.state).2), .bool ((atL k day l).any (mournB q.state)), .bool (deadB (atL k day l) q.person), .bool ((recogL (atL k day l) q.host q.state).2), .bool ((classL (atL k day l) q.host q.person q.state).2), .bool ((spouseL (atL k day l) q.person).2), .bool ((princL (atL k day l) q.person).2)], by kernel_rfl, M.rd 1 rfl, ?_⟩
  exact ⟨⟨_, _, _, _, _, rfl, ho4, ho6, ho8, ho10, ho12⟩, M.ext⟩

set_option maxRecDepth 100000 in
theorem has_spec {w : World} {A : Option Addr} {xs : List Int} {c : Nat} (hr : Reads w A (ints xs)) (hl : xs.length ≤ 2 ^ 40) (n : Int) :
    CallsV C.P 72 #[.slice A xs.length c, .int .i64 n] w fun v w' => v = .bool (decide (n ∈ xs)) ∧ Ext w w' := by
  refine callsV_of C_ok (args := [_, _]) (plans := []) Tryz.func72 rfl Tryz.ntmps72 (by kernel_rfl) (Nat.le_of_ble_eq_true rfl) ?_
  refine loopE C_ok (fun (i : Nat) => [(1, .int .i64 n), (7, .slice A xs.length c), (8, .int .i64 xs.length), (9, .int .i64 i)])
    (fun i w' => w' = w ∧ i ≤ xs.length ∧ n ∉ xs.take i) (fun i => xs.length - i) 0 ⟨rfl, rfl, rfl, rfl, trivial⟩ ⟨rfl, Nat.zero_le _, by simp⟩ ?_
  rintro i w1 ⟨rfl, hi, hn⟩
  refine brE_dec (fun hlt2 => ?_) (fun hge => ?_)
  · have hlt : i < xs.length := by have : (i : Int) < (xs.length : Nat) := hlt2; omega
    obtain ⟨b, o, hA, hc⟩ := Reads.int hr hlt
    refine ⟨i, b, o, rfl, hlt, hA, ?_⟩
    refine ⟨_, by simpa using hc, ?_⟩
    refine brE_dec (fun he => ?_) (fun he => ?_)
    · have he : xs[i] = n := he
      exact ⟨by rw [decide_eq_true (by rw [← he]; exact List.getElem_mem hlt)], Ext.refl _⟩
    · have he : ¬ xs[i] = n := he
      refine ⟨((i + 1 : Nat) : Int), fit ⟨by omega, by omega⟩, ?_⟩
      refine ⟨i + 1, ⟨rfl, rfl, rfl, rfl, trivial⟩, ⟨rfl, hlt, ?_⟩, by omega⟩
      rw [List.take_succ_eq_append_getElem hlt]
      intro hm
      rcases List.mem_append.1 hm with hm | hm
      · exact hn hm
      · exact he (List.mem_singleton.1 hm).symm
  · have : i = xs.length := by have : ¬ (i : Int) < (xs.length : Nat) := hge; omega
    rw [this, List.take_length] at hn
    exact ⟨by rw [decide_eq_false hn], Ext.refl _⟩

set_option maxRecDepth 100000 in
set_option maxHeartbeats 4000000 in
/-- Equal answers are found equal. -/
theorem same_spec {w : World} {a : Ans} {B D : Nat} {v u : Value} (hv : AnsIs B w v a) (hu : AnsIs D w u a) :
    CallsV C.P 79 #[v, u] w fun r w' => r = .bool true ∧ Ext w w' := by
  obtain ⟨v1, v2, v3, v4, v5, rfl, h1, h2, h3, h4, h5⟩ := hv
  obtain ⟨u1, u2, u3, u4, u5, rfl, k1, k2, k3, k4, k5⟩ := hu
  refine callsV_of C_ok (args := [_, _]) (plans := []) Tryz.func79 rfl Tryz.ntmps79 (by kernel_rfl) (Nat.le_of_ble_eq_true rfl) ?_
  intro g2 w1 e1
  intro g3 w2 e2
  have M := ((Mem.start w).alloc e1).alloc e2
  obtain ⟨A0, c0, rfl, a0, _⟩ := NewInts.slice h1
  obtain ⟨B0, d0, rfl, b0, _⟩ := NewInts.slice k1
  have L0 : _ ≤ 9223372036854775807 := ownsRow_len h1
  refine ⟨_, M.cell 1 (i := 0) rfl rfl, ?_⟩
  refine ⟨_, M.cell 0 (i := 0) rfl rfl, ?_⟩
  have s := SameInts_spec (c := c0) (d := d0) (a0.ext M.ext) (b0.ext M.ext) L0
  rw [decide_eq_true rfl] at s
  refine s.mono ?_
  rintro _ w3 ⟨rfl, rfl⟩
  obtain ⟨A1, c1, rfl, a1, _⟩ := NewInts.slice h2
  obtain ⟨B1, d1, rfl, b1, _⟩ := NewInts.slice k2
  have L1 : _ ≤ 9223372036854775807 := ownsRow_len h2
  refine ⟨_, M.cell 1 (i := 1) rfl rfl, ?_⟩
  refine ⟨_, M.cell 0 (i := 1) rfl rfl, ?_⟩
  have s := SameInts_spec (c := c1) (d := d1) (a1.ext M.ext) (b1.ext M.ext) L1
  rw [decide_eq_true rfl] at s
  refine s.mono ?_
  rintro _ w4 ⟨rfl, rfl⟩
  obtain ⟨A2, c2, rfl, a2, _⟩ := NewInts.slice h3
  obtain ⟨B2, d2, rfl, b2, _⟩ := NewInts.slice k3
  have L2 : _ ≤ 9223372036854775807 := ownsRow_len h3
  refine ⟨_, M.cell 1 (i := 2) rfl rfl, ?_⟩
  refine ⟨_, M.cell 0 (i := 2) rfl rfl, ?_⟩
  have s := SameInts_spec (c := c2) (d := d2) (a2.ext M.ext) (b2.ext M.ext) L2
  rw [decide_eq_true rfl] at s
  refine s.mono ?_
  rintro _ w5 ⟨rfl, rfl⟩
  obtain ⟨A3, c3, rfl, a3, _⟩ := NewInts.slice h4
  obtain ⟨B3, d3, rfl, b3, _⟩ := NewInts.slice k4
  have L3 : _ ≤ 9223372036854775807 := ownsRow_len h4
  refine ⟨_, M.cell 1 (i := 3) rfl rfl, ?_⟩
  refine ⟨_, M.cell 0 (i := 3) rfl rfl, ?_⟩
  have s := SameInts_spec (c := c3) (d := d3) (a3.ext M.ext) (b3.ext M.ext) L3
  rw [decide_eq_true rfl] at s
  refine s.mono ?_
  rintro _ w6 ⟨rfl, rfl⟩
  obtain ⟨A4, c4, rfl, a4, _⟩ := NewInts.slice h5
  obtain ⟨B4, d4, rfl, b4, _⟩ := NewInts.slice k5
  have L4 : _ ≤ 9223372036854775807 := ownsRow_len h5
  refine ⟨_, M.cell 1 (i := 4) rfl rfl, ?_⟩
  refine ⟨_, M.cell 0 (i := 4) rfl rfl, ?_⟩
  have s := SameInts_spec (c := c4) (d := d4) (a4.ext M.ext) (b4.ext M.ext) L4
  rw [decide_eq_true rfl] at s
  refine s.mono ?_
  rintro _ w7 ⟨rfl, rfl⟩
  refine ⟨_, M.cell 1 (i := 6) rfl rfl, ?_⟩
  refine ⟨_, M.cell 0 (i := 6) rfl rfl, ?_⟩
  refine brE_true (by simp) ?_
  refine ⟨_, M.cell 1 (i := 7) rfl rfl, ?_⟩
  refine ⟨_, M.cell 0 (i := 7) rfl rfl, ?_⟩
  refine brE_true (by simp) ?_
  refine ⟨_, M.cell 1 (i := 8) rfl rfl, ?_⟩
  refine ⟨_, M.cell 0 (i := 8) rfl rfl, ?_⟩
  refine brE_true (by simp) ?_
  refine ⟨_, M.cell 1 (i := 9) rfl rfl, ?_⟩
  refine ⟨_, M.cell 0 (i := 9) rfl rfl, ?_⟩
  refine brE_true (by simp) ?_
  refine ⟨_, M.cell 1 (i := 10) rfl rfl, ?_⟩
  refine ⟨_, M.cell 0 (i := 10) rfl rfl, ?_⟩
  refine brE_true (by simp) ?_
  refine ⟨_, M.cell 1 (i := 11) rfl rfl, ?_⟩
  refine ⟨_, M.cell 0 (i := 11) rfl rfl, ?_⟩
  refine brE_true (by simp) ?_
  refine ⟨_, M.cell 1 (i := 12) rfl rfl, ?_⟩
  refine ⟨_, M.cell 0 (i := 12) rfl rfl, ?_⟩
  refine brE_true (by simp) ?_
  refine ⟨_, M.cell 1 (i := 13) rfl rfl, ?_⟩
  refine ⟨_, M.cell 0 (i := 13) rfl rfl, ?_⟩
  refine brE_true (by simp) ?_
  refine ⟨_, M.cell 1 (i := 5) rfl rfl, ?_⟩
  refine ⟨_, M.cell 0 (i := 5) rfl rfl, ?_⟩
  refine ⟨_, eqStr _ _ _ _, ?_⟩
  refine brE_true (by simp) ?_
  refine ⟨_, M.cell 1 (i := 14) rfl rfl, ?_⟩
  refine ⟨_, M.cell 0 (i := 14) rfl rfl, ?_⟩
  refine ⟨_, eqBool _ _ _ _, ?_⟩
  refine brE_true (by simp) ?_
  refine ⟨_, M.cell 1 (i := 15) rfl rfl, ?_⟩
  refine ⟨_, M.cell 0 (i := 15) rfl rfl, ?_⟩
  refine ⟨_, eqBool _ _ _ _, ?_⟩
  refine brE_true (by simp) ?_
  refine ⟨_, M.cell 1 (i := 16) rfl rfl, ?_⟩
  refine ⟨_, M.cell 0 (i := 16) rfl rfl, ?_⟩
  refine ⟨_, eqBool _ _ _ _, ?_⟩
  refine brE_true (by simp) ?_
  refine ⟨_, M.cell 1 (i := 17) rfl rfl, ?_⟩
  refine ⟨_, M.cell 0 (i := 17) rfl rfl, ?_⟩
  refine ⟨_, eqBool _ _ _ _, ?_⟩
  refine brE_true (by simp) ?_
  refine ⟨_, M.cell 1 (i := 18) rfl rfl, ?_⟩
  refine ⟨_, M.cell 0 (i := 18) rfl rfl, ?_⟩
  refine ⟨_, eqBool _ _ _ _, ?_⟩
  refine brE_true (by simp) ?_
  refine ⟨_, M.cell 1 (i := 19) rfl rfl, ?_⟩
  refine ⟨_, M.cell 0 (i := 19) rfl rfl, ?_⟩
  refine ⟨_, eqBool _ _ _ _, ?_⟩
  refine brE_true (by simp) ?_
  refine ⟨_, M.cell 1 (i := 20) rfl rfl, ?_⟩
  refine ⟨_, M.cell 0 (i := 20) rfl rfl, ?_⟩
  exact ⟨_, eqBool _ _ _ _, by simp, M.ext⟩

end Go.Proofs.YthpdkdmbfdmamaaGreatDoor

namespace Go.Proofs.YthpdkdmbfdmamaaGreatDoor
open Go.Eng Go.RowKit

theorem oneF (l : List Fact) : (fcells l).all (·.oneCell') = true := by
  rw [List.all_eq_true]
  intro v hv
  obtain ⟨x, _, hx⟩ := List.mem_flatMap.1 hv
  simp [Fact.cells] at hx
  rcases hx with rfl | rfl | rfl | rfl | rfl | rfl | rfl | rfl | rfl <;> rfl
theorem someF {w : World} {A : Option Addr} {l : List Fact} (h : Reads w A (fcells l)) : (A.isSome || Nat.beq l.length 0) = true := by
  cases A with
  | some a => rfl
  | none =>
    rcases h with h | ⟨b, o, hA, _⟩
    · have := congrArg List.length h
      rw [fcells_length] at this
      have : l.length * 9 = 0 := this
      have hl : l = [] := List.length_eq_zero_iff.1 (by omega)
      subst hl; rfl
    · cases hA
theorem nums_append {a b : List Fact} (ha : ∀ x ∈ a, x.Nums) (hb : ∀ x ∈ b, x.Nums) : ∀ x ∈ a ++ b, x.Nums := fun x hx => by
  rcases List.mem_append.1 hx with h | h
  · exact ha x h
  · exact hb x h

/-- Facts that are entered later, picked out one by one. -/
def laterL (k : Int) (l : List Fact) : List Fact := l.filter fun x => decide (k < x.known)
theorem laterL_known {k : Int} {l : List Fact} : ∀ x ∈ laterL k l, k < x.known := fun x hx => of_decide_eq_true (List.mem_filter.1 hx).2
theorem laterL_step {k : Int} {l : List Fact} {i : Nat} (hi : i < l.length) : laterL k (l.take (i + 1)) = laterL k (l.take i) ++ if k < l[i].known then [l[i]] else [] := by
  unfold laterL
  rw [List.take_succ_eq_append_getElem hi, List.filter_append, List.filter_cons, List.filter_nil]
  congr 1
  by_cases h : k < l[i].known
  · rw [if_pos (decide_eq_true h), if_pos h]
  · rw [if_neg (by simpa using h), if_neg h]

end Go.Proofs.YthpdkdmbfdmamaaGreatDoor

namespace Go.Proofs.YthpdkdmbfdmamaaGreatDoor
open Go.Eng Go.RowKit

theorem behind_zero {l : List Fact} {x : Fact} (h : behindE l x = 0) : formE x = 0 ∧ l.length < 300 ∧ l.getLast?.any (fun y => decide (x.known < y.known)) = false ∧ idIn l x.id = false ∧ (speaks x).all (namedIn l) = true ∧ ¬ (x.kind = 11 ∧ idIn l x.what = false) ∧ ¬ (x.kind = 1 ∧ namedIn l x.who = false ∧ 200 ≤ statesN l) := by
  unfold behindE at h
  split at h
  · rename_i h0; exact absurd h h0
  rename_i h0
  split at h
  · cases h
  rename_i h1
  split at h
  · cases h
  rename_i h2
  split at h
  · cases h
  rename_i h3
  split at h
  · cases h
  rename_i h4
  split at h
  · cases h
  rename_i h5
  split at h
  · cases h
  rename_i h6
  exact ⟨Decidable.not_not.1 h0, by omega, by simpa using h2, by simpa using h3, by simpa using h4, h5, h6⟩

theorem behind_mk {l : List Fact} {x : Fact} (h0 : formE x = 0) (h1 : l.length < 300) (h2 : l.getLast?.any (fun y => decide (x.known < y.known)) = false) (h3 : idIn l x.id = false) (h4 : (speaks x).all (namedIn l) = true) (h5 : ¬ (x.kind = 11 ∧ idIn l x.what = false)) (h6 : ¬ (x.kind = 1 ∧ namedIn l x.who = false ∧ 200 ≤ statesN l)) : behindE l x = 0 := by
  unfold behindE
  rw [if_neg (by simpa using h0), if_neg (by omega), if_neg (by simpa using h2), if_neg (by simpa using h3), if_neg (by simpa using h4), if_neg h5, if_neg h6]

theorem chkG_cons {seen : List Fact} {x : Fact} {r : List Fact} : (chkG seen (x :: r)).2 = 0 ↔ behindE seen x = 0 ∧ (chkG (seen ++ [x]) r).2 = 0 := by
  constructor
  · intro h
    unfold chkG at h
    split at h
    · rename_i hb; exact absurd h hb
    · rename_i hb; exact ⟨Decidable.not_not.1 hb, h⟩
  · rintro ⟨h1, h2⟩
    unfold chkG
    rw [if_neg (fun hb => hb h1)]; exact h2
theorem chkG_app : ∀ (l r seen : List Fact), (chkG seen (l ++ r)).2 = 0 ↔ (chkG seen l).2 = 0 ∧ (chkG (seen ++ l) r).2 = 0
  | [], r, seen => by simp [chkG]
  | x :: l, r, seen => by
    rw [List.cons_append, chkG_cons, chkG_cons, chkG_app l r, List.append_assoc, and_assoc]; rfl
theorem chk_snoc {l : List Fact} {x : Fact} : (chkF (l ++ [x])).2 = 0 ↔ (chkF l).2 = 0 ∧ behindE l x = 0 := by
  unfold chkF
  rw [chkG_app, chkG_cons, List.nil_append]
  simp [chkG]

theorem chkG_ids : ∀ (l seen : List Fact), seen.Pairwise (fun a b => a.id ≠ b.id) → (chkG seen l).2 = 0 → (seen ++ l).Pairwise fun a b => a.id ≠ b.id
  | [], seen, hs, _ => by rw [List.append_nil]; exact hs
  | x :: r, seen, hs, h => by
    obtain ⟨hb, h⟩ := chkG_cons.1 h
    have hid := (behind_zero hb).2.2.2.1
    have := chkG_ids r (seen ++ [x]) (List.pairwise_append.2 ⟨hs, List.pairwise_singleton _ _, fun a ha b hb' => ?_⟩) h
    · rw [List.append_assoc] at this; exact this
    · rw [List.mem_singleton.1 hb']
      have := List.any_eq_false.1 hid a ha
      simpa using this
theorem chkG_known : ∀ (l seen : List Fact), seen.Pairwise (fun a b => a.known ≤ b.known) → (chkG seen l).2 = 0 → (seen ++ l).Pairwise fun a b => a.known ≤ b.known
  | [], seen, hs, _ => by rw [List.append_nil]; exact hs
  | x :: r, seen, hs, h => by
    obtain ⟨hb, h⟩ := chkG_cons.1 h
    have hk := (behind_zero hb).2.2.1
    have := chkG_known r (seen ++ [x]) (List.pairwise_append.2 ⟨hs, List.pairwise_singleton _ _, fun a ha b hb' => ?_⟩) h
    · rw [List.append_assoc] at this; exact this
    · rw [List.mem_singleton.1 hb']
      rcases List.eq_nil_or_concat seen with rfl | ⟨s, y, rfl⟩
      · cases ha
      · rw [List.concat_eq_append] at *
        rw [List.getLast?_append] at hk
        have hy : y.known ≤ x.known := by simpa using hk
        rcases List.mem_append.1 ha with ha | ha
        · exact Int.le_trans ((List.pairwise_append.1 hs).2.2 a ha y (by simp)) hy
        · rw [List.mem_singleton.1 ha]; exact hy
theorem valid_ids {l : List Fact} (h : (chkF l).2 = 0) : l.Pairwise fun a b => a.id ≠ b.id := chkG_ids l [] List.Pairwise.nil h
theorem valid_known {l : List Fact} (h : (chkF l).2 = 0) : l.Pairwise fun a b => a.known ≤ b.known := chkG_known l [] List.Pairwise.nil h

/-- A list without the fact at a place. -/
def wo (l : List Fact) (i : Nat) : List Fact := l.take i ++ l.drop (i + 1)
theorem filter_id {l : List Fact} (hp : l.Pairwise fun a b => a.id ≠ b.id) {i : Nat} (hi : i < l.length) : l.filter (fun x => !decide (x.id = l[i].id)) = wo l i := by
  have hl : l = l.take i ++ l[i] :: l.drop (i + 1) := by rw [← List.drop_eq_getElem_cons hi, List.take_append_drop]
  generalize l[i] = y at hl
  unfold wo
  generalize l.take i = a at hl
  generalize l.drop (i + 1) = b at hl
  subst hl
  obtain ⟨_, h2, h3⟩ := List.pairwise_append.1 hp
  obtain ⟨h4, _⟩ := List.pairwise_cons.1 h2
  rw [List.filter_append, List.filter_cons, if_neg (by simp)]
  congr 1
  · rw [List.filter_eq_self]
    intro x hx
    simpa using h3 x hx y (by simp)
  · rw [List.filter_eq_self]
    intro x hx
    have := h4 x hx
    simpa using fun e : x.id = y.id => this e.symm
theorem wo_last {l : List Fact} {v : Fact} : wo (l ++ [v]) l.length = l := by
  unfold wo
  rw [List.take_left', List.drop_eq_nil_of_le (by simp), List.append_nil]
  rfl

/-- A void that is entered now: all is known then. -/
theorem valid_now {l : List Fact} {v : Fact} (h : (chkF (l ++ [v])).2 = 0) : ∀ x ∈ l, x.known ≤ v.known := fun x hx =>
  (List.pairwise_append.1 (valid_known h)).2.2 x hx v (by simp)
theorem void_once {k : Int} {l : List Fact} {v : Fact} {i : Nat} (h : (chkF (l ++ [v])).2 = 0) (hi : i < l.length) (h11 : v.kind = 11) (hw : v.what = l[i].id) (hk : v.known = k) :
    countL k (l ++ [v]) = countL k (wo l i) ++ [v] := by
  rw [count_void (fun x hx => by rw [← hk]; exact valid_now h x hx) (by omega) h11, hw, filter_id (List.pairwise_append.1 (valid_ids h)).1 hi]
theorem void_twice {k : Int} {l : List Fact} {v u : Fact} (h : (chkF ((l ++ [v]) ++ [u])).2 = 0) (h11 : u.kind = 11) (hw : u.what = v.id) (hk : u.known = k) :
    countL k ((l ++ [v]) ++ [u]) = countL k l ++ [u] := by
  have hi : l.length < (l ++ [v]).length := by simp
  rw [void_once (i := l.length) h hi h11 (by rw [hw]; simp) hk, wo_last]

/-- The void of a fact. -/
def voidF (n id k : Int) : Fact := ⟨id, k, 11, 0, n, 0, 0, 0, ⟨#[]⟩⟩

end Go.Proofs.YthpdkdmbfdmamaaGreatDoor

namespace Go.Proofs.YthpdkdmbfdmamaaGreatDoor
open Go.Eng Go.RowKit

theorem Reads.back {w : World} {A : Option Addr} {l : List Fact} {c i : Nat} (h : Reads w A (fcells l)) (hi : i ≤ l.length) (hc : l.length ≤ c) : Reads w (if c = i then A else A.map (·.add (i * 9))) (fcells (l.drop i)) := by
  by_cases hci : c = i
  · rw [if_pos hci]
    left
    rw [List.drop_eq_nil_of_le (by omega)]; rfl
  rw [if_neg hci]
  rcases h with h | ⟨b, o, hA, hr⟩
  · left
    have := congrArg List.length h
    rw [fcells_length] at this
    have : l.length * 9 = 0 := this
    have : l = [] := List.length_eq_zero_iff.1 (by omega)
    subst this; simp [fcells]
  · refine .inr ⟨b, o + i * 9, by rw [hA]; show some (Addr.add ⟨b, o, none⟩ (i * 9)) = some _; rw [add_spot], fun j v hv => ?_⟩
    have e : fcells l = fcells (l.take i) ++ fcells (l.drop i) := by rw [← fcells_append, List.take_append_drop]
    have hlen : (fcells (l.take i)).length = i * 9 := by rw [fcells_length, List.length_take, Nat.min_eq_left hi]
    have := hr (i * 9 + j) v (by rw [e, List.getElem?_append_right (by omega), hlen, Nat.add_sub_cancel_left]; exact hv)
    rw [Nat.add_assoc]; exact this

/-- What voids returns: nothing, or the void and the list with it. -/
def VoidsR (B : Nat) (w : World) (l : List Fact) (which id k : Int) (v : Value) : Prop :=
  (∃ x : Fact, ∃ r, v = .tuple #[x.val, r, .bool false]) ∨
  (∃ i : Nat, ∃ hi : i < l.length, which = i ∧ (chkF (l ++ [voidF l[i].id id k])).2 = 0 ∧ ∃ r, v = .tuple #[(voidF l[i].id id k).val, r, .bool true] ∧ NewF B w r (l ++ [voidF l[i].id id k]))

set_option maxRecDepth 100000 in
theorem voids_spec {w : World} {A : Option Addr} {l : List Fact} {c : Nat} (h : HF w A l c) (hl : l.length ≤ 2 ^ 19) {which id k : Int} (hid : In64 id) (hk : In64 k) :
    CallsV C.P 43 #[.slice A l.length c, .int .i64 which, .int .i64 id, .int .i64 k] w fun v w' => VoidsR w.heap.size w' l which id k v ∧ Ext w w' := by
  refine callsV_of C_ok (args := [_, _, _, _]) (plans := []) Tryz.func43 rfl Tryz.ntmps43 (by kernel_rfl) (Nat.le_of_ble_eq_true rfl) ?_
  have hcap := h.cap
  intro g8 w1 h1
  have M1 : Mem w w1 [(g8, .cells factZ.cells.toArray 29 (0, 0))] := (Mem.start w).alloc h1
  have bad : ∀ {w1 w2 : World} {o : Obj}, Mem w w1 [(g8, o)] → Put w1 g8 (.cells factZ.cells.toArray 29 (0, 0)) w2 → Mem w w2 [(g8, .cells factZ.cells.toArray 29 (0, 0))] := fun M p => M.put 0 rfl p
  refine brE_dec (fun hlo => ?_) (fun hlo => ?_)
  · refine ⟨rfl, _, _, M1.get 0 rfl, Nat.le_of_ble_eq_true rfl, rfl, ?_⟩
    intro w2 h2
    have M2 := bad M1 h2
    refine ⟨factZ.cells, by kernel_rfl, M2.rd 0 rfl, ?_⟩
    exact ⟨.inl ⟨factZ, _, rfl⟩, M2.ext⟩
  have hlo : ¬ which < 0 := hlo
  refine brE_dec (fun hhi => ?_) (fun hhi => ?_)
  · refine ⟨rfl, _, _, M1.get 0 rfl, Nat.le_of_ble_eq_true rfl, rfl, ?_⟩
    intro w2 h2
    have M2 := bad M1 h2
    refine ⟨factZ.cells, by kernel_rfl, M2.rd 0 rfl, ?_⟩
    exact ⟨.inl ⟨factZ, _, rfl⟩, M2.ext⟩
  have hhi : ¬ which ≥ (l.length : Nat) := hhi
  obtain ⟨i, rfl⟩ : ∃ i : Nat, which = i := ⟨which.toNat, by omega⟩
  have hi : i < l.length := by omega
  have hx := h.nums _ (List.getElem_mem hi)
  have z64 : In64 0 := ⟨by decide, by decide⟩
  have hv : (voidF l[i].id id k).Nums := ⟨hid, hk, ⟨by show (0 : Int) ≤ 11; decide, by show (11 : Int) ≤ 255; decide⟩, z64, hx.id, z64, z64, z64, Nat.zero_le _⟩
  obtain ⟨b, o, hA, hc⟩ := Reads.fact (h.reads.ext M1.ext) hi
  refine ⟨i, b, o, rfl, hi, hA, ?_⟩
  refine ⟨.int .i64 l[i].id, hc 0 _ rfl, ?_⟩
  intro g11 w2 h2
  have M2 := M1.alloc h2
  refine ⟨rfl, _, _, h2.here, Nat.le_of_ble_eq_true rfl, rfl, ?_⟩
  intro w3 h3
  have h3 := put_eq h3 (o' := .cells (voidF l[i].id id k).cells.toArray 29 (0, 0)) rfl
  have M3 : Mem w w3 [(g11, .cells (voidF l[i].id id k).cells.toArray 29 (0, 0)), (g8, .cells factZ.cells.toArray 29 (0, 0))] := M2.put 0 rfl h3
  refine ⟨(voidF l[i].id id k).cells, rfl, M3.rd 0 rfl, ?_⟩
  refine (Append_spec (h.ext M3.ext) hl hv).mono ?_
  rintro _ w4 ⟨⟨r, rfl, ho4⟩, e4⟩
  have M4 := M3.grow e4
  refine ⟨(voidF l[i].id id k).cells, rfl, M4.rd 0 rfl, ?_⟩
  have hval : appE l (voidF l[i].id id k) = 0 → (chkF (l ++ [voidF l[i].id id k])).2 = 0 := fun hE => by
    unfold appE at hE
    split at hE
    · rename_i h0; exact absurd hE h0
    · exact hE
  by_cases hE : appE l (voidF l[i].id id k) = 0
  · have hL : appL l (voidF l[i].id id k) = l ++ [voidF l[i].id id k] := by unfold appL; rw [if_pos hE]
    rw [hL] at ho4
    have hvv := hval hE
    rw [hE]
    clear hval hE hL
    generalize hV : voidF l[i].id id k = V at *
    obtain ⟨A4, c4, rfl, _, _⟩ := ho4.slice
    have hlen : ((l ++ [V]).length : Int) = (l.length : Int) + 1 := by simp
    refine ⟨(l.length : Int) + 1, fit ⟨by omega, by omega⟩, ?_⟩
    refine ⟨rfl, _, _, M4.get 1 rfl, Nat.le_of_ble_eq_true rfl, rfl, ?_⟩
    intro w5 h5
    have M5 := M4.put 1 rfl h5
    have ho5 : NewF w.heap.size w5 (.slice A4 (l ++ [V]).length c4) (l ++ [V]) := by
      refine NewF.base (B' := w3.heap.size) (ownsRow_put ho4 h5 fun e => ?_) M3.ext.size
      have h1 := (World.ownsRow.lt ho4 g8 e).1
      have h2 : g8 < w3.heap.size := M3.lt (List.mem_cons_of_mem _ (List.mem_singleton.2 rfl))
      omega
    refine ⟨V.cells, by kernel_rfl, M5.rd 1 rfl, ?_⟩
    refine ⟨.inr ⟨i, hi, rfl, by rw [hV]; exact hvv, _, ?_, by rw [hV]; exact ho5⟩, M5.ext⟩
    rw [hV, decide_eq_true hlen]; rfl
  · have hE2 := hE
    generalize appE l (voidF l[i].id id k) = E at *
    refine brE_dec (fun hz => ?_) (fun hz => ?_)
    · exact absurd hz hE2
    refine ⟨rfl, _, _, M4.get 1 rfl, Nat.le_of_ble_eq_true rfl, rfl, ?_⟩
    intro w5 h5
    have M5 := M4.put 1 rfl h5
    refine ⟨(voidF l[i].id id k).cells, by kernel_rfl, M5.rd 1 rfl, ?_⟩
    exact ⟨.inl ⟨_, _, rfl⟩, M5.ext⟩

end Go.Proofs.YthpdkdmbfdmamaaGreatDoor

namespace Go.Proofs.YthpdkdmbfdmamaaGreatDoor
open Go.Eng Go.RowKit Go.ChangeShapes Go.WideShapes Go.ChangeAt

theorem cellsQ : Tryz.prog.cellsOf 66 = 6 := by kernel_rfl
theorem recQ : Tryz.prog.readableRec 66 = true := by kernel_rfl
theorem rowQ : (66 : TypeId) < Tryz.prog.types.size := of_decide_eq_true (by kernel_rfl)
theorem underQ : Tryz.prog.underlying 66 = some (.struct #[⟨ "Person", 3, 0, false, "", "", 0⟩, ⟨ "State", 3, 1, false, "", "", 8⟩, ⟨ "Host", 3, 2, false, "", "", 16⟩, ⟨ "Class", 3, 3, false, "", "", 24⟩, ⟨ "Lang", 3, 4, false, "", "", 32⟩, ⟨ "Lot", 3, 5, false, "", "", 40⟩]) := by kernel_rfl
theorem list6 {l : List Value} (h : l.length = 6) : ∃ a b c d e f, l = [a, b, c, d, e, f] := by
  match l, h with
  | [a, b, c, d, e, f], _ => exact ⟨a, b, c, d, e, f, rfl⟩

section
variable {H : Type} {enc : TypeId × Value → H} {W : World}
set_option maxRecDepth 100000 in
theorem open_qcells {base n : Nat} {spare : Nat → Bool} {held : Bool} {cs : List Value} {x : DataW H × List MemPlace} (h : DataW.trod enc Tryz.prog W base spare held n 66 cs = some x) :
    ∃ y : Asked, cs = y.cells ∧ y.Nums := by
  obtain ⟨xs, n', _, _, hlen, hxs, hg⟩ := DataW.trod_struct underQ h
  rw [cellsQ] at hlen
  obtain ⟨a0, a1, a2, a3, a4, a5, rfl⟩ := list6 hlen
  have some6 : ∀ i, i < 6 → ∃ y, xs[i]? = some y := fun i hi => ⟨_, List.getElem?_eq_getElem (by rw [hxs]; exact hi)⟩
  have get3 : ∀ (i : Nat) (u : Value) (f : Field), (#[⟨ "Person", 3, 0, false, "", "", 0⟩, ⟨ "State", 3, 1, false, "", "", 8⟩, ⟨ "Host", 3, 2, false, "", "", 16⟩, ⟨ "Class", 3, 3, false, "", "", 24⟩, ⟨ "Lang", 3, 4, false, "", "", 32⟩, ⟨ "Lot", 3, 5, false, "", "", 40⟩] : Array Field)[i]? = some f → f.type = 3 → i < 6 →
      ((([a0, a1, a2, a3, a4, a5] : List Value).drop f.offset).take 1) = [u] → ∃ z : Int, u = .int .i64 z ∧ In64 z := by
    intro i u f hi h3 hi9 hu
    have := hg i f hi
    rw [h3, cells3, hu] at this
    obtain ⟨y, hy⟩ := some6 i hi9
    rw [hy] at this
    obtain ⟨z, e1, _, wz⟩ := DataW.trod_int under3 this
    simp at e1
    exact ⟨z, e1, wf_in64 wz⟩
  obtain ⟨z0, rfl, w0⟩ := get3 0 a0 _ rfl rfl (by omega) rfl
  obtain ⟨z1, rfl, w1⟩ := get3 1 a1 _ rfl rfl (by omega) rfl
  obtain ⟨z2, rfl, w2⟩ := get3 2 a2 _ rfl rfl (by omega) rfl
  obtain ⟨z3, rfl, w3⟩ := get3 3 a3 _ rfl rfl (by omega) rfl
  obtain ⟨z4, rfl, w4⟩ := get3 4 a4 _ rfl rfl (by omega) rfl
  obtain ⟨z5, rfl, w5⟩ := get3 5 a5 _ rfl rfl (by omega) rfl
  exact ⟨⟨z0, z1, z2, z3, z4, z5⟩, rfl, ⟨w0, w1, w2, w3, w4, w5⟩⟩
set_option maxRecDepth 100000 in
theorem open_asked {v : Value} {d : DataW H} {p : List MemPlace} {b0 : Nat} (hv : Value.okWide Tryz.prog W .any b0 66 v) (h : DataW.Trod enc Tryz.prog W 0 (fun _ => true) true 66 v d p) :
    ∃ y : Asked, v = y.val ∧ y.Nums := by
  obtain ⟨cs, rfl, hsz⟩ := okWide_struct underQ hv
  obtain ⟨fuel, hf⟩ := h
  obtain ⟨y, hy, hn⟩ := open_qcells hf
  refine ⟨y, ?_, hn⟩
  show Value.agg cs = Value.agg _
  congr 1
  apply Array.ext'
  exact hy
end

section
variable {H : Type} {enc : TypeId × Value → H} {P : Program} {w : World} {base : Nat} {spare : Nat → Bool} {held : Bool}
theorem trodAll_n5 {t0 t1 t2 t3 t4 : TypeId} {args : Array Value} {ds : List (DataW H)} {ps : List MemPlace} (h : DataW.TrodAll enc P w base spare held [t0, t1, t2, t3, t4] args.toList ds ps) :
    ∃ v0 v1 v2 v3 v4 d0 d1 d2 d3 d4 p0 p1 p2 p3 p4, args = #[v0, v1, v2, v3, v4] ∧ ds = [d0, d1, d2, d3, d4] ∧ ps = p0 ++ (p1 ++ (p2 ++ (p3 ++ (p4)))) ∧ DataW.Trod enc P w base spare held t0 v0 d0 p0 ∧ DataW.Trod enc P w base spare held t1 v1 d1 p1 ∧ DataW.Trod enc P w base spare held t2 v2 d2 p2 ∧ DataW.Trod enc P w base spare held t3 v3 d3 p3 ∧ DataW.Trod enc P w base spare held t4 v4 d4 p4 := by
  obtain ⟨v0, vs0, d0, ds0, p0, q0, hargs, rfl, rfl, h0, r0⟩ := trodAll_cons h
  obtain ⟨v1, vs1, d1, ds1, p1, q1, rfl, rfl, rfl, h1, r1⟩ := trodAll_cons r0
  obtain ⟨v2, vs2, d2, ds2, p2, q2, rfl, rfl, rfl, h2, r2⟩ := trodAll_cons r1
  obtain ⟨v3, vs3, d3, ds3, p3, q3, rfl, rfl, rfl, h3, r3⟩ := trodAll_cons r2
  obtain ⟨v4, vs4, d4, ds4, p4, q4, rfl, rfl, rfl, h4, r4⟩ := trodAll_cons r3
  obtain ⟨rfl, rfl, rfl⟩ := trodAll_nil r4
  exact ⟨v0, v1, v2, v3, v4, d0, d1, d2, d3, d4, p0, p1, p2, p3, p4, by cases args; simp_all, rfl, by simp, h0, h1, h2, h3, h4⟩
theorem trodAll_mkn5 {t0 t1 t2 t3 t4 : TypeId} {v0 v1 v2 v3 v4 : Value} {d0 d1 d2 d3 d4 : DataW H} {p0 p1 p2 p3 p4 : List MemPlace} (h0 : DataW.Trod enc P w base spare held t0 v0 d0 p0) (h1 : DataW.Trod enc P w base spare held t1 v1 d1 p1) (h2 : DataW.Trod enc P w base spare held t2 v2 d2 p2) (h3 : DataW.Trod enc P w base spare held t3 v3 d3 p3) (h4 : DataW.Trod enc P w base spare held t4 v4 d4 p4) :
    DataW.TrodAll enc P w base spare held [t0, t1, t2, t3, t4] [v0, v1, v2, v3, v4] [d0, d1, d2, d3, d4] (p0 ++ (p1 ++ (p2 ++ (p3 ++ (p4))))) := ⟨p0, _, h0, trodAll_mk4 h1 h2 h3 h4, rfl⟩
theorem trodAll_n6 {t0 t1 t2 t3 t4 t5 : TypeId} {args : Array Value} {ds : List (DataW H)} {ps : List MemPlace} (h : DataW.TrodAll enc P w base spare held [t0, t1, t2, t3, t4, t5] args.toList ds ps) :
    ∃ v0 v1 v2 v3 v4 v5 d0 d1 d2 d3 d4 d5 p0 p1 p2 p3 p4 p5, args = #[v0, v1, v2, v3, v4, v5] ∧ ds = [d0, d1, d2, d3, d4, d5] ∧ ps = p0 ++ (p1 ++ (p2 ++ (p3 ++ (p4 ++ (p5))))) ∧ DataW.Trod enc P w base spare held t0 v0 d0 p0 ∧ DataW.Trod enc P w base spare held t1 v1 d1 p1 ∧ DataW.Trod enc P w base spare held t2 v2 d2 p2 ∧ DataW.Trod enc P w base spare held t3 v3 d3 p3 ∧ DataW.Trod enc P w base spare held t4 v4 d4 p4 ∧ DataW.Trod enc P w base spare held t5 v5 d5 p5 := by
  obtain ⟨v0, vs0, d0, ds0, p0, q0, hargs, rfl, rfl, h0, r0⟩ := trodAll_cons h
  obtain ⟨v1, vs1, d1, ds1, p1, q1, rfl, rfl, rfl, h1, r1⟩ := trodAll_cons r0
  obtain ⟨v2, vs2, d2, ds2, p2, q2, rfl, rfl, rfl, h2, r2⟩ := trodAll_cons r1
  obtain ⟨v3, vs3, d3, ds3, p3, q3, rfl, rfl, rfl, h3, r3⟩ := trodAll_cons r2
  obtain ⟨v4, vs4, d4, ds4, p4, q4, rfl, rfl, rfl, h4, r4⟩ := trodAll_cons r3
  obtain ⟨v5, vs5, d5, ds5, p5, q5, rfl, rfl, rfl, h5, r5⟩ := trodAll_cons r4
  obtain ⟨rfl, rfl, rfl⟩ := trodAll_nil r5
  exact ⟨v0, v1, v2, v3, v4, v5, d0, d1, d2, d3, d4, d5, p0, p1, p2, p3, p4, p5, by cases args; simp_all, rfl, by simp, h0, h1, h2, h3, h4, h5⟩
theorem trodAll_mkn6 {t0 t1 t2 t3 t4 t5 : TypeId} {v0 v1 v2 v3 v4 v5 : Value} {d0 d1 d2 d3 d4 d5 : DataW H} {p0 p1 p2 p3 p4 p5 : List MemPlace} (h0 : DataW.Trod enc P w base spare held t0 v0 d0 p0) (h1 : DataW.Trod enc P w base spare held t1 v1 d1 p1) (h2 : DataW.Trod enc P w base spare held t2 v2 d2 p2) (h3 : DataW.Trod enc P w base spare held t3 v3 d3 p3) (h4 : DataW.Trod enc P w base spare held t4 v4 d4 p4) (h5 : DataW.Trod enc P w base spare held t5 v5 d5 p5) :
    DataW.TrodAll enc P w base spare held [t0, t1, t2, t3, t4, t5] [v0, v1, v2, v3, v4, v5] [d0, d1, d2, d3, d4, d5] (p0 ++ (p1 ++ (p2 ++ (p3 ++ (p4 ++ (p5)))))) := ⟨p0, _, h0, trodAll_mkn5 h1 h2 h3 h4 h5, rfl⟩
theorem trodAll_n7 {t0 t1 t2 t3 t4 t5 t6 : TypeId} {args : Array Value} {ds : List (DataW H)} {ps : List MemPlace} (h : DataW.TrodAll enc P w base spare held [t0, t1, t2, t3, t4, t5, t6] args.toList ds ps) :
    ∃ v0 v1 v2 v3 v4 v5 v6 d0 d1 d2 d3 d4 d5 d6 p0 p1 p2 p3 p4 p5 p6, args = #[v0, v1, v2, v3, v4, v5, v6] ∧ ds = [d0, d1, d2, d3, d4, d5, d6] ∧ ps = p0 ++ (p1 ++ (p2 ++ (p3 ++ (p4 ++ (p5 ++ (p6)))))) ∧ DataW.Trod enc P w base spare held t0 v0 d0 p0 ∧ DataW.Trod enc P w base spare held t1 v1 d1 p1 ∧ DataW.Trod enc P w base spare held t2 v2 d2 p2 ∧ DataW.Trod enc P w base spare held t3 v3 d3 p3 ∧ DataW.Trod enc P w base spare held t4 v4 d4 p4 ∧ DataW.Trod enc P w base spare held t5 v5 d5 p5 ∧ DataW.Trod enc P w base spare held t6 v6 d6 p6 := by
  obtain ⟨v0, vs0, d0, ds0, p0, q0, hargs, rfl, rfl, h0, r0⟩ := trodAll_cons h
  obtain ⟨v1, vs1, d1, ds1, p1, q1, rfl, rfl, rfl, h1, r1⟩ := trodAll_cons r0
  obtain ⟨v2, vs2, d2, ds2, p2, q2, rfl, rfl, rfl, h2, r2⟩ := trodAll_cons r1
  obtain ⟨v3, vs3, d3, ds3, p3, q3, rfl, rfl, rfl, h3, r3⟩ := trodAll_cons r2
  obtain ⟨v4, vs4, d4, ds4, p4, q4, rfl, rfl, rfl, h4, r4⟩ := trodAll_cons r3
  obtain ⟨v5, vs5, d5, ds5, p5, q5, rfl, rfl, rfl, h5, r5⟩ := trodAll_cons r4
  obtain ⟨v6, vs6, d6, ds6, p6, q6, rfl, rfl, rfl, h6, r6⟩ := trodAll_cons r5
  obtain ⟨rfl, rfl, rfl⟩ := trodAll_nil r6
  exact ⟨v0, v1, v2, v3, v4, v5, v6, d0, d1, d2, d3, d4, d5, d6, p0, p1, p2, p3, p4, p5, p6, by cases args; simp_all, rfl, by simp, h0, h1, h2, h3, h4, h5, h6⟩
theorem trodAll_mkn7 {t0 t1 t2 t3 t4 t5 t6 : TypeId} {v0 v1 v2 v3 v4 v5 v6 : Value} {d0 d1 d2 d3 d4 d5 d6 : DataW H} {p0 p1 p2 p3 p4 p5 p6 : List MemPlace} (h0 : DataW.Trod enc P w base spare held t0 v0 d0 p0) (h1 : DataW.Trod enc P w base spare held t1 v1 d1 p1) (h2 : DataW.Trod enc P w base spare held t2 v2 d2 p2) (h3 : DataW.Trod enc P w base spare held t3 v3 d3 p3) (h4 : DataW.Trod enc P w base spare held t4 v4 d4 p4) (h5 : DataW.Trod enc P w base spare held t5 v5 d5 p5) (h6 : DataW.Trod enc P w base spare held t6 v6 d6 p6) :
    DataW.TrodAll enc P w base spare held [t0, t1, t2, t3, t4, t5, t6] [v0, v1, v2, v3, v4, v5, v6] [d0, d1, d2, d3, d4, d5, d6] (p0 ++ (p1 ++ (p2 ++ (p3 ++ (p4 ++ (p5 ++ (p6))))))) := ⟨p0, _, h0, trodAll_mkn6 h1 h2 h3 h4 h5 h6, rfl⟩
end
end Go.Proofs.YthpdkdmbfdmamaaGreatDoor
