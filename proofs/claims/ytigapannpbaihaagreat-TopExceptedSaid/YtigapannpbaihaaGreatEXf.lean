/- a part of the proof: steps, walks and plain laws that the law below stands on; no condition. -/
import Derived.Test.YtigapannpbaihaaGreatEXa
import Derived.Test.YtigapannpbaihaaGreatEXb
import Derived.Test.YtigapannpbaihaaGreatEXc
import Derived.Test.YtigapannpbaihaaGreatEXd
import Derived.Deep.LoopGhost
set_option linter.unusedVariables false
set_option linter.unusedSimpArgs false
set_option linter.unnecessarySimpa false
set_option linter.unusedSectionVars false
namespace Go.Proofs.YtigapannpbaihaaGreat.Rk
open Go.Eng Go.RowKit
abbrev In64 (n:Int):Prop:=-9223372036854775808 <= n ∧ n <= 9223372036854775807
theorem fit {n:Int} (h:In64 n):IntKind.i64.wrap n = n:=IntWalk.i64_in n h
theorem isNaN_spec (n:Int) (w:World):CallsV C.P 168 #[.int .i64 n] w fun v w' => v = .bool false ∧ w' = w:=by
 refine callsV_of C_ok (args:=[_]) (plans:=[]) Tryz.func168 rfl Tryz.ntmps168 (by kernel_rfl) (Nat.le_of_ble_eq_true rfl) ?_
 refine ⟨?_,rfl⟩
 simp
def cmpI (a b:Int):Int:=if a < b then -1 else if a > b then 1 else 0
theorem Compare_spec (a b:Int) (w:World):CallsV C.P 122 #[.int .i64 a,.int .i64 b] w fun v w' => v = .int .i64 (cmpI a b) ∧ w' = w:=by
 refine callsV_of C_ok (args:=[_,_]) (plans:=[]) Tryz.func122 rfl Tryz.ntmps122 (by kernel_rfl) (Nat.le_of_ble_eq_true rfl) ?_
 refine (isNaN_spec a w).mono ?_
 rintro v w1 ⟨rfl,rfl⟩
 refine (isNaN_spec b _).mono ?_
 rintro v w1 ⟨rfl,rfl⟩
 refine brE_dec (fun h1 => ?_) (fun h1 => ?_)
 ·refine ⟨?_,rfl⟩
  simp [cmpI,h1]
 ·refine brE_dec (fun h2 => ?_) (fun h2 => ?_)
  ·refine ⟨?_,rfl⟩
   simp [cmpI,h1,h2]
  ·refine ⟨?_,rfl⟩
   simp [cmpI,h1,h2]
def ints (xs:List Int):List Value:=xs.map (.int .i64 ·)
theorem Reads.int {w:World} {A:Option Addr} {xs:List Int} (h:Reads w A (ints xs)) {i:Nat} (hi:i < xs.length):∃ b o,A = some ⟨b,o,none⟩ ∧ w.cell? ⟨b,o + i,none⟩ = some (.int .i64 xs[i]):=by
 rcases h with h | ⟨b,o,hA,hr⟩
 ·have:xs.length = 0:=by have:=congrArg List.length h; simpa [ints] using this
  omega
 ·exact ⟨b,o,hA,hr i _ (by simp [ints,hi])⟩
def orI:List Int -> Int
 | [] => 0
 | x :: xs => if x ≠ 0 then x else orI xs
theorem orI_drop {xs:List Int} {i:Nat} (hi:i < xs.length):orI (xs.drop i) = if xs[i] ≠ 0 then xs[i] else orI (xs.drop (i + 1)):=by
 rw [List.drop_eq_getElem_cons hi,orI]
theorem Or_spec (A:Option Addr) (c:Nat) (xs:List Int) (w:World) (hr:Reads w A (ints xs)) (hl:xs.length <= 2 ^ 47):CallsV C.P 121 #[.slice A xs.length c] w fun v w' => v = .int .i64 (orI xs) ∧ w' = w:=by
 refine callsV_of C_ok (args:=[_]) (plans:=[]) Tryz.func121 rfl Tryz.ntmps121 (by kernel_rfl) (Nat.le_of_ble_eq_true rfl) ?_
 refine loopE C_ok (fun i:Nat => [(3,.int .i64 0),(6,.slice A xs.length c),(7,.int .i64 xs.length),(8,.int .i64 i)]) (fun i w' => w' = w ∧ i <= xs.length ∧ orI (xs.drop i) = orI xs) (fun i => xs.length - i) 0 ⟨rfl,rfl,rfl,rfl,trivial⟩ ⟨rfl,Nat.zero_le _,rfl⟩ ?_
 rintro i w' ⟨rfl,hi,hor⟩
 refine brE_dec (fun h1 => ?_) (fun h1 => ?_)
 ·have hlt:i < xs.length:=by omega
  obtain ⟨b,o,hA,hc⟩:=Reads.int hr hlt
  have hd:=orI_drop hlt
  refine ⟨i,b,o,rfl,hlt,hA,?_⟩
  refine ⟨_,by simpa using hc,?_⟩
  refine brE_mk (fun h2 => ?_) (fun h2 => ?_)
  ·refine ⟨?_,rfl⟩
   have:xs[i] ≠ 0:=by simpa using h2
   rw [<-hor,hd,if_pos this]
  ·refine ⟨((i + 1:Nat):Int),by exact fit ⟨by omega,by omega⟩,?_⟩
   have:xs[i] = 0:=by simpa using h2
   exact ⟨i + 1,⟨rfl,rfl,rfl,rfl,trivial⟩,⟨rfl,hlt,by rw [<-hor,hd,if_neg (by simp [this])]⟩,by omega⟩
 ·refine ⟨?_,rfl⟩
  have:i = xs.length:=by omega
  subst this
  rw [<-hor]; simp [orI]
end Go.Proofs.YtigapannpbaihaaGreat.Rk
namespace Go.Proofs.YtigapannpbaihaaGreat.Rk
open Go.Eng Go.RowKit
structure Arrow where
 fr:Int
 to:Int
 rule:Int
 wt:Int
 deriving DecidableEq
def Arrow.cells (x:Arrow):List Value:=[.int .i64 x.fr,.int .i64 x.to,.int .i64 x.rule,.int .i64 x.wt]
def Arrow.val (x:Arrow):Value:=.agg x.cells.toArray
def arrows (xs:List Arrow):List Value:=xs.flatMap Arrow.cells
theorem arrows_get {xs:List Arrow} {i:Nat} (hi:i < xs.length) (j:Nat) (v:Value) (h:xs[i].cells[j]? = some v):(arrows xs)[i * 4 + j]? = some v:=by
 induction xs generalizing i with
 | nil => simp at hi
 | cons x xs ih =>
  cases i with
  | zero =>
   simp only [Nat.zero_mul,Nat.zero_add]
   have hj:j < 4:=by
    have:=(List.getElem?_eq_some_iff.1 h).1
    simpa [Arrow.cells] using this
   show (x.cells ++ arrows xs)[j]? = _
   rw [List.getElem?_append_left (by simpa [Arrow.cells] using hj)]
   exact h
  | succ i =>
   show (x.cells ++ arrows xs)[(i + 1) * 4 + j]? = _
   rw [List.getElem?_append_right (by simp [Arrow.cells]; omega)]
   have:(i + 1) * 4 + j - x.cells.length = i * 4 + j:=by simp [Arrow.cells]; omega
   rw [this]
   exact ih (by simpa using hi) (by simpa using h)
theorem arrows_length (xs:List Arrow):(arrows xs).length = xs.length * 4:=by
 induction xs with
 | nil => rfl
 | cons x xs ih => show (x.cells ++ arrows xs).length = _; simp [Arrow.cells,ih]; omega
theorem Reads.arrow {w:World} {A:Option Addr} {xs:List Arrow} (h:Reads w A (arrows xs)) {i:Nat} (hi:i < xs.length):∃ b o,A = some ⟨b,o,none⟩ ∧ Rd w b (o + i * 4) xs[i].cells:=by
 rcases h with h | ⟨b,o,hA,hr⟩
 ·have:=congrArg List.length h
  rw [arrows_length] at this
  have:xs.length * 4 = 0:=this
  omega
 ·refine ⟨b,o,hA,fun j v hv => ?_⟩
  have:=hr _ _ (arrows_get hi j v hv)
  rwa [<-Nat.add_assoc] at this
def cmpA (a b:Arrow):Int:=orI [cmpI a.fr b.fr,cmpI a.to b.to]
theorem compareArrows_spec (a b:Arrow) (w:World):CallsV C.P 81 #[a.val,b.val] w fun v w' => v = .int .i64 (cmpA a b) ∧ Ext w w':=by
 refine callsV_of C_ok (args:=[_,_]) (plans:=plans81) Tryz.func81 rfl Tryz.ntmps81 (by kernel_rfl) (Nat.le_of_ble_eq_true rfl) ?_
 intro g1 w1 h1
 intro g2 w2 h2
 have M:=((Mem.start w).alloc h1).alloc h2
 refine ⟨_,M.cell 1 rfl rfl,?_⟩
 refine ⟨_,M.cell 0 rfl rfl,?_⟩
 refine ⟨_,M.cell 1 rfl rfl,?_⟩
 refine ⟨_,M.cell 0 rfl rfl,?_⟩
 refine (Compare_spec _ _ _).mono ?_
 rintro v w3 ⟨rfl,rfl⟩
 refine ⟨Ext.refl _,?_⟩
 refine (Compare_spec _ _ _).mono ?_
 rintro v w3 ⟨rfl,rfl⟩
 intro g4 w4 h4
 have M:=M.alloc h4
 refine (Or_spec (some ⟨g4,0,none⟩) 2 [cmpI a.fr b.fr,cmpI a.to b.to] w4 (.inr ⟨g4,0,rfl,M.rd 0 rfl⟩) (by simp)).mono ?_
 rintro v w5 ⟨rfl,rfl⟩
 exact ⟨rfl,M.ext⟩
end Go.Proofs.YtigapannpbaihaaGreat.Rk
namespace Go.Proofs.YtigapannpbaihaaGreat.Rk
def goodA (N:Int) (x:Arrow):Bool:=decide (0 <= x.fr ∧ x.fr <= N - 1) && decide (0 <= x.to ∧ x.to <= N - 1) && !decide (x.fr = x.to) && decide (0 <= x.rule ∧ x.rule <= 23) && decide (1 <= x.wt ∧ x.wt <= 1000)
def ltA (a b:Arrow):Bool:=decide (a.fr < b.fr ∨ a.fr = b.fr ∧ a.to < b.to)
def okAt (N:Int) (xs:List Arrow) (i:Nat):Bool:=match xs[i]? with
 | some x => goodA N x && (match i with
  | 0 => true
  | j + 1 => match xs[j]? with
   | some y => ltA y x
   | none => false)
 | none => false
def allOk (N:Int) (xs:List Arrow):Bool:=(List.range xs.length).all (okAt N xs)
def chk (N:Int) (xs:List Arrow):Int:=if N > 24 then 2 else if N < 0 then 1 else if allOk N xs then 0 else 1
theorem chk_big {N:Int} {xs:List Arrow} (h:N > 24):chk N xs = 2:=by simp [chk,h]
theorem chk_neg {N:Int} {xs:List Arrow} (h:¬ N > 24) (h0:N < 0):chk N xs = 1:=by unfold chk; rw [if_neg h,if_pos h0]
theorem chk_ok {N:Int} {xs:List Arrow} (h:¬ N > 24) (h0:¬ N < 0) (ha:∀ j < xs.length,okAt N xs j = true):chk N xs = 0:=by
 unfold chk
 rw [if_neg h,if_neg h0,if_pos]
 exact List.all_eq_true.2 fun i hi => ha i (List.mem_range.1 hi)
theorem chk_bad {N:Int} {xs:List Arrow} (h:¬ N > 24) (h0:¬ N < 0) {i:Nat} (hi:i < xs.length) (hb:okAt N xs i = false):chk N xs = 1:=by
 unfold chk
 rw [if_neg h,if_neg h0,if_neg]
 intro ha
 have:=List.all_eq_true.1 ha i (List.mem_range.2 hi)
 rw [hb] at this; cases this
theorem cmpA_neg (a b:Arrow):cmpA a b >= 0 <-> ltA a b = false:=by
 simp only [cmpA,orI,cmpI,ltA]
 rcases Int.lt_trichotomy a.fr b.fr with h | h | h <;> rcases Int.lt_trichotomy a.to b.to with k | k | k <;> simp [h,k] <;> omega
end Go.Proofs.YtigapannpbaihaaGreat.Rk
namespace Go.Proofs.YtigapannpbaihaaGreat.Rk
open Go.Eng Go.RowKit
def relVal (N:Int) (A:Option Addr) (n c:Nat):Value:=.agg #[.int .i64 N,.slice A n c]
structure HRel (w:World) (N:Int) (A:Option Addr) (xs:List Arrow) (c:Nat):Prop where
 num:In64 N
 nums:∀ x ∈ xs,In64 x.fr ∧ In64 x.to ∧ In64 x.rule ∧ In64 x.wt
 reads:Reads w A (arrows xs)
 len:xs.length <= c
 cap:xs.length <= 9223372036854775807
theorem HRel.ext {w w':World} {N:Int} {A:Option Addr} {xs:List Arrow} {c:Nat} (h:HRel w N A xs c) (e:Ext w w'):HRel w' N A xs c:=⟨h.num,h.nums,h.reads.ext e,h.len,h.cap⟩
theorem in_spec (n lo hi:Int) (w:World):CallsV C.P 83 #[.int .i64 n,.int .i64 lo,.int .i64 hi] w fun v w' => v = .bool (decide (lo <= n ∧ n <= hi)) ∧ w' = w:=by
 refine callsV_of C_ok (args:=[_,_,_]) (plans:=[]) Tryz.func83 rfl Tryz.ntmps83 (by kernel_rfl) (Nat.le_of_ble_eq_true rfl) ?_
 refine brE_dec (fun h1 => ?_) (fun h1 => ?_)
 ·refine ⟨?_,rfl⟩
  have h2:lo <= n:=h1
  simp [h2]
 ·refine ⟨?_,rfl⟩
  have h2:¬ lo <= n:=h1
  simp [h2]
theorem Check_spec {N:Int} {A:Option Addr} {xs:List Arrow} {c:Nat} {w:World} (h:HRel w N A xs c):CallsV C.P 28 #[relVal N A xs.length c] w fun v w' => v = .int .i64 (chk N xs) ∧ Ext w w':=by
 have hlen:=h.len
 have hcap:=h.cap
 refine callsV_of C_ok (args:=[_]) (plans:=plans28) Tryz.func28 rfl Tryz.ntmps28 (by kernel_rfl) (Nat.le_of_ble_eq_true rfl) ?_
 intro g1 w1 h1
 have M1:=(Mem.start w).alloc h1
 refine ⟨_,M1.cell 0 rfl rfl,?_⟩
 refine brE_dec (fun hN => ?_) (fun hN => ?_)
 ·exact ⟨by rw [chk_big hN],M1.ext⟩
 refine ⟨_,M1.cell 0 rfl rfl,?_⟩
 refine brE_dec (fun hN0 => ?_) (fun hN0 => ?_)
 ·exact ⟨by rw [chk_neg hN hN0],M1.ext⟩
 refine ⟨_,M1.cell 0 rfl rfl,?_⟩
 refine loopE C_ok (fun i:Nat => [(1,.pointer (some ⟨g1,0,none⟩)),(12,.slice A xs.length c),(13,.int .i64 xs.length),(14,.int .i64 i)])
  (fun i w' => Mem w w' [(g1,.cells #[.int .i64 N,.slice A xs.length c] 36 (0,0))] ∧ i <= xs.length ∧ ∀ j < i,okAt N xs j = true) (fun i => xs.length - i) 0 ⟨rfl,rfl,rfl,rfl,trivial⟩ ⟨M1,Nat.zero_le _,by simp⟩ ?_
 rintro i w2 ⟨M2,hi,hall⟩
 refine brE_dec (fun hlt => ?_) (fun hge => ?_)
 ·have hlt:i < xs.length:=by omega
  obtain ⟨b,o,hA,hr⟩:=Reads.arrow h.reads hlt
  refine ⟨i,b,o,rfl,hlt,hA,?_⟩
  refine ⟨xs[i].cells,rfl,M2.oldRd hr,?_⟩
  intro g3 w3 h3
  have M3:=M2.alloc h3
  refine ⟨rfl,_,_,M3.get 0 rfl,Nat.le_of_ble_eq_true rfl,rfl,?_⟩
  intro w4 h4
  have M4:Mem w w4 [(g3,.cells xs[i].cells.toArray 189 (0,0)),(g1,.cells #[.int .i64 N,.slice A xs.length c] 36 (0,0))]:=M3.put 0 rfl h4
  have hbad:goodA N xs[i] = false -> okAt N xs i = false:=fun hb => by unfold okAt; simp [hlt,hb]
  have hN1:IntKind.i64.wrap (N - 1) = N - 1:=fit ⟨by omega,by omega⟩
  refine ⟨_,M4.cell 0 rfl rfl,?_⟩
  refine ⟨_,M4.cell 1 rfl rfl,?_⟩
  refine ⟨_,hN1,?_⟩
  refine (in_spec _ _ _ _).mono ?_
  rintro v w5 ⟨rfl,rfl⟩
  refine brE_mk (fun hb1 => ?_) (fun hb1 => ?_)
  ·exact ⟨by rw [chk_bad hN hN0 hlt (hbad (by unfold goodA; rw [Bool.not_eq_true'] at hb1; simp only [hb1,Bool.false_and]))],M4.ext⟩
  refine ⟨_,M4.cell 0 rfl rfl,?_⟩
  refine ⟨_,M4.cell 1 rfl rfl,?_⟩
  refine ⟨_,hN1,?_⟩
  refine (in_spec _ _ _ _).mono ?_
  rintro v w5 ⟨rfl,rfl⟩
  refine brE_mk (fun hb2 => ?_) (fun hb2 => ?_)
  ·exact ⟨by rw [chk_bad hN hN0 hlt (hbad (by unfold goodA; rw [Bool.not_eq_true'] at hb2; simp only [hb2,Bool.and_false,Bool.false_and]))],M4.ext⟩
  refine ⟨_,M4.cell 0 rfl rfl,?_⟩
  refine ⟨_,M4.cell 0 rfl rfl,?_⟩
  refine brE_mk (fun hb3 => ?_) (fun hb3 => ?_)
  ·exact ⟨by rw [chk_bad hN hN0 hlt (hbad (by unfold goodA; simp only [hb3,Bool.not_true,Bool.and_false,Bool.false_and]))],M4.ext⟩
  refine ⟨_,M4.cell 0 rfl rfl,?_⟩
  refine (in_spec _ _ _ _).mono ?_
  rintro v w5 ⟨rfl,rfl⟩
  refine brE_mk (fun hb4 => ?_) (fun hb4 => ?_)
  ·exact ⟨by rw [chk_bad hN hN0 hlt (hbad (by unfold goodA; rw [Bool.not_eq_true'] at hb4; simp only [hb4,Bool.and_false,Bool.false_and]))],M4.ext⟩
  refine ⟨_,M4.cell 0 rfl rfl,?_⟩
  refine (in_spec _ _ _ _).mono ?_
  rintro v w5 ⟨rfl,rfl⟩
  refine brE_mk (fun hb5 => ?_) (fun hb5 => ?_)
  ·exact ⟨by rw [chk_bad hN hN0 hlt (hbad (by unfold goodA; rw [Bool.not_eq_true'] at hb5; simp only [hb5,Bool.and_false]))],M4.ext⟩
  rw [Bool.not_eq_false'] at hb1 hb2 hb4 hb5
  have hgood:goodA N xs[i] = true:=by unfold goodA; simp only [hb1,hb2,hb3,hb4,hb5,Bool.not_false,Bool.and_self]
  refine brE_dec (fun hi0 => ?_) (fun hi0 => ?_)
  ·obtain ⟨j,rfl⟩:∃ j,i = j + 1:=⟨i - 1,by omega⟩
   have hj:j < xs.length:=by omega
   obtain ⟨b',o',hA',hr'⟩:=Reads.arrow h.reads hj
   refine ⟨_,M4.cell 1 rfl rfl,?_⟩
   refine ⟨(j:Int),by rw [fit ⟨by omega,by omega⟩]; omega,?_⟩
   refine ⟨j,b',o',rfl,hj,hA',?_⟩
   refine ⟨xs[j].cells,rfl,M4.oldRd hr',?_⟩
   refine ⟨xs[j + 1].cells,rfl,M4.rd 0 rfl,?_⟩
   refine (compareArrows_spec xs[j] xs[j + 1] _).mono ?_
   rintro v w5 ⟨rfl,he⟩
   have M5:=M4.grow he
   refine brE_dec (fun hc => ?_) (fun hc => ?_)
   ·have:=(cmpA_neg xs[j] xs[j + 1]).1 hc
    exact ⟨by rw [chk_bad hN hN0 hlt (by unfold okAt; simp [hlt,hj,this])],M5.ext⟩
   ·have hlt2:ltA xs[j] xs[j + 1] = true:=by
     cases hl:ltA xs[j] xs[j + 1] with
     | true => rfl
     | false => exact absurd ((cmpA_neg _ _).2 hl) hc
    refine ⟨((j + 1 + 1:Nat):Int),fit ⟨by omega,by omega⟩,?_⟩
    refine ⟨j + 1 + 1,⟨rfl,rfl,rfl,rfl,trivial⟩,⟨M5.tail,hlt,fun k hk => ?_⟩,by omega⟩
    rcases Nat.lt_or_ge k (j + 1) with h | h
    ·exact hall k h
    ·obtain rfl:k = j + 1:=by omega
     unfold okAt; simp [hlt,hj,hgood,hlt2]
  ·obtain rfl:i = 0:=by omega
   refine ⟨((0 + 1:Nat):Int),fit ⟨by omega,by omega⟩,?_⟩
   refine ⟨0 + 1,⟨rfl,rfl,rfl,rfl,trivial⟩,⟨M4.tail,hlt,fun k hk => ?_⟩,by omega⟩
   obtain rfl:k = 0:=by omega
   unfold okAt; simp [hlt,hgood]
 ·have:i = xs.length:=by omega
  subst this
  exact ⟨by rw [chk_ok hN hN0 hall],M2.ext⟩
end Go.Proofs.YtigapannpbaihaaGreat.Rk
namespace Go.Proofs.YtigapannpbaihaaGreat.Rk
open Go.Eng Go.RowKit
def bools (n:Nat) (f:Nat -> Bool):List Value:=(List.range n).map fun k => .bool (f k)
abbrev setCells (S:Nat -> Bool):List Value:=bools 24 S
abbrev mat (M:Nat -> Nat -> Bool):List Value:=bools 576 fun k => M (k / 24) (k % 24)
def webCells (N:Int) (T R:Nat -> Nat -> Bool):List Value:=.int .i64 N :: (mat T ++ mat R)
theorem bools_length (n:Nat) (f:Nat -> Bool):(bools n f).length = n:=by simp [bools]
theorem bools_get {n i:Nat} (h:i < n) (f:Nat -> Bool):(bools n f)[i]? = some (.bool (f i)):=by simp [bools,h]
theorem bools_one (n:Nat) (f:Nat -> Bool):(bools n f).all (·.oneCell') = true:=by
 rw [List.all_eq_true]
 intro v hv
 obtain ⟨k,_,rfl⟩:=List.mem_map.1 hv
 rfl
theorem bools_congr {n:Nat} {f g:Nat -> Bool} (h:∀ k < n,f k = g k):bools n f = bools n g:=by
 apply List.map_congr_left
 intro k hk
 rw [h k (List.mem_range.1 hk)]
theorem bools_false (n:Nat):List.replicate n (Value.bool false) = bools n fun _ => false:=by
 apply List.ext_getElem?
 intro i
 by_cases h:i < n
 ·rw [bools_get h]; simp [h]
 ·rw [List.getElem?_eq_none (by simp; omega),List.getElem?_eq_none (by simp [bools_length]; omega)]
theorem cell_idx {a b:Nat} (ha:a < 24) (hb:b < 24):(a * 24 + b) / 24 = a ∧ (a * 24 + b) % 24 = b ∧ a * 24 + b < 576:=by omega
theorem mat_get {a b:Nat} (ha:a < 24) (hb:b < 24) (M:Nat -> Nat -> Bool):(mat M)[a * 24 + b]? = some (.bool (M a b)):=by
 obtain ⟨h1,h2,h3⟩:=cell_idx ha hb
 rw [bools_get h3,h1,h2]
theorem web_n (N:Int) (T R:Nat -> Nat -> Bool):(webCells N T R)[0]? = some (.int .i64 N):=rfl
theorem web_to {a b:Nat} (ha:a < 24) (hb:b < 24) (N:Int) (T R:Nat -> Nat -> Bool):(webCells N T R)[1 + a * 24 + b]? = some (.bool (T a b)):=by
 have h:=mat_get ha hb T
 obtain ⟨_,_,h3⟩:=cell_idx ha hb
 have e:1 + a * 24 + b = (a * 24 + b) + 1:=by omega
 rw [e,webCells,List.getElem?_cons_succ,List.getElem?_append_left (by rw [bools_length]; exact h3)]
 exact h
theorem web_reach {a b:Nat} (ha:a < 24) (hb:b < 24) (N:Int) (T R:Nat -> Nat -> Bool):(webCells N T R)[577 + a * 24 + b]? = some (.bool (R a b)):=by
 have h:=mat_get ha hb R
 have e:577 + a * 24 + b = (576 + (a * 24 + b)) + 1:=by omega
 rw [e,webCells,List.getElem?_cons_succ,List.getElem?_append_right (by rw [bools_length]; omega),bools_length]
 simpa using h
theorem web_to_row {a:Nat} (ha:a < 24) (N:Int) (T R:Nat -> Nat -> Bool):∀ i v,(setCells (T a))[i]? = some v -> (webCells N T R)[1 + a * 24 + i]? = some v:=by
 intro i v h
 have hi:i < 24:=by
  have:=(List.getElem?_eq_some_iff.1 h).1
  rwa [bools_length] at this
 rw [web_to ha hi]
 rw [bools_get hi] at h
 exact h
def upd (f:Nat -> Bool) (i:Nat) (b:Bool):Nat -> Bool:=fun k => if k = i then b else f k
def upd2 (M:Nat -> Nat -> Bool) (i j:Nat) (b:Bool):Nat -> Nat -> Bool:=fun a c => if a = i ∧ c = j then b else M a c
theorem splice_one {cs:List Value} {i:Nat} {v:Value} (h:i < cs.length):splice cs i [v] = cs.set i v:=by
 apply List.ext_getElem?
 intro k
 unfold splice
 rw [List.getElem?_set]
 rcases Nat.lt_trichotomy k i with hk | hk | hk
 ·rw [List.append_assoc,List.getElem?_append_left (by simp; omega),List.getElem?_take,if_pos hk,if_neg (by omega)]
 ·subst hk
  rw [List.append_assoc,List.getElem?_append_right (by simp; omega)]
  have:min k cs.length = k:=by omega
  simp [this,h]
 ·rw [List.getElem?_append_right (by simp; omega),if_neg (by omega)]
  simp only [List.length_append,List.length_take,List.length_singleton,List.getElem?_drop]
  congr 1; omega
theorem bools_set {n i:Nat} (h:i < n) (f:Nat -> Bool) (b:Bool):splice (bools n f) i [.bool b] = bools n (upd f i b):=by
 rw [splice_one (by rw [bools_length]; exact h)]
 apply List.ext_getElem?
 intro k
 rw [List.getElem?_set]
 by_cases hk:i = k
 ·subst hk; rw [if_pos rfl,bools_length,if_pos h,bools_get h]; simp [upd]
 ·rw [if_neg hk]
  by_cases hkn:k < n
  ·rw [bools_get hkn,bools_get hkn]; simp [upd,Ne.symm hk]
  ·rw [List.getElem?_eq_none (by rw [bools_length]; omega),List.getElem?_eq_none (by rw [bools_length]; omega)]
theorem mat_set {a b:Nat} (ha:a < 24) (hb:b < 24) (M:Nat -> Nat -> Bool) (v:Bool):splice (mat M) (a * 24 + b) [.bool v] = mat (upd2 M a b v):=by
 obtain ⟨h1,h2,h3⟩:=cell_idx ha hb
 rw [bools_set h3]
 apply bools_congr
 intro k hk
 simp only [upd,upd2]
 by_cases e:k = a * 24 + b
 ·subst e; simp [h1,h2]
 ·rw [if_neg e,if_neg]
  rintro ⟨e1,e2⟩
  omega
theorem splice_right {xs bs vs:List Value} {o:Nat}:splice (xs ++ bs) (xs.length + o) vs = xs ++ splice bs o vs:=by
 unfold splice
 have h1:xs.take (xs.length + o) = xs:=List.take_of_length_le (by omega)
 have h2:xs.drop (xs.length + o + vs.length) = []:=List.drop_eq_nil_of_le (by omega)
 rw [List.take_append,List.drop_append,h1,h2]
 have e1:xs.length + o - xs.length = o:=by omega
 have e2:xs.length + o + vs.length - xs.length = o + vs.length:=by omega
 simp [List.append_assoc,e1,e2]
theorem splice_left {xs bs vs:List Value} {o:Nat} (h:o + vs.length <= xs.length):splice (xs ++ bs) o vs = splice xs o vs ++ bs:=by
 unfold splice
 rw [List.take_append_of_le_length (by omega),List.drop_append_of_le_length h]
 simp [List.append_assoc]
theorem splice_cons {x:Value} {bs vs:List Value} {o:Nat}:splice (x :: bs) (o + 1) vs = x :: splice bs o vs:=by
 have:=splice_right (xs:=[x]) (bs:=bs) (vs:=vs) (o:=o)
 simpa [Nat.add_comm] using this
theorem web_set_to {a b:Nat} (ha:a < 24) (hb:b < 24) (N:Int) (T R:Nat -> Nat -> Bool) (v:Bool):splice (webCells N T R) (1 + a * 24 + b) [.bool v] = webCells N (upd2 T a b v) R:=by
 obtain ⟨_,_,h3⟩:=cell_idx ha hb
 have e:1 + a * 24 + b = (a * 24 + b) + 1:=by omega
 rw [e,webCells,splice_cons,splice_left (by rw [bools_length]; simp only [List.length_singleton]; omega),mat_set ha hb]
 rfl
def updRow (M:Nat -> Nat -> Bool) (i:Nat) (S:Nat -> Bool):Nat -> Nat -> Bool:=fun a c => if a = i then S c else M a c
theorem mat_setRow {a:Nat} (ha:a < 24) (M:Nat -> Nat -> Bool) (S:Nat -> Bool):splice (mat M) (a * 24) (setCells S) = mat (updRow M a S):=by
 apply List.ext_getElem?
 intro k
 have hl:(splice (mat M) (a * 24) (setCells S)).length = 576:=by rw [splice_length (by simp only [bools_length]; omega),bools_length]
 by_cases hk:k < 576
 ·rw [bools_get hk]
  unfold splice
  simp only [updRow]
  rcases Nat.lt_or_ge k (a * 24) with h1 | h1
  ·rw [List.append_assoc,List.getElem?_append_left (by simp [bools_length]; omega),List.getElem?_take,if_pos h1,bools_get hk,if_neg (by omega)]
  ·rcases Nat.lt_or_ge k (a * 24 + 24) with h2 | h2
   ·have e1:k / 24 = a:=by omega
    rw [List.append_assoc,List.getElem?_append_right (by simp [bools_length]; omega),List.getElem?_append_left (by simp [bools_length]; omega)]
    simp only [List.length_take,bools_length]
    have:k - min (a * 24) 576 = k % 24:=by omega
    rw [this,bools_get (by omega),if_pos e1]
   ·rw [List.getElem?_append_right (by simp [bools_length]; omega)]
    simp only [List.length_append,List.length_take,bools_length,List.getElem?_drop]
    have:a * 24 + 24 + (k - (min (a * 24) 576 + 24)) = k:=by omega
    rw [this,bools_get hk,if_neg (by omega)]
 ·rw [List.getElem?_eq_none (by rw [hl]; omega),List.getElem?_eq_none (by rw [bools_length]; omega)]
theorem web_setRow {a:Nat} (ha:a < 24) (N:Int) (T R:Nat -> Nat -> Bool) (S:Nat -> Bool):splice (webCells N T R) (577 + a * 24) (setCells S) = webCells N T (updRow R a S):=by
 have e:577 + a * 24 = (576 + a * 24) + 1:=by omega
 rw [e,webCells,splice_cons]
 have e2:576 + a * 24 = (mat T).length + a * 24:=by rw [bools_length]
 rw [e2,splice_right,mat_setRow ha]
 rfl
theorem webCells_length (N:Int) (T R:Nat -> Nat -> Bool):(webCells N T R).length = 1153:=by simp [webCells,bools_length]
def members (S:Nat -> Bool):List Int:=((List.range 24).filter S).map (fun (k:Nat) => (k:Int))
inductive Path (T:Nat -> Nat -> Bool):Nat -> Nat -> Prop
 | one {a b:Nat}:T a b = true -> Path T a b
 | step {a b c:Nat}:Path T a b -> T b c = true -> Path T a c
theorem Path.trans {T:Nat -> Nat -> Bool} {a b c:Nat} (h:Path T a b) (k:Path T b c):Path T a c:=by
 induction k with
 | one h' => exact .step h h'
 | step _ h' ih => exact .step ih h'
theorem Path.head {T:Nat -> Nat -> Bool} {a b c:Nat} (h:T a b = true) (k:Path T b c):Path T a c:=(Path.one h).trans k
theorem Path.closed {T:Nat -> Nat -> Bool} {a b:Nat} (h:Path T a b) {S:Nat -> Prop} (h0:∀ c,T a c = true -> S c) (hs:∀ x c,S x -> T x c = true -> S c):S b:=by
 induction h with
 | one h' => exact h0 _ h'
 | step _ h' ih => exact hs _ _ ih h'
def Inside (n:Nat) (T:Nat -> Nat -> Bool):Prop:=∀ a b,T a b = true -> a < n ∧ b < n
theorem Path.inside {n:Nat} {T:Nat -> Nat -> Bool} (hT:Inside n T) {a b:Nat} (h:Path T a b):a < n ∧ b < n:=by
 induction h with
 | one h' => exact hT _ _ h'
 | step _ h' ih => exact ⟨ih.1,(hT _ _ h').2⟩
end Go.Proofs.YtigapannpbaihaaGreat.Rk
namespace Go.Proofs.YtigapannpbaihaaGreat.Rk
open Go.Eng Go.RowKit
def membersTo (S:Nat -> Bool) (n:Nat):List Int:=((List.range n).filter S).map (fun (k:Nat) => (k:Int))
theorem membersTo_succ (S:Nat -> Bool) (i:Nat):membersTo S (i + 1) = if S i then membersTo S i ++ [(i:Int)] else membersTo S i:=by
 unfold membersTo
 rw [List.range_succ,List.filter_append]
 by_cases h:S i = true
 ·simp [h]
 ·simp [h]
theorem membersTo_length (S:Nat -> Bool) (n:Nat):(membersTo S n).length <= n:=by
 unfold membersTo
 rw [List.length_map]
 exact Nat.le_trans (List.length_filter_le _ _) (by simp)
theorem ints_append (xs ys:List Int):ints (xs ++ ys) = ints xs ++ ints ys:=by simp [ints]
theorem ints_length (xs:List Int):(ints xs).length = xs.length:=by simp [ints]
def NewInts (w0 w:World) (v:Value) (xs:List Int):Prop:=w.ownsRow w0.heap.size 3 1 v xs.length (ints xs)
theorem NewInts.slice {w0 w:World} {v:Value} {xs:List Int} (h:NewInts w0 w v xs):∃ A c,v = .slice A xs.length c ∧ Reads w A (ints xs) ∧ xs.length <= c:=reads_of_owns h
theorem list_spec (S:Nat -> Bool) (w:World):CallsV C.P 162 #[.agg (setCells S).toArray] w fun v w' => NewInts w w' v (members S) ∧ Ext w w':=by
 refine callsV_of C_ok (args:=[_]) (plans:=[]) Tryz.func162 rfl Tryz.ntmps162 (by kernel_rfl) (Nat.le_of_ble_eq_true rfl) ?_
 intro g1 w1 h1
 have M1:=(Mem.start w).alloc h1
 refine ⟨setCells S,bools_length _ _,M1.rd 0 rfl,?_⟩
 refine loopE C_ok (fun (s:Nat × Value) => [(3,s.2),(6,.agg (setCells S).toArray),(7,.int .i64 s.1)])
  (fun s w' => Ext w w' ∧ s.1 <= 24 ∧ NewInts w w' s.2 (membersTo S s.1)) (fun s => 24 - s.1) (0,.slice none 0 0) ⟨rfl,rfl,rfl,trivial⟩ ⟨M1.ext,Nat.zero_le _,World.ownsRow_nil _ _ _ _⟩ ?_
 rintro ⟨i,v⟩ w2 ⟨E2,hi,ho⟩
 refine brE_dec (fun hlt => ?_) (fun hge => ?_)
 ·have hlt:i < 24:=by have:(i:Int) < 24:=hlt; omega
  refine ⟨i,rfl,hlt,?_⟩
  refine ⟨.bool (S i),by simpa using bools_get hlt S,?_⟩
  have hs:=membersTo_succ S i
  have next:IntKind.i64.wrap ((i:Int) + 1) = ((i + 1:Nat):Int):=fit ⟨by omega,by omega⟩
  refine brE_mk (fun hS => ?_) (fun hS => ?_)
  ·intro g3 w3 h3
   rw [if_pos hS] at hs
   have hlen:=membersTo_length S i
   have ho3:w3.ownsRow w.heap.size 3 1 v (membersTo S i).length (ints (membersTo S i)):=ownsRow_ext ho h3.ext
   refine ⟨rfl,rfl,rfl,w.heap.size,(membersTo S i).length,ints (membersTo S i),[.int .i64 i],ho3,(E2.trans h3.ext).size,Nat.lt_add_one 0,rfl,rfl,.inr ⟨g3,0,rfl,Rd.of_block h3.here⟩,rfl,rfl,by omega,by simp only [maxLen]; omega,?_⟩
   intro v4 w4 ho4 hg4 _
   refine ⟨_,next,?_⟩
   refine ⟨(i + 1,v4),⟨rfl,rfl,rfl,trivial⟩,⟨app_ext (E2.trans h3.ext) ho3 hg4,hlt,?_⟩,by show 24 - (i + 1) < 24 - i; omega⟩
   show w4.ownsRow _ _ _ _ _ _
   rw [hs,List.length_append,ints_append]
   exact ho4
  ·rw [if_neg (by rw [hS]; decide)] at hs
   refine ⟨_,next,?_⟩
   refine ⟨(i + 1,v),⟨rfl,rfl,rfl,trivial⟩,⟨E2,hlt,?_⟩,by show 24 - (i + 1) < 24 - i; omega⟩
   show w2.ownsRow _ _ _ _ _ _
   rw [hs]
   exact ho
 ·have:i = 24:=by have:¬ (i:Int) < 24:=hge; have hi:i <= 24:=hi; omega
  subst this
  exact ⟨ho,E2⟩
def Web (w:World) (g:Nat) (N:Int) (T R:Nat -> Nat -> Bool):Prop:=w.heap[g]? = some (.cells (webCells N T R).toArray 230 (0,0))
theorem Web.ext {w w':World} {g:Nat} {N:Int} {T R:Nat -> Nat -> Bool} (h:Web w g N T R) (e:Ext w w'):Web w' g N T R:=e.heap h
theorem Web.n {w:World} {g:Nat} {N:Int} {T R:Nat -> Nat -> Bool} (h:Web w g N T R):w.cell? ⟨g,0,none⟩ = some (.int .i64 N):=by
 simpa using (Rd.of_block h) 0 _ (web_n N T R)
theorem Web.toRow {w:World} {g:Nat} {N:Int} {T R:Nat -> Nat -> Bool} (h:Web w g N T R) {a:Nat} (ha:a < 24):Rd w g (0 + (0 + 1) + a * 24) (setCells (T a)):=by
 have:=Rd.part (k:=1 + a * 24) (Rd.of_block h) (web_to_row ha N T R)
 simpa using this
theorem Web.reach {w:World} {g:Nat} {N:Int} {T R:Nat -> Nat -> Bool} (h:Web w g N T R) {a b:Nat} (ha:a < 24) (hb:b < 24):w.cell? ⟨g,0 + (576 + 1) + a * 24 + b * 1,none⟩ = some (.bool (R a b)):=by
 have:=(Rd.of_block h) _ _ (web_reach ha hb N T R)
 simpa using this
abbrev inR (N x:Int):Bool:=decide (0 <= x ∧ x <= N - 1)
theorem has1_spec (x:Int) {w:World} {gb g:Nat} {N:Int} {T R:Nat -> Nat -> Bool} (hb:w.heap[gb]? = some (.cells #[.pointer (some ⟨g,0,none⟩)] 142 (0,0))) (hw:Web w g N T R) (hN:0 <= N ∧ N <= 24) :
  CallsV C.P 108 #[.int .i64 x,.pointer (some ⟨gb,0,none⟩)] w fun v w' => v = .bool (!inR N x) ∧ w' = w:=by
 refine callsV_of C_ok (args:=[_,_]) (plans:=[]) Tryz.func108 rfl Tryz.ntmps108 (by kernel_rfl) (Nat.le_of_ble_eq_true rfl) ?_
 refine ⟨.pointer (some ⟨g,0,none⟩),cell_of_block hb rfl,?_⟩
 refine ⟨_,hw.n,?_⟩
 refine ⟨N - 1,fit ⟨by omega,by omega⟩,?_⟩
 refine (in_spec _ _ _ _).mono ?_
 rintro v w1 ⟨rfl,rfl⟩
 exact ⟨rfl,rfl⟩
theorem IndexFunc_has {w:World} {gb g:Nat} {N:Int} {T R:Nat -> Nat -> Bool} (hb:w.heap[gb]? = some (.cells #[.pointer (some ⟨g,0,none⟩)] 142 (0,0))) (hw:Web w g N T R) (hN:0 <= N ∧ N <= 24) {A:Option Addr} {xs:List Int} {c:Nat} (hr:Reads w A (ints xs)) (hl:xs.length <= 9223372036854775807) :
  CallsV C.P 163 #[.slice A xs.length c,.func (.func 108) #[] #[.pointer (some ⟨gb,0,none⟩)]] w fun v w' => (∃ i:Int,v = .int .i64 i ∧ (i >= 0 <-> xs.all (inR N) = false)) ∧ w' = w:=by
 refine callsV_of C_ok (args:=[_,_]) (plans:=[]) Tryz.func163 rfl Tryz.ntmps163 (by kernel_rfl) (Nat.le_of_ble_eq_true rfl) ?_
 refine loopE C_ok (fun (i:Nat) => [(0,.slice A xs.length c),(1,.func (.func 108) #[] #[.pointer (some ⟨gb,0,none⟩)]),(7,.int .i64 xs.length),(8,.int .i64 i)])
  (fun i w' => w' = w ∧ i <= xs.length ∧ ∀ j (h:j < xs.length),j < i -> inR N xs[j] = true) (fun i => xs.length - i) 0 ⟨rfl,rfl,rfl,rfl,trivial⟩ ⟨rfl,Nat.zero_le _,fun _ _ h => absurd h (Nat.not_lt_zero _)⟩ ?_
 rintro i w2 ⟨rfl,hi,hall⟩
 refine brE_dec (fun hlt => ?_) (fun hge => ?_)
 ·have hlt:i < xs.length:=by omega
  obtain ⟨b,o,hA,hc⟩:=Reads.int hr hlt
  refine ⟨i,b,o,rfl,hlt,hA,?_⟩
  refine ⟨_,by simpa using hc,?_⟩
  refine (has1_spec _ hb hw hN).mono ?_
  rintro v w3 ⟨rfl,rfl⟩
  refine brE_mk (fun h2 => ?_) (fun h2 => ?_)
  ·refine ⟨⟨i,rfl,?_⟩,rfl⟩
   constructor
   ·intro _
    rw [List.all_eq_false]
    rw [Bool.not_eq_true'] at h2
    exact ⟨xs[i],List.getElem_mem hlt,by rw [h2]; exact Bool.false_ne_true⟩
   ·intro _; omega
  ·refine ⟨((i + 1:Nat):Int),fit ⟨by omega,by omega⟩,?_⟩
   refine ⟨i + 1,⟨rfl,rfl,rfl,rfl,trivial⟩,⟨rfl,hlt,fun j hj hji => ?_⟩,by omega⟩
   rcases Nat.lt_or_ge j i with h | h
   ·exact hall j hj h
   ·obtain rfl:j = i:=by omega
    rwa [Bool.not_eq_false'] at h2
 ·have:i = xs.length:=by omega
  subst this
  refine ⟨⟨-1,rfl,?_⟩,rfl⟩
  constructor
  ·intro h; omega
  ·intro h
   rw [List.all_eq_false] at h
   obtain ⟨x,hx,hn⟩:=h
   obtain ⟨j,hj,rfl⟩:=List.getElem_of_mem hx
   exact absurd (hall j hj hj) hn
theorem has_spec {w:World} {g:Nat} {N:Int} {T R:Nat -> Nat -> Bool} (hw:Web w g N T R) (hN:0 <= N ∧ N <= 24) {A:Option Addr} {xs:List Int} {c:Nat} (hr:Reads w A (ints xs)) (hl:xs.length <= 9223372036854775807) :
  CallsV C.P 50 #[.pointer (some ⟨g,0,none⟩),.slice A xs.length c] w fun v w' => v = .bool (xs.all (inR N)) ∧ Ext w w':=by
 refine callsV_of C_ok (args:=[_,_]) (plans:=[]) Tryz.func50 rfl Tryz.ntmps50 (by kernel_rfl) (Nat.le_of_ble_eq_true rfl) ?_
 intro gb w1 h1
 refine ⟨[],[.pointer (some ⟨gb,0,none⟩)],rfl,rfl,?_⟩
 have hc:CallsV C.P 107 #[.slice A xs.length c,.func (.func 108) #[] #[.pointer (some ⟨gb,0,none⟩)]] w1 fun v w' => v = .bool (!xs.all (inR N)) ∧ w' = w1:=by
  refine callsV_of C_ok (args:=[_,_]) (plans:=[]) Tryz.func107 rfl Tryz.ntmps107 (by kernel_rfl) (Nat.le_of_ble_eq_true rfl) ?_
  refine (IndexFunc_has h1.here (hw.ext h1.ext) hN (hr.ext h1.ext) hl).mono ?_
  rintro v w2 ⟨⟨i,rfl,hi⟩,rfl⟩
  refine ⟨?_,rfl⟩
  congr 1
  by_cases h:i >= 0
  ·simp [hi.1 h,h]
  ·have:xs.all (inR N) = true:=by
    cases hx:xs.all (inR N) with
    | true => rfl
    | false => exact absurd (hi.2 hx) h
   simp [this,h]
 refine hc.mono ?_
 rintro v w2 ⟨rfl,rfl⟩
 exact ⟨by simp,h1.ext⟩
def standR (R:Nat -> Nat -> Bool) (a b:Nat):Int:=if a = b then 0 else if R a b && R b a then 3 else if R a b then 1 else if R b a then 2 else 0
theorem standing_spec {w:World} {g:Nat} {N:Int} {T R:Nat -> Nat -> Bool} (hw:Web w g N T R) {a b:Nat} (ha:a < 24) (hb:b < 24) :
  CallsV C.P 51 #[.pointer (some ⟨g,0,none⟩),.int .i64 a,.int .i64 b] w fun v w' => v = .int .u8 (standR R a b) ∧ w' = w:=by
 refine callsV_of C_ok (args:=[_,_,_]) (plans:=plans51) Tryz.func51 rfl Tryz.ntmps51 (by kernel_rfl) (Nat.le_of_ble_eq_true rfl) ?_
 refine ⟨a,rfl,ha,b,rfl,hb,?_⟩
 refine ⟨_,hw.reach ha hb,?_⟩
 refine ⟨b,rfl,hb,a,rfl,ha,?_⟩
 refine ⟨_,hw.reach hb ha,?_⟩
 refine brE_dec (fun hab => ?_) (fun hab => ?_)
 ·have:a = b:=by omega
  exact ⟨by simp [standR,this],rfl⟩
 have hne:¬ a = b:=by omega
 refine brE_mk (fun h1 => ?_) (fun h1 => ?_)
 ·refine brE_mk (fun h2 => ?_) (fun h2 => ?_)
  ·refine ⟨?_,rfl⟩
   rw [Bool.not_eq_true'] at h1 h2
   simp [standR,hne,h1,h2]
  ·rw [Bool.not_eq_true'] at h1
   rw [Bool.not_eq_false'] at h2
   refine brE_false h1 ?_
   refine brE_false h1 ?_
   exact ⟨by simp [standR,hne,h1,h2],rfl⟩
 ·rw [Bool.not_eq_false'] at h1
  refine brE_true h1 ?_
  refine brE_mk (fun h2 => ?_) (fun h2 => ?_)
  ·exact ⟨by simp [standR,hne,h1,h2],rfl⟩
  ·refine brE_true h1 ?_
   exact ⟨by simp [standR,hne,h1,h2],rfl⟩
end Go.Proofs.YtigapannpbaihaaGreat.Rk
namespace Go.Proofs.YtigapannpbaihaaGreat.Rk
open Go.Eng Go.RowKit
def unseen (S:Nat -> Bool):Nat:=((List.range 24).filter fun k => !S k).length
theorem filter_le {p q:Nat -> Bool} (l:List Nat) (h:∀ k,p k = true -> q k = true):(l.filter p).length <= (l.filter q).length:=by
 induction l with
 | nil => simp
 | cons a l ih =>
  by_cases hp:p a = true
  ·simp [hp,h a hp]; exact ih
  ·by_cases hq:q a = true
   ·simp [hp,hq]; omega
   ·simp [hp,hq]; exact ih
theorem filter_lt {p q:Nat -> Bool} (l:List Nat) (h:∀ k,p k = true -> q k = true) {y:Nat} (hy:y ∈ l) (hp:p y = false) (hq:q y = true):(l.filter p).length < (l.filter q).length:=by
 induction l with
 | nil => simp at hy
 | cons a l ih =>
  by_cases e:y = a
  ·subst e
   have:=filter_le l h
   simp [hp,hq]; omega
  ·have:=ih (by simpa [e] using hy)
   by_cases ha:p a = true
   ·simp [ha,h a ha]; exact this
   ·by_cases hb:q a = true
    ·simp [ha,hb]; omega
    ·simp [ha,hb]; exact this
theorem unseen_mono {S S':Nat -> Bool} (h:∀ k,S k = true -> S' k = true):unseen S' <= unseen S :=
 filter_le _ fun k hk => by
  cases hS:S k with
  | true => rw [h k hS] at hk; cases hk
  | false => rfl
theorem unseen_upd {S:Nat -> Bool} {y:Nat} (hy:y < 24) (h:S y = false):unseen (upd S y true) < unseen S :=
 filter_lt _ (fun k hk => by
  simp only [upd] at hk
  by_cases e:k = y
  ·subst e; simp at hk
  ·simpa [e] using hk) (List.mem_range.2 hy) (by simp [upd]) (by simp [h])
theorem members_get {S:Nat -> Bool} {i:Nat} (hi:i < (members S).length):∃ k:Nat,(members S)[i] = (k:Int) ∧ k < 24 ∧ S k = true:=by
 have hm:=List.getElem_mem hi
 obtain ⟨k,hk,e⟩:=List.mem_map.1 hm
 obtain ⟨h1,h2⟩:=List.mem_filter.1 hk
 exact ⟨k,e.symm,List.mem_range.1 h1,h2⟩
theorem members_mem {S:Nat -> Bool} {k:Nat} (hk:k < 24) (h:S k = true):∃ i,∃ hi:i < (members S).length,(members S)[i] = (k:Int):=by
 have:(k:Int) ∈ members S:=List.mem_map.2 ⟨k,List.mem_filter.2 ⟨List.mem_range.2 hk,h⟩,rfl⟩
 obtain ⟨i,hi,e⟩:=List.getElem_of_mem this
 exact ⟨i,hi,e⟩
structure Vis (T:Nat -> Nat -> Bool) (x:Nat) (S S':Nat -> Bool):Prop where
 keeps:∀ k,S k = true -> S' k = true
 next:∀ y < 24,T x y = true -> S' y = true
 new:∀ z,S' z = true -> S z = false -> Path T x z ∧ ∀ y < 24,T z y = true -> S' y = true
structure VisMem (w:World) (g gb gs gv:Nat) (N:Int) (T R:Nat -> Nat -> Bool) (S:Nat -> Bool):Prop where
 web:Web w g N T R
 box:w.heap[gb]? = some (.cells #[.pointer (some ⟨g,0,none⟩)] 142 (0,0))
 seen:w.heap[gs]? = some (.cells (setCells S).toArray 227 (0,0))
 fn:w.heap[gv]? = some (.cells #[.func (.func 161) #[] #[.pointer (some ⟨gb,0,none⟩),.pointer (some ⟨gs,0,none⟩),.pointer (some ⟨gv,0,none⟩)]] 281 (0,0))
theorem VisMem.ne {w:World} {g gb gs gv:Nat} {N:Int} {T R:Nat -> Nat -> Bool} {S:Nat -> Bool} (h:VisMem w g gb gs gv N T R S):g ≠ gs ∧ gb ≠ gs ∧ gv ≠ gs:=by
 refine ⟨fun e => ?_,fun e => ?_,fun e => ?_⟩
 ·subst e; have:=h.web.symm.trans h.seen; simp at this
 ·subst e; have:=h.box.symm.trans h.seen; simp at this
 ·subst e; have:=h.fn.symm.trans h.seen; simp at this
theorem VisMem.ext {w w':World} {g gb gs gv:Nat} {N:Int} {T R:Nat -> Nat -> Bool} {S:Nat -> Bool} (h:VisMem w g gb gs gv N T R S) (e:Ext w w'):VisMem w' g gb gs gv N T R S :=
 ⟨h.web.ext e,e.heap h.box,e.heap h.seen,e.heap h.fn⟩
theorem VisMem.grown {w w':World} {g gb gs gv:Nat} {N:Int} {T R:Nat -> Nat -> Bool} {S S':Nat -> Bool} (h:VisMem w g gb gs gv N T R S) (hg:w.grownBy w' (some gs)) (hs:w'.heap[gs]? = some (.cells (setCells S').toArray 227 (0,0))) :
  VisMem w' g gb gs gv N T R S' :=
 ⟨grownBy_heap hg h.web h.ne.1,grownBy_heap hg h.box h.ne.2.1,hs,grownBy_heap hg h.fn h.ne.2.2⟩
theorem visit_spec (m:Nat):∀ (x:Nat) (S:Nat -> Bool) (w:World) (g gb gs gv:Nat) (N:Int) (T R:Nat -> Nat -> Bool),unseen S <= m -> x < 24 -> VisMem w g gb gs gv N T R S →
  CallsV C.P 161 #[.int .i64 x,.pointer (some ⟨gb,0,none⟩),.pointer (some ⟨gs,0,none⟩),.pointer (some ⟨gv,0,none⟩)] w fun _ w' =>
   ∃ S',Vis T x S S' ∧ w.grownBy w' (some gs) ∧ w'.heap[gs]? = some (.cells (setCells S').toArray 227 (0,0)):=by
 induction m using Nat.strongRecOn with
 | _ m ih =>
 intro x S w g gb gs gv N T R hm hx hv
 refine callsV_of C_ok (args:=[_,_,_,_]) (plans:=[]) Tryz.func161 rfl Tryz.ntmps161 (by kernel_rfl) (Nat.le_of_ble_eq_true rfl) ?_
 refine ⟨.pointer (some ⟨g,0,none⟩),cell_of_block hv.box rfl,?_⟩
 refine ⟨x,rfl,hx,?_⟩
 refine ⟨setCells (T x),bools_length _ _,hv.web.toRow hx,?_⟩
 refine (list_spec (T x) w).mono ?_
 rintro v w1 ⟨hl,he⟩
 obtain ⟨A,c,rfl,hr,hc⟩:=hl.slice
 have hblk:∀ b o,A = some ⟨b,o,none⟩ -> b ≠ gs:=by
  rintro b o rfl e
  have:=(hl.lt b rfl).1
  have h2:=lt_of_heap hv.seen
  omega
 have hv1:=hv.ext he
 refine loopE C_ok (fun (s:Nat × (Nat -> Bool)) => [(1,.pointer (some ⟨gb,0,none⟩)),(2,.pointer (some ⟨gs,0,none⟩)),(3,.pointer (some ⟨gv,0,none⟩)),(13,.slice A (members (T x)).length c),(14,.int .i64 (members (T x)).length),(15,.int .i64 s.1)])
  (fun s w' => w1.grownBy w' (some gs) ∧ VisMem w' g gb gs gv N T R s.2 ∧ s.1 <= (members (T x)).length ∧ (∀ k,S k = true -> s.2 k = true) ∧
   (∀ j (h:j < (members (T x)).length) (k:Nat),j < s.1 -> (members (T x))[j] = (k:Int) -> s.2 k = true) ∧
   (∀ z,s.2 z = true -> S z = false -> Path T x z ∧ ∀ y < 24,T z y = true -> s.2 y = true)) (fun s => (members (T x)).length - s.1) (0,S)
  ⟨rfl,rfl,rfl,rfl,rfl,rfl,trivial⟩ ⟨grownBy_refl _ _,hv1,Nat.zero_le _,fun _ h => h,fun _ _ _ h => absurd h (Nat.not_lt_zero _),fun z (h1:S z = true) h2 => (by rw [h2] at h1; cases h1)⟩ ?_
 rintro ⟨i,S2⟩ w2 ⟨hg2,hv2,hi,hkeep,hdone,hnew⟩
 have hi:i <= (members (T x)).length:=hi
 have hml:(members (T x)).length <= 24:=membersTo_length _ 24
 refine brE_dec (fun hlt => ?_) (fun hge => ?_)
 ·have hlt:i < (members (T x)).length:=by have:(i:Int) < ((members (T x)).length:Nat):=hlt; omega
  obtain ⟨k,ek,hk,hTk⟩:=members_get hlt
  obtain ⟨b,o,hA,hc⟩:=Reads.int (reads_grown_by hblk hr hg2) hlt
  rw [ek] at hc
  have next:IntKind.i64.wrap ((i:Int) + 1) = ((i + 1:Nat):Int):=fit ⟨by omega,by omega⟩
  refine ⟨i,b,o,rfl,hlt,hA,?_⟩
  refine ⟨_,by simpa using hc,?_⟩
  refine ⟨k,rfl,hk,?_⟩
  refine ⟨.bool (S2 k),by have:=(Rd.of_block hv2.seen) k _ (bools_get hk S2); simpa using this,?_⟩
  refine brE_mk (fun hS => ?_) (fun hS => ?_)
  ·have hS:S2 k = false:=by simpa using hS
   refine ⟨k,rfl,hk,?_⟩
   refine ⟨rfl,_,_,hv2.seen,by rw [bools_length]; show 0 + k * 1 + 1 <= 24; omega,rfl,?_⟩
   intro w3 h3
   have e3:splice (setCells S2) (0 + k * 1) [.bool true] = setCells (upd S2 k true):=by
    have:=bools_set hk S2 true
    simpa using this
   have h3:Put w2 gs (.cells (setCells (upd S2 k true)).toArray 227 (0,0)) w3:=by rw [<-e3]; exact h3
   have hv3:=hv2.grown h3.grownBy h3.here
   refine ⟨_,cell_of_block hv3.fn rfl,?_⟩
   have hlt3:unseen (upd S2 k true) < m:=by
    have h1:=unseen_upd hk hS
    have h2:unseen S2 <= unseen S:=unseen_mono hkeep
    omega
   refine (ih (unseen (upd S2 k true)) hlt3 k (upd S2 k true) w3 g gb gs gv N T R (Nat.le_refl _) hk hv3).mono ?_
   rintro v w4 ⟨S4,hvis,hg4,hs4⟩
   refine ⟨_,next,?_⟩
   have hup:∀ z,S2 z = true -> S4 z = true:=fun z hz => hvis.keeps z (by simp only [upd]; split <;> simp_all)
   have hk4:S4 k = true:=hvis.keeps k (by simp [upd])
   refine ⟨(i + 1,S4),⟨rfl,rfl,rfl,rfl,rfl,rfl,trivial⟩,⟨grownBy_trans (grownBy_trans hg2 h3.grownBy) hg4,hv3.grown hg4 hs4,hlt,fun z hz => hup z (hkeep z hz),?_,?_⟩,by show _ - (i + 1) < _ - i; omega⟩
   ·intro j hj k' hji ek'
    have hji:j < i + 1:=hji
    rcases Nat.lt_or_ge j i with h | h
    ·exact hup _ (hdone j hj k' h ek')
    ·obtain rfl:j = i:=by omega
     have:k' = k:=by rw [ek] at ek'; omega
     subst this; exact hk4
   ·intro z hz hSz
    by_cases h2:S2 z = true
    ·obtain ⟨p,q⟩:=hnew z h2 hSz
     exact ⟨p,fun y hy ht => hup y (q y hy ht)⟩
    ·by_cases hzk:z = k
     ·subst hzk
      exact ⟨.one hTk,fun y hy ht => hvis.next y hy ht⟩
     ·obtain ⟨p,q⟩:=hvis.new z hz (by simp [upd,hzk]; simpa using h2)
      exact ⟨Path.head hTk p,q⟩
  ·have hS:S2 k = true:=by simpa using hS
   refine ⟨_,next,?_⟩
   refine ⟨(i + 1,S2),⟨rfl,rfl,rfl,rfl,rfl,rfl,trivial⟩,⟨hg2,hv2,hlt,hkeep,?_,hnew⟩,by show _ - (i + 1) < _ - i; omega⟩
   intro j hj k' hji ek'
   have hji:j < i + 1:=hji
   rcases Nat.lt_or_ge j i with h | h
   ·exact hdone j hj k' h ek'
   ·obtain rfl:j = i:=by omega
    have:k' = k:=by rw [ek] at ek'; omega
    subst this; exact hS
 ·have:i = (members (T x)).length:=by have:¬ (i:Int) < ((members (T x)).length:Nat):=hge; omega
  subst this
  refine ⟨S2,⟨hkeep,fun y hy ht => ?_,hnew⟩,grownBy_trans (ext_grownBy he _) hg2,hv2.seen⟩
  obtain ⟨j,hj,ej⟩:=members_mem hy ht
  exact hdone j hj y hj ej
end Go.Proofs.YtigapannpbaihaaGreat.Rk
namespace Go.Proofs.YtigapannpbaihaaGreat.Rk
open Go.Eng Go.RowKit
open Classical in
noncomputable def reach (T:Nat -> Nat -> Bool) (a b:Nat):Bool:=decide (Path T a b)
theorem reach_iff {T:Nat -> Nat -> Bool} {a b:Nat}:reach T a b = true <-> Path T a b:=by simp [reach]
theorem reach_false {T:Nat -> Nat -> Bool} {a b:Nat}:reach T a b = false <-> ¬ Path T a b:=by simp [reach]
theorem reach_of_vis {T:Nat -> Nat -> Bool} (hT:Inside 24 T) {x:Nat} {S:Nat -> Bool} (h:Vis T x (fun _ => false) S):S = reach T x:=by
 funext z
 rw [Bool.eq_iff_iff,reach_iff]
 constructor
 ·intro hz; exact (h.new z hz rfl).1
 ·intro hp
  exact hp.closed (S:=fun z => S z = true) (fun c hc => h.next c (hT _ _ hc).2 hc) (fun y c hy hc => (h.new y hy rfl).2 c (hT _ _ hc).2 hc)
theorem set_size (S:Nat -> Bool):(Value.agg (setCells S).toArray).cells.size = 24:=by simp [Value.cells,bools_length]
theorem from_spec {w:World} {g:Nat} {N:Int} {T R:Nat -> Nat -> Bool} (hw:Web w g N T R) (hT:Inside 24 T) {x:Nat} (hx:x < 24) :
  CallsV C.P 106 #[.pointer (some ⟨g,0,none⟩),.int .i64 x] w fun v w' => v = .agg (setCells (reach T x)).toArray ∧ Ext w w':=by
 refine callsV_of C_ok (args:=[_,_]) (plans:=[]) Tryz.func106 rfl Tryz.ntmps106 (by kernel_rfl) (Nat.le_of_ble_eq_true rfl) ?_
 intro gb w1 h1
 intro gr w2 h2
 intro gs w3 h3
 intro gv w4 h4
 have M4:Mem w w4 [(gv,.cells #[.nilFunc] 281 (0,0)),(gs,.cells (List.replicate 24 (.bool false)).toArray 227 (0,0)),(gr,.cells (List.replicate 24 (.bool false)).toArray 227 (0,0)),(gb,.cells #[.pointer (some ⟨g,0,none⟩)] 142 (0,0))] :=
  ((((Mem.start w).alloc h1).alloc h2).alloc h3).alloc h4
 refine ⟨[],[.pointer (some ⟨gb,0,none⟩),.pointer (some ⟨gs,0,none⟩),.pointer (some ⟨gv,0,none⟩)],rfl,rfl,?_⟩
 refine ⟨rfl,_,_,M4.get 0 rfl,Nat.le_of_ble_eq_true rfl,rfl,?_⟩
 intro w5 h5
 have M5:=M4.put 0 rfl h5
 have hz:=bools_false 24
 have hv:VisMem w5 g gb gs gv N T R (fun _ => false) :=
  ⟨hw.ext M5.ext,M5.get 3 rfl,by rw [setCells,<-hz]; exact M5.get 1 rfl,M5.get 0 rfl⟩
 refine ⟨_,cell_of_block hv.fn rfl,?_⟩
 refine (visit_spec _ x _ w5 g gb gs gv N T R (Nat.le_refl _) hx hv).mono ?_
 rintro v w6 ⟨S,hvis,hg,hs⟩
 have hS:=reach_of_vis hT hvis
 subst hS
 have hE6:Ext w w6:=(M5.tail.tail.tail.tail.grown hg (fun k hk => by cases hk; exact M5.new 1 rfl) (fun p hp => (by cases hp))).ext
 have hr6:w6.heap[gr]? = some (.cells (List.replicate 24 (.bool false)).toArray 227 (0,0)):=by
  refine grownBy_heap hg (M5.get 2 rfl) ?_
  rw [h2.new,h3.new,h2.size]
  omega
 refine ⟨_,bools_length _ _,Rd.of_block hs,?_⟩
 refine ⟨set_size _,_,_,hr6,Nat.le_of_ble_eq_true rfl,bools_one 24 (reach T x),?_⟩
 intro w7 h7
 have e7:splice (List.replicate 24 (Value.bool false)) 0 (setCells (reach T x)) = setCells (reach T x):=by
  unfold splice
  rw [bools_length]
  simp
 have h7:Put w6 gr (.cells (setCells (reach T x)).toArray 227 (0,0)) w7:=by rw [<-e7]; exact h7
 refine ⟨_,bools_length _ _,Rd.of_block h7.here,?_⟩
 exact ⟨rfl,h7.ext_of hE6 (M5.new 2 rfl)⟩
def toM (xs:List Arrow) (a b:Nat):Bool:=xs.any fun x => decide (x.fr = (a:Int) ∧ x.to = (b:Int))
structure Valid (N:Int) (xs:List Arrow):Prop where
 lo:0 <= N
 hi:N <= 24
 ok:allOk N xs = true
theorem valid_of_chk {N:Int} {xs:List Arrow} (h:chk N xs = 0):Valid N xs:=by
 unfold chk at h
 by_cases h1:N > 24
 ·rw [if_pos h1] at h; cases h
 ·rw [if_neg h1] at h
  by_cases h2:N < 0
  ·rw [if_pos h2] at h; cases h
  ·rw [if_neg h2] at h
   by_cases h3:allOk N xs = true
   ·exact ⟨by omega,by omega,h3⟩
   ·rw [if_neg h3] at h; cases h
theorem Valid.chk {N:Int} {xs:List Arrow} (h:Valid N xs):chk N xs = 0:=by
 unfold Rk.chk
 rw [if_neg (by have:=h.hi; omega),if_neg (by have:=h.lo; omega),if_pos h.ok]
theorem Valid.at_ {N:Int} {xs:List Arrow} (h:Valid N xs) {i:Nat} (hi:i < xs.length):okAt N xs i = true:=List.all_eq_true.1 h.ok i (List.mem_range.2 hi)
theorem Valid.good {N:Int} {xs:List Arrow} (h:Valid N xs) {i:Nat} (hi:i < xs.length):goodA N xs[i] = true:=by
 have:=h.at_ hi
 unfold okAt at this
 simp [hi] at this
 exact this.1
theorem goodA_spec {N:Int} {x:Arrow} (h:goodA N x = true):0 <= x.fr ∧ x.fr <= N - 1 ∧ 0 <= x.to ∧ x.to <= N - 1 ∧ x.fr ≠ x.to ∧ 0 <= x.rule ∧ x.rule <= 23 ∧ 1 <= x.wt ∧ x.wt <= 1000:=by
 simp only [goodA,Bool.and_eq_true,decide_eq_true_eq,Bool.not_eq_true',decide_eq_false_iff_not] at h
 obtain ⟨⟨⟨⟨⟨a,b⟩,c,d⟩,e⟩,f,g⟩,i,j⟩:=h
 exact ⟨a,b,c,d,e,f,g,i,j⟩
theorem Valid.inside {N:Int} {xs:List Arrow} (h:Valid N xs):Inside N.toNat (toM xs):=by
 intro a b hab
 unfold toM at hab
 obtain ⟨x,hx,hd⟩:=List.any_eq_true.1 hab
 obtain ⟨i,hi,rfl⟩:=List.getElem_of_mem hx
 have:=goodA_spec (h.good hi)
 have hd:=of_decide_eq_true hd
 omega
theorem Valid.inside24 {N:Int} {xs:List Arrow} (h:Valid N xs):Inside 24 (toM xs):=fun a b hab => by
 have:=h.inside a b hab
 have:=h.hi
 omega
theorem toM_take {xs:List Arrow} {i:Nat} (hi:i < xs.length) {a b:Nat} (ha:xs[i].fr = (a:Int)) (hb:xs[i].to = (b:Int)):upd2 (toM (xs.take i)) a b true = toM (xs.take (i + 1)):=by
 funext p q
 unfold toM upd2
 rw [List.take_succ_eq_append_getElem hi,List.any_append]
 simp only [List.any_cons,List.any_nil,Bool.or_false,ha,hb]
 by_cases h:p = a ∧ q = b
 ·obtain ⟨rfl,rfl⟩:=h; simp
 ·have:¬ ((a:Int) = (p:Int) ∧ (b:Int) = (q:Int)):=by omega
  rw [if_neg h,decide_eq_false this,Bool.or_false]
theorem web_zero (N:Int):splice ([Value.int .i64 0] ++ List.replicate 1152 (.bool false)) 0 [.int .i64 N] = webCells N (fun _ _ => false) (fun _ _ => false):=by
 have h:=bools_false 1152
 have e:List.replicate 1152 (Value.bool false) = mat (fun _ _ => false) ++ mat (fun _ _ => false):=by
  have h1:=bools_false 576
  have:List.replicate 1152 (Value.bool false) = List.replicate 576 (Value.bool false) ++ List.replicate 576 (Value.bool false):=by
   rw [List.replicate_append_replicate]
  rw [this,h1]
 rw [webCells,<-e]
 rfl
theorem open_no {N:Int} {A:Option Addr} {xs:List Arrow} {c:Nat} {w:World} (h:HRel w N A xs c) (hbad:chk N xs ≠ 0) :
  CallsV C.P 49 #[relVal N A xs.length c] w fun v w' => v = .tuple #[.pointer none,.bool false] ∧ Ext w w':=by
 refine callsV_of C_ok (args:=[_]) (plans:=plans49) Tryz.func49 rfl Tryz.ntmps49 (by kernel_rfl) (Nat.le_of_ble_eq_true rfl) ?_
 intro g1 w1 h1
 have M1:=(Mem.start w).alloc h1
 refine ⟨[.int .i64 N,.slice A xs.length c],rfl,M1.rd 0 rfl,?_⟩
 refine (Check_spec (h.ext M1.ext)).mono ?_
 rintro v w2 ⟨rfl,he⟩
 refine brE_true (by simpa using hbad) ?_
 exact ⟨rfl,(M1.grow he).ext⟩
theorem open_yes {N:Int} {A:Option Addr} {xs:List Arrow} {c:Nat} {w:World} (h:HRel w N A xs c) (hok:Valid N xs) :
  CallsV C.P 49 #[relVal N A xs.length c] w fun v w' => ∃ g,v = .tuple #[.pointer (some ⟨g,0,none⟩),.bool true] ∧ w.heap.size <= g ∧ Web w' g N (toM xs) (reach (toM xs)) ∧ Ext w w':=by
 have hlen:=h.len
 have hcap:=h.cap
 obtain ⟨n,rfl⟩:=Int.eq_ofNat_of_zero_le hok.lo
 have hn:n <= 24:=by have:=hok.hi; omega
 have hin:=hok.inside24
 refine callsV_of C_ok (args:=[_]) (plans:=plans49) Tryz.func49 rfl Tryz.ntmps49 (by kernel_rfl) (Nat.le_of_ble_eq_true rfl) ?_
 intro g1 w1 h1
 have M1:=(Mem.start w).alloc h1
 refine ⟨[.int .i64 n,.slice A xs.length c],rfl,M1.rd 0 rfl,?_⟩
 refine (Check_spec (h.ext M1.ext)).mono ?_
 rintro v w2 ⟨rfl,he⟩
 refine brE_false (by simp [hok.chk]) ?_
 have M2:=M1.grow he
 refine ⟨_,M2.cell 0 rfl rfl,?_⟩
 intro gw w3 h3
 have M3:Mem w w3 [(gw,.cells (webCells n (toM (xs.take 0)) (fun _ _ => false)).toArray 230 (0,0)),(g1,.cells #[.int .i64 n,.slice A xs.length c] 36 (0,0))]:=by
  have:=M2.alloc h3
  have e:webCells n (toM (xs.take 0)) (fun _ _ => false) = webCells n (fun _ _ => false) (fun _ _ => false):=rfl
  rw [e,<-web_zero]
  exact this
 refine ⟨_,M3.cell 1 rfl rfl,?_⟩
 refine loopE C_ok (fun (i:Nat) => [(4,.pointer (some ⟨gw,0,none⟩)),(16,.slice A xs.length c),(17,.int .i64 xs.length),(18,.int .i64 i)])
  (fun i w' => i <= xs.length ∧ Mem w w' [(gw,.cells (webCells n (toM (xs.take i)) (fun _ _ => false)).toArray 230 (0,0))]) (fun i => xs.length - i) 0 ⟨rfl,rfl,rfl,rfl,trivial⟩
  ⟨Nat.zero_le _,M3.sub (List.Sublist.cons_cons _ (List.nil_sublist _))⟩ ?_
 rintro i w4 ⟨hi,M4⟩
 refine brE_dec (fun hlt => ?_) (fun hge => ?_)
 ·have hlt:i < xs.length:=by omega
  obtain ⟨b,o,hA,hr⟩:=Reads.arrow h.reads hlt
  have hg:=goodA_spec (hok.good hlt)
  obtain ⟨p,hp⟩:=Int.eq_ofNat_of_zero_le hg.1
  obtain ⟨q,hq⟩:=Int.eq_ofNat_of_zero_le hg.2.2.1
  have hp24:p < 24:=by omega
  have hq24:q < 24:=by omega
  refine ⟨i,b,o,rfl,hlt,hA,?_⟩
  refine ⟨xs[i].cells,rfl,M4.oldRd hr,?_⟩
  intro gx w5 h5
  have M5:=M4.alloc h5
  refine ⟨rfl,_,_,M5.get 0 rfl,Nat.le_of_ble_eq_true rfl,rfl,?_⟩
  intro w6 h6
  have M6:Mem w w6 [(gx,.cells xs[i].cells.toArray 189 (0,0)),(gw,.cells (webCells n (toM (xs.take i)) (fun _ _ => false)).toArray 230 (0,0))]:=M5.put 0 rfl h6
  refine ⟨.int .i64 (p:Int),by rw [<-hp]; exact M6.cell 0 rfl rfl,?_⟩
  refine ⟨.int .i64 (q:Int),by rw [<-hq]; exact M6.cell 0 rfl rfl,?_⟩
  refine ⟨p,rfl,hp24,?_⟩
  refine ⟨q,rfl,hq24,?_⟩
  refine ⟨rfl,_,_,M6.get 1 rfl,by rw [webCells_length]; show 0 + (0 + 1) + p * 24 + q * 1 + 1 <= 1153; omega,rfl,?_⟩
  intro w7 h7
  have e7:splice (webCells n (toM (xs.take i)) (fun _ _ => false)) (0 + (0 + 1) + p * 24 + q * 1) [.bool true] = webCells n (toM (xs.take (i + 1))) (fun _ _ => false):=by
   rw [<-toM_take hlt hp hq,<-web_set_to hp24 hq24]
   congr 1
   omega
  have h7:Put w6 gw (.cells (webCells n (toM (xs.take (i + 1))) (fun _ _ => false)).toArray 230 (0,0)) w7:=by rw [<-e7]; exact h7
  refine ⟨((i + 1:Nat):Int),fit ⟨by omega,by omega⟩,?_⟩
  exact ⟨i + 1,⟨rfl,rfl,rfl,rfl,trivial⟩,⟨hlt,(M6.put 1 rfl h7).tail⟩,by omega⟩
 ·have:i = xs.length:=by omega
  subst this
  rw [List.take_length] at M4
  refine ⟨_,M4.cell 0 rfl rfl,?_⟩
  refine loopE C_ok (fun (a:Nat) => [(4,.pointer (some ⟨gw,0,none⟩)),(35,.int .i64 n),(36,.int .i64 a)])
   (fun a w' => a <= n ∧ Mem w w' [(gw,.cells (webCells n (toM xs) (fun p q => if p < a then reach (toM xs) p q else false)).toArray 230 (0,0))]) (fun a => n - a) 0 ⟨rfl,rfl,rfl,trivial⟩
   ⟨Nat.zero_le _,by simpa using M4⟩ ?_
  rintro a w5 ⟨ha,M5⟩
  refine brE_dec (fun hlt => ?_) (fun hge => ?_)
  ·have hlt:a < n:=by omega
   have ha24:a < 24:=by omega
   refine (from_spec (M5.get 0 rfl) hin ha24).mono ?_
   rintro v w6 ⟨rfl,he6⟩
   refine ⟨he6,?_⟩
   have M6:=M5.grow he6
   refine ⟨a,rfl,ha24,?_⟩
   refine ⟨set_size _,_,_,M6.get 0 rfl,by rw [webCells_length]; show 0 + (576 + 1) + a * 24 + 24 <= 1153; omega,bools_one 24 _,?_⟩
   intro w7 h7
   have e7:splice (webCells n (toM xs) (fun p q => if p < a then reach (toM xs) p q else false)) (0 + (576 + 1) + a * 24) (setCells (reach (toM xs) a)) = webCells n (toM xs) (fun p q => if p < a + 1 then reach (toM xs) p q else false):=by
    have e1:0 + (576 + 1) + a * 24 = 577 + a * 24:=by omega
    rw [e1,web_setRow ha24]
    congr 1
    funext p q
    unfold updRow
    by_cases hpa:p = a
    ·subst hpa; rw [if_pos rfl,if_pos (by omega)]
    ·rw [if_neg hpa]
     by_cases h1:p < a
     ·show (if p < a then _ else _) = _
      rw [if_pos h1,if_pos (by omega)]
     ·show (if p < a then _ else _) = _
      rw [if_neg h1,if_neg (by omega)]
   have h7:Put w6 gw (.cells (webCells n (toM xs) (fun p q => if p < a + 1 then reach (toM xs) p q else false)).toArray 230 (0,0)) w7:=by rw [<-e7]; exact h7
   refine ⟨((a + 1:Nat):Int),fit ⟨by omega,by omega⟩,?_⟩
   exact ⟨a + 1,⟨rfl,rfl,rfl,trivial⟩,⟨hlt,M6.put 0 rfl h7⟩,by omega⟩
  ·have:a = n:=by omega
   subst this
   have eR:(fun p q => if p < a then reach (toM xs) p q else false) = reach (toM xs):=by
    funext p q
    by_cases hp:p < a
    ·rw [if_pos hp]
    ·rw [if_neg hp]
     symm
     rw [reach_false]
     intro hpath
     have:=(hpath.inside hok.inside).1
     simp at this
     omega
   rw [eR] at M5
   exact ⟨gw,rfl,M5.new 0 rfl,M5.get 0 rfl,M5.ext⟩
end Go.Proofs.YtigapannpbaihaaGreat.Rk
namespace Go.Proofs.YtigapannpbaihaaGreat.Rk
open Go.Eng Go.RowKit
noncomputable def standS (N:Int) (xs:List Arrow) (a b:Int):Int:=if chk N xs = 0 then (if inR N a && inR N b then standR (reach (toM xs)) a.toNat b.toNat else 0) else 0
theorem inR_nat {N a:Int} (h:inR N a = true):∃ p:Nat,a = (p:Int) ∧ (p:Int) <= N - 1:=by
 have:=of_decide_eq_true h
 obtain ⟨p,rfl⟩:=Int.eq_ofNat_of_zero_le this.1
 exact ⟨p,rfl,this.2⟩
theorem all2 (N a b:Int):[a,b].all (inR N) = (inR N a && inR N b):=by simp
theorem Standing_spec {N:Int} {A:Option Addr} {xs:List Arrow} {c:Nat} {w:World} (h:HRel w N A xs c) (a b:Int) :
  CallsV C.P 17 #[relVal N A xs.length c,.int .i64 a,.int .i64 b] w fun v w' => v = .int .u8 (standS N xs a b) ∧ Ext w w':=by
 refine callsV_of C_ok (args:=[_,_,_]) (plans:=[]) Tryz.func17 rfl Tryz.ntmps17 (by kernel_rfl) (Nat.le_of_ble_eq_true rfl) ?_
 intro g1 w1 h1
 have M1:=(Mem.start w).alloc h1
 refine ⟨[.int .i64 N,.slice A xs.length c],rfl,M1.rd 0 rfl,?_⟩
 by_cases hv:chk N xs = 0
 ·have hok:=valid_of_chk hv
  refine (open_yes (h.ext M1.ext) hok).mono ?_
  rintro v w2 ⟨g,rfl,hg,hw,he⟩
  have M2:=M1.grow he
  intro g3 w3 h3
  have M3:=M2.alloc h3
  refine (has_spec (xs:=[a,b]) (hw.ext h3.ext) ⟨hok.lo,hok.hi⟩ (.inr ⟨g3,0,rfl,M3.rd 0 rfl⟩) (by simp)).mono ?_
  rintro v w4 ⟨rfl,he4⟩
  have M4:=M3.grow he4
  rw [all2]
  refine brE_mk (fun hb => ?_) (fun hb => ?_)
  ·rw [Bool.not_eq_true'] at hb
   exact ⟨by simp only [standS,hv,if_true,hb]; rfl,M4.ext⟩
  ·rw [Bool.not_eq_false'] at hb
   have hb':=Bool.and_eq_true_iff.1 hb
   obtain ⟨p,rfl,hp⟩:=inR_nat hb'.1
   obtain ⟨q,rfl,hq⟩:=inR_nat hb'.2
   have:=hok.hi
   refine (standing_spec ((hw.ext h3.ext).ext he4) (a:=p) (b:=q) (by omega) (by omega)).mono ?_
   rintro v w5 ⟨rfl,rfl⟩
   exact ⟨by simp only [standS,hv,if_true,hb]; rfl,M4.ext⟩
 ·refine (open_no (h.ext M1.ext) hv).mono ?_
  rintro v w2 ⟨rfl,he⟩
  exact ⟨by simp only [standS,if_neg hv],(M1.grow he).ext⟩
end Go.Proofs.YtigapannpbaihaaGreat.Rk
namespace Go.Proofs.YtigapannpbaihaaGreat.Rk
open Go.Eng Go.RowKit
def walk (T:Nat -> Nat -> Bool) (b:Nat):Nat -> Nat -> Prop
 | 0,x => x = b
 | k + 1,x => ∃ y,T x y = true ∧ walk T b k y
def isDist (T:Nat -> Nat -> Bool) (b k x:Nat):Prop:=1 <= k ∧ walk T b k x ∧ ∀ j,1 <= j -> walk T b j x -> k <= j
open Classical in
noncomputable def dist (T:Nat -> Nat -> Bool) (b x:Nat):Nat:=if h:∃ k,isDist T b k x then h.choose else 0
noncomputable def stepsAt (T:Nat -> Nat -> Bool) (b n x:Nat):Nat:=if dist T b x < n then dist T b x else 0
noncomputable def hit (T:Nat -> Nat -> Bool) (b n:Nat) (ys:List Int) (x j:Nat):Bool:=decide (stepsAt T b n x = 0) && (ys.take j).any fun y => T x y.toNat
theorem members_any {S:Nat -> Bool} {p:Nat -> Bool}:((members S).any fun y => p y.toNat) = true <-> ∃ y,y < 24 ∧ S y = true ∧ p y = true:=by
 rw [List.any_eq_true]
 constructor
 ·rintro ⟨y,hy,hp⟩
  obtain ⟨k,hk,rfl⟩:=List.mem_map.1 hy
  obtain ⟨h1,h2⟩:=List.mem_filter.1 hk
  exact ⟨k,List.mem_range.1 h1,h2,by simpa using hp⟩
 ·rintro ⟨y,h1,h2,h3⟩
  exact ⟨(y:Int),List.mem_map.2 ⟨y,List.mem_filter.2 ⟨List.mem_range.2 h1,h2⟩,rfl⟩,by simpa using h3⟩
end Go.Proofs.YtigapannpbaihaaGreat.Rk
namespace Go.Proofs.YtigapannpbaihaaGreat.Rk
open Go.Eng Go.RowKit
end Go.Proofs.YtigapannpbaihaaGreat.Rk
namespace Go.Proofs.YtigapannpbaihaaGreat.Rk
open Go.Eng Go.RowKit
def compS (n:Nat) (R:Nat -> Nat -> Bool) (a b:Nat):Bool:=decide (b < n) && (decide (a = b) || decide (standR R a b = 3))
theorem component_spec {w:World} {g n:Nat} {T R:Nat -> Nat -> Bool} (hw:Web w g n T R) (hn:n <= 24) {a:Nat} (ha:a < 24) :
  CallsV C.P 240 #[.pointer (some ⟨g,0,none⟩),.int .i64 a] w fun v w' => v = .agg (setCells (compS n R a)).toArray ∧ Ext w w':=by
 refine callsV_of C_ok (args:=[_,_]) (plans:=[]) Tryz.func240 rfl Tryz.ntmps240 (by kernel_rfl) (Nat.le_of_ble_eq_true rfl) ?_
 intro gr w1 h1
 intro gs w2 h2
 have M2:Mem w w2 [(gs,.cells (setCells fun b => decide (b < 0) && compS n R a b).toArray 227 (0,0)),(gr,.cells (List.replicate 24 (.bool false)).toArray 227 (0,0))]:=by
  have e:(setCells fun b => decide (b < 0) && compS n R a b) = List.replicate 24 (.bool false):=by rw [bools_false]; apply bools_congr; intro k _; simp
  rw [e]; exact ((Mem.start w).alloc h1).alloc h2
 refine ⟨_,(hw.ext M2.ext).n,?_⟩
 refine loopE C_ok (fun (b:Nat) => [(0,.pointer (some ⟨g,0,none⟩)),(1,.int .i64 a),(4,.pointer (some ⟨gr,0,none⟩)),(5,.pointer (some ⟨gs,0,none⟩)),(10,.int .i64 n),(11,.int .i64 b)])
  (fun b w' => b <= n ∧ Mem w w' [(gs,.cells (setCells fun k => decide (k < b) && compS n R a k).toArray 227 (0,0)),(gr,.cells (List.replicate 24 (.bool false)).toArray 227 (0,0))]) (fun b => n - b) 0
  ⟨rfl,rfl,rfl,rfl,rfl,rfl,trivial⟩ ⟨Nat.zero_le _,M2⟩ ?_
 rintro b w3 ⟨hb,M3⟩
 refine brE_dec (fun hlt => ?_) (fun hge => ?_)
 ·have hlt:b < n:=by omega
  have hb24:b < 24:=by omega
  have fin:∀ r:Bool,r = (decide (a = b) || decide (standR R a b = 3)) -> ∀ w4,Put w3 gs (.cells (splice (setCells fun k => decide (k < b) && compS n R a k) (0 + b * 1) [.bool r]).toArray 227 (0,0)) w4 →
    Mem w w4 [(gs,.cells (setCells fun k => decide (k < b + 1) && compS n R a k).toArray 227 (0,0)),(gr,.cells (List.replicate 24 (.bool false)).toArray 227 (0,0))]:=by
   intro r hr w4 h4
   have e:splice (setCells fun k => decide (k < b) && compS n R a k) (0 + b * 1) [.bool r] = setCells fun k => decide (k < b + 1) && compS n R a k:=by
    have:=bools_set hb24 (fun k => decide (k < b) && compS n R a k) r
    rw [Nat.zero_add,Nat.mul_one,this]
    apply bools_congr
    intro k _
    unfold upd
    by_cases hk:k = b
    ·subst hk; rw [if_pos rfl,hr]; simp [compS,hlt]
    ·rw [if_neg hk]
     by_cases h1:k < b
     ·simp [h1,show k < b + 1 by omega]
     ·simp [h1,show ¬ k < b + 1 by omega]
   rw [<-e]; exact M3.put 0 rfl h4
  have next:IntKind.i64.wrap ((b:Int) + 1) = ((b + 1:Nat):Int):=fit ⟨by omega,by omega⟩
  refine brE_dec (fun hab => ?_) (fun hab => ?_)
  ·have hab:a = b:=by omega
   refine ⟨b,rfl,hb24,?_⟩
   refine ⟨rfl,_,_,M3.get 0 rfl,by rw [bools_length]; show 0 + b * 1 + 1 <= 24; omega,rfl,?_⟩
   intro w4 h4
   refine ⟨_,next,?_⟩
   exact ⟨b + 1,⟨rfl,rfl,rfl,rfl,rfl,rfl,trivial⟩,⟨hlt,fin true (by simp [hab]) w4 h4⟩,by omega⟩
  ·have hab:¬ a = b:=by omega
   refine (standing_spec (hw.ext M3.ext) ha hb24).mono ?_
   rintro v w4 ⟨rfl,rfl⟩
   refine ⟨b,rfl,hb24,?_⟩
   refine ⟨rfl,_,_,M3.get 0 rfl,by rw [bools_length]; show 0 + b * 1 + 1 <= 24; omega,rfl,?_⟩
   intro w4 h4
   refine ⟨_,next,?_⟩
   exact ⟨b + 1,⟨rfl,rfl,rfl,rfl,rfl,rfl,trivial⟩,⟨hlt,fin _ (by simp [hab]) w4 h4⟩,by omega⟩
 ·have:b = n:=by omega
  subst this
  have e:(setCells fun k => decide (k < b) && compS b R a k) = setCells (compS b R a):=by
   apply bools_congr
   intro k _
   simp only [compS]
   by_cases h:k < b <;> simp [h]
  rw [e] at M3
  refine ⟨_,bools_length _ _,M3.rd 0 rfl,?_⟩
  refine ⟨set_size _,_,_,M3.get 1 rfl,Nat.le_of_ble_eq_true rfl,bools_one 24 _,?_⟩
  intro w4 h4
  have e7:splice (List.replicate 24 (Value.bool false)) 0 (setCells (compS b R a)) = setCells (compS b R a):=by
   unfold splice
   rw [bools_length]
   simp
  have h4:Put w3 gr (.cells (setCells (compS b R a)).toArray 227 (0,0)) w4:=by rw [<-e7]; exact h4
  refine ⟨_,bools_length _ _,Rd.of_block h4.here,?_⟩
  exact ⟨rfl,(M3.put 1 rfl h4).ext⟩
def precS (n:Nat) (R:Nat -> Nat -> Bool) (a:Nat) (own done:Nat -> Bool):Bool:=(List.range n).any fun b => !own b && !done b && R b a
theorem preceded_spec {w:World} {g n:Nat} {T R:Nat -> Nat -> Bool} (hw:Web w g n T R) (hn:n <= 24) {a:Nat} (ha:a < 24) (own done:Nat -> Bool) :
  CallsV C.P 241 #[.pointer (some ⟨g,0,none⟩),.int .i64 a,.agg (setCells own).toArray,.agg (setCells done).toArray] w fun v w' => v = .bool (precS n R a own done) ∧ Ext w w':=by
 refine callsV_of C_ok (args:=[_,_,_,_]) (plans:=[]) Tryz.func241 rfl Tryz.ntmps241 (by kernel_rfl) (Nat.le_of_ble_eq_true rfl) ?_
 intro g1 w1 h1
 intro g2 w2 h2
 have M2:=((Mem.start w).alloc h1).alloc h2
 refine ⟨_,(hw.ext M2.ext).n,?_⟩
 refine loopE C_ok (fun (b:Nat) => [(0,.pointer (some ⟨g,0,none⟩)),(1,.int .i64 a),(6,.pointer (some ⟨g1,0,none⟩)),(7,.pointer (some ⟨g2,0,none⟩)),(13,.int .i64 n),(14,.int .i64 b)])
  (fun b w' => b <= n ∧ w' = w2 ∧ ∀ k < b,(!own k && !done k && R k a) = false) (fun b => n - b) 0
  ⟨rfl,rfl,rfl,rfl,rfl,rfl,trivial⟩ ⟨Nat.zero_le _,rfl,fun _ h => absurd h (Nat.not_lt_zero _)⟩ ?_
 rintro b w3 ⟨hb,rfl,hno⟩
 refine brE_dec (fun hlt => ?_) (fun hge => ?_)
 ·have hlt:b < n:=by omega
  have hb24:b < 24:=by omega
  have next:IntKind.i64.wrap ((b:Int) + 1) = ((b + 1:Nat):Int):=fit ⟨by omega,by omega⟩
  have go:(!own b && !done b && R b a) = false -> ∀ k < b + 1,(!own k && !done k && R k a) = false:=by
   intro h k hk
   rcases Nat.lt_or_ge k b with h1 | h1
   ·exact hno k h1
   ·obtain rfl:k = b:=by omega
    exact h
  refine ⟨b,rfl,hb24,?_⟩
  refine ⟨.bool (own b),by have:=M2.rd 1 rfl b _ (bools_get hb24 own); simpa using this,?_⟩
  refine brE_mk (fun ho => ?_) (fun ho => ?_)
  ·refine ⟨b,rfl,hb24,?_⟩
   refine ⟨.bool (done b),by have:=M2.rd 0 rfl b _ (bools_get hb24 done); simpa using this,?_⟩
   refine brE_mk (fun hd => ?_) (fun hd => ?_)
   ·refine ⟨b,rfl,hb24,?_⟩
    refine ⟨a,rfl,ha,?_⟩
    refine ⟨_,(hw.ext M2.ext).reach hb24 ha,?_⟩
    refine brE_mk (fun hr => ?_) (fun hr => ?_)
    ·refine ⟨?_,M2.ext⟩
     have:precS n R a own done = true:=List.any_eq_true.2 ⟨b,List.mem_range.2 hlt,by rw [ho,hd,hr]; rfl⟩
     rw [this]
    ·refine ⟨_,next,?_⟩
     exact ⟨b + 1,⟨rfl,rfl,rfl,rfl,rfl,rfl,trivial⟩,⟨hlt,rfl,go (by rw [hr,Bool.and_false])⟩,by omega⟩
   ·refine ⟨_,next,?_⟩
    exact ⟨b + 1,⟨rfl,rfl,rfl,rfl,rfl,rfl,trivial⟩,⟨hlt,rfl,go (by rw [hd,Bool.and_false,Bool.false_and])⟩,by omega⟩
  ·refine ⟨_,next,?_⟩
   exact ⟨b + 1,⟨rfl,rfl,rfl,rfl,rfl,rfl,trivial⟩,⟨hlt,rfl,go (by rw [ho,Bool.false_and,Bool.false_and])⟩,by omega⟩
 ·have:b = n:=by omega
  subst this
  refine ⟨?_,M2.ext⟩
  have:precS b R a own done = false:=by
   unfold precS
   rw [List.any_eq_false]
   intro k hk
   rw [hno k (List.mem_range.1 hk)]; decide
  rw [this]
end Go.Proofs.YtigapannpbaihaaGreat.Rk
namespace Go.Proofs.YtigapannpbaihaaGreat.Rk
open Go.Eng Go.RowKit
def orS (D S:Nat -> Bool):Nat -> Bool:=fun k => D k || S k
def compsF (n:Nat) (R:Nat -> Nat -> Bool):Nat -> (Nat -> Bool) -> List (List Int)
 | 0,_ => []
 | m + 1,D => match (List.range n).find? fun a => !(D a || precS n R a (compS n R a) D) with
  | some a => members (compS n R a) :: compsF n R m (orS D (compS n R a))
  | none => []
theorem find_range {n:Nat} {p:Nat -> Bool} {a:Nat} (ha:a < n) (h:∀ k < a,p k = false) (hp:p a = true):(List.range n).find? p = some a:=by
 have e:List.range n = List.range a ++ a :: List.range' (a + 1) (n - (a + 1)):=by
  rw [List.range_eq_range',List.range_eq_range']
  have:=List.range'_append_1 (s:=0) (m:=a) (n:=n - a)
  rw [show a + (n - a) = n by omega] at this
  rw [<-this,Nat.zero_add]
  congr 1
  rw [show n - a = (n - (a + 1)) + 1 by omega,List.range'_succ]
 rw [e,List.find?_append]
 have h1:(List.range a).find? p = none:=by
  rw [List.find?_eq_none]
  intro k hk
  rw [h k (List.mem_range.1 hk)]; decide
 rw [h1,List.find?_cons_of_pos hp]
 rfl
theorem find_range_none {n:Nat} {p:Nat -> Bool} (h:∀ k < n,p k = false):(List.range n).find? p = none:=by
 rw [List.find?_eq_none]
 intro k hk
 rw [h k (List.mem_range.1 hk)]; decide
inductive AllRows (w:World) (B:Nat):List Value -> List (List Int) -> Prop
 | nil:AllRows w B [] []
 | cons {u:Value} {us:List Value} {l:List Int} {ls:List (List Int)} (h:w.ownsRow B 3 1 u l.length (ints l)) (t:AllRows w B us ls):AllRows w B (u :: us) (l :: ls)
theorem AllRows.length {w:World} {B:Nat} {us:List Value} {ls:List (List Int)} (h:AllRows w B us ls):us.length = ls.length:=by
 induction h with
 | nil => rfl
 | cons _ _ ih => simp [ih]
theorem AllRows.only {w w':World} {B t0:Nat} {us:List Value} {ls:List (List Int)} (h:AllRows w B us ls) (k:Only t0 w w') (hne:3 ≠ t0):AllRows w' B us ls:=by
 induction h with
 | nil => exact .nil
 | cons h _ ih => exact .cons (ownsRow_only h k hne) ih
theorem AllRows.snoc {w:World} {B:Nat} {us:List Value} {ls:List (List Int)} (h:AllRows w B us ls) {u:Value} {l:List Int} (hu:w.ownsRow B 3 1 u l.length (ints l)):AllRows w B (us ++ [u]) (ls ++ [l]):=by
 induction h with
 | nil => exact .cons hu .nil
 | cons h _ ih => exact .cons h ih
theorem AllRows.at {w:World} {B:Nat} {us:List Value} {ls:List (List Int)} (h:AllRows w B us ls):∀ {i:Nat} (hi:i < ls.length),∃ u,us[i]? = some u ∧ w.ownsRow B 3 1 u ls[i].length (ints ls[i]):=by
 induction h with
 | nil => intro i hi; simp at hi
 | cons h _ ih =>
  intro i hi
  cases i with
  | zero => exact ⟨_,rfl,h⟩
  | succ i =>
   obtain ⟨u,hu,ho⟩:=ih (i:=i) (by simpa using hi)
   exact ⟨u,by simpa using hu,by simpa using ho⟩
theorem AllRows.base {w:World} {B B':Nat} {us:List Value} {ls:List (List Int)} (h:AllRows w B' us ls) (hb:B <= B'):AllRows w B us ls:=by
 induction h with
 | nil => exact .nil
 | cons h _ ih => exact .cons (ownsRow_base h hb) ih
def Lists (B:Nat) (w:World) (v:Value) (L:List (List Int)):Prop:=∃ us,w.ownsRow B 31 1 v L.length us ∧ AllRows w B us L
theorem Lists.only {B t0:Nat} {w w':World} {v:Value} {L:List (List Int)} (h:Lists B w v L) (k:Only t0 w w') (h3:3 ≠ t0) (h30:31 ≠ t0):Lists B w' v L :=
 let ⟨us,h1,h2⟩:=h
 ⟨us,ownsRow_only h1 k h30,h2.only k h3⟩
structure CompMem (B:Nat) (w:World) (g gb gd go gv n:Nat) (T R:Nat -> Nat -> Bool) (D:Nat -> Bool) (v:Value) (L:List (List Int)):Prop where
 size:B <= w.heap.size
 ge:B <= gb ∧ B <= gd ∧ B <= go ∧ B <= gv
 web:Web w g n T R
 box:w.heap[gb]? = some (.cells #[.pointer (some ⟨g,0,none⟩)] 142 (0,0))
 done:w.heap[gd]? = some (.cells (setCells D).toArray 227 (0,0))
 out:w.heap[go]? = some (.cells #[v] 74 (0,0))
 fn:w.heap[gv]? = some (.cells #[.func (.func 239) #[] #[.pointer (some ⟨gb,0,none⟩),.pointer (some ⟨gd,0,none⟩),.pointer (some ⟨go,0,none⟩),.pointer (some ⟨gv,0,none⟩)]] 1 (0,0))
 lists:Lists B w v L
theorem CompMem.ext {B:Nat} {w w':World} {g gb gd go gv n:Nat} {T R:Nat -> Nat -> Bool} {D:Nat -> Bool} {v:Value} {L:List (List Int)} (h:CompMem B w g gb gd go gv n T R D v L) (e:Ext w w'):CompMem B w' g gb gd go gv n T R D v L :=
 ⟨Nat.le_trans h.size e.size,h.ge,h.web.ext e,e.heap h.box,e.heap h.done,e.heap h.out,e.heap h.fn,h.lists.only (only_ext 0 e) (by decide) (by decide)⟩
theorem comp_refl {n:Nat} {R:Nat -> Nat -> Bool} {a:Nat} (ha:a < n):compS n R a a = true:=by simp [compS,ha]
theorem unseen_or {D S:Nat -> Bool} {a:Nat} (ha:a < 24) (hD:D a = false) (hS:S a = true):unseen (orS D S) < unseen D:=by
 have h1:=unseen_upd ha hD
 have h2:unseen (orS D S) <= unseen (upd D a true):=unseen_mono fun k hk => by
  simp only [upd] at hk
  simp only [orS]
  by_cases e:k = a
  ·subst e; rw [hS,Bool.or_true]
  ·rw [if_neg e] at hk; rw [hk,Bool.true_or]
 omega
def markTo (D:Nat -> Bool) (ys:List Int) (i:Nat):Nat -> Bool:=fun k => D k || (ys.take i).any fun y => decide (y.toNat = k)
theorem markTo_zero (D:Nat -> Bool) (ys:List Int):markTo D ys 0 = D:=by funext k; simp [markTo]
theorem markTo_succ (D:Nat -> Bool) {ys:List Int} {i y:Nat} (hi:i < ys.length) (hy:ys[i] = (y:Int)):upd (markTo D ys i) y true = markTo D ys (i + 1):=by
 funext k
 simp only [upd,markTo]
 rw [List.take_succ_eq_append_getElem hi,List.any_append,hy]
 by_cases e:k = y
 ·subst e; simp
 ·rw [if_neg e]; simp [show ¬ y = k from fun h => e h.symm]
theorem markTo_all (D S:Nat -> Bool) {k:Nat} (hk:k < 24):markTo D (members S) (members S).length k = orS D S k:=by
 simp only [markTo,orS,List.take_length]
 congr 1
 rw [Bool.eq_iff_iff,members_any (p:=fun y => decide (y = k))]
 constructor
 ·rintro ⟨y,_,h,e⟩
  have e:y = k:=of_decide_eq_true e
  subst e; exact h
 ·intro h; exact ⟨k,hk,h,by simp⟩
theorem compsF_stop {n:Nat} {R:Nat -> Nat -> Bool} {D:Nat -> Bool} (h:∀ k < n,(D k || precS n R k (compS n R k) D) = true):∀ m,compsF n R m D = []
 | 0 => rfl
 | m + 1 => by
  rw [compsF,find_range_none (fun k hk => by rw [h k hk]; rfl)]
theorem compsF_next {n:Nat} {R:Nat -> Nat -> Bool} {D:Nat -> Bool} {a:Nat} (ha:a < n) (h:∀ k < a,(D k || precS n R k (compS n R k) D) = true) (h1:D a = false) (h2:precS n R a (compS n R a) D = false) (m:Nat) :
  compsF n R (m + 1) D = members (compS n R a) :: compsF n R m (orS D (compS n R a)):=by
 rw [compsF,find_range (p:=fun a => !(D a || precS n R a (compS n R a) D)) ha (fun k hk => by rw [h k hk]; rfl) (by rw [h1,h2]; rfl)]
theorem next_spec (m:Nat):∀ (B:Nat) (D:Nat -> Bool) (w:World) (g gb gd go gv n:Nat) (T R:Nat -> Nat -> Bool) (v:Value) (L:List (List Int)),unseen D <= m -> n <= 24 -> L.length + unseen D <= 24 -> CompMem B w g gb gd go gv n T R D v L →
  CallsV C.P 239 #[.pointer (some ⟨gb,0,none⟩),.pointer (some ⟨gd,0,none⟩),.pointer (some ⟨go,0,none⟩),.pointer (some ⟨gv,0,none⟩)] w fun _ w' =>
   ∃ v',Below B w w' ∧ w'.heap[go]? = some (.cells #[v'] 74 (0,0)) ∧ Lists B w' v' (L ++ compsF n R m D):=by
 induction m using Nat.strongRecOn with
 | _ m ih =>
 intro B D w g gb gd go gv n T R v L hm hn hL hmem
 refine callsV_of C_ok (args:=[_,_,_,_]) (plans:=plans239) Tryz.func239 rfl Tryz.ntmps239 (by kernel_rfl) (Nat.le_of_ble_eq_true rfl) ?_
 refine ⟨_,cell_of_block hmem.box rfl,?_⟩
 refine ⟨_,hmem.web.n,?_⟩
 refine loopE C_ok (fun (a:Nat) => [(0,.pointer (some ⟨gb,0,none⟩)),(1,.pointer (some ⟨gd,0,none⟩)),(2,.pointer (some ⟨go,0,none⟩)),(3,.pointer (some ⟨gv,0,none⟩)),(11,.int .i64 n),(12,.int .i64 a)])
  (fun a w' => a <= n ∧ Ext w w' ∧ ∀ k < a,(D k || precS n R k (compS n R k) D) = true) (fun a => n - a) 0
  ⟨rfl,rfl,rfl,rfl,rfl,rfl,trivial⟩ ⟨Nat.zero_le _,Ext.refl _,fun _ h => absurd h (Nat.not_lt_zero _)⟩ ?_
 rintro a w1 ⟨ha,e1,hno⟩
 refine brE_dec (fun hlt => ?_) (fun hge => ?_)
 ·have hlt:a < n:=by omega
  have ha24:a < 24:=by omega
  have m1:=hmem.ext e1
  refine ⟨_,cell_of_block m1.box rfl,?_⟩
  refine (component_spec m1.web hn ha24).mono ?_
  rintro v2 w2 ⟨rfl,e2⟩
  intro g5 w3 h3
  refine ⟨set_size _,_,_,h3.here,Nat.le_of_ble_eq_true rfl,bools_one 24 _,?_⟩
  intro w4 h4
  have e7:splice (List.replicate 24 (Value.bool false)) 0 (setCells (compS n R a)) = setCells (compS n R a):=by
   unfold splice
   rw [bools_length]
   simp
  have h4:Put w3 g5 (.cells (setCells (compS n R a)).toArray 227 (0,0)) w4:=by rw [<-e7]; exact h4
  have hg5:w2.heap.size <= g5:=by rw [h3.new]; exact Nat.le_refl _
  have e4':Ext w2 w4:=h4.ext_of h3.ext hg5
  have m4:=(m1.ext e2).ext e4'
  refine ⟨a,rfl,ha24,?_⟩
  refine ⟨.bool (D a),cell_of_block m4.done (by simpa using bools_get ha24 D),?_⟩
  have go1:(D a || precS n R a (compS n R a) D) = true -> ∀ k < a + 1,(D k || precS n R k (compS n R k) D) = true:=by
   intro h k hk
   rcases Nat.lt_or_ge k a with h1 | h1
   ·exact hno k h1
   ·obtain rfl:k = a:=by omega
    exact h
  have next:IntKind.i64.wrap ((a:Int) + 1) = ((a + 1:Nat):Int):=fit ⟨by omega,by omega⟩
  have e14:Ext w w4:=(e1.trans e2).trans e4'
  refine brE_mk (fun hD => ?_) (fun hD => ?_)
  ·refine ⟨_,next,?_⟩
   exact ⟨a + 1,⟨rfl,rfl,rfl,rfl,rfl,rfl,trivial⟩,⟨hlt,e14,go1 (by rw [hD,Bool.true_or])⟩,by omega⟩
  ·refine ⟨_,cell_of_block m4.box rfl,?_⟩
   refine ⟨setCells (compS n R a),bools_length _ _,Rd.of_block h4.here,?_⟩
   refine ⟨setCells D,bools_length _ _,Rd.of_block m4.done,?_⟩
   refine (preceded_spec m4.web hn ha24 (compS n R a) D).mono ?_
   rintro v5 w5 ⟨rfl,e5⟩
   have m5:=m4.ext e5
   refine brE_mk (fun hP => ?_) (fun hP => ?_)
   ·refine ⟨_,next,?_⟩
    exact ⟨a + 1,⟨rfl,rfl,rfl,rfl,rfl,rfl,trivial⟩,⟨hlt,e14.trans e5,go1 (by rw [hP,Bool.or_true])⟩,by omega⟩
   ·have hsz5:B <= w5.heap.size:=Nat.le_trans hmem.size (e14.trans e5).size
    obtain ⟨us,hous,hrows⟩:=m5.lists
    have own5:=e5.heap h4.here
    refine ⟨_,cell_of_block m5.out rfl,?_⟩
    refine ⟨setCells (compS n R a),bools_length _ _,Rd.of_block own5,?_⟩
    refine (list_spec (compS n R a) w5).mono ?_
    rintro v6 w6 ⟨hl,e6⟩
    refine ⟨e6,?_⟩
    obtain ⟨A6,c6,rfl,hr6,hc6⟩:=hl.slice
    intro g7 w7 h7
    refine ⟨h7.ext,?_⟩
    have e57:=e6.trans h7.ext
    have m7:=m5.ext e57
    have ho7:w7.ownsRow B 31 1 v L.length us:=ownsRow_ext hous e57
    have un1:=unseen_or ha24 hD (comp_refl (R:=R) hlt)
    refine ⟨rfl,rfl,rfl,B,L.length,us,[_],ho7,Nat.le_trans hsz5 e57.size,Nat.lt_add_one 0,rfl,rfl,.inr ⟨g7,0,rfl,Rd.of_block h7.here⟩,rfl,rfl,by omega,by simp only [maxLen]; omega,?_⟩
    intro v8 w8 ho8 hg8 _
    obtain ⟨A8,c8,rfl,_,_⟩:=reads_of_owns ho8
    have o8:Only 31 w7 w8:=only_app ho7 hg8
    refine ⟨rfl,_,_,o8 _ _ _ _ m7.out (by decide),Nat.le_of_ble_eq_true rfl,rfl,?_⟩
    intro w9 h9
    have h9:Put w8 go (.cells #[.slice A8 (L.length + 1) c8] 74 (0,0)) w9:=h9
    have o9:Only 74 w8 w9:=only_put h9 (o8 _ _ _ _ m7.out (by decide))
    have web9:Web w9 g n T R:=o9 _ _ _ _ (o8 _ _ _ _ m7.web (by decide)) (by decide)
    have box9:=o9 _ _ _ _ (o8 _ _ _ _ m7.box (by decide)) (by decide)
    have done9:=o9 _ _ _ _ (o8 _ _ _ _ m7.done (by decide)) (by decide)
    have fn9:=o9 _ _ _ _ (o8 _ _ _ _ m7.fn (by decide)) (by decide)
    have own9:=o9 _ _ _ _ (o8 _ _ _ _ (e57.heap own5) (by decide)) (by decide)
    have bl5:Below B w w5:=below_ext (Below.refl _ _) (e14.trans e5) hmem.size
    have bl9:Below B w w9:=below_put (below_app (below_ext bl5 e57 hsz5) ho7 hg8 (Nat.le_trans hsz5 e57.size)) h9 hmem.ge.2.2.1
    have hsz9:B <= w9.heap.size:=Nat.le_trans hmem.size bl9.size
    have lists9:Lists B w9 (.slice A8 (L.length + 1) c8) (L ++ [members (compS n R a)]):=by
     refine ⟨us ++ [.slice A6 (members (compS n R a)).length c6],?_,?_⟩
     ·rw [List.length_append]
      exact ownsRow_only ho8 o9 (by decide)
     ·refine AllRows.snoc ((hrows.only (only_ext 0 e57) (by decide)).only o8 (by decide) |>.only o9 (by decide)) ?_
      exact ownsRow_only (ownsRow_only (ownsRow_ext (ownsRow_base hl hsz5) h7.ext) o8 (by decide)) o9 (by decide)
    refine ⟨setCells (compS n R a),bools_length _ _,Rd.of_block own9,?_⟩
    refine (list_spec (compS n R a) w9).mono ?_
    rintro v10 w10 ⟨hl2,e10⟩
    obtain ⟨A10,c10,rfl,_,_⟩:=hl2.slice
    have hl2:w10.ownsRow w9.heap.size 3 1 (.slice A10 (members (compS n R a)).length c10) (members (compS n R a)).length (ints (members (compS n R a))):=hl2
    have hml:(members (compS n R a)).length <= 24:=membersTo_length _ 24
    refine loopE C_ok (fun (i:Nat) => [(0,.pointer (some ⟨gb,0,none⟩)),(1,.pointer (some ⟨gd,0,none⟩)),(2,.pointer (some ⟨go,0,none⟩)),(3,.pointer (some ⟨gv,0,none⟩)),(34,.slice A10 (members (compS n R a)).length c10),(35,.int .i64 (members (compS n R a)).length),(36,.int .i64 i)])
     (fun i w' => i <= (members (compS n R a)).length ∧ Below B w w' ∧ Only 227 w10 w' ∧ w'.heap[gd]? = some (.cells (setCells (markTo D (members (compS n R a)) i)).toArray 227 (0,0)))
     (fun i => (members (compS n R a)).length - i) 0 ⟨rfl,rfl,rfl,rfl,rfl,rfl,rfl,trivial⟩
     ⟨Nat.zero_le _,below_ext bl9 e10 hsz9,only_ext _ (Ext.refl _),by rw [markTo_zero]; exact e10.heap done9⟩ ?_
    rintro i w11 ⟨hi,bl11,o11,done11⟩
    refine brE_dec (fun hlt2 => ?_) (fun hge2 => ?_)
    ·have hlt2:i < (members (compS n R a)).length:=by omega
     obtain ⟨A',c',eA,hr11,_⟩:=reads_of_owns (ownsRow_only hl2 o11 (by decide))
     cases eA
     obtain ⟨y,ey,hy24,_⟩:=members_get hlt2
     obtain ⟨b1,o1,hA1,hc1⟩:=Reads.int hr11 hlt2
     rw [ey] at hc1
     refine ⟨i,b1,o1,rfl,hlt2,hA1,?_⟩
     refine ⟨_,by simpa using hc1,?_⟩
     refine ⟨y,rfl,hy24,?_⟩
     refine ⟨rfl,_,_,done11,by rw [bools_length]; show 0 + y * 1 + 1 <= 24; omega,rfl,?_⟩
     intro w12 h12
     have e12:splice (setCells (markTo D (members (compS n R a)) i)) (0 + y * 1) [.bool true] = setCells (markTo D (members (compS n R a)) (i + 1)):=by
      rw [<-markTo_succ D hlt2 ey]
      have:=bools_set hy24 (markTo D (members (compS n R a)) i) true
      simpa using this
     have h12:Put w11 gd (.cells (setCells (markTo D (members (compS n R a)) (i + 1))).toArray 227 (0,0)) w12:=by rw [<-e12]; exact h12
     have o12:Only 227 w11 w12:=only_put h12 done11
     refine ⟨((i + 1:Nat):Int),fit ⟨by omega,by omega⟩,?_⟩
     exact ⟨i + 1,⟨rfl,rfl,rfl,rfl,rfl,rfl,rfl,trivial⟩,⟨hlt2,below_put bl11 h12 hmem.ge.2.1,fun q c t fr hq hne => o12 q c t fr (o11 q c t fr hq hne) hne,h12.here⟩,by omega⟩
    ·have:i = (members (compS n R a)).length:=by omega
     subst this
     have fn11:=o11 _ _ _ _ (e10.heap fn9) (by decide)
     have out11:=o11 _ _ _ _ (e10.heap h9.here) (by decide)
     have e11:setCells (markTo D (members (compS n R a)) (members (compS n R a)).length) = setCells (orS D (compS n R a)):=bools_congr fun k hk => markTo_all D _ hk
     rw [e11] at done11
     have mem11:CompMem B w11 g gb gd go gv n T R (orS D (compS n R a)) (.slice A8 (L.length + 1) c8) (L ++ [members (compS n R a)]) :=
      ⟨Nat.le_trans hmem.size bl11.size,hmem.ge,o11 _ _ _ _ (e10.heap web9) (by decide),o11 _ _ _ _ (e10.heap box9) (by decide),done11,out11,fn11,(lists9.only (only_ext 0 e10) (by decide) (by decide)).only o11 (by decide) (by decide)⟩
     refine ⟨_,cell_of_block fn11 rfl,?_⟩
     obtain ⟨m',rfl⟩:∃ k,m = k + 1:=⟨m - 1,by omega⟩
     refine (ih m' (Nat.lt_succ_self _) B _ w11 g gb gd go gv n T R _ _ (by omega) hn (by rw [List.length_append]; show L.length + 1 + _ <= 24; omega) mem11).mono ?_
     rintro _ w13 ⟨v13,bl13,out13,lists13⟩
     refine ⟨v13,bl11.trans bl13,out13,?_⟩
     rw [compsF_next hlt hno hD hP]
     rw [List.append_assoc] at lists13
     exact lists13
 ·have:a = n:=by omega
  subst this
  refine ⟨v,below_ext (Below.refl _ _) e1 hmem.size,(hmem.ext e1).out,?_⟩
  rw [compsF_stop hno,List.append_nil]
  exact (hmem.ext e1).lists
end Go.Proofs.YtigapannpbaihaaGreat.Rk
