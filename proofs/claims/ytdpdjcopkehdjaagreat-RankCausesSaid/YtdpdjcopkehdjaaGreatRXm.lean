/- a part of the proof: steps, walks and plain laws that the law below stands on; no condition. -/
import Derived.Test.YtdpdjcopkehdjaaGreatRXa
import Derived.Test.YtdpdjcopkehdjaaGreatRXb
import Derived.Test.YtdpdjcopkehdjaaGreatRXc
import Derived.Test.YtdpdjcopkehdjaaGreatRXd
import Derived.Test.YtdpdjcopkehdjaaGreatRXl
import Derived.Test.YtdpdjcopkehdjaaGreatProg
import Derived.Shelf.SortM.Plain
import Derived.Shelf.SortM.SortNone
import Derived.KernelRfl
import Derived.Lib.AtoiAllCases
import Derived.Lib.AtoiTie
import Derived.Lib.ItoaLen
import Derived.Lib.Join
set_option linter.unusedVariables false
set_option linter.unusedSimpArgs false
set_option linter.unnecessarySimpa false
set_option linter.unusedSectionVars false
namespace Go.Proofs.YtdpdjcopkehdjaaGreat
open Go.Eng Go.RowKit
abbrev BoxI (w:World) (p:Nat) (n:Int):Prop:=w.heap[p]? = some (.cells #[.int .i64 n] 3 (0,0))
theorem BoxI.ext {w w':World} {p:Nat} {n:Int} (h:BoxI w p n) (e:Ext w w'):BoxI w' p n:=e.heap h
theorem named1_spec (x:Fact) {s lang:Int} {p0 p1:Nat} (w:World) (hp0:BoxI w p0 s) (hp1:BoxI w p1 lang) :
  CallsV C.P 229 (#[] ++ [x.val].toArray ++ #[.pointer (some ⟨p0,0,none⟩),.pointer (some ⟨p1,0,none⟩)]) w fun v w' => v = .bool (isNm s lang x) ∧ Ext w w':=by
 refine callsV_of C_ok (args:=[_,_,_]) (plans:=[]) Tryz.func229 rfl Tryz.ntmps229 (by kernel_rfl) (Nat.le_of_ble_eq_true rfl) ?_
 intro g w1 h1
 have M1:=(Mem.start w).alloc h1
 unfold isNm
 refine ⟨_,M1.cell 0 rfl rfl,?_⟩
 refine brE_dec (fun a0 => ?_) (fun a0 => ?_)
 case' refine_2 =>
  have a0:¬ x.kind = 1:=a0
  exact ⟨congrArg Value.bool (decide_eq_false fun h => a0 h.1).symm,M1.ext⟩
 have a0:x.kind = 1:=a0
 refine ⟨_,M1.cell 0 rfl rfl,?_⟩
 refine ⟨_,cell_of_block (h1.ext.heap hp0) rfl,?_⟩
 refine brE_dec (fun a1 => ?_) (fun a1 => ?_)
 case' refine_2 =>
  have a1:¬ x.who = s:=a1
  exact ⟨congrArg Value.bool (decide_eq_false fun h => a1 h.2.1).symm,M1.ext⟩
 have a1:x.who = s:=a1
 refine ⟨_,M1.cell 0 rfl rfl,?_⟩
 refine ⟨_,cell_of_block (h1.ext.heap hp1) rfl,?_⟩
 refine ⟨congrArg Value.bool ?_,M1.ext⟩
 show decide (x.other = lang) = _
 rw [Bool.eq_iff_iff,decide_eq_true_eq,decide_eq_true_eq]
 exact ⟨fun h => ⟨a0,a1,h⟩,fun h => h.2.2⟩
theorem dead1_spec (x:Fact) {n:Int} {p0:Nat} (w:World) (hp0:BoxI w p0 n) :
  CallsV C.P 228 (#[] ++ [x.val].toArray ++ #[.pointer (some ⟨p0,0,none⟩)]) w fun v w' => v = .bool (deathB n x) ∧ Ext w w':=by
 refine callsV_of C_ok (args:=[_,_]) (plans:=[]) Tryz.func228 rfl Tryz.ntmps228 (by kernel_rfl) (Nat.le_of_ble_eq_true rfl) ?_
 intro g w1 h1
 have M1:=(Mem.start w).alloc h1
 unfold deathB
 refine ⟨_,M1.cell 0 rfl rfl,?_⟩
 refine brE_dec (fun a0 => ?_) (fun a0 => ?_)
 case' refine_2 =>
  have a0:¬ x.kind = 10:=a0
  exact ⟨congrArg Value.bool (decide_eq_false fun h => a0 h.1).symm,M1.ext⟩
 have a0:x.kind = 10:=a0
 refine ⟨_,M1.cell 0 rfl rfl,?_⟩
 refine ⟨_,cell_of_block (h1.ext.heap hp0) rfl,?_⟩
 refine ⟨congrArg Value.bool ?_,M1.ext⟩
 show decide (x.who = n) = _
 rw [Bool.eq_iff_iff,decide_eq_true_eq,decide_eq_true_eq]
 exact ⟨fun h => ⟨a0,h⟩,fun h => h.2⟩
theorem Mourns1_spec (x:Fact) {s:Int} {p0:Nat} (w:World) (hp0:BoxI w p0 s) :
  CallsV C.P 156 (#[] ++ [x.val].toArray ++ #[.pointer (some ⟨p0,0,none⟩)]) w fun v w' => v = .bool (mournB s x) ∧ Ext w w':=by
 refine callsV_of C_ok (args:=[_,_]) (plans:=[]) Tryz.func156 rfl Tryz.ntmps156 (by kernel_rfl) (Nat.le_of_ble_eq_true rfl) ?_
 intro g w1 h1
 have M1:=(Mem.start w).alloc h1
 unfold mournB
 refine ⟨_,M1.cell 0 rfl rfl,?_⟩
 refine brE_dec (fun a0 => ?_) (fun a0 => ?_)
 case' refine_2 =>
  have a0:¬ x.kind = 7:=a0
  exact ⟨congrArg Value.bool (decide_eq_false fun h => a0 h.1).symm,M1.ext⟩
 have a0:x.kind = 7:=a0
 refine ⟨_,M1.cell 0 rfl rfl,?_⟩
 refine ⟨_,cell_of_block (h1.ext.heap hp0) rfl,?_⟩
 refine ⟨congrArg Value.bool ?_,M1.ext⟩
 show decide (x.who = s) = _
 rw [Bool.eq_iff_iff,decide_eq_true_eq,decide_eq_true_eq]
 exact ⟨fun h => ⟨a0,h⟩,fun h => h.2⟩
theorem Principal1_spec (x:Fact) {n:Int} {p0:Nat} (w:World) (hp0:BoxI w p0 n) :
  CallsV C.P 154 (#[] ++ [x.val].toArray ++ #[.pointer (some ⟨p0,0,none⟩)]) w fun v w' => v = .bool (deputyB n x) ∧ Ext w w':=by
 refine callsV_of C_ok (args:=[_,_]) (plans:=[]) Tryz.func154 rfl Tryz.ntmps154 (by kernel_rfl) (Nat.le_of_ble_eq_true rfl) ?_
 intro g w1 h1
 have M1:=(Mem.start w).alloc h1
 unfold deputyB
 refine ⟨_,M1.cell 0 rfl rfl,?_⟩
 refine brE_dec (fun a0 => ?_) (fun a0 => ?_)
 case' refine_2 =>
  have a0:¬ x.kind = 9:=a0
  exact ⟨congrArg Value.bool (decide_eq_false fun h => a0 h.1).symm,M1.ext⟩
 have a0:x.kind = 9:=a0
 refine ⟨_,M1.cell 0 rfl rfl,?_⟩
 refine ⟨_,cell_of_block (h1.ext.heap hp0) rfl,?_⟩
 refine ⟨congrArg Value.bool ?_,M1.ext⟩
 show decide (x.who = n) = _
 rw [Bool.eq_iff_iff,decide_eq_true_eq,decide_eq_true_eq]
 exact ⟨fun h => ⟨a0,h⟩,fun h => h.2⟩
theorem Credentials1_spec (x:Fact) {n s:Int} {p0 p1:Nat} (w:World) (hp0:BoxI w p0 n) (hp1:BoxI w p1 s) :
  CallsV C.P 162 (#[] ++ [x.val].toArray ++ #[.pointer (some ⟨p0,0,none⟩),.pointer (some ⟨p1,0,none⟩)]) w fun v w' => v = .bool (credB n s x) ∧ Ext w w':=by
 refine callsV_of C_ok (args:=[_,_,_]) (plans:=[]) Tryz.func162 rfl Tryz.ntmps162 (by kernel_rfl) (Nat.le_of_ble_eq_true rfl) ?_
 intro g w1 h1
 have M1:=(Mem.start w).alloc h1
 unfold credB
 refine ⟨_,M1.cell 0 rfl rfl,?_⟩
 refine brE_dec (fun a0 => ?_) (fun a0 => ?_)
 case' refine_2 =>
  have a0:¬ x.kind = 5:=a0
  exact ⟨congrArg Value.bool (decide_eq_false fun h => a0 h.1).symm,M1.ext⟩
 have a0:x.kind = 5:=a0
 refine ⟨_,M1.cell 0 rfl rfl,?_⟩
 refine ⟨_,cell_of_block (h1.ext.heap hp0) rfl,?_⟩
 refine brE_dec (fun a1 => ?_) (fun a1 => ?_)
 case' refine_2 =>
  have a1:¬ x.who = n:=a1
  exact ⟨congrArg Value.bool (decide_eq_false fun h => a1 h.2.1).symm,M1.ext⟩
 have a1:x.who = n:=a1
 refine ⟨_,M1.cell 0 rfl rfl,?_⟩
 refine ⟨_,cell_of_block (h1.ext.heap hp1) rfl,?_⟩
 refine ⟨congrArg Value.bool ?_,M1.ext⟩
 show decide (x.what = s) = _
 rw [Bool.eq_iff_iff,decide_eq_true_eq,decide_eq_true_eq]
 exact ⟨fun h => ⟨a0,a1,h⟩,fun h => h.2.2⟩
theorem recognised11_spec (x:Fact) {host s n:Int} {p0 p1 p2:Nat} (w:World) (hp0:BoxI w p0 host) (hp1:BoxI w p1 s) (hp2:BoxI w p2 n) :
  CallsV C.P 227 (#[] ++ [x.val].toArray ++ #[.pointer (some ⟨p0,0,none⟩),.pointer (some ⟨p1,0,none⟩),.pointer (some ⟨p2,0,none⟩)]) w fun v w' => v = .bool (recogB host s n x) ∧ Ext w w':=by
 refine callsV_of C_ok (args:=[_,_,_,_]) (plans:=[]) Tryz.func227 rfl Tryz.ntmps227 (by kernel_rfl) (Nat.le_of_ble_eq_true rfl) ?_
 intro g w1 h1
 have M1:=(Mem.start w).alloc h1
 unfold recogB
 refine ⟨_,M1.cell 0 rfl rfl,?_⟩
 refine brE_dec (fun a0 => ?_) (fun a0 => ?_)
 case' refine_2 =>
  have a0:¬ x.kind = 4:=a0
  exact ⟨congrArg Value.bool (decide_eq_false fun h => a0 h.1).symm,M1.ext⟩
 have a0:x.kind = 4:=a0
 refine ⟨_,M1.cell 0 rfl rfl,?_⟩
 refine ⟨_,cell_of_block (h1.ext.heap hp0) rfl,?_⟩
 refine brE_dec (fun a1 => ?_) (fun a1 => ?_)
 case' refine_2 =>
  have a1:¬ x.who = host:=a1
  exact ⟨congrArg Value.bool (decide_eq_false fun h => a1 h.2.1).symm,M1.ext⟩
 have a1:x.who = host:=a1
 refine ⟨_,M1.cell 0 rfl rfl,?_⟩
 refine ⟨_,cell_of_block (h1.ext.heap hp1) rfl,?_⟩
 refine brE_dec (fun a2 => ?_) (fun a2 => ?_)
 case' refine_2 =>
  have a2:¬ x.what = s:=a2
  exact ⟨congrArg Value.bool (decide_eq_false fun h => a2 h.2.2.1).symm,M1.ext⟩
 have a2:x.what = s:=a2
 refine ⟨_,M1.cell 0 rfl rfl,?_⟩
 refine ⟨_,cell_of_block (h1.ext.heap hp2) rfl,?_⟩
 refine ⟨congrArg Value.bool ?_,M1.ext⟩
 show decide (x.other = n) = _
 rw [Bool.eq_iff_iff,decide_eq_true_eq,decide_eq_true_eq]
 exact ⟨fun h => ⟨a0,a1,a2,h⟩,fun h => h.2.2.2⟩
theorem Spouse1_spec (x:Fact) {n:Int} {p0:Nat} (w:World) (hp0:BoxI w p0 n) :
  CallsV C.P 160 (#[] ++ [x.val].toArray ++ #[.pointer (some ⟨p0,0,none⟩)]) w fun v w' => v = .bool (marriedB n x) ∧ Ext w w':=by
 refine callsV_of C_ok (args:=[_,_]) (plans:=[]) Tryz.func160 rfl Tryz.ntmps160 (by kernel_rfl) (Nat.le_of_ble_eq_true rfl) ?_
 intro g w1 h1
 have M1:=(Mem.start w).alloc h1
 unfold marriedB
 refine ⟨_,M1.cell 0 rfl rfl,?_⟩
 refine brE_dec (fun a0 => ?_) (fun a0 => ?_)
 case' refine_2 =>
  have a0:¬ x.kind = 6:=a0
  exact ⟨congrArg Value.bool (decide_eq_false fun h => a0 h.1).symm,M1.ext⟩
 have a0:x.kind = 6:=a0
 refine ⟨_,M1.cell 0 rfl rfl,?_⟩
 refine ⟨_,cell_of_block (h1.ext.heap hp0) rfl,?_⟩
 refine brE_dec (fun a1 => ?_) (fun a1 => ?_)
 ·have a1:x.who = n:=a1
  exact ⟨congrArg Value.bool (decide_eq_true ⟨a0,.inl a1⟩).symm,M1.ext⟩
 have a1:¬ x.who = n:=a1
 refine ⟨_,M1.cell 0 rfl rfl,?_⟩
 refine ⟨_,cell_of_block (h1.ext.heap hp0) rfl,?_⟩
 refine ⟨congrArg Value.bool ?_,M1.ext⟩
 show decide (x.other = n) = _
 rw [Bool.eq_iff_iff,decide_eq_true_eq,decide_eq_true_eq]
 exact ⟨fun h => ⟨a0,.inr h⟩,fun h => h.2.resolve_left a1⟩
abbrev TestV (w:World) (gd:Nat) (cb:Array Value) (p:Fact -> Bool):Prop:=∀ (x:Fact) (w':World),Ext w w' -> CallsV C.P gd (#[] ++ [x.val].toArray ++ cb) w' fun v w'' => v = .bool (p x) ∧ Ext w' w''
set_option maxRecDepth 100000 in
theorem last_spec {w:World} {A:Option Addr} {l:List Fact} {c gd:Nat} {cb:Array Value} {p:Fact -> Bool} (hr:Reads w A (fcells l)) (hl:l.length <= 2 ^ 20) (hgd:C.can gd = true) (hp:TestV w gd cb p) :
  CallsV C.P 153 #[.slice A l.length c,.func (.func gd) #[] cb] w fun v w' => v = .tuple #[((lastP p l).getD factZ).val,.bool (lastP p l).isSome] ∧ Ext w w':=by
 refine callsV_of C_ok (args:=[_,_]) (plans:=[]) Tryz.func153 rfl Tryz.ntmps153 (by kernel_rfl) (Nat.le_of_ble_eq_true rfl) ?_
 intro g4 w1 h1
 have M1:Mem w w1 [(g4,.cells factZ.cells.toArray 55 (0,0))]:=(Mem.start w).alloc h1
 refine ⟨(l.length:Int) - 1,fit ⟨by omega,by omega⟩,?_⟩
 refine loopE C_ok (fun (n:Nat) => [(0,.slice A l.length c),(1,.func (.func gd) #[] cb),(4,.pointer (some ⟨g4,0,none⟩)),(6,.int .i64 ((n:Int) - 1))])
  (fun n w' => n <= l.length ∧ Mem w w' [(g4,.cells factZ.cells.toArray 55 (0,0))] ∧ lastP p l = lastP p (l.take n)) (fun n => n) l.length
  ⟨rfl,rfl,rfl,rfl,trivial⟩ ⟨Nat.le_refl _,M1,by rw [List.take_length]⟩ ?_
 rintro n w2 ⟨hn,M2,hlast⟩
 refine brE_dec (fun hge => ?_) (fun hlt => ?_)
 ·have hge:(n:Int) - 1 >= 0:=hge
  obtain ⟨m,rfl⟩:∃ m,n = m + 1:=⟨n - 1,by omega⟩
  have hm:m < l.length:=by omega
  rw [lastP_take hm] at hlast
  obtain ⟨b,o,hA,hc⟩:=Reads.fact (hr.ext M2.ext) hm
  refine ⟨m,b,o,by omega,hm,hA,?_⟩
  refine ⟨l[m].cells,rfl,hc,?_⟩
  refine brE_true hgd ?_
  refine (hp l[m] w2 M2.ext).mono ?_
  rintro v w3 ⟨rfl,e3⟩
  have M3:=M2.grow e3
  refine brE_mk (fun hb => ?_) (fun hb => ?_)
  ·rw [if_pos hb] at hlast
   obtain ⟨b2,o2,hA2,hc2⟩:=Reads.fact (hr.ext M3.ext) hm
   refine ⟨m,b2,o2,by omega,hm,hA2,?_⟩
   refine ⟨l[m].cells,rfl,hc2,?_⟩
   refine ⟨rfl,_,_,M3.get 0 rfl,Nat.le_of_ble_eq_true rfl,rfl,?_⟩
   intro w4 h4
   have h4:Put w3 g4 (.cells l[m].cells.toArray 55 (0,0)) w4:=h4
   refine ⟨l[m].cells,rfl,Rd.of_block h4.here,?_⟩
   refine ⟨?_,(M3.put 0 rfl h4).ext⟩
   rw [hlast]; rfl
  ·rw [if_neg (by rw [hb]; decide)] at hlast
   refine ⟨((m:Nat):Int) - 1,by rw [fit ⟨by omega,by omega⟩]; omega,?_⟩
   exact ⟨m,⟨rfl,rfl,rfl,rfl,trivial⟩,⟨by omega,M3,hlast⟩,by omega⟩
 ·have:n = 0:=by have:¬ (n:Int) - 1 >= 0:=hlt; omega
  subst this
  have hlast:lastP p l = none:=hlast
  refine ⟨rfl,_,_,M2.get 0 rfl,Nat.le_of_ble_eq_true rfl,rfl,?_⟩
  intro w4 h4
  have h4:Put w2 g4 (.cells factZ.cells.toArray 55 (0,0)) w4:=h4
  refine ⟨factZ.cells,rfl,Rd.of_block h4.here,?_⟩
  refine ⟨?_,(M2.put 0 rfl h4).ext⟩
  rw [hlast]; rfl
theorem IndexFuncV_spec {w:World} {A:Option Addr} {l:List Fact} {c gd:Nat} {cb:Array Value} {p:Fact -> Bool} (hr:Reads w A (fcells l)) (hl:l.length <= 2 ^ 20) (hgd:C.can gd = true) (hp:TestV w gd cb p) :
  CallsV C.P 262 #[.slice A l.length c,.func (.func gd) #[] cb] w fun v w' => (∃ i:Int,v = .int .i64 i ∧ decide (i >= 0) = l.any p) ∧ Ext w w':=by
 refine callsV_of C_ok (args:=[_,_]) (plans:=[]) Tryz.func262 rfl Tryz.ntmps262 (by kernel_rfl) (Nat.le_of_ble_eq_true rfl) ?_
 refine loopE C_ok (fun (i:Nat) => [(0,.slice A l.length c),(1,.func (.func gd) #[] cb),(7,.int .i64 l.length),(8,.int .i64 i)])
  (fun i w' => Ext w w' ∧ i <= l.length ∧ (l.take i).any p = false) (fun i => l.length - i) 0 ⟨rfl,rfl,rfl,rfl,trivial⟩
  ⟨Ext.refl _,Nat.zero_le _,rfl⟩ ?_
 rintro i w1 ⟨e1,hi,hall⟩
 refine brE_dec (fun hlt => ?_) (fun hge => ?_)
 ·have hlt:i < l.length:=by have:(i:Int) < (l.length:Nat):=hlt; omega
  obtain ⟨b,o,hA,hc⟩:=Reads.fact (hr.ext e1) hlt
  refine ⟨i,b,o,rfl,hlt,hA,?_⟩
  refine ⟨l[i].cells,rfl,hc,?_⟩
  refine brE_true hgd ?_
  refine (hp l[i] w1 e1).mono ?_
  rintro v w2 ⟨rfl,e2⟩
  refine brE_mk (fun h2 => ?_) (fun h2 => ?_)
  ·refine ⟨⟨i,rfl,?_⟩,e1.trans e2⟩
   rw [decide_eq_true (by omega),eq_comm,List.any_eq_true]
   exact ⟨_,List.getElem_mem hlt,h2⟩
  ·refine ⟨((i + 1:Nat):Int),fit ⟨by omega,by omega⟩,?_⟩
   refine ⟨i + 1,⟨rfl,rfl,rfl,rfl,trivial⟩,⟨e1.trans e2,hlt,?_⟩,by omega⟩
   rw [List.take_succ_eq_append_getElem hlt,List.any_append,hall]
   simp [h2]
 ·have:i = l.length:=by have:¬ (i:Int) < (l.length:Nat):=hge; omega
  subst this
  rw [List.take_length] at hall
  exact ⟨⟨-1,rfl,by rw [hall]; rfl⟩,e1⟩
theorem some_spec {w:World} {A:Option Addr} {l:List Fact} {c gd:Nat} {cb:Array Value} {p:Fact -> Bool} (hr:Reads w A (fcells l)) (hl:l.length <= 2 ^ 20) (hgd:C.can gd = true) (hp:TestV w gd cb p) :
  CallsV C.P 155 #[.slice A l.length c,.func (.func gd) #[] cb] w fun v w' => v = .bool (l.any p) ∧ Ext w w':=by
 have inner:CallsV C.P 224 #[.slice A l.length c,.func (.func gd) #[] cb] w fun v w' => v = .bool (l.any p) ∧ Ext w w':=by
  refine callsV_of C_ok (args:=[_,_]) (plans:=[]) Tryz.func224 rfl Tryz.ntmps224 (by kernel_rfl) (Nat.le_of_ble_eq_true rfl) ?_
  refine (IndexFuncV_spec hr hl hgd hp).mono ?_
  rintro v w1 ⟨⟨i,rfl,hi⟩,e1⟩
  exact ⟨congrArg Value.bool hi,e1⟩
 refine callsV_of C_ok (args:=[_,_]) (plans:=[]) Tryz.func155 rfl Tryz.ntmps155 (by kernel_rfl) (Nat.le_of_ble_eq_true rfl) ?_
 refine inner.mono ?_
 rintro v w1 ⟨rfl,e1⟩
 exact ⟨rfl,e1⟩
theorem vdead_spec {w:World} {A:Option Addr} {l:List Fact} {c:Nat} (hr:Reads w A (fcells l)) (hl:l.length <= 2 ^ 20) (n:Int) :
  CallsV C.P 161 #[.slice A l.length c,.int .i64 n] w fun v w' => v = .bool (deadB l n) ∧ Ext w w':=by
 refine callsV_of C_ok (args:=[_,_]) (plans:=[]) Tryz.func161 rfl Tryz.ntmps161 (by kernel_rfl) (Nat.le_of_ble_eq_true rfl) ?_
 intro g w1 h1
 refine ⟨[],[.pointer (some ⟨g,0,none⟩)],rfl,rfl,?_⟩
 refine (some_spec (p:=deathB n) (hr.ext h1.ext) hl rfl fun x w' e => dead1_spec x w' (e.heap h1.here)).mono ?_
 rintro v w2 ⟨rfl,e2⟩
 exact ⟨rfl,h1.ext.trans e2⟩
theorem named_spec {w:World} {A:Option Addr} {l:List Fact} {c:Nat} (hr:Reads w A (fcells l)) (hl:l.length <= 2 ^ 20) (s lang:Int) :
  CallsV C.P 164 #[.slice A l.length c,.int .i64 s,.int .i64 lang] w fun v w' => v = .tuple #[((lastP (isNm s lang) l).getD factZ).val,.bool (lastP (isNm s lang) l).isSome] ∧ Ext w w':=by
 refine callsV_of C_ok (args:=[_,_,_]) (plans:=[]) Tryz.func164 rfl Tryz.ntmps164 (by kernel_rfl) (Nat.le_of_ble_eq_true rfl) ?_
 intro g4 w1 h1
 have M1:=(Mem.start w).alloc h1
 intro g5 w2 h2
 have M2:=M1.alloc h2
 intro g6 w3 h3
 have M3:=M2.alloc h3
 refine ⟨[],[.pointer (some ⟨g4,0,none⟩),.pointer (some ⟨g5,0,none⟩)],rfl,rfl,?_⟩
 refine (last_spec (p:=isNm s lang) (hr.ext M3.ext) hl rfl fun x w' e => named1_spec x w' (e.heap (M3.get 2 rfl)) (e.heap (M3.get 1 rfl))).mono ?_
 rintro v w4 ⟨rfl,e4⟩
 have M4:=M3.grow e4
 generalize hx:(lastP (isNm s lang) l).getD factZ = y
 refine ⟨rfl,_,_,M4.get 0 rfl,Nat.le_of_ble_eq_true rfl,rfl,?_⟩
 intro w5 h5
 have h5:Put w4 g6 (.cells y.cells.toArray 55 (0,0)) w5:=h5
 refine ⟨y.cells,rfl,Rd.of_block h5.here,?_⟩
 exact ⟨rfl,(M4.put 0 rfl h5).ext⟩
theorem look_spec {w:World} {A:Option Addr} {l:List Fact} {c:Nat} (h:HF w A l c) (hl:l.length <= 2 ^ 20) (k day:Int) :
  CallsV C.P 41 #[.slice A l.length c,.int .i64 k,.int .i64 day] w fun v w' => NewF w.heap.size w' v (atL k day l) ∧ Ext w w':=by
 refine callsV_of C_ok (args:=[_,_,_]) (plans:=[]) Tryz.func41 rfl Tryz.ntmps41 (by kernel_rfl) (Nat.le_of_ble_eq_true rfl) ?_
 refine (At_spec h hl k day).mono ?_
 rintro v w1 h1
 exact h1
end Go.Proofs.YtdpdjcopkehdjaaGreat
namespace Go.Proofs.YtdpdjcopkehdjaaGreat
open Go.Proofs
def sortI_ren:Go.Shelf.Ren:=⟨fun | 5 => 82 | 8 => 141 | 7 => 140 | 19 => 218 | 20 => 219 | 10 => 209 | 11 => 210 | 12 => 211 | 13 => 212 | 14 => 213 | 15 => 214 | 16 => 215 | 17 => 216 | 18 => 217 | 30 => 256 | 31 => 257 | 32 => 258 | 33 => 259 | 34 => 260 | 35 => 183 | 40 => 295 | n => n,fun | 23 => 35 | 25 => 3 | 3 => 3 | 32 => 163 | 22 => 35 | 0 => 0 | 44 => 249 | 46 => 251 | 4 => 4 | 36 => 243 | 35 => 242 | 41 => 113 | 5 => 5 | 9 => 9 | 53 => 274 | 57 => 265 | 63 => 289 | 64 => 210 | n => n,fun | n => n⟩
theorem sortI:Go.Proofs.SlLaysM.n5 Tryz.prog sortI_ren:={
 mixed:=by kernel_rfl,
 f5:=⟨Tryz.f82.name,by decide,Tryz.func82.trans (congrArg some (by kernel_rfl))⟩,
 f7:=⟨Tryz.f140.name,by decide,Tryz.func140.trans (congrArg some (by kernel_rfl))⟩,
 f8:=Tryz.func141.trans (congrArg some (by kernel_rfl)),
 f10:=⟨Tryz.f209.name,by decide,Tryz.func209.trans (congrArg some (by kernel_rfl))⟩,
 f11:=⟨Tryz.f210.name,by decide,Tryz.func210.trans (congrArg some (by kernel_rfl))⟩,
 f12:=⟨Tryz.f211.name,by decide,Tryz.func211.trans (congrArg some (by kernel_rfl))⟩,
 f13:=⟨Tryz.f212.name,by decide,Tryz.func212.trans (congrArg some (by kernel_rfl))⟩,
 f14:=⟨Tryz.f213.name,by decide,Tryz.func213.trans (congrArg some (by kernel_rfl))⟩,
 f15:=⟨Tryz.f214.name,by decide,Tryz.func214.trans (congrArg some (by kernel_rfl))⟩,
 f16:=⟨Tryz.f215.name,by decide,Tryz.func215.trans (congrArg some (by kernel_rfl))⟩,
 f17:=⟨Tryz.f216.name,by decide,Tryz.func216.trans (congrArg some (by kernel_rfl))⟩,
 f18:=⟨Tryz.f217.name,by decide,Tryz.func217.trans (congrArg some (by kernel_rfl))⟩,
 f19:=Tryz.func218.trans (congrArg some (by kernel_rfl)),
 f20:=Tryz.func219.trans (congrArg some (by kernel_rfl)),
 f30:=⟨Tryz.f256.name,by decide,Tryz.func256.trans (congrArg some (by kernel_rfl))⟩,
 f31:=Tryz.func257.trans (congrArg some (by kernel_rfl)),
 f32:=Tryz.func258.trans (congrArg some (by kernel_rfl)),
 f33:=⟨Tryz.f259.name,by decide,Tryz.func259.trans (congrArg some (by kernel_rfl))⟩,
 f34:=⟨Tryz.f260.name,by decide,Tryz.func260.trans (congrArg some (by kernel_rfl))⟩,
 f35:=⟨Tryz.f183.name,by decide,Tryz.func183.trans (congrArg some (by kernel_rfl))⟩,
 f40:=⟨Tryz.f295.name,by decide,Tryz.func295.trans (congrArg some (by kernel_rfl))⟩,
 t0:=Tryz.underlying0,
 a0:=Tryz.isAgg0,
 z0:=Tryz.sizeOf0,
 v0:=Tryz.zeroValue0,
 t3:=Tryz.underlying3,
 a3:=Tryz.isAgg3,
 z3:=Tryz.sizeOf3,
 v3:=Tryz.zeroValue3,
 t4:=Tryz.underlying4,
 a4:=Tryz.isAgg4,
 z4:=Tryz.sizeOf4,
 v4:=Tryz.zeroValue4,
 t5:=Tryz.underlying5,
 a5:=Tryz.isAgg5,
 z5:=Tryz.sizeOf5,
 v5:=Tryz.zeroValue5,
 t9:=Tryz.underlying9,
 a9:=Tryz.isAgg9,
 z9:=Tryz.sizeOf9,
 v9:=Tryz.zeroValue9,
 t22:=Tryz.underlying35,
 a22:=Tryz.isAgg35,
 z22:=Tryz.sizeOf35,
 v22:=Tryz.zeroValue35,
 t23:=Tryz.underlying35,
 a23:=Tryz.isAgg35,
 z23:=Tryz.sizeOf35,
 v23:=Tryz.zeroValue35,
 t25:=Tryz.underlying3,
 a25:=Tryz.isAgg3,
 z25:=Tryz.sizeOf3,
 v25:=Tryz.zeroValue3,
 t32:=Tryz.underlying163,
 a32:=Tryz.isAgg163,
 z32:=Tryz.sizeOf163,
 v32:=Tryz.zeroValue163,
 t35:=Tryz.underlying242,
 a35:=Tryz.isAgg242,
 z35:=Tryz.sizeOf242,
 v35:=Tryz.zeroValue242,
 t36:=Tryz.underlying243,
 a36:=Tryz.isAgg243,
 z36:=Tryz.sizeOf243,
 v36:=Tryz.zeroValue243,
 t41:=Tryz.underlying113,
 a41:=Tryz.isAgg113,
 z41:=Tryz.sizeOf113,
 v41:=Tryz.zeroValue113,
 t44:=Tryz.underlying249,
 a44:=Tryz.isAgg249,
 z44:=Tryz.sizeOf249,
 v44:=Tryz.zeroValue249,
 t46:=Tryz.underlying251,
 a46:=Tryz.isAgg251,
 z46:=Tryz.sizeOf251,
 v46:=Tryz.zeroValue251,
 t53:=Tryz.underlying274,
 a53:=Tryz.isAgg274,
 z53:=Tryz.sizeOf274,
 v53:=Tryz.zeroValue274,
 t57:=Tryz.underlying265,
 a57:=Tryz.isAgg265,
 z57:=Tryz.sizeOf265,
 v57:=Tryz.zeroValue265,
 t63:=Tryz.underlying289,
 a63:=Tryz.isAgg289,
 z63:=Tryz.sizeOf289,
 v63:=Tryz.zeroValue289,
 t64:=Tryz.underlying210,
 a64:=Tryz.isAgg210,
 z64:=Tryz.sizeOf210,
 v64:=Tryz.zeroValue210 }
end Go.Proofs.YtdpdjcopkehdjaaGreat
namespace Go.Eng
open Go.RowKit Go.Sort
abbrev enc1 (n:Int):List Value:=[.int .i64 n]
theorem ints_flat:∀ (xs:List Int),xs.flatMap enc1 = ints xs
 | [] => rfl
 | x :: r => by rw [List.flatMap_cons,ints_flat r]; rfl
theorem getI_flat (d:Array Int) {j:Nat} (h:j < d.size):(flatK enc1 1 d)[j]! = .int .i64 d[j]!:=by
 rw [get_flatK enc1 1 d j (by omega),Nat.div_one,Nat.mod_one]
 rfl
theorem putRow_one (w:World) (blk off:Nat) (d:Array Int):putRow (Value.int .i64) w blk off d = putRowK enc1 1 w blk off d:=by
 unfold putRowK putRow
 congr 1
 funext c
 apply Array.ext_getElem?
 intro k
 simp only [putCells,Array.getElem?_mapIdx,size_flatK,Nat.mul_one]
 cases c[k]? with
 | none => rfl
 | some y =>
  simp only [Option.map_some]
  by_cases h:off <= k ∧ k < off + d.size
  ·rw [if_pos h,if_pos h,getI_flat d (by omega)]; rfl
  ·rw [if_neg h,if_neg h]
theorem holdsI_one {w:World} {blk off:Nat} {d:Array Int} (h:HoldsK enc1 1 w blk off d):Holds (Value.int .i64) w blk off d:=by
 intro j hj
 have:=h j (by rw [size_flatK]; omega)
 rw [getI_flat d hj] at this
 exact this
end Go.Eng
namespace Go.Proofs.YtdpdjcopkehdjaaGreat
open Go.Eng Go.RowKit Go.Sort
theorem SortI_spec {w:World} {B:Nat} {v:Value} {l:List Int} (h:NewInts B w v l) (hl:l.length <= 2 ^ 40) :
  CallsV C.P 82 #[v] w fun r w' => r = .tuple #[] ∧ (∃ l',NewInts B w' v l' ∧ l'.Perm l ∧ l'.Pairwise (· <= ·)) ∧ w.grownBy w' v.ownBlock:=by
 refine callsV_of_calls fun w₁ hs => ?_
 have h1:w₁.ownsRow B 3 1 v l.length (ints l):=ownsRow_same hs h
 have turn:∀ {w':World} {row:Option Nat},w₁.grownBy w' row -> w.grownBy w' row:=fun hg => ⟨hg.os.trans hs.os,hg.tape.trans hs.tape,hg.output.trans hs.output,by rw [<-hs.heap]; exact hg.size,fun q hq hne => by rw [<-hs.heap] at hq ⊢; exact hg.block q hq hne⟩
 by_cases h0:l = []
 ·subst h0
  obtain ⟨A,c,rfl,_,_⟩:=reads_of_owns h1
  refine (AnyM.slices_Sort_int_none sortI A c w₁).mono ?_
  rintro r w' ⟨rfl,rfl⟩
  exact ⟨_,rfl,⟨rfl,⟨[],h1,List.Perm.refl _,List.Pairwise.nil⟩,turn (grownBy_refl _ _)⟩,Nat.le_refl _⟩
 ·have hpos:0 < l.length:=List.length_pos_iff.2 h0
  have hv:∃ q cap,v = .slice (some ⟨q,0,none⟩) l.length cap:=by
   obtain ⟨_,⟨hv,hn⟩ | ⟨q,cap,cur,hv,_⟩⟩:=h1
   ·omega
   ·exact ⟨q,cap,hv⟩
  obtain ⟨q,cap,rfl⟩:=hv
  rw [<-ints_flat] at h1
  obtain ⟨hH,hlt,hB,hrow⟩:=sort_row (enc:=enc1) (k:=1) (fun _ => rfl) h1
  refine (AnyM.slices_Sort_int sortI q 0 cap l w₁ (holdsI_one hH) hlt (by omega)).mono ?_
  rintro r w' ⟨rfl,n,os,rfl⟩
  have hperm:=List.mergeSort_perm l fun x y => decide (x <= y)
  have hlen:(l.mergeSort fun x y => decide (x <= y)).length = l.length:=hperm.length_eq
  obtain ⟨ho,hg,_⟩:=hrow (l.mergeSort fun x y => decide (x <= y)).toArray n os (by simpa using hlen)
  unfold sortWorldK at ho hg
  rw [<-putRow_one] at ho hg
  refine ⟨_,rfl,⟨rfl,⟨_,?_,hperm,?_⟩,turn hg⟩,?_⟩
  ·show World.ownsRow _ B 3 1 _ (l.mergeSort fun x y => decide (x <= y)).length _
   rw [hlen,<-ints_flat]
   exact ho
  ·refine (List.pairwise_mergeSort (le:=fun x y => decide (x <= y)) (fun a b c h1 h2 => ?_) (fun a b => ?_) l).imp fun h => of_decide_eq_true h
   ·rw [decide_eq_true_eq] at *; omega
   ·rw [Bool.or_eq_true,decide_eq_true_eq,decide_eq_true_eq]; omega
  ·show w₁.drawn <= w₁.drawn + n
   omega
def compF:Int -> List Int -> List Int
 | _,[] => []
 | p,x :: r => if x = p then compF p r else x :: compF x r
def compL:List Int -> List Int
 | [] => []
 | x :: r => x :: compF x r
def lastOr:Int -> List Int -> Int
 | p,[] => p
 | _,x :: r => lastOr x r
theorem compF_snoc:∀ (r:List Int) (p b:Int),compF p (r ++ [b]) = compF p r ++ if b = lastOr p r then [] else [b]
 | [],p,b => by
  show (if b = p then [] else [b]) = _
  rfl
 | x :: r,p,b => by
  rw [List.cons_append,compF,compF,lastOr]
  split
  ·rename_i e; subst e; exact compF_snoc r x b
  ·rw [compF_snoc r x b,List.cons_append]
theorem lastOr_get:∀ (r:List Int) (p:Int),lastOr p r = (p :: r)[r.length]'(by simp)
 | [],p => rfl
 | x :: r,p => by
  rw [lastOr,lastOr_get r x]; rfl
theorem compL_take {l:List Int} {j:Nat} (h1:1 <= j) (hj:j < l.length):compL (l.take (j + 1)) = compL (l.take j) ++ if l[j] = l[j - 1]'(by omega) then [] else [l[j]]:=by
 rw [List.take_succ_eq_append_getElem hj]
 obtain ⟨m,rfl⟩:∃ m,j = m + 1:=⟨j - 1,by omega⟩
 cases l with
 | nil => simp at hj
 | cons x r =>
  have hlen:(r.take m).length = m:=by rw [List.length_take]; simp at hj; omega
  rw [List.take_succ_cons,List.cons_append,compL,compF_snoc,compL,List.cons_append]
  have:lastOr x (r.take m) = (x :: r)[m + 1 - 1]:=by
   rw [lastOr_get]
   have:(x :: r.take m)[(r.take m).length]'(by simp) = (x :: r.take m)[m]'(by simp [hlen]):=by congr 1
   rw [this]
   have e:x :: r.take m = (x :: r).take (m + 1):=by rw [List.take_succ_cons]
   simp only [e,List.getElem_take,Nat.add_sub_cancel]
  rw [this]
theorem compL_short {l:List Int} (h:l.length < 2):compL l = l:=by
 match l,h with
 | [],_ => rfl
 | [x],_ => rfl
theorem compF_sorted:∀ {r:List Int} {p:Int},(p :: r).Pairwise (· <= ·) -> (p :: compF p r).Pairwise (· < ·) ∧ ∀ x,x ∈ p :: compF p r <-> x ∈ p :: r
 | [],p,_ => ⟨by simp [compF],fun x => by simp [compF]⟩
 | y :: r,p,h => by
  obtain ⟨h1,h2⟩:=List.pairwise_cons.1 h
  rw [compF]
  split
  ·rename_i e
   subst e
   obtain ⟨a,b⟩:=compF_sorted h2
   refine ⟨a,fun x => (b x).trans ?_⟩
   simp
  ·rename_i e
   obtain ⟨a,b⟩:=compF_sorted h2
   have hy:=h1 y (by simp)
   refine ⟨List.pairwise_cons.2 ⟨fun x hx => ?_,a⟩,fun x => ?_⟩
   ·have:=(b x).1 hx
    have hyx:y <= x:=by
     rcases List.mem_cons.1 this with rfl | h
     ·exact Int.le_refl _
     ·exact (List.pairwise_cons.1 h2).1 x h
    omega
   ·rw [List.mem_cons,b x,List.mem_cons (a:=x) (b:=p)]
theorem comp_sorted {l l':List Int} (hp:l'.Perm l) (hs:l'.Pairwise (· <= ·)):compL l' = sortD l:=by
 have key:(compL l').Pairwise (· < ·) ∧ ∀ x,x ∈ compL l' <-> x ∈ l':=by
  cases l' with
  | nil => exact ⟨List.Pairwise.nil,fun x => Iff.rfl⟩
  | cons x r => exact compF_sorted hs
 exact sortD_eq key.1 fun x => (key.2 x).trans hp.mem_iff
set_option maxRecDepth 100000 in
theorem Compact_spec {B:Nat} {w:World} {v:Value} {l:List Int} (ho:NewInts B w v l) (hB:B <= w.heap.size) (hl:l.length <= 2 ^ 40) :
  CallsV C.P 83 #[v] w fun v' w' => NewInts B w' v' (compL l) ∧ Below B w w':=by
 obtain ⟨A,cap,rfl,hR,hlc⟩:=ho.slice
 refine callsV_of C_ok (args:=[_]) (plans:=plans83) Tryz.func83 rfl Tryz.ntmps83 (by kernel_rfl) (Nat.le_of_ble_eq_true rfl) ?_
 refine brE_dec (fun h2 => ?_) (fun h2 => ?_)
 ·have h2:(l.length:Int) < 2:=h2
  rw [compL_short (by omega)]
  exact ⟨ho,Below.refl _ _⟩
 have h2:¬ (l.length:Int) < 2:=h2
 have hA:∃ g,A = some ⟨g,0,none⟩:=by
  obtain ⟨_,⟨hv,h0⟩ | ⟨g,cap',cur,hv,_⟩⟩:=ho
  ·omega
  ·simp at hv; exact ⟨g,hv.1⟩
 obtain ⟨g,rfl⟩:=hA
 have ho0:w.ownsRow B 3 1 (.slice (some ⟨g,0,none⟩) l.length cap) l.length (ints l):=ho
 refine loopE C_ok (fun (k:Nat) => [(0,.slice (some ⟨g,0,none⟩) l.length cap),(3,.int .i64 k)])
  (fun k w' => w' = w ∧ 1 <= k ∧ k <= l.length ∧ compL (l.take k) = l.take k) (fun k => l.length - k) 1 ⟨rfl,rfl,trivial⟩ ⟨rfl,Nat.le_refl _,by omega,compL_short (by rw [List.length_take]; omega)⟩ ?_
 rintro k w1 ⟨rfl,hk1,hk,hck⟩
 refine brE_dec (fun hlt => ?_) (fun hge => ?_)
 case' refine_2 =>
  have:k = l.length:=by have:¬ (k:Int) < (l.length:Nat):=hge; omega
  subst this
  rw [List.take_length] at hck
  rw [hck]
  exact ⟨ho,Below.refl _ _⟩
 have hlt:k < l.length:=by have:(k:Int) < (l.length:Nat):=hlt; omega
 have next:IntKind.i64.wrap ((k:Int) + 1) = ((k + 1:Nat):Int):=fit ⟨by omega,by omega⟩
 have hkp:k - 1 < l.length:=by omega
 have hct:=compL_take hk1 hlt
 obtain ⟨b1,o1,hA1,hc1⟩:=Reads.int hR hlt
 obtain ⟨b2,o2,hA2,hc2⟩:=Reads.int hR hkp
 refine ⟨k,b1,o1,rfl,hlt,hA1,?_⟩
 refine ⟨_,by simpa using hc1,?_⟩
 refine ⟨((k - 1:Nat):Int),by rw [fit ⟨by omega,by omega⟩]; omega,?_⟩
 refine ⟨k - 1,b2,o2,rfl,hkp,hA2,?_⟩
 refine ⟨_,by simpa using hc2,?_⟩
 refine brE_dec (fun he => ?_) (fun hn => ?_)
 case' refine_2 =>
  have hn:¬ l[k] = l[k - 1]:=hn
  rw [if_neg hn,hck,<-List.take_succ_eq_append_getElem hlt] at hct
  refine ⟨_,next,?_⟩
  exact ⟨k + 1,⟨rfl,rfl,trivial⟩,⟨rfl,by omega,hlt,hct⟩,by omega⟩
 have he:l[k] = l[k - 1]:=he
 rw [if_pos he,hck,List.append_nil] at hct
 refine ⟨k,l.length,rfl,rfl,by omega,by omega,?_⟩
 have hA2:(if cap = k then (some (⟨g,0,none⟩:Addr)) else (some (⟨g,0,none⟩:Addr)).map (·.add (k * 1))) = some ⟨g,k,none⟩:=by
  rw [if_neg (by omega)]
  simp [add_spot]
 refine loopE C_ok (fun (s:Nat × Nat × List Int) => [(0,.slice (some ⟨g,0,none⟩) l.length cap),(3,.int .i64 s.2.1),(4,.slice (if cap = k then (some (⟨g,0,none⟩:Addr)) else (some (⟨g,0,none⟩:Addr)).map (·.add (k * 1))) (l.length - k) (cap - k)),(5,.int .i64 s.1)])
  (fun s w' => 1 <= s.1 ∧ k + s.1 <= l.length ∧ s.2.1 = (compL (l.take (k + s.1))).length ∧ 1 <= s.2.1 ∧ s.2.1 < k + s.1 ∧ s.2.2.length = l.length ∧ w'.ownsRow B 3 1 (.slice (some ⟨g,0,none⟩) l.length cap) l.length (ints s.2.2) ∧ s.2.2.take s.2.1 = compL (l.take (k + s.1)) ∧ (∀ j,k + s.1 <= j + 1 -> s.2.2[j]? = l[j]?) ∧ Below B w1 w')
  (fun s => l.length - s.1) (1,k,l) ⟨rfl,rfl,rfl,rfl,trivial⟩
  ⟨Nat.le_refl _,hlt,by rw [hct,List.length_take]; show k = _; omega,hk1,Nat.lt_succ_self _,rfl,ho0,hct.symm,fun _ _ => rfl,Below.refl _ _⟩ ?_
 rintro ⟨j,i,R⟩ w2 ⟨hj1',hj',hi',hi1',hij',hRl',ho2',htake',hrest',b2⟩
 have hj1:1 <= j:=hj1'
 have hj:k + j <= l.length:=hj'
 have hi:i = (compL (l.take (k + j))).length:=hi'
 have hi1:1 <= i:=hi1'
 have hij:i < k + j:=hij'
 have hRl:R.length = l.length:=hRl'
 have ho2:w2.ownsRow B 3 1 (.slice (some ⟨g,0,none⟩) l.length cap) l.length (ints R):=ho2'
 have htake:R.take i = compL (l.take (k + j)):=htake'
 have hrest:∀ q,k + j <= q + 1 -> R[q]? = l[q]?:=hrest'
 clear hj1' hj' hi' hi1' hij' hRl' ho2' htake' hrest'
 have at_:∀ {q:Nat} (hq:q < l.length),k + j <= q + 1 -> ∀ o,o + 0 = q -> w2.cell? ⟨g,o,none⟩ = some (.int .i64 l[q]):=fun {q} hq h o ho => by
  have hreads:Reads w2 (some ⟨g,0,none⟩) (ints R):=by
   obtain ⟨A',c',e,h,_⟩:=reads_of_owns ho2
   cases e; exact h
  obtain ⟨b3,o3,hA3,hc3⟩:=Reads.int hreads (i:=q) (by omega)
  cases hA3
  have e:=hrest q h
  rw [List.getElem?_eq_getElem hq,List.getElem?_eq_getElem (by omega)] at e
  rw [Option.some.inj e] at hc3
  rw [show o = 0 + q by omega]; exact hc3
 refine brE_dec (fun hlt2 => ?_) (fun hge2 => ?_)
 ·have hlt2:k + j < l.length:=by have:(j:Int) < ((l.length - k:Nat):Int):=hlt2; omega
  have next2:IntKind.i64.wrap ((j:Int) + 1) = ((j + 1:Nat):Int):=fit ⟨by omega,by omega⟩
  have hc:=compL_take (l:=l) (j:=k + j) (by omega) hlt2
  have hp:k + j - 1 < l.length:=by omega
  refine ⟨j,g,k,rfl,(by omega:j < l.length - k),hA2,?_⟩
  refine ⟨_,at_ hlt2 (by omega) _ (by simp),?_⟩
  refine ⟨((j - 1:Nat):Int),by rw [fit ⟨by omega,by omega⟩]; omega,?_⟩
  refine ⟨j - 1,g,k,rfl,(by omega:j - 1 < l.length - k),hA2,?_⟩
  refine ⟨_,at_ hp (by omega) _ (by simp; omega),?_⟩
  refine brE_ndec (fun hn => ?_) (fun he2 => ?_)
  ·have hn:¬ l[k + j] = l[k + j - 1]:=hn
   rw [if_neg hn] at hc
   refine ⟨j,g,k,rfl,(by omega:j < l.length - k),hA2,?_⟩
   refine ⟨_,at_ hlt2 (by omega) _ (by simp),?_⟩
   obtain ⟨cur,hg,hgB,hcl,hccap,hncap,hdl,hct2,hput⟩:=ownsRow_open ho2
   refine ⟨i,g,0,rfl,(by omega:i < l.length),rfl,?_⟩
   refine ⟨rfl,_,_,hg,by show 0 + i * 1 + 1 <= cur.length; omega,rfl,?_⟩
   intro w6 h6
   have h6:Put w2 g (.cells (splice cur (0 + i * 1) (enc1 l[k + j])).toArray 3 (0,0)) w6:=h6
   have ho6:=hput (0 + i * 1) (enc1 l[k + j]) w6 (by show 0 + i * 1 + 1 <= _; omega) h6
   have hset:splice (ints R) (i * 1) (enc1 l[k + j]) = ints (R.set i l[k + j]):=by
    rw [<-ints_flat,<-ints_flat]
    exact flat_set (enc:=enc1) (k:=1) (fun _ => rfl) (by omega) _
   rw [show 0 + i * 1 = i * 1 by omega,hset] at ho6
   have nexti:IntKind.i64.wrap ((i:Int) + 1) = ((i + 1:Nat):Int):=fit ⟨by omega,by omega⟩
   refine ⟨_,nexti,?_⟩
   refine ⟨_,next2,?_⟩
   refine ⟨(j + 1,i + 1,R.set i l[k + j]),⟨rfl,rfl,rfl,rfl,trivial⟩,⟨by show 1 <= j + 1; omega,hlt2,?_,by show 1 <= i + 1; omega,by show i + 1 < k + (j + 1); omega,by show (R.set i l[k + j]).length = _; rw [List.length_set,hRl],ho6,?_,?_,below_put b2 h6 hgB⟩,by show l.length - (j + 1) < l.length - j; omega⟩
   ·show i + 1 = (compL (l.take (k + j + 1))).length
    rw [hc,List.length_append,<-hi]; rfl
   ·show (R.set i l[k + j]).take (i + 1) = compL (l.take (k + j + 1))
    have hil:i < (R.set i l[k + j]).length:=by rw [List.length_set]; omega
    rw [hc,List.take_succ_eq_append_getElem hil,List.take_set_of_le (Nat.le_refl _),htake]
    congr 1
    simp
   ·intro q hq
    show (R.set i l[k + j])[q]? = l[q]?
    have hq:k + (j + 1) <= q + 1:=hq
    rw [List.getElem?_set_ne (by omega)]
    exact hrest q (by omega)
  ·have he2:l[k + j] = l[k + j - 1]:=he2
   rw [if_pos he2,List.append_nil] at hc
   refine ⟨_,next2,?_⟩
   exact ⟨(j + 1,i,R),⟨rfl,rfl,rfl,rfl,trivial⟩,⟨by show 1 <= j + 1; omega,hlt2,by show i = (compL (l.take (k + j + 1))).length; rw [hc]; exact hi,hi1,by show i < k + (j + 1); omega,hRl,ho2,by show R.take i = compL (l.take (k + j + 1)); rw [hc]; exact htake,fun q hq => hrest q (by have:k + (j + 1) <= q + 1:=hq; omega),b2⟩,by show l.length - (j + 1) < l.length - j; omega⟩
 ·have hkj:k + j = l.length:=by have:¬ (j:Int) < ((l.length - k:Nat):Int):=hge2; omega
  rw [hkj,List.take_length] at hi htake
  obtain ⟨cur,hg,hgB,hcl,hccap,hncap,hdl,hct2,hput⟩:=ownsRow_open ho2
  refine ⟨i,l.length,rfl,rfl,by omega,by omega,?_⟩
  have hA3:(if cap = i then (some (⟨g,0,none⟩:Addr)) else (some (⟨g,0,none⟩:Addr)).map (·.add (i * 1))) = some ⟨g,0 + i * 1,none⟩:=by
   rw [if_neg (by omega)]
   simp [add_spot]
  refine clearRow (esz:=1) C_ok rfl rfl rfl rfl rfl rfl rfl (by decide) hA3 (by omega) hg (by omega) ?_
  intro zs w3 hzs h3
  have ho3:=hput (0 + i * 1) zs w3 (by rw [hzs]; omega) h3
  refine ⟨0,i,rfl,rfl,Nat.zero_le _,by omega,?_⟩
  have e:(if cap = 0 then (some ⟨g,0,none⟩:Option Addr) else (some (⟨g,0,none⟩:Addr)).map (·.add (0 * 1))) = some ⟨g,0,none⟩:=by
   split <;> rfl
  have hcut:=ownsRow_cut ho3 (k:=i) (by omega)
  have hft:(ints R).take (i * 1) = ints (R.take i):=by rw [Nat.mul_one,ints,ints,List.map_take]
  rw [show 0 + i * 1 = i * 1 by omega,splice_take_at (by rw [ints_length]; omega),hft,htake] at hcut
  refine ⟨?_,below_put b2 h3 hgB⟩
  show w3.ownsRow B 3 1 (.slice (if cap = 0 then (some ⟨g,0,none⟩:Option Addr) else (some (⟨g,0,none⟩:Addr)).map (·.add (0 * 1))) i cap) (compL l).length _
  rw [e,<-hi]
  exact hcut
theorem sorted_spec {B:Nat} {w:World} {v:Value} {l:List Int} (ho:NewInts B w v l) (hB:B <= w.heap.size) (hl:l.length <= 2 ^ 40) :
  CallsV C.P 42 #[v] w fun v' w' => NewInts B w' v' (sortD l) ∧ Below B w w':=by
 refine callsV_of C_ok (args:=[_]) (plans:=[]) Tryz.func42 rfl Tryz.ntmps42 (by kernel_rfl) (Nat.le_of_ble_eq_true rfl) ?_
 refine (SortI_spec ho hl).mono ?_
 rintro r w1 ⟨rfl,⟨l',ho1,hp,hs⟩,hg⟩
 have b1:Below B w w1:=below_app (Below.refl _ _) ho hg hB
 refine (Compact_spec ho1 (Nat.le_trans hB b1.size) (by rw [hp.length_eq]; exact hl)).mono ?_
 rintro v' w2 ⟨ho2,b2⟩
 rw [comp_sorted hp hs] at ho2
 exact ⟨ho2,b1.trans b2⟩
end Go.Proofs.YtdpdjcopkehdjaaGreat
namespace Go.Proofs.YtdpdjcopkehdjaaGreat
open Go.Eng Go.RowKit
theorem fm_take {p:Fact -> Bool} {f:Fact -> Int} {l:List Fact} {i:Nat} (hi:i < l.length):((l.take (i + 1)).filter p).map f = ((l.take i).filter p).map f ++ if p l[i] = true then [f l[i]] else []:=by
 rw [List.take_succ_eq_append_getElem hi,List.filter_append,List.map_append,List.filter_cons,List.filter_nil]
 congr 1
 split <;> rfl
theorem fm_length (p:Fact -> Bool) (f:Fact -> Int) (l:List Fact):((l.filter p).map f).length <= l.length:=by
 rw [List.length_map]; exact List.length_filter_le _ _
theorem fm_take_length (p:Fact -> Bool) (f:Fact -> Int) (l:List Fact) (i:Nat):(((l.take i).filter p).map f).length <= l.length:=Nat.le_trans (fm_length p f _) (by rw [List.length_take]; omega)
set_option maxRecDepth 100000 in
theorem living_spec {w:World} {A:Option Addr} {l:List Fact} {c:Nat} (hr:Reads w A (fcells l)) (hl:l.length <= 2 ^ 20) (k s cl:Int) :
  CallsV C.P 158 #[.slice A l.length c,.int .u8 k,.int .i64 s,.int .i64 cl] w fun v w' => NewInts w.heap.size w' v (livingL l k s cl) ∧ Ext w w':=by
 refine callsV_of C_ok (args:=[_,_,_,_]) (plans:=[]) Tryz.func158 rfl Tryz.ntmps158 (by kernel_rfl) (Nat.le_of_ble_eq_true rfl) ?_
 refine loopE C_ok (fun (t:Nat × Value) => [(0,.slice A l.length c),(1,.int .u8 k),(2,.int .i64 s),(3,.int .i64 cl),(9,t.2),(12,.slice A l.length c),(13,.int .i64 l.length),(14,.int .i64 t.1)])
  (fun t w' => t.1 <= l.length ∧ Ext w w' ∧ NewInts w.heap.size w' t.2 (((l.take t.1).filter (livesB l k s cl)).map Fact.who)) (fun t => l.length - t.1) (0,.slice none 0 0)
  ⟨rfl,rfl,rfl,rfl,rfl,rfl,rfl,rfl,trivial⟩ ⟨Nat.zero_le _,Ext.refl _,newInts_nil _ _⟩ ?_
 rintro ⟨i,v⟩ w2 ⟨hi',e2,ho'⟩
 have hi:i <= l.length:=hi'
 have ho:NewInts w.heap.size w2 v (((l.take i).filter (livesB l k s cl)).map Fact.who):=ho'
 clear hi' ho'
 refine brE_dec (fun hlt => ?_) (fun hge => ?_)
 ·have hlt:i < l.length:=by have:(i:Int) < (l.length:Nat):=hlt; omega
  have next:IntKind.i64.wrap ((i:Int) + 1) = ((i + 1:Nat):Int):=fit ⟨by omega,by omega⟩
  have hlen:=fm_take_length (livesB l k s cl) Fact.who l i
  have step:=fm_take (p:=livesB l k s cl) (f:=Fact.who) hlt
  obtain ⟨b,o,hA,hc⟩:=Reads.fact (hr.ext e2) hlt
  refine ⟨i,b,o,rfl,hlt,hA,?_⟩
  refine ⟨l[i].cells,rfl,hc,?_⟩
  intro g w3 h3
  refine ⟨rfl,_,_,h3.here,Nat.le_of_ble_eq_true rfl,rfl,?_⟩
  intro w4 h4
  have h4:Put w3 g (.cells l[i].cells.toArray 55 (0,0)) w4:=h4
  have e24:Ext w2 w4:=h4.ext_of h3.ext (by rw [h3.new]; exact Nat.le_refl _)
  have skip:∀ {w':World},Ext w2 w' -> livesB l k s cl l[i] = false -> i + 1 <= l.length ∧ Ext w w' ∧ NewInts w.heap.size w' v (((l.take (i + 1)).filter (livesB l k s cl)).map Fact.who):=fun e h => by
   rw [step,h,if_neg (by decide),List.append_nil]
   exact ⟨hlt,e2.trans e,ho.ext e⟩
  refine ⟨_,cell_of_block h4.here rfl,?_⟩
  refine brE_dec (fun a1 => ?_) (fun a1 => ?_)
  case' refine_2 =>
   have a1:¬ l[i].kind = k:=a1
   refine ⟨_,next,?_⟩
   exact ⟨(i + 1,v),⟨rfl,rfl,rfl,rfl,rfl,rfl,rfl,rfl,trivial⟩,skip e24 (by unfold livesB; rw [decide_eq_false fun h => a1 h.1]; rfl),by show l.length - (i + 1) < l.length - i; omega⟩
  have a1:l[i].kind = k:=a1
  refine ⟨_,cell_of_block h4.here rfl,?_⟩
  refine brE_dec (fun a2 => ?_) (fun a2 => ?_)
  case' refine_2 =>
   have a2:¬ l[i].what = s:=a2
   refine ⟨_,next,?_⟩
   exact ⟨(i + 1,v),⟨rfl,rfl,rfl,rfl,rfl,rfl,rfl,rfl,trivial⟩,skip e24 (by unfold livesB; rw [decide_eq_false fun h => a2 h.2.1]; rfl),by show l.length - (i + 1) < l.length - i; omega⟩
  have a2:l[i].what = s:=a2
  refine ⟨_,cell_of_block h4.here rfl,?_⟩
  refine brE_dec (fun a3 => ?_) (fun a3 => ?_)
  case' refine_2 =>
   have a3:¬ l[i].other = cl:=a3
   refine ⟨_,next,?_⟩
   exact ⟨(i + 1,v),⟨rfl,rfl,rfl,rfl,rfl,rfl,rfl,rfl,trivial⟩,skip e24 (by unfold livesB; rw [decide_eq_false fun h => a3 h.2.2]; rfl),by show l.length - (i + 1) < l.length - i; omega⟩
  have a3:l[i].other = cl:=a3
  refine ⟨_,cell_of_block h4.here rfl,?_⟩
  refine (vdead_spec (hr.ext (e2.trans e24)) hl l[i].who).mono ?_
  rintro v5 w5 ⟨rfl,e5⟩
  have e25:=e24.trans e5
  refine brE_mk (fun a4 => ?_) (fun a4 => ?_)
  ·have hb:livesB l k s cl l[i] = true:=by unfold livesB; rw [decide_eq_true ⟨a1,a2,a3⟩]; exact a4
   rw [hb,if_pos rfl] at step
   refine ⟨_,cell_of_block (e5.heap h4.here) rfl,?_⟩
   intro g6 w6 h6
   have ho6:w6.ownsRow w.heap.size 3 1 v _ _:=ownsRow_ext ho (e25.trans h6.ext)
   have e6:=(e2.trans e25).trans h6.ext
   refine ⟨rfl,rfl,rfl,w.heap.size,_,_,[.int .i64 l[i].who],ho6,e6.size,Nat.le_of_ble_eq_true rfl,rfl,rfl,.inr ⟨g6,0,rfl,Rd.of_block h6.here⟩,rfl,rfl,by omega,by simp only [maxLen]; omega,?_⟩
   intro v7 w7 ho7 hg7 _
   refine ⟨_,next,?_⟩
   refine ⟨(i + 1,v7),⟨rfl,rfl,rfl,rfl,rfl,rfl,rfl,rfl,trivial⟩,⟨hlt,app_ext e6 ho6 hg7,?_⟩,by show l.length - (i + 1) < l.length - i; omega⟩
   show NewInts w.heap.size w7 v7 (((l.take (i + 1)).filter (livesB l k s cl)).map Fact.who)
   rw [step]
   unfold NewInts
   rw [ints_append,List.length_append]
   exact ho7
  ·refine ⟨_,next,?_⟩
   exact ⟨(i + 1,v),⟨rfl,rfl,rfl,rfl,rfl,rfl,rfl,rfl,trivial⟩,skip e25 (by unfold livesB; rw [a4,Bool.and_false]),by show l.length - (i + 1) < l.length - i; omega⟩
 ·have:i = l.length:=by have:¬ (i:Int) < (l.length:Nat):=hge; omega
  subst this
  rw [List.take_length] at ho
  have hlen:=fm_length (livesB l k s cl) Fact.who l
  refine (sorted_spec ho e2.size (by omega)).mono ?_
  rintro v3 w3 ⟨ho3,b3⟩
  exact ⟨ho3,Below.trans e2 b3⟩
set_option maxRecDepth 100000 in
theorem States_spec {w:World} {A:Option Addr} {l:List Fact} {c:Nat} (h:HF w A l c) (hl:l.length <= 2 ^ 20) (k day:Int) :
  CallsV C.P 13 #[.slice A l.length c,.int .i64 k,.int .i64 day] w fun v w' => NewInts w.heap.size w' v (statesL (atL k day l)) ∧ Ext w w':=by
 refine callsV_of C_ok (args:=[_,_,_]) (plans:=[]) Tryz.func13 rfl Tryz.ntmps13 (by kernel_rfl) (Nat.le_of_ble_eq_true rfl) ?_
 refine (look_spec h hl k day).mono ?_
 rintro v w1 ⟨hK,e1⟩
 have hkl:=atL_length k day l
 generalize atL k day l = K at *
 obtain ⟨AK,cK,rfl,hrK,_⟩:=hK.slice
 have hKl:K.length <= 2 ^ 20:=by omega
 refine loopE C_ok (fun (t:Nat × Value) => [(7,t.2),(13,.slice AK K.length cK),(14,.int .i64 K.length),(15,.int .i64 t.1)])
  (fun t w' => t.1 <= K.length ∧ Ext w1 w' ∧ NewInts w1.heap.size w' t.2 (((K.take t.1).filter fun y => decide (y.kind = 1)).map Fact.who)) (fun t => K.length - t.1) (0,.slice none 0 0)
  ⟨rfl,rfl,rfl,rfl,trivial⟩ ⟨Nat.zero_le _,Ext.refl _,newInts_nil _ _⟩ ?_
 rintro ⟨i,v⟩ w2 ⟨hi',e2,ho'⟩
 have hi:i <= K.length:=hi'
 have ho:NewInts w1.heap.size w2 v (((K.take i).filter fun y => decide (y.kind = 1)).map Fact.who):=ho'
 clear hi' ho'
 refine brE_dec (fun hlt => ?_) (fun hge => ?_)
 ·have hlt:i < K.length:=by have:(i:Int) < (K.length:Nat):=hlt; omega
  have next:IntKind.i64.wrap ((i:Int) + 1) = ((i + 1:Nat):Int):=fit ⟨by omega,by omega⟩
  have hlen:=fm_take_length (fun y => decide (y.kind = 1)) Fact.who K i
  have step:=fm_take (p:=fun y => decide (y.kind = 1)) (f:=Fact.who) hlt
  obtain ⟨b,o,hA,hc⟩:=Reads.fact (hrK.ext e2) hlt
  refine ⟨i,b,o,rfl,hlt,hA,?_⟩
  refine ⟨K[i].cells,rfl,hc,?_⟩
  intro g w3 h3
  refine ⟨rfl,_,_,h3.here,Nat.le_of_ble_eq_true rfl,rfl,?_⟩
  intro w4 h4
  have h4:Put w3 g (.cells K[i].cells.toArray 55 (0,0)) w4:=h4
  have e24:Ext w2 w4:=h4.ext_of h3.ext (by rw [h3.new]; exact Nat.le_refl _)
  refine ⟨_,cell_of_block h4.here rfl,?_⟩
  refine brE_dec (fun a1 => ?_) (fun a1 => ?_)
  ·have a1:K[i].kind = 1:=a1
   rw [if_pos (decide_eq_true a1)] at step
   refine ⟨_,cell_of_block h4.here rfl,?_⟩
   intro g6 w6 h6
   have ho6:w6.ownsRow w1.heap.size 3 1 v _ _:=ownsRow_ext ho (e24.trans h6.ext)
   have e6:=(e2.trans e24).trans h6.ext
   refine ⟨rfl,rfl,rfl,w1.heap.size,_,_,[.int .i64 K[i].who],ho6,e6.size,Nat.le_of_ble_eq_true rfl,rfl,rfl,.inr ⟨g6,0,rfl,Rd.of_block h6.here⟩,rfl,rfl,by omega,by simp only [maxLen]; omega,?_⟩
   intro v7 w7 ho7 hg7 _
   refine ⟨_,next,?_⟩
   refine ⟨(i + 1,v7),⟨rfl,rfl,rfl,rfl,trivial⟩,⟨hlt,app_ext e6 ho6 hg7,?_⟩,by show K.length - (i + 1) < K.length - i; omega⟩
   show NewInts w1.heap.size w7 v7 (((K.take (i + 1)).filter fun y => decide (y.kind = 1)).map Fact.who)
   rw [step]
   unfold NewInts
   rw [ints_append,List.length_append]
   exact ho7
  ·have a1:¬ K[i].kind = 1:=a1
   refine ⟨_,next,?_⟩
   refine ⟨(i + 1,v),⟨rfl,rfl,rfl,rfl,trivial⟩,⟨hlt,e2.trans e24,?_⟩,by show K.length - (i + 1) < K.length - i; omega⟩
   show NewInts w1.heap.size w4 v (((K.take (i + 1)).filter fun y => decide (y.kind = 1)).map Fact.who)
   rw [step,if_neg (by simpa using a1),List.append_nil]
   exact ho.ext e24
 ·have:i = K.length:=by have:¬ (i:Int) < (K.length:Nat):=hge; omega
  subst this
  rw [List.take_length] at ho
  have hlen:=fm_length (fun y => decide (y.kind = 1)) Fact.who K
  refine (sorted_spec ho e2.size (by omega)).mono ?_
  rintro v3 w3 ⟨ho3,b3⟩
  exact ⟨NewInts.base ho3 e1.size,e1.trans (Below.trans e2 b3)⟩
theorem Mourns_spec {w:World} {A:Option Addr} {l:List Fact} {c:Nat} (h:HF w A l c) (hl:l.length <= 2 ^ 20) (k day n:Int) :
  CallsV C.P 95 #[.slice A l.length c,.int .i64 k,.int .i64 day,.int .i64 n] w fun v w' => v = .bool ((atL k day l).any (mournB n)) ∧ Ext w w':=by
 refine callsV_of C_ok (args:=[_,_,_,_]) (plans:=[]) Tryz.func95 rfl Tryz.ntmps95 (by kernel_rfl) (Nat.le_of_ble_eq_true rfl) ?_
 intro g w0 h0
 refine (look_spec (h.ext h0.ext) hl k day).mono ?_
 rintro v w1 ⟨hK,e1⟩
 have hkl:=atL_length k day l
 obtain ⟨AK,cK,rfl,hrK,_⟩:=hK.slice
 refine ⟨[],[.pointer (some ⟨g,0,none⟩)],rfl,rfl,?_⟩
 refine (some_spec (p:=mournB n) hrK (by omega) rfl fun x w' e => Mourns1_spec x w' (e.heap (e1.heap h0.here))).mono ?_
 rintro v w2 ⟨rfl,e2⟩
 exact ⟨rfl,(h0.ext.trans e1).trans e2⟩
end Go.Proofs.YtdpdjcopkehdjaaGreat
namespace Go.Proofs.YtdpdjcopkehdjaaGreat
open Go.Eng Go.RowKit
def ptrs (g:Nat) (os:List Nat):List Value:=os.map fun o => Value.pointer (some ⟨g,o,none⟩)
def OffsPost (g:Nat) (os:List Nat) (w:World) (v:Value) (w':World):Prop:=(∃ h,v = .slice (some ⟨h,0,none⟩) os.length os.length ∧ w'.heap[h]? = some (.cells (ptrs g os).toArray 265 (0,0)) ∧ w.heap.size <= h) ∧ Ext w w'
theorem forms1_spec (g:Nat) (w:World):CallsV C.P 275 (#[] ++ [.pointer (some ⟨g,0,none⟩)].toArray ++ #[]) w (OffsPost g [3,4,5,6,7] w):=by
 refine callsV_of C_ok (args:=[_]) (plans:=plans275) Tryz.func275 rfl Tryz.ntmps275 (by kernel_rfl) (Nat.le_of_ble_eq_true rfl) ?_
 intro h w1 h1
 exact ⟨⟨h,rfl,h1.here,by rw [h1.new]; exact Nat.le_refl _⟩,h1.ext⟩
theorem forms2_spec (g:Nat) (w:World):CallsV C.P 276 (#[] ++ [.pointer (some ⟨g,0,none⟩)].toArray ++ #[]) w (OffsPost g [3,5,6,7] w):=by
 refine callsV_of C_ok (args:=[_]) (plans:=plans276) Tryz.func276 rfl Tryz.ntmps276 (by kernel_rfl) (Nat.le_of_ble_eq_true rfl) ?_
 intro h w1 h1
 exact ⟨⟨h,rfl,h1.here,by rw [h1.new]; exact Nat.le_refl _⟩,h1.ext⟩
theorem forms7_spec (g:Nat) (w:World):CallsV C.P 284 (#[] ++ [.pointer (some ⟨g,0,none⟩)].toArray ++ #[]) w (OffsPost g [3,4,6,7] w):=by
 refine callsV_of C_ok (args:=[_]) (plans:=plans284) Tryz.func284 rfl Tryz.ntmps284 (by kernel_rfl) (Nat.le_of_ble_eq_true rfl) ?_
 intro h w1 h1
 exact ⟨⟨h,rfl,h1.here,by rw [h1.new]; exact Nat.le_refl _⟩,h1.ext⟩
theorem forms9_spec (g:Nat) (w:World):CallsV C.P 286 (#[] ++ [.pointer (some ⟨g,0,none⟩)].toArray ++ #[]) w (OffsPost g [3,6,7] w):=by
 refine callsV_of C_ok (args:=[_]) (plans:=plans286) Tryz.func286 rfl Tryz.ntmps286 (by kernel_rfl) (Nat.le_of_ble_eq_true rfl) ?_
 intro h w1 h1
 exact ⟨⟨h,rfl,h1.here,by rw [h1.new]; exact Nat.le_refl _⟩,h1.ext⟩
theorem forms12_spec (g:Nat) (w:World):CallsV C.P 289 (#[] ++ [.pointer (some ⟨g,0,none⟩)].toArray ++ #[]) w (OffsPost g [3,6] w):=by
 refine callsV_of C_ok (args:=[_]) (plans:=plans289) Tryz.func289 rfl Tryz.ntmps289 (by kernel_rfl) (Nat.le_of_ble_eq_true rfl) ?_
 intro h w1 h1
 exact ⟨⟨h,rfl,h1.here,by rw [h1.new]; exact Nat.le_refl _⟩,h1.ext⟩
theorem forms14_spec (g:Nat) (w:World):CallsV C.P 291 (#[] ++ [.pointer (some ⟨g,0,none⟩)].toArray ++ #[]) w (OffsPost g [4] w):=by
 refine callsV_of C_ok (args:=[_]) (plans:=[]) Tryz.func291 rfl Tryz.ntmps291 (by kernel_rfl) (Nat.le_of_ble_eq_true rfl) ?_
 intro h w1 h1
 exact ⟨⟨h,rfl,h1.here,by rw [h1.new]; exact Nat.le_refl _⟩,h1.ext⟩
theorem none_spec (x:Fact) (w:World):CallsV C.P 281 (#[] ++ [x.val].toArray ++ #[]) w fun v w' => NewInts w.heap.size w' v [] ∧ Ext w w':=by
 refine callsV_of C_ok (args:=[_]) (plans:=[]) Tryz.func281 rfl Tryz.ntmps281 (by kernel_rfl) (Nat.le_of_ble_eq_true rfl) ?_
 intro g w1 h1
 exact ⟨newInts_nil _ _,h1.ext⟩
theorem what_spec (x:Fact) (w:World):CallsV C.P 282 (#[] ++ [x.val].toArray ++ #[]) w fun v w' => NewInts w.heap.size w' v [x.what] ∧ Ext w w':=by
 refine callsV_of C_ok (args:=[_]) (plans:=[]) Tryz.func282 rfl Tryz.ntmps282 (by kernel_rfl) (Nat.le_of_ble_eq_true rfl) ?_
 intro g w1 h1
 have M1:=(Mem.start w).alloc h1
 refine ⟨_,M1.cell 0 rfl rfl,?_⟩
 intro g2 w2 h2
 have M2:=M1.alloc h2
 exact ⟨owns_block (cs:=ints [x.what]) (M2.get 0 rfl) (M2.new 0 rfl) rfl (Nat.le_of_ble_eq_true rfl),M2.ext⟩
theorem forms11_spec (x:Fact) (w:World):CallsV C.P 288 (#[] ++ [x.val].toArray ++ #[]) w fun v w' => NewInts w.heap.size w' v [x.who] ∧ Ext w w':=by
 refine callsV_of C_ok (args:=[_]) (plans:=[]) Tryz.func288 rfl Tryz.ntmps288 (by kernel_rfl) (Nat.le_of_ble_eq_true rfl) ?_
 intro g w1 h1
 have M1:=(Mem.start w).alloc h1
 refine ⟨_,M1.cell 0 rfl rfl,?_⟩
 intro g2 w2 h2
 have M2:=M1.alloc h2
 exact ⟨owns_block (cs:=ints [x.who]) (M2.get 0 rfl) (M2.new 0 rfl) rfl (Nat.le_of_ble_eq_true rfl),M2.ext⟩
theorem forms6_spec (x:Fact) (w:World):CallsV C.P 283 (#[] ++ [x.val].toArray ++ #[]) w fun v w' => NewInts w.heap.size w' v [x.who,x.what] ∧ Ext w w':=by
 refine callsV_of C_ok (args:=[_]) (plans:=[]) Tryz.func283 rfl Tryz.ntmps283 (by kernel_rfl) (Nat.le_of_ble_eq_true rfl) ?_
 intro g w1 h1
 have M1:=(Mem.start w).alloc h1
 refine ⟨_,M1.cell 0 rfl rfl,?_⟩
 refine ⟨_,M1.cell 0 rfl rfl,?_⟩
 intro g2 w2 h2
 have M2:=M1.alloc h2
 exact ⟨owns_block (cs:=ints [x.who,x.what]) (M2.get 0 rfl) (M2.new 0 rfl) rfl (Nat.le_of_ble_eq_true rfl),M2.ext⟩
theorem classed_spec (x:Fact) (w:World) {g:Nat} {m:Int} (hc:w.heap[g]? = some (.cells #[.int .i64 m] 3 (0,0))) :
  CallsV C.P 278 (#[] ++ [x.val].toArray ++ #[.pointer (some ⟨g,0,none⟩)]) w fun v w' => v = .bool (idB x.who && idB x.what && decide (1 <= x.other ∧ x.other <= m)) ∧ Ext w w':=by
 refine callsV_of C_ok (args:=[_,_]) (plans:=[]) Tryz.func278 rfl Tryz.ntmps278 (by kernel_rfl) (Nat.le_of_ble_eq_true rfl) ?_
 intro g2 w1 h1
 have M1:=(Mem.start w).alloc h1
 refine ⟨_,M1.cell 0 rfl rfl,?_⟩
 refine (id_spec x.who w1).mono ?_
 rintro v w2 ⟨rfl,rfl⟩
 refine brE_mk (fun a1 => ?_) (fun a1 => ?_)
 case' refine_2 => exact ⟨by rw [a1]; rfl,M1.ext⟩
 refine ⟨_,M1.cell 0 rfl rfl,?_⟩
 refine (id_spec x.what w2).mono ?_
 rintro v w3 ⟨rfl,rfl⟩
 refine brE_mk (fun a2 => ?_) (fun a2 => ?_)
 case' refine_2 => exact ⟨by rw [a1,a2]; rfl,M1.ext⟩
 refine ⟨_,M1.cell 0 rfl rfl,?_⟩
 rw [a1,a2]
 refine brE_dec (fun a3 => ?_) (fun a3 => ?_)
 case' refine_2 =>
  have a3:¬ x.other >= 1:=a3
  exact ⟨by rw [decide_eq_false (fun h:1 <= x.other ∧ x.other <= m => a3 h.1)]; rfl,M1.ext⟩
 have a3:x.other >= 1:=a3
 refine ⟨_,M1.cell 0 rfl rfl,?_⟩
 refine ⟨_,cell_of_block (h1.ext.heap hc) rfl,?_⟩
 refine ⟨congrArg Value.bool ?_,M1.ext⟩
 rw [Bool.eq_iff_iff]
 simp only [Bool.true_and,decide_eq_true_eq]
 omega
theorem forms4_spec (x:Fact) (w:World):CallsV C.P 279 (#[] ++ [x.val].toArray ++ #[]) w fun v w' => v = .bool (idB x.who && idB x.other && !decide (x.who = x.other)) ∧ Ext w w':=by
 refine callsV_of C_ok (args:=[_]) (plans:=[]) Tryz.func279 rfl Tryz.ntmps279 (by kernel_rfl) (Nat.le_of_ble_eq_true rfl) ?_
 intro g2 w1 h1
 have M1:=(Mem.start w).alloc h1
 refine ⟨_,M1.cell 0 rfl rfl,?_⟩
 refine (id_spec x.who w1).mono ?_
 rintro v w2 ⟨rfl,rfl⟩
 refine brE_mk (fun a1 => ?_) (fun a1 => ?_)
 case' refine_2 => exact ⟨by rw [a1]; rfl,M1.ext⟩
 refine ⟨_,M1.cell 0 rfl rfl,?_⟩
 refine (id_spec x.other w2).mono ?_
 rintro v w3 ⟨rfl,rfl⟩
 refine brE_mk (fun a2 => ?_) (fun a2 => ?_)
 case' refine_2 => exact ⟨by rw [a1,a2]; rfl,M1.ext⟩
 refine ⟨_,M1.cell 0 rfl rfl,?_⟩
 refine ⟨_,M1.cell 0 rfl rfl,?_⟩
 exact ⟨by rw [a1,a2]; rfl,M1.ext⟩
theorem forms5_spec (x:Fact) (w:World):CallsV C.P 280 (#[] ++ [x.val].toArray ++ #[]) w fun v w' => v = .bool (idB x.who && decide (1 <= x.other ∧ x.other <= 3)) ∧ Ext w w':=by
 refine callsV_of C_ok (args:=[_]) (plans:=[]) Tryz.func280 rfl Tryz.ntmps280 (by kernel_rfl) (Nat.le_of_ble_eq_true rfl) ?_
 intro g2 w1 h1
 have M1:=(Mem.start w).alloc h1
 refine ⟨_,M1.cell 0 rfl rfl,?_⟩
 refine (id_spec x.who w1).mono ?_
 rintro v w2 ⟨rfl,rfl⟩
 refine brE_mk (fun a1 => ?_) (fun a1 => ?_)
 case' refine_2 => exact ⟨by rw [a1]; rfl,M1.ext⟩
 refine ⟨_,M1.cell 0 rfl rfl,?_⟩
 rw [a1]
 refine brE_dec (fun a3 => ?_) (fun a3 => ?_)
 case' refine_2 =>
  have a3:¬ x.other >= 1:=a3
  exact ⟨by rw [decide_eq_false (fun h:1 <= x.other ∧ x.other <= 3 => a3 h.1)]; rfl,M1.ext⟩
 have a3:x.other >= 1:=a3
 refine ⟨_,M1.cell 0 rfl rfl,?_⟩
 refine ⟨congrArg Value.bool ?_,M1.ext⟩
 rw [Bool.eq_iff_iff]
 simp only [Bool.true_and,decide_eq_true_eq]
 omega
theorem forms8_spec (x:Fact) (w:World):CallsV C.P 285 (#[] ++ [x.val].toArray ++ #[]) w fun v w' => v = .bool (idB x.who && idB x.what) ∧ Ext w w':=by
 refine callsV_of C_ok (args:=[_]) (plans:=[]) Tryz.func285 rfl Tryz.ntmps285 (by kernel_rfl) (Nat.le_of_ble_eq_true rfl) ?_
 intro g2 w1 h1
 have M1:=(Mem.start w).alloc h1
 refine ⟨_,M1.cell 0 rfl rfl,?_⟩
 refine (id_spec x.who w1).mono ?_
 rintro v w2 ⟨rfl,rfl⟩
 refine brE_mk (fun a1 => ?_) (fun a1 => ?_)
 case' refine_2 => exact ⟨by rw [a1]; rfl,M1.ext⟩
 refine ⟨_,M1.cell 0 rfl rfl,?_⟩
 refine (id_spec x.what w2).mono ?_
 rintro v w3 ⟨rfl,rfl⟩
 exact ⟨by rw [a1]; rfl,M1.ext⟩
theorem forms10_spec (x:Fact) (w:World):CallsV C.P 287 (#[] ++ [x.val].toArray ++ #[]) w fun v w' => v = .bool (idB x.who) ∧ Ext w w':=by
 refine callsV_of C_ok (args:=[_]) (plans:=[]) Tryz.func287 rfl Tryz.ntmps287 (by kernel_rfl) (Nat.le_of_ble_eq_true rfl) ?_
 intro g2 w1 h1
 have M1:=(Mem.start w).alloc h1
 refine ⟨_,M1.cell 0 rfl rfl,?_⟩
 refine (id_spec x.who w1).mono ?_
 rintro v w2 ⟨rfl,rfl⟩
 exact ⟨rfl,M1.ext⟩
theorem forms13_spec (x:Fact) (w:World):CallsV C.P 290 (#[] ++ [x.val].toArray ++ #[]) w fun v w' => v = .bool (idB x.who) ∧ Ext w w':=by
 refine callsV_of C_ok (args:=[_]) (plans:=[]) Tryz.func290 rfl Tryz.ntmps290 (by kernel_rfl) (Nat.le_of_ble_eq_true rfl) ?_
 intro g2 w1 h1
 have M1:=(Mem.start w).alloc h1
 refine ⟨_,M1.cell 0 rfl rfl,?_⟩
 refine (id_spec x.who w1).mono ?_
 rintro v w2 ⟨rfl,rfl⟩
 exact ⟨rfl,M1.ext⟩
theorem forms15_spec (x:Fact) (w:World):CallsV C.P 292 (#[] ++ [x.val].toArray ++ #[]) w fun v w' => v = .bool (idB x.what && !decide (x.what = x.id)) ∧ Ext w w':=by
 refine callsV_of C_ok (args:=[_]) (plans:=[]) Tryz.func292 rfl Tryz.ntmps292 (by kernel_rfl) (Nat.le_of_ble_eq_true rfl) ?_
 intro g2 w1 h1
 have M1:=(Mem.start w).alloc h1
 refine ⟨_,M1.cell 0 rfl rfl,?_⟩
 refine (id_spec x.what w1).mono ?_
 rintro v w2 ⟨rfl,rfl⟩
 refine brE_mk (fun a1 => ?_) (fun a1 => ?_)
 case' refine_2 => exact ⟨by rw [a1]; rfl,M1.ext⟩
 refine ⟨_,M1.cell 0 rfl rfl,?_⟩
 refine ⟨_,M1.cell 0 rfl rfl,?_⟩
 exact ⟨by rw [a1]; rfl,M1.ext⟩
end Go.Proofs.YtdpdjcopkehdjaaGreat
namespace Go.Proofs.YtdpdjcopkehdjaaGreat
open Go.Eng Go.RowKit
theorem forms3_spec (m:Int) (w:World):CallsV C.P 277 (#[] ++ [.int .i64 m].toArray ++ #[]) w fun v w' => (∃ g,v = .func (.func 278) #[] #[.pointer (some ⟨g,0,none⟩)] ∧ w'.heap[g]? = some (.cells #[.int .i64 m] 3 (0,0))) ∧ Ext w w':=by
 refine callsV_of C_ok (args:=[_]) (plans:=[]) Tryz.func277 rfl Tryz.ntmps277 (by kernel_rfl) (Nat.le_of_ble_eq_true rfl) ?_
 intro g w1 h1
 refine ⟨[],[.pointer (some ⟨g,0,none⟩)],rfl,rfl,?_⟩
 exact ⟨⟨g,rfl,h1.here⟩,h1.ext⟩
def form88 (wd:ByteArray) (a b c:Value) (n:Bool):List Value:=[.string wd,a,b,c,.bool n]
def fv (f:Nat):Value:=.func (.func f) #[] #[]
def clV (g:Nat):Value:=.func (.func 278) #[] #[.pointer (some ⟨g,0,none⟩)]
def wordA (k:Nat):ByteArray:=match k with
 | 1 => ⟨#[110,97,109,101]⟩
 | 2 => ⟨#[111,102,102,105,99,101]⟩
 | 3 => ⟨#[97,99,116,105,110,103]⟩
 | 4 => ⟨#[114,101,99,111,103,110,105,115,101]⟩
 | 5 => ⟨#[99,114,101,100,101,110,116,105,97,108,115]⟩
 | 6 => ⟨#[109,97,114,114,105,101,100]⟩
 | 7 => ⟨#[109,111,117,114,110,105,110,103]⟩
 | 8 => ⟨#[118,105,115,105,116]⟩
 | 9 => ⟨#[100,101,112,117,116,121]⟩
 | 10 => ⟨#[100,101,97,116,104]⟩
 | 11 => ⟨#[118,111,105,100]⟩
 | _ => ⟨#[]⟩
def formK (p2 p3 p4 p8:Nat) (k:Nat):List Value:=match k with
 | 1 => form88 (wordA 1) (fv 276) (fv 280) (fv 281) true
 | 2 => form88 (wordA 2) (fv 275) (clV p2) (fv 282) false
 | 3 => form88 (wordA 3) (fv 275) (clV p3) (fv 282) false
 | 4 => form88 (wordA 4) (fv 275) (clV p4) (fv 283) false
 | 5 => form88 (wordA 5) (fv 284) (fv 285) (fv 282) false
 | 6 => form88 (wordA 6) (fv 276) (fv 279) (fv 281) false
 | 7 => form88 (wordA 7) (fv 286) (fv 287) (fv 288) false
 | 8 => form88 (wordA 8) (fv 275) (clV p8) (fv 282) false
 | 9 => form88 (wordA 9) (fv 276) (fv 279) (fv 281) false
 | 10 => form88 (wordA 10) (fv 289) (fv 290) (fv 281) false
 | 11 => form88 (wordA 11) (fv 291) (fv 292) (fv 281) false
 | _ => [.string ⟨#[]⟩,.nilFunc,.nilFunc,.nilFunc,.bool false]
def formsL (p2 p3 p4 p8:Nat):List Value:=(List.range 12).flatMap (formK p2 p3 p4 p8)
theorem put_eq {w w':World} {g:Nat} {o o':Obj} (h:Put w g o w') (e:o = o'):Put w g o' w':=e ▸ h
set_option maxRecDepth 100000 in
theorem forms_spec (w:World):CallsV C.P 249 #[] w fun v w' => (∃ p2 p3 p4 p8,v = .agg (formsL p2 p3 p4 p8).toArray ∧ w'.heap[p2]? = some (.cells #[.int .i64 4] 3 (0,0)) ∧ w'.heap[p3]? = some (.cells #[.int .i64 4] 3 (0,0)) ∧ w'.heap[p4]? = some (.cells #[.int .i64 1000000] 3 (0,0)) ∧ w'.heap[p8]? = some (.cells #[.int .i64 2] 3 (0,0))) ∧ Ext w w':=by
 refine callsV_of C_ok (args:=[]) (plans:=[]) Tryz.func249 rfl Tryz.ntmps249 (by kernel_rfl) (Nat.le_of_ble_eq_true rfl) ?_
 intro g0 w1 h1
 have M1:=(Mem.start w).alloc h1
 refine (forms3_spec 4 w1).mono ?_
 rintro v w2 ⟨⟨p2,rfl,c2⟩,e2⟩
 refine (forms3_spec 4 w2).mono ?_
 rintro v w3 ⟨⟨p3,rfl,c3⟩,e3⟩
 refine (forms3_spec 1000000 w3).mono ?_
 rintro v w4 ⟨⟨p4,rfl,c4⟩,e4⟩
 refine (forms3_spec 2 w4).mono ?_
 rintro v w5 ⟨⟨p8,rfl,c8⟩,e5⟩
 have M5:=(((M1.grow e2).grow e3).grow e4).grow e5
 refine ⟨by kernel_rfl,_,_,M5.get 0 rfl,Nat.le_of_ble_eq_true (by kernel_rfl),by kernel_rfl,?_⟩
 intro w6 h6
 have h6:=put_eq h6 (o':=.cells (formsL p2 p3 p4 p8).toArray 266 (0,0)) (by kernel_rfl)
 have M6:=M5.put 0 rfl h6
 have hE:Ext w1 w5:=((e2.trans e3).trans e4).trans e5
 have hne:∀ {p:Nat} {m:Int},w5.heap[p]? = some (.cells #[.int .i64 m] 3 (0,0)) -> p ≠ g0:=fun hp e => by
  subst e
  have:=M5.get 0 rfl
  rw [hp] at this
  cases this
 have keep:∀ {p:Nat} {m:Int},w5.heap[p]? = some (.cells #[.int .i64 m] 3 (0,0)) -> w6.heap[p]? = some (.cells #[.int .i64 m] 3 (0,0)):=fun hp => (h6.there _ (hne hp)).trans hp
 refine ⟨formsL p2 p3 p4 p8,by kernel_rfl,Rd.of_block h6.here,?_⟩
 exact ⟨⟨p2,p3,p4,p8,rfl,keep (e5.heap (e4.heap (e3.heap c2))),keep (e5.heap (e4.heap c3)),keep (e5.heap c4),keep c8⟩,M6.ext⟩
end Go.Proofs.YtdpdjcopkehdjaaGreat
namespace Go.Proofs.YtdpdjcopkehdjaaGreat
open Go.Eng Go.RowKit
abbrev inRng (n:Nat):Prop:=C.can n = true
def FormOk (w:World) (k:Nat) (v:Value):Prop :=
 ∃ n1 n2 n3 c2,v = .agg #[.string (wordA k),.func (.func n1) #[] #[],.func (.func n2) #[] c2,.func (.func n3) #[] #[],.bool (Nat.beq k 1)] ∧ inRng n1 ∧ inRng n2 ∧ inRng n3 ∧
  (∀ g w',CallsV C.P n1 (#[] ++ [.pointer (some ⟨g,0,none⟩)].toArray ++ #[]) w' (OffsPost g (offs k) w')) ∧
  (∀ (x:Fact) w',x.kind = k -> Ext w w' -> CallsV C.P n2 (#[] ++ [x.val].toArray ++ c2) w' fun r w'' => r = .bool (rightB x) ∧ Ext w' w'') ∧
  (∀ (x:Fact) w',x.kind = k -> Ext w w' -> CallsV C.P n3 (#[] ++ [x.val].toArray ++ #[]) w' fun r w'' => NewInts w'.heap.size w'' r (speaks x) ∧ Ext w' w'')
theorem form_ok {w:World} {p2 p3 p4 p8:Nat} (h2:w.heap[p2]? = some (.cells #[.int .i64 4] 3 (0,0))) (h3:w.heap[p3]? = some (.cells #[.int .i64 4] 3 (0,0))) (h4:w.heap[p4]? = some (.cells #[.int .i64 1000000] 3 (0,0))) (h8:w.heap[p8]? = some (.cells #[.int .i64 2] 3 (0,0))) {k:Nat} (h1:1 <= k) (hk:k <= 11) :
  FormOk w k (.agg (formK p2 p3 p4 p8 k).toArray):=by
 have cases:k = 1 ∨ k = 2 ∨ k = 3 ∨ k = 4 ∨ k = 5 ∨ k = 6 ∨ k = 7 ∨ k = 8 ∨ k = 9 ∨ k = 10 ∨ k = 11:=by omega
 rcases cases with rfl | rfl | rfl | rfl | rfl | rfl | rfl | rfl | rfl | rfl | rfl
 ·exact ⟨_,_,_,_,rfl,rfl,rfl,rfl,fun g w' => forms2_spec g w',fun x w' hk e => by
   have:rightB x = (idB x.who && decide (1 <= x.other ∧ x.other <= 3)):=by simp [rightB,hk]
   rw [this]; exact forms5_spec x w',fun x w' hk e => by
   have:speaks x = []:=by simp [speaks,hk]
   rw [this]; exact none_spec x w'⟩
 ·exact ⟨_,_,_,_,rfl,rfl,rfl,rfl,fun g w' => forms1_spec g w',fun x w' hk e => by
   have:rightB x = (idB x.who && idB x.what && decide (1 <= x.other ∧ x.other <= 4)):=by simp [rightB,hk]
   rw [this]; exact classed_spec x w' (e.heap h2),fun x w' hk e => by
   have:speaks x = [x.what]:=by simp [speaks,hk]
   rw [this]; exact what_spec x w'⟩
 ·exact ⟨_,_,_,_,rfl,rfl,rfl,rfl,fun g w' => forms1_spec g w',fun x w' hk e => by
   have:rightB x = (idB x.who && idB x.what && decide (1 <= x.other ∧ x.other <= 4)):=by simp [rightB,hk]
   rw [this]; exact classed_spec x w' (e.heap h3),fun x w' hk e => by
   have:speaks x = [x.what]:=by simp [speaks,hk]
   rw [this]; exact what_spec x w'⟩
 ·exact ⟨_,_,_,_,rfl,rfl,rfl,rfl,fun g w' => forms1_spec g w',fun x w' hk e => by
   have:rightB x = (idB x.who && idB x.what && decide (1 <= x.other ∧ x.other <= 1000000)):=by simp [rightB,hk]
   rw [this]; exact classed_spec x w' (e.heap h4),fun x w' hk e => by
   have:speaks x = [x.who,x.what]:=by simp [speaks,hk]
   rw [this]; exact forms6_spec x w'⟩
 ·exact ⟨_,_,_,_,rfl,rfl,rfl,rfl,fun g w' => forms7_spec g w',fun x w' hk e => by
   have:rightB x = (idB x.who && idB x.what):=by simp [rightB,hk]
   rw [this]; exact forms8_spec x w',fun x w' hk e => by
   have:speaks x = [x.what]:=by simp [speaks,hk]
   rw [this]; exact what_spec x w'⟩
 ·exact ⟨_,_,_,_,rfl,rfl,rfl,rfl,fun g w' => forms2_spec g w',fun x w' hk e => by
   have:rightB x = (idB x.who && idB x.other && !decide (x.who = x.other)):=by simp [rightB,hk]
   rw [this]; exact forms4_spec x w',fun x w' hk e => by
   have:speaks x = []:=by simp [speaks,hk]
   rw [this]; exact none_spec x w'⟩
 ·exact ⟨_,_,_,_,rfl,rfl,rfl,rfl,fun g w' => forms9_spec g w',fun x w' hk e => by
   have:rightB x = idB x.who:=by simp [rightB,hk]
   rw [this]; exact forms10_spec x w',fun x w' hk e => by
   have:speaks x = [x.who]:=by simp [speaks,hk]
   rw [this]; exact forms11_spec x w'⟩
 ·exact ⟨_,_,_,_,rfl,rfl,rfl,rfl,fun g w' => forms1_spec g w',fun x w' hk e => by
   have:rightB x = (idB x.who && idB x.what && decide (1 <= x.other ∧ x.other <= 2)):=by simp [rightB,hk]
   rw [this]; exact classed_spec x w' (e.heap h8),fun x w' hk e => by
   have:speaks x = [x.what]:=by simp [speaks,hk]
   rw [this]; exact what_spec x w'⟩
 ·exact ⟨_,_,_,_,rfl,rfl,rfl,rfl,fun g w' => forms2_spec g w',fun x w' hk e => by
   have:rightB x = (idB x.who && idB x.other && !decide (x.who = x.other)):=by simp [rightB,hk]
   rw [this]; exact forms4_spec x w',fun x w' hk e => by
   have:speaks x = []:=by simp [speaks,hk]
   rw [this]; exact none_spec x w'⟩
 ·exact ⟨_,_,_,_,rfl,rfl,rfl,rfl,fun g w' => forms12_spec g w',fun x w' hk e => by
   have:rightB x = idB x.who:=by simp [rightB,hk]
   rw [this]; exact forms13_spec x w',fun x w' hk e => by
   have:speaks x = []:=by simp [speaks,hk]
   rw [this]; exact none_spec x w'⟩
 ·exact ⟨_,_,_,_,rfl,rfl,rfl,rfl,fun g w' => forms14_spec g w',fun x w' hk e => by
   have:rightB x = (idB x.what && !decide (x.what = x.id)):=by simp [rightB,hk]
   rw [this]; exact forms15_spec x w',fun x w' hk e => by
   have:speaks x = []:=by simp [speaks,hk]
   rw [this]; exact none_spec x w'⟩
end Go.Proofs.YtdpdjcopkehdjaaGreat
namespace Go.Proofs.YtdpdjcopkehdjaaGreat
open Go.Eng Go.RowKit
theorem formK_len (p2 p3 p4 p8 k:Nat):(formK p2 p3 p4 p8 k).length = 5:=by unfold formK; split <;> rfl
theorem formK_one (p2 p3 p4 p8 k:Nat):(formK p2 p3 p4 p8 k).all (·.oneCell') = true:=by unfold formK; split <;> rfl
theorem splice_whole {cs vs:List Value} (h:cs.length <= vs.length):splice cs 0 vs = vs:=by
 unfold splice
 rw [List.take_zero,List.nil_append,List.drop_eq_nil_of_le (by omega),List.append_nil]
theorem forms_at {p2 p3 p4 p8:Nat}:∀ {k:Nat},1 <= k -> k <= 11 -> (formsL p2 p3 p4 p8).toArray.extract (k * 5) (k * 5 + 5) = (formK p2 p3 p4 p8 k).toArray
 | 0,h,_ => absurd h (by decide)
 | 1,_,_ => by kernel_rfl
 | 2,_,_ => by kernel_rfl
 | 3,_,_ => by kernel_rfl
 | 4,_,_ => by kernel_rfl
 | 5,_,_ => by kernel_rfl
 | 6,_,_ => by kernel_rfl
 | 7,_,_ => by kernel_rfl
 | 8,_,_ => by kernel_rfl
 | 9,_,_ => by kernel_rfl
 | 10,_,_ => by kernel_rfl
 | 11,_,_ => by kernel_rfl
 | n + 12,_,h => absurd h (by omega)
set_option maxRecDepth 100000 in
theorem formOf_spec (k:Nat) (w:World):CallsV C.P 182 #[.int .u8 k] w fun v w' =>
  (if 1 <= k ∧ k <= 11 then ∃ cs:List Value,v = .tuple #[.agg cs.toArray,.bool true] ∧ cs.length = 5 ∧ cs.all (·.oneCell') = true ∧ FormOk w' k (.agg cs.toArray) else v = .tuple #[.agg (formK 0 0 0 0 0).toArray,.bool false]) ∧ Ext w w':=by
 refine callsV_of C_ok (args:=[_]) (plans:=[]) Tryz.func182 rfl Tryz.ntmps182 (by kernel_rfl) (Nat.le_of_ble_eq_true rfl) ?_
 intro g2 w1 h1
 have M1:=(Mem.start w).alloc h1
 have no:¬ (1 <= k ∧ k <= 11) -> ∀ {w':World},Put w1 g2 (.cells (formK 0 0 0 0 0).toArray 220 (0,0)) w' -> Ext w w':=fun _ w' h => (M1.put 0 rfl h).ext
 refine brE_dec (fun a1 => ?_) (fun a1 => ?_)
 ·have a1:(k:Int) < 1:=a1
  refine ⟨rfl,_,_,M1.get 0 rfl,Nat.le_of_ble_eq_true rfl,rfl,?_⟩
  intro w2 h2
  have h2:Put w1 g2 (.cells (formK 0 0 0 0 0).toArray 220 (0,0)) w2:=h2
  refine ⟨formK 0 0 0 0 0,rfl,Rd.of_block h2.here,?_⟩
  refine ⟨?_,no (by omega) h2⟩
  rw [if_neg (by omega)]
 have a1:¬ (k:Int) < 1:=a1
 refine brE_dec (fun a2 => ?_) (fun a2 => ?_)
 ·have a2:(k:Int) > 11:=a2
  refine ⟨rfl,_,_,M1.get 0 rfl,Nat.le_of_ble_eq_true rfl,rfl,?_⟩
  intro w2 h2
  have h2:Put w1 g2 (.cells (formK 0 0 0 0 0).toArray 220 (0,0)) w2:=h2
  refine ⟨formK 0 0 0 0 0,rfl,Rd.of_block h2.here,?_⟩
  refine ⟨?_,no (by omega) h2⟩
  rw [if_neg (by omega)]
 have a2:¬ (k:Int) > 11:=a2
 refine (forms_spec w1).mono ?_
 rintro v w2 ⟨⟨p2,p3,p4,p8,rfl,c2,c3,c4,c8⟩,e2⟩
 have M2:=M1.grow e2
 have hx:=forms_at (p2:=p2) (p3:=p3) (p4:=p4) (p8:=p8) (k:=k) (by omega) (by omega)
 have hlen:=formK_len p2 p3 p4 p8 k
 refine ⟨k,rfl,by omega,?_⟩
 refine ⟨?s,_,_,M2.get 0 rfl,Nat.le_of_ble_eq_true rfl,?o,?_⟩
 case s =>
  show ((formsL p2 p3 p4 p8).toArray.extract (k * 5) (k * 5 + 5)).size = 5
  rw [hx]; exact hlen
 case o =>
  show ((formsL p2 p3 p4 p8).toArray.extract (k * 5) (k * 5 + 5)).toList.all (·.oneCell') = true
  rw [hx]; exact formK_one p2 p3 p4 p8 k
 intro w3 h3
 have h3:=put_eq h3 (o':=.cells (formK p2 p3 p4 p8 k).toArray 220 (0,0)) (by
  show Obj.cells (splice _ 0 ((formsL p2 p3 p4 p8).toArray.extract (k * 5) (k * 5 + 5)).toList).toArray _ _ = _
  rw [hx]
  congr 2
  exact splice_whole (by rw [hlen]; exact Nat.le_of_ble_eq_true rfl))
 have M3:=M2.put 0 rfl h3
 have keep:∀ {p:Nat} {m:Int},w2.heap[p]? = some (.cells #[.int .i64 m] 3 (0,0)) -> w3.heap[p]? = some (.cells #[.int .i64 m] 3 (0,0)):=fun hp => (h3.there _ (fun e => by
  subst e
  have:=M2.get 0 rfl
  rw [hp] at this
  cases this)).trans hp
 refine ⟨formK p2 p3 p4 p8 k,hlen,Rd.of_block h3.here,?_⟩
 refine ⟨?_,M3.ext⟩
 rw [if_pos ⟨by omega,by omega⟩]
 exact ⟨_,rfl,hlen,formK_one _ _ _ _ _,form_ok (keep c2) (keep c3) (keep c4) (keep c8) (by omega) (by omega)⟩
end Go.Proofs.YtdpdjcopkehdjaaGreat
namespace Go.Proofs.YtdpdjcopkehdjaaGreat
open Go.Eng Go.RowKit
theorem formE_head {x:Fact} (h:headB x = false):formE x = 1:=by unfold formE; rw [h]; rfl
theorem headB_iff {x:Fact}:headB x = true <-> (1 <= x.kind ∧ x.kind <= 11) ∧ idB x.id = true ∧ (0 <= x.known ∧ x.known <= 100000) ∧ (0 <= x.since ∧ x.since <= 100000) ∧ (x.til = 0 ∨ x.since < x.til ∧ x.til <= 100000):=by
 simp only [headB,Bool.and_eq_true,Bool.or_eq_true,decide_eq_true_eq]
 constructor
 ·rintro ⟨⟨⟨⟨a,b⟩,c⟩,d⟩,e⟩; exact ⟨a,b,c,d,e⟩
 ·rintro ⟨a,b,c,d,e⟩; exact ⟨⟨⟨⟨a,b⟩,c⟩,d⟩,e⟩
theorem headB_no {x:Fact} (h:headB x = true -> False):headB x = false:=by
 cases hh:headB x with
 | false => rfl
 | true => exact (h hh).elim
def zeroAt (x:Fact):List Nat -> List Value:=fun os => os.foldl (fun cs o => splice cs o [.int .i64 0]) x.cells
theorem zeroAt_snoc (x:Fact) (os:List Nat) (o:Nat):zeroAt x (os ++ [o]) = splice (zeroAt x os) o [.int .i64 0]:=by simp [zeroAt]
theorem zeroAt_length (x:Fact):∀ (os:List Nat),(∀ o ∈ os,o < 9) -> (zeroAt x os).length = 9:=by
 suffices h:∀ (os:List Nat) (cs:List Value),cs.length = 9 -> (∀ o ∈ os,o < 9) -> (os.foldl (fun cs o => splice cs o [.int .i64 0]) cs).length = 9 from fun os ho => h os _ rfl ho
 intro os
 induction os with
 | nil => intro cs h _; exact h
 | cons o r ih =>
  intro cs h ho
  have:=ho o (by simp)
  exact ih _ (by rw [splice_length (by rw [h]; simp; omega)]; exact h) fun o' h' => ho o' (by simp [h'])
def restF (x:Fact):Fact:=⟨0,0,0,if 3 ∈ offs x.kind then 0 else x.who,if 4 ∈ offs x.kind then 0 else x.what,if 5 ∈ offs x.kind then 0 else x.other,if 6 ∈ offs x.kind then 0 else x.since,if 7 ∈ offs x.kind then 0 else x.til,if x.kind = 1 then ⟨#[]⟩ else x.name⟩
theorem restF_zero (x:Fact):restF x = factZ <-> restB x = true:=by
 unfold restF factZ restB
 simp only [Fact.mk.injEq,Bool.and_eq_true,Bool.or_eq_true,decide_eq_true_eq,true_and]
 have key:∀ {p:Prop} [Decidable p] {a:Int},(if p then 0 else a) = 0 <-> p ∨ a = 0:=fun {p} _ {a} => by
  by_cases h:p <;> simp [h]
 have key2:∀ {p:Prop} [Decidable p] {a:ByteArray},(if p then ⟨#[]⟩ else a) = ⟨#[]⟩ <-> p ∨ a = ⟨#[]⟩:=fun {p} _ {a} => by
  by_cases h:p <;> simp [h]
 rw [key,key,key,key,key,key2]
 constructor
 ·rintro ⟨a,b,c,d,e,f⟩; exact ⟨⟨⟨⟨⟨a,b⟩,c⟩,d⟩,e⟩,f⟩
 ·rintro ⟨⟨⟨⟨⟨a,b⟩,c⟩,d⟩,e⟩,f⟩; exact ⟨a,b,c,d,e,f⟩
theorem struck {x:Fact} {k:Nat} (hk:x.kind = (k:Int)) (h1:1 <= k) (h2:k <= 11) :
  (if k = 1 then splice (splice (splice (splice (zeroAt x (offs k)) 0 [.int .i64 0]) 1 [.int .i64 0]) 2 [.int .u8 0]) 8 [.string ⟨#[]⟩] else splice (splice (splice (zeroAt x (offs k)) 0 [.int .i64 0]) 1 [.int .i64 0]) 2 [.int .u8 0]) = (restF x).cells:=by
 have cases:k = 1 ∨ k = 2 ∨ k = 3 ∨ k = 4 ∨ k = 5 ∨ k = 6 ∨ k = 7 ∨ k = 8 ∨ k = 9 ∨ k = 10 ∨ k = 11:=by omega
 obtain ⟨x0,x1,x2,x3,x4,x5,x6,x7,x8⟩:=x
 have hk:x2 = (k:Int):=hk
 subst hk
 rcases cases with rfl | rfl | rfl | rfl | rfl | rfl | rfl | rfl | rfl | rfl | rfl <;> simp [zeroAt,offs,restF,Fact.cells,splice]
end Go.Proofs.YtdpdjcopkehdjaaGreat
namespace Go.Proofs.YtdpdjcopkehdjaaGreat
open Go.Eng Go.RowKit
theorem ptrs_get {g:Nat} {os:List Nat} {i:Nat} (hi:i < os.length):(ptrs g os)[i]? = some (.pointer (some ⟨g,os[i],none⟩)):=by
 simp [ptrs,hi]
theorem offs_lt (k:Int):∀ o ∈ offs k,o < 9:=by
 intro o ho
 unfold offs at ho
 split at ho
 ·simp at ho; omega
 ·split at ho
  ·simp at ho; omega
  ·split at ho
   ·simp at ho; omega
   ·split at ho
    ·simp at ho; omega
    ·split at ho
     ·simp at ho; omega
     ·simp at ho; omega
theorem offs_len (k:Int):(offs k).length <= 5:=by
 unfold offs
 split
 ·decide
 ·split
  ·decide
  ·split
   ·decide
   ·split
    ·decide
    ·split <;> decide
theorem formE_rest {x:Fact} (h:restB x = true -> False):formE x = 1:=by
 unfold formE
 rw [if_neg]
 intro hh
 simp only [Bool.and_eq_true] at hh
 exact h hh.1.2
theorem formE_right {x:Fact} (h:rightB x = true -> False):formE x = 1:=by
 unfold formE
 rw [if_neg]
 intro hh
 simp only [Bool.and_eq_true] at hh
 exact h hh.2
theorem formE_ok {x:Fact} (h1:headB x = true) (h2:restB x = true) (h3:rightB x = true):formE x = if x.kind = 1 ∧ nameB x.name.data.toList = false then 4 else 0:=by
 unfold formE
 rw [if_pos (by rw [h1,h2,h3]; rfl)]
set_option maxRecDepth 100000 in
theorem formedF_spec (x : Fact) (hx : x.Nums) (w : World) : CallsV C.P 181 #[x.val] w fun v w' => v = .int .i64 (formE x) ∧ Ext w w' := by
  obtain ⟨k, hk⟩ := Int.eq_ofNat_of_zero_le hx.kind.1
  refine callsV_of C_ok (args := [_]) (plans := []) Tryz.func181 rfl Tryz.ntmps181 (by kernel_rfl) (Nat.le_of_ble_eq_true rfl) ?_
  intro g1 w1 h1
  have M1 := (Mem.start w).alloc h1
  have bad : ∀ {w' : World}, (headB x = true → False) → Ext w w' → Value.int .i64 1 = .int .i64 (formE x) ∧ Ext w w' := fun h e => ⟨by rw [formE_head (headB_no h)], e⟩
  refine ⟨.int .u8 (k : Int), by rw [← hk]; exact M1.cell 0 rfl rfl, ?_⟩
  refine (formOf_spec k w1).mono ?_
  rintro v w2 ⟨hv, e2⟩
  have M2 := M1.grow e2
  by_cases hr : 1 ≤ k ∧ k ≤ 11
  case neg =>
    rw [if_neg hr] at hv
    subst hv
    intro g3 w3 h3
    have M3 := M2.alloc h3
    refine ⟨rfl, _, _, M3.get 0 rfl, Nat.le_of_ble_eq_true rfl, rfl, ?_⟩
    intro w4 h4
    exact bad (fun h => hr (by have := (headB_iff.1 h).1; omega)) (M3.put 0 rfl h4).ext
  rw [if_pos hr] at hv
  obtain ⟨cs, rfl, hlen, hone, hform⟩ := hv
  obtain ⟨n1, n2, n3, c2, heq, r1, r2, r3, a1, a2, a3⟩ := hform
  have hcs : cs = [.string (wordA k), .func (.func n1) #[] #[], .func (.func n2) #[] c2, .func (.func n3) #[] #[], .bool (Nat.beq k 1)] := by
    injection heq with h
    exact congrArg Array.toList h
  subst hcs
  intro g3 w3 h3
  have M3 := M2.alloc h3
  refine ⟨rfl, _, _, M3.get 0 rfl, Nat.le_of_ble_eq_true rfl, hone, ?_⟩
  intro w4 h4
  have M4 : Mem w w4 [(g3, .cells #[.string (wordA k), .func (.func n1) #[] #[], .func (.func n2) #[] c2, .func (.func n3) #[] #[], .bool (Nat.beq k 1)] 220 (0, 0)), (g1, .cells x.cells.toArray 55 (0, 0))] := M3.put 0 rfl h4
  refine ⟨_, M4.cell 1 rfl rfl, ?_⟩
  refine (id_spec x.id w4).mono ?_
  rintro v w5 ⟨rfl, rfl⟩
  refine brE_mk (fun b1 => ?_) (fun b1 => ?_)
  · exact bad (fun h => by rw [(headB_iff.1 h).2.1] at b1; cases b1) M4.ext
  have b1 : idB x.id = true := by simpa using b1
  refine ⟨_, M4.cell 1 rfl rfl, ?_⟩
  refine brE_dec (fun b2 => ?_) (fun b2 => ?_)
  · have b2 : x.known < 0 := b2
    exact bad (fun h => by have := (headB_iff.1 h).2.2.1; omega) M4.ext
  have b2 : ¬ x.known < 0 := b2
  refine ⟨_, M4.cell 1 rfl rfl, ?_⟩
  refine brE_dec (fun b3 => ?_) (fun b3 => ?_)
  · have b3 : x.known > 100000 := b3
    exact bad (fun h => by have := (headB_iff.1 h).2.2.1; omega) M4.ext
  have b3 : ¬ x.known > 100000 := b3
  refine ⟨_, M4.cell 1 rfl rfl, ?_⟩
  refine brE_dec (fun b4 => ?_) (fun b4 => ?_)
  · have b4 : x.since < 0 := b4
    exact bad (fun h => by have := (headB_iff.1 h).2.2.2.1; omega) M4.ext
  have b4 : ¬ x.since < 0 := b4
  refine ⟨_, M4.cell 1 rfl rfl, ?_⟩
  refine brE_dec (fun b5 => ?_) (fun b5 => ?_)
  · have b5 : x.since > 100000 := b5
    exact bad (fun h => by have := (headB_iff.1 h).2.2.2.1; omega) M4.ext
  have b5 : ¬ x.since > 100000 := b5
  refine ⟨_, M4.cell 1 rfl rfl, ?_⟩
  refine brE_ndec (fun b6 => ?A) (fun b6 => ?B)
  case' A =>
    have b6 : ¬ x.til = 0 := b6
    refine ⟨_, M4.cell 1 rfl rfl, ?_⟩
    refine ⟨_, M4.cell 1 rfl rfl, ?_⟩
    refine brE_dec (fun b7 => ?A1) (fun b7 => ?A2)
    case' A1 =>
      have b7 : x.til ≤ x.since := b7
      exact bad (fun h => by have := (headB_iff.1 h).2.2.2.2; omega) M4.ext
    have b7 : ¬ x.til ≤ x.since := b7
    refine ⟨_, M4.cell 1 rfl rfl, ?_⟩
    refine brE_dec (fun b8 => ?A3) (fun b8 => ?A4)
    case' A3 =>
      have b8 : x.til > 100000 := b8
      exact bad (fun h => by have := (headB_iff.1 h).2.2.2.2; omega) M4.ext
    have b8 : ¬ x.til > 100000 := b8
    have hhead : headB x = true := headB_iff.2 ⟨by omega, b1, by omega, by omega, .inr (by omega)⟩
  case' B =>
    have b6 : x.til = 0 := b6
    have hhead : headB x = true := headB_iff.2 ⟨by omega, b1, by omega, by omega, .inl b6⟩
  all_goals
    clear bad
    have N4 : Mem w2 w5 [(g3, .cells #[.string (wordA k), .func (.func n1) #[] #[], .func (.func n2) #[] c2, .func (.func n3) #[] #[], .bool (Nat.beq k 1)] 220 (0, 0))] := ((Mem.start w2).alloc h3).put 0 rfl h4
    have hg1 : w2.heap[g1]? = some (.cells x.cells.toArray 55 (0, 0)) := M2.get 0 rfl
    have e02 := M2.ext
    clear M4 M2 M1
    refine ⟨x.cells, rfl, Rd.of_block (N4.ext.heap hg1), ?_⟩
    intro g5 w6 h6
    have N6 := N4.alloc h6
    refine ⟨rfl, _, _, N6.get 0 rfl, Nat.le_of_ble_eq_true rfl, rfl, ?_⟩
    intro w7 h7
    have h7 : Put w6 g5 (.cells x.cells.toArray 55 (0, 0)) w7 := h7
    have N7 : Mem w2 w7 [(g5, .cells x.cells.toArray 55 (0, 0)), (g3, .cells #[.string (wordA k), .func (.func n1) #[] #[], .func (.func n2) #[] c2, .func (.func n3) #[] #[], .bool (Nat.beq k 1)] 220 (0, 0))] := N6.put 0 rfl h7
    refine ⟨_, N7.cell 1 rfl rfl, ?_⟩
    refine brE_true r1 ?_
    refine (a1 g5 w7).mono ?_
    rintro v w8 ⟨⟨h, rfl, hh, hnew⟩, e8⟩
    have N8 := (N7.grow e8).add hh (Nat.le_trans N7.ext.size hnew) (fun p hp => by
      have := N7.lt (g := p.1) (o := p.2) hp
      omega)
    have hlen5 := offs_len k
    refine loopE C_ok (fun (i : Nat) => [(1, .pointer (some ⟨g1, 0, none⟩)), (3, .pointer (some ⟨g3, 0, none⟩)), (5, .pointer (some ⟨g5, 0, none⟩)), (62, .slice (some ⟨h, 0, none⟩) (offs k).length (offs k).length), (63, .int .i64 (offs k).length), (64, .int .i64 i)])
      (fun i w' => i ≤ (offs k).length ∧ Mem w2 w' [(h, .cells (ptrs g5 (offs k)).toArray 265 (0, 0)), (g5, .cells (zeroAt x ((offs k).take i)).toArray 55 (0, 0)), (g3, .cells #[.string (wordA k), .func (.func n1) #[] #[], .func (.func n2) #[] c2, .func (.func n3) #[] #[], .bool (Nat.beq k 1)] 220 (0, 0))]) (fun i => (offs k).length - i) 0
      ⟨rfl, rfl, rfl, rfl, rfl, rfl, trivial⟩ ⟨Nat.zero_le _, N8⟩ ?_
    rintro i w9 ⟨hi, N9⟩
    have hzl := zeroAt_length x ((offs k).take i) (fun o ho => offs_lt k o (List.mem_of_mem_take ho))
    refine brE_dec (fun hlt => ?_) (fun hge => ?_)
    · have hlt : i < (offs k).length := by have : (i : Int) < ((offs k).length : Nat) := hlt; omega
      have hol := offs_lt k _ (List.getElem_mem hlt)
      refine ⟨i, h, 0, rfl, hlt, rfl, ?_⟩
      refine ⟨.pointer (some ⟨g5, (offs k)[i], none⟩), by have := (N9.rd 0 rfl) i _ (ptrs_get hlt); simpa using this, ?_⟩
      refine ⟨rfl, _, _, N9.get 1 rfl, by rw [hzl]; show (offs k)[i] + 1 ≤ 9; omega, rfl, ?_⟩
      intro w10 h10
      have h10 : Put w9 g5 (.cells (splice (zeroAt x ((offs k).take i)) (offs k)[i] [.int .i64 0]).toArray 55 (0, 0)) w10 := h10
      rw [← zeroAt_snoc, ← List.take_succ_eq_append_getElem hlt] at h10
      refine ⟨((i + 1 : Nat) : Int), fit ⟨by omega, by omega⟩, ?_⟩
      exact ⟨i + 1, ⟨rfl, rfl, rfl, rfl, rfl, rfl, trivial⟩, ⟨hlt, N9.put 1 rfl h10⟩, by omega⟩
    have : i = (offs k).length := by have : ¬ (i : Int) < ((offs k).length : Nat) := hge; omega
    subst this
    rw [List.take_length] at N9 hzl
    have hst := struck hk hr.1 hr.2
    generalize zeroAt x (offs k) = Z at N9 hzl hst
    refine ⟨rfl, _, _, N9.get 1 rfl, by rw [hzl]; exact Nat.le_of_ble_eq_true rfl, rfl, ?_⟩
    intro w10 h10
    have N10 := N9.put 1 rfl h10
    have hz0 : (splice Z 0 [.int .i64 0]).length = 9 := by rw [splice_length (by rw [hzl]; exact Nat.le_of_ble_eq_true rfl)]; exact hzl
    refine ⟨rfl, _, _, N10.get 1 rfl, by show _ ≤ (splice Z 0 [.int .i64 0]).length; rw [hz0]; exact Nat.le_of_ble_eq_true rfl, rfl, ?_⟩
    intro w11 h11
    have N11 := N10.put 1 rfl h11
    have hz1 : (splice (splice Z 0 [.int .i64 0]) 1 [.int .i64 0]).length = 9 := by rw [splice_length (by rw [hz0]; exact Nat.le_of_ble_eq_true rfl)]; exact hz0
    refine ⟨rfl, _, _, N11.get 1 rfl, by show _ ≤ (splice (splice Z 0 [.int .i64 0]) 1 [.int .i64 0]).length; rw [hz1]; exact Nat.le_of_ble_eq_true rfl, rfl, ?_⟩
    intro w12 h12
    have N12 := N11.put 1 rfl h12
    have hz2 : (splice (splice (splice Z 0 [.int .i64 0]) 1 [.int .i64 0]) 2 [.int .u8 0]).length = 9 := by rw [splice_length (by rw [hz1]; exact Nat.le_of_ble_eq_true rfl)]; exact hz1
    refine ⟨_, N12.cell 2 rfl rfl, ?_⟩
    refine brE_mk (fun hn => ?_) (fun hn => ?_)
    case' refine_1 =>
      have hn : k = 1 := Nat.eq_of_beq_eq_true hn
      rw [if_pos hn] at hst
      refine ⟨rfl, _, _, N12.get 1 rfl, by show _ ≤ (splice (splice (splice Z 0 [.int .i64 0]) 1 [.int .i64 0]) 2 [.int .u8 0]).length; rw [hz2]; exact Nat.le_of_ble_eq_true rfl, rfl, ?_⟩
      intro w13 h13
      have N13 : Mem w2 w13 [(h, .cells (ptrs g5 (offs k)).toArray 265 (0, 0)), (g5, .cells (restF x).cells.toArray 55 (0, 0)), (g3, .cells #[.string (wordA k), .func (.func n1) #[] #[], .func (.func n2) #[] c2, .func (.func n3) #[] #[], .bool (Nat.beq k 1)] 220 (0, 0))] := by
        rw [← hst]; exact N12.put 1 rfl h13
    case' refine_2 =>
      have hn : ¬ k = 1 := fun e => by rw [e] at hn; cases hn
      rw [if_neg hn] at hst
      have N13 : Mem w2 w12 [(h, .cells (ptrs g5 (offs k)).toArray 265 (0, 0)), (g5, .cells (restF x).cells.toArray 55 (0, 0)), (g3, .cells #[.string (wordA k), .func (.func n1) #[] #[], .func (.func n2) #[] c2, .func (.func n3) #[] #[], .bool (Nat.beq k 1)] 220 (0, 0))] := by
        rw [← hst]; exact N12
    all_goals
      clear hst hz2 hz1 hz0 N12 N11 N10 N9
      have hrz := restF_zero x
      refine ⟨(restF x).cells, rfl, N13.rd 1 rfl, ?_⟩
      refine ⟨_, neqF _ _ (restF x) factZ, ?_⟩
      refine brE_ndec (fun hd => ?_) (fun hd => ?_)
      · exact ⟨by rw [formE_rest fun h => hd (hrz.2 h)], e02.trans N13.ext⟩
      have hrest := hrz.1 hd
      refine ⟨_, N13.cell 2 rfl rfl, ?_⟩
      refine ⟨x.cells, rfl, Rd.of_block (N13.ext.heap hg1), ?_⟩
      refine brE_true r2 ?_
      refine (a2 x _ hk N13.ext).mono ?_
      rintro v w14 ⟨rfl, e14⟩
      have N14 := N13.grow e14
      refine brE_mk (fun hri => ?_) (fun hri => ?_)
      · exact ⟨by rw [formE_right fun h => by rw [h] at hri; cases hri], e02.trans N14.ext⟩
      have hri : rightB x = true := by simpa using hri
      have hok := formE_ok hhead hrest hri
      refine ⟨_, N14.cell 2 rfl rfl, ?_⟩
      first
      | (have hk1 : x.kind = 1 := by omega
         refine brE_mk (fun hb => ?_) (fun hb => ?_)
         · refine ⟨_, cell_of_block (N14.ext.heap hg1) rfl, ?_⟩
           refine (isName_spec x.name w14 hx.name).mono ?_
           rintro v w15 ⟨rfl, rfl⟩
           refine brE_mk (fun hm => ?_) (fun hm => ?_)
           · exact ⟨by rw [hok, if_pos ⟨hk1, by simpa using hm⟩], e02.trans N14.ext⟩
           · have hm : nameB x.name.data.toList = true := by simpa using hm
             exact ⟨by rw [hok, if_neg (fun h => by rw [hm] at h; cases h.2)], e02.trans N14.ext⟩
         · exact absurd hb (by rw [show k = 1 by omega]; decide))
      | (have hk1 : ¬ x.kind = 1 := by omega
         refine brE_mk (fun hb => ?_) (fun hb => ?_)
         · exact absurd (Nat.eq_of_beq_eq_true hb) (by omega)
         · exact ⟨by rw [hok, if_neg (fun h => hk1 h.1)], e02.trans N14.ext⟩)
end Go.Proofs.YtdpdjcopkehdjaaGreat
namespace Go.Proofs.YtdpdjcopkehdjaaGreat
open Go.Eng Go.RowKit
theorem formE_zero {x:Fact} (h:formE x = 0):headB x = true ∧ restB x = true ∧ rightB x = true ∧ (x.kind = 1 -> nameB x.name.data.toList = true):=by
 unfold formE at h
 split at h
 ·rename_i h1
  simp only [Bool.and_eq_true] at h1
  refine ⟨h1.1.1,h1.1.2,h1.2,fun hk => ?_⟩
  cases hn:nameB x.name.data.toList with
  | true => rfl
  | false => rw [if_pos ⟨hk,hn⟩] at h; cases h
 ·cases h
end Go.Proofs.YtdpdjcopkehdjaaGreat
namespace Go.Proofs.YtdpdjcopkehdjaaGreat
open Go.Eng Go.RowKit
def SetIs (w:World) (g:Nat) (l:List Int):Prop:=∃ f,MapIs C.P 3 w g f ∧ ∀ x,(f x = some (.bool true) ∧ ∃ s ∈ l,x = .int .i64 s) ∨ (f x = none ∧ ∀ s ∈ l,x ≠ .int .i64 s)
theorem SetIs.ext {w w':World} {g:Nat} {l:List Int} (h:SetIs w g l) (e:Ext w w'):SetIs w' g l:=let ⟨f,h1,h2⟩:=h; ⟨f,h1.ext e,h2⟩
theorem SetIs.other {w w':World} {g b:Nat} {o:Obj} {l:List Int} (h:SetIs w g l) (p:Put w b o w') (hne:g ≠ b):SetIs w' g l:=let ⟨f,h1,h2⟩:=h; ⟨f,h1.put p hne,h2⟩
theorem SetIs.empty {w:World} {g:Nat} (h:w.heap[g]? = some (.map #[] 0)):SetIs w g []:=⟨_,MapIs.empty h,fun _ => .inr ⟨rfl,fun _ h => by cases h⟩⟩
theorem SetIs.block {w:World} {g:Nat} {l:List Int} (h:SetIs w g l):∃ es clk,w.heap[g]? = some (.map es clk):=let ⟨_,⟨es,clk,hb,_⟩,_⟩:=h; ⟨es,clk,hb⟩
theorem set_get {f:Value -> Option Value} {l:List Int} (h:∀ x,(f x = some (.bool true) ∧ ∃ s ∈ l,x = .int .i64 s) ∨ (f x = none ∧ ∀ s ∈ l,x ≠ .int .i64 s)) (q:Int):(f (.int .i64 q)).getD (.bool false) = .bool (decide (q ∈ l)):=by
 rcases h (.int .i64 q) with ⟨h1,s,hs,e⟩ | ⟨h1,h2⟩
 ·injection e with _ e
  subst e
  rw [h1,decide_eq_true hs]; rfl
 ·rw [h1,decide_eq_false fun hq => h2 q hq rfl]; rfl
theorem set_put {w:World} {g:Nat} {f:Value -> Option Value} {l:List Int} (h:∀ x,(f x = some (.bool true) ∧ ∃ s ∈ l,x = .int .i64 s) ∨ (f x = none ∧ ∀ s ∈ l,x ≠ .int .i64 s)) {q:Int} (hM:MapIs C.P 3 w g (updV f (.int .i64 q) (.bool true))):SetIs w g (l ++ [q]):=by
 refine ⟨_,hM,fun x => ?_⟩
 unfold updV
 by_cases e:x = .int .i64 q
 ·rw [if_pos e]; exact .inl ⟨rfl,q,by simp,e⟩
 ·rw [if_neg e]
  rcases h x with ⟨h1,s,hs,e'⟩ | ⟨h1,h2⟩
  ·exact .inl ⟨h1,s,by simp [hs],e'⟩
  ·refine .inr ⟨h1,fun s hs => ?_⟩
   rcases List.mem_append.1 hs with hs | hs
   ·exact h2 s hs
   ·rw [List.mem_singleton.1 hs]; exact e
theorem SetIs.size {w:World} {g:Nat} {l:List Int} (h:SetIs w g l):∃ es clk,w.heap[g]? = some (.map es clk) ∧ es.size = (sortD l).length:=by
 obtain ⟨f,⟨es,clk,hb,_,hnd,hval,hdom⟩,hf⟩:=h
 refine ⟨es,clk,hb,?_⟩
 have hn:(ints (sortD l)).Nodup:=by
  unfold ints
  rw [List.Nodup,List.pairwise_map]
  refine (sortD_asc l).imp fun h e => ?_
  injection e with _ e
  omega
 have hp:(es.toList.map MapEntry.key).Perm (ints (sortD l)):=by
  refine (List.perm_ext_iff_of_nodup hnd hn).2 fun x => ?_
  constructor
  ·intro hx
   obtain ⟨e,he,rfl⟩:=List.mem_map.1 hx
   rcases hf e.key with ⟨_,s,hs,e'⟩ | ⟨h1,_⟩
   ·rw [e']; exact List.mem_map.2 ⟨s,mem_sortD.2 hs,rfl⟩
   ·rw [hval e he] at h1; cases h1
  ·intro hx
   obtain ⟨s,hs,rfl⟩:=List.mem_map.1 hx
   rcases hf (.int .i64 s) with ⟨h1,_⟩ | ⟨_,h2⟩
   ·obtain ⟨e,he,hk⟩:=hdom _ _ h1
    exact List.mem_map.2 ⟨e,he,hk⟩
   ·exact absurd rfl (h2 s (mem_sortD.1 hs))
 have:=hp.length_eq
 rw [List.length_map,ints_length] at this
 simpa using this
theorem idIn_eq (l:List Fact) (n:Int):idIn l n = decide (n ∈ l.map Fact.id):=by
 unfold idIn
 rw [Bool.eq_iff_iff,List.any_eq_true,decide_eq_true_eq,List.mem_map]
 simp only [decide_eq_true_eq]
theorem namedIn_eq (l:List Fact) (n:Int):namedIn l n = decide (n ∈ whos l):=by
 unfold namedIn whos
 rw [Bool.eq_iff_iff,List.any_eq_true,decide_eq_true_eq,List.mem_map]
 simp only [decide_eq_true_eq,List.mem_filter]
 constructor
 ·rintro ⟨y,hy,h1,h2⟩; exact ⟨y,⟨hy,h1⟩,h2⟩
 ·rintro ⟨y,⟨hy,h1⟩,h2⟩; exact ⟨y,hy,h1,h2⟩
abbrev RegIs (w:World) (g gi gs:Nat) (n:Nat) (kn:Int):Prop:=w.heap[g]? = some (.cells #[.map (some gi),.map (some gs),.int .i64 n,.int .i64 kn] 161 (0,0))
def lastKnown (l:List Fact):Int:=(l.getLast?.map Fact.known).getD 0
theorem speaks_num {x:Fact} (hx:x.Nums):∀ s ∈ speaks x,In64 s:=by
 intro s hs
 unfold speaks at hs
 split at hs
 ·rw [List.mem_singleton.1 hs]; exact hx.what
 ·split at hs
  ·simp at hs
   rcases hs with rfl | rfl
   ·exact hx.who
   ·exact hx.what
  ·split at hs
   ·rw [List.mem_singleton.1 hs]; exact hx.who
   ·cases hs
set_option maxRecDepth 100000 in
theorem refuses_spec {w:World} {g gi gs:Nat} {l:List Fact} {x:Fact} (hx:x.Nums) (hl:l.length <= 2 ^ 20) (hg:RegIs w g gi gs l.length (lastKnown l)) (hi:SetIs w gi (l.map Fact.id)) (hs:SetIs w gs (whos l)) :
  CallsV C.P 110 #[.pointer (some ⟨g,0,none⟩),x.val] w fun v w' => v = .int .i64 (behindE l x) ∧ Ext w w':=by
 refine callsV_of C_ok (args:=[_,_]) (plans:=plans110) Tryz.func110 rfl Tryz.ntmps110 (by kernel_rfl) (Nat.le_of_ble_eq_true rfl) ?_
 intro g3 w1 h1
 have M1:Mem w w1 [(g3,.cells x.cells.toArray 55 (0,0))]:=(Mem.start w).alloc h1
 refine ⟨x.cells,rfl,M1.rd 0 rfl,?_⟩
 refine (formedF_spec x hx w1).mono ?_
 rintro v w2 ⟨rfl,e2⟩
 have M2:=M1.grow e2
 unfold behindE
 refine brE_ndec (fun a1 => ?_) (fun a1 => ?_)
 ·have a1:¬ formE x = 0:=a1
  exact ⟨by rw [if_pos a1],M2.ext⟩
 have a1:formE x = 0:=a1
 rw [if_neg (by omega)]
 have g2:=M2.ext.heap hg
 refine ⟨_,cell_of_block g2 rfl,?_⟩
 refine brE_dec (fun a2 => ?_) (fun a2 => ?_)
 ·have a2:(l.length:Int) >= 300:=a2
  exact ⟨by rw [if_pos (by omega)],M2.ext⟩
 have a2:¬ (l.length:Int) >= 300:=a2
 rw [if_neg (by omega)]
 refine ⟨_,cell_of_block g2 rfl,?_⟩
 have hi2:=hi.ext M2.ext
 have hs2:=hs.ext M2.ext
 have hlast:l.getLast?.any (fun y => decide (x.known < y.known)) = (decide ((l.length:Int) > 0) && decide (x.known < lastKnown l)):=by
  unfold lastKnown
  cases hll:l.getLast? with
  | none =>
   have:=List.getLast?_eq_none_iff.1 hll
   subst this
   rfl
  | some y =>
   have hne:l ≠ []:=fun e => by subst e; cases hll
   have:=List.length_pos_iff.2 hne
   rw [decide_eq_true (by omega:(l.length:Int) > 0)]
   rfl
 rw [hlast]
 clear hlast
 refine brE_dec (fun a3 => ?A) (fun a3 => ?B)
 case' A =>
  have a3:(l.length:Int) > 0:=a3
  rw [decide_eq_true a3,Bool.true_and]
  refine ⟨_,M2.cell 0 rfl rfl,?_⟩
  refine ⟨_,cell_of_block g2 rfl,?_⟩
  refine brE_dec (fun a4 => ?A1) (fun a4 => ?A2)
  case' A1 =>
   have a4:x.known < lastKnown l:=a4
   exact ⟨by rw [if_pos (decide_eq_true a4)],M2.ext⟩
  have a4:¬ x.known < lastKnown l:=a4
  rw [if_neg (by simpa using a4)]
 case' B =>
  have a3:¬ (l.length:Int) > 0:=a3
  rw [decide_eq_false a3,Bool.false_and,if_neg (by decide)]
 all_goals
  clear a3
  obtain ⟨fi,hfi,hfi2⟩:=hi2
  obtain ⟨fs,hfs,hfs2⟩:=hs2
  refine ⟨_,cell_of_block g2 rfl,?_⟩
  refine ⟨_,M2.cell 0 rfl rfl,?_⟩
  refine ⟨_,mapGet1 C_ok (te:=ty4) (x:=.int .i64 x.id) (intKey hx.id) hfi intK rfl rfl rfl rfl rfl rfl (set_get hfi2 _),?_⟩
  rw [idIn_eq l x.id]
  refine brE_mk (fun a5 => ?_) (fun a5 => ?_)
  ·exact ⟨by rw [if_pos a5],M2.ext⟩
  rw [if_neg (by rw [a5]; decide)]
  obtain ⟨hh,_,_,_⟩:=formE_zero a1
  obtain ⟨hk,_⟩:=headB_iff.1 hh
  obtain ⟨k,hkk⟩:=Int.eq_ofNat_of_zero_le (show 0 <= x.kind by omega)
  refine ⟨.int .u8 (k:Int),by rw [<-hkk]; exact M2.cell 0 rfl rfl,?_⟩
  refine (formOf_spec k w2).mono ?_
  rintro v w3 ⟨hv,e3⟩
  rw [if_pos ⟨by omega,by omega⟩] at hv
  obtain ⟨cs,rfl,hlen,hone,hform⟩:=hv
  obtain ⟨n1,n2,n3,c2,heq,r1,r2,r3,a1',a2',a3'⟩:=hform
  have hcs:cs = [.string (wordA k),.func (.func n1) #[] #[],.func (.func n2) #[] c2,.func (.func n3) #[] #[],.bool (Nat.beq k 1)]:=by
   injection heq with h
   exact congrArg Array.toList h
  subst hcs
  have M3:=M2.grow e3
  intro g6 w4 h4
  have M4:=M3.alloc h4
  refine ⟨rfl,_,_,M4.get 0 rfl,Nat.le_of_ble_eq_true rfl,hone,?_⟩
  intro w5 h5
  have h5:Put w4 g6 (.cells #[.string (wordA k),.func (.func n1) #[] #[],.func (.func n2) #[] c2,.func (.func n3) #[] #[],.bool (Nat.beq k 1)] 220 (0,0)) w5:=h5
  have M5:=M4.put 0 rfl h5
  have e35:Ext w3 w5:=h5.ext_of h4.ext (by rw [h4.new]; exact Nat.le_refl _)
  refine ⟨_,M5.cell 0 rfl rfl,?_⟩
  refine ⟨x.cells,rfl,M5.rd 1 rfl,?_⟩
  refine brE_true r3 ?_
  refine (a3' x _ hkk e35).mono ?_
  rintro v w6 ⟨ho6,e6⟩
  have M6:=M5.grow e6
  have e26:=(e3.trans e35).trans e6
  have g6':=e26.heap g2
  have hfi6:=hfi.ext e26
  have hfs6:=hfs.ext e26
  have hsp:=speaks_num hx
  have hspl:(speaks x).length <= 2:=by
   unfold speaks
   split
   ·exact Nat.le_of_ble_eq_true rfl
   ·split
    ·exact Nat.le_of_ble_eq_true rfl
    ·split <;> exact Nat.le_of_ble_eq_true rfl
  generalize speaks x = S at *
  obtain ⟨AS,cS,rfl,hrS,_⟩:=ho6.slice
  refine loopE C_ok (fun (i:Nat) => [(0,.pointer (some ⟨g,0,none⟩)),(3,.pointer (some ⟨g3,0,none⟩)),(53,.slice AS S.length cS),(54,.int .i64 S.length),(55,.int .i64 i)])
   (fun i w' => w' = w6 ∧ i <= S.length ∧ S.all (namedIn l) = (S.drop i).all (namedIn l)) (fun i => S.length - i) 0 ⟨rfl,rfl,rfl,rfl,rfl,trivial⟩ ⟨rfl,Nat.zero_le _,rfl⟩ ?_
  rintro i w7 ⟨rfl,hile,hall⟩
  refine brE_dec (fun hlt => ?_) (fun hge => ?_)
  ·have hlt:i < S.length:=by have:(i:Int) < (S.length:Nat):=hlt; omega
   rw [List.drop_eq_getElem_cons hlt,List.all_cons] at hall
   obtain ⟨b,o,hA,hc⟩:=Reads.int hrS hlt
   refine ⟨i,b,o,rfl,hlt,hA,?_⟩
   refine ⟨_,by simpa using hc,?_⟩
   refine ⟨_,cell_of_block g6' rfl,?_⟩
   refine ⟨_,mapGet1 C_ok (te:=ty4) (x:=.int .i64 S[i]) (intKey (hsp _ (List.getElem_mem hlt))) hfs6 intK rfl rfl rfl rfl rfl rfl (set_get hfs2 _),?_⟩
   refine brE_mk (fun b1 => ?_) (fun b1 => ?_)
   ·have b1:namedIn l S[i] = false:=by rw [namedIn_eq]; simpa using b1
    rw [b1,Bool.false_and] at hall
    exact ⟨by rw [if_pos hall],M6.ext⟩
   ·have b1:namedIn l S[i] = true:=by rw [namedIn_eq]; simpa using b1
    rw [b1,Bool.true_and] at hall
    refine ⟨((i + 1:Nat):Int),fit ⟨by omega,by omega⟩,?_⟩
    exact ⟨i + 1,⟨rfl,rfl,rfl,rfl,rfl,trivial⟩,⟨rfl,hlt,hall⟩,by omega⟩
  have:i = S.length:=by have:¬ (i:Int) < (S.length:Nat):=hge; omega
  subst this
  rw [List.drop_length] at hall
  rw [if_neg (by rw [hall]; simp)]
  have hkc:(k:Int) = x.kind:=hkk.symm
  refine ⟨.int .u8 (k:Int),by rw [hkc]; exact M6.cell 1 rfl rfl,?_⟩
  refine brE_dec (fun c1 => ?_) (fun c1 => ?_)
  ·have c1:x.kind = 11:=by have:(k:Int) = 11:=c1; omega
   refine ⟨_,cell_of_block g6' rfl,?_⟩
   refine ⟨_,M6.cell 1 rfl rfl,?_⟩
   refine ⟨_,mapGet1 C_ok (te:=ty4) (x:=.int .i64 x.what) (intKey hx.what) hfi6 intK rfl rfl rfl rfl rfl rfl (set_get hfi2 _),?_⟩
   rw [idIn_eq l x.what]
   refine brE_mk (fun b1 => ?_) (fun b1 => ?_)
   ·have b1:decide (x.what ∈ l.map Fact.id) = false:=by simpa using b1
    exact ⟨by rw [if_pos ⟨c1,b1⟩],M6.ext⟩
   ·have b1:decide (x.what ∈ l.map Fact.id) = true:=by simpa using b1
    rw [if_neg (fun h => by rw [b1] at h; cases h.2),if_neg (fun h => by omega)]
    refine ⟨.int .u8 (k:Int),by rw [hkc]; exact M6.cell 1 rfl rfl,?_⟩
    refine brE_dec (fun c2 => ?_) (fun c2 => ?_)
    ·have:(k:Int) = 1:=c2
     omega
    ·exact ⟨rfl,M6.ext⟩
  ·have c1:¬ x.kind = 11:=fun e => c1 (by show (k:Int) = 11; omega)
   rw [if_neg (fun h => c1 h.1)]
   refine ⟨.int .u8 (k:Int),by rw [hkc]; exact M6.cell 1 rfl rfl,?_⟩
   refine brE_dec (fun c2 => ?_) (fun c2 => ?_)
   ·have c2:x.kind = 1:=by have:(k:Int) = 1:=c2; omega
    refine ⟨_,cell_of_block g6' rfl,?_⟩
    refine ⟨_,M6.cell 1 rfl rfl,?_⟩
    refine ⟨_,mapGet1 C_ok (te:=ty4) (x:=.int .i64 x.who) (intKey hx.who) hfs6 intK rfl rfl rfl rfl rfl rfl (set_get hfs2 _),?_⟩
    rw [namedIn_eq l x.who]
    refine brE_mk (fun b1 => ?_) (fun b1 => ?_)
    ·have b1:decide (x.who ∈ whos l) = false:=by simpa using b1
     refine ⟨_,cell_of_block g6' rfl,?_⟩
     obtain ⟨es,clk,hes,hsz⟩:=SetIs.size ⟨fs,hfs6,hfs2⟩
     refine ⟨es,clk,hes,?_⟩
     refine brE_dec (fun d1 => ?_) (fun d1 => ?_)
     ·have d1:(es.size:Int) >= 200:=d1
      exact ⟨by rw [if_pos ⟨c2,b1,by unfold statesN; omega⟩],M6.ext⟩
     ·have d1:¬ (es.size:Int) >= 200:=d1
      exact ⟨by rw [if_neg (fun h => by have:=h.2.2; unfold statesN at this; omega)],M6.ext⟩
    ·have b1:decide (x.who ∈ whos l) = true:=by simpa using b1
     exact ⟨by rw [if_neg (fun h => by rw [b1] at h; cases h.2.1)],M6.ext⟩
   ·have c2:¬ x.kind = 1:=fun e => c2 (by show (k:Int) = 1; omega)
    exact ⟨by rw [if_neg (fun h => c2 h.1)],M6.ext⟩
end Go.Proofs.YtdpdjcopkehdjaaGreat
