/- a part of the proof: steps, walks and plain laws that the law below stands on; no condition. -/
import Derived.Test.YtigapannpbaihaaGreatEXa
import Derived.Test.YtigapannpbaihaaGreatEXb
import Derived.Test.YtigapannpbaihaaGreatEXc
import Derived.Test.YtigapannpbaihaaGreatEXd
import Derived.Test.YtigapannpbaihaaGreatEXe
import Derived.Test.YtigapannpbaihaaGreatEXk
import Derived.Test.YtigapannpbaihaaGreatEXl
import Derived.Lib.AtoiAllCases
import Derived.Lib.AtoiTie
import Derived.Lib.ItoaLen
import Derived.Lib.Join
import Derived.Sort.Walk0
import Derived.Ground.SlsfProg
set_option linter.unusedVariables false
set_option linter.unusedSimpArgs false
set_option linter.unnecessarySimpa false
set_option linter.unusedSectionVars false
namespace Go.Proofs.YtigapannpbaihaaGreat
open Go.Eng Go.RowKit
theorem fm_take {p:Fact -> Bool} {f:Fact -> Int} {l:List Fact} {i:Nat} (hi:i < l.length):((l.take (i + 1)).filter p).map f = ((l.take i).filter p).map f ++ if p l[i] = true then [f l[i]] else []:=by
 rw [List.take_succ_eq_append_getElem hi,List.filter_append,List.map_append,List.filter_cons,List.filter_nil]
 congr 1
 split <;> rfl
theorem fm_length (p:Fact -> Bool) (f:Fact -> Int) (l:List Fact):((l.filter p).map f).length <= l.length:=by
 rw [List.length_map]; exact List.length_filter_le _ _
theorem fm_take_length (p:Fact -> Bool) (f:Fact -> Int) (l:List Fact) (i:Nat):(((l.take i).filter p).map f).length <= l.length:=Nat.le_trans (fm_length p f _) (by rw [List.length_take]; omega)
set_option maxRecDepth 100000 in
theorem living_spec {w:World} {A:Option Addr} {l:List Fact} {c:Nat} (hr:Reads w A (fcells l)) (hl:l.length <= 2 ^ 20) (k s cl:Int) :
  CallsV C.P 197 #[.slice A l.length c,.int .u8 k,.int .i64 s,.int .i64 cl] w fun v w' => NewInts w.heap.size w' v (livingL l k s cl) ∧ Ext w w':=by
 refine callsV_of C_ok (args:=[_,_,_,_]) (plans:=[]) Tryz.func197 rfl Tryz.ntmps197 (by kernel_rfl) (Nat.le_of_ble_eq_true rfl) ?_
 refine loopE C_ok (fun (t:Nat × Value) => [(0,.slice A l.length c),(1,.int .u8 k),(2,.int .i64 s),(3,.int .i64 cl),(9,t.2),(12,.slice A l.length c),(13,.int .i64 l.length),(14,.int .i64 t.1)])
  (fun t w' => t.1 <= l.length ∧ Ext w w' ∧ NewInts w.heap.size w' t.2 (((l.take t.1).filter (livesB l k s cl)).map Fact.who)) (fun t => l.length - t.1) (0,.slice none 0 0)
  ⟨rfl,rfl,rfl,rfl,rfl,rfl,rfl,rfl,trivial⟩ ⟨Nat.zero_le _,Ext.refl _,newInts_nil _ _⟩ ?_
 rintro ⟨i,v⟩ w2 ⟨hi',e2,ho'⟩
 have hi:i <= l.length:=hi'
 have ho:NewInts w.heap.size w2 v (((l.take i).filter (livesB l k s cl)).map Fact.who):=ho'
 clear hi' ho'
 refine brE_dec (fun hlt => ?_) (fun hge => ?_)
 ·have hlt:i < l.length:=by have:(i:Int) < (l.length:Nat):=hlt; omega
  have next:IntKind.i64.wrap ((i:Int) + 1) = ((i + 1:Nat):Int):=fit ⟨by omega,by omega⟩
  have hlen:=fm_take_length (livesB l k s cl) Fact.who l i
  have step:=fm_take (p:=livesB l k s cl) (f:=Fact.who) hlt
  obtain ⟨b,o,hA,hc⟩:=Reads.fact (hr.ext e2) hlt
  refine ⟨i,b,o,rfl,hlt,hA,?_⟩
  refine ⟨l[i].cells,rfl,hc,?_⟩
  intro g w3 h3
  refine ⟨rfl,_,_,h3.here,Nat.le_of_ble_eq_true rfl,rfl,?_⟩
  intro w4 h4
  have h4:Put w3 g (.cells l[i].cells.toArray 180 (0,0)) w4:=h4
  have e24:Ext w2 w4:=h4.ext_of h3.ext (by rw [h3.new]; exact Nat.le_refl _)
  have skip:∀ {w':World},Ext w2 w' -> livesB l k s cl l[i] = false -> i + 1 <= l.length ∧ Ext w w' ∧ NewInts w.heap.size w' v (((l.take (i + 1)).filter (livesB l k s cl)).map Fact.who):=fun e h => by
   rw [step,h,if_neg (by decide),List.append_nil]
   exact ⟨hlt,e2.trans e,ho.ext e⟩
  refine ⟨_,cell_of_block h4.here rfl,?_⟩
  refine brE_dec (fun a1 => ?_) (fun a1 => ?_)
  case' refine_2 =>
   have a1:¬ l[i].kind = k:=a1
   refine ⟨_,next,?_⟩
   exact ⟨(i + 1,v),⟨rfl,rfl,rfl,rfl,rfl,rfl,rfl,rfl,trivial⟩,skip e24 (by unfold livesB; rw [decide_eq_false fun h => a1 h.1]; rfl),by show l.length - (i + 1) < l.length - i; omega⟩
  have a1:l[i].kind = k:=a1
  refine ⟨_,cell_of_block h4.here rfl,?_⟩
  refine brE_dec (fun a2 => ?_) (fun a2 => ?_)
  case' refine_2 =>
   have a2:¬ l[i].what = s:=a2
   refine ⟨_,next,?_⟩
   exact ⟨(i + 1,v),⟨rfl,rfl,rfl,rfl,rfl,rfl,rfl,rfl,trivial⟩,skip e24 (by unfold livesB; rw [decide_eq_false fun h => a2 h.2.1]; rfl),by show l.length - (i + 1) < l.length - i; omega⟩
  have a2:l[i].what = s:=a2
  refine ⟨_,cell_of_block h4.here rfl,?_⟩
  refine brE_dec (fun a3 => ?_) (fun a3 => ?_)
  case' refine_2 =>
   have a3:¬ l[i].other = cl:=a3
   refine ⟨_,next,?_⟩
   exact ⟨(i + 1,v),⟨rfl,rfl,rfl,rfl,rfl,rfl,rfl,rfl,trivial⟩,skip e24 (by unfold livesB; rw [decide_eq_false fun h => a3 h.2.2]; rfl),by show l.length - (i + 1) < l.length - i; omega⟩
  have a3:l[i].other = cl:=a3
  refine ⟨_,cell_of_block h4.here rfl,?_⟩
  refine (vdead_spec (hr.ext (e2.trans e24)) hl l[i].who).mono ?_
  rintro v5 w5 ⟨rfl,e5⟩
  have e25:=e24.trans e5
  refine brE_mk (fun a4 => ?_) (fun a4 => ?_)
  ·have hb:livesB l k s cl l[i] = true:=by unfold livesB; rw [decide_eq_true ⟨a1,a2,a3⟩]; exact a4
   rw [hb,if_pos rfl] at step
   refine ⟨_,cell_of_block (e5.heap h4.here) rfl,?_⟩
   intro g6 w6 h6
   have ho6:w6.ownsRow w.heap.size 3 1 v _ _:=ownsRow_ext ho (e25.trans h6.ext)
   have e6:=(e2.trans e25).trans h6.ext
   refine ⟨rfl,rfl,rfl,w.heap.size,_,_,[.int .i64 l[i].who],ho6,e6.size,Nat.le_of_ble_eq_true rfl,rfl,rfl,.inr ⟨g6,0,rfl,Rd.of_block h6.here⟩,rfl,rfl,by omega,by simp only [maxLen]; omega,?_⟩
   intro v7 w7 ho7 hg7 _
   refine ⟨_,next,?_⟩
   refine ⟨(i + 1,v7),⟨rfl,rfl,rfl,rfl,rfl,rfl,rfl,rfl,trivial⟩,⟨hlt,app_ext e6 ho6 hg7,?_⟩,by show l.length - (i + 1) < l.length - i; omega⟩
   show NewInts w.heap.size w7 v7 (((l.take (i + 1)).filter (livesB l k s cl)).map Fact.who)
   rw [step]
   unfold NewInts
   rw [ints_append,List.length_append]
   exact ho7
  ·refine ⟨_,next,?_⟩
   exact ⟨(i + 1,v),⟨rfl,rfl,rfl,rfl,rfl,rfl,rfl,rfl,trivial⟩,skip e25 (by unfold livesB; rw [a4,Bool.and_false]),by show l.length - (i + 1) < l.length - i; omega⟩
 ·have:i = l.length:=by have:¬ (i:Int) < (l.length:Nat):=hge; omega
  subst this
  rw [List.take_length] at ho
  have hlen:=fm_length (livesB l k s cl) Fact.who l
  refine (sorted_spec ho e2.size (by omega)).mono ?_
  rintro v3 w3 ⟨ho3,b3⟩
  exact ⟨ho3,Below.trans e2 b3⟩
set_option maxRecDepth 100000 in
theorem States_spec {w:World} {A:Option Addr} {l:List Fact} {c:Nat} (h:HF w A l c) (hl:l.length <= 2 ^ 20) (k day:Int) :
  CallsV C.P 202 #[.slice A l.length c,.int .i64 k,.int .i64 day] w fun v w' => NewInts w.heap.size w' v (statesL (atL k day l)) ∧ Ext w w':=by
 refine callsV_of C_ok (args:=[_,_,_]) (plans:=[]) Tryz.func202 rfl Tryz.ntmps202 (by kernel_rfl) (Nat.le_of_ble_eq_true rfl) ?_
 refine (look_spec h hl k day).mono ?_
 rintro v w1 ⟨hK,e1⟩
 have hkl:=atL_length k day l
 generalize atL k day l = K at *
 obtain ⟨AK,cK,rfl,hrK,_⟩:=hK.slice
 have hKl:K.length <= 2 ^ 20:=by omega
 refine loopE C_ok (fun (t:Nat × Value) => [(7,t.2),(13,.slice AK K.length cK),(14,.int .i64 K.length),(15,.int .i64 t.1)])
  (fun t w' => t.1 <= K.length ∧ Ext w1 w' ∧ NewInts w1.heap.size w' t.2 (((K.take t.1).filter fun y => decide (y.kind = 1)).map Fact.who)) (fun t => K.length - t.1) (0,.slice none 0 0)
  ⟨rfl,rfl,rfl,rfl,trivial⟩ ⟨Nat.zero_le _,Ext.refl _,newInts_nil _ _⟩ ?_
 rintro ⟨i,v⟩ w2 ⟨hi',e2,ho'⟩
 have hi:i <= K.length:=hi'
 have ho:NewInts w1.heap.size w2 v (((K.take i).filter fun y => decide (y.kind = 1)).map Fact.who):=ho'
 clear hi' ho'
 refine brE_dec (fun hlt => ?_) (fun hge => ?_)
 ·have hlt:i < K.length:=by have:(i:Int) < (K.length:Nat):=hlt; omega
  have next:IntKind.i64.wrap ((i:Int) + 1) = ((i + 1:Nat):Int):=fit ⟨by omega,by omega⟩
  have hlen:=fm_take_length (fun y => decide (y.kind = 1)) Fact.who K i
  have step:=fm_take (p:=fun y => decide (y.kind = 1)) (f:=Fact.who) hlt
  obtain ⟨b,o,hA,hc⟩:=Reads.fact (hrK.ext e2) hlt
  refine ⟨i,b,o,rfl,hlt,hA,?_⟩
  refine ⟨K[i].cells,rfl,hc,?_⟩
  intro g w3 h3
  refine ⟨rfl,_,_,h3.here,Nat.le_of_ble_eq_true rfl,rfl,?_⟩
  intro w4 h4
  have h4:Put w3 g (.cells K[i].cells.toArray 180 (0,0)) w4:=h4
  have e24:Ext w2 w4:=h4.ext_of h3.ext (by rw [h3.new]; exact Nat.le_refl _)
  refine ⟨_,cell_of_block h4.here rfl,?_⟩
  refine brE_dec (fun a1 => ?_) (fun a1 => ?_)
  ·have a1:K[i].kind = 1:=a1
   rw [if_pos (decide_eq_true a1)] at step
   refine ⟨_,cell_of_block h4.here rfl,?_⟩
   intro g6 w6 h6
   have ho6:w6.ownsRow w1.heap.size 3 1 v _ _:=ownsRow_ext ho (e24.trans h6.ext)
   have e6:=(e2.trans e24).trans h6.ext
   refine ⟨rfl,rfl,rfl,w1.heap.size,_,_,[.int .i64 K[i].who],ho6,e6.size,Nat.le_of_ble_eq_true rfl,rfl,rfl,.inr ⟨g6,0,rfl,Rd.of_block h6.here⟩,rfl,rfl,by omega,by simp only [maxLen]; omega,?_⟩
   intro v7 w7 ho7 hg7 _
   refine ⟨_,next,?_⟩
   refine ⟨(i + 1,v7),⟨rfl,rfl,rfl,rfl,trivial⟩,⟨hlt,app_ext e6 ho6 hg7,?_⟩,by show K.length - (i + 1) < K.length - i; omega⟩
   show NewInts w1.heap.size w7 v7 (((K.take (i + 1)).filter fun y => decide (y.kind = 1)).map Fact.who)
   rw [step]
   unfold NewInts
   rw [ints_append,List.length_append]
   exact ho7
  ·have a1:¬ K[i].kind = 1:=a1
   refine ⟨_,next,?_⟩
   refine ⟨(i + 1,v),⟨rfl,rfl,rfl,rfl,trivial⟩,⟨hlt,e2.trans e24,?_⟩,by show K.length - (i + 1) < K.length - i; omega⟩
   show NewInts w1.heap.size w4 v (((K.take (i + 1)).filter fun y => decide (y.kind = 1)).map Fact.who)
   rw [step,if_neg (by simpa using a1),List.append_nil]
   exact ho.ext e24
 ·have:i = K.length:=by have:¬ (i:Int) < (K.length:Nat):=hge; omega
  subst this
  rw [List.take_length] at ho
  have hlen:=fm_length (fun y => decide (y.kind = 1)) Fact.who K
  refine (sorted_spec ho e2.size (by omega)).mono ?_
  rintro v3 w3 ⟨ho3,b3⟩
  exact ⟨NewInts.base ho3 e1.size,e1.trans (Below.trans e2 b3)⟩
theorem Mourns_spec {w:World} {A:Option Addr} {l:List Fact} {c:Nat} (h:HF w A l c) (hl:l.length <= 2 ^ 20) (k day n:Int) :
  CallsV C.P 134 #[.slice A l.length c,.int .i64 k,.int .i64 day,.int .i64 n] w fun v w' => v = .bool ((atL k day l).any (mournB n)) ∧ Ext w w':=by
 refine callsV_of C_ok (args:=[_,_,_,_]) (plans:=[]) Tryz.func134 rfl Tryz.ntmps134 (by kernel_rfl) (Nat.le_of_ble_eq_true rfl) ?_
 intro g w0 h0
 refine (look_spec (h.ext h0.ext) hl k day).mono ?_
 rintro v w1 ⟨hK,e1⟩
 have hkl:=atL_length k day l
 obtain ⟨AK,cK,rfl,hrK,_⟩:=hK.slice
 refine ⟨[],[.pointer (some ⟨g,0,none⟩)],rfl,rfl,?_⟩
 refine (some_spec (p:=mournB n) hrK (by omega) rfl fun x w' e => Mourns1_spec x w' (e.heap (e1.heap h0.here))).mono ?_
 rintro v w2 ⟨rfl,e2⟩
 exact ⟨rfl,(h0.ext.trans e1).trans e2⟩
end Go.Proofs.YtigapannpbaihaaGreat
namespace Go.Proofs.YtigapannpbaihaaGreat
open Go.Eng Go.RowKit
def ptrs (g:Nat) (os:List Nat):List Value:=os.map fun o => Value.pointer (some ⟨g,o,none⟩)
def OffsPost (g:Nat) (os:List Nat) (w:World) (v:Value) (w':World):Prop:=(∃ h,v = .slice (some ⟨h,0,none⟩) os.length os.length ∧ w'.heap[h]? = some (.cells (ptrs g os).toArray 342 (0,0)) ∧ w.heap.size <= h) ∧ Ext w w'
theorem forms1_spec (g:Nat) (w:World):CallsV C.P 244 (#[] ++ [.pointer (some ⟨g,0,none⟩)].toArray ++ #[]) w (OffsPost g [3,4,5,6,7] w):=by
 refine callsV_of C_ok (args:=[_]) (plans:=plans244) Tryz.func244 rfl Tryz.ntmps244 (by kernel_rfl) (Nat.le_of_ble_eq_true rfl) ?_
 intro h w1 h1
 exact ⟨⟨h,rfl,h1.here,by rw [h1.new]; exact Nat.le_refl _⟩,h1.ext⟩
theorem forms2_spec (g:Nat) (w:World):CallsV C.P 245 (#[] ++ [.pointer (some ⟨g,0,none⟩)].toArray ++ #[]) w (OffsPost g [3,5,6,7] w):=by
 refine callsV_of C_ok (args:=[_]) (plans:=plans245) Tryz.func245 rfl Tryz.ntmps245 (by kernel_rfl) (Nat.le_of_ble_eq_true rfl) ?_
 intro h w1 h1
 exact ⟨⟨h,rfl,h1.here,by rw [h1.new]; exact Nat.le_refl _⟩,h1.ext⟩
theorem forms7_spec (g:Nat) (w:World):CallsV C.P 253 (#[] ++ [.pointer (some ⟨g,0,none⟩)].toArray ++ #[]) w (OffsPost g [3,4,6,7] w):=by
 refine callsV_of C_ok (args:=[_]) (plans:=plans253) Tryz.func253 rfl Tryz.ntmps253 (by kernel_rfl) (Nat.le_of_ble_eq_true rfl) ?_
 intro h w1 h1
 exact ⟨⟨h,rfl,h1.here,by rw [h1.new]; exact Nat.le_refl _⟩,h1.ext⟩
theorem forms9_spec (g:Nat) (w:World):CallsV C.P 255 (#[] ++ [.pointer (some ⟨g,0,none⟩)].toArray ++ #[]) w (OffsPost g [3,6,7] w):=by
 refine callsV_of C_ok (args:=[_]) (plans:=plans255) Tryz.func255 rfl Tryz.ntmps255 (by kernel_rfl) (Nat.le_of_ble_eq_true rfl) ?_
 intro h w1 h1
 exact ⟨⟨h,rfl,h1.here,by rw [h1.new]; exact Nat.le_refl _⟩,h1.ext⟩
theorem forms12_spec (g:Nat) (w:World):CallsV C.P 258 (#[] ++ [.pointer (some ⟨g,0,none⟩)].toArray ++ #[]) w (OffsPost g [3,6] w):=by
 refine callsV_of C_ok (args:=[_]) (plans:=plans258) Tryz.func258 rfl Tryz.ntmps258 (by kernel_rfl) (Nat.le_of_ble_eq_true rfl) ?_
 intro h w1 h1
 exact ⟨⟨h,rfl,h1.here,by rw [h1.new]; exact Nat.le_refl _⟩,h1.ext⟩
theorem forms14_spec (g:Nat) (w:World):CallsV C.P 260 (#[] ++ [.pointer (some ⟨g,0,none⟩)].toArray ++ #[]) w (OffsPost g [4] w):=by
 refine callsV_of C_ok (args:=[_]) (plans:=[]) Tryz.func260 rfl Tryz.ntmps260 (by kernel_rfl) (Nat.le_of_ble_eq_true rfl) ?_
 intro h w1 h1
 exact ⟨⟨h,rfl,h1.here,by rw [h1.new]; exact Nat.le_refl _⟩,h1.ext⟩
theorem none_spec (x:Fact) (w:World):CallsV C.P 250 (#[] ++ [x.val].toArray ++ #[]) w fun v w' => NewInts w.heap.size w' v [] ∧ Ext w w':=by
 refine callsV_of C_ok (args:=[_]) (plans:=[]) Tryz.func250 rfl Tryz.ntmps250 (by kernel_rfl) (Nat.le_of_ble_eq_true rfl) ?_
 intro g w1 h1
 exact ⟨newInts_nil _ _,h1.ext⟩
theorem what_spec (x:Fact) (w:World):CallsV C.P 251 (#[] ++ [x.val].toArray ++ #[]) w fun v w' => NewInts w.heap.size w' v [x.what] ∧ Ext w w':=by
 refine callsV_of C_ok (args:=[_]) (plans:=[]) Tryz.func251 rfl Tryz.ntmps251 (by kernel_rfl) (Nat.le_of_ble_eq_true rfl) ?_
 intro g w1 h1
 have M1:=(Mem.start w).alloc h1
 refine ⟨_,M1.cell 0 rfl rfl,?_⟩
 intro g2 w2 h2
 have M2:=M1.alloc h2
 exact ⟨owns_block (cs:=ints [x.what]) (M2.get 0 rfl) (M2.new 0 rfl) rfl (Nat.le_of_ble_eq_true rfl),M2.ext⟩
theorem forms11_spec (x:Fact) (w:World):CallsV C.P 257 (#[] ++ [x.val].toArray ++ #[]) w fun v w' => NewInts w.heap.size w' v [x.who] ∧ Ext w w':=by
 refine callsV_of C_ok (args:=[_]) (plans:=[]) Tryz.func257 rfl Tryz.ntmps257 (by kernel_rfl) (Nat.le_of_ble_eq_true rfl) ?_
 intro g w1 h1
 have M1:=(Mem.start w).alloc h1
 refine ⟨_,M1.cell 0 rfl rfl,?_⟩
 intro g2 w2 h2
 have M2:=M1.alloc h2
 exact ⟨owns_block (cs:=ints [x.who]) (M2.get 0 rfl) (M2.new 0 rfl) rfl (Nat.le_of_ble_eq_true rfl),M2.ext⟩
theorem forms6_spec (x:Fact) (w:World):CallsV C.P 252 (#[] ++ [x.val].toArray ++ #[]) w fun v w' => NewInts w.heap.size w' v [x.who,x.what] ∧ Ext w w':=by
 refine callsV_of C_ok (args:=[_]) (plans:=[]) Tryz.func252 rfl Tryz.ntmps252 (by kernel_rfl) (Nat.le_of_ble_eq_true rfl) ?_
 intro g w1 h1
 have M1:=(Mem.start w).alloc h1
 refine ⟨_,M1.cell 0 rfl rfl,?_⟩
 refine ⟨_,M1.cell 0 rfl rfl,?_⟩
 intro g2 w2 h2
 have M2:=M1.alloc h2
 exact ⟨owns_block (cs:=ints [x.who,x.what]) (M2.get 0 rfl) (M2.new 0 rfl) rfl (Nat.le_of_ble_eq_true rfl),M2.ext⟩
theorem classed_spec (x:Fact) (w:World) {g:Nat} {m:Int} (hc:w.heap[g]? = some (.cells #[.int .i64 m] 3 (0,0))) :
  CallsV C.P 247 (#[] ++ [x.val].toArray ++ #[.pointer (some ⟨g,0,none⟩)]) w fun v w' => v = .bool (idB x.who && idB x.what && decide (1 <= x.other ∧ x.other <= m)) ∧ Ext w w':=by
 refine callsV_of C_ok (args:=[_,_]) (plans:=[]) Tryz.func247 rfl Tryz.ntmps247 (by kernel_rfl) (Nat.le_of_ble_eq_true rfl) ?_
 intro g2 w1 h1
 have M1:=(Mem.start w).alloc h1
 refine ⟨_,M1.cell 0 rfl rfl,?_⟩
 refine (id_spec x.who w1).mono ?_
 rintro v w2 ⟨rfl,rfl⟩
 refine brE_mk (fun a1 => ?_) (fun a1 => ?_)
 case' refine_2 => exact ⟨by rw [a1]; rfl,M1.ext⟩
 refine ⟨_,M1.cell 0 rfl rfl,?_⟩
 refine (id_spec x.what w2).mono ?_
 rintro v w3 ⟨rfl,rfl⟩
 refine brE_mk (fun a2 => ?_) (fun a2 => ?_)
 case' refine_2 => exact ⟨by rw [a1,a2]; rfl,M1.ext⟩
 refine ⟨_,M1.cell 0 rfl rfl,?_⟩
 rw [a1,a2]
 refine brE_dec (fun a3 => ?_) (fun a3 => ?_)
 case' refine_2 =>
  have a3:¬ x.other >= 1:=a3
  exact ⟨by rw [decide_eq_false (fun h:1 <= x.other ∧ x.other <= m => a3 h.1)]; rfl,M1.ext⟩
 have a3:x.other >= 1:=a3
 refine ⟨_,M1.cell 0 rfl rfl,?_⟩
 refine ⟨_,cell_of_block (h1.ext.heap hc) rfl,?_⟩
 refine ⟨congrArg Value.bool ?_,M1.ext⟩
 rw [Bool.eq_iff_iff]
 simp only [Bool.true_and,decide_eq_true_eq]
 omega
theorem forms4_spec (x:Fact) (w:World):CallsV C.P 248 (#[] ++ [x.val].toArray ++ #[]) w fun v w' => v = .bool (idB x.who && idB x.other && !decide (x.who = x.other)) ∧ Ext w w':=by
 refine callsV_of C_ok (args:=[_]) (plans:=[]) Tryz.func248 rfl Tryz.ntmps248 (by kernel_rfl) (Nat.le_of_ble_eq_true rfl) ?_
 intro g2 w1 h1
 have M1:=(Mem.start w).alloc h1
 refine ⟨_,M1.cell 0 rfl rfl,?_⟩
 refine (id_spec x.who w1).mono ?_
 rintro v w2 ⟨rfl,rfl⟩
 refine brE_mk (fun a1 => ?_) (fun a1 => ?_)
 case' refine_2 => exact ⟨by rw [a1]; rfl,M1.ext⟩
 refine ⟨_,M1.cell 0 rfl rfl,?_⟩
 refine (id_spec x.other w2).mono ?_
 rintro v w3 ⟨rfl,rfl⟩
 refine brE_mk (fun a2 => ?_) (fun a2 => ?_)
 case' refine_2 => exact ⟨by rw [a1,a2]; rfl,M1.ext⟩
 refine ⟨_,M1.cell 0 rfl rfl,?_⟩
 refine ⟨_,M1.cell 0 rfl rfl,?_⟩
 exact ⟨by rw [a1,a2]; rfl,M1.ext⟩
theorem forms5_spec (x:Fact) (w:World):CallsV C.P 249 (#[] ++ [x.val].toArray ++ #[]) w fun v w' => v = .bool (idB x.who && decide (1 <= x.other ∧ x.other <= 3)) ∧ Ext w w':=by
 refine callsV_of C_ok (args:=[_]) (plans:=[]) Tryz.func249 rfl Tryz.ntmps249 (by kernel_rfl) (Nat.le_of_ble_eq_true rfl) ?_
 intro g2 w1 h1
 have M1:=(Mem.start w).alloc h1
 refine ⟨_,M1.cell 0 rfl rfl,?_⟩
 refine (id_spec x.who w1).mono ?_
 rintro v w2 ⟨rfl,rfl⟩
 refine brE_mk (fun a1 => ?_) (fun a1 => ?_)
 case' refine_2 => exact ⟨by rw [a1]; rfl,M1.ext⟩
 refine ⟨_,M1.cell 0 rfl rfl,?_⟩
 rw [a1]
 refine brE_dec (fun a3 => ?_) (fun a3 => ?_)
 case' refine_2 =>
  have a3:¬ x.other >= 1:=a3
  exact ⟨by rw [decide_eq_false (fun h:1 <= x.other ∧ x.other <= 3 => a3 h.1)]; rfl,M1.ext⟩
 have a3:x.other >= 1:=a3
 refine ⟨_,M1.cell 0 rfl rfl,?_⟩
 refine ⟨congrArg Value.bool ?_,M1.ext⟩
 rw [Bool.eq_iff_iff]
 simp only [Bool.true_and,decide_eq_true_eq]
 omega
theorem forms8_spec (x:Fact) (w:World):CallsV C.P 254 (#[] ++ [x.val].toArray ++ #[]) w fun v w' => v = .bool (idB x.who && idB x.what) ∧ Ext w w':=by
 refine callsV_of C_ok (args:=[_]) (plans:=[]) Tryz.func254 rfl Tryz.ntmps254 (by kernel_rfl) (Nat.le_of_ble_eq_true rfl) ?_
 intro g2 w1 h1
 have M1:=(Mem.start w).alloc h1
 refine ⟨_,M1.cell 0 rfl rfl,?_⟩
 refine (id_spec x.who w1).mono ?_
 rintro v w2 ⟨rfl,rfl⟩
 refine brE_mk (fun a1 => ?_) (fun a1 => ?_)
 case' refine_2 => exact ⟨by rw [a1]; rfl,M1.ext⟩
 refine ⟨_,M1.cell 0 rfl rfl,?_⟩
 refine (id_spec x.what w2).mono ?_
 rintro v w3 ⟨rfl,rfl⟩
 exact ⟨by rw [a1]; rfl,M1.ext⟩
theorem forms10_spec (x:Fact) (w:World):CallsV C.P 256 (#[] ++ [x.val].toArray ++ #[]) w fun v w' => v = .bool (idB x.who) ∧ Ext w w':=by
 refine callsV_of C_ok (args:=[_]) (plans:=[]) Tryz.func256 rfl Tryz.ntmps256 (by kernel_rfl) (Nat.le_of_ble_eq_true rfl) ?_
 intro g2 w1 h1
 have M1:=(Mem.start w).alloc h1
 refine ⟨_,M1.cell 0 rfl rfl,?_⟩
 refine (id_spec x.who w1).mono ?_
 rintro v w2 ⟨rfl,rfl⟩
 exact ⟨rfl,M1.ext⟩
theorem forms13_spec (x:Fact) (w:World):CallsV C.P 259 (#[] ++ [x.val].toArray ++ #[]) w fun v w' => v = .bool (idB x.who) ∧ Ext w w':=by
 refine callsV_of C_ok (args:=[_]) (plans:=[]) Tryz.func259 rfl Tryz.ntmps259 (by kernel_rfl) (Nat.le_of_ble_eq_true rfl) ?_
 intro g2 w1 h1
 have M1:=(Mem.start w).alloc h1
 refine ⟨_,M1.cell 0 rfl rfl,?_⟩
 refine (id_spec x.who w1).mono ?_
 rintro v w2 ⟨rfl,rfl⟩
 exact ⟨rfl,M1.ext⟩
theorem forms15_spec (x:Fact) (w:World):CallsV C.P 261 (#[] ++ [x.val].toArray ++ #[]) w fun v w' => v = .bool (idB x.what && !decide (x.what = x.id)) ∧ Ext w w':=by
 refine callsV_of C_ok (args:=[_]) (plans:=[]) Tryz.func261 rfl Tryz.ntmps261 (by kernel_rfl) (Nat.le_of_ble_eq_true rfl) ?_
 intro g2 w1 h1
 have M1:=(Mem.start w).alloc h1
 refine ⟨_,M1.cell 0 rfl rfl,?_⟩
 refine (id_spec x.what w1).mono ?_
 rintro v w2 ⟨rfl,rfl⟩
 refine brE_mk (fun a1 => ?_) (fun a1 => ?_)
 case' refine_2 => exact ⟨by rw [a1]; rfl,M1.ext⟩
 refine ⟨_,M1.cell 0 rfl rfl,?_⟩
 refine ⟨_,M1.cell 0 rfl rfl,?_⟩
 exact ⟨by rw [a1]; rfl,M1.ext⟩
end Go.Proofs.YtigapannpbaihaaGreat
namespace Go.Proofs.YtigapannpbaihaaGreat
open Go.Eng Go.RowKit
theorem forms3_spec (m:Int) (w:World):CallsV C.P 246 (#[] ++ [.int .i64 m].toArray ++ #[]) w fun v w' => (∃ g,v = .func (.func 247) #[] #[.pointer (some ⟨g,0,none⟩)] ∧ w'.heap[g]? = some (.cells #[.int .i64 m] 3 (0,0))) ∧ Ext w w':=by
 refine callsV_of C_ok (args:=[_]) (plans:=[]) Tryz.func246 rfl Tryz.ntmps246 (by kernel_rfl) (Nat.le_of_ble_eq_true rfl) ?_
 intro g w1 h1
 refine ⟨[],[.pointer (some ⟨g,0,none⟩)],rfl,rfl,?_⟩
 exact ⟨⟨g,rfl,h1.here⟩,h1.ext⟩
def form88 (wd:ByteArray) (a b c:Value) (n:Bool):List Value:=[.string wd,a,b,c,.bool n]
def fv (f:Nat):Value:=.func (.func f) #[] #[]
def clV (g:Nat):Value:=.func (.func 247) #[] #[.pointer (some ⟨g,0,none⟩)]
def wordA (k:Nat):ByteArray:=match k with
 | 1 => ⟨#[110,97,109,101]⟩
 | 2 => ⟨#[111,102,102,105,99,101]⟩
 | 3 => ⟨#[97,99,116,105,110,103]⟩
 | 4 => ⟨#[114,101,99,111,103,110,105,115,101]⟩
 | 5 => ⟨#[99,114,101,100,101,110,116,105,97,108,115]⟩
 | 6 => ⟨#[109,97,114,114,105,101,100]⟩
 | 7 => ⟨#[109,111,117,114,110,105,110,103]⟩
 | 8 => ⟨#[118,105,115,105,116]⟩
 | 9 => ⟨#[100,101,112,117,116,121]⟩
 | 10 => ⟨#[100,101,97,116,104]⟩
 | 11 => ⟨#[118,111,105,100]⟩
 | _ => ⟨#[]⟩
def formK (p2 p3 p4 p8:Nat) (k:Nat):List Value:=match k with
 | 1 => form88 (wordA 1) (fv 245) (fv 249) (fv 250) true
 | 2 => form88 (wordA 2) (fv 244) (clV p2) (fv 251) false
 | 3 => form88 (wordA 3) (fv 244) (clV p3) (fv 251) false
 | 4 => form88 (wordA 4) (fv 244) (clV p4) (fv 252) false
 | 5 => form88 (wordA 5) (fv 253) (fv 254) (fv 251) false
 | 6 => form88 (wordA 6) (fv 245) (fv 248) (fv 250) false
 | 7 => form88 (wordA 7) (fv 255) (fv 256) (fv 257) false
 | 8 => form88 (wordA 8) (fv 244) (clV p8) (fv 251) false
 | 9 => form88 (wordA 9) (fv 245) (fv 248) (fv 250) false
 | 10 => form88 (wordA 10) (fv 258) (fv 259) (fv 250) false
 | 11 => form88 (wordA 11) (fv 260) (fv 261) (fv 250) false
 | _ => [.string ⟨#[]⟩,.nilFunc,.nilFunc,.nilFunc,.bool false]
def formsL (p2 p3 p4 p8:Nat):List Value:=(List.range 12).flatMap (formK p2 p3 p4 p8)
theorem put_eq {w w':World} {g:Nat} {o o':Obj} (h:Put w g o w') (e:o = o'):Put w g o' w':=e ▸ h
set_option maxRecDepth 100000 in
theorem forms_spec (w:World):CallsV C.P 217 #[] w fun v w' => (∃ p2 p3 p4 p8,v = .agg (formsL p2 p3 p4 p8).toArray ∧ w'.heap[p2]? = some (.cells #[.int .i64 4] 3 (0,0)) ∧ w'.heap[p3]? = some (.cells #[.int .i64 4] 3 (0,0)) ∧ w'.heap[p4]? = some (.cells #[.int .i64 1000000] 3 (0,0)) ∧ w'.heap[p8]? = some (.cells #[.int .i64 2] 3 (0,0))) ∧ Ext w w':=by
 refine callsV_of C_ok (args:=[]) (plans:=[]) Tryz.func217 rfl Tryz.ntmps217 (by kernel_rfl) (Nat.le_of_ble_eq_true rfl) ?_
 intro g0 w1 h1
 have M1:=(Mem.start w).alloc h1
 refine (forms3_spec 4 w1).mono ?_
 rintro v w2 ⟨⟨p2,rfl,c2⟩,e2⟩
 refine (forms3_spec 4 w2).mono ?_
 rintro v w3 ⟨⟨p3,rfl,c3⟩,e3⟩
 refine (forms3_spec 1000000 w3).mono ?_
 rintro v w4 ⟨⟨p4,rfl,c4⟩,e4⟩
 refine (forms3_spec 2 w4).mono ?_
 rintro v w5 ⟨⟨p8,rfl,c8⟩,e5⟩
 have M5:=(((M1.grow e2).grow e3).grow e4).grow e5
 refine ⟨by kernel_rfl,_,_,M5.get 0 rfl,Nat.le_of_ble_eq_true (by kernel_rfl),by kernel_rfl,?_⟩
 intro w6 h6
 have h6:=put_eq h6 (o':=.cells (formsL p2 p3 p4 p8).toArray 343 (0,0)) (by kernel_rfl)
 have M6:=M5.put 0 rfl h6
 have hE:Ext w1 w5:=((e2.trans e3).trans e4).trans e5
 have hne:∀ {p:Nat} {m:Int},w5.heap[p]? = some (.cells #[.int .i64 m] 3 (0,0)) -> p ≠ g0:=fun hp e => by
  subst e
  have:=M5.get 0 rfl
  rw [hp] at this
  cases this
 have keep:∀ {p:Nat} {m:Int},w5.heap[p]? = some (.cells #[.int .i64 m] 3 (0,0)) -> w6.heap[p]? = some (.cells #[.int .i64 m] 3 (0,0)):=fun hp => (h6.there _ (hne hp)).trans hp
 refine ⟨formsL p2 p3 p4 p8,by kernel_rfl,Rd.of_block h6.here,?_⟩
 exact ⟨⟨p2,p3,p4,p8,rfl,keep (e5.heap (e4.heap (e3.heap c2))),keep (e5.heap (e4.heap c3)),keep (e5.heap c4),keep c8⟩,M6.ext⟩
end Go.Proofs.YtigapannpbaihaaGreat
namespace Go.Proofs.YtigapannpbaihaaGreat
open Go.Eng Go.RowKit
abbrev inRng (n:Nat):Prop:=C.can n = true
def FormOk (w:World) (k:Nat) (v:Value):Prop :=
 ∃ n1 n2 n3 c2,v = .agg #[.string (wordA k),.func (.func n1) #[] #[],.func (.func n2) #[] c2,.func (.func n3) #[] #[],.bool (Nat.beq k 1)] ∧ inRng n1 ∧ inRng n2 ∧ inRng n3 ∧
  (∀ g w',CallsV C.P n1 (#[] ++ [.pointer (some ⟨g,0,none⟩)].toArray ++ #[]) w' (OffsPost g (offs k) w')) ∧
  (∀ (x:Fact) w',x.kind = k -> Ext w w' -> CallsV C.P n2 (#[] ++ [x.val].toArray ++ c2) w' fun r w'' => r = .bool (rightB x) ∧ Ext w' w'') ∧
  (∀ (x:Fact) w',x.kind = k -> Ext w w' -> CallsV C.P n3 (#[] ++ [x.val].toArray ++ #[]) w' fun r w'' => NewInts w'.heap.size w'' r (speaks x) ∧ Ext w' w'')
theorem form_ok {w:World} {p2 p3 p4 p8:Nat} (h2:w.heap[p2]? = some (.cells #[.int .i64 4] 3 (0,0))) (h3:w.heap[p3]? = some (.cells #[.int .i64 4] 3 (0,0))) (h4:w.heap[p4]? = some (.cells #[.int .i64 1000000] 3 (0,0))) (h8:w.heap[p8]? = some (.cells #[.int .i64 2] 3 (0,0))) {k:Nat} (h1:1 <= k) (hk:k <= 11) :
  FormOk w k (.agg (formK p2 p3 p4 p8 k).toArray):=by
 have cases:k = 1 ∨ k = 2 ∨ k = 3 ∨ k = 4 ∨ k = 5 ∨ k = 6 ∨ k = 7 ∨ k = 8 ∨ k = 9 ∨ k = 10 ∨ k = 11:=by omega
 rcases cases with rfl | rfl | rfl | rfl | rfl | rfl | rfl | rfl | rfl | rfl | rfl
 ·exact ⟨_,_,_,_,rfl,rfl,rfl,rfl,fun g w' => forms2_spec g w',fun x w' hk e => by
   have:rightB x = (idB x.who && decide (1 <= x.other ∧ x.other <= 3)):=by simp [rightB,hk]
   rw [this]; exact forms5_spec x w',fun x w' hk e => by
   have:speaks x = []:=by simp [speaks,hk]
   rw [this]; exact none_spec x w'⟩
 ·exact ⟨_,_,_,_,rfl,rfl,rfl,rfl,fun g w' => forms1_spec g w',fun x w' hk e => by
   have:rightB x = (idB x.who && idB x.what && decide (1 <= x.other ∧ x.other <= 4)):=by simp [rightB,hk]
   rw [this]; exact classed_spec x w' (e.heap h2),fun x w' hk e => by
   have:speaks x = [x.what]:=by simp [speaks,hk]
   rw [this]; exact what_spec x w'⟩
 ·exact ⟨_,_,_,_,rfl,rfl,rfl,rfl,fun g w' => forms1_spec g w',fun x w' hk e => by
   have:rightB x = (idB x.who && idB x.what && decide (1 <= x.other ∧ x.other <= 4)):=by simp [rightB,hk]
   rw [this]; exact classed_spec x w' (e.heap h3),fun x w' hk e => by
   have:speaks x = [x.what]:=by simp [speaks,hk]
   rw [this]; exact what_spec x w'⟩
 ·exact ⟨_,_,_,_,rfl,rfl,rfl,rfl,fun g w' => forms1_spec g w',fun x w' hk e => by
   have:rightB x = (idB x.who && idB x.what && decide (1 <= x.other ∧ x.other <= 1000000)):=by simp [rightB,hk]
   rw [this]; exact classed_spec x w' (e.heap h4),fun x w' hk e => by
   have:speaks x = [x.who,x.what]:=by simp [speaks,hk]
   rw [this]; exact forms6_spec x w'⟩
 ·exact ⟨_,_,_,_,rfl,rfl,rfl,rfl,fun g w' => forms7_spec g w',fun x w' hk e => by
   have:rightB x = (idB x.who && idB x.what):=by simp [rightB,hk]
   rw [this]; exact forms8_spec x w',fun x w' hk e => by
   have:speaks x = [x.what]:=by simp [speaks,hk]
   rw [this]; exact what_spec x w'⟩
 ·exact ⟨_,_,_,_,rfl,rfl,rfl,rfl,fun g w' => forms2_spec g w',fun x w' hk e => by
   have:rightB x = (idB x.who && idB x.other && !decide (x.who = x.other)):=by simp [rightB,hk]
   rw [this]; exact forms4_spec x w',fun x w' hk e => by
   have:speaks x = []:=by simp [speaks,hk]
   rw [this]; exact none_spec x w'⟩
 ·exact ⟨_,_,_,_,rfl,rfl,rfl,rfl,fun g w' => forms9_spec g w',fun x w' hk e => by
   have:rightB x = idB x.who:=by simp [rightB,hk]
   rw [this]; exact forms10_spec x w',fun x w' hk e => by
   have:speaks x = [x.who]:=by simp [speaks,hk]
   rw [this]; exact forms11_spec x w'⟩
 ·exact ⟨_,_,_,_,rfl,rfl,rfl,rfl,fun g w' => forms1_spec g w',fun x w' hk e => by
   have:rightB x = (idB x.who && idB x.what && decide (1 <= x.other ∧ x.other <= 2)):=by simp [rightB,hk]
   rw [this]; exact classed_spec x w' (e.heap h8),fun x w' hk e => by
   have:speaks x = [x.what]:=by simp [speaks,hk]
   rw [this]; exact what_spec x w'⟩
 ·exact ⟨_,_,_,_,rfl,rfl,rfl,rfl,fun g w' => forms2_spec g w',fun x w' hk e => by
   have:rightB x = (idB x.who && idB x.other && !decide (x.who = x.other)):=by simp [rightB,hk]
   rw [this]; exact forms4_spec x w',fun x w' hk e => by
   have:speaks x = []:=by simp [speaks,hk]
   rw [this]; exact none_spec x w'⟩
 ·exact ⟨_,_,_,_,rfl,rfl,rfl,rfl,fun g w' => forms12_spec g w',fun x w' hk e => by
   have:rightB x = idB x.who:=by simp [rightB,hk]
   rw [this]; exact forms13_spec x w',fun x w' hk e => by
   have:speaks x = []:=by simp [speaks,hk]
   rw [this]; exact none_spec x w'⟩
 ·exact ⟨_,_,_,_,rfl,rfl,rfl,rfl,fun g w' => forms14_spec g w',fun x w' hk e => by
   have:rightB x = (idB x.what && !decide (x.what = x.id)):=by simp [rightB,hk]
   rw [this]; exact forms15_spec x w',fun x w' hk e => by
   have:speaks x = []:=by simp [speaks,hk]
   rw [this]; exact none_spec x w'⟩
end Go.Proofs.YtigapannpbaihaaGreat
namespace Go.Proofs.YtigapannpbaihaaGreat
open Go.Eng Go.RowKit
theorem formK_len (p2 p3 p4 p8 k:Nat):(formK p2 p3 p4 p8 k).length = 5:=by unfold formK; split <;> rfl
theorem formK_one (p2 p3 p4 p8 k:Nat):(formK p2 p3 p4 p8 k).all (·.oneCell') = true:=by unfold formK; split <;> rfl
theorem splice_whole {cs vs:List Value} (h:cs.length <= vs.length):splice cs 0 vs = vs:=by
 unfold splice
 rw [List.take_zero,List.nil_append,List.drop_eq_nil_of_le (by omega),List.append_nil]
theorem forms_at {p2 p3 p4 p8:Nat}:∀ {k:Nat},1 <= k -> k <= 11 -> (formsL p2 p3 p4 p8).toArray.extract (k * 5) (k * 5 + 5) = (formK p2 p3 p4 p8 k).toArray
 | 0,h,_ => absurd h (by decide)
 | 1,_,_ => by kernel_rfl
 | 2,_,_ => by kernel_rfl
 | 3,_,_ => by kernel_rfl
 | 4,_,_ => by kernel_rfl
 | 5,_,_ => by kernel_rfl
 | 6,_,_ => by kernel_rfl
 | 7,_,_ => by kernel_rfl
 | 8,_,_ => by kernel_rfl
 | 9,_,_ => by kernel_rfl
 | 10,_,_ => by kernel_rfl
 | 11,_,_ => by kernel_rfl
 | n + 12,_,h => absurd h (by omega)
set_option maxRecDepth 100000 in
theorem formOf_spec (k:Nat) (w:World):CallsV C.P 170 #[.int .u8 k] w fun v w' =>
  (if 1 <= k ∧ k <= 11 then ∃ cs:List Value,v = .tuple #[.agg cs.toArray,.bool true] ∧ cs.length = 5 ∧ cs.all (·.oneCell') = true ∧ FormOk w' k (.agg cs.toArray) else v = .tuple #[.agg (formK 0 0 0 0 0).toArray,.bool false]) ∧ Ext w w':=by
 refine callsV_of C_ok (args:=[_]) (plans:=[]) Tryz.func170 rfl Tryz.ntmps170 (by kernel_rfl) (Nat.le_of_ble_eq_true rfl) ?_
 intro g2 w1 h1
 have M1:=(Mem.start w).alloc h1
 have no:¬ (1 <= k ∧ k <= 11) -> ∀ {w':World},Put w1 g2 (.cells (formK 0 0 0 0 0).toArray 292 (0,0)) w' -> Ext w w':=fun _ w' h => (M1.put 0 rfl h).ext
 refine brE_dec (fun a1 => ?_) (fun a1 => ?_)
 ·have a1:(k:Int) < 1:=a1
  refine ⟨rfl,_,_,M1.get 0 rfl,Nat.le_of_ble_eq_true rfl,rfl,?_⟩
  intro w2 h2
  have h2:Put w1 g2 (.cells (formK 0 0 0 0 0).toArray 292 (0,0)) w2:=h2
  refine ⟨formK 0 0 0 0 0,rfl,Rd.of_block h2.here,?_⟩
  refine ⟨?_,no (by omega) h2⟩
  rw [if_neg (by omega)]
 have a1:¬ (k:Int) < 1:=a1
 refine brE_dec (fun a2 => ?_) (fun a2 => ?_)
 ·have a2:(k:Int) > 11:=a2
  refine ⟨rfl,_,_,M1.get 0 rfl,Nat.le_of_ble_eq_true rfl,rfl,?_⟩
  intro w2 h2
  have h2:Put w1 g2 (.cells (formK 0 0 0 0 0).toArray 292 (0,0)) w2:=h2
  refine ⟨formK 0 0 0 0 0,rfl,Rd.of_block h2.here,?_⟩
  refine ⟨?_,no (by omega) h2⟩
  rw [if_neg (by omega)]
 have a2:¬ (k:Int) > 11:=a2
 refine (forms_spec w1).mono ?_
 rintro v w2 ⟨⟨p2,p3,p4,p8,rfl,c2,c3,c4,c8⟩,e2⟩
 have M2:=M1.grow e2
 have hx:=forms_at (p2:=p2) (p3:=p3) (p4:=p4) (p8:=p8) (k:=k) (by omega) (by omega)
 have hlen:=formK_len p2 p3 p4 p8 k
 refine ⟨k,rfl,by omega,?_⟩
 refine ⟨?s,_,_,M2.get 0 rfl,Nat.le_of_ble_eq_true rfl,?o,?_⟩
 case s =>
  show ((formsL p2 p3 p4 p8).toArray.extract (k * 5) (k * 5 + 5)).size = 5
  rw [hx]; exact hlen
 case o =>
  show ((formsL p2 p3 p4 p8).toArray.extract (k * 5) (k * 5 + 5)).toList.all (·.oneCell') = true
  rw [hx]; exact formK_one p2 p3 p4 p8 k
 intro w3 h3
 have h3:=put_eq h3 (o':=.cells (formK p2 p3 p4 p8 k).toArray 292 (0,0)) (by
  show Obj.cells (splice _ 0 ((formsL p2 p3 p4 p8).toArray.extract (k * 5) (k * 5 + 5)).toList).toArray _ _ = _
  rw [hx]
  congr 2
  exact splice_whole (by rw [hlen]; exact Nat.le_of_ble_eq_true rfl))
 have M3:=M2.put 0 rfl h3
 have keep:∀ {p:Nat} {m:Int},w2.heap[p]? = some (.cells #[.int .i64 m] 3 (0,0)) -> w3.heap[p]? = some (.cells #[.int .i64 m] 3 (0,0)):=fun hp => (h3.there _ (fun e => by
  subst e
  have:=M2.get 0 rfl
  rw [hp] at this
  cases this)).trans hp
 refine ⟨formK p2 p3 p4 p8 k,hlen,Rd.of_block h3.here,?_⟩
 refine ⟨?_,M3.ext⟩
 rw [if_pos ⟨by omega,by omega⟩]
 exact ⟨_,rfl,hlen,formK_one _ _ _ _ _,form_ok (keep c2) (keep c3) (keep c4) (keep c8) (by omega) (by omega)⟩
end Go.Proofs.YtigapannpbaihaaGreat
namespace Go.Proofs.YtigapannpbaihaaGreat
open Go.Eng Go.RowKit
theorem formE_head {x:Fact} (h:headB x = false):formE x = 1:=by unfold formE; rw [h]; rfl
theorem headB_iff {x:Fact}:headB x = true <-> (1 <= x.kind ∧ x.kind <= 11) ∧ idB x.id = true ∧ (0 <= x.known ∧ x.known <= 100000) ∧ (0 <= x.since ∧ x.since <= 100000) ∧ (x.til = 0 ∨ x.since < x.til ∧ x.til <= 100000):=by
 simp only [headB,Bool.and_eq_true,Bool.or_eq_true,decide_eq_true_eq]
 constructor
 ·rintro ⟨⟨⟨⟨a,b⟩,c⟩,d⟩,e⟩; exact ⟨a,b,c,d,e⟩
 ·rintro ⟨a,b,c,d,e⟩; exact ⟨⟨⟨⟨a,b⟩,c⟩,d⟩,e⟩
theorem headB_no {x:Fact} (h:headB x = true -> False):headB x = false:=by
 cases hh:headB x with
 | false => rfl
 | true => exact (h hh).elim
def zeroAt (x:Fact):List Nat -> List Value:=fun os => os.foldl (fun cs o => splice cs o [.int .i64 0]) x.cells
theorem zeroAt_snoc (x:Fact) (os:List Nat) (o:Nat):zeroAt x (os ++ [o]) = splice (zeroAt x os) o [.int .i64 0]:=by simp [zeroAt]
theorem zeroAt_length (x:Fact):∀ (os:List Nat),(∀ o ∈ os,o < 9) -> (zeroAt x os).length = 9:=by
 suffices h:∀ (os:List Nat) (cs:List Value),cs.length = 9 -> (∀ o ∈ os,o < 9) -> (os.foldl (fun cs o => splice cs o [.int .i64 0]) cs).length = 9 from fun os ho => h os _ rfl ho
 intro os
 induction os with
 | nil => intro cs h _; exact h
 | cons o r ih =>
  intro cs h ho
  have:=ho o (by simp)
  exact ih _ (by rw [splice_length (by rw [h]; simp; omega)]; exact h) fun o' h' => ho o' (by simp [h'])
def restF (x:Fact):Fact:=⟨0,0,0,if 3 ∈ offs x.kind then 0 else x.who,if 4 ∈ offs x.kind then 0 else x.what,if 5 ∈ offs x.kind then 0 else x.other,if 6 ∈ offs x.kind then 0 else x.since,if 7 ∈ offs x.kind then 0 else x.til,if x.kind = 1 then ⟨#[]⟩ else x.name⟩
theorem restF_zero (x:Fact):restF x = factZ <-> restB x = true:=by
 unfold restF factZ restB
 simp only [Fact.mk.injEq,Bool.and_eq_true,Bool.or_eq_true,decide_eq_true_eq,true_and]
 have key:∀ {p:Prop} [Decidable p] {a:Int},(if p then 0 else a) = 0 <-> p ∨ a = 0:=fun {p} _ {a} => by
  by_cases h:p <;> simp [h]
 have key2:∀ {p:Prop} [Decidable p] {a:ByteArray},(if p then ⟨#[]⟩ else a) = ⟨#[]⟩ <-> p ∨ a = ⟨#[]⟩:=fun {p} _ {a} => by
  by_cases h:p <;> simp [h]
 rw [key,key,key,key,key,key2]
 constructor
 ·rintro ⟨a,b,c,d,e,f⟩; exact ⟨⟨⟨⟨⟨a,b⟩,c⟩,d⟩,e⟩,f⟩
 ·rintro ⟨⟨⟨⟨⟨a,b⟩,c⟩,d⟩,e⟩,f⟩; exact ⟨a,b,c,d,e,f⟩
theorem struck {x:Fact} {k:Nat} (hk:x.kind = (k:Int)) (h1:1 <= k) (h2:k <= 11) :
  (if k = 1 then splice (splice (splice (splice (zeroAt x (offs k)) 0 [.int .i64 0]) 1 [.int .i64 0]) 2 [.int .u8 0]) 8 [.string ⟨#[]⟩] else splice (splice (splice (zeroAt x (offs k)) 0 [.int .i64 0]) 1 [.int .i64 0]) 2 [.int .u8 0]) = (restF x).cells:=by
 have cases:k = 1 ∨ k = 2 ∨ k = 3 ∨ k = 4 ∨ k = 5 ∨ k = 6 ∨ k = 7 ∨ k = 8 ∨ k = 9 ∨ k = 10 ∨ k = 11:=by omega
 obtain ⟨x0,x1,x2,x3,x4,x5,x6,x7,x8⟩:=x
 have hk:x2 = (k:Int):=hk
 subst hk
 rcases cases with rfl | rfl | rfl | rfl | rfl | rfl | rfl | rfl | rfl | rfl | rfl <;> simp [zeroAt,offs,restF,Fact.cells,splice]
end Go.Proofs.YtigapannpbaihaaGreat
namespace Go.Proofs.YtigapannpbaihaaGreat
open Go.Eng Go.RowKit
theorem ptrs_get {g:Nat} {os:List Nat} {i:Nat} (hi:i < os.length):(ptrs g os)[i]? = some (.pointer (some ⟨g,os[i],none⟩)):=by
 simp [ptrs,hi]
theorem offs_lt (k:Int):∀ o ∈ offs k,o < 9:=by
 intro o ho
 unfold offs at ho
 split at ho
 ·simp at ho; omega
 ·split at ho
  ·simp at ho; omega
  ·split at ho
   ·simp at ho; omega
   ·split at ho
    ·simp at ho; omega
    ·split at ho
     ·simp at ho; omega
     ·simp at ho; omega
theorem offs_len (k:Int):(offs k).length <= 5:=by
 unfold offs
 split
 ·decide
 ·split
  ·decide
  ·split
   ·decide
   ·split
    ·decide
    ·split <;> decide
theorem formE_rest {x:Fact} (h:restB x = true -> False):formE x = 1:=by
 unfold formE
 rw [if_neg]
 intro hh
 simp only [Bool.and_eq_true] at hh
 exact h hh.1.2
theorem formE_right {x:Fact} (h:rightB x = true -> False):formE x = 1:=by
 unfold formE
 rw [if_neg]
 intro hh
 simp only [Bool.and_eq_true] at hh
 exact h hh.2
theorem formE_ok {x:Fact} (h1:headB x = true) (h2:restB x = true) (h3:rightB x = true):formE x = if x.kind = 1 ∧ nameB x.name.data.toList = false then 4 else 0:=by
 unfold formE
 rw [if_pos (by rw [h1,h2,h3]; rfl)]
set_option maxRecDepth 100000 in
theorem formedF_spec (x : Fact) (hx : x.Nums) (w : World) : CallsV C.P 169 #[x.val] w fun v w' => v = .int .i64 (formE x) ∧ Ext w w' := by
  obtain ⟨k, hk⟩ := Int.eq_ofNat_of_zero_le hx.kind.1
  refine callsV_of C_ok (args := [_]) (plans := []) Tryz.func169 rfl Tryz.ntmps169 (by kernel_rfl) (Nat.le_of_ble_eq_true rfl) ?_
  intro g1 w1 h1
  have M1 := (Mem.start w).alloc h1
  have bad : ∀ {w' : World}, (headB x = true → False) → Ext w w' → Value.int .i64 1 = .int .i64 (formE x) ∧ Ext w w' := fun h e => ⟨by rw [formE_head (headB_no h)], e⟩
  refine ⟨.int .u8 (k : Int), by rw [← hk]; exact M1.cell 0 rfl rfl, ?_⟩
  refine (formOf_spec k w1).mono ?_
  rintro v w2 ⟨hv, e2⟩
  have M2 := M1.grow e2
  by_cases hr : 1 ≤ k ∧ k ≤ 11
  case neg =>
    rw [if_neg hr] at hv
    subst hv
    intro g3 w3 h3
    have M3 := M2.alloc h3
    refine ⟨rfl, _, _, M3.get 0 rfl, Nat.le_of_ble_eq_true rfl, rfl, ?_⟩
    intro w4 h4
    exact bad (fun h => hr (by have := (headB_iff.1 h).1; omega)) (M3.put 0 rfl h4).ext
  rw [if_pos hr] at hv
  obtain ⟨cs, rfl, hlen, hone, hform⟩ := hv
  obtain ⟨n1, n2, n3, c2, heq, r1, r2, r3, a1, a2, a3⟩ := hform
  have hcs : cs = [.string (wordA k), .func (.func n1) #[] #[], .func (.func n2) #[] c2, .func (.func n3) #[] #[], .bool (Nat.beq k 1)] := by
    injection heq with h
    exact congrArg Array.toList h
  subst hcs
  intro g3 w3 h3
  have M3 := M2.alloc h3
  refine ⟨rfl, _, _, M3.get 0 rfl, Nat.le_of_ble_eq_true rfl, hone, ?_⟩
  intro w4 h4
  have M4 : Mem w w4 [(g3, .cells #[.string (wordA k), .func (.func n1) #[] #[], .func (.func n2) #[] c2, .func (.func n3) #[] #[], .bool (Nat.beq k 1)] 292 (0, 0)), (g1, .cells x.cells.toArray 180 (0, 0))] := M3.put 0 rfl h4
  refine ⟨_, M4.cell 1 rfl rfl, ?_⟩
  refine (id_spec x.id w4).mono ?_
  rintro v w5 ⟨rfl, rfl⟩
  refine brE_mk (fun b1 => ?_) (fun b1 => ?_)
  · exact bad (fun h => by rw [(headB_iff.1 h).2.1] at b1; cases b1) M4.ext
  have b1 : idB x.id = true := by simpa using b1
  refine ⟨_, M4.cell 1 rfl rfl, ?_⟩
  refine brE_dec (fun b2 => ?_) (fun b2 => ?_)
  · have b2 : x.known < 0 := b2
    exact bad (fun h => by have := (headB_iff.1 h).2.2.1; omega) M4.ext
  have b2 : ¬ x.known < 0 := b2
  refine ⟨_, M4.cell 1 rfl rfl, ?_⟩
  refine brE_dec (fun b3 => ?_) (fun b3 => ?_)
  · have b3 : x.known > 100000 := b3
    exact bad (fun h => by have := (headB_iff.1 h).2.2.1; omega) M4.ext
  have b3 : ¬ x.known > 100000 := b3
  refine ⟨_, M4.cell 1 rfl rfl, ?_⟩
  refine brE_dec (fun b4 => ?_) (fun b4 => ?_)
  · have b4 : x.since < 0 := b4
    exact bad (fun h => by have := (headB_iff.1 h).2.2.2.1; omega) M4.ext
  have b4 : ¬ x.since < 0 := b4
  refine ⟨_, M4.cell 1 rfl rfl, ?_⟩
  refine brE_dec (fun b5 => ?_) (fun b5 => ?_)
  · have b5 : x.since > 100000 := b5
    exact bad (fun h => by have := (headB_iff.1 h).2.2.2.1; omega) M4.ext
  have b5 : ¬ x.since > 100000 := b5
  refine ⟨_, M4.cell 1 rfl rfl, ?_⟩
  refine brE_ndec (fun b6 => ?A) (fun b6 => ?B)
  case' A =>
    have b6 : ¬ x.til = 0 := b6
    refine ⟨_, M4.cell 1 rfl rfl, ?_⟩
    refine ⟨_, M4.cell 1 rfl rfl, ?_⟩
    refine brE_dec (fun b7 => ?A1) (fun b7 => ?A2)
    case' A1 =>
      have b7 : x.til ≤ x.since := b7
      exact bad (fun h => by have := (headB_iff.1 h).2.2.2.2; omega) M4.ext
    have b7 : ¬ x.til ≤ x.since := b7
    refine ⟨_, M4.cell 1 rfl rfl, ?_⟩
    refine brE_dec (fun b8 => ?A3) (fun b8 => ?A4)
    case' A3 =>
      have b8 : x.til > 100000 := b8
      exact bad (fun h => by have := (headB_iff.1 h).2.2.2.2; omega) M4.ext
    have b8 : ¬ x.til > 100000 := b8
    have hhead : headB x = true := headB_iff.2 ⟨by omega, b1, by omega, by omega, .inr (by omega)⟩
  case' B =>
    have b6 : x.til = 0 := b6
    have hhead : headB x = true := headB_iff.2 ⟨by omega, b1, by omega, by omega, .inl b6⟩
  all_goals
    clear bad
    have N4 : Mem w2 w5 [(g3, .cells #[.string (wordA k), .func (.func n1) #[] #[], .func (.func n2) #[] c2, .func (.func n3) #[] #[], .bool (Nat.beq k 1)] 292 (0, 0))] := ((Mem.start w2).alloc h3).put 0 rfl h4
    have hg1 : w2.heap[g1]? = some (.cells x.cells.toArray 180 (0, 0)) := M2.get 0 rfl
    have e02 := M2.ext
    clear M4 M2 M1
    refine ⟨x.cells, rfl, Rd.of_block (N4.ext.heap hg1), ?_⟩
    intro g5 w6 h6
    have N6 := N4.alloc h6
    refine ⟨rfl, _, _, N6.get 0 rfl, Nat.le_of_ble_eq_true rfl, rfl, ?_⟩
    intro w7 h7
    have h7 : Put w6 g5 (.cells x.cells.toArray 180 (0, 0)) w7 := h7
    have N7 : Mem w2 w7 [(g5, .cells x.cells.toArray 180 (0, 0)), (g3, .cells #[.string (wordA k), .func (.func n1) #[] #[], .func (.func n2) #[] c2, .func (.func n3) #[] #[], .bool (Nat.beq k 1)] 292 (0, 0))] := N6.put 0 rfl h7
    refine ⟨_, N7.cell 1 rfl rfl, ?_⟩
    refine brE_true r1 ?_
    refine (a1 g5 w7).mono ?_
    rintro v w8 ⟨⟨h, rfl, hh, hnew⟩, e8⟩
    have N8 := (N7.grow e8).add hh (Nat.le_trans N7.ext.size hnew) (fun p hp => by
      have := N7.lt (g := p.1) (o := p.2) hp
      omega)
    have hlen5 := offs_len k
    refine loopE C_ok (fun (i : Nat) => [(1, .pointer (some ⟨g1, 0, none⟩)), (3, .pointer (some ⟨g3, 0, none⟩)), (5, .pointer (some ⟨g5, 0, none⟩)), (62, .slice (some ⟨h, 0, none⟩) (offs k).length (offs k).length), (63, .int .i64 (offs k).length), (64, .int .i64 i)])
      (fun i w' => i ≤ (offs k).length ∧ Mem w2 w' [(h, .cells (ptrs g5 (offs k)).toArray 342 (0, 0)), (g5, .cells (zeroAt x ((offs k).take i)).toArray 180 (0, 0)), (g3, .cells #[.string (wordA k), .func (.func n1) #[] #[], .func (.func n2) #[] c2, .func (.func n3) #[] #[], .bool (Nat.beq k 1)] 292 (0, 0))]) (fun i => (offs k).length - i) 0
      ⟨rfl, rfl, rfl, rfl, rfl, rfl, trivial⟩ ⟨Nat.zero_le _, N8⟩ ?_
    rintro i w9 ⟨hi, N9⟩
    have hzl := zeroAt_length x ((offs k).take i) (fun o ho => offs_lt k o (List.mem_of_mem_take ho))
    refine brE_dec (fun hlt => ?_) (fun hge => ?_)
    · have hlt : i < (offs k).length := by have : (i : Int) < ((offs k).length : Nat) := hlt; omega
      have hol := offs_lt k _ (List.getElem_mem hlt)
      refine ⟨i, h, 0, rfl, hlt, rfl, ?_⟩
      refine ⟨.pointer (some ⟨g5, (offs k)[i], none⟩), by have := (N9.rd 0 rfl) i _ (ptrs_get hlt); simpa using this, ?_⟩
      refine ⟨rfl, _, _, N9.get 1 rfl, by rw [hzl]; show (offs k)[i] + 1 ≤ 9; omega, rfl, ?_⟩
      intro w10 h10
      have h10 : Put w9 g5 (.cells (splice (zeroAt x ((offs k).take i)) (offs k)[i] [.int .i64 0]).toArray 180 (0, 0)) w10 := h10
      rw [← zeroAt_snoc, ← List.take_succ_eq_append_getElem hlt] at h10
      refine ⟨((i + 1 : Nat) : Int), fit ⟨by omega, by omega⟩, ?_⟩
      exact ⟨i + 1, ⟨rfl, rfl, rfl, rfl, rfl, rfl, trivial⟩, ⟨hlt, N9.put 1 rfl h10⟩, by omega⟩
    have : i = (offs k).length := by have : ¬ (i : Int) < ((offs k).length : Nat) := hge; omega
    subst this
    rw [List.take_length] at N9 hzl
    have hst := struck hk hr.1 hr.2
    generalize zeroAt x (offs k) = Z at N9 hzl hst
    refine ⟨rfl, _, _, N9.get 1 rfl, by rw [hzl]; exact Nat.le_of_ble_eq_true rfl, rfl, ?_⟩
    intro w10 h10
    have N10 := N9.put 1 rfl h10
    have hz0 : (splice Z 0 [.int .i64 0]).length = 9 := by rw [splice_length (by rw [hzl]; exact Nat.le_of_ble_eq_true rfl)]; exact hzl
    refine ⟨rfl, _, _, N10.get 1 rfl, by show _ ≤ (splice Z 0 [.int .i64 0]).length; rw [hz0]; exact Nat.le_of_ble_eq_true rfl, rfl, ?_⟩
    intro w11 h11
    have N11 := N10.put 1 rfl h11
    have hz1 : (splice (splice Z 0 [.int .i64 0]) 1 [.int .i64 0]).length = 9 := by rw [splice_length (by rw [hz0]; exact Nat.le_of_ble_eq_true rfl)]; exact hz0
    refine ⟨rfl, _, _, N11.get 1 rfl, by show _ ≤ (splice (splice Z 0 [.int .i64 0]) 1 [.int .i64 0]).length; rw [hz1]; exact Nat.le_of_ble_eq_true rfl, rfl, ?_⟩
    intro w12 h12
    have N12 := N11.put 1 rfl h12
    have hz2 : (splice (splice (splice Z 0 [.int .i64 0]) 1 [.int .i64 0]) 2 [.int .u8 0]).length = 9 := by rw [splice_length (by rw [hz1]; exact Nat.le_of_ble_eq_true rfl)]; exact hz1
    refine ⟨_, N12.cell 2 rfl rfl, ?_⟩
    refine brE_mk (fun hn => ?_) (fun hn => ?_)
    case' refine_1 =>
      have hn : k = 1 := Nat.eq_of_beq_eq_true hn
      rw [if_pos hn] at hst
      refine ⟨rfl, _, _, N12.get 1 rfl, by show _ ≤ (splice (splice (splice Z 0 [.int .i64 0]) 1 [.int .i64 0]) 2 [.int .u8 0]).length; rw [hz2]; exact Nat.le_of_ble_eq_true rfl, rfl, ?_⟩
      intro w13 h13
      have N13 : Mem w2 w13 [(h, .cells (ptrs g5 (offs k)).toArray 342 (0, 0)), (g5, .cells (restF x).cells.toArray 180 (0, 0)), (g3, .cells #[.string (wordA k), .func (.func n1) #[] #[], .func (.func n2) #[] c2, .func (.func n3) #[] #[], .bool (Nat.beq k 1)] 292 (0, 0))] := by
        rw [← hst]; exact N12.put 1 rfl h13
    case' refine_2 =>
      have hn : ¬ k = 1 := fun e => by rw [e] at hn; cases hn
      rw [if_neg hn] at hst
      have N13 : Mem w2 w12 [(h, .cells (ptrs g5 (offs k)).toArray 342 (0, 0)), (g5, .cells (restF x).cells.toArray 180 (0, 0)), (g3, .cells #[.string (wordA k), .func (.func n1) #[] #[], .func (.func n2) #[] c2, .func (.func n3) #[] #[], .bool (Nat.beq k 1)] 292 (0, 0))] := by
        rw [← hst]; exact N12
    all_goals
      clear hst hz2 hz1 hz0 N12 N11 N10 N9
      have hrz := restF_zero x
      refine ⟨(restF x).cells, rfl, N13.rd 1 rfl, ?_⟩
      refine ⟨_, neqF _ _ (restF x) factZ, ?_⟩
      refine brE_ndec (fun hd => ?_) (fun hd => ?_)
      · exact ⟨by rw [formE_rest fun h => hd (hrz.2 h)], e02.trans N13.ext⟩
      have hrest := hrz.1 hd
      refine ⟨_, N13.cell 2 rfl rfl, ?_⟩
      refine ⟨x.cells, rfl, Rd.of_block (N13.ext.heap hg1), ?_⟩
      refine brE_true r2 ?_
      refine (a2 x _ hk N13.ext).mono ?_
      rintro v w14 ⟨rfl, e14⟩
      have N14 := N13.grow e14
      refine brE_mk (fun hri => ?_) (fun hri => ?_)
      · exact ⟨by rw [formE_right fun h => by rw [h] at hri; cases hri], e02.trans N14.ext⟩
      have hri : rightB x = true := by simpa using hri
      have hok := formE_ok hhead hrest hri
      refine ⟨_, N14.cell 2 rfl rfl, ?_⟩
      first
      | (have hk1 : x.kind = 1 := by omega
         refine brE_mk (fun hb => ?_) (fun hb => ?_)
         · refine ⟨_, cell_of_block (N14.ext.heap hg1) rfl, ?_⟩
           refine (isName_spec x.name w14 hx.name).mono ?_
           rintro v w15 ⟨rfl, rfl⟩
           refine brE_mk (fun hm => ?_) (fun hm => ?_)
           · exact ⟨by rw [hok, if_pos ⟨hk1, by simpa using hm⟩], e02.trans N14.ext⟩
           · have hm : nameB x.name.data.toList = true := by simpa using hm
             exact ⟨by rw [hok, if_neg (fun h => by rw [hm] at h; cases h.2)], e02.trans N14.ext⟩
         · exact absurd hb (by rw [show k = 1 by omega]; decide))
      | (have hk1 : ¬ x.kind = 1 := by omega
         refine brE_mk (fun hb => ?_) (fun hb => ?_)
         · exact absurd (Nat.eq_of_beq_eq_true hb) (by omega)
         · exact ⟨by rw [hok, if_neg (fun h => hk1 h.1)], e02.trans N14.ext⟩)
end Go.Proofs.YtigapannpbaihaaGreat
namespace Go.Proofs.YtigapannpbaihaaGreat
open Go.Eng Go.RowKit
theorem formE_zero {x:Fact} (h:formE x = 0):headB x = true ∧ restB x = true ∧ rightB x = true ∧ (x.kind = 1 -> nameB x.name.data.toList = true):=by
 unfold formE at h
 split at h
 ·rename_i h1
  simp only [Bool.and_eq_true] at h1
  refine ⟨h1.1.1,h1.1.2,h1.2,fun hk => ?_⟩
  cases hn:nameB x.name.data.toList with
  | true => rfl
  | false => rw [if_pos ⟨hk,hn⟩] at h; cases h
 ·cases h
end Go.Proofs.YtigapannpbaihaaGreat
namespace Go.Proofs.YtigapannpbaihaaGreat
open Go.Eng Go.RowKit
def SetIs (w:World) (g:Nat) (l:List Int):Prop:=∃ f,MapIs C.P 3 w g f ∧ ∀ x,(f x = some (.bool true) ∧ ∃ s ∈ l,x = .int .i64 s) ∨ (f x = none ∧ ∀ s ∈ l,x ≠ .int .i64 s)
theorem SetIs.ext {w w':World} {g:Nat} {l:List Int} (h:SetIs w g l) (e:Ext w w'):SetIs w' g l:=let ⟨f,h1,h2⟩:=h; ⟨f,h1.ext e,h2⟩
theorem SetIs.other {w w':World} {g b:Nat} {o:Obj} {l:List Int} (h:SetIs w g l) (p:Put w b o w') (hne:g ≠ b):SetIs w' g l:=let ⟨f,h1,h2⟩:=h; ⟨f,h1.put p hne,h2⟩
theorem SetIs.empty {w:World} {g:Nat} (h:w.heap[g]? = some (.map #[] 0)):SetIs w g []:=⟨_,MapIs.empty h,fun _ => .inr ⟨rfl,fun _ h => by cases h⟩⟩
theorem SetIs.block {w:World} {g:Nat} {l:List Int} (h:SetIs w g l):∃ es clk,w.heap[g]? = some (.map es clk):=let ⟨_,⟨es,clk,hb,_⟩,_⟩:=h; ⟨es,clk,hb⟩
theorem set_get {f:Value -> Option Value} {l:List Int} (h:∀ x,(f x = some (.bool true) ∧ ∃ s ∈ l,x = .int .i64 s) ∨ (f x = none ∧ ∀ s ∈ l,x ≠ .int .i64 s)) (q:Int):(f (.int .i64 q)).getD (.bool false) = .bool (decide (q ∈ l)):=by
 rcases h (.int .i64 q) with ⟨h1,s,hs,e⟩ | ⟨h1,h2⟩
 ·injection e with _ e
  subst e
  rw [h1,decide_eq_true hs]; rfl
 ·rw [h1,decide_eq_false fun hq => h2 q hq rfl]; rfl
theorem set_put {w:World} {g:Nat} {f:Value -> Option Value} {l:List Int} (h:∀ x,(f x = some (.bool true) ∧ ∃ s ∈ l,x = .int .i64 s) ∨ (f x = none ∧ ∀ s ∈ l,x ≠ .int .i64 s)) {q:Int} (hM:MapIs C.P 3 w g (updV f (.int .i64 q) (.bool true))):SetIs w g (l ++ [q]):=by
 refine ⟨_,hM,fun x => ?_⟩
 unfold updV
 by_cases e:x = .int .i64 q
 ·rw [if_pos e]; exact .inl ⟨rfl,q,by simp,e⟩
 ·rw [if_neg e]
  rcases h x with ⟨h1,s,hs,e'⟩ | ⟨h1,h2⟩
  ·exact .inl ⟨h1,s,by simp [hs],e'⟩
  ·refine .inr ⟨h1,fun s hs => ?_⟩
   rcases List.mem_append.1 hs with hs | hs
   ·exact h2 s hs
   ·rw [List.mem_singleton.1 hs]; exact e
theorem SetIs.size {w:World} {g:Nat} {l:List Int} (h:SetIs w g l):∃ es clk,w.heap[g]? = some (.map es clk) ∧ es.size = (sortD l).length:=by
 obtain ⟨f,⟨es,clk,hb,_,hnd,hval,hdom⟩,hf⟩:=h
 refine ⟨es,clk,hb,?_⟩
 have hn:(ints (sortD l)).Nodup:=by
  unfold ints
  rw [List.Nodup,List.pairwise_map]
  refine (sortD_asc l).imp fun h e => ?_
  injection e with _ e
  omega
 have hp:(es.toList.map MapEntry.key).Perm (ints (sortD l)):=by
  refine (List.perm_ext_iff_of_nodup hnd hn).2 fun x => ?_
  constructor
  ·intro hx
   obtain ⟨e,he,rfl⟩:=List.mem_map.1 hx
   rcases hf e.key with ⟨_,s,hs,e'⟩ | ⟨h1,_⟩
   ·rw [e']; exact List.mem_map.2 ⟨s,mem_sortD.2 hs,rfl⟩
   ·rw [hval e he] at h1; cases h1
  ·intro hx
   obtain ⟨s,hs,rfl⟩:=List.mem_map.1 hx
   rcases hf (.int .i64 s) with ⟨h1,_⟩ | ⟨_,h2⟩
   ·obtain ⟨e,he,hk⟩:=hdom _ _ h1
    exact List.mem_map.2 ⟨e,he,hk⟩
   ·exact absurd rfl (h2 s (mem_sortD.1 hs))
 have:=hp.length_eq
 rw [List.length_map,ints_length] at this
 simpa using this
theorem idIn_eq (l:List Fact) (n:Int):idIn l n = decide (n ∈ l.map Fact.id):=by
 unfold idIn
 rw [Bool.eq_iff_iff,List.any_eq_true,decide_eq_true_eq,List.mem_map]
 simp only [decide_eq_true_eq]
theorem namedIn_eq (l:List Fact) (n:Int):namedIn l n = decide (n ∈ whos l):=by
 unfold namedIn whos
 rw [Bool.eq_iff_iff,List.any_eq_true,decide_eq_true_eq,List.mem_map]
 simp only [decide_eq_true_eq,List.mem_filter]
 constructor
 ·rintro ⟨y,hy,h1,h2⟩; exact ⟨y,⟨hy,h1⟩,h2⟩
 ·rintro ⟨y,⟨hy,h1⟩,h2⟩; exact ⟨y,hy,h1,h2⟩
abbrev RegIs (w:World) (g gi gs:Nat) (n:Nat) (kn:Int):Prop:=w.heap[g]? = some (.cells #[.map (some gi),.map (some gs),.int .i64 n,.int .i64 kn] 251 (0,0))
def lastKnown (l:List Fact):Int:=(l.getLast?.map Fact.known).getD 0
theorem speaks_num {x:Fact} (hx:x.Nums):∀ s ∈ speaks x,In64 s:=by
 intro s hs
 unfold speaks at hs
 split at hs
 ·rw [List.mem_singleton.1 hs]; exact hx.what
 ·split at hs
  ·simp at hs
   rcases hs with rfl | rfl
   ·exact hx.who
   ·exact hx.what
  ·split at hs
   ·rw [List.mem_singleton.1 hs]; exact hx.who
   ·cases hs
set_option maxRecDepth 100000 in
theorem refuses_spec {w:World} {g gi gs:Nat} {l:List Fact} {x:Fact} (hx:x.Nums) (hl:l.length <= 2 ^ 20) (hg:RegIs w g gi gs l.length (lastKnown l)) (hi:SetIs w gi (l.map Fact.id)) (hs:SetIs w gs (whos l)) :
  CallsV C.P 123 #[.pointer (some ⟨g,0,none⟩),x.val] w fun v w' => v = .int .i64 (behindE l x) ∧ Ext w w':=by
 refine callsV_of C_ok (args:=[_,_]) (plans:=plans123) Tryz.func123 rfl Tryz.ntmps123 (by kernel_rfl) (Nat.le_of_ble_eq_true rfl) ?_
 intro g3 w1 h1
 have M1:Mem w w1 [(g3,.cells x.cells.toArray 180 (0,0))]:=(Mem.start w).alloc h1
 refine ⟨x.cells,rfl,M1.rd 0 rfl,?_⟩
 refine (formedF_spec x hx w1).mono ?_
 rintro v w2 ⟨rfl,e2⟩
 have M2:=M1.grow e2
 unfold behindE
 refine brE_ndec (fun a1 => ?_) (fun a1 => ?_)
 ·have a1:¬ formE x = 0:=a1
  exact ⟨by rw [if_pos a1],M2.ext⟩
 have a1:formE x = 0:=a1
 rw [if_neg (by omega)]
 have g2:=M2.ext.heap hg
 refine ⟨_,cell_of_block g2 rfl,?_⟩
 refine brE_dec (fun a2 => ?_) (fun a2 => ?_)
 ·have a2:(l.length:Int) >= 300:=a2
  exact ⟨by rw [if_pos (by omega)],M2.ext⟩
 have a2:¬ (l.length:Int) >= 300:=a2
 rw [if_neg (by omega)]
 refine ⟨_,cell_of_block g2 rfl,?_⟩
 have hi2:=hi.ext M2.ext
 have hs2:=hs.ext M2.ext
 have hlast:l.getLast?.any (fun y => decide (x.known < y.known)) = (decide ((l.length:Int) > 0) && decide (x.known < lastKnown l)):=by
  unfold lastKnown
  cases hll:l.getLast? with
  | none =>
   have:=List.getLast?_eq_none_iff.1 hll
   subst this
   rfl
  | some y =>
   have hne:l ≠ []:=fun e => by subst e; cases hll
   have:=List.length_pos_iff.2 hne
   rw [decide_eq_true (by omega:(l.length:Int) > 0)]
   rfl
 rw [hlast]
 clear hlast
 refine brE_dec (fun a3 => ?A) (fun a3 => ?B)
 case' A =>
  have a3:(l.length:Int) > 0:=a3
  rw [decide_eq_true a3,Bool.true_and]
  refine ⟨_,M2.cell 0 rfl rfl,?_⟩
  refine ⟨_,cell_of_block g2 rfl,?_⟩
  refine brE_dec (fun a4 => ?A1) (fun a4 => ?A2)
  case' A1 =>
   have a4:x.known < lastKnown l:=a4
   exact ⟨by rw [if_pos (decide_eq_true a4)],M2.ext⟩
  have a4:¬ x.known < lastKnown l:=a4
  rw [if_neg (by simpa using a4)]
 case' B =>
  have a3:¬ (l.length:Int) > 0:=a3
  rw [decide_eq_false a3,Bool.false_and,if_neg (by decide)]
 all_goals
  clear a3
  obtain ⟨fi,hfi,hfi2⟩:=hi2
  obtain ⟨fs,hfs,hfs2⟩:=hs2
  refine ⟨_,cell_of_block g2 rfl,?_⟩
  refine ⟨_,M2.cell 0 rfl rfl,?_⟩
  refine ⟨_,mapGet1 C_ok (te:=ty4) (x:=.int .i64 x.id) (intKey hx.id) hfi intK rfl rfl rfl rfl rfl rfl (set_get hfi2 _),?_⟩
  rw [idIn_eq l x.id]
  refine brE_mk (fun a5 => ?_) (fun a5 => ?_)
  ·exact ⟨by rw [if_pos a5],M2.ext⟩
  rw [if_neg (by rw [a5]; decide)]
  obtain ⟨hh,_,_,_⟩:=formE_zero a1
  obtain ⟨hk,_⟩:=headB_iff.1 hh
  obtain ⟨k,hkk⟩:=Int.eq_ofNat_of_zero_le (show 0 <= x.kind by omega)
  refine ⟨.int .u8 (k:Int),by rw [<-hkk]; exact M2.cell 0 rfl rfl,?_⟩
  refine (formOf_spec k w2).mono ?_
  rintro v w3 ⟨hv,e3⟩
  rw [if_pos ⟨by omega,by omega⟩] at hv
  obtain ⟨cs,rfl,hlen,hone,hform⟩:=hv
  obtain ⟨n1,n2,n3,c2,heq,r1,r2,r3,a1',a2',a3'⟩:=hform
  have hcs:cs = [.string (wordA k),.func (.func n1) #[] #[],.func (.func n2) #[] c2,.func (.func n3) #[] #[],.bool (Nat.beq k 1)]:=by
   injection heq with h
   exact congrArg Array.toList h
  subst hcs
  have M3:=M2.grow e3
  intro g6 w4 h4
  have M4:=M3.alloc h4
  refine ⟨rfl,_,_,M4.get 0 rfl,Nat.le_of_ble_eq_true rfl,hone,?_⟩
  intro w5 h5
  have h5:Put w4 g6 (.cells #[.string (wordA k),.func (.func n1) #[] #[],.func (.func n2) #[] c2,.func (.func n3) #[] #[],.bool (Nat.beq k 1)] 292 (0,0)) w5:=h5
  have M5:=M4.put 0 rfl h5
  have e35:Ext w3 w5:=h5.ext_of h4.ext (by rw [h4.new]; exact Nat.le_refl _)
  refine ⟨_,M5.cell 0 rfl rfl,?_⟩
  refine ⟨x.cells,rfl,M5.rd 1 rfl,?_⟩
  refine brE_true r3 ?_
  refine (a3' x _ hkk e35).mono ?_
  rintro v w6 ⟨ho6,e6⟩
  have M6:=M5.grow e6
  have e26:=(e3.trans e35).trans e6
  have g6':=e26.heap g2
  have hfi6:=hfi.ext e26
  have hfs6:=hfs.ext e26
  have hsp:=speaks_num hx
  have hspl:(speaks x).length <= 2:=by
   unfold speaks
   split
   ·exact Nat.le_of_ble_eq_true rfl
   ·split
    ·exact Nat.le_of_ble_eq_true rfl
    ·split <;> exact Nat.le_of_ble_eq_true rfl
  generalize speaks x = S at *
  obtain ⟨AS,cS,rfl,hrS,_⟩:=ho6.slice
  refine loopE C_ok (fun (i:Nat) => [(0,.pointer (some ⟨g,0,none⟩)),(3,.pointer (some ⟨g3,0,none⟩)),(53,.slice AS S.length cS),(54,.int .i64 S.length),(55,.int .i64 i)])
   (fun i w' => w' = w6 ∧ i <= S.length ∧ S.all (namedIn l) = (S.drop i).all (namedIn l)) (fun i => S.length - i) 0 ⟨rfl,rfl,rfl,rfl,rfl,trivial⟩ ⟨rfl,Nat.zero_le _,rfl⟩ ?_
  rintro i w7 ⟨rfl,hile,hall⟩
  refine brE_dec (fun hlt => ?_) (fun hge => ?_)
  ·have hlt:i < S.length:=by have:(i:Int) < (S.length:Nat):=hlt; omega
   rw [List.drop_eq_getElem_cons hlt,List.all_cons] at hall
   obtain ⟨b,o,hA,hc⟩:=Reads.int hrS hlt
   refine ⟨i,b,o,rfl,hlt,hA,?_⟩
   refine ⟨_,by simpa using hc,?_⟩
   refine ⟨_,cell_of_block g6' rfl,?_⟩
   refine ⟨_,mapGet1 C_ok (te:=ty4) (x:=.int .i64 S[i]) (intKey (hsp _ (List.getElem_mem hlt))) hfs6 intK rfl rfl rfl rfl rfl rfl (set_get hfs2 _),?_⟩
   refine brE_mk (fun b1 => ?_) (fun b1 => ?_)
   ·have b1:namedIn l S[i] = false:=by rw [namedIn_eq]; simpa using b1
    rw [b1,Bool.false_and] at hall
    exact ⟨by rw [if_pos hall],M6.ext⟩
   ·have b1:namedIn l S[i] = true:=by rw [namedIn_eq]; simpa using b1
    rw [b1,Bool.true_and] at hall
    refine ⟨((i + 1:Nat):Int),fit ⟨by omega,by omega⟩,?_⟩
    exact ⟨i + 1,⟨rfl,rfl,rfl,rfl,rfl,trivial⟩,⟨rfl,hlt,hall⟩,by omega⟩
  have:i = S.length:=by have:¬ (i:Int) < (S.length:Nat):=hge; omega
  subst this
  rw [List.drop_length] at hall
  rw [if_neg (by rw [hall]; simp)]
  have hkc:(k:Int) = x.kind:=hkk.symm
  refine ⟨.int .u8 (k:Int),by rw [hkc]; exact M6.cell 1 rfl rfl,?_⟩
  refine brE_dec (fun c1 => ?_) (fun c1 => ?_)
  ·have c1:x.kind = 11:=by have:(k:Int) = 11:=c1; omega
   refine ⟨_,cell_of_block g6' rfl,?_⟩
   refine ⟨_,M6.cell 1 rfl rfl,?_⟩
   refine ⟨_,mapGet1 C_ok (te:=ty4) (x:=.int .i64 x.what) (intKey hx.what) hfi6 intK rfl rfl rfl rfl rfl rfl (set_get hfi2 _),?_⟩
   rw [idIn_eq l x.what]
   refine brE_mk (fun b1 => ?_) (fun b1 => ?_)
   ·have b1:decide (x.what ∈ l.map Fact.id) = false:=by simpa using b1
    exact ⟨by rw [if_pos ⟨c1,b1⟩],M6.ext⟩
   ·have b1:decide (x.what ∈ l.map Fact.id) = true:=by simpa using b1
    rw [if_neg (fun h => by rw [b1] at h; cases h.2),if_neg (fun h => by omega)]
    refine ⟨.int .u8 (k:Int),by rw [hkc]; exact M6.cell 1 rfl rfl,?_⟩
    refine brE_dec (fun c2 => ?_) (fun c2 => ?_)
    ·have:(k:Int) = 1:=c2
     omega
    ·exact ⟨rfl,M6.ext⟩
  ·have c1:¬ x.kind = 11:=fun e => c1 (by show (k:Int) = 11; omega)
   rw [if_neg (fun h => c1 h.1)]
   refine ⟨.int .u8 (k:Int),by rw [hkc]; exact M6.cell 1 rfl rfl,?_⟩
   refine brE_dec (fun c2 => ?_) (fun c2 => ?_)
   ·have c2:x.kind = 1:=by have:(k:Int) = 1:=c2; omega
    refine ⟨_,cell_of_block g6' rfl,?_⟩
    refine ⟨_,M6.cell 1 rfl rfl,?_⟩
    refine ⟨_,mapGet1 C_ok (te:=ty4) (x:=.int .i64 x.who) (intKey hx.who) hfs6 intK rfl rfl rfl rfl rfl rfl (set_get hfs2 _),?_⟩
    rw [namedIn_eq l x.who]
    refine brE_mk (fun b1 => ?_) (fun b1 => ?_)
    ·have b1:decide (x.who ∈ whos l) = false:=by simpa using b1
     refine ⟨_,cell_of_block g6' rfl,?_⟩
     obtain ⟨es,clk,hes,hsz⟩:=SetIs.size ⟨fs,hfs6,hfs2⟩
     refine ⟨es,clk,hes,?_⟩
     refine brE_dec (fun d1 => ?_) (fun d1 => ?_)
     ·have d1:(es.size:Int) >= 200:=d1
      exact ⟨by rw [if_pos ⟨c2,b1,by unfold statesN; omega⟩],M6.ext⟩
     ·have d1:¬ (es.size:Int) >= 200:=d1
      exact ⟨by rw [if_neg (fun h => by have:=h.2.2; unfold statesN at this; omega)],M6.ext⟩
    ·have b1:decide (x.who ∈ whos l) = true:=by simpa using b1
     exact ⟨by rw [if_neg (fun h => by rw [b1] at h; cases h.2.1)],M6.ext⟩
   ·have c2:¬ x.kind = 1:=fun e => c2 (by show (k:Int) = 1; omega)
    exact ⟨by rw [if_neg (fun h => c2 h.1)],M6.ext⟩
end Go.Proofs.YtigapannpbaihaaGreat
namespace Go.Proofs.YtigapannpbaihaaGreat
open Go.Eng Go.RowKit
theorem sortD_nodup_length {l:List Int} (h:l.Nodup):(sortD l).length = l.length:=by
 have hn:(sortD l).Nodup:=(sortD_asc l).imp fun h e => by subst e; exact Int.lt_irrefl _ h
 exact ((List.perm_ext_iff_of_nodup hn h).2 fun x => mem_sortD).length_eq
theorem nodup_length_le {a l:List Int} (hn:a.Nodup) (h:∀ x ∈ a,x ∈ l):a.length <= l.length:=by
 rw [<-sortD_nodup_length hn]
 exact asc_length (sortD_asc a) fun x hx => h x (mem_sortD.1 hx)
theorem HF.at_nums {w:World} {A:Option Addr} {l:List Fact} {c:Nat} (h:HF w A l c) (k day:Int):∀ x ∈ atL k day l,x.Nums:=fun x hx => h.nums x (atL_sub hx)
set_option maxRecDepth 100000 in
theorem Principal_spec {w:World} {A:Option Addr} {l:List Fact} {c:Nat} (h:HF w A l c) (hl:l.length <= 2 ^ 20) (k day p:Int) (hp:In64 p) :
  CallsV C.P 133 #[.slice A l.length c,.int .i64 k,.int .i64 day,.int .i64 p] w fun v w' => v = .tuple #[.int .i64 (princL (atL k day l) p).1,.bool (princL (atL k day l) p).2] ∧ Ext w w':=by
 refine callsV_of C_ok (args:=[_,_,_,_]) (plans:=[]) Tryz.func133 rfl Tryz.ntmps133 (by kernel_rfl) (Nat.le_of_ble_eq_true rfl) ?_
 refine (look_spec h hl k day).mono ?_
 rintro v w1 ⟨hK,e1⟩
 have hkl:=atL_length k day l
 have hKn:=h.at_nums k day
 generalize atL k day l = K at *
 obtain ⟨AK,cK,rfl,hrK,_⟩:=hK.slice
 have hKl:K.length <= 2 ^ 20:=by omega
 intro gm w2 h2
 intro g12 w3 h3
 refine ⟨rfl,_,_,h3.here,Nat.le_of_ble_eq_true rfl,rfl,?_⟩
 intro w4 h4
 have h4:Put w3 g12 (.cells #[.int .i64 p] 3 (0,0)) w4:=h4
 have hgm:w1.heap.size <= gm:=by rw [h2.new]; exact Nat.le_refl _
 have hne:gm ≠ g12:=by rw [h2.new,h3.new,h2.size]; omega
 have M4:Mem w1 w4 [(g12,.cells #[.int .i64 p] 3 (0,0))]:=(((Mem.start w1).grow h2.ext).alloc h3).put 0 rfl h4
 have s4:SetIs w4 gm []:=(SetIs.empty (h3.ext.heap h2.here)).other h4 hne
 have hstart:princL K p = princAt K (K.length + 2 - 0) [] p:=rfl
 refine loopE C_ok (fun (t:List Int × Int) => [(10,.slice AK K.length cK),(11,.map (some gm)),(12,.pointer (some ⟨g12,0,none⟩))])
  (fun t w' => Mem w1 w' [(g12,.cells #[.int .i64 t.2] 3 (0,0))] ∧ SetIs w' gm t.1 ∧ t.1.Nodup ∧ (∀ x ∈ t.1,x ∈ p :: K.map Fact.other) ∧ t.2 ∈ p :: K.map Fact.other ∧ princL K p = princAt K (K.length + 2 - t.1.length) t.1 t.2) (fun t => K.length + 2 - t.1.length) ([],p)
  ⟨rfl,rfl,rfl,trivial⟩ ⟨M4,s4,List.nodup_nil,(fun _ h => by cases h),by simp,hstart⟩ ?_
 rintro ⟨met,q⟩ w5 ⟨M5',s5',hnd',hsub',hq',hpr'⟩
 have M5:Mem w1 w5 [(g12,.cells #[.int .i64 q] 3 (0,0))]:=M5'
 have s5:SetIs w5 gm met:=s5'
 have hnd:met.Nodup:=hnd'
 have hsub:∀ x ∈ met,x ∈ p :: K.map Fact.other:=hsub'
 have hq:q ∈ p :: K.map Fact.other:=hq'
 have hpr:princL K p = princAt K (K.length + 2 - met.length) met q:=hpr'
 clear M5' s5' hnd' hsub' hq' hpr'
 have hlen:=nodup_length_le hnd hsub
 simp only [List.length_cons,List.length_map] at hlen
 obtain ⟨n,hn⟩:∃ n,K.length + 2 - met.length = n + 1:=⟨K.length + 1 - met.length,by omega⟩
 rw [hn,princAt] at hpr
 have hq64:In64 q:=by
  rcases List.mem_cons.1 hq with rfl | hq
  ·exact hp
  ·obtain ⟨x,hx,rfl⟩:=List.mem_map.1 hq
   exact (hKn x hx).other
 obtain ⟨f,hf,hf2⟩:=s5
 refine ⟨_,M5.cell 0 rfl rfl,?_⟩
 refine ⟨_,mapGet1 C_ok (te:=ty4) (x:=.int .i64 q) (intKey hq64) hf intK rfl rfl rfl rfl rfl rfl (set_get hf2 _),?_⟩
 refine brE_mk (fun a1 => ?_) (fun a1 => ?_)
 ·rw [if_pos (of_decide_eq_true a1)] at hpr
  exact ⟨by rw [hpr],e1.trans M5.ext⟩
 have a1:q ∉ met:=of_decide_eq_false a1
 rw [if_neg a1] at hpr
 refine ⟨_,M5.cell 0 rfl rfl,?_⟩
 refine mapPut C_ok rfl rfl (x:=.int .i64 q) rfl rfl rfl rfl intK (intKey hq64) hf ?_
 intro o6 w6 h6 hf6
 have s6:SetIs w6 gm (met ++ [q]):=set_put hf2 hf6
 have M6:Mem w1 w6 [(g12,.cells #[.int .i64 q] 3 (0,0))]:=M5.grown h6.grownBy (fun q hq => by cases hq; exact hgm) (fun p hp => by
  simp at hp
  subst hp
  exact fun e => hne (by injection e with e; exact e.symm))
 have hnd6:(met ++ [q]).Nodup:=List.nodup_append.2 ⟨hnd,by simp,fun x hx y hy e => by rw [List.mem_singleton.1 hy] at e; subst e; exact a1 hx⟩
 have hsub6:∀ x ∈ met ++ [q],x ∈ p :: K.map Fact.other:=fun x hx => by
  rcases List.mem_append.1 hx with hx | hx
  ·exact hsub x hx
  ·rw [List.mem_singleton.1 hx]; exact hq
 refine ⟨[],[.pointer (some ⟨g12,0,none⟩)],rfl,rfl,?_⟩
 refine (last_spec (p:=deputyB q) (hrK.ext M6.ext) hKl rfl fun x w' e => Principal1_spec x w' (e.heap (M6.get 0 rfl))).mono ?_
 rintro v w7 ⟨rfl,e7⟩
 have M7:=M6.grow e7
 have s7:=s6.ext e7
 cases hlast:lastP (deputyB q) K with
 | none =>
  have hnx:nextL K q = none:=by unfold nextL; rw [hlast]; rfl
  rw [hnx] at hpr
  intro g13 w8 h8
  refine ⟨rfl,_,_,h8.here,Nat.le_of_ble_eq_true rfl,rfl,?_⟩
  intro w9 h9
  have e79:Ext w7 w9:=h9.ext_of h8.ext (by rw [h8.new]; exact Nat.le_refl _)
  have M9:=M7.grow e79
  obtain ⟨es,clk,hes,hsz⟩:=(s7.ext e79).size
  rw [sortD_nodup_length hnd6,List.length_append] at hsz
  refine ⟨es,clk,hes,?_⟩
  refine brE_dec (fun b1 => ?_) (fun b1 => ?_)
  ·have b1:(es.size:Int) = 1:=b1
   have hm0:met.length = 0:=by simp at hsz; omega
   have hpr:princL K p = if met.length = 0 then (0,false) else (q,true):=hpr
   rw [if_pos hm0] at hpr
   exact ⟨by rw [hpr],e1.trans M9.ext⟩
  ·have b1:¬ (es.size:Int) = 1:=b1
   have hm0:¬ met.length = 0:=by simp at hsz; omega
   have hpr:princL K p = if met.length = 0 then (0,false) else (q,true):=hpr
   rw [if_neg hm0] at hpr
   refine ⟨_,M9.cell 0 rfl rfl,?_⟩
   exact ⟨by rw [hpr]; rfl,e1.trans M9.ext⟩
 | some y =>
  have hnx:nextL K q = some y.other:=by unfold nextL; rw [hlast]; rfl
  rw [hnx] at hpr
  have hpr:princL K p = princAt K n (met ++ [q]) y.other:=hpr
  have hy:=lastP_some hlast
  intro g13 w8 h8
  refine ⟨rfl,_,_,h8.here,Nat.le_of_ble_eq_true rfl,rfl,?_⟩
  intro w9 h9
  have h9:Put w8 g13 (.cells y.cells.toArray 180 (0,0)) w9:=h9
  have e79:Ext w7 w9:=h9.ext_of h8.ext (by rw [h8.new]; exact Nat.le_refl _)
  have M9:=M7.grow e79
  refine ⟨_,cell_of_block h9.here rfl,?_⟩
  refine ⟨rfl,_,_,M9.get 0 rfl,Nat.le_of_ble_eq_true rfl,rfl,?_⟩
  intro w10 h10
  have M10:=M9.put 0 rfl h10
  refine ⟨(met ++ [q],y.other),⟨rfl,rfl,rfl,trivial⟩,⟨M10,(s7.ext e79).other h10 hne,hnd6,hsub6,?_,?_⟩,?_⟩
  ·exact List.mem_cons_of_mem _ (List.mem_map.2 ⟨y,hy.1,rfl⟩)
  ·show princL K p = princAt K (K.length + 2 - (met ++ [q]).length) (met ++ [q]) y.other
   rw [hpr,show K.length + 2 - (met ++ [q]).length = n by simp; omega]
  ·show K.length + 2 - (met ++ [q]).length < K.length + 2 - met.length
   simp; omega
end Go.Proofs.YtigapannpbaihaaGreat
namespace Go.Proofs.YtigapannpbaihaaGreat
open Go.Eng Go.RowKit
theorem Credentials_spec {w:World} {A:Option Addr} {l:List Fact} {c:Nat} (h:HF w A l c) (hl:l.length <= 2 ^ 20) (k day n s:Int) :
  CallsV C.P 138 #[.slice A l.length c,.int .i64 k,.int .i64 day,.int .i64 n,.int .i64 s] w fun v w' => v = .int .i64 (credL (atL k day l) n s) ∧ Ext w w':=by
 refine callsV_of C_ok (args:=[_,_,_,_,_]) (plans:=[]) Tryz.func138 rfl Tryz.ntmps138 (by kernel_rfl) (Nat.le_of_ble_eq_true rfl) ?_
 intro g8 u1 h8
 have M8:=(Mem.start w).alloc h8
 intro g9 u2 h9
 have M9:=M8.alloc h9
 refine (look_spec (h.ext M9.ext) hl k day).mono ?_
 rintro v w1 ⟨hK,e1⟩
 have M1:=M9.grow e1
 have hkl:=atL_length k day l
 generalize atL k day l = K at *
 obtain ⟨AK,cK,rfl,hrK,_⟩:=hK.slice
 refine ⟨[],[.pointer (some ⟨g8,0,none⟩),.pointer (some ⟨g9,0,none⟩)],rfl,rfl,?_⟩
 refine (last_spec (p:=credB n s) hrK (by omega) rfl fun x w' e => Credentials1_spec x w' (e.heap (M1.get 1 rfl)) (e.heap (M1.get 0 rfl))).mono ?_
 rintro v w2 ⟨rfl,e2⟩
 have M2:=M1.grow e2
 unfold credL
 cases hlast:lastP (credB n s) K with
 | none =>
  intro g w3 h3
  have M3:=M2.alloc h3
  refine ⟨rfl,_,_,h3.here,Nat.le_of_ble_eq_true rfl,rfl,?_⟩
  intro w4 h4
  exact ⟨rfl,(M3.put 0 rfl h4).ext⟩
 | some y =>
  intro g w3 h3
  have M3:=M2.alloc h3
  refine ⟨rfl,_,_,h3.here,Nat.le_of_ble_eq_true rfl,rfl,?_⟩
  intro w4 h4
  have h4:Put w3 g (.cells y.cells.toArray 180 (0,0)) w4:=h4
  refine ⟨_,cell_of_block h4.here rfl,?_⟩
  exact ⟨rfl,(M3.put 0 rfl h4).ext⟩
theorem spouseL_some {c:List Fact} {p:Int} {y:Fact} (h:lastP (marriedB p) c = some y):spouseL c p = if (deadB c y.who || deadB c y.other) = true then (0,false) else if y.who = p then (y.other,true) else (y.who,true):=by
 unfold spouseL; rw [h]
theorem spouseL_none {c:List Fact} {p:Int} (h:lastP (marriedB p) c = none):spouseL c p = (0,false):=by
 unfold spouseL; rw [h]
theorem Spouse_spec {w:World} {A:Option Addr} {l:List Fact} {c:Nat} (h:HF w A l c) (hl:l.length <= 2 ^ 20) (k day n:Int) :
  CallsV C.P 136 #[.slice A l.length c,.int .i64 k,.int .i64 day,.int .i64 n] w fun v w' => v = .tuple #[.int .i64 (spouseL (atL k day l) n).1,.bool (spouseL (atL k day l) n).2] ∧ Ext w w':=by
 refine callsV_of C_ok (args:=[_,_,_,_]) (plans:=[]) Tryz.func136 rfl Tryz.ntmps136 (by kernel_rfl) (Nat.le_of_ble_eq_true rfl) ?_
 intro g7 u1 h7
 have M7:=(Mem.start w).alloc h7
 refine (look_spec (h.ext M7.ext) hl k day).mono ?_
 rintro v w1 ⟨hK,e1⟩
 have M1:=M7.grow e1
 have hkl:=atL_length k day l
 generalize atL k day l = K at *
 obtain ⟨AK,cK,rfl,hrK,_⟩:=hK.slice
 have hKl:K.length <= 2 ^ 20:=by omega
 refine ⟨[],[.pointer (some ⟨g7,0,none⟩)],rfl,rfl,?_⟩
 refine (last_spec (p:=marriedB n) hrK hKl rfl fun x w' e => Spouse1_spec x w' (e.heap (M1.get 0 rfl))).mono ?_
 rintro v w2 ⟨rfl,e2⟩
 have M2:=M1.grow e2
 have hr2:=hrK.ext e2
 cases hlast:lastP (marriedB n) K with
 | none =>
  intro g w3 h3
  have M3:=M2.alloc h3
  refine ⟨rfl,_,_,h3.here,Nat.le_of_ble_eq_true rfl,rfl,?_⟩
  intro w4 h4
  exact ⟨by rw [spouseL_none hlast],(M3.put 0 rfl h4).ext⟩
 | some y =>
  have hsp:=spouseL_some hlast
  intro g w3 h3
  have M3:=M2.alloc h3
  refine ⟨rfl,_,_,h3.here,Nat.le_of_ble_eq_true rfl,rfl,?_⟩
  intro w4 h4
  have h4:Put w3 g (.cells y.cells.toArray 180 (0,0)) w4:=h4
  have e24:Ext w2 w4:=h4.ext_of h3.ext (by rw [h3.new]; exact Nat.le_refl _)
  have M4:Mem w w4 [(g,.cells y.cells.toArray 180 (0,0)),(g7,.cells #[.int .i64 n] 3 (0,0))]:=M3.put 0 rfl h4
  refine ⟨_,M4.cell 0 rfl rfl,?_⟩
  refine (vdead_spec (hr2.ext e24) hKl y.who).mono ?_
  rintro v w5 ⟨rfl,e5⟩
  have M5:=M4.grow e5
  refine brE_mk (fun a1 => ?_) (fun a1 => ?_)
  ·rw [a1,Bool.true_or,if_pos rfl] at hsp
   exact ⟨by rw [hsp],M5.ext⟩
  rw [a1,Bool.false_or] at hsp
  refine ⟨_,M5.cell 0 rfl rfl,?_⟩
  refine (vdead_spec ((hr2.ext e24).ext e5) hKl y.other).mono ?_
  rintro v w6 ⟨rfl,e6⟩
  have M6:=M5.grow e6
  refine brE_mk (fun a2 => ?_) (fun a2 => ?_)
  ·rw [a2,if_pos rfl] at hsp
   exact ⟨by rw [hsp],M6.ext⟩
  rw [a2,if_neg (by decide)] at hsp
  refine ⟨_,M6.cell 0 rfl rfl,?_⟩
  refine ⟨_,M6.cell 1 rfl rfl,?_⟩
  refine brE_dec (fun a3 => ?_) (fun a3 => ?_)
  ·have a3:y.who = n:=a3
   rw [if_pos a3] at hsp
   refine ⟨_,M6.cell 0 rfl rfl,?_⟩
   exact ⟨by rw [hsp]; rfl,M6.ext⟩
  ·have a3:¬ y.who = n:=a3
   rw [if_neg a3] at hsp
   refine ⟨_,M6.cell 0 rfl rfl,?_⟩
   exact ⟨by rw [hsp]; rfl,M6.ext⟩
set_option maxRecDepth 100000 in
theorem Visit_spec {w:World} {A:Option Addr} {l:List Fact} {c:Nat} (h:HF w A l c) (hl:l.length <= 2 ^ 20) (k day n s:Int) :
  CallsV C.P 137 #[.slice A l.length c,.int .i64 k,.int .i64 day,.int .i64 n,.int .i64 s] w fun v w' => v = .int .i64 (visitL (atL k day l) n s) ∧ Ext w w':=by
 refine callsV_of C_ok (args:=[_,_,_,_,_]) (plans:=[]) Tryz.func137 rfl Tryz.ntmps137 (by kernel_rfl) (Nat.le_of_ble_eq_true rfl) ?_
 refine (look_spec h hl k day).mono ?_
 rintro v w1 ⟨hK,e1⟩
 have hkl:=atL_length k day l
 generalize atL k day l = K at *
 obtain ⟨AK,cK,rfl,hrK,_⟩:=hK.slice
 have hKl:K.length <= 2 ^ 20:=by omega
 unfold visitL
 refine loopE C_ok (fun (t:Nat × Int × Bool) => [(3,.int .i64 n),(4,.int .i64 s),(11,.int .i64 t.2.1),(12,.bool t.2.2),(18,.slice AK K.length cK),(19,.int .i64 K.length),(20,.int .i64 t.1)])
  (fun t w' => t.1 <= K.length ∧ Ext w1 w' ∧ (t.2.1,t.2.2) = visitAt n s (0,false) (K.take t.1)) (fun t => K.length - t.1) (0,0,false)
  ⟨rfl,rfl,rfl,rfl,rfl,rfl,rfl,trivial⟩ ⟨Nat.zero_le _,Ext.refl _,rfl⟩ ?_
 rintro ⟨i,a,b⟩ w2 ⟨hi',e2,hv'⟩
 have hi:i <= K.length:=hi'
 have hv:(a,b) = visitAt n s (0,false) (K.take i):=hv'
 clear hi' hv'
 refine brE_dec (fun hlt => ?_) (fun hge => ?_)
 ·have hlt:i < K.length:=by have:(i:Int) < (K.length:Nat):=hlt; omega
  have next:IntKind.i64.wrap ((i:Int) + 1) = ((i + 1:Nat):Int):=fit ⟨by omega,by omega⟩
  have step:visitAt n s (0,false) (K.take (i + 1)) = if (visitB n s K[i] && (!b || decide (K[i].other < a))) = true then (K[i].other,true) else (a,b):=by
   rw [List.take_succ_eq_append_getElem hlt,visitAt_snoc,<-hv]
  obtain ⟨b1,o,hA,hc⟩:=Reads.fact (hrK.ext e2) hlt
  refine ⟨i,b1,o,rfl,hlt,hA,?_⟩
  refine ⟨K[i].cells,rfl,hc,?_⟩
  intro g w3 h3
  refine ⟨rfl,_,_,h3.here,Nat.le_of_ble_eq_true rfl,rfl,?_⟩
  intro w4 h4
  have h4:Put w3 g (.cells K[i].cells.toArray 180 (0,0)) w4:=h4
  have e24:Ext w2 w4:=h4.ext_of h3.ext (by rw [h3.new]; exact Nat.le_refl _)
  have skip:(visitB n s K[i] && (!b || decide (K[i].other < a))) = false -> i + 1 <= K.length ∧ Ext w1 w4 ∧ (a,b) = visitAt n s (0,false) (K.take (i + 1)):=fun h => by
   rw [step,h,if_neg (by decide)]
   exact ⟨hlt,e2.trans e24,rfl⟩
  have take:(visitB n s K[i] && (!b || decide (K[i].other < a))) = true -> i + 1 <= K.length ∧ Ext w1 w4 ∧ (K[i].other,true) = visitAt n s (0,false) (K.take (i + 1)):=fun h => by
   rw [step,h,if_pos rfl]
   exact ⟨hlt,e2.trans e24,rfl⟩
  refine ⟨_,cell_of_block h4.here rfl,?_⟩
  refine brE_dec (fun a1 => ?_) (fun a1 => ?_)
  case' refine_2 =>
   have a1:¬ K[i].kind = 8:=a1
   refine ⟨_,next,?_⟩
   exact ⟨(i + 1,a,b),⟨rfl,rfl,rfl,rfl,rfl,rfl,rfl,trivial⟩,skip (by unfold visitB; rw [decide_eq_false fun h => a1 h.1]; rfl),by show K.length - (i + 1) < K.length - i; omega⟩
  have a1:K[i].kind = 8:=a1
  refine ⟨_,cell_of_block h4.here rfl,?_⟩
  refine brE_dec (fun a2 => ?_) (fun a2 => ?_)
  case' refine_2 =>
   have a2:¬ K[i].who = n:=a2
   refine ⟨_,next,?_⟩
   exact ⟨(i + 1,a,b),⟨rfl,rfl,rfl,rfl,rfl,rfl,rfl,trivial⟩,skip (by unfold visitB; rw [decide_eq_false fun h => a2 h.2.1]; rfl),by show K.length - (i + 1) < K.length - i; omega⟩
  have a2:K[i].who = n:=a2
  refine ⟨_,cell_of_block h4.here rfl,?_⟩
  refine brE_dec (fun a3 => ?_) (fun a3 => ?_)
  case' refine_2 =>
   have a3:¬ K[i].what = s:=a3
   refine ⟨_,next,?_⟩
   exact ⟨(i + 1,a,b),⟨rfl,rfl,rfl,rfl,rfl,rfl,rfl,trivial⟩,skip (by unfold visitB; rw [decide_eq_false fun h => a3 h.2.2]; rfl),by show K.length - (i + 1) < K.length - i; omega⟩
  have a3:K[i].what = s:=a3
  have hvb:visitB n s K[i] = true:=decide_eq_true ⟨a1,a2,a3⟩
  refine brE_mk (fun a4 => ?_) (fun a4 => ?_)
  ·refine ⟨_,cell_of_block h4.here rfl,?_⟩
   refine ⟨_,next,?_⟩
   exact ⟨(i + 1,K[i].other,true),⟨rfl,rfl,rfl,rfl,rfl,rfl,rfl,trivial⟩,take (by rw [hvb,a4]; rfl),by show K.length - (i + 1) < K.length - i; omega⟩
  refine ⟨_,cell_of_block h4.here rfl,?_⟩
  refine brE_dec (fun a5 => ?_) (fun a5 => ?_)
  ·have a5:K[i].other < a:=a5
   refine ⟨_,cell_of_block h4.here rfl,?_⟩
   refine ⟨_,next,?_⟩
   exact ⟨(i + 1,K[i].other,true),⟨rfl,rfl,rfl,rfl,rfl,rfl,rfl,trivial⟩,take (by rw [hvb,decide_eq_true a5,Bool.or_true]; rfl),by show K.length - (i + 1) < K.length - i; omega⟩
  ·have a5:¬ K[i].other < a:=a5
   refine ⟨_,next,?_⟩
   exact ⟨(i + 1,a,b),⟨rfl,rfl,rfl,rfl,rfl,rfl,rfl,trivial⟩,skip (by rw [hvb,a4,decide_eq_false a5]; rfl),by show K.length - (i + 1) < K.length - i; omega⟩
 ·have:i = K.length:=by have:¬ (i:Int) < (K.length:Nat):=hge; omega
  subst this
  rw [List.take_length] at hv
  exact ⟨by rw [<-hv],e1.trans e2⟩
end Go.Proofs.YtigapannpbaihaaGreat
namespace Go.Proofs.YtigapannpbaihaaGreat
open Go.Eng Go.RowKit
def aheadK (s:List UInt8) (a:Int) (t:List UInt8) (b:Int):Bool :=
 if decide (s = []) != decide (t = []) then decide (t = []) else if s = t then decide (a < b) else Op.bytesLess s t
theorem bl_irrefl (s:List UInt8):Op.bytesLess s s = false:=by rw [Go.Proofs.bytesLess_eq]; exact decide_eq_false (List.lt_irrefl s)
theorem bl_trans {s t u:List UInt8} (h1:Op.bytesLess s t = true) (h2:Op.bytesLess t u = true):Op.bytesLess s u = true:=by
 rw [Go.Proofs.bytesLess_eq,decide_eq_true_eq] at *
 exact List.lt_trans h1 h2
theorem bl_total (s t:List UInt8):Op.bytesLess s t = true ∨ s = t ∨ Op.bytesLess t s = true:=by
 rw [Go.Proofs.bytesLess_eq,Go.Proofs.bytesLess_eq,decide_eq_true_eq,decide_eq_true_eq]
 by_cases h1:s < t
 ·exact .inl h1
 ·by_cases h2:t < s
  ·exact .inr (.inr h2)
  ·exact .inr (.inl (List.le_antisymm (List.not_lt.1 h2) (List.not_lt.1 h1)))
theorem aheadK_irrefl (s:List UInt8) (a:Int):aheadK s a s a = false:=by
 unfold aheadK
 simp
theorem aheadK_iff {s t:List UInt8} {a b:Int}:aheadK s a t b = true <-> (s ≠ [] ∧ t = []) ∨ ((s = [] <-> t = []) ∧ (s = t ∧ a < b ∨ s ≠ t ∧ Op.bytesLess s t = true)):=by
 unfold aheadK
 by_cases hs:s = [] <;> by_cases ht:t = []
 ·subst hs; subst ht; simp
 ·subst hs
  have:¬ ([]:List UInt8) = t:=fun e => ht e.symm
  simp [ht]
 ·subst ht; simp [hs]
 ·simp only [hs,ht,decide_false,bne_self_eq_false,Bool.false_eq_true,if_false,and_false,false_or,true_and,ne_eq]
  split
  ·rename_i e; simp [e]
  ·rename_i e; simp [e]
theorem aheadK_trans {s t u:List UInt8} {a b c:Int} (h1:aheadK s a t b = true) (h2:aheadK t b u c = true):aheadK s a u c = true:=by
 rw [aheadK_iff] at *
 rcases h1 with ⟨p,q⟩ | ⟨e,h1⟩
 ·subst q
  rcases h2 with ⟨p2,_⟩ | ⟨e2,_⟩
  ·exact absurd rfl p2
  ·exact .inl ⟨p,e2.1 rfl⟩
 ·rcases h2 with ⟨p2,q2⟩ | ⟨e2,h2⟩
  ·exact .inl ⟨fun h => p2 (e.1 h),q2⟩
  ·refine .inr ⟨e.trans e2,?_⟩
   rcases h1 with ⟨rfl,h1⟩ | ⟨n1,h1⟩
   ·rcases h2 with ⟨rfl,h2⟩ | ⟨n2,h2⟩
    ·exact .inl ⟨rfl,by omega⟩
    ·exact .inr ⟨n2,h2⟩
   ·rcases h2 with ⟨rfl,h2⟩ | ⟨n2,h2⟩
    ·exact .inr ⟨n1,h1⟩
    ·have h3:=bl_trans h1 h2
     refine .inr ⟨fun e => ?_,h3⟩
     rw [e,bl_irrefl] at h3; cases h3
theorem aheadK_total {s t:List UInt8} {a b:Int} (hne:a ≠ b):aheadK s a t b = true ∨ aheadK t b s a = true:=by
 rw [aheadK_iff,aheadK_iff]
 by_cases hs:s = [] <;> by_cases ht:t = []
 ·subst hs; subst ht
  simp; omega
 ·exact .inr (.inl ⟨ht,hs⟩)
 ·exact .inl (.inl ⟨hs,ht⟩)
 ·have e1:(s = [] <-> t = []):=by simp [hs,ht]
  rcases bl_total s t with h | h | h
  ·refine .inl (.inr ⟨e1,.inr ⟨fun e => ?_,h⟩⟩)
   rw [e,bl_irrefl] at h; cases h
  ·subst h
   rcases Int.lt_or_gt_of_ne hne with h | h
   ·exact .inl (.inr ⟨e1,.inl ⟨rfl,h⟩⟩)
   ·exact .inr (.inr ⟨e1,.inl ⟨rfl,h⟩⟩)
  ·refine .inr (.inr ⟨e1.symm,.inr ⟨fun e => ?_,h⟩⟩)
   rw [e,bl_irrefl] at h; cases h
def aheadB (c:List Fact) (lang a b:Int):Bool:=aheadK (nameL c a lang).data.toList a (nameL c b lang).data.toList b
theorem aheadB_irrefl (c:List Fact) (lang a:Int):aheadB c lang a a = false:=aheadK_irrefl _ _
theorem aheadB_trans {c:List Fact} {lang a b d:Int} (h1:aheadB c lang a b = true) (h2:aheadB c lang b d = true):aheadB c lang a d = true:=aheadK_trans h1 h2
theorem aheadB_total {c:List Fact} {lang a b:Int} (h:a ≠ b):aheadB c lang a b = true ∨ aheadB c lang b a = true:=aheadK_total h
theorem aheadB_asymm {c:List Fact} {lang a b:Int} (h1:aheadB c lang a b = true) (h2:aheadB c lang b a = true):False:=by
 have:=aheadB_trans h1 h2
 rw [aheadB_irrefl] at this; cases this
def insB (lt:Int -> Int -> Bool) (a:Int):List Int -> List Int
 | [] => [a]
 | b :: r => if lt a b = true then a :: b :: r else b :: insB lt a r
def orderL (c:List Fact) (lang:Int):List Int:=(statesL c).foldr (insB (aheadB c lang)) []
theorem insB_perm (lt:Int -> Int -> Bool) (a:Int):∀ (l:List Int),(insB lt a l).Perm (a :: l)
 | [] => List.Perm.refl _
 | b :: r => by
  unfold insB
  split
  ·exact List.Perm.refl _
  ·exact (List.Perm.cons b (insB_perm lt a r)).trans (List.Perm.swap a b r)
theorem orderL_perm (c:List Fact) (lang:Int):(orderL c lang).Perm (statesL c):=by
 unfold orderL
 induction statesL c with
 | nil => exact List.Perm.refl _
 | cons a r ih => exact (insB_perm _ _ _).trans (List.Perm.cons a ih)
theorem insB_sorted {c:List Fact} {lang a:Int}:∀ {l:List Int},a ∉ l -> l.Pairwise (fun x y => aheadB c lang x y = true) -> (insB (aheadB c lang) a l).Pairwise fun x y => aheadB c lang x y = true
 | [],_,_ => by simp [insB]
 | b :: r,ha,h => by
  obtain ⟨h1,h2⟩:=List.pairwise_cons.1 h
  unfold insB
  split
  ·rename_i hl
   refine List.pairwise_cons.2 ⟨fun x hx => ?_,h⟩
   rcases List.mem_cons.1 hx with rfl | hx
   ·exact hl
   ·exact aheadB_trans hl (h1 x hx)
  ·rename_i hl
   have hne:a ≠ b:=fun e => ha (by simp [e])
   have hba:aheadB c lang b a = true:=(aheadB_total hne).resolve_left hl
   refine List.pairwise_cons.2 ⟨fun x hx => ?_,insB_sorted (fun h => ha (by simp [h])) h2⟩
   rcases List.mem_cons.1 ((insB_perm _ _ _).mem_iff.1 hx) with rfl | hx
   ·exact hba
   ·exact h1 x hx
theorem statesL_nodup (c:List Fact):(statesL c).Nodup:=(sortD_asc _).imp fun h e => by subst e; exact Int.lt_irrefl _ h
theorem orderL_sorted (c:List Fact) (lang:Int):(orderL c lang).Pairwise fun x y => aheadB c lang x y = true:=by
 have hn:=statesL_nodup c
 unfold orderL
 revert hn
 generalize statesL c = L
 intro hn
 induction L with
 | nil => exact List.Pairwise.nil
 | cons a r ih =>
  obtain ⟨h1,h2⟩:=List.nodup_cons.1 hn
  refine insB_sorted (fun h => h1 ?_) (ih h2)
  have:∀ (l:List Int),(l.foldr (insB (aheadB c lang)) []).Perm l:=by
   intro l
   induction l with
   | nil => exact List.Perm.refl _
   | cons a r ih => exact (insB_perm _ _ _).trans (List.Perm.cons a ih)
  exact (this r).mem_iff.1 h
theorem order_eq {c:List Fact} {lang:Int} {l:List Int} (hp:l.Perm (statesL c)) (hs:l.Pairwise fun x y => aheadB c lang y x = false):l = orderL c lang:=by
 refine List.Perm.eq_of_pairwise (le:=fun x y => aheadB c lang y x = false) (fun a b _ _ h1 h2 => ?_) hs ((orderL_sorted c lang).imp fun {a b} h => ?_) (hp.trans (orderL_perm c lang).symm)
 ·by_cases h:a = b
  ·exact h
  ·rcases aheadB_total (c:=c) (lang:=lang) h with h | h
   ·rw [h2] at h; cases h
   ·rw [h1] at h; cases h
 ·cases hh:aheadB c lang b a with
  | false => rfl
  | true => exact (aheadB_asymm h hh).elim
def alphaL (c:List Fact) (lang lot:Int):List Int :=
 let o:=orderL c lang
 (List.range o.length).map fun i => o.getD (((lot.emod o.length).toNat + i) % o.length) 0
def letterL (c:List Fact) (lang lot s:Int):Int × Bool:=match (alphaL c lang lot).findIdx? (fun x => decide (x = s)) with
 | some i => ((i:Nat),true)
 | none => (200,false)
end Go.Proofs.YtigapannpbaihaaGreat
namespace Go.Proofs.YtigapannpbaihaaGreat
open Go.Eng Go.RowKit
theorem ltStr (t:Nat) (a b:ByteArray) (w:World):(binOp .lss t (.string a) (.string b)).run C.P w = .ok (.bool (Op.bytesLess a.data.toList b.data.toList)) w:=by
 show (Op.stringOp .lss a b).run C.P w = _
 simp [Op.stringOp,ByteArray.toList_eq]
theorem gtStr (t:Nat) (a b:ByteArray) (w:World):(binOp .gtr t (.string a) (.string b)).run C.P w = .ok (.bool (!(Op.bytesLess a.data.toList b.data.toList || decide (a = b)))) w:=by
 show (pure (Value.bool !(Op.bytesLess a.toList b.toList || a.toList == b.toList)):Sem Value).run C.P w = _
 rw [ba_beq,ByteArray.toList_eq,ByteArray.toList_eq,Sem.run_pure]
def cmpS (a b:ByteArray):Int:=if Op.bytesLess a.data.toList b.data.toList = true then -1 else if a = b then 0 else 1
def cmpI (a b:Int):Int:=if a < b then -1 else if a = b then 0 else 1
theorem isNaNS_spec (a:ByteArray) (w:World):CallsV C.P 238 #[.string a] w fun v w' => v = .bool false ∧ w' = w:=by
 refine callsV_of C_ok (args:=[_]) (plans:=[]) Tryz.func238 rfl Tryz.ntmps238 (by kernel_rfl) (Nat.le_of_ble_eq_true rfl) ?_
 refine ⟨_,neqStr _ _ a a,?_⟩
 exact ⟨by simp,rfl⟩
theorem isNaNI_spec (a:Int) (w:World):CallsV C.P 168 #[.int .i64 a] w fun v w' => v = .bool false ∧ w' = w:=by
 refine callsV_of C_ok (args:=[_]) (plans:=[]) Tryz.func168 rfl Tryz.ntmps168 (by kernel_rfl) (Nat.le_of_ble_eq_true rfl) ?_
 exact ⟨by simp,rfl⟩
theorem CompareS_spec (a b:ByteArray) (w:World):CallsV C.P 206 #[.string a,.string b] w fun v w' => v = .int .i64 (cmpS a b) ∧ w' = w:=by
 refine callsV_of C_ok (args:=[_,_]) (plans:=[]) Tryz.func206 rfl Tryz.ntmps206 (by kernel_rfl) (Nat.le_of_ble_eq_true rfl) ?_
 refine (isNaNS_spec a w).mono ?_
 rintro v w1 ⟨rfl,rfl⟩
 refine (isNaNS_spec b w1).mono ?_
 rintro v w2 ⟨rfl,rfl⟩
 unfold cmpS
 refine ⟨_,ltStr _ a b,⟨by decide,by decide⟩,?_⟩
 refine brE_mk (fun h1 => ?_) (fun h1 => ?_)
 ·rw [if_pos h1]; exact ⟨rfl,rfl⟩
 rw [if_neg (by rw [h1]; decide)]
 refine ⟨_,gtStr _ a b,⟨by decide,by decide⟩,?_⟩
 refine brE_mk (fun h2 => ?_) (fun h2 => ?_)
 ·have h2:¬ a = b:=by rw [h1] at h2; simpa using h2
  rw [if_neg h2]; exact ⟨rfl,rfl⟩
 ·have h2:a = b:=by rw [h1] at h2; simpa using h2
  rw [if_pos h2]; exact ⟨rfl,rfl⟩
theorem CompareI_spec (a b:Int) (w:World):CallsV C.P 122 #[.int .i64 a,.int .i64 b] w fun v w' => v = .int .i64 (cmpI a b) ∧ w' = w:=by
 refine callsV_of C_ok (args:=[_,_]) (plans:=[]) Tryz.func122 rfl Tryz.ntmps122 (by kernel_rfl) (Nat.le_of_ble_eq_true rfl) ?_
 refine (isNaNI_spec a w).mono ?_
 rintro v w1 ⟨rfl,rfl⟩
 refine (isNaNI_spec b w1).mono ?_
 rintro v w2 ⟨rfl,rfl⟩
 unfold cmpI
 refine brE_dec (fun h1 => ?_) (fun h1 => ?_)
 ·have h1:a < b:=h1
  rw [if_pos h1]; exact ⟨rfl,rfl⟩
 have h1:¬ a < b:=h1
 rw [if_neg h1]
 refine brE_dec (fun h2 => ?_) (fun h2 => ?_)
 ·have h2:a > b:=h2
  rw [if_neg (by omega)]; exact ⟨rfl,rfl⟩
 ·have h2:¬ a > b:=h2
  rw [if_pos (by omega)]; exact ⟨rfl,rfl⟩
def orI:List Int -> Int
 | [] => 0
 | x :: r => if x ≠ 0 then x else orI r
theorem orI_drop {xs:List Int} {i:Nat} (h:i < xs.length):orI (xs.drop i) = if xs[i] ≠ 0 then xs[i] else orI (xs.drop (i + 1)):=by
 rw [List.drop_eq_getElem_cons h]; rfl
theorem Or_spec {w:World} {A:Option Addr} {xs:List Int} {c:Nat} (hr:Reads w A (ints xs)) (hl:xs.length <= 2 ^ 20) :
  CallsV C.P 121 #[.slice A xs.length c] w fun v w' => v = .int .i64 (orI xs) ∧ w' = w:=by
 refine callsV_of C_ok (args:=[_]) (plans:=[]) Tryz.func121 rfl Tryz.ntmps121 (by kernel_rfl) (Nat.le_of_ble_eq_true rfl) ?_
 refine loopE C_ok (fun (i:Nat) => [(3,.int .i64 0),(6,.slice A xs.length c),(7,.int .i64 xs.length),(8,.int .i64 i)])
  (fun i w' => w' = w ∧ i <= xs.length ∧ orI xs = orI (xs.drop i)) (fun i => xs.length - i) 0 ⟨rfl,rfl,rfl,rfl,trivial⟩ ⟨rfl,Nat.zero_le _,rfl⟩ ?_
 rintro i w1 ⟨rfl,hi,hor⟩
 refine brE_dec (fun hlt => ?_) (fun hge => ?_)
 ·have hlt:i < xs.length:=by have:(i:Int) < (xs.length:Nat):=hlt; omega
  obtain ⟨b,o,hA,hc⟩:=Reads.int hr hlt
  have hd:=orI_drop hlt
  refine ⟨i,b,o,rfl,hlt,hA,?_⟩
  refine ⟨_,by simpa using hc,?_⟩
  refine brE_ndec (fun h2 => ?_) (fun h2 => ?_)
  ·have h2:¬ xs[i] = 0:=h2
   rw [if_pos h2] at hd
   exact ⟨by rw [hor,hd],rfl⟩
  ·have h2:xs[i] = 0:=h2
   rw [if_neg (by simpa using h2)] at hd
   refine ⟨((i + 1:Nat):Int),fit ⟨by omega,by omega⟩,?_⟩
   exact ⟨i + 1,⟨rfl,rfl,rfl,rfl,trivial⟩,⟨rfl,hlt,by rw [hor,hd]⟩,by omega⟩
 ·have:i = xs.length:=by have:¬ (i:Int) < (xs.length:Nat):=hge; omega
  subst this
  rw [List.drop_length] at hor
  exact ⟨by rw [hor]; rfl,rfl⟩
structure NmEntry where
 state:Int
 has:Bool
 name:ByteArray
def NmEntry.cells (e:NmEntry):List Value:=[.int .i64 e.state,.bool e.has,.string e.name]
def entries (l:List NmEntry):List Value:=l.flatMap NmEntry.cells
theorem NmEntry.len (x:NmEntry):x.cells.length = 3:=rfl
instance:Inhabited NmEntry:=⟨⟨0,false,⟨#[]⟩⟩⟩
def cmpE (a b:NmEntry):Int:=if a.has ≠ b.has then (if a.has = true then -1 else 1) else orI [cmpS a.name b.name,cmpI a.state b.state]
theorem Alphabet1_spec (a b:NmEntry) (w:World):CallsV C.P 205 #[.agg a.cells.toArray,.agg b.cells.toArray] w fun v w' => v = .int .i64 (cmpE a b) ∧ Ext w w':=by
 refine callsV_of C_ok (args:=[_,_]) (plans:=plans205) Tryz.func205 rfl Tryz.ntmps205 (by kernel_rfl) (Nat.le_of_ble_eq_true rfl) ?_
 intro g2 w1 h1
 have M1:=(Mem.start w).alloc h1
 intro g3 w2 h2
 have M2:=M1.alloc h2
 unfold cmpE
 refine ⟨_,M2.cell 1 rfl rfl,?_⟩
 refine ⟨_,M2.cell 0 rfl rfl,?_⟩
 refine ⟨_,neqBool _ _ a.has b.has,?_⟩
 refine brE_mk (fun h1 => ?_) (fun h1 => ?_)
 ·have h1:a.has ≠ b.has:=by simpa using h1
  rw [if_pos h1]
  refine ⟨_,M2.cell 1 rfl rfl,?_⟩
  refine brE_mk (fun h2 => ?_) (fun h2 => ?_)
  ·have h2:a.has = true:=h2
   rw [if_pos h2]; exact ⟨rfl,M2.ext⟩
  ·have h2:a.has = false:=h2
   rw [if_neg (by rw [h2]; decide)]; exact ⟨rfl,M2.ext⟩
 have h1:a.has = b.has:=by simpa using h1
 rw [if_neg (fun h => h h1)]
 refine ⟨_,M2.cell 1 rfl rfl,?_⟩
 refine ⟨_,M2.cell 0 rfl rfl,?_⟩
 refine ⟨_,M2.cell 1 rfl rfl,?_⟩
 refine ⟨_,M2.cell 0 rfl rfl,?_⟩
 refine (CompareS_spec a.name b.name w2).mono ?_
 rintro v w3 ⟨rfl,rfl⟩
 refine ⟨Ext.refl _,?_⟩
 refine (CompareI_spec a.state b.state w3).mono ?_
 rintro v w4 ⟨rfl,rfl⟩
 intro g5 w5 h5
 refine (Or_spec (xs:=[cmpS a.name b.name,cmpI a.state b.state]) (.inr ⟨g5,0,rfl,Rd.of_block h5.here⟩) (by show 2 <= 2 ^ 20; decide)).mono ?_
 rintro v w6 ⟨rfl,rfl⟩
 exact ⟨rfl,M2.ext.trans h5.ext⟩
theorem cmpS_cases (a b:ByteArray):(cmpS a b = -1 ∧ Op.bytesLess a.data.toList b.data.toList = true) ∨ (cmpS a b = 0 ∧ a = b) ∨ (cmpS a b = 1 ∧ a ≠ b ∧ Op.bytesLess a.data.toList b.data.toList = false):=by
 unfold cmpS
 split
 ·rename_i h; exact .inl ⟨rfl,h⟩
 ·rename_i h
  split
  ·rename_i e; exact .inr (.inl ⟨rfl,e⟩)
  ·rename_i e; exact .inr (.inr ⟨rfl,e,by simpa using h⟩)
theorem cmpI_lt (a b:Int):cmpI a b < 0 <-> a < b:=by
 unfold cmpI
 split
 ·simp; assumption
 ·split <;> simp <;> omega
theorem or_lt {x y:Int}:orI [x,y] < 0 <-> x < 0 ∨ x = 0 ∧ y < 0:=by
 unfold orI
 by_cases h:x = 0
 ·subst h
  simp only [ne_eq,not_true,if_false,Int.lt_irrefl,true_and,false_or]
  unfold orI
  by_cases h2:y = 0
  ·subst h2; simp [orI]
  ·rw [if_pos h2]
 ·rw [if_pos h]; omega
theorem cmpE_lt (a b:NmEntry):cmpE a b < 0 <-> (a.has = true ∧ b.has = false) ∨ (a.has = b.has ∧ (Op.bytesLess a.name.data.toList b.name.data.toList = true ∨ a.name = b.name ∧ a.state < b.state)):=by
 unfold cmpE
 by_cases h:a.has = b.has
 ·rw [if_neg (fun e => e h),or_lt,cmpI_lt]
  have hn:¬ (a.has = true ∧ b.has = false):=fun e => by rw [e.1,e.2] at h; cases h
  simp only [hn,false_or,h,true_and]
  rcases cmpS_cases a.name b.name with ⟨h1,h2⟩ | ⟨h1,h2⟩ | ⟨h1,h2,h3⟩
  ·rw [h1,h2]; simp
  ·rw [h1,h2,bl_irrefl]; simp
  ·rw [h1,h3]; simp [h2]
 ·rw [if_pos h]
  cases ha:a.has <;> cases hb:b.has <;> simp [ha,hb] at h ⊢
theorem name_eq {a b:ByteArray}:a.data.toList = b.data.toList <-> a = b:=⟨fun h => ByteArray.ext (Array.toList_inj.1 h),fun h => by rw [h]⟩
def ltE (a b:NmEntry):Bool:=decide (cmpE a b < 0)
theorem ltE_iff (a b:NmEntry):ltE a b = true <-> (a.has = true ∧ b.has = false) ∨ (a.has = b.has ∧ (Op.bytesLess a.name.data.toList b.name.data.toList = true ∨ a.name = b.name ∧ a.state < b.state)):=by
 unfold ltE
 rw [decide_eq_true_eq,cmpE_lt]
theorem ltE_total (a b:NmEntry):ltE a b = true ∨ (a.has = b.has ∧ a.name = b.name ∧ a.state = b.state) ∨ ltE b a = true:=by
 rw [ltE_iff,ltE_iff]
 cases ha:a.has <;> cases hb:b.has <;> simp
 all_goals
  rcases bl_total a.name.data.toList b.name.data.toList with h | h | h
  ·exact .inl (.inl h)
  ·have e:=name_eq.1 h
   rw [e,bl_irrefl]
   simp; omega
  ·exact .inr (.inr (.inl h))
theorem ltE_trans {a b c:NmEntry} (h1:ltE a b = true) (h2:ltE b c = true):ltE a c = true:=by
 rw [ltE_iff] at *
 rcases h1 with ⟨p,q⟩ | ⟨e1,h1⟩
 ·rcases h2 with ⟨p2,q2⟩ | ⟨e2,h2⟩
  ·rw [q] at p2; cases p2
  ·exact .inl ⟨p,by rw [<-e2]; exact q⟩
 ·rcases h2 with ⟨p2,q2⟩ | ⟨e2,h2⟩
  ·exact .inl ⟨by rw [e1]; exact p2,q2⟩
  ·refine .inr ⟨e1.trans e2,?_⟩
   rcases h1 with h1 | ⟨n1,h1⟩
   ·rcases h2 with h2 | ⟨n2,h2⟩
    ·exact .inl (bl_trans h1 h2)
    ·exact .inl (by rw [<-n2]; exact h1)
   ·rcases h2 with h2 | ⟨n2,h2⟩
    ·exact .inl (by rw [n1]; exact h2)
    ·exact .inr ⟨n1.trans n2,by omega⟩
theorem ltE_irrefl (a:NmEntry):ltE a a = false:=by
 cases h:ltE a a with
 | false => rfl
 | true =>
  rw [ltE_iff] at h
  rcases h with ⟨p,q⟩ | ⟨_,h | ⟨_,h⟩⟩
  ·rw [p] at q; cases q
  ·rw [bl_irrefl] at h; cases h
  ·omega
def NmEntry.Ok (e:NmEntry):Prop:=e.has = !decide (e.name = ⟨#[]⟩)
theorem nil_name {a:ByteArray}:a.data.toList = [] <-> a = ⟨#[]⟩:=name_eq (b:=⟨#[]⟩)
theorem ltE_eq {a b:NmEntry} (ha:a.Ok) (hb:b.Ok):ltE a b = aheadK a.name.data.toList a.state b.name.data.toList b.state:=by
 rw [Bool.eq_iff_iff,ltE_iff,aheadK_iff]
 unfold NmEntry.Ok at ha hb
 rw [ha,hb,<-name_eq (a:=a.name) (b:=b.name)]
 by_cases hs:a.name.data.toList = [] <;> by_cases ht:b.name.data.toList = []
 ·rw [decide_eq_true (nil_name.1 hs),decide_eq_true (nil_name.1 ht),hs,ht,bl_irrefl]
  simp
 ·rw [decide_eq_true (nil_name.1 hs),decide_eq_false (fun e => ht (nil_name.2 e)),hs]
  simp [ht]
 ·rw [decide_eq_false (fun e => hs (nil_name.2 e)),decide_eq_true (nil_name.1 ht),ht]
  simp [hs]
 ·rw [decide_eq_false (fun e => hs (nil_name.2 e)),decide_eq_false (fun e => ht (nil_name.2 e))]
  simp only [hs,ht,ne_eq,not_false_eq_true,not_true,and_false,false_or,iff_self,true_and,Bool.not_false,Bool.true_eq_false]
  constructor
  ·rintro (h | h)
   ·exact .inr ⟨fun e => (by rw [e,bl_irrefl] at h; cases h),h⟩
   ·exact .inl h
  ·rintro (h | ⟨_,h⟩)
   ·exact .inr h
   ·exact .inl h
end Go.Proofs.YtigapannpbaihaaGreat
namespace Go.Proofs.YtigapannpbaihaaGreat
open Go.Eng Go.RowKit Go.Sort
def sortE_ren:Go.Shelf.Ren:=⟨fun | 6 => 204 | 15 => 132 | 14 => 237 | 28 => 190 | 29 => 191 | 20 => 273 | 21 => 274 | 22 => 275 | 23 => 276 | 24 => 277 | 25 => 278 | 26 => 279 | 27 => 280 | 46 => 296 | 47 => 225 | 48 => 226 | 49 => 297 | 50 => 298 | 57 => 310 | n => n,fun | 22 => 323 | 24 => 327 | 25 => 330 | 3 => 3 | 39 => 263 | 0 => 0 | 53 => 313 | 55 => 315 | 4 => 4 | 46 => 307 | 45 => 306 | 50 => 239 | 5 => 5 | 9 => 9 | 66 => 350 | 70 => 342 | 76 => 364 | 77 => 87 | n => n,fun | n => n⟩
theorem sortE:Go.Proofs.SlLaysF0.n6 Tryz.prog sortE_ren:={
 mixed:=by kernel_rfl,
 f6:=⟨Tryz.f204.name,by decide,Tryz.func204.trans (congrArg some (by kernel_rfl))⟩,
 f14:=⟨Tryz.f237.name,by decide,Tryz.func237.trans (congrArg some (by kernel_rfl))⟩,
 f15:=Tryz.func132.trans (congrArg some (by kernel_rfl)),
 f20:=⟨Tryz.f273.name,by decide,Tryz.func273.trans (congrArg some (by kernel_rfl))⟩,
 f21:=⟨Tryz.f274.name,by decide,Tryz.func274.trans (congrArg some (by kernel_rfl))⟩,
 f22:=⟨Tryz.f275.name,by decide,Tryz.func275.trans (congrArg some (by kernel_rfl))⟩,
 f23:=⟨Tryz.f276.name,by decide,Tryz.func276.trans (congrArg some (by kernel_rfl))⟩,
 f24:=⟨Tryz.f277.name,by decide,Tryz.func277.trans (congrArg some (by kernel_rfl))⟩,
 f25:=⟨Tryz.f278.name,by decide,Tryz.func278.trans (congrArg some (by kernel_rfl))⟩,
 f26:=⟨Tryz.f279.name,by decide,Tryz.func279.trans (congrArg some (by kernel_rfl))⟩,
 f27:=⟨Tryz.f280.name,by decide,Tryz.func280.trans (congrArg some (by kernel_rfl))⟩,
 f28:=Tryz.func190.trans (congrArg some (by kernel_rfl)),
 f29:=Tryz.func191.trans (congrArg some (by kernel_rfl)),
 f46:=⟨Tryz.f296.name,by decide,Tryz.func296.trans (congrArg some (by kernel_rfl))⟩,
 f47:=Tryz.func225.trans (congrArg some (by kernel_rfl)),
 f48:=Tryz.func226.trans (congrArg some (by kernel_rfl)),
 f49:=⟨Tryz.f297.name,by decide,Tryz.func297.trans (congrArg some (by kernel_rfl))⟩,
 f50:=⟨Tryz.f298.name,by decide,Tryz.func298.trans (congrArg some (by kernel_rfl))⟩,
 f57:=⟨Tryz.f310.name,by decide,Tryz.func310.trans (congrArg some (by kernel_rfl))⟩,
 t0:=Tryz.underlying0,
 a0:=Tryz.isAgg0,
 z0:=Tryz.sizeOf0,
 v0:=Tryz.zeroValue0,
 t3:=Tryz.underlying3,
 a3:=Tryz.isAgg3,
 z3:=Tryz.sizeOf3,
 v3:=Tryz.zeroValue3,
 t4:=Tryz.underlying4,
 a4:=Tryz.isAgg4,
 z4:=Tryz.sizeOf4,
 v4:=Tryz.zeroValue4,
 t5:=Tryz.underlying5,
 a5:=Tryz.isAgg5,
 z5:=Tryz.sizeOf5,
 v5:=Tryz.zeroValue5,
 t9:=Tryz.underlying9,
 a9:=Tryz.isAgg9,
 z9:=Tryz.sizeOf9,
 v9:=Tryz.zeroValue9,
 t22:=Tryz.underlying323,
 a22:=Tryz.isAgg323,
 z22:=Tryz.sizeOf323,
 v22:=Tryz.zeroValue323,
 t25:=Tryz.underlying330,
 a25:=Tryz.isAgg330,
 z25:=Tryz.sizeOf330,
 v25:=Tryz.zeroValue330,
 t39:=Tryz.underlying263,
 a39:=Tryz.isAgg263,
 z39:=Tryz.sizeOf263,
 v39:=Tryz.zeroValue263,
 t45:=Tryz.underlying306,
 a45:=Tryz.isAgg306,
 z45:=Tryz.sizeOf306,
 v45:=Tryz.zeroValue306,
 t46:=Tryz.underlying307,
 a46:=Tryz.isAgg307,
 z46:=Tryz.sizeOf307,
 v46:=Tryz.zeroValue307,
 t50:=Tryz.underlying239,
 a50:=Tryz.isAgg239,
 z50:=Tryz.sizeOf239,
 v50:=Tryz.zeroValue239,
 t53:=Tryz.underlying313,
 a53:=Tryz.isAgg313,
 z53:=Tryz.sizeOf313,
 v53:=Tryz.zeroValue313,
 t55:=Tryz.underlying315,
 a55:=Tryz.isAgg315,
 z55:=Tryz.sizeOf315,
 v55:=Tryz.zeroValue315,
 t66:=Tryz.underlying350,
 a66:=Tryz.isAgg350,
 z66:=Tryz.sizeOf350,
 v66:=Tryz.zeroValue350,
 t70:=Tryz.underlying342,
 a70:=Tryz.isAgg342,
 z70:=Tryz.sizeOf342,
 v70:=Tryz.zeroValue342,
 t76:=Tryz.underlying364,
 a76:=Tryz.isAgg364,
 z76:=Tryz.sizeOf364,
 v76:=Tryz.zeroValue364,
 t77:=Tryz.underlying87,
 a77:=Tryz.isAgg87,
 z77:=Tryz.sizeOf87,
 v77:=Tryz.zeroValue87 }
theorem swo_entry:SWO (ltOf cmpE) where
 irrefl x:=ltE_irrefl x
 trans x y z h1 h2:=ltE_trans h1 h2
 ntrans x y z h1 h2:=by
  have h1:ltE x y = false:=h1
  have h2:ltE y z = false:=h2
  show ltE x z = false
  cases h:ltE x z with
  | false => rfl
  | true =>
   rcases ltE_total x y with a | ⟨e1,e2,e3⟩ | a
   ·rw [a] at h1; cases h1
   ·have e:ltE x z = ltE y z:=by
     rw [Bool.eq_iff_iff,ltE_iff,ltE_iff,e1,e2,e3]
    rw [e,h2] at h; cases h
   ·have:=ltE_trans a h
    rw [h2] at this; cases this
theorem SortE_spec {w:World} {base:Nat} {v:Value} {l:List NmEntry} (h:w.ownsRow base 327 3 v l.length (entries l)) (hlen:l.length < 4611686018427387904) :
  CallsV C.P 204 #[v,.func (.func 205) #[] #[]] w fun r w' => r = .tuple #[] ∧ ∃ l':List NmEntry,l'.Perm l ∧ (l'.Pairwise fun a b => ltE b a = false) ∧ w'.ownsRow base 327 3 v l'.length (entries l') ∧ w.grownBy w' v.ownBlock ∧ Only 327 w w':=by
 have eg:∀ args w,(callFunc 205 args).run Tryz.prog w = .ok (.enter 205 args) w:=enters_of Tryz.func205 (by kernel_rfl) rfl
 refine (sortV (P:=C.P) (f:=204) (g:=205) (cb:=#[]) (enc:=NmEntry.cells) (k:=3) (fun _ => rfl) (lt:=ltE) (fun W blk cap d hd hH hb => ?_) (fun A cap W => ?_) h hlen).mono ?_
 ·exact AnyQ.slices_SortFunc sortE 3 Tryz.isAgg327 Tryz.sizeOf327 NmEntry.cells (fun _ => rfl) (fun x v hv => by simp [NmEntry.cells] at hv; rcases hv with rfl | rfl | rfl <;> rfl) cmpE swo_entry 205 #[] blk 0 cap d W eg (cmpLays_of fun x y W => Alphabet1_spec x y W) hH hb hd
 ·exact AnyF.slices_SortFunc_none sortE A cap _ W
 ·exact fun _ _ h => h
end Go.Proofs.YtigapannpbaihaaGreat
