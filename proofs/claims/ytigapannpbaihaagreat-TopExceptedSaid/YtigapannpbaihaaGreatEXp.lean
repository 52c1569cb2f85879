/- a part of the proof: steps, walks and plain laws that the law below stands on; no condition. -/
import Derived.Test.YtigapannpbaihaaGreatEXa
import Derived.Test.YtigapannpbaihaaGreatEXb
import Derived.Test.YtigapannpbaihaaGreatEXc
import Derived.Test.YtigapannpbaihaaGreatEXd
import Derived.Test.YtigapannpbaihaaGreatEXe
import Derived.Test.YtigapannpbaihaaGreatEXf
import Derived.Test.YtigapannpbaihaaGreatEXg
import Derived.Test.YtigapannpbaihaaGreatEXh
import Derived.Test.YtigapannpbaihaaGreatEXi
import Derived.Test.YtigapannpbaihaaGreatEXj
import Derived.Test.YtigapannpbaihaaGreatEXk
import Derived.Test.YtigapannpbaihaaGreatEXl
import Derived.Test.YtigapannpbaihaaGreatEXm
import Derived.Test.YtigapannpbaihaaGreatEXn
import Derived.Test.YtigapannpbaihaaGreatEXo
import Derived.Shelf.Strings.OnBuilder
import Derived.Shelf.Strconv.AtoiAll
import Derived.Shelf.Strconv.Itoa3
import Derived.Shelf.Strings.Search2
import Derived.KernelRfl
import Derived.Test.YtigapannpbaihaaGreatProg
import Derived.WideLaws
import Derived.Recover
set_option linter.unusedVariables false
set_option linter.unusedSimpArgs false
set_option linter.unnecessarySimpa false
set_option linter.unusedSectionVars false
namespace Go.Proofs.YtigapannpbaihaaGreat
open Go.Eng Go.RowKit
theorem in64_0:In64 0:=⟨by decide,by decide⟩
theorem giftZ_nums:giftZ.Nums:=⟨in64_0,in64_0,in64_0,in64_0,⟨by decide,by decide⟩,in64_0,in64_0,⟨by decide,by decide⟩,in64_0,in64_0⟩
theorem reads_but {w w1:World} {A:Option Addr} {cs:List Value} (h:Reads w A cs) {gx:Nat} (hg:w.heap.size <= gx) (e:Ext w w1):cs = [] ∨ ∃ b o,A = some ⟨b,o,none⟩ ∧ b ≠ gx ∧ Rd w1 b o cs:=by
 rcases h with h | ⟨b,o,hA,hr⟩
 ·exact .inl h
 ·cases cs with
  | nil => exact .inl rfl
  | cons v r =>
   have hlt:b < w.heap.size:=block_lt_of_cell (hr 0 v rfl)
   exact .inr ⟨b,o,hA,by omega,hr.ext e⟩
def LdBut (gx:Nat) (w:World) (l:LV) (es:List Entry) (w':World):Prop:=∃ l',l'.gl = l.gl ∧ LedgerIs w' l' es ∧ Keep (fun k => ¬ l.has k ∧ k ≠ gx) w w' ∧ ∀ k,l'.has k -> l.has k ∨ w.heap.size <= k
set_option maxRecDepth 100000 in
theorem next_spec {w:World} {l:LV} {es:List Entry} (h:LedgerIs w l es) (hl:es.length <= 2 ^ 16) {A:Option Addr} {f:List Fact} {c:Nat} (hf:HF w A f c) (hfl:f.length <= 2 ^ 20) {x:Entry} (hx:x.Nums)
  {g1 g2 gx n:Nat} {c1 c2:Array Value} (hn:n < 500) (hg1:C.can g1 = true) (hg2:C.can g2 = true) (hgx:¬ l.has gx) (hfx:fcells f = [] ∨ ∃ b o,A = some ⟨b,o,none⟩ ∧ b ≠ gx ∧ Rd w b o (fcells f))
  (have_:∀ w',Ext w w' -> CallsV C.P g1 (#[] ++ ([]:List Value).toArray ++ c1) w' fun v w'' => v = .int .i64 (n:Nat) ∧ Ext w' w'')
  (with_:∀ w',Ext w w' -> CallsV C.P g2 (#[] ++ [.int .i64 ((n + 1:Nat):Int)].toArray ++ c2) w' fun v w'' => v = x.val ∧ Keep (fun k => k ≠ gx) w' w'') :
  CallsV C.P 93 #[l.ptr,.slice A f.length c,.func (.func g1) #[] c1,.int .i64 500,.func (.func g2) #[] c2] w fun v w' => v = .tuple #[.int .i64 (if doF f es x = 0 then ((n + 1:Nat):Int) else 0),.int .i64 (doF f es x)] ∧ LdBut gx w l (addL (doF f es x) es x) w':=by
 refine callsV_of C_ok (args:=[_,_,_,_,_]) (plans:=[]) Tryz.func93 rfl Tryz.ntmps93 (by kernel_rfl) (Nat.le_of_ble_eq_true rfl) ?_
 intro g9 w1 h1
 have M1:Mem w w1 [(g9,.cells #[.func (.func g2) #[] c2] 218 (0,0))]:=(Mem.start w).alloc h1
 refine ⟨_,eqNilP _ _ _,?_⟩
 refine brE_true hg1 ?_
 refine (have_ w1 M1.ext).mono ?_
 rintro v w2 ⟨rfl,e2⟩
 have M2:=M1.grow e2
 refine ⟨((n + 1:Nat):Int),fit ⟨by omega,by omega⟩,?_⟩
 refine brE_true (decide_eq_true (by show ((n + 1:Nat):Int) <= 500; omega)) ?_
 refine ⟨_,M2.cell 0 rfl rfl,?_⟩
 refine brE_true hg2 ?_
 refine (with_ w2 M2.ext).mono ?_
 rintro v w3 ⟨rfl,k3⟩
 have h3:LedgerIs w3 l es:=(h.ext M2.ext).keep fun k hk => k3.block k (fun e => hgx (e ▸ hk)) (Nat.lt_of_lt_of_le (h.lt hk) M2.ext.size)
 have hf3:HF w3 A f c:=⟨hf.nums,by
  rcases hfx with hr | ⟨b,o,hA,hb,hr⟩
  ·exact .inl hr
  ·exact .inr ⟨b,o,hA,k3.rd (D:=fun k => k ≠ gx) hb (hr.ext M2.ext)⟩,hf.len,hf.cap⟩
 have k13:Keep (fun k => ¬ l.has k ∧ k ≠ gx) w w3:=keep_trans (keep_ext M2.ext) k3 fun q hq _ => hq.2
 refine (Do_spec h3 hl hx hf3 hfl).mono ?_
 rintro v w4 ⟨rfl,l4,hg4,hi4,hk4,hn4⟩
 have goal:LdBut gx w l (addL (doF f es x) es x) w4:=⟨l4,hg4,hi4,keep_trans k13 hk4 fun q hq _ => hq.1,fun k hk => (hn4 k hk).imp id fun h => Nat.le_trans k13.size h⟩
 refine brE_ndec (fun b => ?_) (fun b => ?_)
 ·have b:¬ doF f es x = 0:=b
  exact ⟨by rw [if_neg b],goal⟩
 ·have b:doF f es x = 0:=b
  exact ⟨by rw [if_pos b,b],goal⟩
theorem grantE_nums {es:List Entry} {x:Waiv} (hx:x.Nums) (hl:(waivL es).length <= 2 ^ 16):(grantE es x).Nums:=⟨(by show (0:Int) <= 3 ∧ (3:Int) <= 255; decide),hx.day,{ hx with id:=⟨by show -9223372036854775808 <= (((waivL es).length + 1:Nat):Int); omega,by show (((waivL es).length + 1:Nat):Int) <= 9223372036854775807; omega⟩ },giftZ_nums,in64_0,in64_0,in64_0⟩
theorem grants_len {w:World} {l:LV} {es:List Entry} (h:LedgerIs w l es) {g:Nat} (hg:w.heap[g]? = some (.cells #[l.ptr] 55 (0,0))) :
  CallsV C.P 94 (#[] ++ ([]:List Value).toArray ++ #[.pointer (some ⟨g,0,none⟩)]) w fun v w' => v = .int .i64 ((waivL es).length:Nat) ∧ Ext w w':=by
 obtain ⟨A,c,hv,_,_⟩:=reads_of_owns h.st.waivs
 refine callsV_of C_ok (args:=[_]) (plans:=[]) Tryz.func94 rfl Tryz.ntmps94 (by kernel_rfl) (Nat.le_of_ble_eq_true rfl) ?_
 refine ⟨l.ptr,cell_of_block hg rfl,?_⟩
 refine ⟨_,cell_of_block (i:=1) h.block rfl,?_⟩
 refine ⟨.slice A (waivL es).length c,cell_of_block (i:=2) h.st.block (by show some l.s.vW = _; rw [hv]),?_⟩
 exact ⟨rfl,Ext.refl _⟩
theorem grants_with {w:World} {x:Waiv} {g:Nat} (hg:w.heap[g]? = some (.cells x.cells.toArray 124 (0,0))) (i:Int) :
  CallsV C.P 95 (#[] ++ [.int .i64 i].toArray ++ #[.pointer (some ⟨g,0,none⟩)]) w fun v w' => v = (Entry.mk 3 x.day { x with id:=i } giftZ 0 0 0).val ∧ Keep (fun k => k ≠ g) w w':=by
 suffices hQ:∀ Q:Value -> World -> Prop,(∀ v w',v = (Entry.mk 3 x.day { x with id:=i } giftZ 0 0 0).val ∧ Keep (fun k => k ≠ g) w w' -> Q v w') -> CallsV C.P 95 (#[] ++ [.int .i64 i].toArray ++ #[.pointer (some ⟨g,0,none⟩)]) w Q from hQ _ fun _ _ h => h
 intro Q hQ
 refine callsV_of C_ok (args:=[_,_]) (plans:=[]) Tryz.func95 rfl Tryz.ntmps95 (by kernel_rfl) (Nat.le_of_ble_eq_true rfl) ?_
 intro g3 w1 h1
 have hg1:=h1.ext.heap hg
 have hne:g3 ≠ g:=fun e => by have:=lt_of_heap hg; rw [h1.new] at e; omega
 refine ⟨rfl,_,_,hg1,Nat.le_of_ble_eq_true rfl,rfl,?_⟩
 intro w2 h2
 have h2:Put w1 g (.cells ({ x with id:=i }:Waiv).cells.toArray 124 (0,0)) w2:=h2
 have hg3:w2.heap[g3]? = _:=(h2.there g3 hne).trans h1.here
 refine ⟨_,cell_of_block (i:=1) h2.here rfl,?_⟩
 refine ⟨({ x with id:=i }:Waiv).cells,rfl,Rd.of_block h2.here,?_⟩
 refine ⟨rfl,_,_,hg3,Nat.le_of_ble_eq_true rfl,rfl,?_⟩
 intro w3 h3
 have h3:Put w2 g3 (.cells (Entry.mk 3 x.day { x with id:=i } giftZ 0 0 0).cells.toArray 134 (0,0)) w3:=h3
 refine ⟨(Entry.mk 3 x.day { x with id:=i } giftZ 0 0 0).cells,rfl,Rd.of_block h3.here,?_⟩
 refine hQ _ _ ⟨rfl,?_⟩
 have k2:Keep (fun k => k ≠ g) w w2:=(keep_ext h1.ext).put h2 (fun e => e rfl)
 exact ⟨h3.os.trans k2.os,h3.tape.trans k2.tape,h3.output.trans k2.output,by rw [h3.size]; exact k2.size,fun k hk hlt => by rw [h3.there k (fun e => by rw [e,h1.new] at hlt; omega)]; exact k2.block k hk hlt⟩
set_option maxRecDepth 100000 in
theorem Grant_spec {w:World} {l:LV} {es:List Entry} (h:LedgerIs w l es) (hl:es.length <= 400) {A:Option Addr} {f:List Fact} {c:Nat} (hf:HF w A f c) (hfl:f.length <= 2 ^ 20) {x:Waiv} (hx:x.Nums) :
  CallsV C.P 39 #[l.ptr,.slice A f.length c,x.val] w fun v w' => v = .tuple #[.int .i64 (if doF f es (grantE es x) = 0 then (((waivL es).length + 1:Nat):Int) else 0),.int .i64 (doF f es (grantE es x))] ∧ LdGo w l (addL (doF f es (grantE es x)) es (grantE es x)) w':=by
 have hwl:=waivL_length es
 refine callsV_of C_ok (args:=[_,_,_]) (plans:=[]) Tryz.func39 rfl Tryz.ntmps39 (by kernel_rfl) (Nat.le_of_ble_eq_true rfl) ?_
 intro g3 w1 h1
 have M1:=(Mem.start w).alloc h1
 intro g5 w2 h2
 have M2:Mem w w2 [(g5,.cells x.cells.toArray 124 (0,0)),(g3,.cells #[l.ptr] 55 (0,0))]:=M1.alloc h2
 refine ⟨l.ptr,M2.cell 1 rfl rfl,?_⟩
 refine ⟨[],[.pointer (some ⟨g3,0,none⟩)],rfl,rfl,?_⟩
 refine ⟨[],[.pointer (some ⟨g5,0,none⟩)],rfl,rfl,?_⟩
 have h5:¬ l.has g5:=fun hq => by have:=h.lt hq; have:=M2.new 0 rfl; omega
 refine (next_spec (h.ext M2.ext) (by omega) (hf.ext M2.ext) hfl (x:=grantE es x) (grantE_nums hx (by omega)) (n:=(waivL es).length) (gx:=g5) (by omega) rfl rfl h5 (reads_but hf.reads (M2.new 0 rfl) M2.ext)
  (fun w' e => grants_len ((h.ext M2.ext).ext e) (e.heap (M2.get 1 rfl))) (fun w' e => grants_with (e.heap (M2.get 0 rfl)) _)).mono ?_
 rintro v w3 ⟨rfl,l3,hg3,hi3,hk3,hn3⟩
 refine ⟨rfl,l3,hg3,hi3,keep_trans (keep_ext M2.ext) hk3 fun q hq hlt => ⟨hq,fun e => by have:=M2.new 0 rfl; omega⟩,fun k hk => (hn3 k hk).imp id fun h => Nat.le_trans M2.ext.size h⟩
end Go.Proofs.YtigapannpbaihaaGreat
namespace Go.Proofs.YtigapannpbaihaaGreat
open Go.Eng Go.RowKit
structure StNew (w0 w:World) (s:SV) (es:List Entry):Prop where
 is:StateIs w s es
 new:∀ k,s.has k -> w0.heap.size <= k
 ext:Ext w0 w
theorem StNew.go {w0 w w':World} {s:SV} {es es':List Entry} (h:StNew w0 w s es) (k:StGo w s es' w'):∃ s',s'.gs = s.gs ∧ StNew w0 w' s' es':=by
 obtain ⟨s',hg,hi,hk,hn⟩:=k
 refine ⟨s',hg,hi,fun q hq => ?_,⟨hk.os.trans h.ext.os,hk.tape.trans h.ext.tape,hk.output.trans h.ext.output,Nat.le_trans h.ext.size hk.size,fun q hq => ?_⟩⟩
 ·rcases hn q hq with h1 | h1
  ·exact h.new q h1
  ·exact Nat.le_trans h.ext.size h1
 ·rw [hk.block q (fun h1 => by have:=h.new q h1; omega) (Nat.lt_of_lt_of_le hq h.ext.size)]
  exact h.ext.block q hq
theorem StNew.then {w0 w w':World} {s:SV} {es:List Entry} (h:StNew w0 w s es) (e:Ext w w'):StNew w0 w' s es:=⟨h.is.ext e,h.new,h.ext.trans e⟩
theorem asOf_step {es:List Entry} (hA:Acc es) {i:Nat} (hi:i < es.length) {day:Int} (hd:es[i].day <= day):∃ sg,doE sg (asOfL (es.take i) day) es[i] = 0:=by
 have h1:asOfL (es.take i) day = es.take i:=asOf_all fun x hx => by
  obtain ⟨j,hj,rfl⟩:=List.getElem_of_mem hx
  rw [List.length_take] at hj
  rw [List.getElem_take]
  have:=List.pairwise_iff_getElem.1 (acc_ok hA).days j i (by omega) hi (by omega)
  omega
 rw [h1]
 have h2:=acc_front hA (i + 1)
 rw [List.take_succ_eq_append_getElem hi] at h2
 exact (acc_inv h2).2
theorem asOf_take_succ {es:List Entry} {i:Nat} (hi:i < es.length) (day:Int):asOfL (es.take (i + 1)) day = asOfL (es.take i) day ++ if es[i].day <= day then [es[i]] else []:=by
 rw [List.take_succ_eq_append_getElem hi,asOf_snoc]
theorem asOfL_length (es:List Entry) (day:Int):(asOfL es day).length <= es.length:=List.length_filter_le _ _
set_option maxRecDepth 100000 in
theorem asOf_spec {w:World} {l:LV} {es:List Entry} (h:LedgerIs w l es) (hl:es.length <= 2 ^ 16) (day:Int) :
  CallsV C.P 101 #[l.ptr,.int .i64 day] w fun v w' => ∃ s:SV,v = .pointer (some ⟨s.gs,0,none⟩) ∧ StNew w w' s (asOfL es day):=by
 obtain ⟨A,c,hv,hr,_⟩:=reads_of_owns h.row
 refine callsV_of C_ok (args:=[_,_]) (plans:=[]) Tryz.func101 rfl Tryz.ntmps101 (by kernel_rfl) (Nat.le_of_ble_eq_true rfl) ?_
 refine (newState_spec w).mono ?_
 rintro v w1 ⟨⟨s0,rfl,hs0,hn0⟩,e1⟩
 have hvc:w1.cell? ⟨l.gl,0,none⟩ = some (.slice A es.length c):=cell_of_block (e1.heap h.block) (by show some l.vE = _; rw [hv])
 refine ⟨_,eqNilP _ _ _,?_⟩
 refine ⟨_,hvc,?_⟩
 refine loopE C_ok (fun (i:Nat) => [(1,.int .i64 day),(5,.pointer (some ⟨s0.gs,0,none⟩)),(15,.slice A es.length c),(16,.int .i64 es.length),(17,.int .i64 i)])
  (fun i w' => i <= es.length ∧ ∃ s:SV,s.gs = s0.gs ∧ StNew w w' s (asOfL (es.take i) day)) (fun i => es.length - i) 0 ⟨rfl,rfl,rfl,rfl,rfl,trivial⟩
  ⟨Nat.zero_le _,s0,rfl,by rw [List.take_zero]; exact hs0,hn0,e1⟩ ?_
 rintro i w2 ⟨hi,s,hgs,hst⟩
 refine brE_dec (fun hlt => ?_) (fun hge => ?_)
 ·have hlt:i < es.length:=by have:(i:Int) < (es.length:Nat):=hlt; omega
  obtain ⟨b,o,hA,hc⟩:=Reads.elem Entry.len (by omega) (hr.ext hst.ext) hlt
  refine ⟨i,b,o,rfl,hlt,hA,?_⟩
  refine ⟨es[i].cells,rfl,hc,?_⟩
  intro g3 w3 h3
  refine ⟨rfl,_,_,h3.here,Nat.le_of_ble_eq_true rfl,rfl,?_⟩
  intro w4 h4
  have h4:Put w3 g3 (.cells es[i].cells.toArray 134 (0,0)) w4:=h4
  have e24:Ext w2 w4:=h4.ext_of h3.ext (by rw [h3.new]; exact Nat.le_refl _)
  have hst4:=hst.then e24
  refine ⟨_,cell_of_block (i:=1) h4.here rfl,?_⟩
  have hnext:=asOf_take_succ hlt day
  refine brE_dec (fun hd => ?_) (fun hd => ?_)
  ·have hd:es[i].day <= day:=hd
   rw [if_pos hd] at hnext
   obtain ⟨sg,hsg⟩:=asOf_step h.acc hlt hd
   refine ⟨es[i].cells,rfl,Rd.of_block h4.here,?_⟩
   have hdo:=do_spec hst4.is (acc_asOf (acc_front h.acc i) day) (h.nums _ (List.getElem_mem hlt)) hsg
   rw [hgs] at hdo
   refine hdo.mono ?_
   intro v w5 hgo
   obtain ⟨s5,hg5,hs5⟩:=hst4.go hgo
   refine ⟨((i + 1:Nat):Int),fit ⟨by omega,by omega⟩,?_⟩
   exact ⟨i + 1,⟨rfl,rfl,rfl,rfl,rfl,trivial⟩,⟨hlt,s5,hg5.trans hgs,by rw [hnext]; exact hs5⟩,by show es.length - (i + 1) < es.length - i; omega⟩
  ·have hd:¬ es[i].day <= day:=hd
   rw [if_neg hd,List.append_nil] at hnext
   refine ⟨((i + 1:Nat):Int),fit ⟨by omega,by omega⟩,?_⟩
   exact ⟨i + 1,⟨rfl,rfl,rfl,rfl,rfl,trivial⟩,⟨hlt,s,hgs,by rw [hnext]; exact hst4⟩,by show es.length - (i + 1) < es.length - i; omega⟩
 ·have hge:i = es.length:=by have:¬ (i:Int) < (es.length:Nat):=hge; omega
  rw [hge,List.take_length] at hst
  exact ⟨s,by rw [hgs],hst⟩
theorem ext_below {w w1 w2:World} {B:Nat} (e:Ext w w1) (h:Below B w1 w2) (hB:w.heap.size <= B):Ext w w2 :=
 ⟨h.os.trans e.os,h.tape.trans e.tape,h.output.trans e.output,Nat.le_trans e.size h.size,fun k hk => (h.block k (by omega)).trans (e.block k hk)⟩
theorem below_heap {B:Nat} {w w':World} (h:Below B w w') {k:Nat} (hk:k < B) {o:Obj} (hv:w.heap[k]? = some o):w'.heap[k]? = some o:=by rw [h.block k hk]; exact hv
theorem StNew.waivs {w0 w:World} {s:SV} {es:List Entry} (h:StNew w0 w s es):NewL Waiv.cells 124 9 w0.heap.size w s.vW (waivL es):=owns_from h.is.waivs fun k hk => h.new k (.inr (.inr (.inr (.inr (.inr (.inl hk))))))
theorem off_spec {w:World} {g:Nat} {day:Int} (hg:w.heap[g]? = some (.cells #[.int .i64 day] 3 (0,0))) (x:Waiv) :
  CallsV C.P 102 (#[] ++ [x.val].toArray ++ #[.pointer (some ⟨g,0,none⟩)]) w fun v w' => v = .bool (!forceB day x) ∧ Ext w w':=by
 refine callsV_of C_ok (args:=[_,_]) (plans:=[]) Tryz.func102 rfl Tryz.ntmps102 (by kernel_rfl) (Nat.le_of_ble_eq_true rfl) ?_
 intro g2 w1 h1
 have M1:Mem w w1 [(g2,.cells x.cells.toArray 124 (0,0))]:=(Mem.start w).alloc h1
 refine ⟨.int .i64 day,cell_of_block (M1.ext.heap hg) rfl,?_⟩
 refine ⟨_,M1.cell 0 rfl rfl,?_⟩
 refine brE_dec (fun c1 => ?_) (fun c1 => ?_)
 ·have c1:day < x.since:=c1
  exact ⟨congrArg _ (by unfold forceB; rw [decide_eq_false (by omega)]; rfl),M1.ext⟩
 have c1:¬ day < x.since:=c1
 refine ⟨.int .i64 day,cell_of_block (M1.ext.heap hg) rfl,?_⟩
 refine ⟨_,M1.cell 0 rfl rfl,?_⟩
 refine ⟨congrArg _ ?_,M1.ext⟩
 show decide (x.til <= day) = _
 unfold forceB
 rw [decide_eq_true (by omega:x.since <= day),Bool.true_and]
 by_cases h:x.til <= day
 ·rw [decide_eq_true h,decide_eq_false (by omega)]; rfl
 ·rw [decide_eq_false h,decide_eq_true (by omega)]; rfl
theorem Waivers_spec {w:World} {l:LV} {es:List Entry} (h:LedgerIs w l es) (hl:es.length <= 2 ^ 16) (day:Int) :
  CallsV C.P 42 #[l.ptr,.int .i64 day] w fun v w' => NewL Waiv.cells 124 9 w.heap.size w' v (waiversAt es day) ∧ Ext w w':=by
 have hwl:=waivL_length (asOfL es day)
 have hal:=asOfL_length es day
 refine callsV_of C_ok (args:=[_,_]) (plans:=[]) Tryz.func42 rfl Tryz.ntmps42 (by kernel_rfl) (Nat.le_of_ble_eq_true rfl) ?_
 intro g3 w1 h1
 have M1:Mem w w1 [(g3,.cells #[.int .i64 day] 3 (0,0))]:=(Mem.start w).alloc h1
 refine ⟨_,M1.cell 0 rfl rfl,?_⟩
 refine (asOf_spec (h.ext M1.ext) hl day).mono ?_
 rintro v w2 ⟨s,rfl,hs⟩
 refine ⟨s.vW,cell_of_block (i:=2) hs.is.block rfl,?_⟩
 refine ⟨[],[.pointer (some ⟨g3,0,none⟩)],rfl,rfl,?_⟩
 have hg3:=lt_of_heap (M1.get 0 rfl)
 refine (DeleteFuncW_spec hs.waivs hs.ext.size (by omega) rfl (p:=fun x => !forceB day x) fun x w' hb => off_spec (below_heap hb hg3 (hs.ext.heap (M1.get 0 rfl))) x).mono ?_
 rintro v w3 ⟨h3,b3⟩
 have e:((waivL (asOfL es day)).filter fun x => !(!forceB day x)) = waiversAt es day:=by
  unfold waiversAt
  refine List.filter_congr fun x _ => Bool.not_not _
 rw [e] at h3
 exact ⟨h3.base M1.ext.size,ext_below (M1.ext.trans hs.ext) b3 M1.ext.size⟩
theorem coverOf_spec {w:World} {g5 g6:Nat} {u o:Guest} (h5:w.heap[g5]? = some (.cells u.cells.toArray 63 (0,0))) (h6:w.heap[g6]? = some (.cells o.cells.toArray 63 (0,0))) (x:Waiv) :
  CallsV C.P 48 (#[] ++ [x.val].toArray ++ #[.pointer (some ⟨g5,0,none⟩),.pointer (some ⟨g6,0,none⟩)]) w fun v w' => v = .bool (coversB x u o) ∧ Ext w w':=by
 refine callsV_of C_ok (args:=[_,_,_]) (plans:=[]) Tryz.func48 rfl Tryz.ntmps48 (by kernel_rfl) (Nat.le_of_ble_eq_true rfl) ?_
 intro g2 w1 h1
 have M1:Mem w w1 [(g2,.cells x.cells.toArray 124 (0,0))]:=(Mem.start w).alloc h1
 refine ⟨x.cells,rfl,M1.rd 0 rfl,?_⟩
 refine ⟨u.cells,rfl,Rd.of_block (M1.ext.heap h5),?_⟩
 refine ⟨o.cells,rfl,Rd.of_block (M1.ext.heap h6),?_⟩
 exact (covers_spec x u o w1).mono fun v w' hv => ⟨hv.1,M1.ext.trans hv.2⟩
theorem waiversAt_length (es:List Entry) (day:Int):(waiversAt es day).length <= es.length :=
 Nat.le_trans (List.length_filter_le _ _) (Nat.le_trans (waivL_length _) (asOfL_length es day))
theorem Covers_spec {w:World} {l:LV} {es:List Entry} (h:LedgerIs w l es) (hl:es.length <= 2 ^ 16) (u o:Guest) (day:Int) :
  CallsV C.P 16 #[l.ptr,u.val,o.val,.int .i64 day] w fun v w' => v = .bool (coversAt es u o day) ∧ Ext w w':=by
 have hwl:=waiversAt_length es day
 refine callsV_of C_ok (args:=[_,_,_,_]) (plans:=[]) Tryz.func16 rfl Tryz.ntmps16 (by kernel_rfl) (Nat.le_of_ble_eq_true rfl) ?_
 intro g5 w1 h1
 have M1:=(Mem.start w).alloc h1
 intro g6 w2 h2
 have M2:Mem w w2 [(g6,.cells o.cells.toArray 63 (0,0)),(g5,.cells u.cells.toArray 63 (0,0))]:=M1.alloc h2
 refine (Waivers_spec (h.ext M2.ext) hl day).mono ?_
 rintro v w3 ⟨h3,e3⟩
 obtain ⟨A,c,rfl,hr⟩:=h3.hl
 refine ⟨[],[.pointer (some ⟨g5,0,none⟩),.pointer (some ⟨g6,0,none⟩)],rfl,rfl,?_⟩
 refine (ContainsFuncW_spec hr.reads (by omega) rfl (p:=fun x => coversB x u o) fun x w' e => coverOf_spec ((e3.trans e).heap (M2.get 1 rfl)) ((e3.trans e).heap (M2.get 0 rfl)) x).mono ?_
 rintro v w4 ⟨rfl,e4⟩
 exact ⟨rfl,M2.ext.trans (e3.trans e4)⟩
end Go.Proofs.YtigapannpbaihaaGreat
namespace Go.Proofs.YtigapannpbaihaaGreat
open Go.Eng Go.RowKit
theorem row_openB {α:Type} {enc:α -> List Value} {k e:Nat} (hk:∀ x,(enc x).length = k) (k0:0 < k) {B:Nat} {w:World} {v:Value} {l:List α} (h:w.ownsRow B e k v l.length (l.flatMap enc)) {i:Nat} (hi:i < l.length) :
  ∃ g cap,∃ cur:List Value,v = .slice (some ⟨g,0,none⟩) l.length cap ∧ w.heap[g]? = some (.cells cur.toArray e (0,0)) ∧ 0 + i * k + k <= cur.length ∧ v.ownBlock = some g ∧ Rd w g (0 + i * k) (enc l[i]) ∧
   ∀ (c:Nat) (vs:List Value) (y:α) (w':World),splice (enc l[i]) c vs = enc y -> c + vs.length <= k -> Put w g (.cells (splice cur (0 + i * k + c) vs).toArray e (0,0)) w' -> w'.ownsRow B e k v (l.set i y).length ((l.set i y).flatMap enc):=by
 have hv:∃ g cap,v = .slice (some ⟨g,0,none⟩) l.length cap:=by
  obtain ⟨_,⟨_,h0⟩ | ⟨g,cap,cur,hv,_⟩⟩:=h
  ·omega
  ·exact ⟨g,cap,hv⟩
 obtain ⟨g,cap,rfl⟩:=hv
 obtain ⟨cur,hg,_,hn,_,_,hxl,ht,hput⟩:=ownsRow_open h
 have hb:(i + 1) * k <= l.length * k:=Nat.mul_le_mul_right k hi
 rw [Nat.add_mul,Nat.one_mul] at hb
 obtain ⟨A,c2,hA,hr,_⟩:=reads_of_owns h
 refine ⟨g,cap,cur,rfl,hg,by omega,rfl,?_,fun c vs y w' h1 h2 h3 => ?_⟩
 ·cases hA
  obtain ⟨b,o,hb2,hrd⟩:=Reads.elem hk k0 hr hi
  cases hb2
  exact hrd
 ·have:=hput (0 + i * k + c) vs w' (by omega) h3
  rw [Nat.zero_add,flat_field hk hi h1 h2] at this
  rw [List.length_set]
  exact this
end Go.Proofs.YtigapannpbaihaaGreat
namespace Go.Proofs.YtigapannpbaihaaGreat
open Go.Eng Go.RowKit
theorem swap_adj {α:Type} {P S:List α} {x y:α}:((P ++ y :: x :: S).set (P.length + 1) y).set P.length x = P ++ x :: y :: S:=by
 rw [List.set_append_right _ _ (by omega),show P.length + 1 - P.length = 1 by omega,List.set_append_right _ _ (Nat.le_refl _),Nat.sub_self]
 rfl
theorem get_adj0 {α:Type} {P S:List α} {x y:α} (h:P.length < (P ++ y :: x :: S).length):(P ++ y :: x :: S)[P.length] = y:=by simp
theorem get_adj1 {α:Type} {P S:List α} {x y:α} (h:P.length + 1 < (P ++ y :: x :: S).length):(P ++ y :: x :: S)[P.length + 1] = x:=by
 rw [List.getElem_append_right (by omega)]; simp
end Go.Proofs.YtigapannpbaihaaGreat
namespace Go.Proofs.YtigapannpbaihaaGreat
open Go.Eng Go.RowKit
open Go.Maps (Keyed)
theorem Guest.len (x:Guest):x.cells.length = 2:=rfl
def rowTo (ws:List Waiv) (g:List Guest) (a j:Nat):List IPair:=(List.range j).flatMap fun b => if ws.any (fun w => coversB w (g.getD a guestZ) (g.getD b guestZ)) = true then [⟨(a:Int),(b:Int)⟩] else []
def pairsTo (ws:List Waiv) (g:List Guest) (i:Nat):List IPair:=(List.range i).flatMap fun a => rowPairs ws g a
theorem rowTo_succ (ws:List Waiv) (g:List Guest) (a j:Nat):rowTo ws g a (j + 1) = rowTo ws g a j ++ if ws.any (fun w => coversB w (g.getD a guestZ) (g.getD j guestZ)) = true then [⟨(a:Int),(j:Int)⟩] else []:=by
 unfold rowTo; rw [List.range_succ,List.flatMap_append,List.flatMap_singleton]
theorem pairsTo_succ (ws:List Waiv) (g:List Guest) (i:Nat):pairsTo ws g (i + 1) = pairsTo ws g i ++ rowTo ws g i g.length:=by
 unfold pairsTo; rw [List.range_succ,List.flatMap_append,List.flatMap_singleton]; rfl
theorem rowTo_len (ws:List Waiv) (g:List Guest) (a:Nat):∀ j,(rowTo ws g a j).length <= j
 | 0 => Nat.le_refl _
 | j + 1 => by
  rw [rowTo_succ,List.length_append]
  have:=rowTo_len ws g a j
  split <;> simp <;> omega
theorem pairsTo_len (ws:List Waiv) (g:List Guest):∀ i,(pairsTo ws g i).length <= i * g.length
 | 0 => by simp [pairsTo]
 | i + 1 => by
  rw [pairsTo_succ,List.length_append,Nat.add_mul,Nat.one_mul]
  have:=pairsTo_len ws g i
  have:=rowTo_len ws g i g.length
  omega
theorem coverAt_spec {w:World} {A:Option Addr} {g:List Guest} {c:Nat} {g4 g9 g10 t4 t9 t10 a b:Nat} (hg:HL Guest.cells w A g c) (h4:w.heap[g4]? = some (.cells #[.slice A g.length c] t4 (0,0)))
  (h9:w.heap[g9]? = some (.cells #[.int .i64 (a:Nat)] t9 (0,0))) (h10:w.heap[g10]? = some (.cells #[.int .i64 (b:Nat)] t10 (0,0))) (ha:a < g.length) (hb:b < g.length) (x:Waiv) :
  CallsV C.P 44 (#[] ++ [x.val].toArray ++ #[.pointer (some ⟨g4,0,none⟩),.pointer (some ⟨g9,0,none⟩),.pointer (some ⟨g10,0,none⟩)]) w fun v w' => v = .bool (coversB x (g.getD a guestZ) (g.getD b guestZ)) ∧ Ext w w':=by
 have ea:g.getD a guestZ = g[a]:=by rw [List.getD_eq_getElem?_getD,List.getElem?_eq_getElem ha]; rfl
 have eb:g.getD b guestZ = g[b]:=by rw [List.getD_eq_getElem?_getD,List.getElem?_eq_getElem hb]; rfl
 rw [ea,eb]
 refine callsV_of C_ok (args:=[_,_,_,_]) (plans:=plans44) Tryz.func44 rfl Tryz.ntmps44 (by kernel_rfl) (Nat.le_of_ble_eq_true rfl) ?_
 intro g2 w1 h1
 have M1:Mem w w1 [(g2,.cells x.cells.toArray 124 (0,0))]:=(Mem.start w).alloc h1
 obtain ⟨b1,o1,hA1,hr1⟩:=(hg.ext M1.ext).at Guest.len (by omega) ha
 obtain ⟨b2,o2,hA2,hr2⟩:=(hg.ext M1.ext).at Guest.len (by omega) hb
 have e4:=M1.ext.heap h4
 refine ⟨x.cells,rfl,M1.rd 0 rfl,?_⟩
 refine ⟨.slice A g.length c,cell_of_block e4 rfl,?_⟩
 refine ⟨.int .i64 (a:Nat),cell_of_block (M1.ext.heap h9) rfl,?_⟩
 refine ⟨a,b1,o1,rfl,ha,hA1,?_⟩
 refine ⟨g[a].cells,rfl,hr1,?_⟩
 refine ⟨.slice A g.length c,cell_of_block e4 rfl,?_⟩
 refine ⟨.int .i64 (b:Nat),cell_of_block (M1.ext.heap h10) rfl,?_⟩
 refine ⟨b,b2,o2,rfl,hb,hA2,?_⟩
 refine ⟨g[b].cells,rfl,hr2,?_⟩
 exact (covers_spec x g[a] g[b] w1).mono fun v w' hv => ⟨hv.1,M1.ext.trans hv.2⟩
theorem only_trans {t0:Nat} {a b c:World} (h:Only t0 a b) (k:Only t0 b c):Only t0 a c:=fun q cs t fr hq hne => k q cs t fr (h q cs t fr hq hne) hne
theorem newL_only {α:Type} {enc:α -> List Value} {T k B t0 n c:Nat} {A:Option Addr} {w w':World} {l:List α} (h:NewL enc T k B w (.slice A n c) l) (o:Only t0 w w') (hne:T ≠ t0):Reads w' A (l.flatMap enc):=by
 obtain ⟨A',c',e,hr,_⟩:=reads_of_owns (ownsRow_only h o hne)
 cases e
 exact hr
set_option maxRecDepth 100000 in
theorem Pairs_spec {w:World} {l:LV} {es:List Entry} (h:LedgerIs w l es) (hl:es.length <= 2 ^ 16) {A:Option Addr} {g:List Guest} {c:Nat} (hg:HL Guest.cells w A g c) (day:Int) :
  CallsV C.P 14 #[l.ptr,.slice A g.length c,.int .i64 day] w fun v w' => NewL IPair.cells 128 2 w.heap.size w' v (pairsAt es g day) ∧ Ext w w':=by
 have hwl:=waiversAt_length es day
 have hcap:=hg.cap
 refine callsV_of C_ok (args:=[_,_,_]) (plans:=[]) Tryz.func14 rfl Tryz.ntmps14 (by kernel_rfl) (Nat.le_of_ble_eq_true rfl) ?_
 intro g4 w1 h1
 have M1:Mem w w1 [(g4,.cells #[.slice A g.length c] 28 (0,0))]:=(Mem.start w).alloc h1
 refine ⟨_,M1.cell 0 rfl rfl,?_⟩
 refine brE_dec (fun b1 => ?_) (fun b1 => ?_)
 ·have b1:(g.length:Int) > 24:=b1
  have e:pairsAt es g day = []:=if_pos (by omega)
  rw [e]
  exact ⟨newL_nil,M1.ext⟩
 have b1:¬ (g.length:Int) > 24:=b1
 have hgl:g.length <= 24:=by omega
 have e:pairsAt es g day = pairsTo (waiversAt es day) g g.length:=if_neg (by omega)
 rw [e]
 refine (Waivers_spec (h.ext M1.ext) hl day).mono ?_
 rintro v w2 ⟨h2,e2⟩
 obtain ⟨A2,c2,rfl,hr2⟩:=h2.hl
 have M2:=M1.grow e2
 generalize waiversAt es day = ws at *
 refine ⟨_,M2.cell 0 rfl rfl,?_⟩
 refine loopE C_ok (fun (p:Nat × Value) => [(4,.pointer (some ⟨g4,0,none⟩)),(7,.slice A2 ws.length c2),(8,p.2),(18,.int .i64 g.length),(19,.int .i64 p.1)])
  (fun p w' => p.1 <= g.length ∧ NewL IPair.cells 128 2 w.heap.size w' p.2 (pairsTo ws g p.1) ∧ Ext w w' ∧ Only 128 w2 w') (fun p => g.length - p.1) (0,.slice none 0 0) ⟨rfl,rfl,rfl,rfl,rfl,trivial⟩
  ⟨Nat.zero_le _,newL_nil,M2.ext,only_ext _ (Ext.refl _)⟩ ?_
 rintro ⟨i,v⟩ w3 ⟨hi',ho',e3,o23⟩
 have hi:i <= g.length:=hi'
 have ho:NewL IPair.cells 128 2 w.heap.size w3 v (pairsTo ws g i):=ho'
 clear hi' ho'
 refine brE_dec (fun hlt => ?_) (fun hge => ?_)
 ·have hlt:i < g.length:=by have:(i:Int) < (g.length:Nat):=hlt; omega
  intro g9 w4 h4
  refine ⟨rfl,_,_,h4.here,Nat.le_of_ble_eq_true rfl,rfl,?_⟩
  intro w5 h5
  have h5:Put w4 g9 (.cells #[.int .i64 (i:Nat)] 3 (0,0)) w5:=h5
  have e35:Ext w3 w5:=h5.ext_of h4.ext (by rw [h4.new]; exact Nat.le_refl _)
  have o25:=only_trans o23 (only_ext _ e35)
  refine ⟨_,cell_of_block (o25 _ _ _ _ (M2.get 0 rfl) (by decide)) rfl,?_⟩
  have plen:=pairsTo_len ws g i
  have pl:(pairsTo ws g i).length <= 24 * 24:=Nat.le_trans plen (Nat.mul_le_mul (by omega) hgl)
  refine loopE C_ok (fun (p:Nat × Value) => [(4,.pointer (some ⟨g4,0,none⟩)),(7,.slice A2 ws.length c2),(8,p.2),(9,.pointer (some ⟨g9,0,none⟩)),(18,.int .i64 g.length),(19,.int .i64 i),(23,.int .i64 g.length),(24,.int .i64 p.1)])
   (fun p w' => p.1 <= g.length ∧ NewL IPair.cells 128 2 w.heap.size w' p.2 (pairsTo ws g i ++ rowTo ws g i p.1) ∧ Ext w w' ∧ Only 128 w5 w') (fun p => g.length - p.1) (0,v) ⟨rfl,rfl,rfl,rfl,rfl,rfl,rfl,rfl,trivial⟩
   ⟨Nat.zero_le _,by show NewL _ _ _ _ _ _ (pairsTo ws g i ++ []); rw [List.append_nil]; exact ho.ext e35,e3.trans e35,only_ext _ (Ext.refl _)⟩ ?_
  rintro ⟨j,u⟩ w6 ⟨hj',ho',e6,o56⟩
  have hj:j <= g.length:=hj'
  have ho6:NewL IPair.cells 128 2 w.heap.size w6 u (pairsTo ws g i ++ rowTo ws g i j):=ho'
  clear hj' ho'
  refine brE_dec (fun hlt2 => ?_) (fun hge2 => ?_)
  ·have hlt2:j < g.length:=by have:(j:Int) < (g.length:Nat):=hlt2; omega
   intro g10 w7 h7
   refine ⟨rfl,_,_,h7.here,Nat.le_of_ble_eq_true rfl,rfl,?_⟩
   intro w8 h8
   have h8:Put w7 g10 (.cells #[.int .i64 (j:Nat)] 3 (0,0)) w8:=h8
   have e68:Ext w6 w8:=h8.ext_of h7.ext (by rw [h7.new]; exact Nat.le_refl _)
   have o58:=only_trans o56 (only_ext _ e68)
   have o28:=only_trans o25 o58
   refine ⟨[],[.pointer (some ⟨g4,0,none⟩),.pointer (some ⟨g9,0,none⟩),.pointer (some ⟨g10,0,none⟩)],rfl,rfl,?_⟩
   refine (ContainsFuncW_spec (newL_only h2 o28 (by decide)) (by omega) rfl (p:=fun x => coversB x (g.getD i guestZ) (g.getD j guestZ)) fun x w' e => coverAt_spec (hg.ext ((e6.trans e68).trans e)) (e.heap (o28 _ _ _ _ (M2.get 0 rfl) (by decide))) (e.heap (o58 _ _ _ _ h5.here (by decide))) (e.heap h8.here) hlt hlt2 x).mono ?_
   rintro v w9 ⟨rfl,e89⟩
   have e69:=e68.trans e89
   have rlen:=rowTo_len ws g i j
   have next:IntKind.i64.wrap ((j:Int) + 1) = ((j + 1:Nat):Int):=fit ⟨by omega,by omega⟩
   refine brE_mk (fun hc => ?_) (fun hc => ?_)
   ·refine ⟨.int .i64 (i:Nat),cell_of_block (e89.heap (o58 _ _ _ _ h5.here (by decide))) rfl,?_⟩
    refine ⟨.int .i64 (j:Nat),cell_of_block (e89.heap h8.here) rfl,?_⟩
    intro g11 w10 h10
    refine ⟨rfl,rfl,rfl,w.heap.size,_,_,(IPair.mk (i:Nat) (j:Nat)).cells,(ho6.ext e69).ext h10.ext,Nat.le_trans e6.size (Nat.le_trans e69.size h10.ext.size),Nat.le_of_ble_eq_true rfl,rfl,rfl,.inr ⟨g11,0,rfl,Rd.of_block h10.here⟩,rfl,rfl,by rw [List.length_append]; omega,by rw [List.length_append]; simp only [maxLen]; omega,?_⟩
    intro v' w11 ho11 hg11 hpl
    refine ⟨_,next,?_⟩
    have ho10:=(ho6.ext e69).ext h10.ext
    have e10:=(e6.trans e69).trans h10.ext
    refine ⟨(j + 1,v'),⟨rfl,rfl,rfl,rfl,rfl,rfl,rfl,rfl,trivial⟩,⟨hlt2,?_,app_ext e10 ho10 hg11,only_trans o56 (only_trans (only_ext _ (e69.trans h10.ext)) (only_app ho10 hg11))⟩,by show g.length - (j + 1) < g.length - j; omega⟩
    have hcc:ws.any (fun w => coversB w (g.getD i guestZ) (g.getD j guestZ)) = true:=hc
    show NewL _ _ _ _ _ _ (pairsTo ws g i ++ rowTo ws g i (j + 1))
    rw [rowTo_succ,hcc,if_pos rfl,<-List.append_assoc]
    generalize pairsTo ws g i ++ rowTo ws g i j = P at ho11 ⊢
    unfold NewL
    rw [List.flatMap_append,List.length_append]
    have:([⟨(i:Int),(j:Int)⟩]:List IPair).flatMap IPair.cells = (IPair.mk (i:Nat) (j:Nat)).cells:=rfl
    rw [this]
    exact ho11
   ·refine ⟨_,next,?_⟩
    refine ⟨(j + 1,u),⟨rfl,rfl,rfl,rfl,rfl,rfl,rfl,rfl,trivial⟩,⟨hlt2,?_,e6.trans e69,only_trans o56 (only_ext _ e69)⟩,by show g.length - (j + 1) < g.length - j; omega⟩
    have hcc:ws.any (fun w => coversB w (g.getD i guestZ) (g.getD j guestZ)) = false:=hc
    show NewL _ _ _ _ _ _ (pairsTo ws g i ++ rowTo ws g i (j + 1))
    rw [rowTo_succ,hcc,if_neg (by decide),List.append_nil]
    exact ho6.ext e69
  ·have hj:j = g.length:=by have:¬ (j:Int) < (g.length:Nat):=hge2; omega
   refine ⟨((i + 1:Nat):Int),fit ⟨by omega,by omega⟩,?_⟩
   refine ⟨(i + 1,u),⟨rfl,rfl,rfl,rfl,rfl,trivial⟩,⟨hlt,?_,e6,only_trans o25 o56⟩,by show g.length - (i + 1) < g.length - i; omega⟩
   show NewL _ _ _ _ _ _ (pairsTo ws g (i + 1))
   rw [pairsTo_succ,<-hj]
   exact ho6
 ·have hi:i = g.length:=by have:¬ (i:Int) < (g.length:Nat):=hge; omega
  rw [hi] at ho
  exact ⟨ho,e3⟩
end Go.Proofs.YtigapannpbaihaaGreat
namespace Go.Proofs.YtigapannpbaihaaGreat
open Go.Eng Go.RowKit
def offL:List Fact:=[⟨1,0,1,1,0,1,0,0,⟨#[97,118,105,97]⟩⟩,⟨2,0,1,2,0,1,0,0,⟨#[98,111,114,100,117,114,105,97]⟩⟩,⟨3,0,2,11,1,1,0,0,⟨#[]⟩⟩,⟨4,0,2,21,2,1,0,0,⟨#[]⟩⟩]
def gw1:Waiv:=⟨0,3,11,1,2,0,0,5,9⟩
def gw2:Waiv:=⟨0,3,21,1,2,0,0,5,9⟩
def gw3:Waiv:=⟨0,4,21,2,1,0,11,6,7⟩
def gx1:Entry:=⟨3,3,{ gw1 with id:=1 },giftZ,0,0,0⟩
def gx2:Entry:=⟨3,4,{ gw3 with id:=2 },giftZ,0,0,0⟩
def gx3:Entry:=⟨1,8,waivZ,giftZ,1,0,240⟩
def gx4:Entry:=⟨5,8,waivZ,⟨1,8,1,2,1,4,0,0,0,0⟩,0,0,0⟩
def gx5:Entry:=⟨6,9,waivZ,{ giftZ with id:=1 },0,0,0⟩
def gr1:List Entry:=[gx1]
def gr2:List Entry:=[gx1,gx2]
def gr3:List Entry:=[gx1,gx2,gx3]
def gr5:List Entry:=[gx1,gx2,gx3,gx4,gx5]
theorem d1:doF offL [] (grantE [] gw1) = 0:=by kernel_rfl
theorem d2:doF offL gr1 (grantE gr1 gw2) = 60:=by kernel_rfl
theorem d3:doF offL gr1 (grantE gr1 gw1) = 61:=by kernel_rfl
theorem d4:doF offL gr1 (grantE gr1 gw3) = 0:=by kernel_rfl
theorem d5:doF offL gr2 (rateE 8 1 240) = 0:=by kernel_rfl
theorem d6:doF offL gr3 (offerE gr3 8 1 2 1 4 0) = 0:=by kernel_rfl
theorem q1:duesAt gr1 3 = [⟨1,2,1⟩]:=by kernel_rfl
theorem q2:pairsAt gr1 [⟨11,1⟩,⟨21,2⟩] 5 = [⟨0,1⟩]:=by kernel_rfl
theorem q3:duesAt gr5 4 = []:=by kernel_rfl
theorem q4:debtAt gr5 2 1 8 = 0:=by kernel_rfl
theorem q5:debtAt gr5 2 1 9 = 960:=by kernel_rfl
theorem q6:overdueAt gr5 374 = []:=by kernel_rfl
theorem q7:(overdueAt gr5 375).length = 1:=by kernel_rfl
theorem q8:formX gx1 = true:=by kernel_rfl
theorem ptr_eq {l l0:LV} (hg:l.gl = l0.gl):l.ptr = l0.ptr:=by unfold LV.ptr; rw [hg]
end Go.Proofs.YtigapannpbaihaaGreat
namespace Go.Proofs.YtigapannpbaihaaGreat.Rk
open Go.Eng Go.RowKit
def mtL:List Fact:=[⟨1,0,1,1,0,1,0,0,⟨#[97,118,105,97]⟩⟩,⟨2,0,1,2,0,1,0,0,⟨#[98,111,114,100,117,114,105,97]⟩⟩,⟨3,0,2,11,1,3,0,0,⟨#[]⟩⟩,⟨4,0,2,21,2,1,0,0,⟨#[]⟩⟩]
def mtT:Tst:=.mk 2 1 0 0 none 0 []
def mtR:List Rl:=[⟨⟨#[99,108,97,115,115]⟩,5,10,mtT⟩]
def mtS:Scn:=⟨1,1,0,0,3⟩
def mtG:List (Int × Int):=[(11,1),(21,2)]
def mtP0:Prof:=profOf mtL mtS (11,1)
def mtP1:Prof:=profOf mtL mtS (21,2)
theorem small64 {n:Int} (h:0 <= n ∧ n <= 1000):In64 n:=⟨by omega,by omega⟩
theorem mt_chk:chkR mtL (chkRl mtR) mtS mtG = 0:=by kernel_rfl
theorem mt_chkR:chkRl mtR = 0:=by kernel_rfl
theorem mt_ok:decide (mtP0.Ok ∧ mtP1.Ok) = true:=by kernel_rfl
theorem mt_h01:holdsT mtP0 mtP1 mtT = false:=by kernel_rfl
theorem mt_h10:holdsT mtP1 mtP0 mtT = true:=by kernel_rfl
theorem mt_prof:profsOf mtL mtS mtG = [mtP0,mtP1]:=rfl
theorem mt_ver {T B:Rl -> Bool} {r b:Int} (h:T ⟨⟨#[99,108,97,115,115]⟩,5,10,mtT⟩ = true ∨ B ⟨⟨#[99,108,97,115,115]⟩,5,10,mtT⟩ = true) (hr:r = firstI mtR 5 T) (hb:b = firstI mtR 5 B):Ver mtR T B 5 r b:=by
 refine ⟨.inr ⟨⟨_,List.mem_cons_self,rfl,h⟩,fun x hx _ => ?_⟩,hr,hb⟩
 simp [mtR] at hx
 subst hx
 exact Int.le_refl _
theorem mt_dec01:decP mtR mtP0 mtP1 = (-1,0):=decV_eq (mt_ver (.inr mt_h10) (by unfold firstI; simp [mtR,mt_h01]) (by unfold firstI; simp [mtR,mt_h10]))
theorem mt_dec10:decP mtR mtP1 mtP0 = (0,-1):=decV_eq (mt_ver (.inl mt_h10) (by unfold firstI; simp [mtR,mt_h10]) (by unfold firstI; simp [mtR,mt_h01]))
theorem mt_e01:decE mtR mtP0 mtP1 = 0:=by
 unfold decE
 rw [if_neg (fun h => h mt_chkR),if_pos (of_decide_eq_true mt_ok)]
theorem mt_e10:decE mtR mtP1 mtP0 = 0:=by
 unfold decE
 rw [if_neg (fun h => h mt_chkR),if_pos ⟨(of_decide_eq_true mt_ok).2,(of_decide_eq_true mt_ok).1⟩]
theorem mt_r01:ruledI mtR mtP0 mtP1 = -1:=by unfold ruledI; rw [if_pos mt_e01,mt_dec01]
theorem mt_r10:ruledI mtR mtP1 mtP0 = 0:=by unfold ruledI; rw [if_pos mt_e10,mt_dec10]
theorem mt_rel:relL mtR (profsOf mtL mtS mtG) = [⟨1,0,0,10⟩]:=by
 rw [mt_prof]
 unfold relL rwR
 have h01:arrF mtR [mtP0,mtP1] 0 1 = []:=by
  unfold arrF
  rw [if_neg]
  show ¬ ruledI mtR mtP0 mtP1 >= 0
  rw [mt_r01]; decide
 have h10:arrF mtR [mtP0,mtP1] 1 0 = [⟨1,0,0,10⟩]:=by
  unfold arrF
  rw [if_pos]
  ·show [(⟨1,0,ruledI mtR mtP1 mtP0,wtOf mtR (ruledI mtR mtP1 mtP0)⟩:Arrow)] = _
   rw [mt_r10]; rfl
  ·show ruledI mtR mtP1 mtP0 >= 0
   rw [mt_r10]; decide
 simp [List.range_succ,h01,h10]
theorem mt_waived:waiveL (relL mtR (profsOf mtL mtS mtG)) [(1,0)] = []:=by
 rw [mt_rel]; rfl
set_option maxRecDepth 100000 in
set_option maxHeartbeats 4000000 in
theorem meeting_spec (w:World):CallsV C.P 23 #[] w fun v w' => (∃ g5 g8 g13,v = .agg #[.slice (some ⟨g5,0,none⟩) mtL.length 4,.slice (some ⟨g8,0,none⟩) mtR.length 1,.int .i64 1,.int .i64 1,.int .i64 0,.int .i64 0,.int .i64 3,.slice (some ⟨g13,0,none⟩) mtG.length 2] ∧
  HF w' (some ⟨g5,0,none⟩) mtL 4 ∧ HRs w' (some ⟨g8,0,none⟩) mtR 1 ∧ Reads w' (some ⟨g13,0,none⟩) (prCells mtG) ∧ w.heap.size <= g5 ∧ g5 < w'.heap.size) ∧ Ext w w':=by
 refine callsV_of C_ok (args:=[]) (plans:=[]) Tryz.func23 rfl Tryz.ntmps23 (by kernel_rfl) (Nat.le_of_ble_eq_true rfl) ?_
 intro g0 w1 h1
 intro g5 w2 h2
 intro g8 w3 h3
 intro g13 w4 h4
 have h2:Alloc w1 g5 (.cells (fcells mtL).toArray 180 (0,0)) w2:=h2
 have h3:Alloc w2 g8 (.cells (mtR.flatMap Rl.cells).toArray 93 (0,0)) w3:=h3
 have h4:Alloc w3 g13 (.cells (prCells mtG).toArray 63 (0,0)) w4:=h4
 have M4:=((((Mem.start w).alloc h1).alloc h2).alloc h3).alloc h4
 refine ⟨rfl,_,_,M4.get 3 rfl,Nat.le_of_ble_eq_true rfl,rfl,?_⟩
 intro w5 h5
 have M5:=M4.put 3 rfl h5
 refine ⟨[.slice (some ⟨g5,0,none⟩) mtL.length 4,.slice (some ⟨g8,0,none⟩) mtR.length 1,.int .i64 1,.int .i64 1,.int .i64 0,.int .i64 0,.int .i64 3,.slice (some ⟨g13,0,none⟩) mtG.length 2],rfl,M5.rd 3 rfl,?_⟩
 refine ⟨⟨g5,g8,g13,rfl,⟨?_,reads_block (M5.get 2 rfl),by decide,by decide⟩,⟨⟨reads_block (M5.get 1 rfl),by decide,by decide⟩,?_⟩,reads_block (M5.get 0 rfl),M5.new 2 rfl,lt_of_heap (M5.get 2 rfl)⟩,M5.ext⟩
 ·intro x hx
  simp [mtL] at hx
  rcases hx with rfl | rfl | rfl | rfl <;> exact ⟨small64 (by decide),small64 (by decide),by decide,small64 (by decide),small64 (by decide),small64 (by decide),small64 (by decide),small64 (by decide),by decide⟩
 ·intro x hx
  simp [mtR] at hx
  subst hx
  exact ⟨by decide,small64 (by decide),small64 (by decide),.mk ⟨by decide,by decide,by decide,small64 (by decide)⟩ (.inl rfl) (by decide) (by decide) (fun y hy => by cases hy)⟩
end Go.Proofs.YtigapannpbaihaaGreat.Rk
namespace Go.Proofs.YtigapannpbaihaaGreat.Rk
open Go.Eng Go.RowKit
def gwM:Waiv:=⟨0,1,21,2,1,0,0,2,9⟩
def gxM:Entry:=⟨3,1,{ gwM with id:=1 },giftZ,0,0,0⟩
theorem gwM_nums:gwM.Nums:=⟨small64 (by decide),small64 (by decide),small64 (by decide),small64 (by decide),small64 (by decide),small64 (by decide),small64 (by decide),small64 (by decide),small64 (by decide)⟩
theorem gm1:doF mtL [] (grantE [] gwM) = 0:=by kernel_rfl
theorem gm2:doF mtL [gxM] (grantE [gxM] gwM) = 61:=by kernel_rfl
theorem gm3:pairsAt [gxM] [⟨11,1⟩,⟨21,2⟩] 3 = [⟨1,0⟩]:=by kernel_rfl
theorem G_grantM {w:World} {l l0:LV} {es es':List Entry} {A:Option Addr} {c:Nat} {f:List Fact} {x:Waiv} {n0 e0:Int} (h:LedgerIs w l es) (hg:l.gl = l0.gl) (hl:es.length <= 400) (hf:HF w A f c) (hfl:f.length <= 2 ^ 20) (hx:x.Nums) (he:doF f es (grantE es x) = e0)
  (hn:(if e0 = 0 then (((waivL es).length + 1:Nat):Int) else 0) = n0) (hes:addL e0 es (grantE es x) = es') :
  CallsV C.P 39 #[l0.ptr,.slice A f.length c,x.val] w fun v w' => ∃ n e:Int,v = .tuple #[.int .i64 n,.int .i64 e] ∧ n = n0 ∧ e = e0 ∧ LdGo w l es' w':=by
 have hp:l0.ptr = l.ptr:=by unfold LV.ptr; rw [hg]
 rw [hp]
 refine (Grant_spec h hl hf hfl hx).mono ?_
 rintro v w' ⟨hv,hgo⟩
 rw [he,hes] at hgo
 exact ⟨_,_,hv,by rw [he]; exact hn,he,hgo⟩
theorem eqP_at (x y:Operand) (p q:IPair) (v:Value) (hv:v = q.val):EqIs C.P .eql 128 x y p.val v (decide (p = q)):=by rw [hv]; exact eqP x y p q
def prOf (p:IPair):Int × Int:=(p.a,p.b)
theorem pr_cells (l:List IPair):l.flatMap IPair.cells = prCells (l.map prOf):=by
 unfold prCells
 rw [List.flatMap_map]
 rfl
theorem rd_mid {w:World} {b o:Nat} (pre ds post:List Value) (h:Rd w b o (pre ++ (ds ++ post))):Rd w b (o + pre.length) ds:=h.part fun i v hv => by
 rw [List.getElem?_append_right (by omega),Nat.add_sub_cancel_left,List.getElem?_append_left (List.getElem?_eq_some_iff.1 hv).1]
 exact hv
set_option maxRecDepth 100000 in
set_option maxHeartbeats 8000000 in
theorem granted_spec (w:World):CallsV C.P 12 #[] w fun v w' => v = .bool true ∧ Ext w w':=by
 refine callsV_of C_ok (args:=[]) (plans:=[]) Tryz.func12 rfl Tryz.ntmps12 (by kernel_rfl) (Nat.le_of_ble_eq_true rfl) ?_
 refine (meeting_spec w).mono ?_
 rintro v w1 ⟨⟨g5,g8,g13,rfl,hf1,hR1,hg1,_,_⟩,e1⟩
 intro g1 w2 h2
 refine ⟨rfl,_,_,h2.here,Nat.le_of_ble_eq_true rfl,rfl,?_⟩
 intro w3 h3
 have e13:Ext w1 w3:=h3.ext_of h2.ext (by rw [h2.new]; exact Nat.le_refl _)
 have hc3:w3.heap[g1]? = some (.cells #[.slice (some ⟨g5,0,none⟩) mtL.length 4,.slice (some ⟨g8,0,none⟩) mtR.length 1,.int .i64 1,.int .i64 1,.int .i64 0,.int .i64 0,.int .i64 3,.slice (some ⟨g13,0,none⟩) mtG.length 2] 30 (0,0)):=h3.here
 have hf3:=hf1.ext e13
 have hR3:=hR1.ext e13
 have hg3:=hg1.ext e13
 clear h2 h3 hf1 hR1 hg1
 refine (New_spec w3).mono ?_
 rintro v w4 ⟨l,rfl,n4⟩
 refine ⟨_,eqNilP _ _ _,?_⟩
 intro g3 w5 h5
 refine ⟨rfl,_,_,h5.here,Nat.le_of_ble_eq_true rfl,rfl,?_⟩
 intro w6 h6
 have hw6:w6.heap[g3]? = some (.cells gwM.cells.toArray 124 (0,0)):=h6.here
 have e46:Ext w4 w6:=h6.ext_of h5.ext (by rw [h5.new]; exact Nat.le_refl _)
 have hng:¬ l.has g3:=fun h => by have:=n4.is.lt h; rw [h5.new] at this; exact Nat.lt_irrefl _ this
 have n6:=n4.then e46
 clear h5 h6
 refine ⟨_,cell_of_block (i:=0) (n6.ext.heap hc3) rfl,?_⟩
 refine ⟨gwM.cells,rfl,Rd.of_block hw6,?_⟩
 refine (G_grantM n6.is rfl (by decide) (hf3.ext n6.ext) (by decide) gwM_nums gm1 (n0:=1) rfl (es':=[gxM]) rfl).mono ?_
 rintro v w7 ⟨rn1,re1,rfl,hrn1,hre1,go7⟩
 have hw7:w7.heap[g3]? = some (.cells gwM.cells.toArray 124 (0,0)):=by
  obtain ⟨l',_,_,hk,_⟩:=go7
  exact hk.heap hng hw6
 obtain ⟨l7,hl7,n7⟩:=n6.go go7
 refine ⟨_,cell_of_block (i:=0) (n7.ext.heap hc3) rfl,?_⟩
 refine ⟨gwM.cells,rfl,Rd.of_block hw7,?_⟩
 refine (G_grantM n7.is hl7 (by decide) (hf3.ext n7.ext) (by decide) gwM_nums gm2 (n0:=0) rfl (es':=[gxM]) rfl).mono ?_
 rintro v w8 ⟨rn2,re2,rfl,hrn2,hre2,go8⟩
 obtain ⟨l8,hl8,n8⟩:=n7.go go8
 have hl8:=hl8.trans hl7
 refine ⟨_,cell_of_block (i:=7) (n8.ext.heap hc3) rfl,?_⟩
 have P8:=Pairs_spec n8.is (by decide) (A:=some ⟨g13,0,none⟩) (g:=[⟨11,1⟩,⟨21,2⟩]) (c:=2) ⟨hg3.ext n8.ext,by decide,by decide⟩ 3
 rw [ptr_eq hl8] at P8
 have q8:=gm3
 generalize pairsAt [gxM] [⟨11,1⟩,⟨21,2⟩] 3 = ps at P8 q8
 refine P8.mono ?_
 rintro v w9 ⟨h9,e9⟩
 have n9:=n8.then e9
 obtain ⟨Ap,cp,rfl,hpr⟩:=h9.hl
 have hpl:ps.length = 1:=by rw [q8]; rfl
 have hpm:ps.map prOf = [(1,0)]:=by rw [q8]; rfl
 have hrp:Reads w9 Ap (prCells (ps.map prOf)):=by rw [<-pr_cells]; exact hpr.reads
 have hc9:=n9.ext.heap hc3
 have hcs:Rd w9 g1 0 ([.slice (some ⟨g5,0,none⟩) mtL.length 4,.slice (some ⟨g8,0,none⟩) mtR.length 1,.int .i64 1,.int .i64 1,.int .i64 0,.int .i64 0,.int .i64 3,.slice (some ⟨g13,0,none⟩) mtG.length 2]):=Rd.of_block hc9
 refine ⟨_,cell_of_block (i:=0) hc9 rfl,?_⟩
 refine ⟨[.slice (some ⟨g8,0,none⟩) mtR.length 1],rfl,rd_mid [_] [_] [_,_,_,_,_,_] hcs,?_⟩
 refine ⟨mtS.cells,rfl,rd_mid [_,_] mtS.cells [_] hcs,?_⟩
 refine ⟨_,cell_of_block (i:=7) hc9 rfl,?_⟩
 have Z:=Relate_spec (hf3.ext n9.ext) (by decide) (hR3.ext n9.ext) mtS (d:=2) (hg3.ext n9.ext) (by intro g hg; simp [mtG] at hg; rcases hg with rfl | rfl <;> exact small64 (by decide)) (ps:=ps.map prOf) (e:=cp)
  (by rw [hpm]; intro p hp; simp at hp; subst hp; exact ⟨small64 (by decide),small64 (by decide)⟩) hrp (by rw [hpm]; decide)
 rw [mt_chk,if_pos rfl,if_pos rfl,hpm,mt_waived,List.length_cons,List.length_nil] at Z
 have hpl2:(ps.length:Nat) = 0 + 1:=hpl
 rw [<-hpl2] at Z
 refine Z.mono ?_
 clear Z
 rintro v w10 ⟨⟨u,rfl,A1,c1,rfl,_⟩,e10⟩
 intro g9 w11 h11
 refine ⟨rfl,_,_,h11.here,Nat.le_of_ble_eq_true rfl,rfl,?_⟩
 intro w12 h12
 have e1012:Ext w10 w12:=h12.ext_of h11.ext (by rw [h11.new]; exact Nat.le_refl _)
 have hr12:=h12.here
 have n12:=(n9.then e10).then e1012
 have hp12:=hpr.ext (e10.trans e1012)
 obtain ⟨bp,op,hAp,hrp2⟩:=hp12.at IPair.len (by omega) (i:=0) (by omega)
 have hp0:ps[0] = ⟨1,0⟩:=by simp [q8]
 obtain ⟨qp,hqp⟩:∃ q:IPair,q = ⟨1,0⟩:=⟨_,rfl⟩
 rw [<-hqp] at hp0
 refine brE_true (decide_eq_true hre1) ?_
 refine brE_true (decide_eq_true hrn1) ?_
 refine brE_true (decide_eq_true hre2) ?_
 refine brE_true (decide_eq_true (by show ((ps.length:Nat):Int) = 1; rw [hpl]; rfl)) ?_
 refine ⟨0,bp,op,rfl,by show 0 < ps.length; omega,hAp,?_⟩
 refine ⟨ps[0].cells,rfl,hrp2,?_⟩
 refine ⟨_,eqP_at _ _ ps[0] qp _ (by rw [hqp]; rfl),?_⟩
 refine brE_true (decide_eq_true hp0) ?_
 refine ⟨_,cell_of_block (i:=1) hr12 rfl,?_⟩
 exact ⟨rfl,(e1.trans e13).trans n12.ext⟩
end Go.Proofs.YtigapannpbaihaaGreat.Rk
namespace Go.Proofs.YtigapannpbaihaaGreat.Rk
open Go.Eng Go.RowKit
def courtCells (A:Option Addr) (f:List Fact) (c:Nat) (R:Option Addr) (l:List Rl) (cl:Nat) (s:Scn) (B:Option Addr) (gs:List (Int × Int)) (d:Nat):List Value :=
 [.slice A f.length c,.slice R l.length cl,.int .i64 s.host,.int .i64 s.lang,.int .i64 s.lot,.int .i64 s.known,.int .i64 s.day,.slice B gs.length d]
set_option maxRecDepth 100000 in
set_option maxHeartbeats 4000000 in
theorem slim_spec {w:World} {A R B:Option Addr} {f:List Fact} {l:List Rl} {c cl d:Nat} {gs:List (Int × Int)} (s:Scn) (hR:HRs w R l cl) (hfc:f.length <= 9223372036854775807) (hgc:gs.length <= 9223372036854775807) :
  CallsV C.P 6 #[.agg (courtCells A f c R l cl s B gs d).toArray] w fun v w' => (∃ b,v = .bool b ∧ (b = true -> f.length <= 30 ∧ gs.length <= 6)) ∧ Ext w w':=by
 have hcap:=hR.hl.cap
 refine callsV_of C_ok (args:=[_]) (plans:=[]) Tryz.func6 rfl Tryz.ntmps6 (by kernel_rfl) (Nat.le_of_ble_eq_true rfl) ?_
 intro g1 w1 h1
 have M1:Mem w w1 [(g1,.cells (courtCells A f c R l cl s B gs d).toArray 30 (0,0))]:=(Mem.start w).alloc h1
 have hc1:w1.heap[g1]? = some (.cells (courtCells A f c R l cl s B gs d).toArray 30 (0,0)):=M1.get 0 rfl
 refine ⟨_,cell_of_block (i:=0) hc1 rfl,?_⟩
 refine brE_dec (fun c1 => ?_) (fun c1 => ?_)
 ·exact ⟨⟨false,rfl,fun h => by cases h⟩,M1.ext⟩
 have c1:¬ ((f.length:Nat):Int) > 30:=c1
 refine ⟨_,cell_of_block (i:=7) hc1 rfl,?_⟩
 refine brE_dec (fun c2 => ?_) (fun c2 => ?_)
 ·exact ⟨⟨false,rfl,fun h => by cases h⟩,M1.ext⟩
 have c2:¬ ((gs.length:Nat):Int) > 6:=c2
 refine ⟨_,cell_of_block (i:=1) hc1 rfl,?_⟩
 refine brE_dec (fun c3 => ?_) (fun c3 => ?_)
 ·exact ⟨⟨false,rfl,fun h => by cases h⟩,M1.ext⟩
 have c3:¬ ((l.length:Nat):Int) > 6:=c3
 refine loopE C_ok (fun (p:Nat × Int) => [(1,.pointer (some ⟨g1,0,none⟩)),(3,.int .i64 p.2),(4,.int .i64 p.1)])
  (fun p W => p.1 <= l.length ∧ 0 <= p.2 ∧ p.2 <= 25 * p.1 ∧ Ext w1 W) (fun p => l.length - p.1) (0,0) ⟨rfl,rfl,rfl,trivial⟩ ⟨Nat.zero_le _,Int.le_refl _,by simp,Ext.refl _⟩ ?_
 rintro ⟨i,n⟩ w2 ⟨hi,hn0,hn1,e2⟩
 simp only at hi hn0 hn1
 have hc2:=e2.heap hc1
 refine ⟨_,cell_of_block (i:=1) hc2 rfl,?_⟩
 refine brE_dec (fun hlt0 => ?_) (fun hge => ?_)
 ·have hlt:i < l.length:=by have:(i:Int) < (l.length:Nat):=hlt0; omega
  clear hlt0
  have hR2:=(hR.ext M1.ext).ext e2
  obtain ⟨b,o,hA,hr⟩:=hR2.at hlt
  refine ⟨_,cell_of_block (i:=1) hc2 rfl,?_⟩
  refine ⟨i,b,o,rfl,hlt,hA,?_⟩
  refine ⟨l[i].test.cells,rfl,hr.part l[i].test_part,?_⟩
  refine (Size_spec (hR2.each _ (List.getElem_mem hlt)).test).mono ?_
  rintro v w3 ⟨⟨k,dd,rfl,_,hk0,hk1⟩,e3⟩
  refine ⟨n + k,fit ⟨by omega,by omega⟩,?_⟩
  refine ⟨((i + 1:Nat):Int),fit ⟨by omega,by omega⟩,?_⟩
  exact ⟨(i + 1,n + k),⟨rfl,rfl,rfl,trivial⟩,⟨hlt,by show 0 <= n + k; omega,by show n + k <= 25 * ((i + 1:Nat):Int); omega,e2.trans e3⟩,by show l.length - (i + 1) < l.length - i; omega⟩
 ·exact ⟨⟨_,rfl,fun _ => ⟨by omega,by omega⟩⟩,M1.ext.trans e2⟩
theorem neqNilP (x y:Operand) (p:Option Addr):EqIs C.P .neq 55 x y (.pointer p) (.pointer none) (!p.isNone):=by
 intro w
 have hu:C.P.underlying 55 = some (.pointer (C.P.pointee 55)):=underL
 have h1:(eqGuard .neq 55 x y (.pointer p) (.pointer none)).run C.P w = .ok () w:=by simp [eqGuard]
 rw [Sem.run_bind,h1]
 simp only [Result.andThen_ok]
 exact run_neq_pointer_nil _ _ _ hu
def doneS (f:List Fact) (es:List Entry) (x:Entry):List Entry:=addL (doF (knownL x.day f) es x) es x
def doneL (f:List Fact) (xs:List Entry) (i:Nat):List Entry:=(xs.take i).foldl (doneS f) []
theorem doneL_succ {f:List Fact} {xs:List Entry} {i:Nat} (h:i < xs.length):doneL f xs (i + 1) = addL (doF (knownL xs[i].day f) (doneL f xs i) xs[i]) (doneL f xs i) xs[i]:=by
 unfold doneL
 rw [List.take_succ_eq_append_getElem h,List.foldl_append]
 rfl
theorem doneL_len (f:List Fact) (xs:List Entry):∀ i,i <= xs.length -> (doneL f xs i).length <= i
 | 0,_ => by simp [doneL]
 | i + 1,h => by
  rw [doneL_succ (by omega)]
  have:=add_length (doF (knownL xs[i].day f) (doneL f xs i) xs[i]) (doneL f xs i) xs[i]
  have:=doneL_len f xs i (by omega)
  omega
set_option maxRecDepth 100000 in
set_option maxHeartbeats 4000000 in
theorem done_spec {w:World} {A B:Option Addr} {f:List Fact} {c d:Nat} {xs:List Entry} (hf:HF w A f c) (hfl:f.length <= 2 ^ 20) (hx:HL Entry.cells w B xs d) (hxl:xs.length <= 400) (hn:∀ x ∈ xs,x.Nums) :
  CallsV C.P 13 #[.slice A f.length c,.slice B xs.length d] w fun v w' => ∃ l:LV,v = l.ptr ∧ LdNew w w' l (doneL f xs xs.length):=by
 refine callsV_of C_ok (args:=[_,_]) (plans:=plans13) Tryz.func13 rfl Tryz.ntmps13 (by kernel_rfl) (Nat.le_of_ble_eq_true rfl) ?_
 refine (New_spec w).mono ?_
 rintro v w1 ⟨l0,rfl,n1⟩
 refine loopE C_ok (fun (i:Nat) => [(0,.slice A f.length c),(1,.slice B xs.length d),(5,l0.ptr),(6,.int .i64 i)])
  (fun i W => i <= xs.length ∧ ∃ l:LV,l.gl = l0.gl ∧ LdNew w W l (doneL f xs i)) (fun i => xs.length - i) 0 ⟨rfl,rfl,rfl,rfl,trivial⟩ ⟨Nat.zero_le _,l0,rfl,n1⟩ ?_
 rintro i w2 ⟨hi,l,hl,n2⟩
 refine brE_dec (fun hlt0 => ?_) (fun hge => ?_)
 ·have hlt:i < xs.length:=by have:(i:Int) < (xs.length:Nat):=hlt0; omega
  clear hlt0
  refine ⟨_,neqNilP _ _ _,?_⟩
  obtain ⟨b,o,hA,hr⟩:=(hx.ext n2.ext).at Entry.len (by omega) hlt
  have hlen:=doneL_len f xs i hi
  have hsucc:=doneL_succ (f:=f) hlt
  refine ⟨i,b,o,rfl,hlt,hA,?_⟩
  refine ⟨_,hr 1 _ rfl,?_⟩
  refine ⟨i,b,o,rfl,hlt,hA,?_⟩
  refine ⟨xs[i].cells,rfl,hr,?_⟩
  refine (Known_spec (hf.ext n2.ext) hfl xs[i].day).mono ?_
  rintro v w3 ⟨h3,e3⟩
  refine ⟨e3,?_⟩
  have n3:=n2.then e3
  obtain ⟨A3,c3,rfl,hf3⟩:=h3.hf (fun x hx => hf.nums x ((List.takeWhile_sublist _).subset hx))
  have D3:=Do_spec n3.is (by omega) (hn _ (List.getElem_mem hlt)) hf3 (Nat.le_trans (List.takeWhile_sublist _).length_le hfl)
  rw [ptr_eq hl] at D3
  refine D3.mono ?_
  rintro v w4 ⟨rfl,go4⟩
  obtain ⟨l4,hl4,n4⟩:=n3.go go4
  refine ⟨((i + 1:Nat):Int),fit ⟨by omega,by omega⟩,?_⟩
  exact ⟨i + 1,⟨rfl,rfl,rfl,rfl,trivial⟩,⟨hlt,l4,hl4.trans hl,by rw [hsucc]; exact n4⟩,by omega⟩
 ·have:i = xs.length:=by have:¬ (i:Int) < (xs.length:Nat):=hge; omega
  subst this
  exact ⟨l,(ptr_eq hl).symm,n2⟩
end Go.Proofs.YtigapannpbaihaaGreat.Rk
namespace Go.Proofs.YtigapannpbaihaaGreat.Rk
open Go.Eng Go.RowKit
theorem form_parts {x:Fact} (h:formE x = 0):headB x = true ∧ rightB x = true:=by
 unfold formE at h
 split at h
 ·next hb =>
  rw [Bool.and_eq_true,Bool.and_eq_true] at hb
  exact ⟨hb.1.1,hb.2⟩
 ·cases h
theorem credL_range {a:List Fact} (hf:∀ x ∈ a,formE x = 0) (p s:Int):0 <= credL a p s ∧ credL a p s <= 100001:=by
 unfold credL
 split
 ·next x hx =>
  have hm:x ∈ a:=(List.mem_filter.1 (List.mem_of_getLast? hx)).1
  have hh:=(form_parts (hf x hm)).1
  unfold headB at hh
  simp only [Bool.and_eq_true,decide_eq_true_iff] at hh
  omega
 ·omega
theorem relL_valid {l:List Rl} {p:List Prof} (hp:p.length <= 24) (hz:chkRl l = 0):Valid ((p.length:Nat):Int) (relL l p):=by
 obtain ⟨hl,hgood⟩:=chkRl_zero hz
 refine valid_of (by omega) (by omega) (fun x hx => ?_) (relL_sorted l p)
 obtain ⟨a,b,ha,hb,hab,e1,e2,n,hn,e3,e4,_⟩:=relL_mem hx
 have hw:=(hgood _ (List.getElem_mem hn)).2.2
 unfold goodA
 simp only [Bool.and_eq_true,Bool.not_eq_true',decide_eq_true_iff,decide_eq_false_iff_not]
 omega
end Go.Proofs.YtigapannpbaihaaGreat.Rk
namespace Go.Proofs.YtigapannpbaihaaGreat.Rk
open Go.Eng Go.RowKit
theorem relO {w:World} {B:Nat} {N:Int} {A:Option Addr} {X:List Arrow} {c:Nat} (ho:w.ownsRow B 189 4 (.slice A X.length c) X.length (arrows X)) (hN:In64 N) (hx:∀ x ∈ X,In64 x.fr ∧ In64 x.to ∧ In64 x.rule ∧ In64 x.wt) (hl:X.length <= 2 ^ 40):HRel w N A X c:=by
 obtain ⟨A',c',e,hr,hc⟩:=reads_of_owns ho
 cases e
 exact ⟨hN,hx,hr,hc,by omega⟩
def gOf (g:Int × Int):Guest:=⟨g.1,g.2⟩
theorem g_cells (gs:List (Int × Int)):(gs.map gOf).flatMap Guest.cells = prCells gs:=by
 unfold prCells
 rw [List.flatMap_map]
 rfl
theorem g_part {w:World} {B:Option Addr} {gs:List (Int × Int)} (h:Reads w B (prCells gs)) {i:Nat} (hi:i < gs.length):∃ b o,B = some ⟨b,o,none⟩ ∧ Rd w b (o + i * 2) (gOf gs[i]).cells :=
 Reads.elem (enc:=fun p:Int × Int => (gOf p).cells) (k:=2) (fun _ => rfl) (by omega) h hi
def psOf (es:List Entry) (gs:List (Int × Int)) (day:Int):List (Int × Int):=(pairsAt es (gs.map gOf) day).map prOf
theorem ps_small {es:List Entry} {gs:List (Int × Int)} {day:Int} (h:gs.length <= 24):∀ p ∈ psOf es gs day,∃ a b:Nat,a < gs.length ∧ b < gs.length ∧ p = ((a:Int),(b:Int)):=by
 intro p hp
 obtain ⟨q,hq,rfl⟩:=List.mem_map.1 hp
 unfold pairsAt at hq
 rw [if_neg (by rw [List.length_map]; omega)] at hq
 unfold Go.Proofs.YtigapannpbaihaaGreat.pairsL at hq
 obtain ⟨a,ha,hq⟩:=List.mem_flatMap.1 hq
 unfold rowPairs at hq
 obtain ⟨b,hb,hq⟩:=List.mem_flatMap.1 hq
 split at hq
 ·rw [List.mem_singleton.1 hq]
  refine ⟨a,b,?_,?_,rfl⟩
  ·simpa using ha
  ·simpa using hb
 ·cases hq
theorem ps_len {es:List Entry} {gs:List (Int × Int)} {day:Int} (h:gs.length <= 24):(psOf es gs day).length <= 24 * 24:=by
 unfold psOf
 rw [List.length_map]
 unfold pairsAt
 rw [if_neg (by rw [List.length_map]; omega)]
 have:=pairsTo_len (waiversAt es day) (gs.map gOf) (gs.map gOf).length
 have h2:(gs.map gOf).length <= 24:=by rw [List.length_map]; exact h
 exact Nat.le_trans this (Nat.mul_le_mul h2 h2)
theorem ps_covers {es:List Entry} {gs:List (Int × Int)} {day:Int} (h:gs.length <= 24) {a b:Nat} (ha:a < gs.length) (hb:b < gs.length) (hp:((a:Int),(b:Int)) ∈ psOf es gs day):coversAt es (gOf gs[a]) (gOf gs[b]) day = true:=by
 obtain ⟨q,hq,e⟩:=List.mem_map.1 hp
 have hq':=hq
 unfold pairsAt at hq
 rw [if_neg (by rw [List.length_map]; omega)] at hq
 have hh:=pairs_has (ws:=waiversAt es day) (g:=gs.map gOf) (a:=a) (b:=b) (by simpa using ha) (by simpa using hb)
 have e2:q = ⟨(a:Int),(b:Int)⟩:=by
  obtain ⟨qa,qb⟩:=q
  unfold prOf at e
  simp at e
  rw [e.1,e.2]
 have h1:(Go.Proofs.YtigapannpbaihaaGreat.pairsL (waiversAt es day) (gs.map gOf)).any (fun p => decide (p = ⟨(a:Int),(b:Int)⟩)) = true:=List.any_eq_true.2 ⟨q,hq,decide_eq_true e2⟩
 rw [h1] at hh
 unfold coversAt
 rw [List.getElem_map,List.getElem_map] at hh
 exact hh.symm
theorem excepted {X:List Arrow} {N:Int} {es:List Entry} {gs:List (Int × Int)} {day:Int} (hN:N = (gs.length:Nat)) (hg:gs.length <= 24) (hv:Valid N X) {a:Arrow} (ha:a ∈ X) (hs:slB (natI (leastL N (waiveL X (psOf es gs day)))) a = true)
  {p q:Nat} (hp:a.fr = (p:Nat)) (hq:a.to = (q:Nat)) (hpn:p < gs.length) (hqn:q < gs.length):coversAt es (gOf gs[p]) (gOf gs[q]) day = true ∨ standS N (waiveL X (psOf es gs day)) (p:Nat) (q:Nat) = 3:=by
 by_cases hm:((p:Int),(q:Int)) ∈ psOf es gs day
 ·exact .inl (ps_covers hg hpn hqn hm)
 ·have h:=slight_contrary (N:=N) (ys:=waiveL X (psOf es gs day)) (hv.filter _) (waive_mem.2 ⟨ha,by rw [hp,hq]; exact hm⟩) hs
  rw [hp,hq] at h
  exact .inr h
theorem slTo_at {l:List Int} {xs:List Arrow} {i:Nat} (hi:i < (slTo l xs xs.length).length):∃ a ∈ xs,slB l a = true ∧ (slTo l xs xs.length)[i] = Sl.of a:=by
 have hm:(slTo l xs xs.length)[i] ∈ slTo l xs xs.length:=List.getElem_mem hi
 generalize (slTo l xs xs.length)[i] = y at hm
 unfold slTo at hm
 rw [List.take_length] at hm
 obtain ⟨a,ha,rfl⟩:=List.mem_map.1 hm
 obtain ⟨h1,h2⟩:=List.mem_filter.1 ha
 exact ⟨a,h1,h2,rfl⟩
theorem Sl.len (x:Sl):x.cells.length = 3:=rfl
structure TopIn (w W:World) (l:LV) (es:List Entry) (cc:List Value) (N:Int) (X Y:List Arrow) (g2 g6 g8:Nat) (A1 A2:Option Addr) (c1 c2:Nat):Prop where
 ext:Ext w W
 led:LedgerIs W l es
 court:W.heap[g2]? = some (.cells cc.toArray 30 (0,0))
 r1:W.heap[g6]? = some (.cells #[.int .i64 N,.slice A1 X.length c1] 36 (0,0))
 r2:W.heap[g8]? = some (.cells #[.int .i64 N,.slice A2 Y.length c2] 36 (0,0))
 h1:HRel W N A1 X c1
 h2:HRel W N A2 Y c2
theorem TopIn.grow {w W W':World} {l:LV} {es:List Entry} {cc:List Value} {N:Int} {X Y:List Arrow} {g2 g6 g8:Nat} {A1 A2:Option Addr} {c1 c2:Nat} (h:TopIn w W l es cc N X Y g2 g6 g8 A1 A2 c1 c2) (e:Ext W W'):TopIn w W' l es cc N X Y g2 g6 g8 A1 A2 c1 c2 :=
 ⟨h.ext.trans e,h.led.ext e,e.heap h.court,e.heap h.r1,e.heap h.r2,h.h1.ext e,h.h2.ext e⟩
end Go.Proofs.YtigapannpbaihaaGreat.Rk
namespace Go.Proofs.YtigapannpbaihaaGreat.Rk
open Go.Eng Go.RowKit Go.ChangeShapes Go.WideShapes Go.ChangeAt
section
variable {H:Type} {enc:TypeId × Value -> H} {W:World}
theorem dropSplit {α:Type} (l:List α) (i k:Nat):l.drop i = (l.drop i).take k ++ l.drop (i + k):=by
 rw [<-List.drop_drop]; exact (List.take_append_drop k (l.drop i)).symm
theorem open_i3 {base n:Nat} {spare:Nat -> Bool} {held:Bool} {cs:List Value} {x:DataW H × List MemPlace} (h:DataW.trod enc Tryz.prog W base spare held n 3 cs = some x):∃ z:Int,cs = [.int .i64 z] ∧ In64 z:=by
 obtain ⟨z,e,_,wz⟩:=DataW.trod_int under3 h
 exact ⟨z,e,wf_in64 wz⟩
theorem open_i5 {base n:Nat} {spare:Nat -> Bool} {held:Bool} {cs:List Value} {x:DataW H × List MemPlace} (h:DataW.trod enc Tryz.prog W base spare held n 5 cs = some x):∃ z:Int,cs = [.int .u8 z] ∧ 0 <= z ∧ z <= 255:=by
 obtain ⟨z,e,_,wz⟩:=DataW.trod_int under5 h
 exact ⟨z,e,wf_u8 wz⟩
theorem cellsW:Tryz.prog.cellsOf 124 = 9:=by kernel_rfl
theorem open_cW {base n:Nat} {spare:Nat -> Bool} {held:Bool} {cs:List Value} {x:DataW H × List MemPlace} (h:DataW.trod enc Tryz.prog W base spare held n 124 cs = some x):∃ y:Waiv,cs = y.cells ∧ y.Nums:=by
 obtain ⟨xs,n',_,_,hlen,hxs,hg⟩:=DataW.trod_struct underW h
 rw [cellsW] at hlen
 have some_:∀ i,i < 9 -> ∃ y,xs[i]? = some y:=fun i hi => ⟨_,List.getElem?_eq_getElem (by rw [hxs]; exact hi)⟩
 have f0:DataW.trod enc Tryz.prog W base spare held n' 3 ((cs.drop 0).take (Tryz.prog.cellsOf 3)) = xs[0]?:=hg 0 _ rfl
 obtain ⟨y0,hy0⟩:=some_ 0 (by omega)
 rw [hy0,cells3] at f0
 obtain ⟨z0,e0,n0⟩:=open_i3 f0
 have f1:DataW.trod enc Tryz.prog W base spare held n' 3 ((cs.drop 1).take (Tryz.prog.cellsOf 3)) = xs[1]?:=hg 1 _ rfl
 obtain ⟨y1,hy1⟩:=some_ 1 (by omega)
 rw [hy1,cells3] at f1
 obtain ⟨z1,e1,n1⟩:=open_i3 f1
 have f2:DataW.trod enc Tryz.prog W base spare held n' 3 ((cs.drop 2).take (Tryz.prog.cellsOf 3)) = xs[2]?:=hg 2 _ rfl
 obtain ⟨y2,hy2⟩:=some_ 2 (by omega)
 rw [hy2,cells3] at f2
 obtain ⟨z2,e2,n2⟩:=open_i3 f2
 have f3:DataW.trod enc Tryz.prog W base spare held n' 3 ((cs.drop 3).take (Tryz.prog.cellsOf 3)) = xs[3]?:=hg 3 _ rfl
 obtain ⟨y3,hy3⟩:=some_ 3 (by omega)
 rw [hy3,cells3] at f3
 obtain ⟨z3,e3,n3⟩:=open_i3 f3
 have f4:DataW.trod enc Tryz.prog W base spare held n' 3 ((cs.drop 4).take (Tryz.prog.cellsOf 3)) = xs[4]?:=hg 4 _ rfl
 obtain ⟨y4,hy4⟩:=some_ 4 (by omega)
 rw [hy4,cells3] at f4
 obtain ⟨z4,e4,n4⟩:=open_i3 f4
 have f5:DataW.trod enc Tryz.prog W base spare held n' 3 ((cs.drop 5).take (Tryz.prog.cellsOf 3)) = xs[5]?:=hg 5 _ rfl
 obtain ⟨y5,hy5⟩:=some_ 5 (by omega)
 rw [hy5,cells3] at f5
 obtain ⟨z5,e5,n5⟩:=open_i3 f5
 have f6:DataW.trod enc Tryz.prog W base spare held n' 3 ((cs.drop 6).take (Tryz.prog.cellsOf 3)) = xs[6]?:=hg 6 _ rfl
 obtain ⟨y6,hy6⟩:=some_ 6 (by omega)
 rw [hy6,cells3] at f6
 obtain ⟨z6,e6,n6⟩:=open_i3 f6
 have f7:DataW.trod enc Tryz.prog W base spare held n' 3 ((cs.drop 7).take (Tryz.prog.cellsOf 3)) = xs[7]?:=hg 7 _ rfl
 obtain ⟨y7,hy7⟩:=some_ 7 (by omega)
 rw [hy7,cells3] at f7
 obtain ⟨z7,e7,n7⟩:=open_i3 f7
 have f8:DataW.trod enc Tryz.prog W base spare held n' 3 ((cs.drop 8).take (Tryz.prog.cellsOf 3)) = xs[8]?:=hg 8 _ rfl
 obtain ⟨y8,hy8⟩:=some_ 8 (by omega)
 rw [hy8,cells3] at f8
 obtain ⟨z8,e8,n8⟩:=open_i3 f8
 have hc:cs = (cs.drop 0).take 1 ++ ((cs.drop 1).take 1 ++ ((cs.drop 2).take 1 ++ ((cs.drop 3).take 1 ++ ((cs.drop 4).take 1 ++ ((cs.drop 5).take 1 ++ ((cs.drop 6).take 1 ++ ((cs.drop 7).take 1 ++ ((cs.drop 8).take 1 ++ cs.drop 9)))))))):=by
  have h0:cs = cs.drop 0:=rfl
  have h1:=dropSplit cs 0 1
  have h2:=dropSplit cs 1 1
  have h3:=dropSplit cs 2 1
  have h4:=dropSplit cs 3 1
  have h5:=dropSplit cs 4 1
  have h6:=dropSplit cs 5 1
  have h7:=dropSplit cs 6 1
  have h8:=dropSplit cs 7 1
  have h9:=dropSplit cs 8 1
  conv => lhs; rw [h0,h1]
  rw [show 0 + 1 = 1 from rfl]
  conv => lhs; rw [h2]
  rw [show 1 + 1 = 2 from rfl]
  conv => lhs; rw [h3]
  rw [show 2 + 1 = 3 from rfl]
  conv => lhs; rw [h4]
  rw [show 3 + 1 = 4 from rfl]
  conv => lhs; rw [h5]
  rw [show 4 + 1 = 5 from rfl]
  conv => lhs; rw [h6]
  rw [show 5 + 1 = 6 from rfl]
  conv => lhs; rw [h7]
  rw [show 6 + 1 = 7 from rfl]
  conv => lhs; rw [h8]
  rw [show 7 + 1 = 8 from rfl]
  conv => lhs; rw [h9]
 rw [List.drop_eq_nil_of_le (by omega:cs.length <= 9),e0,e1,e2,e3,e4,e5,e6,e7,e8] at hc
 refine ⟨⟨z0,z1,z2,z3,z4,z5,z6,z7,z8⟩,hc.trans ?_,⟨n0,n1,n2,n3,n4,n5,n6,n7,n8⟩⟩
 rfl
theorem cellsG:Tryz.prog.cellsOf 132 = 10:=by kernel_rfl
theorem open_cG {base n:Nat} {spare:Nat -> Bool} {held:Bool} {cs:List Value} {x:DataW H × List MemPlace} (h:DataW.trod enc Tryz.prog W base spare held n 132 cs = some x):∃ y:Gift,cs = y.cells ∧ y.Nums:=by
 obtain ⟨xs,n',_,_,hlen,hxs,hg⟩:=DataW.trod_struct underG h
 rw [cellsG] at hlen
 have some_:∀ i,i < 10 -> ∃ y,xs[i]? = some y:=fun i hi => ⟨_,List.getElem?_eq_getElem (by rw [hxs]; exact hi)⟩
 have f0:DataW.trod enc Tryz.prog W base spare held n' 3 ((cs.drop 0).take (Tryz.prog.cellsOf 3)) = xs[0]?:=hg 0 _ rfl
 obtain ⟨y0,hy0⟩:=some_ 0 (by omega)
 rw [hy0,cells3] at f0
 obtain ⟨z0,e0,n0⟩:=open_i3 f0
 have f1:DataW.trod enc Tryz.prog W base spare held n' 3 ((cs.drop 1).take (Tryz.prog.cellsOf 3)) = xs[1]?:=hg 1 _ rfl
 obtain ⟨y1,hy1⟩:=some_ 1 (by omega)
 rw [hy1,cells3] at f1
 obtain ⟨z1,e1,n1⟩:=open_i3 f1
 have f2:DataW.trod enc Tryz.prog W base spare held n' 3 ((cs.drop 2).take (Tryz.prog.cellsOf 3)) = xs[2]?:=hg 2 _ rfl
 obtain ⟨y2,hy2⟩:=some_ 2 (by omega)
 rw [hy2,cells3] at f2
 obtain ⟨z2,e2,n2⟩:=open_i3 f2
 have f3:DataW.trod enc Tryz.prog W base spare held n' 3 ((cs.drop 3).take (Tryz.prog.cellsOf 3)) = xs[3]?:=hg 3 _ rfl
 obtain ⟨y3,hy3⟩:=some_ 3 (by omega)
 rw [hy3,cells3] at f3
 obtain ⟨z3,e3,n3⟩:=open_i3 f3
 have f4:DataW.trod enc Tryz.prog W base spare held n' 5 ((cs.drop 4).take (Tryz.prog.cellsOf 5)) = xs[4]?:=hg 4 _ rfl
 obtain ⟨y4,hy4⟩:=some_ 4 (by omega)
 rw [hy4,cells5] at f4
 obtain ⟨z4,e4,n4⟩:=open_i5 f4
 have f5:DataW.trod enc Tryz.prog W base spare held n' 3 ((cs.drop 5).take (Tryz.prog.cellsOf 3)) = xs[5]?:=hg 5 _ rfl
 obtain ⟨y5,hy5⟩:=some_ 5 (by omega)
 rw [hy5,cells3] at f5
 obtain ⟨z5,e5,n5⟩:=open_i3 f5
 have f6:DataW.trod enc Tryz.prog W base spare held n' 3 ((cs.drop 6).take (Tryz.prog.cellsOf 3)) = xs[6]?:=hg 6 _ rfl
 obtain ⟨y6,hy6⟩:=some_ 6 (by omega)
 rw [hy6,cells3] at f6
 obtain ⟨z6,e6,n6⟩:=open_i3 f6
 have f7:DataW.trod enc Tryz.prog W base spare held n' 5 ((cs.drop 7).take (Tryz.prog.cellsOf 5)) = xs[7]?:=hg 7 _ rfl
 obtain ⟨y7,hy7⟩:=some_ 7 (by omega)
 rw [hy7,cells5] at f7
 obtain ⟨z7,e7,n7⟩:=open_i5 f7
 have f8:DataW.trod enc Tryz.prog W base spare held n' 3 ((cs.drop 8).take (Tryz.prog.cellsOf 3)) = xs[8]?:=hg 8 _ rfl
 obtain ⟨y8,hy8⟩:=some_ 8 (by omega)
 rw [hy8,cells3] at f8
 obtain ⟨z8,e8,n8⟩:=open_i3 f8
 have f9:DataW.trod enc Tryz.prog W base spare held n' 3 ((cs.drop 9).take (Tryz.prog.cellsOf 3)) = xs[9]?:=hg 9 _ rfl
 obtain ⟨y9,hy9⟩:=some_ 9 (by omega)
 rw [hy9,cells3] at f9
 obtain ⟨z9,e9,n9⟩:=open_i3 f9
 have hc:cs = (cs.drop 0).take 1 ++ ((cs.drop 1).take 1 ++ ((cs.drop 2).take 1 ++ ((cs.drop 3).take 1 ++ ((cs.drop 4).take 1 ++ ((cs.drop 5).take 1 ++ ((cs.drop 6).take 1 ++ ((cs.drop 7).take 1 ++ ((cs.drop 8).take 1 ++ ((cs.drop 9).take 1 ++ cs.drop 10))))))))):=by
  have h0:cs = cs.drop 0:=rfl
  have h1:=dropSplit cs 0 1
  have h2:=dropSplit cs 1 1
  have h3:=dropSplit cs 2 1
  have h4:=dropSplit cs 3 1
  have h5:=dropSplit cs 4 1
  have h6:=dropSplit cs 5 1
  have h7:=dropSplit cs 6 1
  have h8:=dropSplit cs 7 1
  have h9:=dropSplit cs 8 1
  have h10:=dropSplit cs 9 1
  conv => lhs; rw [h0,h1]
  rw [show 0 + 1 = 1 from rfl]
  conv => lhs; rw [h2]
  rw [show 1 + 1 = 2 from rfl]
  conv => lhs; rw [h3]
  rw [show 2 + 1 = 3 from rfl]
  conv => lhs; rw [h4]
  rw [show 3 + 1 = 4 from rfl]
  conv => lhs; rw [h5]
  rw [show 4 + 1 = 5 from rfl]
  conv => lhs; rw [h6]
  rw [show 5 + 1 = 6 from rfl]
  conv => lhs; rw [h7]
  rw [show 6 + 1 = 7 from rfl]
  conv => lhs; rw [h8]
  rw [show 7 + 1 = 8 from rfl]
  conv => lhs; rw [h9]
  rw [show 8 + 1 = 9 from rfl]
  conv => lhs; rw [h10]
 rw [List.drop_eq_nil_of_le (by omega:cs.length <= 10),e0,e1,e2,e3,e4,e5,e6,e7,e8,e9] at hc
 refine ⟨⟨z0,z1,z2,z3,z4,z5,z6,z7,z8,z9⟩,hc.trans ?_,⟨n0,n1,n2,n3,n4,n5,n6,n7,n8,n9⟩⟩
 rfl
theorem cellsEn:Tryz.prog.cellsOf 134 = 24:=by kernel_rfl
theorem open_cE {base n:Nat} {spare:Nat -> Bool} {held:Bool} {cs:List Value} {x:DataW H × List MemPlace} (h:DataW.trod enc Tryz.prog W base spare held n 134 cs = some x):∃ y:Entry,cs = y.cells ∧ y.Nums:=by
 obtain ⟨xs,n',_,_,hlen,hxs,hg⟩:=DataW.trod_struct underE h
 rw [cellsEn] at hlen
 have some_:∀ i,i < 7 -> ∃ y,xs[i]? = some y:=fun i hi => ⟨_,List.getElem?_eq_getElem (by rw [hxs]; exact hi)⟩
 have f0:DataW.trod enc Tryz.prog W base spare held n' 5 ((cs.drop 0).take (Tryz.prog.cellsOf 5)) = xs[0]?:=hg 0 _ rfl
 obtain ⟨y0,hy0⟩:=some_ 0 (by omega)
 rw [hy0,cells5] at f0
 obtain ⟨z0,e0,n0⟩:=open_i5 f0
 have f1:DataW.trod enc Tryz.prog W base spare held n' 3 ((cs.drop 1).take (Tryz.prog.cellsOf 3)) = xs[1]?:=hg 1 _ rfl
 obtain ⟨y1,hy1⟩:=some_ 1 (by omega)
 rw [hy1,cells3] at f1
 obtain ⟨z1,e1,n1⟩:=open_i3 f1
 have f2:DataW.trod enc Tryz.prog W base spare held n' 124 ((cs.drop 2).take (Tryz.prog.cellsOf 124)) = xs[2]?:=hg 2 _ rfl
 obtain ⟨y2,hy2⟩:=some_ 2 (by omega)
 rw [hy2,cellsW] at f2
 obtain ⟨z2,e2,n2⟩:=open_cW f2
 have f3:DataW.trod enc Tryz.prog W base spare held n' 132 ((cs.drop 11).take (Tryz.prog.cellsOf 132)) = xs[3]?:=hg 3 _ rfl
 obtain ⟨y3,hy3⟩:=some_ 3 (by omega)
 rw [hy3,cellsG] at f3
 obtain ⟨z3,e3,n3⟩:=open_cG f3
 have f4:DataW.trod enc Tryz.prog W base spare held n' 3 ((cs.drop 21).take (Tryz.prog.cellsOf 3)) = xs[4]?:=hg 4 _ rfl
 obtain ⟨y4,hy4⟩:=some_ 4 (by omega)
 rw [hy4,cells3] at f4
 obtain ⟨z4,e4,n4⟩:=open_i3 f4
 have f5:DataW.trod enc Tryz.prog W base spare held n' 3 ((cs.drop 22).take (Tryz.prog.cellsOf 3)) = xs[5]?:=hg 5 _ rfl
 obtain ⟨y5,hy5⟩:=some_ 5 (by omega)
 rw [hy5,cells3] at f5
 obtain ⟨z5,e5,n5⟩:=open_i3 f5
 have f6:DataW.trod enc Tryz.prog W base spare held n' 3 ((cs.drop 23).take (Tryz.prog.cellsOf 3)) = xs[6]?:=hg 6 _ rfl
 obtain ⟨y6,hy6⟩:=some_ 6 (by omega)
 rw [hy6,cells3] at f6
 obtain ⟨z6,e6,n6⟩:=open_i3 f6
 have hc:cs = (cs.drop 0).take 1 ++ ((cs.drop 1).take 1 ++ ((cs.drop 2).take 9 ++ ((cs.drop 11).take 10 ++ ((cs.drop 21).take 1 ++ ((cs.drop 22).take 1 ++ ((cs.drop 23).take 1 ++ cs.drop 24)))))):=by
  have h0:cs = cs.drop 0:=rfl
  have h1:=dropSplit cs 0 1
  have h2:=dropSplit cs 1 1
  have h3:=dropSplit cs 2 9
  have h4:=dropSplit cs 11 10
  have h5:=dropSplit cs 21 1
  have h6:=dropSplit cs 22 1
  have h7:=dropSplit cs 23 1
  conv => lhs; rw [h0,h1]
  rw [show 0 + 1 = 1 from rfl]
  conv => lhs; rw [h2]
  rw [show 1 + 1 = 2 from rfl]
  conv => lhs; rw [h3]
  rw [show 2 + 9 = 11 from rfl]
  conv => lhs; rw [h4]
  rw [show 11 + 10 = 21 from rfl]
  conv => lhs; rw [h5]
  rw [show 21 + 1 = 22 from rfl]
  conv => lhs; rw [h6]
  rw [show 22 + 1 = 23 from rfl]
  conv => lhs; rw [h7]
 rw [List.drop_eq_nil_of_le (by omega:cs.length <= 24),e0,e1,e2,e3,e4,e5,e6] at hc
 refine ⟨⟨z0,z1,z2,z3,z4,z5,z6⟩,hc.trans ?_,⟨n0,n1,n2,n3,n4,n5,n6⟩⟩
 simp [Entry.cells,Opn.cells,Waiv.cells,Gift.cells]
theorem underEs:Tryz.prog.underlying 54 = some (.slice 134):=by kernel_rfl
theorem recEs:Tryz.prog.readableRec 54 = true:=by kernel_rfl
theorem rowEs:(54:TypeId) < Tryz.prog.types.size:=of_decide_eq_true (by kernel_rfl)
theorem recCt:Tryz.prog.readableRec 30 = true:=by kernel_rfl
theorem rowCt:(30:TypeId) < Tryz.prog.types.size:=of_decide_eq_true (by kernel_rfl)
theorem cellsCt:Tryz.prog.cellsOf 30 = 8:=by kernel_rfl
theorem cellsFs1:Tryz.prog.cellsOf 22 = 1:=by kernel_rfl
theorem cellsGs1:Tryz.prog.cellsOf 28 = 1:=by kernel_rfl
theorem underCt:Tryz.prog.underlying 30 = some (.struct #[⟨ "Facts",22,0,false, "", "",0⟩,⟨ "Rules",25,1,false, "", "",24⟩,⟨ "Scene",27,2,false, "", "",48⟩,⟨ "Guests",28,7,false, "", "",88⟩]):=by kernel_rfl
theorem spot_int {a:Addr} {k:IntKind} {z:Int} (h:W.cell? a = some (.int k z)):a.spot = none:=by
 unfold World.cell? at h
 cases hsp:a.spot with
 | none => rfl
 | some s =>
  simp only [hsp] at h
  split at h <;> simp at h
theorem spot_str {a:Addr} {z:ByteArray} (h:W.cell? a = some (.string z)):a.spot = none:=by
 unfold World.cell? at h
 cases hsp:a.spot with
 | none => rfl
 | some s =>
  simp only [hsp] at h
  split at h <;> simp at h
theorem fuel_pos {n:Nat} {T:Nat} {cs:List Value} {y:DataW H × List MemPlace} (h:DataW.trod enc Tryz.prog W 0 (fun _ => true) true n T cs = some y):∃ m,n = m + 1:=by
 cases n with
 | zero => simp [DataW.trod] at h
 | succ m => exact ⟨m,rfl⟩
set_option maxRecDepth 100000 in
theorem open_entries {v:Value} {d:DataW H} {p:List MemPlace} {b0:Nat} (hv:Value.okWide Tryz.prog W .any b0 54 v) (h:DataW.Trod enc Tryz.prog W 0 (fun _ => true) true 54 v d p) :
  ∃ A l c,v = .slice A l.length c ∧ HL Entry.cells W A l c ∧ ∀ x ∈ l,x.Nums:=by
 obtain ⟨a0,len0,cap0,rfl⟩:=okWide_slice underEs hv
 obtain ⟨fuel,hf⟩:=h
 obtain ⟨m,rfl⟩:=fuel_pos hf
 obtain ⟨A,l,c,q,hHL,hk⟩:=open_row (ec:=Entry.cells) (k:=24) (n:=m) (Pn:=fun x:Entry => x.Nums) Entry.len (by omega) (fun a y h2 => spot_int (k:=.u8) (z:=y.kind) h2) underEs cellsEn (fun hh => open_cE hh) hf
 refine ⟨A,l,c,?_,hHL,hk⟩
 have q:[Value.slice a0 len0 cap0] = [.slice A l.length c]:=q
 simpa using q
set_option maxRecDepth 100000 in
theorem open_rulesF {n:Nat} {cs:List Value} {x:DataW H × List MemPlace} (h:DataW.trod enc Tryz.prog W 0 (fun _ => true) true n 25 cs = some x):∃ R l c,cs = [.slice R l.length c] ∧ HRs W R l c:=by
 obtain ⟨xs,n',_,_,hlen,hxs,hg⟩:=DataW.trod_struct underRs h
 rw [cellsRs] at hlen
 obtain ⟨y0,hy0⟩:∃ y,xs[0]? = some y:=⟨_,List.getElem?_eq_getElem (by rw [hxs]; exact Nat.zero_lt_one)⟩
 have f0:DataW.trod enc Tryz.prog W 0 (fun _ => true) true n' 23 ((cs.drop 0).take (Tryz.prog.cellsOf 23)) = xs[0]?:=hg 0 _ rfl
 rw [cellsRls,hy0] at f0
 obtain ⟨m,rfl⟩:=fuel_pos f0
 obtain ⟨R,l,c,q,hHL,hk⟩:=open_row (ec:=Rl.cells) (k:=8) (n:=m) (Pn:=RuleIs W) Rl.len (by omega) (fun a y h2 => spot_str (z:=y.name) h2) underRls cellsRl (fun hh => open_rule hh) f0
 rw [List.drop_zero,List.take_of_length_le (by omega)] at q
 exact ⟨R,l,c,q,hHL,hk⟩
set_option maxRecDepth 100000 in
theorem open_sceneF {n:Nat} {cs:List Value} {x:DataW H × List MemPlace} (h:DataW.trod enc Tryz.prog W 0 (fun _ => true) true n 27 cs = some x):∃ s:Scn,cs = s.cells:=by
 obtain ⟨xs,n',_,_,hlen,hxs,hg⟩:=DataW.trod_struct underSc h
 rw [cellsSc] at hlen
 obtain ⟨a,b,c,d',e,rfl⟩:=list5' hlen
 have get:∀ (i:Nat) (u:Value) (f:Field),(#[⟨ "Host",3,0,false, "", "",0⟩,⟨ "Lang",3,1,false, "", "",8⟩,⟨ "Lot",3,2,false, "", "",16⟩,⟨ "Known",3,3,false, "", "",24⟩,⟨ "Day",3,4,false, "", "",32⟩]:Array Field)[i]? = some f -> f.type = 3 -> i < 5 →
   ((([a,b,c,d',e]:List Value).drop f.offset).take 1) = [u] -> ∃ z:Int,u = .int .i64 z:=by
  intro i u f hi h3 hi5 hu
  have:=hg i f hi
  rw [h3,cells3,hu] at this
  have hx:i < xs.length:=by rw [hxs]; simpa using hi5
  rw [List.getElem?_eq_getElem hx] at this
  obtain ⟨z,e1,_,wz⟩:=DataW.trod_int under3 this
  simp at e1
  exact ⟨z,e1⟩
 obtain ⟨z0,rfl⟩:=get 0 a _ rfl rfl (by omega) rfl
 obtain ⟨z1,rfl⟩:=get 1 b _ rfl rfl (by omega) rfl
 obtain ⟨z2,rfl⟩:=get 2 c _ rfl rfl (by omega) rfl
 obtain ⟨z3,rfl⟩:=get 3 d' _ rfl rfl (by omega) rfl
 obtain ⟨z4,rfl⟩:=get 4 e _ rfl rfl (by omega) rfl
 exact ⟨⟨z0,z1,z2,z3,z4⟩,rfl⟩
set_option maxRecDepth 100000 in
theorem open_gcells {n:Nat} {cs:List Value} {x:DataW H × List MemPlace} (h:DataW.trod enc Tryz.prog W 0 (fun _ => true) true n 63 cs = some x):∃ y:Int × Int,cs = (gOf y).cells ∧ In64 y.1:=by
 obtain ⟨xs,n',_,_,hlen,hxs,hg⟩:=DataW.trod_struct underU h
 rw [cellsU] at hlen
 obtain ⟨a,b,rfl⟩:∃ a b,cs = [a,b]:=by
  match cs,hlen with
  | [a,b],_ => exact ⟨a,b,rfl⟩
 obtain ⟨y0,hy0⟩:∃ y,xs[0]? = some y:=⟨_,List.getElem?_eq_getElem (by rw [hxs]; exact Nat.zero_lt_two)⟩
 obtain ⟨y1,hy1⟩:∃ y,xs[1]? = some y:=⟨_,List.getElem?_eq_getElem (by rw [hxs]; exact Nat.one_lt_two)⟩
 have f0:DataW.trod enc Tryz.prog W 0 (fun _ => true) true n' 3 ((([a,b]:List Value).drop 0).take (Tryz.prog.cellsOf 3)) = xs[0]?:=hg 0 _ rfl
 have f1:DataW.trod enc Tryz.prog W 0 (fun _ => true) true n' 3 ((([a,b]:List Value).drop 1).take (Tryz.prog.cellsOf 3)) = xs[1]?:=hg 1 _ rfl
 rw [cells3,hy0] at f0
 rw [cells3,hy1] at f1
 obtain ⟨z0,e0,n0⟩:=open_i3 f0
 obtain ⟨z1,e1,_⟩:=open_i3 f1
 simp at e0 e1
 subst e0 e1
 exact ⟨(z0,z1),rfl,n0⟩
set_option maxRecDepth 100000 in
theorem open_court {v:Value} {d:DataW H} {p:List MemPlace} {b0:Nat} (hv:Value.okWide Tryz.prog W .any b0 30 v) (h:DataW.Trod enc Tryz.prog W 0 (fun _ => true) true 30 v d p) :
  ∃ A f c R l cl s B gs dd,v = .agg (courtCells A f c R l cl s B gs dd).toArray ∧ HF W A f c ∧ HRs W R l cl ∧ Reads W B (prCells gs) ∧ gs.length <= dd ∧ gs.length <= 9223372036854775807 ∧ ∀ g ∈ gs,In64 g.1:=by
 obtain ⟨cs,rfl,hsz⟩:=okWide_struct underCt hv
 obtain ⟨fuel,hf⟩:=h
 obtain ⟨xs,n,_,_,hlen,hxs,hg⟩:=DataW.trod_struct underCt hf
 have hcl:cs.toList.length = 8:=by simpa [cellsCt] using hsz
 have hcv:(Value.agg cs).cells.toList = cs.toList:=rfl
 rw [hcv] at hg
 obtain ⟨L,hL⟩:∃ L,L = cs.toList:=⟨_,rfl⟩
 rw [<-hL] at hg hcl
 have some_:∀ i,i < 4 -> ∃ y,xs[i]? = some y:=fun i hi => ⟨_,List.getElem?_eq_getElem (by rw [hxs]; exact hi)⟩
 obtain ⟨y0,hy0⟩:=some_ 0 (by omega)
 obtain ⟨y1,hy1⟩:=some_ 1 (by omega)
 obtain ⟨y2,hy2⟩:=some_ 2 (by omega)
 obtain ⟨y3,hy3⟩:=some_ 3 (by omega)
 have f0:DataW.trod enc Tryz.prog W 0 (fun _ => true) true n 22 ((L.drop 0).take (Tryz.prog.cellsOf 22)) = xs[0]?:=hg 0 _ rfl
 have f1:DataW.trod enc Tryz.prog W 0 (fun _ => true) true n 25 ((L.drop 1).take (Tryz.prog.cellsOf 25)) = xs[1]?:=hg 1 _ rfl
 have f2:DataW.trod enc Tryz.prog W 0 (fun _ => true) true n 27 ((L.drop 2).take (Tryz.prog.cellsOf 27)) = xs[2]?:=hg 2 _ rfl
 have f3:DataW.trod enc Tryz.prog W 0 (fun _ => true) true n 28 ((L.drop 7).take (Tryz.prog.cellsOf 28)) = xs[3]?:=hg 3 _ rfl
 rw [hy0,cellsFs1] at f0
 rw [hy1,cellsRs] at f1
 rw [hy2,cellsSc] at f2
 rw [hy3,cellsGs1] at f3
 obtain ⟨m,rfl⟩:=fuel_pos f0
 obtain ⟨A,f,c,q0,hHL,hk⟩:=open_row (ec:=Fact.cells) (k:=9) (n:=m) (Pn:=fun x:Fact => x.Nums) Fact.len (by omega) (fun a y h2 => spot_int (k:=.i64) (z:=y.id) h2) underFs cellsF (fun hh => open_fcells hh) f0
 obtain ⟨R,l,cl,q1,hR⟩:=open_rulesF f1
 obtain ⟨s,q2⟩:=open_sceneF f2
 obtain ⟨B,gs,dd,q3,hG,hgk⟩:=open_row (ec:=fun y:Int × Int => (gOf y).cells) (k:=2) (n:=m) (Pn:=fun y:Int × Int => In64 y.1) (fun _ => rfl) (by omega) (fun a y h2 => spot_int (k:=.i64) (z:=y.1) h2) underUs cellsU (fun hh => open_gcells hh) f3
 have hc:L = (L.drop 0).take 1 ++ ((L.drop 1).take 1 ++ ((L.drop 2).take 5 ++ ((L.drop 7).take 1 ++ L.drop 8))):=by
  have h1:=dropSplit L 0 1
  have h2:=dropSplit L 1 1
  have h3:=dropSplit L 2 5
  have h4:=dropSplit L 7 1
  conv => lhs; rw [show L = L.drop 0 from rfl,h1]
  rw [show 0 + 1 = 1 from rfl]
  conv => lhs; rw [h2]
  rw [show 1 + 1 = 2 from rfl]
  conv => lhs; rw [h3]
  rw [show 2 + 5 = 7 from rfl]
  conv => lhs; rw [h4]
 rw [List.drop_eq_nil_of_le (by omega:L.length <= 8),q0,q1,q2,q3] at hc
 refine ⟨A,f,c,R,l,cl,s,B,gs,dd,?_,⟨hk,hHL.reads,hHL.len,hHL.cap⟩,hR,?_,hG.len,hG.cap,hgk⟩
 ·show Value.agg cs = Value.agg _
  congr 1
  apply Array.ext'
  rw [<-hL,hc]
  rfl
 ·have:=hG.reads
  unfold prCells
  exact this
end
end Go.Proofs.YtigapannpbaihaaGreat.Rk
namespace Go.Proofs.YtigapannpbaihaaGreat.Rk
open Go.Eng Go.RowKit
set_option maxRecDepth 100000 in
set_option maxHeartbeats 16000000 in
theorem TopExcepted_spec {w:World} {A R B E:Option Addr} {f:List Fact} {l:List Rl} {c cl d e:Nat} {gs:List (Int × Int)} {xs:List Entry} (hf:HF w A f c) (hR:HRs w R l cl) (s:Scn) (hr:Reads w B (prCells gs)) (hg:∀ g ∈ gs,In64 g.1) (hgd:gs.length <= d) (hgc:gs.length <= 9223372036854775807) (hx:HL Entry.cells w E xs e) (hn:∀ x ∈ xs,x.Nums) :
  CallsV C.P 4 #[.agg (courtCells A f c R l cl s B gs d).toArray,.slice E xs.length e] w fun v w' => v = .bool true ∧ Ext w w':=by
 have stop:∀ {w':World},Ext w w' -> CallsV C.P 12 #[] w' fun v w'' => v = .bool true ∧ Ext w w'':=fun e => (granted_spec _).mono fun v w'' hh => ⟨hh.1,e.trans hh.2⟩
 have hfc:=hf.cap
 refine callsV_ofS (args:=[_,_]) Tryz.func4 rfl Tryz.ntmps4 C_ok (Nat.le_of_ble_eq_true rfl) ?_
 refine Snd.go C_ok plans4 (by kernel_rfl) ?_
 intro g2 w1 h1
 obtain ⟨cc,hcc⟩:∃ cc,cc = courtCells A f c R l cl s B gs d:=⟨_,rfl⟩
 have hc1:w1.heap[g2]? = some (.cells cc.toArray 30 (0,0)):=by rw [hcc]; exact h1.here
 have e1:Ext w w1:=h1.ext
 clear h1
 refine ⟨Snd.go C_ok plans4 (by kernel_rfl) ?_⟩
 refine ⟨cc,by rw [hcc]; rfl,Rd.of_block hc1,?_⟩
 have Z:=slim_spec (A:=A) (B:=B) (c:=c) (d:=d) (gs:=gs) s (hR.ext e1) hfc hgc
 rw [<-hcc] at Z
 refine Z.mono ?_
 clear Z
 rintro v w2 ⟨⟨b,rfl,hb⟩,e2⟩
 have e12:=e1.trans e2
 refine brE_mk (fun b0 => ?_) (fun b0 => ?_)
 ·refine (stop e12).mono ?_
  rintro v w3 ⟨rfl,e3⟩
  exact ⟨rfl,e3⟩
 obtain ⟨hf30,hg6⟩:=hb (by simpa using b0)
 clear b0 hb
 refine brE_dec (fun c1 => ?_) (fun c1 => ?_)
 ·refine (stop e12).mono ?_
  rintro v w3 ⟨rfl,e3⟩
  exact ⟨rfl,e3⟩
 have hx30:xs.length <= 30:=by have:¬ ((xs.length:Nat):Int) > 30:=c1; omega
 clear c1
 have hc2:=e2.heap hc1
 refine ⟨Snd.go C_ok plans4 (by kernel_rfl) ?_⟩
 refine ⟨.slice A f.length c,cell_of_block (i:=0) hc2 (by rw [hcc]; rfl),?_⟩
 refine (done_spec (hf.ext e12) (by omega) (hx.ext e12) (by omega) hn).mono ?_
 rintro v w3 ⟨ld,rfl,n3⟩
 have hel:=doneL_len f xs xs.length (Nat.le_refl _)
 generalize doneL f xs xs.length = es at n3 hel
 refine ⟨Snd.go C_ok plans4 (by kernel_rfl) ?_⟩
 refine ⟨_,eqNilP _ _ _,?_⟩
 have e13:=e12.trans n3.ext
 have hled:=n3.is
 have hc3:=n3.ext.heap hc2
 clear n3 hc1 hc2
 have hgl:gs.length <= 24:=by omega
 obtain ⟨k,hk⟩:∃ k,k = chkR f (chkRl l) s gs:=⟨_,rfl⟩
 obtain ⟨ps,hps⟩:∃ ps,ps = psOf es gs s.day:=⟨_,rfl⟩
 have hpsl:ps.length <= 24 * 24:=by rw [hps]; exact ps_len hgl
 have hps64:∀ p ∈ ps,In64 p.1 ∧ In64 p.2:=fun p hp => by
  rw [hps] at hp
  obtain ⟨a,b,ha,hb,rfl⟩:=ps_small hgl p hp
  exact ⟨⟨by omega,by omega⟩,⟨by omega,by omega⟩⟩
 obtain ⟨N,hN⟩:∃ N:Int,N = (if k = 0 then ((gs.length:Nat):Int) else 0):=⟨_,rfl⟩
 have hN64:In64 N:=by rw [hN]; split <;> exact ⟨by omega,by omega⟩
 obtain ⟨P,hP⟩:∃ P,P = profsOf f s gs:=⟨_,rfl⟩
 have hPl:P.length = gs.length:=by rw [hP]; exact List.length_map _
 obtain ⟨X,hX⟩:∃ X,X = (if k = 0 then relL l P else []):=⟨_,rfl⟩
 obtain ⟨Y,hY⟩:∃ Y,Y = waiveL X ps:=⟨_,rfl⟩
 have hXl:X.length <= 24 * 48:=by
  rw [hX]; split
  ·exact relL_len l P (by omega)
  ·simp
 have hYl:Y.length <= 24 * 48:=by rw [hY]; exact Nat.le_trans (waiveL_length _ _) hXl
 have hXn:∀ x ∈ X,In64 x.fr ∧ In64 x.to ∧ In64 x.rule ∧ In64 x.wt:=by
  rw [hX]; split
  ·rename_i h0
   have hz:=(chkR_zero (hk.symm.trans h0)).2.1
   exact relL_nums (by omega) (chkRl_zero hz).1 fun x hx => (hR.each x hx).weight
  ·intro x hx; cases hx
 have hYn:∀ x ∈ Y,In64 x.fr ∧ In64 x.to ∧ In64 x.rule ∧ In64 x.wt:=fun x hx => by rw [hY] at hx; exact hXn x (waive_mem.1 hx).1
 have hcells:Rd w3 g2 0 (courtCells A f c R l cl s B gs d):=by rw [<-hcc]; exact Rd.of_block hc3
 have rel:∀ (w':World) (Q:Option Addr) (q:List (Int × Int)) (cq:Nat),Ext w w' -> (∀ p ∈ q,In64 p.1 ∧ In64 p.2) -> q.length <= 24 * 24 -> Reads w' Q (prCells q) →
   CallsV C.P 8 #[.slice A f.length c,.agg #[.slice R l.length cl],s.val,.slice B gs.length d,.slice Q q.length cq] w' fun v w'' => (∃ A1 c1,v = .tuple #[.agg #[.int .i64 N,.slice A1 (waiveL X q).length c1],.int .i64 k] ∧ w''.ownsRow 0 189 4 (.slice A1 (waiveL X q).length c1) (waiveL X q).length (arrows (waiveL X q))) ∧ Ext w' w'':=fun w' Q q cq ew hq hql hrq => by
  refine (Relate_spec (hf.ext ew) (by omega) (hR.ext ew) s (hr.ext ew) hg hq hrq (by omega)).mono ?_
  rintro v w'' ⟨⟨u,rfl,A1,c1,rfl,ho⟩,e''⟩
  rw [<-hk,<-hP] at ho
  have hXe:(if k = 0 then waiveL (relL l P) q else []) = waiveL X q:=by
   rw [hX]; split
   ·rfl
   ·rfl
  rw [<-hk,<-hP,hXe,<-hN]
  rw [hXe] at ho
  exact ⟨⟨A1,c1,rfl,ownsRow_base ho (Nat.zero_le _)⟩,e''⟩
 have hX0:waiveL X [] = X:=by unfold waiveL; exact List.filter_eq_self.2 fun _ _ => by simp
 -- the relation without waivers
 refine ⟨Snd.go C_ok plans4 (by kernel_rfl) ?_⟩
 refine ⟨.slice A f.length c,cell_of_block (i:=0) hc3 (by rw [hcc]; rfl),?_⟩
 refine ⟨[.slice R l.length cl],rfl,rd_mid [_] [_] [_,_,_,_,_,_] hcells,?_⟩
 refine ⟨s.cells,rfl,rd_mid [_,_] s.cells [_] hcells,?_⟩
 refine ⟨.slice B gs.length d,cell_of_block (i:=7) hc3 (by rw [hcc]; rfl),?_⟩
 have Z:=rel w3 none [] 0 e13 (fun p hp => by cases hp) (by simp) (.inl rfl)
 rw [hX0] at Z
 refine Z.mono ?_
 clear Z
 rintro v w4 ⟨⟨A1,c1,rfl,h1⟩,e4⟩
 intro g6 w5 h5
 refine ⟨rfl,_,_,h5.here,Nat.le_of_ble_eq_true rfl,rfl,?_⟩
 intro w6 h6
 have e46:Ext w4 w6:=h6.ext_of h5.ext (by rw [h5.new]; exact Nat.le_refl _)
 have hr6:w6.heap[g6]? = some (.cells #[.int .i64 N,.slice A1 X.length c1] 36 (0,0)):=h6.here
 have e36:=e4.trans e46
 have e16:=e13.trans e36
 have h1:HRel w6 N A1 X c1:=(relO h1 hN64 hXn (by omega)).ext e46
 have hled:=hled.ext e36
 have hc6:=e36.heap hc3
 have hcells:=hcells.ext e36
 clear h5 h6 e4 e46 hc3
 -- the relation with them
 refine ⟨Snd.join C_ok plans4 (fun p:Nat × Option Addr × Nat => [(1,.slice E xs.length e),(2,.pointer (some ⟨g2,0,none⟩)),(5,ld.ptr),(6,.pointer (some ⟨g6,0,none⟩)),(7,.int .i64 k),(8,.pointer (some ⟨p.1,0,none⟩)),(9,.int .i64 k)])
  (fun p W => TopIn w W ld es cc N X Y g2 g6 p.1 A1 p.2.1 c1 p.2.2) (by kernel_rfl) ?_ ?_⟩
 ·refine ⟨.slice A f.length c,cell_of_block (i:=0) hc6 (by rw [hcc]; rfl),?_⟩
  refine ⟨[.slice R l.length cl],rfl,rd_mid [_] [_] [_,_,_,_,_,_] hcells,?_⟩
  refine ⟨s.cells,rfl,rd_mid [_,_] s.cells [_] hcells,?_⟩
  refine ⟨.slice B gs.length d,cell_of_block (i:=7) hc6 (by rw [hcc]; rfl),?_⟩
  refine ⟨.slice B gs.length d,cell_of_block (i:=7) hc6 (by rw [hcc]; rfl),?_⟩
  refine ⟨.int .i64 s.day,cell_of_block (i:=6) hc6 (by rw [hcc]; rfl),?_⟩
  have pairs:∀ (w':World),Ext w6 w' -> CallsV C.P 14 #[ld.ptr,.slice B gs.length d,.int .i64 s.day] w' fun v w'' => (∃ Q cq,v = .slice Q ps.length cq ∧ Reads w'' Q (prCells ps)) ∧ Ext w' w'':=fun w' ew => by
   have Z:=Pairs_spec (hled.ext ew) (by omega) (A:=B) (g:=gs.map gOf) (c:=d) ⟨by rw [g_cells]; exact hr.ext (e16.trans ew),by rw [List.length_map]; exact hgd,by rw [List.length_map]; exact hgc⟩ s.day
   rw [List.length_map] at Z
   refine Z.mono ?_
   rintro v w'' ⟨hv,e''⟩
   obtain ⟨Q,cq,rfl,hq⟩:=hv.hl
   have hlen:ps.length = (pairsAt es (gs.map gOf) s.day).length:=by rw [hps]; exact List.length_map _
   refine ⟨⟨Q,cq,by rw [hlen],?_⟩,e''⟩
   rw [hps]
   unfold psOf
   rw [<-pr_cells]
   exact hq.reads
  have fin:∀ {W W':World} {g8:Nat} {A2:Option Addr} {c2:Nat},Ext w6 W -> w6.heap.size <= g8 -> Put W g8 (.cells #[.int .i64 N,.slice A2 (waiveL X ps).length c2] 36 (0,0)) W' -> HRel W' N A2 (waiveL X ps) c2 -> TopIn w W' ld es cc N X Y g2 g6 g8 A1 A2 c1 c2:=fun {W W' g8 A2 c2} ew hg8 hput h2' => by
   have e6:=hput.ext_of ew hg8
   rw [<-hY] at h2' hput
   exact ⟨e16.trans e6,hled.ext e6,e6.heap hc6,e6.heap hr6,hput.here,h1.ext e6,h2'⟩
  refine ⟨?A,?D⟩
  case' A =>
   refine (pairs w6 (Ext.refl _)).mono ?_
   rintro v w7 ⟨⟨Q,cq,rfl,hrq⟩,e7⟩
   refine ⟨e7,?_⟩
   refine ⟨?B1,?B2⟩
   case' B1 =>
    refine (rel w7 Q ps cq (e16.trans e7) hps64 hpsl hrq).mono ?_
    rintro v w8 ⟨⟨A2,c2,rfl,h2⟩,e8⟩
    refine ⟨e8,?_⟩
    intro g8 w9 h9
    refine ⟨h9.ext,?_⟩
    have hg8:w6.heap.size <= g8:=by rw [h9.new]; exact (e7.trans e8).size
    have hh9:=h9.here
    have ew9:Ext w6 w9:=(e7.trans e8).trans h9.ext
    have ho9:=ownsRow_ext h2 h9.ext
   case' B2 =>
    intro g8 w8 h8
    refine ⟨h8.ext,?_⟩
    refine (rel w8 Q ps cq (e16.trans (e7.trans h8.ext)) hps64 hpsl (hrq.ext h8.ext)).mono ?_
    rintro v w9 ⟨⟨A2,c2,rfl,h2⟩,e9⟩
    refine ⟨e9,?_⟩
    have hg8:w6.heap.size <= g8:=by rw [h8.new]; exact e7.size
    have hh9:=e9.heap h8.here
    have ew9:Ext w6 w9:=(e7.trans h8.ext).trans e9
    have ho9:=h2
  case' D =>
   intro g8 w7 h7
   refine ⟨h7.ext,?_⟩
   refine (pairs w7 h7.ext).mono ?_
   rintro v w8 ⟨⟨Q,cq,rfl,hrq⟩,e8⟩
   refine ⟨e8,?_⟩
   refine (rel w8 Q ps cq (e16.trans (h7.ext.trans e8)) hps64 hpsl hrq).mono ?_
   rintro v w9 ⟨⟨A2,c2,rfl,h2⟩,e9⟩
   refine ⟨e9,?_⟩
   have hg8:w6.heap.size <= g8:=by rw [h7.new]; exact Nat.le_refl _
   have hh9:=e9.heap (e8.heap h7.here)
   have ew9:Ext w6 w9:=(h7.ext.trans e8).trans e9
   have ho9:=h2
  all_goals
   refine ⟨rfl,_,_,hh9,Nat.le_of_ble_eq_true rfl,rfl,?_⟩
   intro w10 h10
   have h10:Put w9 g8 (.cells #[.int .i64 N,.slice A2 (waiveL X ps).length c2] 36 (0,0)) w10:=h10
   exact ⟨⟨(g8,A2,c2),⟨rfl,rfl,rfl,rfl,rfl,rfl,rfl,trivial⟩,fin ew9 hg8 h10 (relO (ownsRow_only ho9 (only_put h10 hh9) (by decide)) hN64 (fun x hx => hXn x (waive_mem.1 hx).1) (Nat.le_trans (waiveL_length _ _) (by omega)))⟩⟩
 rintro ⟨g8,A2,c2⟩ w7 T
 simp only at T
 refine Snd.go C_ok plans4 (by kernel_rfl) ?_
 refine brE_ndec (fun hk0 => ?_) (fun hk0 => ?_)
 ·refine (stop T.ext).mono ?_
  rintro v w8 ⟨rfl,e8⟩
  exact ⟨congrArg _ (decide_eq_true rfl),e8⟩
 refine brE_ndec (fun h => absurd hk0 h) (fun _ => ?_)
 have hz:=(chkR_zero (hk.symm.trans hk0)).2.1
 have hNg:N = ((gs.length:Nat):Int):=by rw [hN,if_pos hk0]
 have hv:Valid N X:=by rw [hX,if_pos hk0,hNg,<-hPl]; exact relL_valid (by omega) hz
 have hvY:Valid N Y:=by rw [hY]; exact hv.filter _
 refine ⟨Snd.go C_ok plans4 (by kernel_rfl) ?_⟩
 refine ⟨[.int .i64 N,.slice A2 Y.length c2],rfl,Rd.of_block T.r2,?_⟩
 refine (Least_spec T.h2 hvY (by omega)).mono ?_
 rintro v w8 ⟨⟨u,A0,n0,c0,rfl,hu⟩,e8⟩
 obtain ⟨ord,hord⟩:∃ ord,ord = natI (leastL N Y):=⟨_,rfl⟩
 have hol:ord.length = (leastL N Y).length:=by rw [hord,natI_length]
 rw [<-hord,<-hol] at hu
 have hoo:OrdOk N ord:=by rw [hord]; exact leastL_ord hvY
 obtain ⟨Au,cu,rfl,hru,_⟩:=reads_of_owns hu
 intro g10 w9 h9
 refine ⟨rfl,_,_,h9.here,Nat.le_of_ble_eq_true rfl,rfl,?_⟩
 intro w10 h10
 have e810:Ext w8 w10:=h10.ext_of h9.ext (by rw [h9.new]; exact Nat.le_refl _)
 have T10:=(T.grow e8).grow e810
 have hg10:=h10.here
 have hru:=hru.ext e810
 refine ⟨Snd.go C_ok plans4 (by kernel_rfl) ?_⟩
 refine ⟨[.int .i64 N,.slice A1 X.length c1],rfl,Rd.of_block T10.r1,?_⟩
 refine ⟨_,cell_of_block (i:=0) hg10 rfl,?_⟩
 have hb:bothE N X ord = 0:=by
  unfold bothE
  rw [if_pos hv.chk]
  unfold ordE
  rw [if_pos hoo]
 have Z:=Slights_spec (d:=cu) T10.h1 (by omega) hru (by have:=hoo.1; omega)
 rw [hb,if_pos rfl] at Z
 refine Z.mono ?_
 clear Z
 rintro v w11 ⟨⟨us,rfl,hs⟩,e11⟩
 have T11:=T10.grow e11
 obtain ⟨L,hL⟩:∃ L,L = slTo ord X X.length:=⟨_,rfl⟩
 have hLl:L.length <= 24 * 48:=by rw [hL]; exact Nat.le_trans slTo_len hXl
 have hat:∀ {i:Nat} (hi:i < L.length),∃ a ∈ X,slB ord a = true ∧ L[i] = Sl.of a:=by
  subst hL
  exact fun hi => slTo_at hi
 rw [<-hL] at hs
 obtain ⟨As,cs,rfl,hrs⟩:=hs.hl
 clear hs h9 h10
 refine ⟨Snd.go C_ok plans4 (by kernel_rfl) ?_⟩
 refine ⟨Snd.fin C_ok (plans:=plans4) (by kernel_rfl) ?_⟩
 refine loopE C_ok (fun i:Nat => [(2,.pointer (some ⟨g2,0,none⟩)),(5,ld.ptr),(8,.pointer (some ⟨g8,0,none⟩)),(12,.slice As L.length cs),(14,.int .i64 i)])
  (fun i W => i <= L.length ∧ Ext w11 W) (fun i => L.length - i) 0 ⟨rfl,rfl,rfl,rfl,rfl,trivial⟩ ⟨Nat.zero_le _,Ext.refl _⟩ ?_
 rintro i W ⟨hi,eW⟩
 refine brE_dec (fun hlt0 => ?_) (fun hge => ?_)
 ·have hlt:i < L.length:=by have:(i:Int) < (L.length:Nat):=hlt0; omega
  clear hlt0
  have TW:=T11.grow eW
  obtain ⟨a,ha,hsl,hLi⟩:=hat hlt
  obtain ⟨ia,hia,hae⟩:=List.getElem_of_mem ha
  have hg:=goodA_spec (hv.good hia)
  rw [hae] at hg
  obtain ⟨p,hp⟩:=Int.eq_ofNat_of_zero_le hg.1
  obtain ⟨q,hq⟩:=Int.eq_ofNat_of_zero_le hg.2.2.1
  have hpn:p < gs.length:=by omega
  have hqn:q < gs.length:=by omega
  have hex:=excepted (es:=es) (day:=s.day) hNg hgl hv ha (by rw [<-hps,<-hY,<-hord]; exact hsl) hp hq hpn hqn
  rw [<-hps,<-hY] at hex
  obtain ⟨b1,o1,hA1,hr1⟩:=(hrs.ext eW).at Sl.len (by omega) hlt
  rw [hLi] at hr1
  have hr1:Rd W b1 (o1 + i * 3) [.int .i64 (p:Nat),.int .i64 (q:Nat),.int .i64 a.wt]:=by
   have e:(Sl.of a).cells = [.int .i64 (p:Nat),.int .i64 (q:Nat),.int .i64 a.wt]:=by unfold Sl.of Sl.cells; rw [hp,hq]
   rw [<-e]; exact hr1
  obtain ⟨b2,o2,hA2,hr2⟩:=g_part (hr.ext TW.ext) hpn
  obtain ⟨b3,o3,hA3,hr3⟩:=g_part (hr.ext TW.ext) hqn
  have next:IntKind.i64.wrap ((i:Int) + 1) = ((i + 1:Nat):Int):=fit ⟨by omega,by omega⟩
  refine ⟨.slice B gs.length d,cell_of_block (i:=7) TW.court (by rw [hcc]; rfl),?_⟩
  refine ⟨i,b1,o1,rfl,hlt,hA1,?_⟩
  refine ⟨_,hr1 0 _ rfl,?_⟩
  refine ⟨p,b2,o2,rfl,hpn,hA2,?_⟩
  refine ⟨(gOf gs[p]).cells,rfl,hr2,?_⟩
  intro g15 W1 H1
  refine ⟨H1.ext,?_⟩
  refine ⟨rfl,_,_,H1.here,Nat.le_of_ble_eq_true rfl,rfl,?_⟩
  intro W2 H2
  have E2:Ext W W2:=H2.ext_of H1.ext (by rw [H1.new]; exact Nat.le_refl _)
  have hg15:W2.heap[g15]? = some (.cells (gOf gs[p]).cells.toArray 63 (0,0)):=H2.here
  clear H1 H2
  refine ⟨.slice B gs.length d,cell_of_block (i:=7) (E2.heap TW.court) (by rw [hcc]; rfl),?_⟩
  refine ⟨i,b1,o1,rfl,hlt,hA1,?_⟩
  refine ⟨_,hr1.ext E2 1 _ rfl,?_⟩
  refine ⟨q,b3,o3,rfl,hqn,hA3,?_⟩
  refine ⟨(gOf gs[q]).cells,rfl,hr3.ext E2,?_⟩
  intro g16 W3 H3
  refine ⟨H3.ext,?_⟩
  refine ⟨rfl,_,_,H3.here,Nat.le_of_ble_eq_true rfl,rfl,?_⟩
  intro W4 H4
  have E24:Ext W2 W4:=H4.ext_of H3.ext (by rw [H3.new]; exact Nat.le_refl _)
  have E4:=E2.trans E24
  have hg16:W4.heap[g16]? = some (.cells (gOf gs[q]).cells.toArray 63 (0,0)):=H4.here
  have hg15:=E24.heap hg15
  clear H3 H4
  have T4:=TW.grow E4
  refine ⟨(gOf gs[p]).cells,rfl,Rd.of_block hg15,?_⟩
  refine ⟨(gOf gs[q]).cells,rfl,Rd.of_block hg16,?_⟩
  refine ⟨.int .i64 s.day,cell_of_block (i:=6) T4.court (by rw [hcc]; rfl),?_⟩
  refine (Covers_spec T4.led (by omega) (gOf gs[p]) (gOf gs[q]) s.day).mono ?_
  rintro v W5 ⟨rfl,e5⟩
  have T5:=T4.grow e5
  refine brE_mk (fun hcov => ?_) (fun hcov => ?_)
  ·have h3:standS N Y (p:Nat) (q:Nat) = 3:=by
    rcases hex with h | h
    ·rw [h] at hcov; cases hcov
    ·exact h
   refine ⟨[.int .i64 N,.slice A2 Y.length c2],rfl,Rd.of_block T5.r2,?_⟩
   refine ⟨i,b1,o1,rfl,hlt,hA1,?_⟩
   refine ⟨_,(hr1.ext E4).ext e5 0 _ rfl,?_⟩
   refine ⟨i,b1,o1,rfl,hlt,hA1,?_⟩
   refine ⟨_,(hr1.ext E4).ext e5 1 _ rfl,?_⟩
   have Z:=Standing_spec T5.h2 (p:Nat) (q:Nat)
   rw [h3] at Z
   refine Z.mono ?_
   clear Z
   rintro v W6 ⟨rfl,e6⟩
   refine ⟨((i + 1:Nat):Int),next,?_⟩
   exact ⟨i + 1,⟨rfl,rfl,rfl,rfl,rfl,trivial⟩,⟨hlt,((eW.trans E4).trans e5).trans e6⟩,by omega⟩
  ·refine ⟨((i + 1:Nat):Int),next,?_⟩
   exact ⟨i + 1,⟨rfl,rfl,rfl,rfl,rfl,trivial⟩,⟨hlt,(eW.trans E4).trans e5⟩,by omega⟩
 ·refine (stop (T11.ext.trans eW)).mono ?_
  rintro v W1 ⟨rfl,e1⟩
  exact ⟨rfl,e1⟩
end Go.Proofs.YtigapannpbaihaaGreat.Rk
