/- a part of the proof: steps, walks and plain laws that the law below stands on; no condition. -/
import Derived.Test.YtdpdjcopkehdjaaGreatRXa
import Derived.Test.YtdpdjcopkehdjaaGreatRXb
import Derived.Test.YtdpdjcopkehdjaaGreatRXc
import Derived.Test.YtdpdjcopkehdjaaGreatRXd
import Derived.Test.YtdpdjcopkehdjaaGreatRXe
import Derived.Test.YtdpdjcopkehdjaaGreatRXf
import Derived.Test.YtdpdjcopkehdjaaGreatRXg
import Derived.Test.YtdpdjcopkehdjaaGreatRXh
import Derived.Maps.RangeRun
import Derived.Laws.RangeString
import Derived.Lib.OthersKept
import Derived.Lib.TrimU
set_option linter.unusedVariables false
set_option linter.unusedSimpArgs false
set_option linter.unnecessarySimpa false
set_option linter.unusedSectionVars false
namespace Go.Proofs.YtdpdjcopkehdjaaGreat.Rk
open Go.Eng Go.RowKit
mutual
def cntT:Tst -> Nat
 | .mk _ _ _ _ _ _ of => 1 + cntL of
def cntL:List Tst -> Nat
 | [] => 0
 | x :: r => cntT x + cntL r
end
mutual
def depT:Tst -> Nat
 | .mk _ _ _ _ _ _ of => 1 + depL of
def depL:List Tst -> Nat
 | [] => 0
 | x :: r => max (depT x) (depL r)
end
theorem cntT_eq (t:Tst):cntT t = 1 + cntL t.of:=by cases t; rfl
theorem depT_eq (t:Tst):depT t = 1 + depL t.of:=by cases t; rfl
theorem cntL_append:∀ (a b:List Tst),cntL (a ++ b) = cntL a + cntL b
 | [],b => by simp [cntL]
 | x :: r,b => by simp only [List.cons_append,cntL,cntL_append r b]; omega
theorem depL_append:∀ (a b:List Tst),depL (a ++ b) = max (depL a) (depL b)
 | [],b => by simp [depL]
 | x :: r,b => by simp only [List.cons_append,depL,depL_append r b]; omega
theorem cntL_take {l:List Tst} {i:Nat} (h:i < l.length):cntL (l.take (i + 1)) = cntL (l.take i) + cntT l[i]:=by
 rw [List.take_succ_eq_append_getElem h,cntL_append]; simp [cntL]
theorem depL_take {l:List Tst} {i:Nat} (h:i < l.length):depL (l.take (i + 1)) = max (depL (l.take i)) (depT l[i]):=by
 rw [List.take_succ_eq_append_getElem h,depL_append]; simp [depL]
theorem cntL_part (l:List Tst) (i:Nat):cntL (l.take i) <= cntL l:=by
 have h:=cntL_append (l.take i) (l.drop i)
 rw [List.take_append_drop] at h; omega
theorem depL_part (l:List Tst) (i:Nat):depL (l.take i) <= depL l:=by
 have h:=depL_append (l.take i) (l.drop i)
 rw [List.take_append_drop] at h; omega
theorem depT_pos (t:Tst):1 <= depT t:=by rw [depT_eq]; omega
def fitsP (t:Tst):Prop:=cntT t <= 24 ∧ depT t <= 6
instance (t:Tst):Decidable (fitsP t):=by unfold fitsP; infer_instance
def sizeF (g4 g5 g6:Nat):Value:=.func (.func 254) #[] #[.pointer (some ⟨g4,0,none⟩),.pointer (some ⟨g5,0,none⟩),.pointer (some ⟨g6,0,none⟩)]
def intB (n:Nat):Obj:=.cells #[.int .i64 (n:Nat)] 3 (0,0)
set_option maxRecDepth 100000 in
set_option maxHeartbeats 2000000 in
theorem walk_spec {w0:World} {t:Tst} (h:TestIs w0 t):∀ {w:World} {g4 g5 g6 n d at':Nat},Mem w0 w [(g6,.cells #[sizeF g4 g5 g6] 272 (0,0)),(g5,intB d),(g4,intB n)] -> n <= 24 -> d <= 6 -> at' <= 7 →
  CallsV C.P 254 #[t.val,.int .i64 (at':Nat),.pointer (some ⟨g4,0,none⟩),.pointer (some ⟨g5,0,none⟩),.pointer (some ⟨g6,0,none⟩)] w fun v w' => ∃ n' d':Nat,Mem w0 w' [(g6,.cells #[sizeF g4 g5 g6] 272 (0,0)),(g5,intB d'),(g4,intB n')] ∧
   ((v = .bool true ∧ n' = n + cntT t ∧ d' = max d (at' + depT t - 1) ∧ n' <= 24 ∧ d' <= 6) ∨ (v = .bool false ∧ (24 < n + cntT t ∨ 6 < max d (at' + depT t - 1)))):=by
 induction h with
 | @mk t hn hr hc hl hk ih =>
 intro w g4 g5 g6 n d at' M hn1 hd1 hat
 refine callsV_of C_ok (args:=[_,_,_,_,_]) (plans:=[]) Tryz.func254 rfl Tryz.ntmps254 (by kernel_rfl) (Nat.le_of_ble_eq_true rfl) ?_
 intro gt w1 h1
 have M1:=M.alloc h1
 have ec:=cntT_eq t
 have ed:=depT_eq t
 refine ⟨_,M1.cell 3 rfl rfl,?_⟩
 refine ⟨((n + 1:Nat):Int),fit ⟨by omega,by omega⟩,?_⟩
 refine ⟨rfl,_,_,M1.get 3 rfl,Nat.le_of_ble_eq_true rfl,rfl,?_⟩
 intro w2 h2
 have M2:Mem w0 w2 [(gt,.cells t.cells.toArray 70 (0,0)),(g6,.cells #[sizeF g4 g5 g6] 272 (0,0)),(g5,intB d),(g4,intB (n + 1))]:=M1.put 3 rfl h2
 refine ⟨_,M2.cell 2 rfl rfl,?_⟩
 have hmx:(if ((at':Nat):Int) > ((d:Nat):Int) then ((at':Nat):Int) else ((d:Nat):Int)) = ((max d at':Nat):Int):=by split <;> omega
 refine ⟨_,maxQ' hmx rfl rfl rfl,?_⟩
 refine ⟨rfl,_,_,M2.get 2 rfl,Nat.le_of_ble_eq_true rfl,rfl,?_⟩
 intro w3 h3
 have M3:Mem w0 w3 [(gt,.cells t.cells.toArray 70 (0,0)),(g6,.cells #[sizeF g4 g5 g6] 272 (0,0)),(g5,intB (max d at')),(g4,intB (n + 1))]:=M2.put 2 rfl h3
 clear M M1 M2 h1 h2 h3
 refine ⟨_,M3.cell 3 rfl rfl,?_⟩
 refine brE_dec (fun c1 => ?_) (fun c1 => ?_)
 ·have c1:((n + 1:Nat):Int) > 24:=c1
  exact ⟨_,_,M3.tail,.inr ⟨rfl,.inl (by omega)⟩⟩
 have c1:¬ ((n + 1:Nat):Int) > 24:=c1
 refine ⟨_,M3.cell 2 rfl rfl,?_⟩
 refine brE_dec (fun c2 => ?_) (fun c2 => ?_)
 ·have c2:((max d at':Nat):Int) > 6:=c2
  exact ⟨_,_,M3.tail,.inr ⟨rfl,.inr (by omega)⟩⟩
 have c2:¬ ((max d at':Nat):Int) > 6:=c2
 refine ⟨_,M3.cell 0 (i:=4) rfl rfl,?_⟩
 refine loopE C_ok (fun (s:Nat × Nat × Nat) => [(1,.int .i64 (at':Nat)),(4,.pointer (some ⟨g6,0,none⟩)),(22,.slice t.A t.of.length t.c),(23,.int .i64 t.of.length),(24,.int .i64 (s.1:Nat))])
  (fun s w' => s.1 <= t.of.length ∧ Mem w0 w' [(g6,.cells #[sizeF g4 g5 g6] 272 (0,0)),(g5,intB s.2.2),(g4,intB s.2.1)] ∧ s.2.1 = n + 1 + cntL (t.of.take s.1) ∧ s.2.2 = max (max d at') (at' + depL (t.of.take s.1)) ∧ s.2.1 <= 24 ∧ s.2.2 <= 6)
  (fun s => t.of.length - s.1) (0,n + 1,max d at') ⟨rfl,rfl,rfl,rfl,rfl,trivial⟩ ⟨Nat.zero_le _,M3.tail,by simp [cntL],by simp [depL],by show n + 1 <= 24; omega,by show max d at' <= 6; omega⟩ ?_
 rintro ⟨i,ni,di⟩ w4 ⟨hi',M',en',ed',hn2',hd2'⟩
 have hi:i <= t.of.length:=hi'
 have M:Mem w0 w4 [(g6,.cells #[sizeF g4 g5 g6] 272 (0,0)),(g5,intB di),(g4,intB ni)]:=M'
 have en:ni = n + 1 + cntL (t.of.take i):=en'
 have edd:di = max (max d at') (at' + depL (t.of.take i)):=ed'
 have hn2:ni <= 24:=hn2'
 have hd2:di <= 6:=hd2'
 clear hi' M' en' ed' hn2' hd2'
 refine brE_dec (fun hlt => ?_) (fun hge => ?_)
 ·have hlti:i < t.of.length:=by have:(i:Int) < (t.of.length:Nat):=hlt; omega
  have next:IntKind.i64.wrap ((i:Int) + 1) = ((i + 1:Nat):Int):=fit ⟨by omega,by omega⟩
  obtain ⟨b,o,hA,hc5⟩:=Reads.elem Tst.len (by omega) (hr.ext M.ext) hlti
  obtain ⟨x,hx⟩:∃ x,x = t.of[i]:=⟨_,rfl⟩
  rw [<-hx] at hc5
  have ct:=cntL_take hlti
  have dt:=depL_take hlti
  rw [<-hx] at ct dt
  have cp:=cntL_part t.of (i + 1)
  have dp:=depL_part t.of (i + 1)
  have px:=depT_pos x
  refine ⟨i,b,o,rfl,hlti,hA,?_⟩
  refine ⟨x.cells,rfl,hc5,?_⟩
  intro g9 w5 h5
  have M5:=M.alloc h5
  refine ⟨rfl,_,_,M5.get 0 rfl,Nat.le_of_ble_eq_true rfl,rfl,?_⟩
  intro w6 h6
  have M6:Mem w0 w6 [(g9,.cells x.cells.toArray 70 (0,0)),(g6,.cells #[sizeF g4 g5 g6] 272 (0,0)),(g5,intB di),(g4,intB ni)]:=M5.put 0 rfl h6
  refine ⟨_,M6.cell 1 rfl rfl,?_⟩
  refine ⟨x.cells,rfl,M6.rd 0 rfl,?_⟩
  refine ⟨((at' + 1:Nat):Int),fit ⟨by omega,by omega⟩,?_⟩
  refine (ih x (by rw [hx]; exact List.getElem_mem hlti) M6.tail hn2 hd2 (by omega)).mono ?_
  rintro v w7 ⟨n',d',M7,⟨rfl,e1,e2,k1,k2⟩ | ⟨rfl,hbad⟩⟩
  ·refine ⟨_,next,?_⟩
   refine ⟨(i + 1,n',d'),⟨rfl,rfl,rfl,rfl,rfl,trivial⟩,⟨hlti,M7,by show n' = n + 1 + cntL (t.of.take (i + 1)); omega,by show d' = max (max d at') (at' + depL (t.of.take (i + 1))); omega,k1,k2⟩,by show t.of.length - (i + 1) < t.of.length - i; omega⟩
  ·refine ⟨_,_,M7,.inr ⟨rfl,?_⟩⟩
   rcases hbad with hb | hb
   ·exact .inl (by omega)
   ·exact .inr (by omega)
 ·have hie:i = t.of.length:=by have:¬ (i:Int) < (t.of.length:Nat):=hge; omega
  rw [hie,List.take_length] at en edd
  exact ⟨_,_,M,.inl ⟨rfl,by omega,by omega,hn2,hd2⟩⟩
set_option maxRecDepth 100000 in
theorem fits_spec {w:World} {t:Tst} (h:TestIs w t):CallsV C.P 133 #[t.val] w fun v w' => v = .bool (decide (fitsP t)) ∧ Ext w w':=by
 refine callsV_of C_ok (args:=[_]) (plans:=[]) Tryz.func133 rfl Tryz.ntmps133 (by kernel_rfl) (Nat.le_of_ble_eq_true rfl) ?_
 intro g1 w1 h1
 refine ⟨t.cells,rfl,Rd.of_block h1.here,?_⟩
 have hS:CallsV C.P 199 #[t.val] w1 fun v w' => (∃ n d:Int,v = .tuple #[.int .i64 n,.int .i64 d] ∧ (n <= 24 <-> fitsP t)) ∧ Ext w1 w':=by
  refine callsV_of C_ok (args:=[_]) (plans:=plans199) Tryz.func199 rfl Tryz.ntmps199 (by kernel_rfl) (Nat.le_of_ble_eq_true rfl) ?_
  intro gb w2 h2
  have M2:=(Mem.start w1).alloc h2
  intro g4 w3 h3
  have M3:=M2.alloc h3
  intro g5 w4 h4
  have M4:=M3.alloc h4
  refine ⟨rfl,_,_,M4.get 1 rfl,Nat.le_of_ble_eq_true rfl,rfl,?_⟩
  intro w5 h5
  have M5:=M4.put 1 rfl h5
  refine ⟨rfl,_,_,M5.get 0 rfl,Nat.le_of_ble_eq_true rfl,rfl,?_⟩
  intro w6 h6
  have M6:Mem w1 w6 [(g5,intB 0),(g4,intB 0),(gb,.cells t.cells.toArray 70 (0,0))]:=M5.put 0 rfl h6
  intro g6 w7 h7
  have M7:=M6.alloc h7
  refine ⟨[],[.pointer (some ⟨g4,0,none⟩),.pointer (some ⟨g5,0,none⟩),.pointer (some ⟨g6,0,none⟩)],rfl,rfl,?_⟩
  refine ⟨rfl,_,_,M7.get 0 rfl,Nat.le_of_ble_eq_true rfl,rfl,?_⟩
  intro w8 h8
  have M8:Mem w1 w8 [(g6,.cells #[sizeF g4 g5 g6] 272 (0,0)),(g5,intB 0),(g4,intB 0),(gb,.cells t.cells.toArray 70 (0,0))]:=M7.put 0 rfl h8
  have M9:Mem w1 w8 [(g6,.cells #[sizeF g4 g5 g6] 272 (0,0)),(g5,intB 0),(g4,intB 0)]:=M8.sub (by simp)
  refine ⟨_,M8.cell 0 rfl rfl,?_⟩
  refine ⟨t.cells,rfl,M8.rd 3 rfl,?_⟩
  refine (walk_spec (n:=0) (d:=0) (at':=1) (h.ext h1.ext) M9 (by omega) (by omega) (by omega)).mono ?_
  rintro v w9 ⟨n',d',M10,⟨rfl,e1,e2,k1,k2⟩ | ⟨rfl,hbad⟩⟩
  ·refine ⟨_,M10.cell 2 rfl rfl,?_⟩
   refine ⟨_,M10.cell 1 rfl rfl,?_⟩
   exact ⟨⟨_,_,rfl,⟨fun _ => ⟨by omega,by omega⟩,fun _ => by omega⟩⟩,M10.ext⟩
  ·refine ⟨⟨_,_,rfl,⟨fun hh => absurd hh (by decide),fun hh => ?_⟩⟩,M10.ext⟩
   have h1:=hh.1
   have h2:=hh.2
   omega
 refine hS.mono ?_
 rintro v w2 ⟨⟨n,d,rfl,hn⟩,e⟩
 exact ⟨congrArg Value.bool (decide_eq_decide.2 hn),h1.ext.trans e⟩
set_option maxRecDepth 100000 in
theorem count_spec {w0:World} {t:Tst} (h:TestIs w0 t):∀ {w:World} {most:Nat},Ext w0 w -> most <= 24 →
  CallsV C.P 244 #[t.val,.int .i64 (most:Nat)] w fun v w' => (∃ n:Nat,v = .int .i64 (n:Nat) ∧ (n = cntT t ∨ most < n ∧ most < cntT t) ∧ n <= most + 1) ∧ Ext w w':=by
 induction h with
 | @mk t hn hr hc hl hk ih =>
 intro w most e0 hm
 refine callsV_of C_ok (args:=[_,_]) (plans:=[]) Tryz.func244 rfl Tryz.ntmps244 (by kernel_rfl) (Nat.le_of_ble_eq_true rfl) ?_
 intro gt w1 h1
 have M1:=(Mem.start w).alloc h1
 have ec:=cntT_eq t
 refine loopE C_ok (fun (s:Nat × Nat) => [(1,.int .i64 (most:Nat)),(2,.pointer (some ⟨gt,0,none⟩)),(5,.int .i64 (s.2:Nat)),(6,.int .i64 (s.1:Nat))])
  (fun s w' => s.1 <= t.of.length ∧ Mem w w' [(gt,.cells t.cells.toArray 70 (0,0))] ∧ (s.2 = 1 + cntL (t.of.take s.1) ∨ most < s.2 ∧ most < 1 + cntL (t.of.take s.1)) ∧ s.2 <= most + 1)
  (fun s => t.of.length - s.1) (0,1) ⟨rfl,rfl,rfl,rfl,trivial⟩ ⟨Nat.zero_le _,M1,.inl (by simp [cntL]),by show 1 <= most + 1; omega⟩ ?_
 rintro ⟨i,n⟩ w2 ⟨hi',M',en',hb'⟩
 have hi:i <= t.of.length:=hi'
 have M:Mem w w2 [(gt,.cells t.cells.toArray 70 (0,0))]:=M'
 have en:n = 1 + cntL (t.of.take i) ∨ most < n ∧ most < 1 + cntL (t.of.take i):=en'
 have hb:n <= most + 1:=hb'
 clear hi' M' en' hb'
 have cp:=cntL_part t.of i
 refine ⟨_,M.cell 0 (i:=4) rfl rfl,?_⟩
 refine brE_dec (fun hlt => ?_) (fun hge => ?_)
 ·have hlti:i < t.of.length:=by have:(i:Int) < (t.of.length:Nat):=hlt; omega
  refine brE_dec (fun hle => ?_) (fun hgt => ?_)
  ·have hle:(n:Int) <= (most:Nat):=hle
   have next:IntKind.i64.wrap ((i:Int) + 1) = ((i + 1:Nat):Int):=fit ⟨by omega,by omega⟩
   obtain ⟨b,o,hA,hc5⟩:=Reads.elem Tst.len (by omega) (hr.ext (e0.trans M.ext)) hlti
   obtain ⟨x,hx⟩:∃ x,x = t.of[i]:=⟨_,rfl⟩
   rw [<-hx] at hc5
   have ct:=cntL_take hlti
   rw [<-hx] at ct
   refine ⟨_,M.cell 0 (i:=4) rfl rfl,?_⟩
   refine ⟨i,b,o,rfl,hlti,hA,?_⟩
   refine ⟨x.cells,rfl,hc5,?_⟩
   refine ⟨((most - n:Nat):Int),by rw [fit ⟨by omega,by omega⟩]; omega,?_⟩
   refine (ih x (by rw [hx]; exact List.getElem_mem hlti) (e0.trans M.ext) (by omega)).mono ?_
   rintro v w3 ⟨⟨k,rfl,hk1,hk2⟩,e3⟩
   refine ⟨((n + k:Nat):Int),fit ⟨by omega,by omega⟩,?_⟩
   refine ⟨_,next,?_⟩
   refine ⟨(i + 1,n + k),⟨rfl,rfl,rfl,rfl,trivial⟩,⟨hlti,M.grow e3,?_,?_⟩,by show t.of.length - (i + 1) < t.of.length - i; omega⟩
   ·show n + k = 1 + cntL (t.of.take (i + 1)) ∨ most < n + k ∧ most < 1 + cntL (t.of.take (i + 1))
    omega
   ·show n + k <= most + 1
    omega
  ·have hgt:¬ (n:Int) <= (most:Nat):=hgt
   exact ⟨⟨n,rfl,by omega,hb⟩,M.ext⟩
 ·have hie:i = t.of.length:=by have:¬ (i:Int) < (t.of.length:Nat):=hge; omega
  rw [hie,List.take_length] at en
  exact ⟨⟨n,rfl,by omega,hb⟩,M.ext⟩
set_option maxRecDepth 100000 in
theorem depth_spec {w0:World} {t:Tst} (h:TestIs w0 t):∀ {w:World} {most:Nat},Ext w0 w -> most <= 6 →
  CallsV C.P 245 #[t.val,.int .i64 (most:Nat)] w fun v w' => (∃ n:Nat,v = .int .i64 (n:Nat) ∧ (n = depT t ∨ most < n ∧ most < depT t) ∧ n <= most + 1) ∧ Ext w w':=by
 induction h with
 | @mk t hn hr hc hl hk ih =>
 intro w most e0 hm
 refine callsV_of C_ok (args:=[_,_]) (plans:=[]) Tryz.func245 rfl Tryz.ntmps245 (by kernel_rfl) (Nat.le_of_ble_eq_true rfl) ?_
 intro gt w1 h1
 have M1:=(Mem.start w).alloc h1
 have ec:=depT_eq t
 refine loopE C_ok (fun (s:Nat × Nat) => [(1,.int .i64 (most:Nat)),(2,.pointer (some ⟨gt,0,none⟩)),(5,.int .i64 (s.2:Nat)),(6,.int .i64 (s.1:Nat))])
  (fun s w' => s.1 <= t.of.length ∧ Mem w w' [(gt,.cells t.cells.toArray 70 (0,0))] ∧ (s.2 = depL (t.of.take s.1) ∨ most <= s.2 ∧ most <= depL (t.of.take s.1)) ∧ s.2 <= most)
  (fun s => t.of.length - s.1) (0,0) ⟨rfl,rfl,rfl,rfl,trivial⟩ ⟨Nat.zero_le _,M1,.inl (by simp [depL]),Nat.zero_le _⟩ ?_
 rintro ⟨i,n⟩ w2 ⟨hi',M',en',hb'⟩
 have hi:i <= t.of.length:=hi'
 have M:Mem w w2 [(gt,.cells t.cells.toArray 70 (0,0))]:=M'
 have en:n = depL (t.of.take i) ∨ most <= n ∧ most <= depL (t.of.take i):=en'
 have hb:n <= most:=hb'
 clear hi' M' en' hb'
 have cp:=depL_part t.of i
 refine ⟨_,M.cell 0 (i:=4) rfl rfl,?_⟩
 refine brE_dec (fun hlt => ?_) (fun hge => ?_)
 ·have hlti:i < t.of.length:=by have:(i:Int) < (t.of.length:Nat):=hlt; omega
  refine brE_dec (fun hle => ?_) (fun hgt => ?_)
  ·have hle:(n:Int) < (most:Nat):=hle
   have next:IntKind.i64.wrap ((i:Int) + 1) = ((i + 1:Nat):Int):=fit ⟨by omega,by omega⟩
   obtain ⟨b,o,hA,hc5⟩:=Reads.elem Tst.len (by omega) (hr.ext (e0.trans M.ext)) hlti
   obtain ⟨x,hx⟩:∃ x,x = t.of[i]:=⟨_,rfl⟩
   rw [<-hx] at hc5
   have ct:=depL_take hlti
   rw [<-hx] at ct
   refine ⟨_,M.cell 0 (i:=4) rfl rfl,?_⟩
   refine ⟨i,b,o,rfl,hlti,hA,?_⟩
   refine ⟨x.cells,rfl,hc5,?_⟩
   refine ⟨((most - 1:Nat):Int),by rw [fit ⟨by omega,by omega⟩]; omega,?_⟩
   refine (ih x (by rw [hx]; exact List.getElem_mem hlti) (e0.trans M.ext) (by omega)).mono ?_
   rintro v w3 ⟨⟨k,rfl,hk1,hk2⟩,e3⟩
   have hmx:(if ((k:Nat):Int) > ((n:Nat):Int) then ((k:Nat):Int) else ((n:Nat):Int)) = ((max n k:Nat):Int):=by split <;> omega
   refine ⟨_,maxQ' hmx rfl rfl rfl,?_⟩
   refine ⟨_,next,?_⟩
   refine ⟨(i + 1,max n k),⟨rfl,rfl,rfl,rfl,trivial⟩,⟨hlti,M.grow e3,?_,?_⟩,by show t.of.length - (i + 1) < t.of.length - i; omega⟩
   ·show max n k = depL (t.of.take (i + 1)) ∨ most <= max n k ∧ most <= depL (t.of.take (i + 1))
    omega
   ·show max n k <= most
    omega
  ·have hgt:¬ (n:Int) < (most:Nat):=hgt
   refine ⟨((n + 1:Nat):Int),fit ⟨by omega,by omega⟩,?_⟩
   exact ⟨⟨n + 1,rfl,by omega,by omega⟩,M.ext⟩
 ·have hie:i = t.of.length:=by have:¬ (i:Int) < (t.of.length:Nat):=hge; omega
  rw [hie,List.take_length] at en
  refine ⟨((n + 1:Nat):Int),fit ⟨by omega,by omega⟩,?_⟩
  exact ⟨⟨n + 1,rfl,by omega,by omega⟩,M.ext⟩
set_option maxRecDepth 100000 in
theorem small_spec {w:World} {t:Tst} (h:TestIs w t):CallsV C.P 107 #[t.val] w fun v w' => v = .bool (decide (fitsP t)) ∧ Ext w w':=by
 refine callsV_of C_ok (args:=[_]) (plans:=[]) Tryz.func107 rfl Tryz.ntmps107 (by kernel_rfl) (Nat.le_of_ble_eq_true rfl) ?_
 intro g1 w1 h1
 refine ⟨t.cells,rfl,Rd.of_block h1.here,?_⟩
 have hS:CallsV C.P 174 #[t.val] w1 fun v w' => (∃ n d:Int,v = .tuple #[.int .i64 n,.int .i64 d] ∧ (n <= 24 <-> fitsP t)) ∧ Ext w1 w':=by
  refine callsV_of C_ok (args:=[_]) (plans:=[]) Tryz.func174 rfl Tryz.ntmps174 (by kernel_rfl) (Nat.le_of_ble_eq_true rfl) ?_
  intro gb w2 h2
  have M2:Mem w1 w2 [(gb,.cells t.cells.toArray 70 (0,0))]:=(Mem.start w1).alloc h2
  refine ⟨t.cells,rfl,M2.rd 0 rfl,?_⟩
  refine (count_spec (most:=24) h (h1.ext.trans M2.ext) (by omega)).mono ?_
  rintro v w3 ⟨⟨n,rfl,hn1,hn2⟩,e3⟩
  have M3:=M2.grow e3
  refine brE_dec (fun c1 => ?_) (fun c1 => ?_)
  ·have c1:((n:Nat):Int) > 24:=c1
   refine ⟨⟨_,_,rfl,⟨fun hh => absurd hh (by decide),fun hh => ?_⟩⟩,M3.ext⟩
   have k1:=hh.1
   omega
  have c1:¬ ((n:Nat):Int) > 24:=c1
  refine ⟨t.cells,rfl,M3.rd 0 rfl,?_⟩
  refine (depth_spec (most:=6) h (h1.ext.trans M3.ext) (by omega)).mono ?_
  rintro v w4 ⟨⟨d,rfl,hd1,hd2⟩,e4⟩
  refine brE_dec (fun c2 => ?_) (fun c2 => ?_)
  ·have c2:((d:Nat):Int) > 6:=c2
   refine ⟨⟨_,_,rfl,⟨fun hh => absurd hh (by decide),fun hh => ?_⟩⟩,M3.ext.trans e4⟩
   have k2:=hh.2
   omega
  have c2:¬ ((d:Nat):Int) > 6:=c2
  exact ⟨⟨_,_,rfl,⟨fun _ => ⟨by omega,by omega⟩,fun _ => by omega⟩⟩,M3.ext.trans e4⟩
 refine hS.mono ?_
 rintro v w2 ⟨⟨n,d,rfl,hn⟩,e⟩
 exact ⟨congrArg Value.bool (decide_eq_decide.2 hn),h1.ext.trans e⟩
end Go.Proofs.YtdpdjcopkehdjaaGreat.Rk
namespace Go.Proofs.YtdpdjcopkehdjaaGreat.Rk
open Go.Eng Go.RowKit
def sideB (s:Int):Bool:=decide (s = 1 ∨ s = 2)
def nodeK (op k attr side n:Int) (r:Bool) (len:Nat):Bool :=
 if op = 1 then decide (len = 0 ∧ attr = 0 ∧ side = 0 ∧ n = 0)
 else if op = 2 ∨ op = 3 then decide (len = 0 ∧ (k = 1 ∨ k = 3) ∧ side = 0 ∧ n = 0)
 else if op = 4 then decide (len = 0 ∧ k ≠ 0 ∧ side = 0 ∧ n = 0)
 else if op = 5 then decide (len = 0 ∧ (k = 1 ∨ k = 2) ∧ sideB side = true ∧ r = true)
 else if op = 6 then decide (len = 0 ∧ k = 1 ∧ sideB side = true ∧ r = true)
 else if op = 7 then decide (len = 1 ∧ attr = 0 ∧ side = 0 ∧ n = 0)
 else if op = 8 ∨ op = 9 then decide (2 <= len ∧ attr = 0 ∧ side = 0 ∧ n = 0)
 else false
def nodeB (t:Tst):Bool:=nodeK t.op (kindZ t.attr) t.attr t.side t.n (rangeB t.attr t.n) t.of.length
mutual
def shapedT:Tst -> Bool
 | .mk op attr side n A c of => nodeB (.mk op attr side n A c of) && shapedL of
def shapedL:List Tst -> Bool
 | [] => true
 | x :: r => shapedT x && shapedL r
end
theorem shapedT_eq (t:Tst):shapedT t = (nodeB t && shapedL t.of):=by cases t; rfl
theorem shapedL_all:∀ (l:List Tst),shapedL l = l.all shapedT
 | [] => rfl
 | x :: r => by rw [shapedL,shapedL_all r]; rfl
theorem last4 {A1 A2 A3:Prop} [Decidable A1] [Decidable A2] [Decidable A3] {b:Bool} (h1:A1) (h2:A2) (h3:A3):b = decide (A1 ∧ A2 ∧ A3 ∧ b = true):=by
 cases b
 ·exact (decide_eq_false fun h => by cases h.2.2.2).symm
 ·exact (decide_eq_true ⟨h1,h2,h3,rfl⟩).symm
section
variable {k attr side n:Int} {r:Bool} {len:Nat}
theorem node1:nodeK 1 k attr side n r len = decide (len = 0 ∧ attr = 0 ∧ side = 0 ∧ n = 0):=rfl
theorem node2:nodeK 2 k attr side n r len = decide (len = 0 ∧ (k = 1 ∨ k = 3) ∧ side = 0 ∧ n = 0):=rfl
theorem node3:nodeK 3 k attr side n r len = decide (len = 0 ∧ (k = 1 ∨ k = 3) ∧ side = 0 ∧ n = 0):=rfl
theorem node4:nodeK 4 k attr side n r len = decide (len = 0 ∧ k ≠ 0 ∧ side = 0 ∧ n = 0):=rfl
theorem node5:nodeK 5 k attr side n r len = decide (len = 0 ∧ (k = 1 ∨ k = 2) ∧ sideB side = true ∧ r = true):=rfl
theorem node6:nodeK 6 k attr side n r len = decide (len = 0 ∧ k = 1 ∧ sideB side = true ∧ r = true):=rfl
theorem node7:nodeK 7 k attr side n r len = decide (len = 1 ∧ attr = 0 ∧ side = 0 ∧ n = 0):=rfl
theorem node8:nodeK 8 k attr side n r len = decide (2 <= len ∧ attr = 0 ∧ side = 0 ∧ n = 0):=rfl
theorem node9:nodeK 9 k attr side n r len = decide (2 <= len ∧ attr = 0 ∧ side = 0 ∧ n = 0):=rfl
end
theorem node_off {op k attr side n:Int} {r:Bool} {len:Nat} (h1:¬ op = 1) (h2:¬ op = 2) (h3:¬ op = 3) (h4:¬ op = 4) (h5:¬ op = 5) (h6:¬ op = 6) (h7:¬ op = 7) (h8:¬ op = 8) (h9:¬ op = 9):nodeK op k attr side n r len = false:=by
 unfold nodeK
 rw [if_neg h1,if_neg (by omega),if_neg h4,if_neg h5,if_neg h6,if_neg h7,if_neg (by omega)]
theorem num_range {a n:Int} (h:kindZ a = 1 ∨ kindZ a = 2):numB a n = rangeB a n:=by
 unfold numB rangeB
 by_cases h1:a = 1
 ·rw [if_pos h1,if_pos h1]
 ·rw [if_neg h1,if_neg h1]
  by_cases h2:a = 2
  ·rw [if_pos h2,if_pos h2]
  ·rw [if_neg h2,if_neg h2]
   have hk:kindZ a = 2:=by
    rcases h with h | h
    ·unfold kindZ at h
     rw [if_neg (by omega)] at h
     split at h
     ·cases h
     ·split at h <;> cases h
    ·exact h
   exact decide_eq_decide.2 ⟨fun hn => ⟨hk,hn⟩,fun hn => hn.2⟩
theorem kind1 {a:Int}:(a = 1 ∨ a = 2) <-> kindZ a = 1:=by unfold kindZ; (repeat' split) <;> omega
theorem kind2 {a:Int}:(3 <= a ∧ a <= 5) <-> kindZ a = 2:=by unfold kindZ; (repeat' split) <;> omega
theorem kind3 {a:Int}:(a = 6 ∨ a = 7) <-> kindZ a = 3:=by unfold kindZ; (repeat' split) <;> omega
theorem kind_cases (a:Int):kindZ a = 0 ∨ kindZ a = 1 ∨ kindZ a = 2 ∨ kindZ a = 3:=by unfold kindZ; (repeat' split) <;> omega
theorem index_unshaped {w0:World} {of:List Tst} {A:Option Addr} {c:Nat} (hr:Reads w0 A (of.flatMap Tst.cells)) (hl:of.length <= 9223372036854775807)
  (ih:∀ x ∈ of,∀ {w:World},Ext w0 w -> CallsV C.P 134 #[x.val] w fun v w' => v = .bool (shapedT x) ∧ Ext w w') {w:World} (e0:Ext w0 w) :
  CallsV C.P 202 #[.slice A of.length c,.func (.func 203) #[] #[]] w fun v w' => v = .bool (!shapedL of) ∧ Ext w w':=by
 refine callsV_of C_ok (args:=[_,_]) (plans:=[]) Tryz.func202 rfl Tryz.ntmps202 (by kernel_rfl) (Nat.le_of_ble_eq_true rfl) ?_
 have hI:CallsV C.P 255 #[.slice A of.length c,.func (.func 203) #[] #[]] w fun v w' => (∃ z:Int,v = .int .i64 z ∧ (z >= 0 <-> ¬ shapedL of = true)) ∧ Ext w w':=by
  refine callsV_of C_ok (args:=[_,_]) (plans:=[]) Tryz.func255 rfl Tryz.ntmps255 (by kernel_rfl) (Nat.le_of_ble_eq_true rfl) ?_
  refine loopE C_ok (fun (i:Nat) => [(0,.slice A of.length c),(1,.func (.func 203) #[] #[]),(7,.int .i64 of.length),(8,.int .i64 (i:Nat))])
   (fun i w' => i <= of.length ∧ Ext w w' ∧ (of.take i).all shapedT = true) (fun i => of.length - i) 0 ⟨rfl,rfl,rfl,rfl,trivial⟩ ⟨Nat.zero_le _,Ext.refl _,rfl⟩ ?_
  rintro i w1 ⟨hi,e1,hall⟩
  refine brE_dec (fun hlt => ?_) (fun hge => ?_)
  ·have hlti:i < of.length:=by have:(i:Int) < (of.length:Nat):=hlt; omega
   have next:IntKind.i64.wrap ((i:Int) + 1) = ((i + 1:Nat):Int):=fit ⟨by omega,by omega⟩
   obtain ⟨b,o,hA,hc5⟩:=Reads.elem Tst.len (by omega) (hr.ext (e0.trans e1)) hlti
   obtain ⟨x,hx⟩:∃ x,x = of[i]:=⟨_,rfl⟩
   have hxm:x ∈ of:=by rw [hx]; exact List.getElem_mem hlti
   have hst:(of.take (i + 1)).all shapedT = ((of.take i).all shapedT && shapedT x):=by rw [List.take_succ_eq_append_getElem hlti,List.all_append,<-hx]; simp
   rw [<-hx] at hc5
   refine ⟨i,b,o,rfl,hlti,hA,?_⟩
   refine ⟨x.cells,rfl,hc5,?_⟩
   have hS:CallsV C.P 203 #[x.val] w1 fun v w' => v = .bool (!shapedT x) ∧ Ext w1 w':=by
    refine callsV_of C_ok (args:=[_]) (plans:=[]) Tryz.func203 rfl Tryz.ntmps203 (by kernel_rfl) (Nat.le_of_ble_eq_true rfl) ?_
    intro g w2 h2
    refine ⟨x.cells,rfl,Rd.of_block h2.here,?_⟩
    refine (ih x hxm ((e0.trans e1).trans h2.ext)).mono ?_
    rintro v w3 ⟨rfl,e3⟩
    exact ⟨rfl,h2.ext.trans e3⟩
   refine hS.mono ?_
   rintro v w2 ⟨rfl,e2⟩
   refine brE_mk (fun hb => ?_) (fun hb => ?_)
   ·have hb:shapedT x = false:=by simpa using hb
    refine ⟨⟨(i:Nat),rfl,⟨fun _ hh => ?_,fun _ => Int.natCast_nonneg _⟩⟩,e1.trans e2⟩
    rw [shapedL_all,List.all_eq_true] at hh
    rw [hh x hxm] at hb
    cases hb
   ·have hb:shapedT x = true:=by simpa using hb
    refine ⟨_,next,?_⟩
    exact ⟨i + 1,⟨rfl,rfl,rfl,rfl,trivial⟩,⟨hlti,e1.trans e2,by rw [hst,hall,hb]; rfl⟩,by show of.length - (i + 1) < of.length - i; omega⟩
  ·have hie:i = of.length:=by have:¬ (i:Int) < (of.length:Nat):=hge; omega
   rw [hie,List.take_length] at hall
   exact ⟨⟨-1,rfl,⟨fun h => absurd h (by decide),fun h => absurd (by rw [shapedL_all]; exact hall) h⟩⟩,e1⟩
 refine hI.mono ?_
 rintro v w' ⟨⟨z,rfl,hz⟩,e⟩
 refine ⟨congrArg Value.bool ?_,e⟩
 cases hs:shapedL of with
 | true => exact decide_eq_false fun h => hz.1 h hs
 | false => exact decide_eq_true (hz.2 (by rw [hs]; decide))
set_option maxRecDepth 100000 in
set_option maxHeartbeats 8000000 in
theorem shaped_spec {w0:World} {t:Tst} (h:TestIs w0 t):∀ {w:World},Ext w0 w -> CallsV C.P 134 #[t.val] w fun v w' => v = .bool (shapedT t) ∧ Ext w w':=by
 induction h with
 | @mk t hn hr hc hl hk ih =>
 intro w e0
 obtain ⟨op,attr,side,n,A,c,of⟩:=t
 rw [shapedT_eq]
 obtain ⟨kd,hkd⟩:∃ kd,kd = kindZ attr:=⟨_,rfl⟩
 obtain ⟨nb,hnb⟩:∃ nb,nb = nodeB (.mk op attr side n A c of):=⟨_,rfl⟩
 rw [<-hnb]
 have hnb2:nodeK op kd attr side n (rangeB attr n) of.length = nb:=by rw [hkd]; exact hnb.symm
 have hl:of.length <= 9223372036854775807:=hl
 clear hnb hn
 refine callsV_ofS (args:=[_]) Tryz.func134 rfl Tryz.ntmps134 C_ok (Nat.le_of_ble_eq_true rfl) ?_
 refine Snd.go C_ok [] (by kernel_rfl) ?_
 intro g1 w1 h1
 have HB:∀ {i:Nat} {v:Value},(Tst.mk op attr side n A c of).cells.toArray[i]? = some v -> w1.cell? ⟨g1,i,none⟩ = some v:=fun hv => cell_of_block h1.here hv
 have E1:Ext w w1:=h1.ext
 clear h1
 refine ⟨Snd.go C_ok [] (by kernel_rfl) ?_⟩
 refine ⟨_,HB (i:=1) rfl,?_⟩
 have X:=kindOf_spec attr w1
 rw [<-hkd] at X
 refine X.mono ?_
 clear X
 rintro v w1 ⟨rfl,rfl⟩
 refine ⟨Snd.go C_ok [] (by kernel_rfl) ?_⟩
 refine ⟨_,HB (i:=4) rfl,?_⟩
 refine ⟨Snd.join C_ok [] (fun _:Unit => [(1,.pointer (some ⟨g1,0,none⟩)),(3,.int .i64 kd),(4,.bool (decide (((of.length:Nat):Int) = 0))),(5,.bool (sideB side))]) (fun _ w' => w' = w1) (by kernel_rfl) ?_ ?_⟩
 ·refine ⟨_,HB (i:=2) rfl,?_⟩
  refine brE_dec (fun s1 => ?_) (fun s1 => ?_)
  ·have s1:side = 1:=s1
   exact ⟨(),⟨rfl,rfl,rfl,congrArg (fun x => some (Value.bool x)) (decide_eq_true (.inl s1)).symm,trivial⟩,rfl⟩
  ·have s1:¬ side = 1:=s1
   refine ⟨_,HB (i:=2) rfl,?_⟩
   exact ⟨(),⟨rfl,rfl,rfl,congrArg (fun x => some (Value.bool x)) (decide_eq_decide.2 ⟨fun x => .inr x,fun h => h.resolve_left s1⟩),trivial⟩,rfl⟩
 rintro _ w1 rfl
 refine Snd.go C_ok [] (by kernel_rfl) ?_
 refine ⟨Snd.join C_ok [] (fun _:Unit => [(1,.pointer (some ⟨g1,0,none⟩)),(6,.bool nb)]) (fun _ w' => w' = w1) (by kernel_rfl) ?_ ?_⟩
 ·refine ⟨_,HB (i:=0) rfl,?_⟩
  refine brE_dec (fun o1 => ?_) (fun o1 => ?_)
  ·have o1:op = 1:=o1
   subst o1
   refine brE_dec (fun l0 => ?_) (fun l0 => ?_)
   ·have l0:of.length = 0:=by have l0:((of.length:Nat):Int) = 0:=l0; omega
    refine ⟨_,HB (i:=1) rfl,?_⟩
    refine brE_dec (fun a0 => ?_) (fun a0 => ?_)
    ·have a0:attr = 0:=a0
     refine ⟨_,HB (i:=2) rfl,?_⟩
     refine brE_dec (fun s0 => ?_) (fun s0 => ?_)
     ·have s0:side = 0:=s0
      refine ⟨_,HB (i:=3) rfl,?_⟩
      exact ⟨(),⟨rfl,congrArg (fun x => some (Value.bool x)) (((decide_eq_decide.2 ⟨fun x => ⟨l0,a0,s0,x⟩,fun h => h.2.2.2⟩).trans node1.symm).trans hnb2),trivial⟩,rfl⟩
     ·have s0:¬ (side = 0):=s0
      exact ⟨(),⟨rfl,congrArg (fun x => some (Value.bool x)) (((node1.trans (decide_eq_false fun h => s0 h.2.2.1)).symm).trans hnb2),trivial⟩,rfl⟩
    ·have a0:¬ (attr = 0):=a0
     exact ⟨(),⟨rfl,congrArg (fun x => some (Value.bool x)) (((node1.trans (decide_eq_false fun h => a0 h.2.1)).symm).trans hnb2),trivial⟩,rfl⟩
   ·have l0:¬ (of.length = 0):=by have l0:¬ ((of.length:Nat):Int) = 0:=l0; omega
    exact ⟨(),⟨rfl,congrArg (fun x => some (Value.bool x)) (((node1.trans (decide_eq_false fun h => l0 h.1)).symm).trans hnb2),trivial⟩,rfl⟩
  have o1:¬ op = 1:=o1
  refine brE_dec (fun o2 => ?_) (fun o2 => ?_)
  ·have o2:op = 2:=o2
   refine brE_true (decide_eq_true o2) ?_
   subst o2
   refine brE_dec (fun l0 => ?_) (fun l0 => ?_)
   ·have l0:of.length = 0:=by have l0:((of.length:Nat):Int) = 0:=l0; omega
    refine brE_dec (fun k1 => ?_) (fun k1 => ?_)
    ·have k1:kd = 1:=k1
     refine ⟨_,HB (i:=2) rfl,?_⟩
     refine brE_dec (fun s0 => ?_) (fun s0 => ?_)
     ·have s0:side = 0:=s0
      refine ⟨_,HB (i:=3) rfl,?_⟩
      exact ⟨(),⟨rfl,congrArg (fun x => some (Value.bool x)) (((decide_eq_decide.2 ⟨fun x => ⟨l0,.inl k1,s0,x⟩,fun h => h.2.2.2⟩).trans node2.symm).trans hnb2),trivial⟩,rfl⟩
     ·have s0:¬ (side = 0):=s0
      exact ⟨(),⟨rfl,congrArg (fun x => some (Value.bool x)) (((node2.trans (decide_eq_false fun h => s0 h.2.2.1)).symm).trans hnb2),trivial⟩,rfl⟩
    ·have k1:¬ (kd = 1):=k1
     refine brE_dec (fun k3 => ?_) (fun k3 => ?_)
     ·have k3:kd = 3:=k3
      refine ⟨_,HB (i:=2) rfl,?_⟩
      refine brE_dec (fun s0 => ?_) (fun s0 => ?_)
      ·have s0:side = 0:=s0
       refine ⟨_,HB (i:=3) rfl,?_⟩
       exact ⟨(),⟨rfl,congrArg (fun x => some (Value.bool x)) (((decide_eq_decide.2 ⟨fun x => ⟨l0,.inr k3,s0,x⟩,fun h => h.2.2.2⟩).trans node2.symm).trans hnb2),trivial⟩,rfl⟩
      ·have s0:¬ (side = 0):=s0
       exact ⟨(),⟨rfl,congrArg (fun x => some (Value.bool x)) (((node2.trans (decide_eq_false fun h => s0 h.2.2.1)).symm).trans hnb2),trivial⟩,rfl⟩
     ·have k3:¬ (kd = 3):=k3
      exact ⟨(),⟨rfl,congrArg (fun x => some (Value.bool x)) (((node2.trans (decide_eq_false fun h => (fun e => e.elim k1 k3) h.2.1)).symm).trans hnb2),trivial⟩,rfl⟩
   ·have l0:¬ (of.length = 0):=by have l0:¬ ((of.length:Nat):Int) = 0:=l0; omega
    exact ⟨(),⟨rfl,congrArg (fun x => some (Value.bool x)) (((node2.trans (decide_eq_false fun h => l0 h.1)).symm).trans hnb2),trivial⟩,rfl⟩
  have o2:¬ op = 2:=o2
  refine brE_dec (fun o3 => ?_) (fun o3 => ?_)
  ·have o3:op = 3:=o3
   subst o3
   refine brE_dec (fun l0 => ?_) (fun l0 => ?_)
   ·have l0:of.length = 0:=by have l0:((of.length:Nat):Int) = 0:=l0; omega
    refine brE_dec (fun k1 => ?_) (fun k1 => ?_)
    ·have k1:kd = 1:=k1
     refine ⟨_,HB (i:=2) rfl,?_⟩
     refine brE_dec (fun s0 => ?_) (fun s0 => ?_)
     ·have s0:side = 0:=s0
      refine ⟨_,HB (i:=3) rfl,?_⟩
      exact ⟨(),⟨rfl,congrArg (fun x => some (Value.bool x)) (((decide_eq_decide.2 ⟨fun x => ⟨l0,.inl k1,s0,x⟩,fun h => h.2.2.2⟩).trans node3.symm).trans hnb2),trivial⟩,rfl⟩
     ·have s0:¬ (side = 0):=s0
      exact ⟨(),⟨rfl,congrArg (fun x => some (Value.bool x)) (((node3.trans (decide_eq_false fun h => s0 h.2.2.1)).symm).trans hnb2),trivial⟩,rfl⟩
    ·have k1:¬ (kd = 1):=k1
     refine brE_dec (fun k3 => ?_) (fun k3 => ?_)
     ·have k3:kd = 3:=k3
      refine ⟨_,HB (i:=2) rfl,?_⟩
      refine brE_dec (fun s0 => ?_) (fun s0 => ?_)
      ·have s0:side = 0:=s0
       refine ⟨_,HB (i:=3) rfl,?_⟩
       exact ⟨(),⟨rfl,congrArg (fun x => some (Value.bool x)) (((decide_eq_decide.2 ⟨fun x => ⟨l0,.inr k3,s0,x⟩,fun h => h.2.2.2⟩).trans node3.symm).trans hnb2),trivial⟩,rfl⟩
      ·have s0:¬ (side = 0):=s0
       exact ⟨(),⟨rfl,congrArg (fun x => some (Value.bool x)) (((node3.trans (decide_eq_false fun h => s0 h.2.2.1)).symm).trans hnb2),trivial⟩,rfl⟩
     ·have k3:¬ (kd = 3):=k3
      exact ⟨(),⟨rfl,congrArg (fun x => some (Value.bool x)) (((node3.trans (decide_eq_false fun h => (fun e => e.elim k1 k3) h.2.1)).symm).trans hnb2),trivial⟩,rfl⟩
   ·have l0:¬ (of.length = 0):=by have l0:¬ ((of.length:Nat):Int) = 0:=l0; omega
    exact ⟨(),⟨rfl,congrArg (fun x => some (Value.bool x)) (((node3.trans (decide_eq_false fun h => l0 h.1)).symm).trans hnb2),trivial⟩,rfl⟩
  have o3:¬ op = 3:=o3
  refine brE_dec (fun o4 => ?_) (fun o4 => ?_)
  ·have o4:op = 4:=o4
   subst o4
   refine brE_dec (fun l0 => ?_) (fun l0 => ?_)
   ·have l0:of.length = 0:=by have l0:((of.length:Nat):Int) = 0:=l0; omega
    refine brE_ndec (fun k0 => ?_) (fun k0 => ?_)
    ·have k0:¬ (kd = 0):=k0
     refine ⟨_,HB (i:=2) rfl,?_⟩
     refine brE_dec (fun s0 => ?_) (fun s0 => ?_)
     ·have s0:side = 0:=s0
      refine ⟨_,HB (i:=3) rfl,?_⟩
      exact ⟨(),⟨rfl,congrArg (fun x => some (Value.bool x)) (((decide_eq_decide.2 ⟨fun x => ⟨l0,k0,s0,x⟩,fun h => h.2.2.2⟩).trans node4.symm).trans hnb2),trivial⟩,rfl⟩
     ·have s0:¬ (side = 0):=s0
      exact ⟨(),⟨rfl,congrArg (fun x => some (Value.bool x)) (((node4.trans (decide_eq_false fun h => s0 h.2.2.1)).symm).trans hnb2),trivial⟩,rfl⟩
    ·have k0:kd = 0:=k0
     exact ⟨(),⟨rfl,congrArg (fun x => some (Value.bool x)) (((node4.trans (decide_eq_false fun h => (fun e => e k0) h.2.1)).symm).trans hnb2),trivial⟩,rfl⟩
   ·have l0:¬ (of.length = 0):=by have l0:¬ ((of.length:Nat):Int) = 0:=l0; omega
    exact ⟨(),⟨rfl,congrArg (fun x => some (Value.bool x)) (((node4.trans (decide_eq_false fun h => l0 h.1)).symm).trans hnb2),trivial⟩,rfl⟩
  have o4:¬ op = 4:=o4
  refine brE_dec (fun o5 => ?_) (fun o5 => ?_)
  ·have o5:op = 5:=o5
   subst o5
   refine brE_dec (fun l0 => ?_) (fun l0 => ?_)
   ·have l0:of.length = 0:=by have l0:((of.length:Nat):Int) = 0:=l0; omega
    refine brE_dec (fun k1 => ?_) (fun k1 => ?_)
    ·have k1:kd = 1:=k1
     refine brE_mk (fun sb => ?_) (fun sb => ?_)
     ·have sb:sideB side = true:=sb
      refine ⟨_,HB (i:=1) rfl,?_⟩
      refine ⟨_,HB (i:=3) rfl,?_⟩
      refine (inRange_spec _ _ _).mono ?_
      rintro v w2 ⟨rfl,rfl⟩
      exact ⟨(),⟨rfl,congrArg (fun x => some (Value.bool x)) (((last4 l0 (.inl k1) sb).trans node5.symm).trans hnb2),trivial⟩,rfl⟩
     ·have sb:sideB side = false:=sb
      exact ⟨(),⟨rfl,congrArg (fun x => some (Value.bool x)) (((node5.trans (decide_eq_false fun h => by rw [h.2.2.1] at sb; cases sb)).symm).trans hnb2),trivial⟩,rfl⟩
    ·have k1:¬ (kd = 1):=k1
     refine brE_dec (fun k2 => ?_) (fun k2 => ?_)
     ·have k2:kd = 2:=k2
      refine brE_mk (fun sb => ?_) (fun sb => ?_)
      ·have sb:sideB side = true:=sb
       refine ⟨_,HB (i:=1) rfl,?_⟩
       refine ⟨_,HB (i:=3) rfl,?_⟩
       refine (inRange_spec _ _ _).mono ?_
       rintro v w2 ⟨rfl,rfl⟩
       exact ⟨(),⟨rfl,congrArg (fun x => some (Value.bool x)) (((last4 l0 (.inr k2) sb).trans node5.symm).trans hnb2),trivial⟩,rfl⟩
      ·have sb:sideB side = false:=sb
       exact ⟨(),⟨rfl,congrArg (fun x => some (Value.bool x)) (((node5.trans (decide_eq_false fun h => by rw [h.2.2.1] at sb; cases sb)).symm).trans hnb2),trivial⟩,rfl⟩
     ·have k2:¬ (kd = 2):=k2
      exact ⟨(),⟨rfl,congrArg (fun x => some (Value.bool x)) (((node5.trans (decide_eq_false fun h => (fun e => e.elim k1 k2) h.2.1)).symm).trans hnb2),trivial⟩,rfl⟩
   ·have l0:¬ (of.length = 0):=by have l0:¬ ((of.length:Nat):Int) = 0:=l0; omega
    exact ⟨(),⟨rfl,congrArg (fun x => some (Value.bool x)) (((node5.trans (decide_eq_false fun h => l0 h.1)).symm).trans hnb2),trivial⟩,rfl⟩
  have o5:¬ op = 5:=o5
  refine brE_dec (fun o6 => ?_) (fun o6 => ?_)
  ·have o6:op = 6:=o6
   subst o6
   refine brE_dec (fun l0 => ?_) (fun l0 => ?_)
   ·have l0:of.length = 0:=by have l0:((of.length:Nat):Int) = 0:=l0; omega
    refine brE_dec (fun k1 => ?_) (fun k1 => ?_)
    ·have k1:kd = 1:=k1
     refine brE_mk (fun sb => ?_) (fun sb => ?_)
     ·have sb:sideB side = true:=sb
      refine ⟨_,HB (i:=1) rfl,?_⟩
      refine ⟨_,HB (i:=3) rfl,?_⟩
      refine (inRange_spec _ _ _).mono ?_
      rintro v w2 ⟨rfl,rfl⟩
      exact ⟨(),⟨rfl,congrArg (fun x => some (Value.bool x)) (((last4 l0 (k1) sb).trans node6.symm).trans hnb2),trivial⟩,rfl⟩
     ·have sb:sideB side = false:=sb
      exact ⟨(),⟨rfl,congrArg (fun x => some (Value.bool x)) (((node6.trans (decide_eq_false fun h => by rw [h.2.2.1] at sb; cases sb)).symm).trans hnb2),trivial⟩,rfl⟩
    ·have k1:¬ (kd = 1):=k1
     exact ⟨(),⟨rfl,congrArg (fun x => some (Value.bool x)) (((node6.trans (decide_eq_false fun h => k1 h.2.1)).symm).trans hnb2),trivial⟩,rfl⟩
   ·have l0:¬ (of.length = 0):=by have l0:¬ ((of.length:Nat):Int) = 0:=l0; omega
    exact ⟨(),⟨rfl,congrArg (fun x => some (Value.bool x)) (((node6.trans (decide_eq_false fun h => l0 h.1)).symm).trans hnb2),trivial⟩,rfl⟩
  have o6:¬ op = 6:=o6
  refine brE_dec (fun o7 => ?_) (fun o7 => ?_)
  ·have o7:op = 7:=o7
   subst o7
   refine ⟨_,HB (i:=4) rfl,?_⟩
   refine brE_dec (fun l0 => ?_) (fun l0 => ?_)
   ·have l0:of.length = 1:=by have l0:((of.length:Nat):Int) = 1:=l0; omega
    refine ⟨_,HB (i:=1) rfl,?_⟩
    refine brE_dec (fun a0 => ?_) (fun a0 => ?_)
    ·have a0:attr = 0:=a0
     refine ⟨_,HB (i:=2) rfl,?_⟩
     refine brE_dec (fun s0 => ?_) (fun s0 => ?_)
     ·have s0:side = 0:=s0
      refine ⟨_,HB (i:=3) rfl,?_⟩
      exact ⟨(),⟨rfl,congrArg (fun x => some (Value.bool x)) (((decide_eq_decide.2 ⟨fun x => ⟨l0,a0,s0,x⟩,fun h => h.2.2.2⟩).trans node7.symm).trans hnb2),trivial⟩,rfl⟩
     ·have s0:¬ (side = 0):=s0
      exact ⟨(),⟨rfl,congrArg (fun x => some (Value.bool x)) (((node7.trans (decide_eq_false fun h => s0 h.2.2.1)).symm).trans hnb2),trivial⟩,rfl⟩
    ·have a0:¬ (attr = 0):=a0
     exact ⟨(),⟨rfl,congrArg (fun x => some (Value.bool x)) (((node7.trans (decide_eq_false fun h => a0 h.2.1)).symm).trans hnb2),trivial⟩,rfl⟩
   ·have l0:¬ (of.length = 1):=by have l0:¬ ((of.length:Nat):Int) = 1:=l0; omega
    exact ⟨(),⟨rfl,congrArg (fun x => some (Value.bool x)) (((node7.trans (decide_eq_false fun h => l0 h.1)).symm).trans hnb2),trivial⟩,rfl⟩
  have o7:¬ op = 7:=o7
  refine brE_dec (fun o8 => ?_) (fun o8 => ?_)
  ·have o8:op = 8:=o8
   refine brE_true (decide_eq_true o8) ?_
   subst o8
   refine ⟨_,HB (i:=4) rfl,?_⟩
   refine brE_dec (fun l0 => ?_) (fun l0 => ?_)
   ·have l0:2 <= of.length:=by have l0:((of.length:Nat):Int) >= 2:=l0; omega
    refine ⟨_,HB (i:=1) rfl,?_⟩
    refine brE_dec (fun a0 => ?_) (fun a0 => ?_)
    ·have a0:attr = 0:=a0
     refine ⟨_,HB (i:=2) rfl,?_⟩
     refine brE_dec (fun s0 => ?_) (fun s0 => ?_)
     ·have s0:side = 0:=s0
      refine ⟨_,HB (i:=3) rfl,?_⟩
      exact ⟨(),⟨rfl,congrArg (fun x => some (Value.bool x)) (((decide_eq_decide.2 ⟨fun x => ⟨l0,a0,s0,x⟩,fun h => h.2.2.2⟩).trans node8.symm).trans hnb2),trivial⟩,rfl⟩
     ·have s0:¬ (side = 0):=s0
      exact ⟨(),⟨rfl,congrArg (fun x => some (Value.bool x)) (((node8.trans (decide_eq_false fun h => s0 h.2.2.1)).symm).trans hnb2),trivial⟩,rfl⟩
    ·have a0:¬ (attr = 0):=a0
     exact ⟨(),⟨rfl,congrArg (fun x => some (Value.bool x)) (((node8.trans (decide_eq_false fun h => a0 h.2.1)).symm).trans hnb2),trivial⟩,rfl⟩
   ·have l0:¬ (2 <= of.length):=by have l0:¬ ((of.length:Nat):Int) >= 2:=l0; omega
    exact ⟨(),⟨rfl,congrArg (fun x => some (Value.bool x)) (((node8.trans (decide_eq_false fun h => l0 h.1)).symm).trans hnb2),trivial⟩,rfl⟩
  have o8:¬ op = 8:=o8
  refine brE_dec (fun o9 => ?_) (fun o9 => ?_)
  ·have o9:op = 9:=o9
   subst o9
   refine ⟨_,HB (i:=4) rfl,?_⟩
   refine brE_dec (fun l0 => ?_) (fun l0 => ?_)
   ·have l0:2 <= of.length:=by have l0:((of.length:Nat):Int) >= 2:=l0; omega
    refine ⟨_,HB (i:=1) rfl,?_⟩
    refine brE_dec (fun a0 => ?_) (fun a0 => ?_)
    ·have a0:attr = 0:=a0
     refine ⟨_,HB (i:=2) rfl,?_⟩
     refine brE_dec (fun s0 => ?_) (fun s0 => ?_)
     ·have s0:side = 0:=s0
      refine ⟨_,HB (i:=3) rfl,?_⟩
      exact ⟨(),⟨rfl,congrArg (fun x => some (Value.bool x)) (((decide_eq_decide.2 ⟨fun x => ⟨l0,a0,s0,x⟩,fun h => h.2.2.2⟩).trans node9.symm).trans hnb2),trivial⟩,rfl⟩
     ·have s0:¬ (side = 0):=s0
      exact ⟨(),⟨rfl,congrArg (fun x => some (Value.bool x)) (((node9.trans (decide_eq_false fun h => s0 h.2.2.1)).symm).trans hnb2),trivial⟩,rfl⟩
    ·have a0:¬ (attr = 0):=a0
     exact ⟨(),⟨rfl,congrArg (fun x => some (Value.bool x)) (((node9.trans (decide_eq_false fun h => a0 h.2.1)).symm).trans hnb2),trivial⟩,rfl⟩
   ·have l0:¬ (2 <= of.length):=by have l0:¬ ((of.length:Nat):Int) >= 2:=l0; omega
    exact ⟨(),⟨rfl,congrArg (fun x => some (Value.bool x)) (((node9.trans (decide_eq_false fun h => l0 h.1)).symm).trans hnb2),trivial⟩,rfl⟩
  have o9:¬ op = 9:=o9
  exact ⟨(),⟨rfl,congrArg (fun x => some (Value.bool x)) (((node_off o1 o2 o3 o4 o5 o6 o7 o8 o9).symm).trans hnb2),trivial⟩,rfl⟩
 rintro _ w1 rfl
 refine Snd.fin C_ok (plans:=[]) (by kernel_rfl) ?_
 refine brE_mk (fun b => ?_) (fun b => ?_)
 ·have b:nb = true:=b
  refine ⟨_,HB (i:=4) rfl,?_⟩
  refine (index_unshaped hr hl (fun x hx {w} e => ih x hx e) (e0.trans E1)).mono ?_
  rintro v w3 ⟨rfl,e3⟩
  exact ⟨congrArg Value.bool (by rw [b,Bool.not_not,Bool.true_and]),E1.trans e3⟩
 ·have b:nb = false:=b
  exact ⟨congrArg Value.bool (by rw [b]; rfl),E1⟩
set_option maxRecDepth 100000 in
set_option maxHeartbeats 8000000 in
theorem node_spec {w0:World} {t:Tst} (h:TestIs w0 t):∀ {w:World},Ext w0 w -> CallsV C.P 108 #[t.val] w fun v w' => v = .bool (shapedT t) ∧ Ext w w':=by
 induction h with
 | @mk t hn hr hc hl hk ih =>
 intro w e0
 obtain ⟨op,attr,side,n,A,c,of⟩:=t
 rw [shapedT_eq]
 obtain ⟨kd,hkd⟩:∃ kd,kd = kindZ attr:=⟨_,rfl⟩
 obtain ⟨nb,hnb⟩:∃ nb,nb = nodeB (.mk op attr side n A c of):=⟨_,rfl⟩
 rw [<-hnb]
 have hnb2:nodeK op kd attr side n (rangeB attr n) of.length = nb:=by rw [hkd]; exact hnb.symm
 have hl:of.length <= 9223372036854775807:=hl
 clear hnb hn
 refine callsV_ofS (args:=[_]) Tryz.func108 rfl Tryz.ntmps108 C_ok (Nat.le_of_ble_eq_true rfl) ?_
 refine Snd.go C_ok [] (by kernel_rfl) ?_
 intro g1 w1 h1
 have HB:∀ {i:Nat} {v:Value},(Tst.mk op attr side n A c of).cells.toArray[i]? = some v -> w1.cell? ⟨g1,i,none⟩ = some v:=fun hv => cell_of_block h1.here hv
 have E1:Ext w w1:=h1.ext
 clear h1
 obtain ⟨mk,hmk⟩:∃ mk,mk = decide (kd = 2):=⟨_,rfl⟩
 obtain ⟨lo,hlo⟩:∃ lo,lo = decide (kd = 1):=⟨_,rfl⟩
 obtain ⟨od,hod⟩:∃ od,od = decide (kd = 3):=⟨_,rfl⟩
 obtain ⟨nu,hnu⟩:∃ nu,nu = numB attr n:=⟨_,rfl⟩
 obtain ⟨pl,hpl⟩:∃ pl,pl = decide (side = 0 ∧ n = 0):=⟨_,rfl⟩
 refine ⟨Snd.go C_ok [] (by kernel_rfl) ?_⟩
 refine ⟨_,HB (i:=1) rfl,?_⟩
 have X:=refMark_spec attr w1
 rw [show decide (3 <= attr ∧ attr <= 5) = mk from by rw [hmk,hkd]; exact decide_eq_decide.2 kind2] at X
 refine X.mono ?_
 clear X
 rintro v w1 ⟨rfl,rfl⟩
 refine ⟨Snd.go C_ok [] (by kernel_rfl) ?_⟩
 refine ⟨_,HB (i:=1) rfl,?_⟩
 have X:=refSmall_spec attr w1
 rw [show decide (attr = 1 ∨ attr = 2) = lo from by rw [hlo,hkd]; exact decide_eq_decide.2 kind1] at X
 refine X.mono ?_
 clear X
 rintro v w1 ⟨rfl,rfl⟩
 refine ⟨Snd.go C_ok [] (by kernel_rfl) ?_⟩
 refine ⟨_,HB (i:=1) rfl,?_⟩
 have X:=refOrd_spec attr w1
 rw [show decide (attr = 6 ∨ attr = 7) = od from by rw [hod,hkd]; exact decide_eq_decide.2 kind3] at X
 refine X.mono ?_
 clear X
 rintro v w1 ⟨rfl,rfl⟩
 refine ⟨Snd.go C_ok [] (by kernel_rfl) ?_⟩
 refine ⟨_,HB (i:=1) rfl,?_⟩
 refine ⟨_,HB (i:=3) rfl,?_⟩
 have X:=refValue_spec attr n w1
 rw [<-hnu] at X
 refine X.mono ?_
 clear X
 rintro v w1 ⟨rfl,rfl⟩
 refine ⟨Snd.join C_ok [] (fun _:Unit => [(1,.pointer (some ⟨g1,0,none⟩)),(3,.bool mk),(4,.bool lo),(5,.bool od),(6,.bool nu),(7,.bool pl)]) (fun _ w' => w' = w1) (by kernel_rfl) ?_ ?_⟩
 ·refine ⟨_,HB (i:=2) rfl,?_⟩
  refine brE_dec (fun s1 => ?_) (fun s1 => ?_)
  ·have s1:side = 0:=s1
   refine ⟨_,HB (i:=3) rfl,?_⟩
   exact ⟨(),⟨rfl,rfl,rfl,rfl,rfl,congrArg (fun x => some (Value.bool x)) ((decide_eq_decide.2 ⟨fun x => ⟨s1,x⟩,fun h => h.2⟩).trans hpl.symm),trivial⟩,rfl⟩
  ·have s1:¬ side = 0:=s1
   exact ⟨(),⟨rfl,rfl,rfl,rfl,rfl,congrArg (fun x => some (Value.bool x)) ((decide_eq_false fun h => s1 h.1).symm.trans hpl.symm),trivial⟩,rfl⟩
 rintro _ w1 rfl
 refine Snd.join C_ok [] (fun _:Unit => [(1,.pointer (some ⟨g1,0,none⟩)),(3,.bool mk),(4,.bool lo),(5,.bool od),(6,.bool nu),(7,.bool pl),(8,.bool (sideB side))]) (fun _ w' => w' = w1) (by kernel_rfl) ?_ ?_
 ·refine ⟨_,HB (i:=2) rfl,?_⟩
  refine brE_dec (fun s1 => ?_) (fun s1 => ?_)
  ·have s1:side = 1:=s1
   exact ⟨(),⟨rfl,rfl,rfl,rfl,rfl,rfl,congrArg (fun x => some (Value.bool x)) (decide_eq_true (.inl s1)).symm,trivial⟩,rfl⟩
  ·have s1:¬ side = 1:=s1
   refine ⟨_,HB (i:=2) rfl,?_⟩
   exact ⟨(),⟨rfl,rfl,rfl,rfl,rfl,rfl,congrArg (fun x => some (Value.bool x)) (decide_eq_decide.2 ⟨fun x => .inr x,fun h => h.resolve_left s1⟩),trivial⟩,rfl⟩
 rintro _ w1 rfl
 refine Snd.go C_ok [] (by kernel_rfl) ?_
 refine ⟨Snd.join C_ok [] (fun _:Unit => [(1,.pointer (some ⟨g1,0,none⟩)),(9,.bool nb)]) (fun _ w' => w' = w1) (by kernel_rfl) ?_ ?_⟩
 ·refine ⟨_,HB (i:=0) rfl,?_⟩
  refine brE_dec (fun o1 => ?_) (fun o1 => ?_)
  ·have o1:op = 1:=o1
   subst o1
   refine ⟨_,HB (i:=1) rfl,?_⟩
   refine brE_dec (fun a0 => ?_) (fun a0 => ?_)
   ·have a0:attr = 0:=a0
    refine brE_mk (fun p0 => ?_) (fun p0 => ?_)
    ·have p0:pl = true:=p0
     obtain ⟨s0,n0⟩:=of_decide_eq_true (hpl.symm.trans p0)
     refine ⟨_,HB (i:=4) rfl,?_⟩
     exact ⟨(),⟨rfl,congrArg (fun x => some (Value.bool x)) (((decide_eq_decide.2 ⟨fun x => ⟨(by have x:((of.length:Nat):Int) = 0:=x; omega),a0,s0,n0⟩,fun h => by have h:=h.1; show ((of.length:Nat):Int) = 0; omega⟩).trans node1.symm).trans hnb2),trivial⟩,rfl⟩
    ·have p0:pl = false:=p0
     exact ⟨(),⟨rfl,congrArg (fun x => some (Value.bool x)) (((node1.trans (decide_eq_false fun h => of_decide_eq_false (hpl.symm.trans p0) ⟨h.2.2.1,h.2.2.2⟩)).symm).trans hnb2),trivial⟩,rfl⟩
   ·have a0:¬ (attr = 0):=a0
    exact ⟨(),⟨rfl,congrArg (fun x => some (Value.bool x)) (((node1.trans (decide_eq_false fun h => a0 h.2.1)).symm).trans hnb2),trivial⟩,rfl⟩
  have o1:¬ op = 1:=o1
  refine brE_dec (fun o2 => ?_) (fun o2 => ?_)
  ·have o2:op = 2:=o2
   refine brE_true (decide_eq_true o2) ?_
   subst o2
   refine brE_mk (fun k1 => ?_) (fun k1 => ?_)
   ·have k1:lo = true:=k1
    have k1:kd = 1:=of_decide_eq_true (hlo.symm.trans k1)
    refine brE_mk (fun p0 => ?_) (fun p0 => ?_)
    ·have p0:pl = true:=p0
     obtain ⟨s0,n0⟩:=of_decide_eq_true (hpl.symm.trans p0)
     refine ⟨_,HB (i:=4) rfl,?_⟩
     exact ⟨(),⟨rfl,congrArg (fun x => some (Value.bool x)) (((decide_eq_decide.2 ⟨fun x => ⟨(by have x:((of.length:Nat):Int) = 0:=x; omega),.inl k1,s0,n0⟩,fun h => by have h:=h.1; show ((of.length:Nat):Int) = 0; omega⟩).trans node2.symm).trans hnb2),trivial⟩,rfl⟩
    ·have p0:pl = false:=p0
     exact ⟨(),⟨rfl,congrArg (fun x => some (Value.bool x)) (((node2.trans (decide_eq_false fun h => of_decide_eq_false (hpl.symm.trans p0) ⟨h.2.2.1,h.2.2.2⟩)).symm).trans hnb2),trivial⟩,rfl⟩
   ·have k1:lo = false:=k1
    have k1:¬ kd = 1:=of_decide_eq_false (hlo.symm.trans k1)
    refine brE_mk (fun k3 => ?_) (fun k3 => ?_)
    ·have k3:od = true:=k3
     have k3:kd = 3:=of_decide_eq_true (hod.symm.trans k3)
     refine brE_mk (fun p0 => ?_) (fun p0 => ?_)
     ·have p0:pl = true:=p0
      obtain ⟨s0,n0⟩:=of_decide_eq_true (hpl.symm.trans p0)
      refine ⟨_,HB (i:=4) rfl,?_⟩
      exact ⟨(),⟨rfl,congrArg (fun x => some (Value.bool x)) (((decide_eq_decide.2 ⟨fun x => ⟨(by have x:((of.length:Nat):Int) = 0:=x; omega),.inr k3,s0,n0⟩,fun h => by have h:=h.1; show ((of.length:Nat):Int) = 0; omega⟩).trans node2.symm).trans hnb2),trivial⟩,rfl⟩
     ·have p0:pl = false:=p0
      exact ⟨(),⟨rfl,congrArg (fun x => some (Value.bool x)) (((node2.trans (decide_eq_false fun h => of_decide_eq_false (hpl.symm.trans p0) ⟨h.2.2.1,h.2.2.2⟩)).symm).trans hnb2),trivial⟩,rfl⟩
    ·have k3:od = false:=k3
     have k3:¬ kd = 3:=of_decide_eq_false (hod.symm.trans k3)
     exact ⟨(),⟨rfl,congrArg (fun x => some (Value.bool x)) (((node2.trans (decide_eq_false fun h => (fun e => e.elim k1 k3) h.2.1)).symm).trans hnb2),trivial⟩,rfl⟩
  have o2:¬ op = 2:=o2
  refine brE_dec (fun o3 => ?_) (fun o3 => ?_)
  ·have o3:op = 3:=o3
   subst o3
   refine brE_mk (fun k1 => ?_) (fun k1 => ?_)
   ·have k1:lo = true:=k1
    have k1:kd = 1:=of_decide_eq_true (hlo.symm.trans k1)
    refine brE_mk (fun p0 => ?_) (fun p0 => ?_)
    ·have p0:pl = true:=p0
     obtain ⟨s0,n0⟩:=of_decide_eq_true (hpl.symm.trans p0)
     refine ⟨_,HB (i:=4) rfl,?_⟩
     exact ⟨(),⟨rfl,congrArg (fun x => some (Value.bool x)) (((decide_eq_decide.2 ⟨fun x => ⟨(by have x:((of.length:Nat):Int) = 0:=x; omega),.inl k1,s0,n0⟩,fun h => by have h:=h.1; show ((of.length:Nat):Int) = 0; omega⟩).trans node3.symm).trans hnb2),trivial⟩,rfl⟩
    ·have p0:pl = false:=p0
     exact ⟨(),⟨rfl,congrArg (fun x => some (Value.bool x)) (((node3.trans (decide_eq_false fun h => of_decide_eq_false (hpl.symm.trans p0) ⟨h.2.2.1,h.2.2.2⟩)).symm).trans hnb2),trivial⟩,rfl⟩
   ·have k1:lo = false:=k1
    have k1:¬ kd = 1:=of_decide_eq_false (hlo.symm.trans k1)
    refine brE_mk (fun k3 => ?_) (fun k3 => ?_)
    ·have k3:od = true:=k3
     have k3:kd = 3:=of_decide_eq_true (hod.symm.trans k3)
     refine brE_mk (fun p0 => ?_) (fun p0 => ?_)
     ·have p0:pl = true:=p0
      obtain ⟨s0,n0⟩:=of_decide_eq_true (hpl.symm.trans p0)
      refine ⟨_,HB (i:=4) rfl,?_⟩
      exact ⟨(),⟨rfl,congrArg (fun x => some (Value.bool x)) (((decide_eq_decide.2 ⟨fun x => ⟨(by have x:((of.length:Nat):Int) = 0:=x; omega),.inr k3,s0,n0⟩,fun h => by have h:=h.1; show ((of.length:Nat):Int) = 0; omega⟩).trans node3.symm).trans hnb2),trivial⟩,rfl⟩
     ·have p0:pl = false:=p0
      exact ⟨(),⟨rfl,congrArg (fun x => some (Value.bool x)) (((node3.trans (decide_eq_false fun h => of_decide_eq_false (hpl.symm.trans p0) ⟨h.2.2.1,h.2.2.2⟩)).symm).trans hnb2),trivial⟩,rfl⟩
    ·have k3:od = false:=k3
     have k3:¬ kd = 3:=of_decide_eq_false (hod.symm.trans k3)
     exact ⟨(),⟨rfl,congrArg (fun x => some (Value.bool x)) (((node3.trans (decide_eq_false fun h => (fun e => e.elim k1 k3) h.2.1)).symm).trans hnb2),trivial⟩,rfl⟩
  have o3:¬ op = 3:=o3
  refine brE_dec (fun o4 => ?_) (fun o4 => ?_)
  ·have o4:op = 4:=o4
   subst o4
   refine brE_mk (fun k1 => ?_) (fun k1 => ?_)
   ·have k1:lo = true:=k1
    have k1:kd = 1:=of_decide_eq_true (hlo.symm.trans k1)
    refine brE_mk (fun p0 => ?_) (fun p0 => ?_)
    ·have p0:pl = true:=p0
     obtain ⟨s0,n0⟩:=of_decide_eq_true (hpl.symm.trans p0)
     refine ⟨_,HB (i:=4) rfl,?_⟩
     exact ⟨(),⟨rfl,congrArg (fun x => some (Value.bool x)) (((decide_eq_decide.2 ⟨fun x => ⟨(by have x:((of.length:Nat):Int) = 0:=x; omega),(show kd ≠ 0 by omega),s0,n0⟩,fun h => by have h:=h.1; show ((of.length:Nat):Int) = 0; omega⟩).trans node4.symm).trans hnb2),trivial⟩,rfl⟩
    ·have p0:pl = false:=p0
     exact ⟨(),⟨rfl,congrArg (fun x => some (Value.bool x)) (((node4.trans (decide_eq_false fun h => of_decide_eq_false (hpl.symm.trans p0) ⟨h.2.2.1,h.2.2.2⟩)).symm).trans hnb2),trivial⟩,rfl⟩
   ·have k1:lo = false:=k1
    have k1:¬ kd = 1:=of_decide_eq_false (hlo.symm.trans k1)
    refine brE_mk (fun k3 => ?_) (fun k3 => ?_)
    ·have k3:od = true:=k3
     have k3:kd = 3:=of_decide_eq_true (hod.symm.trans k3)
     refine brE_mk (fun p0 => ?_) (fun p0 => ?_)
     ·have p0:pl = true:=p0
      obtain ⟨s0,n0⟩:=of_decide_eq_true (hpl.symm.trans p0)
      refine ⟨_,HB (i:=4) rfl,?_⟩
      exact ⟨(),⟨rfl,congrArg (fun x => some (Value.bool x)) (((decide_eq_decide.2 ⟨fun x => ⟨(by have x:((of.length:Nat):Int) = 0:=x; omega),(show kd ≠ 0 by omega),s0,n0⟩,fun h => by have h:=h.1; show ((of.length:Nat):Int) = 0; omega⟩).trans node4.symm).trans hnb2),trivial⟩,rfl⟩
     ·have p0:pl = false:=p0
      exact ⟨(),⟨rfl,congrArg (fun x => some (Value.bool x)) (((node4.trans (decide_eq_false fun h => of_decide_eq_false (hpl.symm.trans p0) ⟨h.2.2.1,h.2.2.2⟩)).symm).trans hnb2),trivial⟩,rfl⟩
    ·have k3:od = false:=k3
     have k3:¬ kd = 3:=of_decide_eq_false (hod.symm.trans k3)
     refine brE_mk (fun k2 => ?_) (fun k2 => ?_)
     ·have k2:mk = true:=k2
      have k2:kd = 2:=of_decide_eq_true (hmk.symm.trans k2)
      refine brE_mk (fun p0 => ?_) (fun p0 => ?_)
      ·have p0:pl = true:=p0
       obtain ⟨s0,n0⟩:=of_decide_eq_true (hpl.symm.trans p0)
       refine ⟨_,HB (i:=4) rfl,?_⟩
       exact ⟨(),⟨rfl,congrArg (fun x => some (Value.bool x)) (((decide_eq_decide.2 ⟨fun x => ⟨(by have x:((of.length:Nat):Int) = 0:=x; omega),(show kd ≠ 0 by omega),s0,n0⟩,fun h => by have h:=h.1; show ((of.length:Nat):Int) = 0; omega⟩).trans node4.symm).trans hnb2),trivial⟩,rfl⟩
      ·have p0:pl = false:=p0
       exact ⟨(),⟨rfl,congrArg (fun x => some (Value.bool x)) (((node4.trans (decide_eq_false fun h => of_decide_eq_false (hpl.symm.trans p0) ⟨h.2.2.1,h.2.2.2⟩)).symm).trans hnb2),trivial⟩,rfl⟩
     ·have k2:mk = false:=k2
      have k2:¬ kd = 2:=of_decide_eq_false (hmk.symm.trans k2)
      exact ⟨(),⟨rfl,congrArg (fun x => some (Value.bool x)) (((node4.trans (decide_eq_false fun h => (fun e => by rcases kind_cases attr with kc | kc | kc | kc <;> omega) h.2.1)).symm).trans hnb2),trivial⟩,rfl⟩
  have o4:¬ op = 4:=o4
  refine brE_dec (fun o5 => ?_) (fun o5 => ?_)
  ·have o5:op = 5:=o5
   subst o5
   refine brE_mk (fun k1 => ?_) (fun k1 => ?_)
   ·have k1:lo = true:=k1
    have k1:kd = 1:=of_decide_eq_true (hlo.symm.trans k1)
    refine brE_mk (fun sb => ?_) (fun sb => ?_)
    ·have sb:sideB side = true:=sb
     refine brE_mk (fun r1 => ?_) (fun r1 => ?_)
     ·have r1:nu = true:=r1
      have r2:rangeB attr n = true:=((num_range (.inl (hkd.symm.trans k1))).symm.trans hnu.symm).trans r1
      refine ⟨_,HB (i:=4) rfl,?_⟩
      exact ⟨(),⟨rfl,congrArg (fun x => some (Value.bool x)) (((decide_eq_decide.2 ⟨fun x => ⟨(by have x:((of.length:Nat):Int) = 0:=x; omega),.inl k1,sb,r2⟩,fun h => by have h:=h.1; show ((of.length:Nat):Int) = 0; omega⟩).trans node5.symm).trans hnb2),trivial⟩,rfl⟩
     ·have r1:nu = false:=r1
      have r2:rangeB attr n = false:=((num_range (.inl (hkd.symm.trans k1))).symm.trans hnu.symm).trans r1
      exact ⟨(),⟨rfl,congrArg (fun x => some (Value.bool x)) (((node5.trans (decide_eq_false fun h => by rw [h.2.2.2] at r2; cases r2)).symm).trans hnb2),trivial⟩,rfl⟩
    ·have sb:sideB side = false:=sb
     exact ⟨(),⟨rfl,congrArg (fun x => some (Value.bool x)) (((node5.trans (decide_eq_false fun h => by rw [h.2.2.1] at sb; cases sb)).symm).trans hnb2),trivial⟩,rfl⟩
   ·have k1:lo = false:=k1
    have k1:¬ kd = 1:=of_decide_eq_false (hlo.symm.trans k1)
    refine brE_mk (fun k2 => ?_) (fun k2 => ?_)
    ·have k2:mk = true:=k2
     have k2:kd = 2:=of_decide_eq_true (hmk.symm.trans k2)
     refine brE_mk (fun sb => ?_) (fun sb => ?_)
     ·have sb:sideB side = true:=sb
      refine brE_mk (fun r1 => ?_) (fun r1 => ?_)
      ·have r1:nu = true:=r1
       have r2:rangeB attr n = true:=((num_range (.inr (hkd.symm.trans k2))).symm.trans hnu.symm).trans r1
       refine ⟨_,HB (i:=4) rfl,?_⟩
       exact ⟨(),⟨rfl,congrArg (fun x => some (Value.bool x)) (((decide_eq_decide.2 ⟨fun x => ⟨(by have x:((of.length:Nat):Int) = 0:=x; omega),.inr k2,sb,r2⟩,fun h => by have h:=h.1; show ((of.length:Nat):Int) = 0; omega⟩).trans node5.symm).trans hnb2),trivial⟩,rfl⟩
      ·have r1:nu = false:=r1
       have r2:rangeB attr n = false:=((num_range (.inr (hkd.symm.trans k2))).symm.trans hnu.symm).trans r1
       exact ⟨(),⟨rfl,congrArg (fun x => some (Value.bool x)) (((node5.trans (decide_eq_false fun h => by rw [h.2.2.2] at r2; cases r2)).symm).trans hnb2),trivial⟩,rfl⟩
     ·have sb:sideB side = false:=sb
      exact ⟨(),⟨rfl,congrArg (fun x => some (Value.bool x)) (((node5.trans (decide_eq_false fun h => by rw [h.2.2.1] at sb; cases sb)).symm).trans hnb2),trivial⟩,rfl⟩
    ·have k2:mk = false:=k2
     have k2:¬ kd = 2:=of_decide_eq_false (hmk.symm.trans k2)
     exact ⟨(),⟨rfl,congrArg (fun x => some (Value.bool x)) (((node5.trans (decide_eq_false fun h => (fun e => e.elim k1 k2) h.2.1)).symm).trans hnb2),trivial⟩,rfl⟩
  have o5:¬ op = 5:=o5
  refine brE_dec (fun o6 => ?_) (fun o6 => ?_)
  ·have o6:op = 6:=o6
   subst o6
   refine brE_mk (fun k1 => ?_) (fun k1 => ?_)
   ·have k1:lo = true:=k1
    have k1:kd = 1:=of_decide_eq_true (hlo.symm.trans k1)
    refine brE_mk (fun sb => ?_) (fun sb => ?_)
    ·have sb:sideB side = true:=sb
     refine brE_mk (fun r1 => ?_) (fun r1 => ?_)
     ·have r1:nu = true:=r1
      have r2:rangeB attr n = true:=((num_range (.inl (hkd.symm.trans k1))).symm.trans hnu.symm).trans r1
      refine ⟨_,HB (i:=4) rfl,?_⟩
      exact ⟨(),⟨rfl,congrArg (fun x => some (Value.bool x)) (((decide_eq_decide.2 ⟨fun x => ⟨(by have x:((of.length:Nat):Int) = 0:=x; omega),k1,sb,r2⟩,fun h => by have h:=h.1; show ((of.length:Nat):Int) = 0; omega⟩).trans node6.symm).trans hnb2),trivial⟩,rfl⟩
     ·have r1:nu = false:=r1
      have r2:rangeB attr n = false:=((num_range (.inl (hkd.symm.trans k1))).symm.trans hnu.symm).trans r1
      exact ⟨(),⟨rfl,congrArg (fun x => some (Value.bool x)) (((node6.trans (decide_eq_false fun h => by rw [h.2.2.2] at r2; cases r2)).symm).trans hnb2),trivial⟩,rfl⟩
    ·have sb:sideB side = false:=sb
     exact ⟨(),⟨rfl,congrArg (fun x => some (Value.bool x)) (((node6.trans (decide_eq_false fun h => by rw [h.2.2.1] at sb; cases sb)).symm).trans hnb2),trivial⟩,rfl⟩
   ·have k1:lo = false:=k1
    have k1:¬ kd = 1:=of_decide_eq_false (hlo.symm.trans k1)
    exact ⟨(),⟨rfl,congrArg (fun x => some (Value.bool x)) (((node6.trans (decide_eq_false fun h => k1 h.2.1)).symm).trans hnb2),trivial⟩,rfl⟩
  have o6:¬ op = 6:=o6
  refine brE_dec (fun o7 => ?_) (fun o7 => ?_)
  ·have o7:op = 7:=o7
   subst o7
   refine ⟨_,HB (i:=1) rfl,?_⟩
   refine brE_dec (fun a0 => ?_) (fun a0 => ?_)
   ·have a0:attr = 0:=a0
    refine brE_mk (fun p0 => ?_) (fun p0 => ?_)
    ·have p0:pl = true:=p0
     obtain ⟨s0,n0⟩:=of_decide_eq_true (hpl.symm.trans p0)
     refine ⟨_,HB (i:=4) rfl,?_⟩
     exact ⟨(),⟨rfl,congrArg (fun x => some (Value.bool x)) (((decide_eq_decide.2 ⟨fun x => ⟨(by have x:((of.length:Nat):Int) = 1:=x; omega),a0,s0,n0⟩,fun h => by have h:=h.1; show ((of.length:Nat):Int) = 1; omega⟩).trans node7.symm).trans hnb2),trivial⟩,rfl⟩
    ·have p0:pl = false:=p0
     exact ⟨(),⟨rfl,congrArg (fun x => some (Value.bool x)) (((node7.trans (decide_eq_false fun h => of_decide_eq_false (hpl.symm.trans p0) ⟨h.2.2.1,h.2.2.2⟩)).symm).trans hnb2),trivial⟩,rfl⟩
   ·have a0:¬ (attr = 0):=a0
    exact ⟨(),⟨rfl,congrArg (fun x => some (Value.bool x)) (((node7.trans (decide_eq_false fun h => a0 h.2.1)).symm).trans hnb2),trivial⟩,rfl⟩
  have o7:¬ op = 7:=o7
  refine brE_dec (fun o8 => ?_) (fun o8 => ?_)
  ·have o8:op = 8:=o8
   refine brE_true (decide_eq_true o8) ?_
   subst o8
   refine ⟨_,HB (i:=1) rfl,?_⟩
   refine brE_dec (fun a0 => ?_) (fun a0 => ?_)
   ·have a0:attr = 0:=a0
    refine brE_mk (fun p0 => ?_) (fun p0 => ?_)
    ·have p0:pl = true:=p0
     obtain ⟨s0,n0⟩:=of_decide_eq_true (hpl.symm.trans p0)
     refine ⟨_,HB (i:=4) rfl,?_⟩
     exact ⟨(),⟨rfl,congrArg (fun x => some (Value.bool x)) (((decide_eq_decide.2 ⟨fun x => ⟨(by have x:((of.length:Nat):Int) >= 2:=x; omega),a0,s0,n0⟩,fun h => by have h:=h.1; show ((of.length:Nat):Int) >= 2; omega⟩).trans node8.symm).trans hnb2),trivial⟩,rfl⟩
    ·have p0:pl = false:=p0
     exact ⟨(),⟨rfl,congrArg (fun x => some (Value.bool x)) (((node8.trans (decide_eq_false fun h => of_decide_eq_false (hpl.symm.trans p0) ⟨h.2.2.1,h.2.2.2⟩)).symm).trans hnb2),trivial⟩,rfl⟩
   ·have a0:¬ (attr = 0):=a0
    exact ⟨(),⟨rfl,congrArg (fun x => some (Value.bool x)) (((node8.trans (decide_eq_false fun h => a0 h.2.1)).symm).trans hnb2),trivial⟩,rfl⟩
  have o8:¬ op = 8:=o8
  refine brE_dec (fun o9 => ?_) (fun o9 => ?_)
  ·have o9:op = 9:=o9
   subst o9
   refine ⟨_,HB (i:=1) rfl,?_⟩
   refine brE_dec (fun a0 => ?_) (fun a0 => ?_)
   ·have a0:attr = 0:=a0
    refine brE_mk (fun p0 => ?_) (fun p0 => ?_)
    ·have p0:pl = true:=p0
     obtain ⟨s0,n0⟩:=of_decide_eq_true (hpl.symm.trans p0)
     refine ⟨_,HB (i:=4) rfl,?_⟩
     exact ⟨(),⟨rfl,congrArg (fun x => some (Value.bool x)) (((decide_eq_decide.2 ⟨fun x => ⟨(by have x:((of.length:Nat):Int) >= 2:=x; omega),a0,s0,n0⟩,fun h => by have h:=h.1; show ((of.length:Nat):Int) >= 2; omega⟩).trans node9.symm).trans hnb2),trivial⟩,rfl⟩
    ·have p0:pl = false:=p0
     exact ⟨(),⟨rfl,congrArg (fun x => some (Value.bool x)) (((node9.trans (decide_eq_false fun h => of_decide_eq_false (hpl.symm.trans p0) ⟨h.2.2.1,h.2.2.2⟩)).symm).trans hnb2),trivial⟩,rfl⟩
   ·have a0:¬ (attr = 0):=a0
    exact ⟨(),⟨rfl,congrArg (fun x => some (Value.bool x)) (((node9.trans (decide_eq_false fun h => a0 h.2.1)).symm).trans hnb2),trivial⟩,rfl⟩
  have o9:¬ op = 9:=o9
  exact ⟨(),⟨rfl,congrArg (fun x => some (Value.bool x)) (((node_off o1 o2 o3 o4 o5 o6 o7 o8 o9).symm).trans hnb2),trivial⟩,rfl⟩
 rintro _ w1 rfl
 refine Snd.fin C_ok (plans:=[]) (by kernel_rfl) ?_
 refine loopE C_ok (fun (s:Nat × Bool) => [(1,.pointer (some ⟨g1,0,none⟩)),(9,.bool s.2),(10,.int .i64 (s.1:Nat))])
  (fun s w' => s.1 <= of.length ∧ Ext w1 w' ∧ s.2 = (nb && (of.take s.1).all shapedT)) (fun s => of.length - s.1) (0,nb) ⟨rfl,rfl,rfl,trivial⟩ ⟨Nat.zero_le _,Ext.refl _,by simp⟩ ?_
 rintro ⟨i,ok⟩ w2 ⟨hi',e2,hok'⟩
 have hi:i <= of.length:=hi'
 have hok:ok = (nb && (of.take i).all shapedT):=hok'
 clear hi' hok'
 refine ⟨_,e2.cell (HB (i:=4) rfl),?_⟩
 refine brE_dec (fun hlt => ?_) (fun hge => ?_)
 ·have hlti:i < of.length:=by have:(i:Int) < (of.length:Nat):=hlt; omega
  obtain ⟨x,hx⟩:∃ x,x = of[i]:=⟨_,rfl⟩
  have hxm:x ∈ of:=by rw [hx]; exact List.getElem_mem hlti
  have hst:(of.take (i + 1)).all shapedT = ((of.take i).all shapedT && shapedT x):=by rw [List.take_succ_eq_append_getElem hlti,List.all_append,<-hx]; simp
  refine brE_mk (fun b => ?_) (fun b => ?_)
  ·have b:ok = true:=b
   have next:IntKind.i64.wrap ((i:Int) + 1) = ((i + 1:Nat):Int):=fit ⟨by omega,by omega⟩
   obtain ⟨bb,o,hA,hc5⟩:=Reads.elem Tst.len (by omega) (Reads.ext hr ((e0.trans E1).trans e2)) hlti
   have hc5:Rd w2 bb (o + i * 5) x.cells:=by rw [hx]; exact hc5
   refine ⟨_,e2.cell (HB (i:=4) rfl),?_⟩
   refine ⟨i,bb,o,rfl,hlti,hA,?_⟩
   refine ⟨x.cells,rfl,hc5,?_⟩
   refine (ih x hxm ((e0.trans E1).trans e2)).mono ?_
   rintro v w3 ⟨rfl,e3⟩
   refine ⟨_,next,?_⟩
   refine ⟨(i + 1,shapedT x),⟨rfl,rfl,rfl,trivial⟩,⟨hlti,e2.trans e3,?_⟩,by show of.length - (i + 1) < of.length - i; omega⟩
   show shapedT x = (nb && (of.take (i + 1)).all shapedT)
   rw [hst,<-Bool.and_assoc,<-hok,b,Bool.true_and]
  ·have b:ok = false:=b
   refine ⟨congrArg Value.bool ?_,E1.trans e2⟩
   show ok = (nb && shapedL of)
   have hall:shapedL of = ((of.take i).all shapedT && (of.drop i).all shapedT):=by rw [shapedL_all,<-List.all_append,List.take_append_drop]
   rw [hall,<-Bool.and_assoc,<-hok,b]
   rfl
 ·have hie:i = of.length:=by have:¬ (i:Int) < (of.length:Nat):=hge; omega
  refine ⟨congrArg Value.bool ?_,E1.trans e2⟩
  show ok = (nb && shapedL of)
  rw [hok,hie,List.take_length,shapedL_all]
end Go.Proofs.YtdpdjcopkehdjaaGreat.Rk
namespace Go.Proofs.YtdpdjcopkehdjaaGreat.Rk
open Go.Eng Go.RowKit
def sideP (a b:Prof) (side:Int):Prof:=if side = 2 then b else a
def holdN (a b:Prof) (op attr side n:Int) (l:List Bool):Bool :=
 if op = 1 then true
 else if op = 2 then decide (attrZ attr a < attrZ attr b)
 else if op = 3 then decide (attrZ attr a > attrZ attr b)
 else if op = 4 then decide (attrZ attr a = attrZ attr b)
 else if op = 5 then decide (attrZ attr (sideP a b side) = n)
 else if op = 6 then decide (attrZ attr (sideP a b side) < n)
 else if op = 7 then !(l.headD true)
 else if op = 8 then l.all id
 else if op = 9 then l.any id
 else false
mutual
def holdsT (a b:Prof):Tst -> Bool
 | .mk op attr side n _ _ of => holdN a b op attr side n (holdsL a b of)
def holdsL (a b:Prof):List Tst -> List Bool
 | [] => []
 | x :: r => holdsT a b x :: holdsL a b r
end
theorem holdsL_map (a b:Prof):∀ (l:List Tst),holdsL a b l = l.map (holdsT a b)
 | [] => rfl
 | x :: r => by rw [holdsL,holdsL_map a b r]; rfl
theorem holdsT_mk (a b:Prof) (op attr side n:Int) (A:Option Addr) (c:Nat) (of:List Tst):holdsT a b (.mk op attr side n A c of) = holdN a b op attr side n (of.map (holdsT a b)):=by rw [holdsT,holdsL_map]
theorem kind_range {a:Int} (h:kindZ a ≠ 0):0 <= a ∧ a <= 7:=by
 unfold kindZ at h
 by_cases h1:a = 1 ∨ a = 2
 ·omega
 ·by_cases h2:a = 3 ∨ a = 4 ∨ a = 5
  ·omega
  ·by_cases h3:a = 6 ∨ a = 7
   ·omega
   ·rw [if_neg h1,if_neg h2,if_neg h3] at h; exact absurd rfl h
theorem shaped_mk {op attr side n:Int} {A:Option Addr} {c:Nat} {of:List Tst} (h:shapedT (.mk op attr side n A c of) = true):nodeK op (kindZ attr) attr side n (rangeB attr n) of.length = true ∧ ∀ x ∈ of,shapedT x = true:=by
 rw [shapedT_eq,Bool.and_eq_true] at h
 have h2:=h.2
 rw [shapedL_all,List.all_eq_true] at h2
 exact ⟨h.1,h2⟩
theorem shaped_range {op attr side n r:Int} {rb:Bool} {len:Nat} (h:nodeK op (kindZ attr) attr side n rb len = true) (ho:op = 2 ∨ op = 3 ∨ op = 4 ∨ op = 5 ∨ op = 6):0 <= attr ∧ attr <= 7:=by
 refine kind_range fun h0 => ?_
 rw [h0] at h
 rcases ho with rfl | rfl | rfl | rfl | rfl
 ·have:=of_decide_eq_true h; have:=this.2.1; omega
 ·have:=of_decide_eq_true h; have:=this.2.1; omega
 ·have:=of_decide_eq_true h; exact this.2.1 rfl
 ·have:=of_decide_eq_true h; have:=this.2.1; omega
 ·have:=of_decide_eq_true h; have:=this.2.1; omega
theorem shaped_ops {op k attr side n:Int} {rb:Bool} {len:Nat} (h:nodeK op k attr side n rb len = true) (h1:¬ op = 1) (h2:¬ op = 2) (h3:¬ op = 3) (h4:¬ op = 4) (h5:¬ op = 5) (h6:¬ op = 6):op = 7 ∧ len = 1 ∨ op = 8 ∨ op = 9:=by
 by_cases h7:op = 7
 ·subst h7; exact .inl ⟨rfl,(of_decide_eq_true h).1⟩
 ·by_cases h8:op = 8
  ·exact .inr (.inl h8)
  ·by_cases h9:op = 9
   ·exact .inr (.inr h9)
   ·rw [node_off h1 h2 h3 h4 h5 h6 h7 h8 h9] at h; cases h
theorem any_at {l:List Bool} {i:Nat} (hi:i < l.length) (h:l[i] = true):l.any id = true:=List.any_eq_true.2 ⟨_,List.getElem_mem hi,h⟩
theorem all_at {l:List Bool} {i:Nat} (hi:i < l.length) (h:l[i] = false):l.all id = false:=by
 cases hx:l.all id with
 | false => rfl
 | true => rw [List.all_eq_true] at hx; have:=hx _ (List.getElem_mem hi); rw [h] at this; cases this
set_option maxRecDepth 100000 in
set_option maxHeartbeats 8000000 in
theorem holds_spec {w0:World} {t:Tst} (h:TestIs w0 t) (a b:Prof):shapedT t = true -> ∀ {w:World},Ext w0 w -> CallsV C.P 66 #[t.val,a.val,b.val] w fun v w' => v = .bool (holdsT a b t) ∧ Ext w w':=by
 induction h with
 | @mk t hn hr hc hl hk ih =>
 intro hs w e0
 obtain ⟨op,attr,side,n,A,c,of⟩:=t
 obtain ⟨hnode,hkids⟩:=shaped_mk hs
 rw [holdsT_mk]
 obtain ⟨res,hres⟩:∃ res,res = holdN a b op attr side n (of.map (holdsT a b)):=⟨_,rfl⟩
 rw [<-hres]
 have hl:of.length <= 9223372036854775807:=hl
 have hrng:=fun ho => shaped_range (r:=0) hnode ho
 refine callsV_ofS (args:=[_,_,_]) Tryz.func66 rfl Tryz.ntmps66 C_ok (Nat.le_of_ble_eq_true rfl) ?_
 refine Snd.go C_ok plans66 (by kernel_rfl) ?_
 intro g3 w1 h1
 have M:Mem w w1 [(g3,.cells (Tst.mk op attr side n A c of).cells.toArray 70 (0,0))]:=(Mem.start w).alloc h1
 intro g4 w2 h2
 have M:Mem w w2 [(g4,.cells a.cells.toArray 38 (0,0)),(g3,.cells (Tst.mk op attr side n A c of).cells.toArray 70 (0,0))]:=M.alloc h2
 intro g5 w3 h3
 have M:Mem w w3 [(g5,.cells b.cells.toArray 38 (0,0)),(g4,.cells a.cells.toArray 38 (0,0)),(g3,.cells (Tst.mk op attr side n A c of).cells.toArray 70 (0,0))]:=M.alloc h3
 refine ⟨Snd.go C_ok plans66 (by kernel_rfl) ?_⟩
 refine ⟨a.cells,rfl,M.rd 1 rfl,?_⟩
 intro g7 w4 h4
 have M:=M.alloc h4
 refine ⟨rfl,_,_,M.get 0 rfl,Nat.le_of_ble_eq_true rfl,rfl,?_⟩
 intro w5 h5
 have M:Mem w w5 [(g7,.cells a.cells.toArray 38 (0,0)),(g5,.cells b.cells.toArray 38 (0,0)),(g4,.cells a.cells.toArray 38 (0,0)),(g3,.cells (Tst.mk op attr side n A c of).cells.toArray 70 (0,0))]:=M.put 0 rfl h5
 obtain ⟨sp,hsp⟩:∃ sp,sp = sideP a b side:=⟨_,rfl⟩
 refine ⟨Snd.join C_ok plans66 (fun _:Unit => [(3,.pointer (some ⟨g3,0,none⟩)),(4,.pointer (some ⟨g4,0,none⟩)),(5,.pointer (some ⟨g5,0,none⟩)),(7,.pointer (some ⟨g7,0,none⟩))])
  (fun _ w' => Mem w w' [(g7,.cells sp.cells.toArray 38 (0,0)),(g5,.cells b.cells.toArray 38 (0,0)),(g4,.cells a.cells.toArray 38 (0,0)),(g3,.cells (Tst.mk op attr side n A c of).cells.toArray 70 (0,0))]) (by kernel_rfl) ?_ ?_⟩
 ·refine ⟨_,M.cell 3 (i:=2) rfl rfl,?_⟩
  refine brE_dec (fun s2 => ?_) (fun s2 => ?_)
  ·have s2:side = 2:=s2
   refine ⟨b.cells,rfl,M.rd 1 rfl,?_⟩
   refine ⟨rfl,_,_,M.get 0 rfl,Nat.le_of_ble_eq_true rfl,rfl,?_⟩
   intro w6 h6
   have e:sp = b:=hsp.trans (if_pos s2)
   exact ⟨(),⟨rfl,rfl,rfl,rfl,trivial⟩,by rw [e]; exact M.put 0 rfl h6⟩
  ·have s2:¬ side = 2:=s2
   have e:sp = a:=hsp.trans (if_neg s2)
   exact ⟨(),⟨rfl,rfl,rfl,rfl,trivial⟩,by rw [e]; exact M⟩
 clear M h1 h2 h3 h4 h5
 rintro _ w6 M
 refine Snd.fin C_ok (plans:=plans66) (by kernel_rfl) ?_
 refine ⟨_,M.cell 3 (i:=0) rfl rfl,?_⟩
 refine brE_dec (fun o1 => ?_) (fun o1 => ?_)
 ·have o1:op = 1:=o1
  subst o1
  exact ⟨congrArg Value.bool hres.symm,M.ext⟩
 have o1:¬ op = 1:=o1
 refine brE_dec (fun o2 => ?_) (fun o2 => ?_)
 ·have o2:op = 2:=o2
  have hat:=hrng (by omega)
  subst o2
  refine ⟨_,M.cell 3 (i:=1) rfl rfl,?_⟩
  refine ⟨a.cells,rfl,M.rd 2 rfl,?_⟩
  refine ⟨_,M.cell 3 (i:=1) rfl rfl,?_⟩
  refine ⟨b.cells,rfl,M.rd 1 rfl,?_⟩
  refine (value_spec attr hat a w6).mono ?_
  rintro v w7 ⟨rfl,e7⟩
  refine ⟨e7,?_⟩
  refine (value_spec attr hat b w7).mono ?_
  rintro v w8 ⟨rfl,e8⟩
  exact ⟨congrArg Value.bool hres.symm,M.ext.trans (e7.trans e8)⟩
 have o2:¬ op = 2:=o2
 refine brE_dec (fun o3 => ?_) (fun o3 => ?_)
 ·have o3:op = 3:=o3
  have hat:=hrng (by omega)
  subst o3
  refine ⟨_,M.cell 3 (i:=1) rfl rfl,?_⟩
  refine ⟨a.cells,rfl,M.rd 2 rfl,?_⟩
  refine ⟨_,M.cell 3 (i:=1) rfl rfl,?_⟩
  refine ⟨b.cells,rfl,M.rd 1 rfl,?_⟩
  refine (value_spec attr hat a w6).mono ?_
  rintro v w7 ⟨rfl,e7⟩
  refine ⟨e7,?_⟩
  refine (value_spec attr hat b w7).mono ?_
  rintro v w8 ⟨rfl,e8⟩
  exact ⟨congrArg Value.bool hres.symm,M.ext.trans (e7.trans e8)⟩
 have o3:¬ op = 3:=o3
 refine brE_dec (fun o4 => ?_) (fun o4 => ?_)
 ·have o4:op = 4:=o4
  have hat:=hrng (by omega)
  subst o4
  refine ⟨_,M.cell 3 (i:=1) rfl rfl,?_⟩
  refine ⟨a.cells,rfl,M.rd 2 rfl,?_⟩
  refine ⟨_,M.cell 3 (i:=1) rfl rfl,?_⟩
  refine ⟨b.cells,rfl,M.rd 1 rfl,?_⟩
  refine (value_spec attr hat a w6).mono ?_
  rintro v w7 ⟨rfl,e7⟩
  refine ⟨e7,?_⟩
  refine (value_spec attr hat b w7).mono ?_
  rintro v w8 ⟨rfl,e8⟩
  exact ⟨congrArg Value.bool hres.symm,M.ext.trans (e7.trans e8)⟩
 have o4:¬ op = 4:=o4
 refine brE_dec (fun o5 => ?_) (fun o5 => ?_)
 ·have o5:op = 5:=o5
  have hat:=hrng (by omega)
  subst o5
  refine ⟨_,M.cell 3 (i:=1) rfl rfl,?_⟩
  refine ⟨sp.cells,rfl,M.rd 0 rfl,?_⟩
  refine ⟨_,M.cell 3 (i:=3) rfl rfl,?_⟩
  refine (value_spec attr hat sp w6).mono ?_
  rintro v w7 ⟨rfl,e7⟩
  refine ⟨e7,?_⟩
  have hr2:holdN a b 5 attr side n (of.map (holdsT a b)) = decide (attrZ attr (sideP a b side) = n):=rfl
  rw [hr2,<-hsp] at hres
  exact ⟨congrArg Value.bool hres.symm,M.ext.trans e7⟩
 have o5:¬ op = 5:=o5
 refine brE_dec (fun o6 => ?_) (fun o6 => ?_)
 ·have o6:op = 6:=o6
  have hat:=hrng (by omega)
  subst o6
  refine ⟨_,M.cell 3 (i:=1) rfl rfl,?_⟩
  refine ⟨sp.cells,rfl,M.rd 0 rfl,?_⟩
  refine ⟨_,M.cell 3 (i:=3) rfl rfl,?_⟩
  refine (value_spec attr hat sp w6).mono ?_
  rintro v w7 ⟨rfl,e7⟩
  refine ⟨e7,?_⟩
  have hr2:holdN a b 6 attr side n (of.map (holdsT a b)) = decide (attrZ attr (sideP a b side) < n):=rfl
  rw [hr2,<-hsp] at hres
  exact ⟨congrArg Value.bool hres.symm,M.ext.trans e7⟩
 have o6:¬ op = 6:=o6
 have hops:=shaped_ops hnode o1 o2 o3 o4 o5 o6
 have kidh:∀ i (hi:i < of.length),∀ {w:World},Ext w0 w -> CallsV C.P 66 #[of[i].val,a.val,b.val] w fun v w' => v = .bool (holdsT a b of[i]) ∧ Ext w w':=fun i hi {w} e => ih _ (List.getElem_mem hi) (hkids _ (List.getElem_mem hi)) e
 refine brE_dec (fun o7 => ?_) (fun o7 => ?_)
 ·have o7:op = 7:=o7
  have hlen:of.length = 1:=by omega
  have h0:0 < of.length:=by omega
  subst o7
  obtain ⟨bb,o,hA,hc5⟩:=Reads.elem Tst.len (by omega) (Reads.ext hr (e0.trans M.ext)) h0
  refine ⟨_,M.cell 3 (i:=4) rfl rfl,?_⟩
  refine ⟨0,bb,o,rfl,h0,hA,?_⟩
  refine ⟨of[0].cells,rfl,hc5,?_⟩
  refine ⟨a.cells,rfl,M.rd 2 rfl,?_⟩
  refine ⟨b.cells,rfl,M.rd 1 rfl,?_⟩
  refine (kidh 0 h0 (e0.trans M.ext)).mono ?_
  rintro v w7 ⟨rfl,e7⟩
  refine ⟨congrArg Value.bool ?_,M.ext.trans e7⟩
  rw [hres]
  obtain ⟨x,r,rfl⟩:∃ x r,of = x :: r:=by
   cases of with
   | nil => cases h0
   | cons x r => exact ⟨x,r,rfl⟩
  rfl
 have o7:¬ op = 7:=o7
 have hop:op = 8 ∨ op = 9:=by omega
 obtain ⟨q,hq⟩:∃ q,q = decide (op = 9):=⟨_,rfl⟩
 refine ⟨_,M.cell 3 (i:=4) rfl rfl,?_⟩
 refine loopE C_ok (fun (i:Nat) => [(3,.pointer (some ⟨g3,0,none⟩)),(4,.pointer (some ⟨g4,0,none⟩)),(5,.pointer (some ⟨g5,0,none⟩)),(81,.slice A of.length c),(82,.int .i64 of.length),(83,.int .i64 (i:Nat))])
  (fun i w' => i <= of.length ∧ Mem w w' [(g5,.cells b.cells.toArray 38 (0,0)),(g4,.cells a.cells.toArray 38 (0,0)),(g3,.cells (Tst.mk op attr side n A c of).cells.toArray 70 (0,0))] ∧ ∀ j (hj:j < of.length),j < i -> holdsT a b of[j] = !q) (fun i => of.length - i) 0 ⟨rfl,rfl,rfl,rfl,rfl,rfl,trivial⟩ ⟨Nat.zero_le _,M.tail,fun _ _ h => absurd h (Nat.not_lt_zero _)⟩ ?_
 clear M
 rintro i w7 ⟨hi,M,hall⟩
 refine brE_dec (fun hlt => ?_) (fun hge => ?_)
 ·have hlti:i < of.length:=by have:(i:Int) < (of.length:Nat):=hlt; omega
  have next:IntKind.i64.wrap ((i:Int) + 1) = ((i + 1:Nat):Int):=fit ⟨by omega,by omega⟩
  obtain ⟨bb,o,hA,hc5⟩:=Reads.elem Tst.len (by omega) (Reads.ext hr (e0.trans M.ext)) hlti
  obtain ⟨x,hx⟩:∃ x,x = of[i]:=⟨_,rfl⟩
  have hc5:Rd w7 bb (o + i * 5) x.cells:=by rw [hx]; exact hc5
  have X:=fun {w:World} (e:Ext w0 w) => kidh i hlti e
  rw [<-hx] at X
  refine ⟨i,bb,o,rfl,hlti,hA,?_⟩
  refine ⟨x.cells,rfl,hc5,?_⟩
  intro g9 w8 h8
  have M8:=M.alloc h8
  refine ⟨rfl,_,_,M8.get 0 rfl,Nat.le_of_ble_eq_true rfl,rfl,?_⟩
  intro w9 h9
  have M9:Mem w w9 [(g9,.cells x.cells.toArray 70 (0,0)),(g5,.cells b.cells.toArray 38 (0,0)),(g4,.cells a.cells.toArray 38 (0,0)),(g3,.cells (Tst.mk op attr side n A c of).cells.toArray 70 (0,0))]:=M8.put 0 rfl h9
  refine ⟨x.cells,rfl,M9.rd 0 rfl,?_⟩
  refine ⟨a.cells,rfl,M9.rd 2 rfl,?_⟩
  refine ⟨b.cells,rfl,M9.rd 1 rfl,?_⟩
  refine ⟨_,M9.cell 3 (i:=0) rfl rfl,?_⟩
  refine (X (e0.trans M9.ext)).mono ?_
  rintro v w10 ⟨rfl,e10⟩
  refine ⟨e10,?_⟩
  have M10:=M9.grow e10
  refine ⟨_,eqBool _ _ _ _,?_⟩
  have hqe:decide (op = 9) = q:=hq.symm
  refine brE_mk (fun hb => ?_) (fun hb => ?_)
  ·have hb:holdsT a b x = q:=by rw [<-hqe]; exact eq_of_beq hb
   refine ⟨_,M10.cell 3 (i:=0) rfl rfl,?_⟩
   refine ⟨congrArg Value.bool ?_,M10.ext⟩
   show decide (op = 9) = res
   rw [hqe,hres]
   have hil:i < (of.map (holdsT a b)).length:=by rw [List.length_map]; exact hlti
   have hil2:(of.map (holdsT a b))[i] = q:=by rw [List.getElem_map,<-hx]; exact hb
   rcases hop with rfl | rfl
   ·have hq0:q = false:=hq
    rw [hq0] at hil2 ⊢
    exact (all_at hil hil2).symm
   ·have hq1:q = true:=hq
    rw [hq1] at hil2 ⊢
    exact (any_at hil hil2).symm
  ·have hb:holdsT a b x = !q:=by
    have hne:¬ holdsT a b x = q:=by rw [<-hqe]; exact fun h => by rw [beq_eq_false_iff_ne] at hb; exact hb h
    cases hh:holdsT a b x <;> cases hqq:q <;> simp_all
   refine ⟨_,next,?_⟩
   refine ⟨i + 1,⟨rfl,rfl,rfl,rfl,rfl,rfl,trivial⟩,⟨hlti,M10.tail,fun j hj hji => ?_⟩,by show of.length - (i + 1) < of.length - i; omega⟩
   by_cases he:j = i
   ·subst he; rw [<-hx]; exact hb
   ·exact hall j hj (by omega)
 ·have hie:i = of.length:=by have:¬ (i:Int) < (of.length:Nat):=hge; omega
  refine ⟨_,M.cell 2 (i:=0) rfl rfl,?_⟩
  refine ⟨congrArg Value.bool ?_,M.ext⟩
  show decide (op = 8) = res
  rw [hres]
  have hmem:∀ v ∈ of.map (holdsT a b),v = !q:=fun v hv => by
   obtain ⟨x,hx,rfl⟩:=List.mem_map.1 hv
   obtain ⟨j,hj,rfl⟩:=List.getElem_of_mem hx
   exact hall j hj (by omega)
  rcases hop with rfl | rfl
  ·have hq0:q = false:=hq
   show true = (of.map (holdsT a b)).all id
   rw [Eq.comm,List.all_eq_true]
   intro v hv
   rw [hmem v hv,hq0]; rfl
  ·have hq1:q = true:=hq
   show false = (of.map (holdsT a b)).any id
   rw [Eq.comm,List.any_eq_false]
   intro v hv
   rw [hmem v hv,hq1]; decide
set_option maxRecDepth 100000 in
set_option maxHeartbeats 8000000 in
theorem refHolds_spec {w0:World} {t:Tst} (h:TestIs w0 t) (a b:Prof):shapedT t = true -> ∀ {w:World},Ext w0 w -> CallsV C.P 246 #[t.val,a.val,b.val] w fun v w' => v = .bool (holdsT a b t) ∧ Ext w w':=by
 induction h with
 | @mk t hn hr hc hl hk ih =>
 intro hs w e0
 obtain ⟨op,attr,side,n,A,c,of⟩:=t
 obtain ⟨hnode,hkids⟩:=shaped_mk hs
 rw [holdsT_mk]
 obtain ⟨res,hres⟩:∃ res,res = holdN a b op attr side n (of.map (holdsT a b)):=⟨_,rfl⟩
 rw [<-hres]
 have hl:of.length <= 9223372036854775807:=hl
 have hrng:=fun ho => shaped_range (r:=0) hnode ho
 refine callsV_ofS (args:=[_,_,_]) Tryz.func246 rfl Tryz.ntmps246 C_ok (Nat.le_of_ble_eq_true rfl) ?_
 refine Snd.go C_ok plans246 (by kernel_rfl) ?_
 intro g3 w1 h1
 have M:Mem w w1 [(g3,.cells (Tst.mk op attr side n A c of).cells.toArray 70 (0,0))]:=(Mem.start w).alloc h1
 intro g4 w2 h2
 have M:Mem w w2 [(g4,.cells a.cells.toArray 38 (0,0)),(g3,.cells (Tst.mk op attr side n A c of).cells.toArray 70 (0,0))]:=M.alloc h2
 intro g5 w3 h3
 have M:Mem w w3 [(g5,.cells b.cells.toArray 38 (0,0)),(g4,.cells a.cells.toArray 38 (0,0)),(g3,.cells (Tst.mk op attr side n A c of).cells.toArray 70 (0,0))]:=M.alloc h3
 obtain ⟨x,hx⟩:∃ x,x = attrZ attr a:=⟨_,rfl⟩
 obtain ⟨y,hy⟩:∃ y,y = attrZ attr b:=⟨_,rfl⟩
 obtain ⟨z,hz⟩:∃ z,z = attrZ attr (sideP a b side):=⟨_,rfl⟩
 have XA:=fun w => refAttr_spec attr a w
 have XB:=fun w => refAttr_spec attr b w
 rw [<-hx] at XA
 rw [<-hy] at XB
 refine ⟨Snd.go C_ok plans246 (by kernel_rfl) ?_⟩
 refine ⟨_,M.cell 2 (i:=1) rfl rfl,?_⟩
 refine ⟨a.cells,rfl,M.rd 1 rfl,?_⟩
 refine (XA _).mono ?_
 rintro v w4 ⟨rfl,e4⟩
 have M:=M.grow e4
 refine ⟨Snd.go C_ok plans246 (by kernel_rfl) ?_⟩
 refine ⟨_,M.cell 2 (i:=1) rfl rfl,?_⟩
 refine ⟨b.cells,rfl,M.rd 0 rfl,?_⟩
 refine (XB _).mono ?_
 rintro v w5 ⟨rfl,e5⟩
 have M:=M.grow e5
 refine ⟨Snd.go C_ok plans246 (by kernel_rfl) ?_⟩
 refine ⟨Snd.join C_ok plans246 (fun _:Unit => [(3,.pointer (some ⟨g3,0,none⟩)),(4,.pointer (some ⟨g4,0,none⟩)),(5,.pointer (some ⟨g5,0,none⟩)),(7,.int .i64 x),(8,.int .i64 y),(9,.int .i64 z)])
  (fun _ w' => w' = w5) (by kernel_rfl) ?_ ?_⟩
 ·refine ⟨_,M.cell 2 (i:=2) rfl rfl,?_⟩
  refine brE_dec (fun s2 => ?_) (fun s2 => ?_)
  ·have s2:side = 2:=s2
   have e:y = z:=by rw [hy,hz,sideP,if_pos s2]
   exact ⟨(),⟨rfl,rfl,rfl,rfl,rfl,congrArg (fun x => some (Value.int .i64 x)) e,trivial⟩,rfl⟩
  ·have s2:¬ side = 2:=s2
   have e:x = z:=by rw [hx,hz,sideP,if_neg s2]
   exact ⟨(),⟨rfl,rfl,rfl,rfl,rfl,congrArg (fun x => some (Value.int .i64 x)) e,trivial⟩,rfl⟩
 rintro _ w5 rfl
 refine Snd.fin C_ok (plans:=plans246) (by kernel_rfl) ?_
 refine ⟨_,M.cell 2 (i:=0) rfl rfl,?_⟩
 refine brE_dec (fun o1 => ?_) (fun o1 => ?_)
 ·have o1:op = 1:=o1
  subst o1
  exact ⟨congrArg Value.bool hres.symm,M.ext⟩
 have o1:¬ op = 1:=o1
 refine brE_dec (fun o2 => ?_) (fun o2 => ?_)
 ·have o2:op = 2:=o2
  subst o2
  have hr2:holdN a b 2 attr side n (of.map (holdsT a b)) = decide (attrZ attr a < attrZ attr b):=rfl
  rw [hr2,<-hx,<-hy] at hres
  exact ⟨congrArg Value.bool hres.symm,M.ext⟩
 have o2:¬ op = 2:=o2
 refine brE_dec (fun o3 => ?_) (fun o3 => ?_)
 ·have o3:op = 3:=o3
  subst o3
  have hr2:holdN a b 3 attr side n (of.map (holdsT a b)) = decide (attrZ attr a > attrZ attr b):=rfl
  rw [hr2,<-hx,<-hy] at hres
  exact ⟨congrArg Value.bool hres.symm,M.ext⟩
 have o3:¬ op = 3:=o3
 refine brE_dec (fun o4 => ?_) (fun o4 => ?_)
 ·have o4:op = 4:=o4
  subst o4
  have hr2:holdN a b 4 attr side n (of.map (holdsT a b)) = decide (attrZ attr a = attrZ attr b):=rfl
  rw [hr2,<-hx,<-hy] at hres
  exact ⟨congrArg Value.bool hres.symm,M.ext⟩
 have o4:¬ op = 4:=o4
 refine brE_dec (fun o5 => ?_) (fun o5 => ?_)
 ·have o5:op = 5:=o5
  subst o5
  have hr2:holdN a b 5 attr side n (of.map (holdsT a b)) = decide (attrZ attr (sideP a b side) = n):=rfl
  rw [hr2,<-hz] at hres
  refine ⟨_,M.cell 2 (i:=3) rfl rfl,?_⟩
  exact ⟨congrArg Value.bool hres.symm,M.ext⟩
 have o5:¬ op = 5:=o5
 refine brE_dec (fun o6 => ?_) (fun o6 => ?_)
 ·have o6:op = 6:=o6
  subst o6
  have hr2:holdN a b 6 attr side n (of.map (holdsT a b)) = decide (attrZ attr (sideP a b side) < n):=rfl
  rw [hr2,<-hz] at hres
  refine ⟨_,M.cell 2 (i:=3) rfl rfl,?_⟩
  exact ⟨congrArg Value.bool hres.symm,M.ext⟩
 have o6:¬ op = 6:=o6
 have hops:=shaped_ops hnode o1 o2 o3 o4 o5 o6
 have kidh:∀ i (hi:i < of.length),∀ {w:World},Ext w0 w -> CallsV C.P 246 #[of[i].val,a.val,b.val] w fun v w' => v = .bool (holdsT a b of[i]) ∧ Ext w w':=fun i hi {w} e => ih _ (List.getElem_mem hi) (hkids _ (List.getElem_mem hi)) e
 obtain ⟨q,hq⟩:∃ q,q = decide (op = 9):=⟨_,rfl⟩
 refine loopE C_ok (fun (i:Nat) => [(3,.pointer (some ⟨g3,0,none⟩)),(4,.pointer (some ⟨g4,0,none⟩)),(5,.pointer (some ⟨g5,0,none⟩)),(10,.int .i64 (i:Nat))])
  (fun i w' => i <= of.length ∧ Mem w w' [(g5,.cells b.cells.toArray 38 (0,0)),(g4,.cells a.cells.toArray 38 (0,0)),(g3,.cells (Tst.mk op attr side n A c of).cells.toArray 70 (0,0))] ∧ (op = 7 -> i = 0) ∧ ∀ j (hj:j < of.length),j < i -> holdsT a b of[j] = !q) (fun i => of.length - i) 0 ⟨rfl,rfl,rfl,rfl,trivial⟩ ⟨Nat.zero_le _,M,fun _ => rfl,fun _ _ h => absurd h (Nat.not_lt_zero _)⟩ ?_
 clear M
 rintro i w7 ⟨hi,M,hi7,hall⟩
 refine ⟨_,M.cell 2 (i:=4) rfl rfl,?_⟩
 refine brE_dec (fun hlt => ?_) (fun hge => ?_)
 ·have hlti:i < of.length:=by have:(i:Int) < (of.length:Nat):=hlt; omega
  have next:IntKind.i64.wrap ((i:Int) + 1) = ((i + 1:Nat):Int):=fit ⟨by omega,by omega⟩
  obtain ⟨bb,o,hA,hc5⟩:=Reads.elem Tst.len (by omega) (Reads.ext hr (e0.trans M.ext)) hlti
  obtain ⟨u,hu⟩:∃ u,u = of[i]:=⟨_,rfl⟩
  have hc5:Rd w7 bb (o + i * 5) u.cells:=by rw [hu]; exact hc5
  have X:=fun {w:World} (e:Ext w0 w) => kidh i hlti e
  rw [<-hu] at X
  have hil:i < (of.map (holdsT a b)).length:=by rw [List.length_map]; exact hlti
  obtain ⟨hv,hhv⟩:∃ hv,hv = holdsT a b u:=⟨_,rfl⟩
  have hil2:(of.map (holdsT a b))[i] = hv:=by rw [List.getElem_map,<-hu]; exact hhv.symm
  rw [<-hhv] at X
  refine ⟨_,M.cell 2 (i:=4) rfl rfl,?_⟩
  refine ⟨i,bb,o,rfl,hlti,hA,?_⟩
  refine ⟨u.cells,rfl,hc5,?_⟩
  refine ⟨a.cells,rfl,M.rd 1 rfl,?_⟩
  refine ⟨b.cells,rfl,M.rd 0 rfl,?_⟩
  refine (X (e0.trans M.ext)).mono ?_
  rintro v w8 ⟨rfl,e8⟩
  have M8:=M.grow e8
  refine ⟨_,M8.cell 2 (i:=0) rfl rfl,?_⟩
  refine brE_dec (fun o7 => ?_) (fun o7 => ?_)
  ·have o7:op = 7:=o7
   have hi0:=hi7 o7
   subst hi0
   refine ⟨congrArg Value.bool ?_,M8.ext⟩
   rw [hres,o7]
   show (!hv) = !((of.map (holdsT a b)).headD true)
   congr 1
   rw [<-hil2]
   cases of with
   | nil => cases hlti
   | cons y r => rfl
  have o7:¬ op = 7:=o7
  have fin:∀ {w9:World},hv = (!q) -> Mem w w9 [(g5,.cells b.cells.toArray 38 (0,0)),(g4,.cells a.cells.toArray 38 (0,0)),(g3,.cells (Tst.mk op attr side n A c of).cells.toArray 70 (0,0))] -> ∀ j (hj:j < of.length),j < i + 1 -> holdsT a b of[j] = !q:=fun {w9} hb _ j hj hji => by
   by_cases he:j = i
   ·subst he; rw [<-hu,<-hhv]; exact hb
   ·exact hall j hj (by omega)
  refine ⟨_,M8.cell 2 (i:=0) rfl rfl,?_⟩
  refine brE_dec (fun o8 => ?_) (fun o8 => ?_)
  ·have o8:op = 8:=o8
   have hq0:q = false:=by rw [hq]; exact decide_eq_false (by omega)
   refine brE_mk (fun hb => ?_) (fun hb => ?_)
   ·have hb:hv = false:=by simpa using hb
    refine ⟨congrArg Value.bool ?_,M8.ext⟩
    rw [hres,o8]
    rw [hb] at hil2 ⊢
    exact (all_at hil hil2).symm
   ·have hb:hv = true:=by simpa using hb
    refine ⟨_,M8.cell 2 (i:=0) rfl rfl,?_⟩
    refine brE_dec (fun o9 => absurd (show op = 9 from o9) (by omega)) (fun _ => ?_)
    refine ⟨_,next,?_⟩
    exact ⟨i + 1,⟨rfl,rfl,rfl,rfl,trivial⟩,⟨hlti,M8,fun h => absurd h o7,fin (by rw [hb,hq0]; rfl) M8⟩,by show of.length - (i + 1) < of.length - i; omega⟩
  ·have o8:¬ op = 8:=o8
   have o9:op = 9:=by omega
   have hq1:q = true:=by rw [hq]; exact decide_eq_true o9
   refine ⟨_,M8.cell 2 (i:=0) rfl rfl,?_⟩
   refine brE_true (decide_eq_true o9) ?_
   refine brE_mk (fun hb => ?_) (fun hb => ?_)
   ·have hb:hv = true:=hb
    refine ⟨congrArg Value.bool ?_,M8.ext⟩
    rw [hres,o9]
    rw [hb] at hil2 ⊢
    exact (any_at hil hil2).symm
   ·have hb:hv = false:=hb
    refine ⟨_,next,?_⟩
    exact ⟨i + 1,⟨rfl,rfl,rfl,rfl,trivial⟩,⟨hlti,M8,fun h => absurd h o7,fin (by rw [hb,hq1]; rfl) M8⟩,by show of.length - (i + 1) < of.length - i; omega⟩
 ·have hge:¬ (i:Int) < (of.length:Nat):=hge
  have o7:¬ op = 7:=fun h => by have:=hi7 h; have:=hops.resolve_right (by omega); omega
  have hop:op = 8 ∨ op = 9:=by omega
  refine ⟨_,M.cell 2 (i:=0) rfl rfl,?_⟩
  refine ⟨congrArg Value.bool ?_,M.ext⟩
  show decide (op = 8) = res
  rw [hres]
  have hmem:∀ v ∈ of.map (holdsT a b),v = !q:=fun v hv => by
   obtain ⟨x,hx,rfl⟩:=List.mem_map.1 hv
   obtain ⟨j,hj,rfl⟩:=List.getElem_of_mem hx
   exact hall j hj (by omega)
  rcases hop with rfl | rfl
  ·have hq0:q = false:=hq
   show true = (of.map (holdsT a b)).all id
   rw [Eq.comm,List.all_eq_true]
   intro v hv
   rw [hmem v hv,hq0]; rfl
  ·have hq1:q = true:=hq
   show false = (of.map (holdsT a b)).any id
   rw [Eq.comm,List.any_eq_false]
   intro v hv
   rw [hmem v hv,hq1]; decide
end Go.Proofs.YtdpdjcopkehdjaaGreat.Rk
namespace Go.Eng
open Go.RowKit
section
variable {C:Cfg}
theorem strRange {o:Oper} {t:Nat} {m:Operand} {l:Env} {w:World} {s:ByteArray} (hu:C.P.underlying t = some .string)
  (ho:o.op = .range t m) (hm:evo l m = some (.string s))
  {Q:Value -> World -> Prop} (h:∀ r w',Alloc w r (.stringIter s 0) w' -> Q (.pointer (some ⟨r,0,none⟩)) w'):LoudRun C o l w Q:=by
 intro ρ hρ w₁ hs
 have ha:Alloc w w₁.heap.size (.stringIter s 0) (w₁.alloc (.stringIter s 0)):=by
  have e:w₁.heap.size = w.heap.size:=by rw [hs.heap]
  rw [e]; exact Alloc.of_same hs _
 refine ⟨.pointer (some ⟨w₁.heap.size,0,none⟩),w₁.alloc (.stringIter s 0),_,.inl ?_,h _ _ ha,Same.refl _⟩
 unfold execOp
 rw [ho]
 simp only [hρ _ _ hm]
 have:=run_range_string (P:=C.P) w₁ t s hu
 simp [this,World.iter]
theorem strNext {o:Oper} {it:Operand} {l:Env} {w:World} {r pos:Nat} {s:ByteArray} (hr:w.heap[r]? = some (.stringIter s pos))
  (ho:o.op = .next it true) (hit:evo l it = some (.pointer (some ⟨r,0,none⟩)))
  {Q:Value -> World -> Prop} (h0:¬ pos < s.size -> Q (.tuple #[.bool false]) w)
  (h1:pos < s.size -> ∀ w',Put w r (.stringIter s (pos + (Utf8.decode s pos).2)) w' -> Q (.tuple #[.bool true,.int .i64 (pos:Nat),.int .i32 ((Utf8.decode s pos).1:Nat)]) w'):LoudRun C o l w Q:=by
 intro ρ hρ w₁ hs
 have hr1:w₁.heap[r]? = some (.stringIter s pos):=by rw [hs.heap]; exact hr
 have exec:∀ v w2,(Instr.next (.pointer (some ⟨r,0,none⟩)) true o.type).run C.P w₁ = .ok v w2 -> (execOp ρ o).run C.P w₁ = .ok (.value v) w2:=fun v w2 hh => by
  unfold execOp
  rw [ho]
  simp only [hρ _ _ hit]
  simp [hh]
 by_cases hp:pos < s.size
 ·have hput:Put w r (.stringIter s (pos + (Utf8.decode s pos).2)) (Go.ChangeMaps.setBlock w₁ r (.stringIter s (pos + (Utf8.decode s pos).2))):=put_setObj hs hr
  exact ⟨_,_,_,.inl (exec _ _ (Lib.run_next_any_at w₁ r s pos o.type hr1 hp)),h1 hp _ hput,Same.refl _⟩
 ·exact ⟨_,w,w₁,.inl (exec _ _ (Lib.run_next_end_at w₁ r s pos o.type hr1 hp)),h0 hp,hs⟩
end
theorem decodeN_low (n b0 b1 b2 b3:Nat) (h:(Lib.decodeN n b0 b1 b2 b3).1 < 128):b0 < 128:=by
 unfold Lib.decodeN at h
 repeat' split at h
 all_goals first | assumption | (simp only at h; omega)
theorem decode_low {s:ByteArray} {i:Nat} (hi:i < s.size) (h:(Utf8.decode s i).1 < 128):Utf8.decode s i = ((s[i]'hi).toNat,1):=by
 refine decode_ascii s i hi ?_
 rw [Lib.decode_at] at h
 have e:s.get! i = s[i]'hi:=by
  simp [ByteArray.get!,getElem!_pos,hi]
  rfl
 rw [<-e]
 exact decodeN_low _ _ _ _ _ h
end Go.Eng
