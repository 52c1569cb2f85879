/- a part of the proof: steps, walks and plain laws that the law below stands on; no condition. -/
import Derived.Test.YtdpdjcopkehdjaaGreatRXa
import Derived.Test.YtdpdjcopkehdjaaGreatRXb
import Derived.Test.YtdpdjcopkehdjaaGreatRXc
import Derived.Test.YtdpdjcopkehdjaaGreatRXd
import Derived.Test.YtdpdjcopkehdjaaGreatRXe
import Derived.Test.YtdpdjcopkehdjaaGreatRXf
import Derived.Test.YtdpdjcopkehdjaaGreatRXg
import Derived.Test.YtdpdjcopkehdjaaGreatRXh
import Derived.Test.YtdpdjcopkehdjaaGreatRXl
import Derived.Test.YtdpdjcopkehdjaaGreatRXm
import Derived.Sort.Walk0
import Derived.Ground.SlsfProg
import Derived.Maps.RangeRun
set_option linter.unusedVariables false
set_option linter.unusedSimpArgs false
set_option linter.unnecessarySimpa false
set_option linter.unusedSectionVars false
namespace Go.Proofs.YtdpdjcopkehdjaaGreat
open Go.Eng Go.RowKit
theorem sortD_nodup_length {l:List Int} (h:l.Nodup):(sortD l).length = l.length:=by
 have hn:(sortD l).Nodup:=(sortD_asc l).imp fun h e => by subst e; exact Int.lt_irrefl _ h
 exact ((List.perm_ext_iff_of_nodup hn h).2 fun x => mem_sortD).length_eq
theorem nodup_length_le {a l:List Int} (hn:a.Nodup) (h:∀ x ∈ a,x ∈ l):a.length <= l.length:=by
 rw [<-sortD_nodup_length hn]
 exact asc_length (sortD_asc a) fun x hx => h x (mem_sortD.1 hx)
theorem HF.at_nums {w:World} {A:Option Addr} {l:List Fact} {c:Nat} (h:HF w A l c) (k day:Int):∀ x ∈ atL k day l,x.Nums:=fun x hx => h.nums x (atL_sub hx)
set_option maxRecDepth 100000 in
theorem Principal_spec {w:World} {A:Option Addr} {l:List Fact} {c:Nat} (h:HF w A l c) (hl:l.length <= 2 ^ 20) (k day p:Int) (hp:In64 p) :
  CallsV C.P 94 #[.slice A l.length c,.int .i64 k,.int .i64 day,.int .i64 p] w fun v w' => v = .tuple #[.int .i64 (princL (atL k day l) p).1,.bool (princL (atL k day l) p).2] ∧ Ext w w':=by
 refine callsV_of C_ok (args:=[_,_,_,_]) (plans:=[]) Tryz.func94 rfl Tryz.ntmps94 (by kernel_rfl) (Nat.le_of_ble_eq_true rfl) ?_
 refine (look_spec h hl k day).mono ?_
 rintro v w1 ⟨hK,e1⟩
 have hkl:=atL_length k day l
 have hKn:=h.at_nums k day
 generalize atL k day l = K at *
 obtain ⟨AK,cK,rfl,hrK,_⟩:=hK.slice
 have hKl:K.length <= 2 ^ 20:=by omega
 intro gm w2 h2
 intro g12 w3 h3
 refine ⟨rfl,_,_,h3.here,Nat.le_of_ble_eq_true rfl,rfl,?_⟩
 intro w4 h4
 have h4:Put w3 g12 (.cells #[.int .i64 p] 3 (0,0)) w4:=h4
 have hgm:w1.heap.size <= gm:=by rw [h2.new]; exact Nat.le_refl _
 have hne:gm ≠ g12:=by rw [h2.new,h3.new,h2.size]; omega
 have M4:Mem w1 w4 [(g12,.cells #[.int .i64 p] 3 (0,0))]:=(((Mem.start w1).grow h2.ext).alloc h3).put 0 rfl h4
 have s4:SetIs w4 gm []:=(SetIs.empty (h3.ext.heap h2.here)).other h4 hne
 have hstart:princL K p = princAt K (K.length + 2 - 0) [] p:=rfl
 refine loopE C_ok (fun (t:List Int × Int) => [(10,.slice AK K.length cK),(11,.map (some gm)),(12,.pointer (some ⟨g12,0,none⟩))])
  (fun t w' => Mem w1 w' [(g12,.cells #[.int .i64 t.2] 3 (0,0))] ∧ SetIs w' gm t.1 ∧ t.1.Nodup ∧ (∀ x ∈ t.1,x ∈ p :: K.map Fact.other) ∧ t.2 ∈ p :: K.map Fact.other ∧ princL K p = princAt K (K.length + 2 - t.1.length) t.1 t.2) (fun t => K.length + 2 - t.1.length) ([],p)
  ⟨rfl,rfl,rfl,trivial⟩ ⟨M4,s4,List.nodup_nil,(fun _ h => by cases h),by simp,hstart⟩ ?_
 rintro ⟨met,q⟩ w5 ⟨M5',s5',hnd',hsub',hq',hpr'⟩
 have M5:Mem w1 w5 [(g12,.cells #[.int .i64 q] 3 (0,0))]:=M5'
 have s5:SetIs w5 gm met:=s5'
 have hnd:met.Nodup:=hnd'
 have hsub:∀ x ∈ met,x ∈ p :: K.map Fact.other:=hsub'
 have hq:q ∈ p :: K.map Fact.other:=hq'
 have hpr:princL K p = princAt K (K.length + 2 - met.length) met q:=hpr'
 clear M5' s5' hnd' hsub' hq' hpr'
 have hlen:=nodup_length_le hnd hsub
 simp only [List.length_cons,List.length_map] at hlen
 obtain ⟨n,hn⟩:∃ n,K.length + 2 - met.length = n + 1:=⟨K.length + 1 - met.length,by omega⟩
 rw [hn,princAt] at hpr
 have hq64:In64 q:=by
  rcases List.mem_cons.1 hq with rfl | hq
  ·exact hp
  ·obtain ⟨x,hx,rfl⟩:=List.mem_map.1 hq
   exact (hKn x hx).other
 obtain ⟨f,hf,hf2⟩:=s5
 refine ⟨_,M5.cell 0 rfl rfl,?_⟩
 refine ⟨_,mapGet1 C_ok (te:=ty4) (x:=.int .i64 q) (intKey hq64) hf intK rfl rfl rfl rfl rfl rfl (set_get hf2 _),?_⟩
 refine brE_mk (fun a1 => ?_) (fun a1 => ?_)
 ·rw [if_pos (of_decide_eq_true a1)] at hpr
  exact ⟨by rw [hpr],e1.trans M5.ext⟩
 have a1:q ∉ met:=of_decide_eq_false a1
 rw [if_neg a1] at hpr
 refine ⟨_,M5.cell 0 rfl rfl,?_⟩
 refine mapPut C_ok rfl rfl (x:=.int .i64 q) rfl rfl rfl rfl intK (intKey hq64) hf ?_
 intro o6 w6 h6 hf6
 have s6:SetIs w6 gm (met ++ [q]):=set_put hf2 hf6
 have M6:Mem w1 w6 [(g12,.cells #[.int .i64 q] 3 (0,0))]:=M5.grown h6.grownBy (fun q hq => by cases hq; exact hgm) (fun p hp => by
  simp at hp
  subst hp
  exact fun e => hne (by injection e with e; exact e.symm))
 have hnd6:(met ++ [q]).Nodup:=List.nodup_append.2 ⟨hnd,by simp,fun x hx y hy e => by rw [List.mem_singleton.1 hy] at e; subst e; exact a1 hx⟩
 have hsub6:∀ x ∈ met ++ [q],x ∈ p :: K.map Fact.other:=fun x hx => by
  rcases List.mem_append.1 hx with hx | hx
  ·exact hsub x hx
  ·rw [List.mem_singleton.1 hx]; exact hq
 refine ⟨[],[.pointer (some ⟨g12,0,none⟩)],rfl,rfl,?_⟩
 refine (last_spec (p:=deputyB q) (hrK.ext M6.ext) hKl rfl fun x w' e => Principal1_spec x w' (e.heap (M6.get 0 rfl))).mono ?_
 rintro v w7 ⟨rfl,e7⟩
 have M7:=M6.grow e7
 have s7:=s6.ext e7
 cases hlast:lastP (deputyB q) K with
 | none =>
  have hnx:nextL K q = none:=by unfold nextL; rw [hlast]; rfl
  rw [hnx] at hpr
  intro g13 w8 h8
  refine ⟨rfl,_,_,h8.here,Nat.le_of_ble_eq_true rfl,rfl,?_⟩
  intro w9 h9
  have e79:Ext w7 w9:=h9.ext_of h8.ext (by rw [h8.new]; exact Nat.le_refl _)
  have M9:=M7.grow e79
  obtain ⟨es,clk,hes,hsz⟩:=(s7.ext e79).size
  rw [sortD_nodup_length hnd6,List.length_append] at hsz
  refine ⟨es,clk,hes,?_⟩
  refine brE_dec (fun b1 => ?_) (fun b1 => ?_)
  ·have b1:(es.size:Int) = 1:=b1
   have hm0:met.length = 0:=by simp at hsz; omega
   have hpr:princL K p = if met.length = 0 then (0,false) else (q,true):=hpr
   rw [if_pos hm0] at hpr
   exact ⟨by rw [hpr],e1.trans M9.ext⟩
  ·have b1:¬ (es.size:Int) = 1:=b1
   have hm0:¬ met.length = 0:=by simp at hsz; omega
   have hpr:princL K p = if met.length = 0 then (0,false) else (q,true):=hpr
   rw [if_neg hm0] at hpr
   refine ⟨_,M9.cell 0 rfl rfl,?_⟩
   exact ⟨by rw [hpr]; rfl,e1.trans M9.ext⟩
 | some y =>
  have hnx:nextL K q = some y.other:=by unfold nextL; rw [hlast]; rfl
  rw [hnx] at hpr
  have hpr:princL K p = princAt K n (met ++ [q]) y.other:=hpr
  have hy:=lastP_some hlast
  intro g13 w8 h8
  refine ⟨rfl,_,_,h8.here,Nat.le_of_ble_eq_true rfl,rfl,?_⟩
  intro w9 h9
  have h9:Put w8 g13 (.cells y.cells.toArray 55 (0,0)) w9:=h9
  have e79:Ext w7 w9:=h9.ext_of h8.ext (by rw [h8.new]; exact Nat.le_refl _)
  have M9:=M7.grow e79
  refine ⟨_,cell_of_block h9.here rfl,?_⟩
  refine ⟨rfl,_,_,M9.get 0 rfl,Nat.le_of_ble_eq_true rfl,rfl,?_⟩
  intro w10 h10
  have M10:=M9.put 0 rfl h10
  refine ⟨(met ++ [q],y.other),⟨rfl,rfl,rfl,trivial⟩,⟨M10,(s7.ext e79).other h10 hne,hnd6,hsub6,?_,?_⟩,?_⟩
  ·exact List.mem_cons_of_mem _ (List.mem_map.2 ⟨y,hy.1,rfl⟩)
  ·show princL K p = princAt K (K.length + 2 - (met ++ [q]).length) (met ++ [q]) y.other
   rw [hpr,show K.length + 2 - (met ++ [q]).length = n by simp; omega]
  ·show K.length + 2 - (met ++ [q]).length < K.length + 2 - met.length
   simp; omega
end Go.Proofs.YtdpdjcopkehdjaaGreat
namespace Go.Proofs.YtdpdjcopkehdjaaGreat
open Go.Eng Go.RowKit
theorem Credentials_spec {w:World} {A:Option Addr} {l:List Fact} {c:Nat} (h:HF w A l c) (hl:l.length <= 2 ^ 20) (k day n s:Int) :
  CallsV C.P 99 #[.slice A l.length c,.int .i64 k,.int .i64 day,.int .i64 n,.int .i64 s] w fun v w' => v = .int .i64 (credL (atL k day l) n s) ∧ Ext w w':=by
 refine callsV_of C_ok (args:=[_,_,_,_,_]) (plans:=[]) Tryz.func99 rfl Tryz.ntmps99 (by kernel_rfl) (Nat.le_of_ble_eq_true rfl) ?_
 intro g8 u1 h8
 have M8:=(Mem.start w).alloc h8
 intro g9 u2 h9
 have M9:=M8.alloc h9
 refine (look_spec (h.ext M9.ext) hl k day).mono ?_
 rintro v w1 ⟨hK,e1⟩
 have M1:=M9.grow e1
 have hkl:=atL_length k day l
 generalize atL k day l = K at *
 obtain ⟨AK,cK,rfl,hrK,_⟩:=hK.slice
 refine ⟨[],[.pointer (some ⟨g8,0,none⟩),.pointer (some ⟨g9,0,none⟩)],rfl,rfl,?_⟩
 refine (last_spec (p:=credB n s) hrK (by omega) rfl fun x w' e => Credentials1_spec x w' (e.heap (M1.get 1 rfl)) (e.heap (M1.get 0 rfl))).mono ?_
 rintro v w2 ⟨rfl,e2⟩
 have M2:=M1.grow e2
 unfold credL
 cases hlast:lastP (credB n s) K with
 | none =>
  intro g w3 h3
  have M3:=M2.alloc h3
  refine ⟨rfl,_,_,h3.here,Nat.le_of_ble_eq_true rfl,rfl,?_⟩
  intro w4 h4
  exact ⟨rfl,(M3.put 0 rfl h4).ext⟩
 | some y =>
  intro g w3 h3
  have M3:=M2.alloc h3
  refine ⟨rfl,_,_,h3.here,Nat.le_of_ble_eq_true rfl,rfl,?_⟩
  intro w4 h4
  have h4:Put w3 g (.cells y.cells.toArray 55 (0,0)) w4:=h4
  refine ⟨_,cell_of_block h4.here rfl,?_⟩
  exact ⟨rfl,(M3.put 0 rfl h4).ext⟩
theorem spouseL_some {c:List Fact} {p:Int} {y:Fact} (h:lastP (marriedB p) c = some y):spouseL c p = if (deadB c y.who || deadB c y.other) = true then (0,false) else if y.who = p then (y.other,true) else (y.who,true):=by
 unfold spouseL; rw [h]
theorem spouseL_none {c:List Fact} {p:Int} (h:lastP (marriedB p) c = none):spouseL c p = (0,false):=by
 unfold spouseL; rw [h]
theorem Spouse_spec {w:World} {A:Option Addr} {l:List Fact} {c:Nat} (h:HF w A l c) (hl:l.length <= 2 ^ 20) (k day n:Int) :
  CallsV C.P 97 #[.slice A l.length c,.int .i64 k,.int .i64 day,.int .i64 n] w fun v w' => v = .tuple #[.int .i64 (spouseL (atL k day l) n).1,.bool (spouseL (atL k day l) n).2] ∧ Ext w w':=by
 refine callsV_of C_ok (args:=[_,_,_,_]) (plans:=[]) Tryz.func97 rfl Tryz.ntmps97 (by kernel_rfl) (Nat.le_of_ble_eq_true rfl) ?_
 intro g7 u1 h7
 have M7:=(Mem.start w).alloc h7
 refine (look_spec (h.ext M7.ext) hl k day).mono ?_
 rintro v w1 ⟨hK,e1⟩
 have M1:=M7.grow e1
 have hkl:=atL_length k day l
 generalize atL k day l = K at *
 obtain ⟨AK,cK,rfl,hrK,_⟩:=hK.slice
 have hKl:K.length <= 2 ^ 20:=by omega
 refine ⟨[],[.pointer (some ⟨g7,0,none⟩)],rfl,rfl,?_⟩
 refine (last_spec (p:=marriedB n) hrK hKl rfl fun x w' e => Spouse1_spec x w' (e.heap (M1.get 0 rfl))).mono ?_
 rintro v w2 ⟨rfl,e2⟩
 have M2:=M1.grow e2
 have hr2:=hrK.ext e2
 cases hlast:lastP (marriedB n) K with
 | none =>
  intro g w3 h3
  have M3:=M2.alloc h3
  refine ⟨rfl,_,_,h3.here,Nat.le_of_ble_eq_true rfl,rfl,?_⟩
  intro w4 h4
  exact ⟨by rw [spouseL_none hlast],(M3.put 0 rfl h4).ext⟩
 | some y =>
  have hsp:=spouseL_some hlast
  intro g w3 h3
  have M3:=M2.alloc h3
  refine ⟨rfl,_,_,h3.here,Nat.le_of_ble_eq_true rfl,rfl,?_⟩
  intro w4 h4
  have h4:Put w3 g (.cells y.cells.toArray 55 (0,0)) w4:=h4
  have e24:Ext w2 w4:=h4.ext_of h3.ext (by rw [h3.new]; exact Nat.le_refl _)
  have M4:Mem w w4 [(g,.cells y.cells.toArray 55 (0,0)),(g7,.cells #[.int .i64 n] 3 (0,0))]:=M3.put 0 rfl h4
  refine ⟨_,M4.cell 0 rfl rfl,?_⟩
  refine (vdead_spec (hr2.ext e24) hKl y.who).mono ?_
  rintro v w5 ⟨rfl,e5⟩
  have M5:=M4.grow e5
  refine brE_mk (fun a1 => ?_) (fun a1 => ?_)
  ·rw [a1,Bool.true_or,if_pos rfl] at hsp
   exact ⟨by rw [hsp],M5.ext⟩
  rw [a1,Bool.false_or] at hsp
  refine ⟨_,M5.cell 0 rfl rfl,?_⟩
  refine (vdead_spec ((hr2.ext e24).ext e5) hKl y.other).mono ?_
  rintro v w6 ⟨rfl,e6⟩
  have M6:=M5.grow e6
  refine brE_mk (fun a2 => ?_) (fun a2 => ?_)
  ·rw [a2,if_pos rfl] at hsp
   exact ⟨by rw [hsp],M6.ext⟩
  rw [a2,if_neg (by decide)] at hsp
  refine ⟨_,M6.cell 0 rfl rfl,?_⟩
  refine ⟨_,M6.cell 1 rfl rfl,?_⟩
  refine brE_dec (fun a3 => ?_) (fun a3 => ?_)
  ·have a3:y.who = n:=a3
   rw [if_pos a3] at hsp
   refine ⟨_,M6.cell 0 rfl rfl,?_⟩
   exact ⟨by rw [hsp]; rfl,M6.ext⟩
  ·have a3:¬ y.who = n:=a3
   rw [if_neg a3] at hsp
   refine ⟨_,M6.cell 0 rfl rfl,?_⟩
   exact ⟨by rw [hsp]; rfl,M6.ext⟩
set_option maxRecDepth 100000 in
theorem Visit_spec {w:World} {A:Option Addr} {l:List Fact} {c:Nat} (h:HF w A l c) (hl:l.length <= 2 ^ 20) (k day n s:Int) :
  CallsV C.P 98 #[.slice A l.length c,.int .i64 k,.int .i64 day,.int .i64 n,.int .i64 s] w fun v w' => v = .int .i64 (visitL (atL k day l) n s) ∧ Ext w w':=by
 refine callsV_of C_ok (args:=[_,_,_,_,_]) (plans:=[]) Tryz.func98 rfl Tryz.ntmps98 (by kernel_rfl) (Nat.le_of_ble_eq_true rfl) ?_
 refine (look_spec h hl k day).mono ?_
 rintro v w1 ⟨hK,e1⟩
 have hkl:=atL_length k day l
 generalize atL k day l = K at *
 obtain ⟨AK,cK,rfl,hrK,_⟩:=hK.slice
 have hKl:K.length <= 2 ^ 20:=by omega
 unfold visitL
 refine loopE C_ok (fun (t:Nat × Int × Bool) => [(3,.int .i64 n),(4,.int .i64 s),(11,.int .i64 t.2.1),(12,.bool t.2.2),(18,.slice AK K.length cK),(19,.int .i64 K.length),(20,.int .i64 t.1)])
  (fun t w' => t.1 <= K.length ∧ Ext w1 w' ∧ (t.2.1,t.2.2) = visitAt n s (0,false) (K.take t.1)) (fun t => K.length - t.1) (0,0,false)
  ⟨rfl,rfl,rfl,rfl,rfl,rfl,rfl,trivial⟩ ⟨Nat.zero_le _,Ext.refl _,rfl⟩ ?_
 rintro ⟨i,a,b⟩ w2 ⟨hi',e2,hv'⟩
 have hi:i <= K.length:=hi'
 have hv:(a,b) = visitAt n s (0,false) (K.take i):=hv'
 clear hi' hv'
 refine brE_dec (fun hlt => ?_) (fun hge => ?_)
 ·have hlt:i < K.length:=by have:(i:Int) < (K.length:Nat):=hlt; omega
  have next:IntKind.i64.wrap ((i:Int) + 1) = ((i + 1:Nat):Int):=fit ⟨by omega,by omega⟩
  have step:visitAt n s (0,false) (K.take (i + 1)) = if (visitB n s K[i] && (!b || decide (K[i].other < a))) = true then (K[i].other,true) else (a,b):=by
   rw [List.take_succ_eq_append_getElem hlt,visitAt_snoc,<-hv]
  obtain ⟨b1,o,hA,hc⟩:=Reads.fact (hrK.ext e2) hlt
  refine ⟨i,b1,o,rfl,hlt,hA,?_⟩
  refine ⟨K[i].cells,rfl,hc,?_⟩
  intro g w3 h3
  refine ⟨rfl,_,_,h3.here,Nat.le_of_ble_eq_true rfl,rfl,?_⟩
  intro w4 h4
  have h4:Put w3 g (.cells K[i].cells.toArray 55 (0,0)) w4:=h4
  have e24:Ext w2 w4:=h4.ext_of h3.ext (by rw [h3.new]; exact Nat.le_refl _)
  have skip:(visitB n s K[i] && (!b || decide (K[i].other < a))) = false -> i + 1 <= K.length ∧ Ext w1 w4 ∧ (a,b) = visitAt n s (0,false) (K.take (i + 1)):=fun h => by
   rw [step,h,if_neg (by decide)]
   exact ⟨hlt,e2.trans e24,rfl⟩
  have take:(visitB n s K[i] && (!b || decide (K[i].other < a))) = true -> i + 1 <= K.length ∧ Ext w1 w4 ∧ (K[i].other,true) = visitAt n s (0,false) (K.take (i + 1)):=fun h => by
   rw [step,h,if_pos rfl]
   exact ⟨hlt,e2.trans e24,rfl⟩
  refine ⟨_,cell_of_block h4.here rfl,?_⟩
  refine brE_dec (fun a1 => ?_) (fun a1 => ?_)
  case' refine_2 =>
   have a1:¬ K[i].kind = 8:=a1
   refine ⟨_,next,?_⟩
   exact ⟨(i + 1,a,b),⟨rfl,rfl,rfl,rfl,rfl,rfl,rfl,trivial⟩,skip (by unfold visitB; rw [decide_eq_false fun h => a1 h.1]; rfl),by show K.length - (i + 1) < K.length - i; omega⟩
  have a1:K[i].kind = 8:=a1
  refine ⟨_,cell_of_block h4.here rfl,?_⟩
  refine brE_dec (fun a2 => ?_) (fun a2 => ?_)
  case' refine_2 =>
   have a2:¬ K[i].who = n:=a2
   refine ⟨_,next,?_⟩
   exact ⟨(i + 1,a,b),⟨rfl,rfl,rfl,rfl,rfl,rfl,rfl,trivial⟩,skip (by unfold visitB; rw [decide_eq_false fun h => a2 h.2.1]; rfl),by show K.length - (i + 1) < K.length - i; omega⟩
  have a2:K[i].who = n:=a2
  refine ⟨_,cell_of_block h4.here rfl,?_⟩
  refine brE_dec (fun a3 => ?_) (fun a3 => ?_)
  case' refine_2 =>
   have a3:¬ K[i].what = s:=a3
   refine ⟨_,next,?_⟩
   exact ⟨(i + 1,a,b),⟨rfl,rfl,rfl,rfl,rfl,rfl,rfl,trivial⟩,skip (by unfold visitB; rw [decide_eq_false fun h => a3 h.2.2]; rfl),by show K.length - (i + 1) < K.length - i; omega⟩
  have a3:K[i].what = s:=a3
  have hvb:visitB n s K[i] = true:=decide_eq_true ⟨a1,a2,a3⟩
  refine brE_mk (fun a4 => ?_) (fun a4 => ?_)
  ·refine ⟨_,cell_of_block h4.here rfl,?_⟩
   refine ⟨_,next,?_⟩
   exact ⟨(i + 1,K[i].other,true),⟨rfl,rfl,rfl,rfl,rfl,rfl,rfl,trivial⟩,take (by rw [hvb,a4]; rfl),by show K.length - (i + 1) < K.length - i; omega⟩
  refine ⟨_,cell_of_block h4.here rfl,?_⟩
  refine brE_dec (fun a5 => ?_) (fun a5 => ?_)
  ·have a5:K[i].other < a:=a5
   refine ⟨_,cell_of_block h4.here rfl,?_⟩
   refine ⟨_,next,?_⟩
   exact ⟨(i + 1,K[i].other,true),⟨rfl,rfl,rfl,rfl,rfl,rfl,rfl,trivial⟩,take (by rw [hvb,decide_eq_true a5,Bool.or_true]; rfl),by show K.length - (i + 1) < K.length - i; omega⟩
  ·have a5:¬ K[i].other < a:=a5
   refine ⟨_,next,?_⟩
   exact ⟨(i + 1,a,b),⟨rfl,rfl,rfl,rfl,rfl,rfl,rfl,trivial⟩,skip (by rw [hvb,a4,decide_eq_false a5]; rfl),by show K.length - (i + 1) < K.length - i; omega⟩
 ·have:i = K.length:=by have:¬ (i:Int) < (K.length:Nat):=hge; omega
  subst this
  rw [List.take_length] at hv
  exact ⟨by rw [<-hv],e1.trans e2⟩
end Go.Proofs.YtdpdjcopkehdjaaGreat
namespace Go.Proofs.YtdpdjcopkehdjaaGreat
open Go.Eng Go.RowKit
def aheadK (s:List UInt8) (a:Int) (t:List UInt8) (b:Int):Bool :=
 if decide (s = []) != decide (t = []) then decide (t = []) else if s = t then decide (a < b) else Op.bytesLess s t
theorem bl_irrefl (s:List UInt8):Op.bytesLess s s = false:=by rw [Go.Proofs.bytesLess_eq]; exact decide_eq_false (List.lt_irrefl s)
theorem bl_trans {s t u:List UInt8} (h1:Op.bytesLess s t = true) (h2:Op.bytesLess t u = true):Op.bytesLess s u = true:=by
 rw [Go.Proofs.bytesLess_eq,decide_eq_true_eq] at *
 exact List.lt_trans h1 h2
theorem bl_total (s t:List UInt8):Op.bytesLess s t = true ∨ s = t ∨ Op.bytesLess t s = true:=by
 rw [Go.Proofs.bytesLess_eq,Go.Proofs.bytesLess_eq,decide_eq_true_eq,decide_eq_true_eq]
 by_cases h1:s < t
 ·exact .inl h1
 ·by_cases h2:t < s
  ·exact .inr (.inr h2)
  ·exact .inr (.inl (List.le_antisymm (List.not_lt.1 h2) (List.not_lt.1 h1)))
theorem aheadK_irrefl (s:List UInt8) (a:Int):aheadK s a s a = false:=by
 unfold aheadK
 simp
theorem aheadK_iff {s t:List UInt8} {a b:Int}:aheadK s a t b = true <-> (s ≠ [] ∧ t = []) ∨ ((s = [] <-> t = []) ∧ (s = t ∧ a < b ∨ s ≠ t ∧ Op.bytesLess s t = true)):=by
 unfold aheadK
 by_cases hs:s = [] <;> by_cases ht:t = []
 ·subst hs; subst ht; simp
 ·subst hs
  have:¬ ([]:List UInt8) = t:=fun e => ht e.symm
  simp [ht]
 ·subst ht; simp [hs]
 ·simp only [hs,ht,decide_false,bne_self_eq_false,Bool.false_eq_true,if_false,and_false,false_or,true_and,ne_eq]
  split
  ·rename_i e; simp [e]
  ·rename_i e; simp [e]
theorem aheadK_trans {s t u:List UInt8} {a b c:Int} (h1:aheadK s a t b = true) (h2:aheadK t b u c = true):aheadK s a u c = true:=by
 rw [aheadK_iff] at *
 rcases h1 with ⟨p,q⟩ | ⟨e,h1⟩
 ·subst q
  rcases h2 with ⟨p2,_⟩ | ⟨e2,_⟩
  ·exact absurd rfl p2
  ·exact .inl ⟨p,e2.1 rfl⟩
 ·rcases h2 with ⟨p2,q2⟩ | ⟨e2,h2⟩
  ·exact .inl ⟨fun h => p2 (e.1 h),q2⟩
  ·refine .inr ⟨e.trans e2,?_⟩
   rcases h1 with ⟨rfl,h1⟩ | ⟨n1,h1⟩
   ·rcases h2 with ⟨rfl,h2⟩ | ⟨n2,h2⟩
    ·exact .inl ⟨rfl,by omega⟩
    ·exact .inr ⟨n2,h2⟩
   ·rcases h2 with ⟨rfl,h2⟩ | ⟨n2,h2⟩
    ·exact .inr ⟨n1,h1⟩
    ·have h3:=bl_trans h1 h2
     refine .inr ⟨fun e => ?_,h3⟩
     rw [e,bl_irrefl] at h3; cases h3
theorem aheadK_total {s t:List UInt8} {a b:Int} (hne:a ≠ b):aheadK s a t b = true ∨ aheadK t b s a = true:=by
 rw [aheadK_iff,aheadK_iff]
 by_cases hs:s = [] <;> by_cases ht:t = []
 ·subst hs; subst ht
  simp; omega
 ·exact .inr (.inl ⟨ht,hs⟩)
 ·exact .inl (.inl ⟨hs,ht⟩)
 ·have e1:(s = [] <-> t = []):=by simp [hs,ht]
  rcases bl_total s t with h | h | h
  ·refine .inl (.inr ⟨e1,.inr ⟨fun e => ?_,h⟩⟩)
   rw [e,bl_irrefl] at h; cases h
  ·subst h
   rcases Int.lt_or_gt_of_ne hne with h | h
   ·exact .inl (.inr ⟨e1,.inl ⟨rfl,h⟩⟩)
   ·exact .inr (.inr ⟨e1,.inl ⟨rfl,h⟩⟩)
  ·refine .inr (.inr ⟨e1.symm,.inr ⟨fun e => ?_,h⟩⟩)
   rw [e,bl_irrefl] at h; cases h
def aheadB (c:List Fact) (lang a b:Int):Bool:=aheadK (nameL c a lang).data.toList a (nameL c b lang).data.toList b
theorem aheadB_irrefl (c:List Fact) (lang a:Int):aheadB c lang a a = false:=aheadK_irrefl _ _
theorem aheadB_trans {c:List Fact} {lang a b d:Int} (h1:aheadB c lang a b = true) (h2:aheadB c lang b d = true):aheadB c lang a d = true:=aheadK_trans h1 h2
theorem aheadB_total {c:List Fact} {lang a b:Int} (h:a ≠ b):aheadB c lang a b = true ∨ aheadB c lang b a = true:=aheadK_total h
theorem aheadB_asymm {c:List Fact} {lang a b:Int} (h1:aheadB c lang a b = true) (h2:aheadB c lang b a = true):False:=by
 have:=aheadB_trans h1 h2
 rw [aheadB_irrefl] at this; cases this
def insB (lt:Int -> Int -> Bool) (a:Int):List Int -> List Int
 | [] => [a]
 | b :: r => if lt a b = true then a :: b :: r else b :: insB lt a r
def orderL (c:List Fact) (lang:Int):List Int:=(statesL c).foldr (insB (aheadB c lang)) []
theorem insB_perm (lt:Int -> Int -> Bool) (a:Int):∀ (l:List Int),(insB lt a l).Perm (a :: l)
 | [] => List.Perm.refl _
 | b :: r => by
  unfold insB
  split
  ·exact List.Perm.refl _
  ·exact (List.Perm.cons b (insB_perm lt a r)).trans (List.Perm.swap a b r)
theorem orderL_perm (c:List Fact) (lang:Int):(orderL c lang).Perm (statesL c):=by
 unfold orderL
 induction statesL c with
 | nil => exact List.Perm.refl _
 | cons a r ih => exact (insB_perm _ _ _).trans (List.Perm.cons a ih)
theorem insB_sorted {c:List Fact} {lang a:Int}:∀ {l:List Int},a ∉ l -> l.Pairwise (fun x y => aheadB c lang x y = true) -> (insB (aheadB c lang) a l).Pairwise fun x y => aheadB c lang x y = true
 | [],_,_ => by simp [insB]
 | b :: r,ha,h => by
  obtain ⟨h1,h2⟩:=List.pairwise_cons.1 h
  unfold insB
  split
  ·rename_i hl
   refine List.pairwise_cons.2 ⟨fun x hx => ?_,h⟩
   rcases List.mem_cons.1 hx with rfl | hx
   ·exact hl
   ·exact aheadB_trans hl (h1 x hx)
  ·rename_i hl
   have hne:a ≠ b:=fun e => ha (by simp [e])
   have hba:aheadB c lang b a = true:=(aheadB_total hne).resolve_left hl
   refine List.pairwise_cons.2 ⟨fun x hx => ?_,insB_sorted (fun h => ha (by simp [h])) h2⟩
   rcases List.mem_cons.1 ((insB_perm _ _ _).mem_iff.1 hx) with rfl | hx
   ·exact hba
   ·exact h1 x hx
theorem statesL_nodup (c:List Fact):(statesL c).Nodup:=(sortD_asc _).imp fun h e => by subst e; exact Int.lt_irrefl _ h
theorem orderL_sorted (c:List Fact) (lang:Int):(orderL c lang).Pairwise fun x y => aheadB c lang x y = true:=by
 have hn:=statesL_nodup c
 unfold orderL
 revert hn
 generalize statesL c = L
 intro hn
 induction L with
 | nil => exact List.Pairwise.nil
 | cons a r ih =>
  obtain ⟨h1,h2⟩:=List.nodup_cons.1 hn
  refine insB_sorted (fun h => h1 ?_) (ih h2)
  have:∀ (l:List Int),(l.foldr (insB (aheadB c lang)) []).Perm l:=by
   intro l
   induction l with
   | nil => exact List.Perm.refl _
   | cons a r ih => exact (insB_perm _ _ _).trans (List.Perm.cons a ih)
  exact (this r).mem_iff.1 h
theorem order_eq {c:List Fact} {lang:Int} {l:List Int} (hp:l.Perm (statesL c)) (hs:l.Pairwise fun x y => aheadB c lang y x = false):l = orderL c lang:=by
 refine List.Perm.eq_of_pairwise (le:=fun x y => aheadB c lang y x = false) (fun a b _ _ h1 h2 => ?_) hs ((orderL_sorted c lang).imp fun {a b} h => ?_) (hp.trans (orderL_perm c lang).symm)
 ·by_cases h:a = b
  ·exact h
  ·rcases aheadB_total (c:=c) (lang:=lang) h with h | h
   ·rw [h2] at h; cases h
   ·rw [h1] at h; cases h
 ·cases hh:aheadB c lang b a with
  | false => rfl
  | true => exact (aheadB_asymm h hh).elim
def alphaL (c:List Fact) (lang lot:Int):List Int :=
 let o:=orderL c lang
 (List.range o.length).map fun i => o.getD (((lot.emod o.length).toNat + i) % o.length) 0
def letterL (c:List Fact) (lang lot s:Int):Int × Bool:=match (alphaL c lang lot).findIdx? (fun x => decide (x = s)) with
 | some i => ((i:Nat),true)
 | none => (200,false)
end Go.Proofs.YtdpdjcopkehdjaaGreat
namespace Go.Proofs.YtdpdjcopkehdjaaGreat
open Go.Eng Go.RowKit
theorem ltStr (t:Nat) (a b:ByteArray) (w:World):(binOp .lss t (.string a) (.string b)).run C.P w = .ok (.bool (Op.bytesLess a.data.toList b.data.toList)) w:=by
 show (Op.stringOp .lss a b).run C.P w = _
 simp [Op.stringOp,ByteArray.toList_eq]
theorem gtStr (t:Nat) (a b:ByteArray) (w:World):(binOp .gtr t (.string a) (.string b)).run C.P w = .ok (.bool (!(Op.bytesLess a.data.toList b.data.toList || decide (a = b)))) w:=by
 show (pure (Value.bool !(Op.bytesLess a.toList b.toList || a.toList == b.toList)):Sem Value).run C.P w = _
 rw [ba_beq,ByteArray.toList_eq,ByteArray.toList_eq,Sem.run_pure]
def cmpS (a b:ByteArray):Int:=if Op.bytesLess a.data.toList b.data.toList = true then -1 else if a = b then 0 else 1
def cmpI (a b:Int):Int:=if a < b then -1 else if a = b then 0 else 1
theorem isNaNS_spec (a:ByteArray) (w:World):CallsV C.P 231 #[.string a] w fun v w' => v = .bool false ∧ w' = w:=by
 refine callsV_of C_ok (args:=[_]) (plans:=[]) Tryz.func231 rfl Tryz.ntmps231 (by kernel_rfl) (Nat.le_of_ble_eq_true rfl) ?_
 refine ⟨_,neqStr _ _ a a,?_⟩
 exact ⟨by simp,rfl⟩
theorem isNaNI_spec (a:Int) (w:World):CallsV C.P 183 #[.int .i64 a] w fun v w' => v = .bool false ∧ w' = w:=by
 refine callsV_of C_ok (args:=[_]) (plans:=[]) Tryz.func183 rfl Tryz.ntmps183 (by kernel_rfl) (Nat.le_of_ble_eq_true rfl) ?_
 exact ⟨by simp,rfl⟩
theorem CompareS_spec (a b:ByteArray) (w:World):CallsV C.P 167 #[.string a,.string b] w fun v w' => v = .int .i64 (cmpS a b) ∧ w' = w:=by
 refine callsV_of C_ok (args:=[_,_]) (plans:=[]) Tryz.func167 rfl Tryz.ntmps167 (by kernel_rfl) (Nat.le_of_ble_eq_true rfl) ?_
 refine (isNaNS_spec a w).mono ?_
 rintro v w1 ⟨rfl,rfl⟩
 refine (isNaNS_spec b w1).mono ?_
 rintro v w2 ⟨rfl,rfl⟩
 unfold cmpS
 refine ⟨_,ltStr _ a b,⟨by decide,by decide⟩,?_⟩
 refine brE_mk (fun h1 => ?_) (fun h1 => ?_)
 ·rw [if_pos h1]; exact ⟨rfl,rfl⟩
 rw [if_neg (by rw [h1]; decide)]
 refine ⟨_,gtStr _ a b,⟨by decide,by decide⟩,?_⟩
 refine brE_mk (fun h2 => ?_) (fun h2 => ?_)
 ·have h2:¬ a = b:=by rw [h1] at h2; simpa using h2
  rw [if_neg h2]; exact ⟨rfl,rfl⟩
 ·have h2:a = b:=by rw [h1] at h2; simpa using h2
  rw [if_pos h2]; exact ⟨rfl,rfl⟩
theorem CompareI_spec (a b:Int) (w:World):CallsV C.P 112 #[.int .i64 a,.int .i64 b] w fun v w' => v = .int .i64 (cmpI a b) ∧ w' = w:=by
 refine callsV_of C_ok (args:=[_,_]) (plans:=[]) Tryz.func112 rfl Tryz.ntmps112 (by kernel_rfl) (Nat.le_of_ble_eq_true rfl) ?_
 refine (isNaNI_spec a w).mono ?_
 rintro v w1 ⟨rfl,rfl⟩
 refine (isNaNI_spec b w1).mono ?_
 rintro v w2 ⟨rfl,rfl⟩
 unfold cmpI
 refine brE_dec (fun h1 => ?_) (fun h1 => ?_)
 ·have h1:a < b:=h1
  rw [if_pos h1]; exact ⟨rfl,rfl⟩
 have h1:¬ a < b:=h1
 rw [if_neg h1]
 refine brE_dec (fun h2 => ?_) (fun h2 => ?_)
 ·have h2:a > b:=h2
  rw [if_neg (by omega)]; exact ⟨rfl,rfl⟩
 ·have h2:¬ a > b:=h2
  rw [if_pos (by omega)]; exact ⟨rfl,rfl⟩
def orI:List Int -> Int
 | [] => 0
 | x :: r => if x ≠ 0 then x else orI r
theorem orI_drop {xs:List Int} {i:Nat} (h:i < xs.length):orI (xs.drop i) = if xs[i] ≠ 0 then xs[i] else orI (xs.drop (i + 1)):=by
 rw [List.drop_eq_getElem_cons h]; rfl
theorem Or_spec {w:World} {A:Option Addr} {xs:List Int} {c:Nat} (hr:Reads w A (ints xs)) (hl:xs.length <= 2 ^ 20) :
  CallsV C.P 111 #[.slice A xs.length c] w fun v w' => v = .int .i64 (orI xs) ∧ w' = w:=by
 refine callsV_of C_ok (args:=[_]) (plans:=[]) Tryz.func111 rfl Tryz.ntmps111 (by kernel_rfl) (Nat.le_of_ble_eq_true rfl) ?_
 refine loopE C_ok (fun (i:Nat) => [(3,.int .i64 0),(6,.slice A xs.length c),(7,.int .i64 xs.length),(8,.int .i64 i)])
  (fun i w' => w' = w ∧ i <= xs.length ∧ orI xs = orI (xs.drop i)) (fun i => xs.length - i) 0 ⟨rfl,rfl,rfl,rfl,trivial⟩ ⟨rfl,Nat.zero_le _,rfl⟩ ?_
 rintro i w1 ⟨rfl,hi,hor⟩
 refine brE_dec (fun hlt => ?_) (fun hge => ?_)
 ·have hlt:i < xs.length:=by have:(i:Int) < (xs.length:Nat):=hlt; omega
  obtain ⟨b,o,hA,hc⟩:=Reads.int hr hlt
  have hd:=orI_drop hlt
  refine ⟨i,b,o,rfl,hlt,hA,?_⟩
  refine ⟨_,by simpa using hc,?_⟩
  refine brE_ndec (fun h2 => ?_) (fun h2 => ?_)
  ·have h2:¬ xs[i] = 0:=h2
   rw [if_pos h2] at hd
   exact ⟨by rw [hor,hd],rfl⟩
  ·have h2:xs[i] = 0:=h2
   rw [if_neg (by simpa using h2)] at hd
   refine ⟨((i + 1:Nat):Int),fit ⟨by omega,by omega⟩,?_⟩
   exact ⟨i + 1,⟨rfl,rfl,rfl,rfl,trivial⟩,⟨rfl,hlt,by rw [hor,hd]⟩,by omega⟩
 ·have:i = xs.length:=by have:¬ (i:Int) < (xs.length:Nat):=hge; omega
  subst this
  rw [List.drop_length] at hor
  exact ⟨by rw [hor]; rfl,rfl⟩
structure NmEntry where
 state:Int
 has:Bool
 name:ByteArray
def NmEntry.cells (e:NmEntry):List Value:=[.int .i64 e.state,.bool e.has,.string e.name]
def entries (l:List NmEntry):List Value:=l.flatMap NmEntry.cells
theorem NmEntry.len (x:NmEntry):x.cells.length = 3:=rfl
instance:Inhabited NmEntry:=⟨⟨0,false,⟨#[]⟩⟩⟩
def cmpE (a b:NmEntry):Int:=if a.has ≠ b.has then (if a.has = true then -1 else 1) else orI [cmpS a.name b.name,cmpI a.state b.state]
theorem Alphabet1_spec (a b:NmEntry) (w:World):CallsV C.P 166 #[.agg a.cells.toArray,.agg b.cells.toArray] w fun v w' => v = .int .i64 (cmpE a b) ∧ Ext w w':=by
 refine callsV_of C_ok (args:=[_,_]) (plans:=plans166) Tryz.func166 rfl Tryz.ntmps166 (by kernel_rfl) (Nat.le_of_ble_eq_true rfl) ?_
 intro g2 w1 h1
 have M1:=(Mem.start w).alloc h1
 intro g3 w2 h2
 have M2:=M1.alloc h2
 unfold cmpE
 refine ⟨_,M2.cell 1 rfl rfl,?_⟩
 refine ⟨_,M2.cell 0 rfl rfl,?_⟩
 refine ⟨_,neqBool _ _ a.has b.has,?_⟩
 refine brE_mk (fun h1 => ?_) (fun h1 => ?_)
 ·have h1:a.has ≠ b.has:=by simpa using h1
  rw [if_pos h1]
  refine ⟨_,M2.cell 1 rfl rfl,?_⟩
  refine brE_mk (fun h2 => ?_) (fun h2 => ?_)
  ·have h2:a.has = true:=h2
   rw [if_pos h2]; exact ⟨rfl,M2.ext⟩
  ·have h2:a.has = false:=h2
   rw [if_neg (by rw [h2]; decide)]; exact ⟨rfl,M2.ext⟩
 have h1:a.has = b.has:=by simpa using h1
 rw [if_neg (fun h => h h1)]
 refine ⟨_,M2.cell 1 rfl rfl,?_⟩
 refine ⟨_,M2.cell 0 rfl rfl,?_⟩
 refine ⟨_,M2.cell 1 rfl rfl,?_⟩
 refine ⟨_,M2.cell 0 rfl rfl,?_⟩
 refine (CompareS_spec a.name b.name w2).mono ?_
 rintro v w3 ⟨rfl,rfl⟩
 refine ⟨Ext.refl _,?_⟩
 refine (CompareI_spec a.state b.state w3).mono ?_
 rintro v w4 ⟨rfl,rfl⟩
 intro g5 w5 h5
 refine (Or_spec (xs:=[cmpS a.name b.name,cmpI a.state b.state]) (.inr ⟨g5,0,rfl,Rd.of_block h5.here⟩) (by show 2 <= 2 ^ 20; decide)).mono ?_
 rintro v w6 ⟨rfl,rfl⟩
 exact ⟨rfl,M2.ext.trans h5.ext⟩
theorem cmpS_cases (a b:ByteArray):(cmpS a b = -1 ∧ Op.bytesLess a.data.toList b.data.toList = true) ∨ (cmpS a b = 0 ∧ a = b) ∨ (cmpS a b = 1 ∧ a ≠ b ∧ Op.bytesLess a.data.toList b.data.toList = false):=by
 unfold cmpS
 split
 ·rename_i h; exact .inl ⟨rfl,h⟩
 ·rename_i h
  split
  ·rename_i e; exact .inr (.inl ⟨rfl,e⟩)
  ·rename_i e; exact .inr (.inr ⟨rfl,e,by simpa using h⟩)
theorem cmpI_lt (a b:Int):cmpI a b < 0 <-> a < b:=by
 unfold cmpI
 split
 ·simp; assumption
 ·split <;> simp <;> omega
theorem or_lt {x y:Int}:orI [x,y] < 0 <-> x < 0 ∨ x = 0 ∧ y < 0:=by
 unfold orI
 by_cases h:x = 0
 ·subst h
  simp only [ne_eq,not_true,if_false,Int.lt_irrefl,true_and,false_or]
  unfold orI
  by_cases h2:y = 0
  ·subst h2; simp [orI]
  ·rw [if_pos h2]
 ·rw [if_pos h]; omega
theorem cmpE_lt (a b:NmEntry):cmpE a b < 0 <-> (a.has = true ∧ b.has = false) ∨ (a.has = b.has ∧ (Op.bytesLess a.name.data.toList b.name.data.toList = true ∨ a.name = b.name ∧ a.state < b.state)):=by
 unfold cmpE
 by_cases h:a.has = b.has
 ·rw [if_neg (fun e => e h),or_lt,cmpI_lt]
  have hn:¬ (a.has = true ∧ b.has = false):=fun e => by rw [e.1,e.2] at h; cases h
  simp only [hn,false_or,h,true_and]
  rcases cmpS_cases a.name b.name with ⟨h1,h2⟩ | ⟨h1,h2⟩ | ⟨h1,h2,h3⟩
  ·rw [h1,h2]; simp
  ·rw [h1,h2,bl_irrefl]; simp
  ·rw [h1,h3]; simp [h2]
 ·rw [if_pos h]
  cases ha:a.has <;> cases hb:b.has <;> simp [ha,hb] at h ⊢
theorem name_eq {a b:ByteArray}:a.data.toList = b.data.toList <-> a = b:=⟨fun h => ByteArray.ext (Array.toList_inj.1 h),fun h => by rw [h]⟩
def ltE (a b:NmEntry):Bool:=decide (cmpE a b < 0)
theorem ltE_iff (a b:NmEntry):ltE a b = true <-> (a.has = true ∧ b.has = false) ∨ (a.has = b.has ∧ (Op.bytesLess a.name.data.toList b.name.data.toList = true ∨ a.name = b.name ∧ a.state < b.state)):=by
 unfold ltE
 rw [decide_eq_true_eq,cmpE_lt]
theorem ltE_total (a b:NmEntry):ltE a b = true ∨ (a.has = b.has ∧ a.name = b.name ∧ a.state = b.state) ∨ ltE b a = true:=by
 rw [ltE_iff,ltE_iff]
 cases ha:a.has <;> cases hb:b.has <;> simp
 all_goals
  rcases bl_total a.name.data.toList b.name.data.toList with h | h | h
  ·exact .inl (.inl h)
  ·have e:=name_eq.1 h
   rw [e,bl_irrefl]
   simp; omega
  ·exact .inr (.inr (.inl h))
theorem ltE_trans {a b c:NmEntry} (h1:ltE a b = true) (h2:ltE b c = true):ltE a c = true:=by
 rw [ltE_iff] at *
 rcases h1 with ⟨p,q⟩ | ⟨e1,h1⟩
 ·rcases h2 with ⟨p2,q2⟩ | ⟨e2,h2⟩
  ·rw [q] at p2; cases p2
  ·exact .inl ⟨p,by rw [<-e2]; exact q⟩
 ·rcases h2 with ⟨p2,q2⟩ | ⟨e2,h2⟩
  ·exact .inl ⟨by rw [e1]; exact p2,q2⟩
  ·refine .inr ⟨e1.trans e2,?_⟩
   rcases h1 with h1 | ⟨n1,h1⟩
   ·rcases h2 with h2 | ⟨n2,h2⟩
    ·exact .inl (bl_trans h1 h2)
    ·exact .inl (by rw [<-n2]; exact h1)
   ·rcases h2 with h2 | ⟨n2,h2⟩
    ·exact .inl (by rw [n1]; exact h2)
    ·exact .inr ⟨n1.trans n2,by omega⟩
theorem ltE_irrefl (a:NmEntry):ltE a a = false:=by
 cases h:ltE a a with
 | false => rfl
 | true =>
  rw [ltE_iff] at h
  rcases h with ⟨p,q⟩ | ⟨_,h | ⟨_,h⟩⟩
  ·rw [p] at q; cases q
  ·rw [bl_irrefl] at h; cases h
  ·omega
def NmEntry.Ok (e:NmEntry):Prop:=e.has = !decide (e.name = ⟨#[]⟩)
theorem nil_name {a:ByteArray}:a.data.toList = [] <-> a = ⟨#[]⟩:=name_eq (b:=⟨#[]⟩)
theorem ltE_eq {a b:NmEntry} (ha:a.Ok) (hb:b.Ok):ltE a b = aheadK a.name.data.toList a.state b.name.data.toList b.state:=by
 rw [Bool.eq_iff_iff,ltE_iff,aheadK_iff]
 unfold NmEntry.Ok at ha hb
 rw [ha,hb,<-name_eq (a:=a.name) (b:=b.name)]
 by_cases hs:a.name.data.toList = [] <;> by_cases ht:b.name.data.toList = []
 ·rw [decide_eq_true (nil_name.1 hs),decide_eq_true (nil_name.1 ht),hs,ht,bl_irrefl]
  simp
 ·rw [decide_eq_true (nil_name.1 hs),decide_eq_false (fun e => ht (nil_name.2 e)),hs]
  simp [ht]
 ·rw [decide_eq_false (fun e => hs (nil_name.2 e)),decide_eq_true (nil_name.1 ht),ht]
  simp [hs]
 ·rw [decide_eq_false (fun e => hs (nil_name.2 e)),decide_eq_false (fun e => ht (nil_name.2 e))]
  simp only [hs,ht,ne_eq,not_false_eq_true,not_true,and_false,false_or,iff_self,true_and,Bool.not_false,Bool.true_eq_false]
  constructor
  ·rintro (h | h)
   ·exact .inr ⟨fun e => (by rw [e,bl_irrefl] at h; cases h),h⟩
   ·exact .inl h
  ·rintro (h | ⟨_,h⟩)
   ·exact .inr h
   ·exact .inl h
end Go.Proofs.YtdpdjcopkehdjaaGreat
namespace Go.Proofs.YtdpdjcopkehdjaaGreat
open Go.Eng Go.RowKit Go.Sort
def sortE_ren:Go.Shelf.Ren:=⟨fun | 6 => 165 | 15 => 141 | 14 => 230 | 28 => 218 | 29 => 219 | 20 => 263 | 21 => 264 | 22 => 265 | 23 => 266 | 24 => 267 | 25 => 268 | 26 => 269 | 27 => 270 | 46 => 296 | 47 => 257 | 48 => 258 | 49 => 297 | 50 => 298 | 57 => 301 | n => n,fun | 22 => 200 | 24 => 203 | 25 => 206 | 3 => 3 | 39 => 163 | 0 => 0 | 53 => 249 | 55 => 251 | 4 => 4 | 46 => 243 | 45 => 242 | 50 => 113 | 5 => 5 | 9 => 9 | 66 => 274 | 70 => 265 | 76 => 289 | 77 => 210 | n => n,fun | n => n⟩
theorem sortE:Go.Proofs.SlLaysF0.n6 Tryz.prog sortE_ren:={
 mixed:=by kernel_rfl,
 f6:=⟨Tryz.f165.name,by decide,Tryz.func165.trans (congrArg some (by kernel_rfl))⟩,
 f14:=⟨Tryz.f230.name,by decide,Tryz.func230.trans (congrArg some (by kernel_rfl))⟩,
 f15:=Tryz.func141.trans (congrArg some (by kernel_rfl)),
 f20:=⟨Tryz.f263.name,by decide,Tryz.func263.trans (congrArg some (by kernel_rfl))⟩,
 f21:=⟨Tryz.f264.name,by decide,Tryz.func264.trans (congrArg some (by kernel_rfl))⟩,
 f22:=⟨Tryz.f265.name,by decide,Tryz.func265.trans (congrArg some (by kernel_rfl))⟩,
 f23:=⟨Tryz.f266.name,by decide,Tryz.func266.trans (congrArg some (by kernel_rfl))⟩,
 f24:=⟨Tryz.f267.name,by decide,Tryz.func267.trans (congrArg some (by kernel_rfl))⟩,
 f25:=⟨Tryz.f268.name,by decide,Tryz.func268.trans (congrArg some (by kernel_rfl))⟩,
 f26:=⟨Tryz.f269.name,by decide,Tryz.func269.trans (congrArg some (by kernel_rfl))⟩,
 f27:=⟨Tryz.f270.name,by decide,Tryz.func270.trans (congrArg some (by kernel_rfl))⟩,
 f28:=Tryz.func218.trans (congrArg some (by kernel_rfl)),
 f29:=Tryz.func219.trans (congrArg some (by kernel_rfl)),
 f46:=⟨Tryz.f296.name,by decide,Tryz.func296.trans (congrArg some (by kernel_rfl))⟩,
 f47:=Tryz.func257.trans (congrArg some (by kernel_rfl)),
 f48:=Tryz.func258.trans (congrArg some (by kernel_rfl)),
 f49:=⟨Tryz.f297.name,by decide,Tryz.func297.trans (congrArg some (by kernel_rfl))⟩,
 f50:=⟨Tryz.f298.name,by decide,Tryz.func298.trans (congrArg some (by kernel_rfl))⟩,
 f57:=⟨Tryz.f301.name,by decide,Tryz.func301.trans (congrArg some (by kernel_rfl))⟩,
 t0:=Tryz.underlying0,
 a0:=Tryz.isAgg0,
 z0:=Tryz.sizeOf0,
 v0:=Tryz.zeroValue0,
 t3:=Tryz.underlying3,
 a3:=Tryz.isAgg3,
 z3:=Tryz.sizeOf3,
 v3:=Tryz.zeroValue3,
 t4:=Tryz.underlying4,
 a4:=Tryz.isAgg4,
 z4:=Tryz.sizeOf4,
 v4:=Tryz.zeroValue4,
 t5:=Tryz.underlying5,
 a5:=Tryz.isAgg5,
 z5:=Tryz.sizeOf5,
 v5:=Tryz.zeroValue5,
 t9:=Tryz.underlying9,
 a9:=Tryz.isAgg9,
 z9:=Tryz.sizeOf9,
 v9:=Tryz.zeroValue9,
 t22:=Tryz.underlying200,
 a22:=Tryz.isAgg200,
 z22:=Tryz.sizeOf200,
 v22:=Tryz.zeroValue200,
 t25:=Tryz.underlying206,
 a25:=Tryz.isAgg206,
 z25:=Tryz.sizeOf206,
 v25:=Tryz.zeroValue206,
 t39:=Tryz.underlying163,
 a39:=Tryz.isAgg163,
 z39:=Tryz.sizeOf163,
 v39:=Tryz.zeroValue163,
 t45:=Tryz.underlying242,
 a45:=Tryz.isAgg242,
 z45:=Tryz.sizeOf242,
 v45:=Tryz.zeroValue242,
 t46:=Tryz.underlying243,
 a46:=Tryz.isAgg243,
 z46:=Tryz.sizeOf243,
 v46:=Tryz.zeroValue243,
 t50:=Tryz.underlying113,
 a50:=Tryz.isAgg113,
 z50:=Tryz.sizeOf113,
 v50:=Tryz.zeroValue113,
 t53:=Tryz.underlying249,
 a53:=Tryz.isAgg249,
 z53:=Tryz.sizeOf249,
 v53:=Tryz.zeroValue249,
 t55:=Tryz.underlying251,
 a55:=Tryz.isAgg251,
 z55:=Tryz.sizeOf251,
 v55:=Tryz.zeroValue251,
 t66:=Tryz.underlying274,
 a66:=Tryz.isAgg274,
 z66:=Tryz.sizeOf274,
 v66:=Tryz.zeroValue274,
 t70:=Tryz.underlying265,
 a70:=Tryz.isAgg265,
 z70:=Tryz.sizeOf265,
 v70:=Tryz.zeroValue265,
 t76:=Tryz.underlying289,
 a76:=Tryz.isAgg289,
 z76:=Tryz.sizeOf289,
 v76:=Tryz.zeroValue289,
 t77:=Tryz.underlying210,
 a77:=Tryz.isAgg210,
 z77:=Tryz.sizeOf210,
 v77:=Tryz.zeroValue210 }
theorem swo_entry:SWO (ltOf cmpE) where
 irrefl x:=ltE_irrefl x
 trans x y z h1 h2:=ltE_trans h1 h2
 ntrans x y z h1 h2:=by
  have h1:ltE x y = false:=h1
  have h2:ltE y z = false:=h2
  show ltE x z = false
  cases h:ltE x z with
  | false => rfl
  | true =>
   rcases ltE_total x y with a | ⟨e1,e2,e3⟩ | a
   ·rw [a] at h1; cases h1
   ·have e:ltE x z = ltE y z:=by
     rw [Bool.eq_iff_iff,ltE_iff,ltE_iff,e1,e2,e3]
    rw [e,h2] at h; cases h
   ·have:=ltE_trans a h
    rw [h2] at this; cases this
theorem SortE_spec {w:World} {base:Nat} {v:Value} {l:List NmEntry} (h:w.ownsRow base 203 3 v l.length (entries l)) (hlen:l.length < 4611686018427387904) :
  CallsV C.P 165 #[v,.func (.func 166) #[] #[]] w fun r w' => r = .tuple #[] ∧ ∃ l':List NmEntry,l'.Perm l ∧ (l'.Pairwise fun a b => ltE b a = false) ∧ w'.ownsRow base 203 3 v l'.length (entries l') ∧ w.grownBy w' v.ownBlock ∧ Only 203 w w':=by
 have eg:∀ args w,(callFunc 166 args).run Tryz.prog w = .ok (.enter 166 args) w:=enters_of Tryz.func166 (by kernel_rfl) rfl
 refine (sortV (P:=C.P) (f:=165) (g:=166) (cb:=#[]) (enc:=NmEntry.cells) (k:=3) (fun _ => rfl) (lt:=ltE) (fun W blk cap d hd hH hb => ?_) (fun A cap W => ?_) h hlen).mono ?_
 ·exact AnyQ.slices_SortFunc sortE 3 Tryz.isAgg203 Tryz.sizeOf203 NmEntry.cells (fun _ => rfl) (fun x v hv => by simp [NmEntry.cells] at hv; rcases hv with rfl | rfl | rfl <;> rfl) cmpE swo_entry 166 #[] blk 0 cap d W eg (cmpLays_of fun x y W => Alphabet1_spec x y W) hH hb hd
 ·exact AnyF.slices_SortFunc_none sortE A cap _ W
 ·exact fun _ _ h => h
end Go.Proofs.YtdpdjcopkehdjaaGreat
namespace Go.Proofs.YtdpdjcopkehdjaaGreat
open Go.Eng Go.RowKit
def entryOf (K:List Fact) (lang s:Int):NmEntry:=⟨s,!decide (nameL K s lang = ⟨#[]⟩),nameL K s lang⟩
theorem entryOf_ok (K:List Fact) (lang s:Int):(entryOf K lang s).Ok:=rfl
theorem entries_order {K:List Fact} {lang:Int} {l':List NmEntry} (hp:l'.Perm ((statesL K).map (entryOf K lang))) (hs:l'.Pairwise fun a b => ltE b a = false):l'.map NmEntry.state = orderL K lang:=by
 have hmem:∀ e ∈ l',e = entryOf K lang e.state:=fun e he => by
  obtain ⟨s,_,rfl⟩:=List.mem_map.1 (hp.mem_iff.1 he)
  rfl
 refine order_eq ?_ ?_
 ·have:=hp.map NmEntry.state
  rw [List.map_map] at this
  have e:(NmEntry.state ∘ entryOf K lang) = id:=rfl
  rw [e,List.map_id] at this
  exact this
 ·rw [List.pairwise_map]
  refine (List.pairwise_iff_getElem.2 fun i j hi hj hij => ?_)
  have h:=(List.pairwise_iff_getElem.1 hs) i j hi hj hij
  have e1:=hmem _ (List.getElem_mem hi)
  have e2:=hmem _ (List.getElem_mem hj)
  rw [e1,e2,ltE_eq (entryOf_ok _ _ _) (entryOf_ok _ _ _)] at h
  exact h
theorem from_eq (lot:Int) {n:Nat} (hn:0 < n):(lot.tmod n + n).tmod n = ((lot.emod n).toNat:Int) ∧ -(n:Int) < lot.tmod n ∧ lot.tmod n < n:=by
 have hn':(0:Int) < n:=by omega
 have h1:lot.tmod n < n:=Int.tmod_lt_of_pos lot hn'
 have h2:-(n:Int) < lot.tmod n:=by
  have:=Int.lt_tmod_of_pos lot hn'
  exact this
 have h3:=Int.mul_tdiv_add_tmod lot n
 have h4:0 <= lot.emod n:=Int.emod_nonneg lot (by omega)
 refine ⟨?_,h2,h1⟩
 rw [Int.toNat_of_nonneg h4,Int.tmod_eq_emod_of_nonneg (by omega)]
 have h5:lot % (n:Int) = lot.tmod n % n:=by
  conv => lhs; rw [<-h3]
  rw [Int.add_comm,Int.add_mul_emod_self_left]
 show (lot.tmod n + n) % (n:Int) = lot % n
 rw [h5,Int.add_emod_right]
theorem Reads.entry {w:World} {A:Option Addr} {l:List NmEntry} (h:Reads w A (entries l)) {i:Nat} (hi:i < l.length):∃ b o,A = some ⟨b,o,none⟩ ∧ Rd w b (o + i * 3) l[i].cells:=Reads.elem NmEntry.len (by omega) h hi
theorem entries_append (a b:List NmEntry):entries (a ++ b) = entries a ++ entries b:=by simp [entries]
theorem entries_one (x:NmEntry):entries [x] = x.cells:=by simp [entries]
set_option maxRecDepth 100000 in
theorem Alphabet_spec {w:World} {A:Option Addr} {l:List Fact} {c:Nat} (h:HF w A l c) (hl:l.length <= 2 ^ 20) (k day lang lot:Int) :
  CallsV C.P 101 #[.slice A l.length c,.int .i64 k,.int .i64 day,.int .i64 lang,.int .i64 lot] w fun v w' => NewInts w.heap.size w' v (alphaL (atL k day l) lang lot) ∧ Ext w w':=by
 refine callsV_of C_ok (args:=[_,_,_,_,_]) (plans:=[]) Tryz.func101 rfl Tryz.ntmps101 (by kernel_rfl) (Nat.le_of_ble_eq_true rfl) ?_
 refine (look_spec h hl k day).mono ?_
 rintro v w1 ⟨hK,e1⟩
 refine (States_spec (h.ext e1) hl k day).mono ?_
 rintro v2 w2 ⟨hS,e2⟩
 have hkl:=atL_length k day l
 generalize atL k day l = K at *
 have hsl:(statesL K).length <= K.length:=by
  refine Nat.le_trans (sortD_length _) ?_
  unfold whos
  rw [List.length_map]
  exact List.length_filter_le _ _
 obtain ⟨AK,cK,rfl,hrK,_⟩:=hK.slice
 have hrK2:=hrK.ext e2
 have e02:=e1.trans e2
 have hperm:=fun (l':List NmEntry) => entries_order (K:=K) (lang:=lang) (l':=l')
 unfold alphaL
 generalize hSe:statesL K = S at *
 obtain ⟨AS,cS,rfl,hrS,_⟩:=hS.slice
 refine loopE C_ok (fun (t:Nat × Value) => [(3,.int .i64 lang),(4,.int .i64 lot),(11,.slice AK K.length cK),(12,t.2),(28,.slice AS S.length cS),(29,.int .i64 S.length),(30,.int .i64 t.1)])
  (fun t w' => t.1 <= S.length ∧ Ext w2 w' ∧ w'.ownsRow w2.heap.size 203 3 t.2 ((S.take t.1).map (entryOf K lang)).length (entries ((S.take t.1).map (entryOf K lang)))) (fun t => S.length - t.1) (0,.slice none 0 0)
  ⟨rfl,rfl,rfl,rfl,rfl,rfl,rfl,trivial⟩ ⟨Nat.zero_le _,Ext.refl _,World.ownsRow_nil _ _ _ _⟩ ?_
 rintro ⟨i,v⟩ w3 ⟨hi',e3,ho'⟩
 have hi:i <= S.length:=hi'
 have ho:w3.ownsRow w2.heap.size 203 3 v ((S.take i).map (entryOf K lang)).length (entries ((S.take i).map (entryOf K lang))):=ho'
 clear hi' ho'
 refine brE_dec (fun hlt => ?_) (fun hge => ?_)
 ·have hlt:i < S.length:=by have:(i:Int) < (S.length:Nat):=hlt; omega
  have next:IntKind.i64.wrap ((i:Int) + 1) = ((i + 1:Nat):Int):=fit ⟨by omega,by omega⟩
  have hlen:((S.take i).map (entryOf K lang)).length <= S.length:=by rw [List.length_map,List.length_take]; omega
  have step:(S.take (i + 1)).map (entryOf K lang) = (S.take i).map (entryOf K lang) ++ [entryOf K lang S[i]]:=by
   rw [List.take_succ_eq_append_getElem hlt,List.map_append]; rfl
  obtain ⟨b,o,hA,hc⟩:=Reads.int (hrS.ext e3) hlt
  refine ⟨i,b,o,rfl,hlt,hA,?_⟩
  refine ⟨_,by simpa using hc,?_⟩
  refine (named_spec (hrK2.ext e3) (by omega) S[i] lang).mono ?_
  rintro v4 w4 ⟨rfl,e4⟩
  have hent:entryOf K lang S[i] = ⟨S[i],!decide (((lastP (isNm S[i] lang) K).getD factZ).name = ⟨#[]⟩),((lastP (isNm S[i] lang) K).getD factZ).name⟩:=rfl
  generalize (lastP (isNm S[i] lang) K).getD factZ = y at *
  intro g w5 h5
  refine ⟨rfl,_,_,h5.here,Nat.le_of_ble_eq_true rfl,rfl,?_⟩
  intro w6 h6
  have h6:Put w5 g (.cells y.cells.toArray 55 (0,0)) w6:=h6
  have e46:Ext w4 w6:=h6.ext_of h5.ext (by rw [h5.new]; exact Nat.le_refl _)
  have e36:=e4.trans e46
  refine ⟨_,cell_of_block h6.here rfl,?_⟩
  refine ⟨_,neqStr _ _ y.name ⟨#[]⟩,?_⟩
  refine ⟨_,cell_of_block h6.here rfl,?_⟩
  intro g7 w7 h7
  have ho7:w7.ownsRow w2.heap.size 203 3 v _ _:=ownsRow_ext ho (e36.trans h7.ext)
  have e7:=(e3.trans e36).trans h7.ext
  refine ⟨rfl,rfl,rfl,w2.heap.size,_,_,NmEntry.cells ⟨S[i],!decide (y.name = ⟨#[]⟩),y.name⟩,ho7,e7.size,Nat.le_of_ble_eq_true rfl,rfl,rfl,.inr ⟨g7,0,rfl,Rd.of_block h7.here⟩,rfl,rfl,by omega,by simp only [maxLen]; omega,?_⟩
  intro v8 w8 ho8 hg8 _
  refine ⟨_,next,?_⟩
  refine ⟨(i + 1,v8),⟨rfl,rfl,rfl,rfl,rfl,rfl,rfl,trivial⟩,⟨hlt,app_ext e7 ho7 hg8,?_⟩,by show S.length - (i + 1) < S.length - i; omega⟩
  show w8.ownsRow w2.heap.size 203 3 v8 ((S.take (i + 1)).map (entryOf K lang)).length (entries ((S.take (i + 1)).map (entryOf K lang)))
  rw [step,entries_append,entries_one,List.length_append,hent]
  exact ho8
 have:i = S.length:=by have:¬ (i:Int) < (S.length:Nat):=hge; omega
 subst this
 rw [List.take_length] at ho
 have hml:(S.map (entryOf K lang)).length = S.length:=List.length_map ..
 refine (SortE_spec ho (by omega)).mono ?_
 rintro r w4 ⟨rfl,l',hp,hs,ho4,hg4,_⟩
 have hord:=hperm l' hp hs
 have hll:l'.length = S.length:=by rw [hp.length_eq,hml]
 have hol:(orderL K lang).length = l'.length:=by rw [<-hord,List.length_map]
 have e24:Ext w2 w4:=app_ext e3 ho hg4
 have e04:=e02.trans e24
 rw [<-hord]
 clear hord hperm hp hs hol
 simp only [List.length_map]
 obtain ⟨A4,c4,rfl,hr4,_⟩:=reads_of_owns ho4
 refine brE_dec (fun h0 => ?_) (fun h0 => ?_)
 ·have h0:(l'.length:Int) = 0:=h0
  have:l' = []:=List.length_eq_zero_iff.1 (by omega)
  subst this
  exact ⟨newInts_nil _ _,e04⟩
 have h0:¬ (l'.length:Int) = 0:=h0
 have hn:0 < l'.length:=by omega
 obtain ⟨f1,f2,f3⟩:=from_eq lot hn
 refine ⟨h0,_,rfl,?_⟩
 refine ⟨_,fit ⟨by omega,by omega⟩,?_⟩
 refine ⟨h0,_,f1,?_⟩
 have hfr:(lot.emod l'.length).toNat < l'.length:=by
  have:=Int.emod_lt_of_pos lot (show (0:Int) < l'.length by omega)
  have h':lot.emod l'.length < l'.length:=this
  have h'':0 <= lot.emod l'.length:=Int.emod_nonneg lot (by omega)
  omega
 generalize (lot.emod l'.length).toNat = fr at *
 refine loopE C_ok (fun (t:Nat × Value) => [(12,.slice A4 l'.length c4),(17,.int .i64 l'.length),(18,.int .i64 fr),(19,t.2),(65,.int .i64 l'.length),(66,.int .i64 t.1)])
  (fun t w' => t.1 <= l'.length ∧ Ext w4 w' ∧ NewInts w4.heap.size w' t.2 ((List.range t.1).map fun i => (l'.map NmEntry.state).getD ((fr + i) % l'.length) 0)) (fun t => l'.length - t.1) (0,.slice none 0 0)
  ⟨rfl,rfl,rfl,rfl,rfl,rfl,trivial⟩ ⟨Nat.zero_le _,Ext.refl _,newInts_nil _ _⟩ ?_
 rintro ⟨i,v⟩ w5 ⟨hi',e5,ho'⟩
 have hi:i <= l'.length:=hi'
 have ho5:NewInts w4.heap.size w5 v ((List.range i).map fun i => (l'.map NmEntry.state).getD ((fr + i) % l'.length) 0):=ho'
 clear hi' ho'
 refine brE_dec (fun hlt => ?_) (fun hge => ?_)
 ·have hlt:i < l'.length:=by have:(i:Int) < (l'.length:Nat):=hlt; omega
  have next:IntKind.i64.wrap ((i:Int) + 1) = ((i + 1:Nat):Int):=fit ⟨by omega,by omega⟩
  have hj:(fr + i) % l'.length < l'.length:=Nat.mod_lt _ hn
  have hlen:((List.range i).map fun i => (l'.map NmEntry.state).getD ((fr + i) % l'.length) 0).length <= l'.length:=by rw [List.length_map,List.length_range]; omega
  have hget:(l'.map NmEntry.state).getD ((fr + i) % l'.length) 0 = l'[(fr + i) % l'.length].state:=by
   rw [List.getD_eq_getElem?_getD,List.getElem?_map,List.getElem?_eq_getElem hj]; rfl
  refine ⟨((fr + i:Nat):Int),by rw [fit ⟨by omega,by omega⟩]; omega,?_⟩
  refine ⟨h0,(((fr + i) % l'.length:Nat):Int),by rw [Int.tmod_eq_emod_of_nonneg (by omega)]; omega,?_⟩
  obtain ⟨b,o,hA,hc⟩:=Reads.entry (hr4.ext e5) hj
  refine ⟨(fr + i) % l'.length,b,o,rfl,hj,hA,?_⟩
  refine ⟨_,hc 0 _ rfl,?_⟩
  intro g7 w7 h7
  have ho7:w7.ownsRow w4.heap.size 3 1 v _ _:=ownsRow_ext ho5 h7.ext
  have e7:=e5.trans h7.ext
  refine ⟨rfl,rfl,rfl,w4.heap.size,_,_,[.int .i64 l'[(fr + i) % l'.length].state],ho7,e7.size,Nat.le_of_ble_eq_true rfl,rfl,rfl,.inr ⟨g7,0,rfl,Rd.of_block h7.here⟩,rfl,rfl,by omega,by simp only [maxLen]; omega,?_⟩
  intro v8 w8 ho8 hg8 _
  refine ⟨_,next,?_⟩
  refine ⟨(i + 1,v8),⟨rfl,rfl,rfl,rfl,rfl,rfl,trivial⟩,⟨hlt,app_ext e7 ho7 hg8,?_⟩,by show l'.length - (i + 1) < l'.length - i; omega⟩
  show NewInts w4.heap.size w8 v8 ((List.range (i + 1)).map fun i => (l'.map NmEntry.state).getD ((fr + i) % l'.length) 0)
  rw [List.range_succ,List.map_append]
  unfold NewInts
  rw [ints_append,List.length_append,List.map_cons,List.map_nil,hget]
  exact ho8
 ·have:i = l'.length:=by have:¬ (i:Int) < (l'.length:Nat):=hge; omega
  subst this
  exact ⟨NewInts.base ho5 e04.size,e04.trans e5⟩
theorem IndexI_spec {w:World} {A:Option Addr} {xs:List Int} {c:Nat} (hr:Reads w A (ints xs)) (hl:xs.length <= 2 ^ 40) (n:Int) :
  CallsV C.P 163 #[.slice A xs.length c,.int .i64 n] w fun v w' => (v = .int .i64 (match xs.findIdx? (fun x => decide (x = n)) with | some i => (i:Int) | none => -1)) ∧ w' = w:=by
 refine callsV_of C_ok (args:=[_,_]) (plans:=[]) Tryz.func163 rfl Tryz.ntmps163 (by kernel_rfl) (Nat.le_of_ble_eq_true rfl) ?_
 refine loopE C_ok (fun (i:Nat) => [(0,.slice A xs.length c),(1,.int .i64 n),(7,.int .i64 xs.length),(8,.int .i64 i)])
  (fun i w' => w' = w ∧ i <= xs.length ∧ ∀ j (h:j < xs.length),j < i -> xs[j] ≠ n) (fun i => xs.length - i) 0 ⟨rfl,rfl,rfl,rfl,trivial⟩ ⟨rfl,Nat.zero_le _,fun _ _ h => absurd h (Nat.not_lt_zero _)⟩ ?_
 rintro i w1 ⟨rfl,hi,hall⟩
 refine brE_dec (fun hlt => ?_) (fun hge => ?_)
 ·have hlt:i < xs.length:=by have:(i:Int) < (xs.length:Nat):=hlt; omega
  obtain ⟨b,o,hA,hc⟩:=Reads.int hr hlt
  refine ⟨i,b,o,rfl,hlt,hA,?_⟩
  refine ⟨_,by simpa using hc,?_⟩
  refine brE_dec (fun h2 => ?_) (fun h2 => ?_)
  ·have h2:n = xs[i]:=h2
   have:xs.findIdx? (fun x => decide (x = n)) = some i:=by
    rw [List.findIdx?_eq_some_iff_getElem]
    exact ⟨hlt,decide_eq_true h2.symm,fun j hj => by simpa using hall j (by omega) hj⟩
   exact ⟨by rw [this],rfl⟩
  ·have h2:¬ n = xs[i]:=h2
   refine ⟨((i + 1:Nat):Int),fit ⟨by omega,by omega⟩,?_⟩
   refine ⟨i + 1,⟨rfl,rfl,rfl,rfl,trivial⟩,⟨rfl,hlt,fun j hj hji => ?_⟩,by omega⟩
   rcases Nat.lt_or_ge j i with h | h
   ·exact hall j hj h
   ·obtain rfl:j = i:=by omega
    exact fun e => h2 e.symm
 ·have:i = xs.length:=by have:¬ (i:Int) < (xs.length:Nat):=hge; omega
  subst this
  have:xs.findIdx? (fun x => decide (x = n)) = none:=by
   rw [List.findIdx?_eq_none_iff]
   intro x hx
   obtain ⟨j,hj,rfl⟩:=List.getElem_of_mem hx
   exact decide_eq_false (hall j hj hj)
  exact ⟨by rw [this],rfl⟩
theorem ContainsI_spec {w:World} {A:Option Addr} {xs:List Int} {c:Nat} (hr:Reads w A (ints xs)) (hl:xs.length <= 2 ^ 40) (n:Int) :
  CallsV C.P 157 #[.slice A xs.length c,.int .i64 n] w fun v w' => v = .bool (decide (n ∈ xs)) ∧ w' = w:=by
 refine callsV_of C_ok (args:=[_,_]) (plans:=[]) Tryz.func157 rfl Tryz.ntmps157 (by kernel_rfl) (Nat.le_of_ble_eq_true rfl) ?_
 refine (IndexI_spec hr hl n).mono ?_
 rintro v w1 ⟨rfl,rfl⟩
 refine ⟨congrArg Value.bool ?_,rfl⟩
 cases hf:xs.findIdx? (fun x => decide (x = n)) with
 | some i =>
  obtain ⟨hi,he,_⟩:=List.findIdx?_eq_some_iff_getElem.1 hf
  have he:=of_decide_eq_true he
  show decide ((i:Int) >= 0) = _
  rw [decide_eq_true (by omega),decide_eq_true (he ▸ List.getElem_mem hi)]
 | none =>
  rw [List.findIdx?_eq_none_iff] at hf
  show decide ((-1:Int) >= 0) = _
  rw [decide_eq_false (by omega),decide_eq_false fun h => by have:=hf n h; simp at this]
theorem Letter_spec {w:World} {A:Option Addr} {l:List Fact} {c:Nat} (h:HF w A l c) (hl:l.length <= 2 ^ 20) (k day lang lot s:Int) :
  CallsV C.P 100 #[.slice A l.length c,.int .i64 k,.int .i64 day,.int .i64 lang,.int .i64 lot,.int .i64 s] w fun v w' => v = .tuple #[.int .i64 (letterL (atL k day l) lang lot s).1,.bool (letterL (atL k day l) lang lot s).2] ∧ Ext w w':=by
 refine callsV_of C_ok (args:=[_,_,_,_,_,_]) (plans:=[]) Tryz.func100 rfl Tryz.ntmps100 (by kernel_rfl) (Nat.le_of_ble_eq_true rfl) ?_
 refine (Alphabet_spec h hl k day lang lot).mono ?_
 rintro v w1 ⟨ho,e1⟩
 have hlen:(alphaL (atL k day l) lang lot).length <= l.length:=by
  unfold alphaL
  simp only [List.length_map,List.length_range]
  rw [(orderL_perm _ _).length_eq]
  refine Nat.le_trans (sortD_length _) ?_
  unfold whos
  rw [List.length_map]
  exact Nat.le_trans (List.length_filter_le _ _) (atL_length k day l)
 unfold letterL
 generalize alphaL (atL k day l) lang lot = a at *
 obtain ⟨Aa,ca,rfl,hra,_⟩:=ho.slice
 refine (IndexI_spec hra (by omega) s).mono ?_
 rintro v w2 ⟨hv,rfl⟩
 cases hf:a.findIdx? (fun x => decide (x = s)) with
 | some i =>
  rw [hf] at hv
  have hz:∃ z:Int,z = (i:Int):=⟨_,rfl⟩
  obtain ⟨z,hz⟩:=hz
  have hv:v = .int .i64 z:=by rw [hz]; exact hv
  subst hv
  refine brE_dec (fun hge => ?_) (fun hlt => ?_)
  ·rw [hz]; exact ⟨rfl,e1⟩
  ·exact absurd (show z >= 0 by omega) hlt
 | none =>
  rw [hf] at hv
  have hz:∃ z:Int,z = -1:=⟨_,rfl⟩
  obtain ⟨z,hz⟩:=hz
  have hv:v = .int .i64 z:=by rw [hz]; exact hv
  subst hv
  refine brE_dec (fun hge => ?_) (fun hlt => ?_)
  ·exact absurd (show z >= 0 from hge) (by omega)
  ·exact ⟨rfl,e1⟩
end Go.Proofs.YtdpdjcopkehdjaaGreat
namespace Go.Proofs.YtdpdjcopkehdjaaGreat
open Go.Eng Go.RowKit
theorem IndexFuncI_spec {w:World} {A:Option Addr} {l:List Int} {c gd:Nat} {cb:Array Value} {p:Int -> Bool} (hr:Reads w A (ints l)) (hl:l.length <= 2 ^ 40) (hgd:C.can gd = true)
  (hdel:∀ (x:Int) (w':World),Ext w w' -> CallsV C.P gd (#[] ++ [.int .i64 x].toArray ++ cb) w' fun v w'' => v = .bool (p x) ∧ Ext w' w'') :
  CallsV C.P 186 #[.slice A l.length c,.func (.func gd) #[] cb] w fun v w' => ((v = .int .i64 (-1) ∧ ∀ x ∈ l,p x = false) ∨ ∃ i:Nat,v = .int .i64 (i:Nat) ∧ ∃ h:i < l.length,p l[i] = true ∧ ∀ j (hj:j < l.length),j < i -> p l[j] = false) ∧ Ext w w':=by
 refine callsV_of C_ok (args:=[_,_]) (plans:=[]) Tryz.func186 rfl Tryz.ntmps186 (by kernel_rfl) (Nat.le_of_ble_eq_true rfl) ?_
 refine loopE C_ok (fun (i:Nat) => [(0,.slice A l.length c),(1,.func (.func gd) #[] cb),(7,.int .i64 l.length),(8,.int .i64 i)])
  (fun i w' => Ext w w' ∧ i <= l.length ∧ ∀ j (hj:j < l.length),j < i -> p l[j] = false) (fun i => l.length - i) 0 ⟨rfl,rfl,rfl,rfl,trivial⟩
  ⟨Ext.refl _,Nat.zero_le _,fun j _ hj => absurd hj (Nat.not_lt_zero _)⟩ ?_
 rintro i w1 ⟨e1,hi,hall⟩
 refine brE_dec (fun hlt => ?_) (fun hge => ?_)
 ·have hlt:i < l.length:=by have:(i:Int) < (l.length:Nat):=hlt; omega
  obtain ⟨b,o,hA,hc⟩:=Reads.int (hr.ext e1) hlt
  refine ⟨i,b,o,rfl,hlt,hA,?_⟩
  refine ⟨_,by simpa using hc,?_⟩
  refine brE_true hgd ?_
  refine (hdel l[i] w1 e1).mono ?_
  rintro v w2 ⟨rfl,e2⟩
  refine brE_mk (fun h2 => ?_) (fun h2 => ?_)
  ·exact ⟨.inr ⟨i,rfl,hlt,h2,hall⟩,e1.trans e2⟩
  ·refine ⟨((i + 1:Nat):Int),fit ⟨by omega,by omega⟩,?_⟩
   refine ⟨i + 1,⟨rfl,rfl,rfl,rfl,trivial⟩,⟨e1.trans e2,hlt,fun j hj hji => ?_⟩,by omega⟩
   rcases Nat.lt_or_ge j i with h | h
   ·exact hall j hj h
   ·obtain rfl:j = i:=by omega
    exact h2
 ·have:i = l.length:=by have:¬ (i:Int) < (l.length:Nat):=hge; omega
  subst this
  refine ⟨.inl ⟨rfl,fun x hx => ?_⟩,e1⟩
  obtain ⟨j,hj,rfl⟩:=List.getElem_of_mem hx
  exact hall j hj hj
set_option maxRecDepth 100000 in
theorem DeleteFuncI_spec {B:Nat} {w:World} {v:Value} {l:List Int} {gd:Nat} {cb:Array Value} {p:Int -> Bool} (ho:NewInts B w v l) (hB:B <= w.heap.size) (hl:l.length <= 2 ^ 40) (hgd:C.can gd = true)
  (hdel:∀ (x:Int) (w':World),Below B w w' -> CallsV C.P gd (#[] ++ [.int .i64 x].toArray ++ cb) w' fun v w'' => v = .bool (p x) ∧ Ext w' w'') :
  CallsV C.P 225 #[v,.func (.func gd) #[] cb] w fun v' w' => NewInts B w' v' (l.filter fun x => !p x) ∧ Below B w w':=by
 obtain ⟨A,cap,rfl,hR,hlc⟩:=ho.slice
 refine callsV_of C_ok (args:=[_,_]) (plans:=[]) Tryz.func225 rfl Tryz.ntmps225 (by kernel_rfl) (Nat.le_of_ble_eq_true rfl) ?_
 refine (IndexFuncI_spec hR hl hgd fun x w' e => hdel x w' (e.mono hB)).mono ?_
 rintro v w1 ⟨hi | ⟨i0,rfl,hi0,hsm,hfirst⟩,e1⟩
 ·obtain ⟨rfl,hall⟩:=hi
  have e:(l.filter fun x => !p x) = l:=List.filter_eq_self.2 fun x hx => by rw [hall x hx]; rfl
  rw [e]
  exact ⟨ho.ext e1,e1.mono hB⟩
 refine ⟨((i0 + 1:Nat):Int),fit ⟨by omega,by omega⟩,?_⟩
 have hA:∃ g,A = some ⟨g,0,none⟩:=by
  obtain ⟨_,⟨hv,h0⟩ | ⟨g,cap',cur,hv,_⟩⟩:=ho
  ·omega
  ·simp at hv; exact ⟨g,hv.1⟩
 obtain ⟨g,rfl⟩:=hA
 have kp0:=keep_first hi0 hsm hfirst
 have ho1:w1.ownsRow B 3 1 (.slice (some ⟨g,0,none⟩) l.length cap) l.length (ints l):=ho.ext e1
 refine loopE C_ok (fun (s:Nat × Nat × List Int) => [(0,.slice (some ⟨g,0,none⟩) l.length cap),(1,.func (.func gd) #[] cb),(5,.int .i64 s.2.1),(6,.int .i64 s.1)])
  (fun s w' => s.2.1 = ((l.take s.1).filter fun x => !p x).length ∧ s.2.1 < s.1 ∧ s.1 <= l.length ∧ s.2.2.length = l.length ∧ w'.ownsRow B 3 1 (.slice (some ⟨g,0,none⟩) l.length cap) l.length (ints s.2.2) ∧ s.2.2.take s.2.1 = ((l.take s.1).filter fun x => !p x) ∧ (∀ k,s.1 <= k -> s.2.2[k]? = l[k]?) ∧ Below B w w')
  (fun s => l.length - s.1) (i0 + 1,i0,l) ⟨rfl,rfl,rfl,rfl,trivial⟩
  ⟨by show i0 = _; rw [kp0,List.length_take]; omega,Nat.lt_succ_self _,hi0,rfl,ho1,kp0.symm,fun _ _ => rfl,e1.mono hB⟩ ?_
 rintro ⟨j,i,R⟩ w2 ⟨hi',hij',hj',hRl',ho2',htake',hrest',b2⟩
 have hi:i = ((l.take j).filter fun x => !p x).length:=hi'
 have hij:i < j:=hij'
 have hj:j <= l.length:=hj'
 have hRl:R.length = l.length:=hRl'
 have ho2:w2.ownsRow B 3 1 (.slice (some ⟨g,0,none⟩) l.length cap) l.length (ints R):=ho2'
 have htake:R.take i = ((l.take j).filter fun x => !p x):=htake'
 have hrest:∀ k,j <= k -> R[k]? = l[k]?:=hrest'
 clear hRl' hi' hij' hj' ho2' hrest' htake'
 refine brE_dec (fun hlt => ?_) (fun hge => ?_)
 ·have hlt:j < l.length:=by have:(j:Int) < (l.length:Nat):=hlt; omega
  have next:IntKind.i64.wrap ((j:Int) + 1) = ((j + 1:Nat):Int):=fit ⟨by omega,by omega⟩
  have hRj:R[j]'(by omega) = l[j]:=by
   have:=hrest j (Nat.le_refl _)
   rw [List.getElem?_eq_getElem hlt,List.getElem?_eq_getElem (by omega)] at this
   exact Option.some.inj this
  have hreads:Reads w2 (some ⟨g,0,none⟩) (ints R):=by
   obtain ⟨A',c',e,h,_⟩:=reads_of_owns ho2
   cases e; exact h
  obtain ⟨b1,o1,hA1,hc1⟩:=Reads.int hreads (i:=j) (by omega)
  cases hA1
  rw [hRj] at hc1
  refine ⟨j,g,0,rfl,hlt,rfl,?_⟩
  refine ⟨_,by simpa using hc1,?_⟩
  refine brE_true hgd ?_
  refine (hdel l[j] w2 b2).mono ?_
  rintro v w5 ⟨rfl,e25⟩
  have hBw2:B <= w2.heap.size:=Nat.le_trans hB b2.size
  have b5:Below B w w5:=b2.trans (e25.mono hBw2)
  have ho5:=ownsRow_ext ho2 e25
  have hk:=keep_at (p:=p) hlt
  refine brE_mk (fun h2 => ?_) (fun h2 => ?_)
  ·have h2:p l[j] = false:=by simpa using h2
   rw [h2,if_neg (by decide)] at hk
   obtain ⟨cur,hg,hgB,hcl,hccap,hncap,hdl,hct,hput⟩:=ownsRow_open ho5
   refine ⟨i,g,0,rfl,(by omega:i < l.length),rfl,?_⟩
   refine ⟨rfl,_,_,hg,by show 0 + i * 1 + 1 <= cur.length; omega,rfl,?_⟩
   intro w6 h6
   have h6:Put w5 g (.cells (splice cur (0 + i * 1) (enc1 l[j])).toArray 3 (0,0)) w6:=h6
   have ho6:=hput (0 + i * 1) (enc1 l[j]) w6 (by show 0 + i * 1 + 1 <= _; omega) h6
   have hset:splice (ints R) (i * 1) (enc1 l[j]) = ints (R.set i l[j]):=by
    rw [<-ints_flat,<-ints_flat]
    exact flat_set (enc:=enc1) (k:=1) (fun _ => rfl) (by omega) _
   rw [show 0 + i * 1 = i * 1 by omega,hset] at ho6
   have nexti:IntKind.i64.wrap ((i:Int) + 1) = ((i + 1:Nat):Int):=fit ⟨by omega,by omega⟩
   refine ⟨_,nexti,?_⟩
   refine ⟨_,next,?_⟩
   refine ⟨(j + 1,i + 1,R.set i l[j]),⟨rfl,rfl,rfl,rfl,trivial⟩,⟨?_,by show i + 1 < j + 1; omega,hlt,by show (R.set i l[j]).length = _; rw [List.length_set,hRl],ho6,?_,?_,below_put b5 h6 hgB⟩,by show l.length - (j + 1) < l.length - j; omega⟩
   ·show i + 1 = ((l.take (j + 1)).filter fun x => !p x).length
    rw [hk,List.length_append,<-hi]; rfl
   ·show (R.set i l[j]).take (i + 1) = ((l.take (j + 1)).filter fun x => !p x)
    have hil:i < (R.set i l[j]).length:=by rw [List.length_set]; omega
    rw [hk,List.take_succ_eq_append_getElem hil,List.take_set_of_le (Nat.le_refl _),htake]
    congr 1
    simp
   ·intro k hk1
    show (R.set i l[j])[k]? = l[k]?
    have hk1:j + 1 <= k:=hk1
    rw [List.getElem?_set_ne (by omega)]
    exact hrest k (by omega)
  ·have h2:p l[j] = true:=by simpa using h2
   rw [h2,if_pos rfl,List.append_nil] at hk
   refine ⟨_,next,?_⟩
   exact ⟨(j + 1,i,R),⟨rfl,rfl,rfl,rfl,trivial⟩,⟨by show i = ((l.take (j + 1)).filter fun x => !p x).length; rw [hk]; exact hi,by show i < j + 1; omega,hlt,hRl,ho5,by show R.take i = ((l.take (j + 1)).filter fun x => !p x); rw [hk]; exact htake,fun k hk1 => hrest k (by have:j + 1 <= k:=hk1; omega),b5⟩,by show l.length - (j + 1) < l.length - j; omega⟩
 ·have:j = l.length:=by have:¬ (j:Int) < (l.length:Nat):=hge; omega
  subst this
  rw [List.take_length] at hi htake
  obtain ⟨cur,hg,hgB,hcl,hccap,hncap,hdl,hct,hput⟩:=ownsRow_open ho2
  refine ⟨i,l.length,rfl,rfl,by omega,by omega,?_⟩
  have hA:(if cap = i then (some (⟨g,0,none⟩:Addr)) else (some (⟨g,0,none⟩:Addr)).map (·.add (i * 1))) = some ⟨g,0 + i * 1,none⟩:=by
   rw [if_neg (by omega)]
   simp [add_spot]
  refine clearRow (esz:=1) C_ok rfl rfl rfl rfl rfl rfl rfl (by decide) hA (by omega) hg (by omega) ?_
  intro zs w3 hzs h3
  have ho3:=hput (0 + i * 1) zs w3 (by rw [hzs]; omega) h3
  refine ⟨0,i,rfl,rfl,Nat.zero_le _,by omega,?_⟩
  have e:(if cap = 0 then (some ⟨g,0,none⟩:Option Addr) else (some (⟨g,0,none⟩:Addr)).map (·.add (0 * 1))) = some ⟨g,0,none⟩:=by
   split <;> rfl
  have hcut:=ownsRow_cut ho3 (k:=i) (by omega)
  have hft:(ints R).take (i * 1) = ints (R.take i):=by rw [Nat.mul_one,ints,ints,List.map_take]
  rw [show 0 + i * 1 = i * 1 by omega,splice_take_at (by rw [ints_length]; omega),hft,htake] at hcut
  refine ⟨?_,below_put b2 h3 hgB⟩
  show w3.ownsRow B 3 1 (.slice (if cap = 0 then (some ⟨g,0,none⟩:Option Addr) else (some (⟨g,0,none⟩:Addr)).map (·.add (0 * 1))) i cap) (l.filter fun x => !p x).length _
  rw [e,<-hi]
  exact hcut
theorem recognised1_spec {w:World} {A:Option Addr} {l:List Fact} {c g3 g4 g5:Nat} {host s:Int} (hr:Reads w A (fcells l)) (hl:l.length <= 2 ^ 20) (h3:w.heap[g3]? = some (.cells #[.slice A l.length c] 99 (0,0))) (h4:BoxI w g4 host) (h5:BoxI w g5 s) (x:Int) :
  CallsV C.P 226 (#[] ++ [.int .i64 x].toArray ++ #[.pointer (some ⟨g3,0,none⟩),.pointer (some ⟨g4,0,none⟩),.pointer (some ⟨g5,0,none⟩)]) w fun v w' => v = .bool (!l.any (recogB host s x)) ∧ Ext w w':=by
 refine callsV_of C_ok (args:=[_,_,_,_]) (plans:=[]) Tryz.func226 rfl Tryz.ntmps226 (by kernel_rfl) (Nat.le_of_ble_eq_true rfl) ?_
 intro g w1 h1
 refine ⟨_,cell_of_block (h1.ext.heap h3) rfl,?_⟩
 refine ⟨[],[.pointer (some ⟨g4,0,none⟩),.pointer (some ⟨g5,0,none⟩),.pointer (some ⟨g,0,none⟩)],rfl,rfl,?_⟩
 refine (some_spec (p:=recogB host s x) (hr.ext h1.ext) hl rfl fun y w' e => recognised11_spec y w' ((h4.ext h1.ext).ext e) ((h5.ext h1.ext).ext e) (e.heap h1.here)).mono ?_
 rintro v w2 ⟨rfl,e2⟩
 exact ⟨rfl,h1.ext.trans e2⟩
theorem livingL_length (c:List Fact) (k s cl:Int):(livingL c k s cl).length <= c.length:=Nat.le_trans (sortD_length _) (fm_length _ _ _)
set_option maxRecDepth 100000 in
theorem vrecognised_spec {w:World} {A:Option Addr} {l:List Fact} {c:Nat} (hr:Reads w A (fcells l)) (hl:l.length <= 2 ^ 20) (host s:Int) :
  CallsV C.P 159 #[.slice A l.length c,.int .i64 host,.int .i64 s] w fun v w' => v = .tuple #[.int .i64 (recogL l host s).1,.bool (recogL l host s).2] ∧ Ext w w':=by
 refine callsV_of C_ok (args:=[_,_,_]) (plans:=[]) Tryz.func159 rfl Tryz.ntmps159 (by kernel_rfl) (Nat.le_of_ble_eq_true rfl) ?_
 intro g3 w1 h1
 have M1:=(Mem.start w).alloc h1
 intro g4 w2 h2
 have M2:=M1.alloc h2
 intro g5 w3 h3
 have M3:=M2.alloc h3
 refine ⟨_,M3.cell 2 rfl rfl,?_⟩
 refine ⟨_,M3.cell 0 rfl rfl,?_⟩
 have hr3:=hr.ext M3.ext
 have c3:w3.heap[g3]? = some (.cells #[.slice A l.length c] 99 (0,0)):=M3.get 2 rfl
 have c4:BoxI w3 g4 host:=M3.get 1 rfl
 have c5:BoxI w3 g5 s:=M3.get 0 rfl
 refine (living_spec hr3 hl 2 s 1).mono ?_
 rintro v4 w4 ⟨ho4,e4⟩
 have hll:=livingL_length l 2 s 1
 have ex:=M3.ext
 obtain ⟨A4,k4,rfl,hr4,_⟩:=ho4.slice
 refine brE_dec (fun a1 => ?_) (fun a1 => ?_)
 case' refine_1 =>
  have a1:((livingL l 2 s 1).length:Int) > 1:=a1
  refine ⟨[],[.pointer (some ⟨g3,0,none⟩),.pointer (some ⟨g4,0,none⟩),.pointer (some ⟨g5,0,none⟩)],rfl,rfl,?_⟩
  have ee:∀ {w':World},Below w3.heap.size w4 w' -> Ext w3 w':=fun b => Below.trans e4 b
  refine (DeleteFuncI_spec (p:=fun x => !l.any (recogB host s x)) ho4 e4.size (by omega) rfl fun x w' b => recognised1_spec (hr3.ext (ee b)) hl ((ee b).heap c3) (c4.ext (ee b)) (c5.ext (ee b)) x).mono ?_
  rintro v5 w5 ⟨ho5,b5⟩
  have hch:(livingL l 2 s 1).filter (fun x => !!l.any (recogB host s x)) = chosenL l host s:=by
   unfold chosenL
   rw [if_pos (by omega)]
   congr 1
   funext x
   rw [Bool.not_not]
  rw [hch] at ho5
  have e5:Ext w3 w5:=Below.trans e4 b5
 case' refine_2 =>
  have a1:¬ ((livingL l 2 s 1).length:Int) > 1:=a1
  have hch:livingL l 2 s 1 = chosenL l host s:=by
   unfold chosenL
   rw [if_neg (by omega)]
  have ho5:=ho4
  rw [hch] at ho5 ⊢
  have e5:=e4
 all_goals
  unfold recogL
  generalize chosenL l host s = ch at *
  obtain ⟨A5,k5,hv5,hr5,_⟩:=ho5.slice
  first
  | subst hv5
  | (injection hv5 with hA5 _ hk5; subst hA5; subst hk5)
  refine brE_ndec (fun a2 => ?_) (fun a2 => ?_)
  ·have a2:¬ (ch.length:Int) = 1:=a2
   match ch,a2 with
   | [],_ => exact ⟨rfl,ex.trans e5⟩
   | [p],h => exact absurd rfl h
   | p :: q :: r,_ => exact ⟨rfl,ex.trans e5⟩
  ·have a2:(ch.length:Int) = 1:=a2
   obtain ⟨p,rfl⟩:∃ p,ch = [p]:=List.length_eq_one_iff.1 (by omega)
   obtain ⟨b,o,hA,hc⟩:=Reads.int hr5 (i:=0) (by simp)
   refine ⟨0,b,o,rfl,Nat.zero_lt_one,hA,?_⟩
   refine ⟨_,by simpa using hc,?_⟩
   exact ⟨rfl,ex.trans e5⟩
end Go.Proofs.YtdpdjcopkehdjaaGreat
namespace Go.Proofs.YtdpdjcopkehdjaaGreat
open Go.Eng Go.RowKit
theorem recog_mem {c:List Fact} {host s p:Int} (h:recogL c host s = (p,true)):p ∈ livingL c 2 s 1:=by
 have hsub:∀ q ∈ chosenL c host s,q ∈ livingL c 2 s 1:=by
  intro q hq
  unfold chosenL at hq
  split at hq
  ·exact (List.mem_filter.1 hq).1
  ·exact hq
 unfold recogL at h
 split at h
 ·rename_i q hq
  injection h with h _
  subst h
  exact hsub q (by rw [hq]; simp)
 ·injection h with _ h; cases h
theorem heldB_one {c:List Fact} {host p s:Int} (h:p ∉ livingL c 2 s 1):heldB c host p s 1 = false:=by
 unfold heldB
 rw [if_pos rfl,decide_eq_false fun e => h (recog_mem e)]
abbrev classes:List Int:=[1,2,3,4]
theorem classes_drop {n:Nat} (h:n < 4):classes.drop n = ((n + 1:Nat):Int) :: classes.drop (n + 1):=by
 have:n = 0 ∨ n = 1 ∨ n = 2 ∨ n = 3:=by omega
 rcases this with rfl | rfl | rfl | rfl <;> rfl
set_option maxRecDepth 100000 in
theorem Class_spec {w : World} {A : Option Addr} {l : List Fact} {c : Nat} (h : HF w A l c) (hl : l.length ≤ 2 ^ 20) (k day host p s : Int) :
    CallsV C.P 96 #[.slice A l.length c, .int .i64 k, .int .i64 day, .int .i64 host, .int .i64 p, .int .i64 s] w fun v w' => v = .tuple #[.int .i64 (classL (atL k day l) host p s).1, .bool (classL (atL k day l) host p s).2] ∧ Ext w w' := by
  refine callsV_of C_ok (args := [_, _, _, _, _, _]) (plans := []) Tryz.func96 rfl Tryz.ntmps96 (by kernel_rfl) (Nat.le_of_ble_eq_true rfl) ?_
  refine (look_spec h hl k day).mono ?_
  rintro v w1 ⟨hK, e1⟩
  have hkl := atL_length k day l
  generalize atL k day l = K at *
  obtain ⟨AK, cK, rfl, hrK, _⟩ := hK.slice
  have hKl : K.length ≤ 2 ^ 20 := by omega
  unfold classL
  refine loopE C_ok (fun (t : Nat × Int × Bool) => [(3, .int .i64 host), (4, .int .i64 p), (5, .int .i64 s), (14, .slice AK K.length cK), (15, .int .i64 t.2.1), (16, .bool t.2.2), (17, .int .i64 t.1)])
    (fun t w' => t.1 ≤ 4 ∧ Ext w1 w' ∧ (t.2.1, t.2.2) = classAt K host p s (classes.drop t.1)) (fun t => t.1) (4, 5, false)
    ⟨rfl, rfl, rfl, rfl, rfl, rfl, rfl, trivial⟩ ⟨Nat.le_refl _, Ext.refl _, rfl⟩ ?_
  rintro ⟨n, a, b⟩ w2 ⟨hn', e2, hc'⟩
  have hn : n ≤ 4 := hn'
  have hc : (a, b) = classAt K host p s (classes.drop n) := hc'
  clear hn' hc'
  refine brE_dec (fun hge => ?_) (fun hlt => ?_)
  case' refine_2 =>
    have : n = 0 := by have : ¬ (n : Int) ≥ 1 := hlt; omega
    subst this
    have hc : (a, b) = classAt K host p s classes := hc
    exact ⟨by rw [← hc], e1.trans e2⟩
  have hge : (n : Int) ≥ 1 := hge
  obtain ⟨m, rfl⟩ : ∃ m, n = m + 1 := ⟨n - 1, by omega⟩
  have next : IntKind.i64.wrap (((m + 1 : Nat) : Int) - 1) = (m : Int) := by rw [fit ⟨by omega, by omega⟩]; omega
  have hd : classAt K host p s (classes.drop m) = if (heldB K host p s ((m + 1 : Nat) : Int) || actsB K p s ((m + 1 : Nat) : Int)) = true then (((m + 1 : Nat) : Int), !heldB K host p s ((m + 1 : Nat) : Int)) else (a, b) := by
    rw [classes_drop (by omega), classAt, hc]
  have hr2 := hrK.ext e2
  refine (living_spec hr2 hKl 2 s ((m + 1 : Nat) : Int)).mono ?_
  rintro v w3 ⟨ho3, e3⟩
  have hl3 := livingL_length K 2 s ((m + 1 : Nat) : Int)
  obtain ⟨A3, k3, rfl, hr3, _⟩ := ho3.slice
  refine (ContainsI_spec hr3 (by omega) p).mono ?_
  rintro v w4 ⟨rfl, rfl⟩
  have e23 := e2.trans e3
  refine brE_dec (fun a1 => ?_) (fun a1 => ?_)
  case' refine_1 =>
    have a1 : ((m + 1 : Nat) : Int) = 1 := a1
    refine brE_mk (fun a2 => ?Y) (fun a2 => ?N1)
    case' Y =>
      refine (vrecognised_spec (hrK.ext e23) hKl host s).mono ?_
      rintro v w5 ⟨rfl, e5⟩
      have e25 := e23.trans e5
      have hh : heldB K host p s ((m + 1 : Nat) : Int) = decide (recogL K host s = (p, true)) := by unfold heldB; rw [if_pos a1]
      refine brE_mk (fun a3 => ?Y1) (fun a3 => ?N2)
      case' Y1 =>
        have hb : heldB K host p s ((m + 1 : Nat) : Int) = decide ((recogL K host s).1 = p) := by
          rw [hh, Bool.eq_iff_iff, decide_eq_true_eq, decide_eq_true_eq]
          constructor
          · intro h; rw [h]
          · intro h; rw [← h, ← a3]
      case' N2 =>
        have hb : heldB K host p s ((m + 1 : Nat) : Int) = false := by
          rw [hh, decide_eq_false]
          intro h; rw [h] at a3; cases a3
    case' N1 =>
      have e25 := e23
      have hb : heldB K host p s ((m + 1 : Nat) : Int) = decide (p ∈ livingL K 2 s ((m + 1 : Nat) : Int)) := by
        rw [a2, a1]
        refine heldB_one ?_
        rw [a1] at a2
        exact of_decide_eq_false a2
  case' refine_2 =>
    have a1 : ¬ ((m + 1 : Nat) : Int) = 1 := a1
    have e25 := e23
    have hb : heldB K host p s ((m + 1 : Nat) : Int) = decide (p ∈ livingL K 2 s ((m + 1 : Nat) : Int)) := by unfold heldB; rw [if_neg a1]
  all_goals
    rw [hb] at hd
    first
    | (refine brE_mk (fun t => ?_) (fun t => ?_)
       · rw [t, Bool.true_or, if_pos rfl] at hd
         refine ⟨_, next, ?_⟩
         refine ⟨(m, ((m + 1 : Nat) : Int), _), ⟨rfl, rfl, rfl, rfl, rfl, rfl, rfl, trivial⟩, ⟨by show m ≤ 4; omega, e25, ?_⟩, by show m < m + 1; omega⟩
         show (((m + 1 : Nat) : Int), !_) = _
         rw [hd, t]
       · rw [t, Bool.false_or] at hd
         refine (living_spec (hrK.ext e25) hKl 3 s ((m + 1 : Nat) : Int)).mono ?_
         rintro v w6 ⟨ho6, e6⟩
         have hl6 := livingL_length K 3 s ((m + 1 : Nat) : Int)
         obtain ⟨A6, k6, rfl, hr6, _⟩ := ho6.slice
         refine (ContainsI_spec hr6 (by omega) p).mono ?_
         rintro v w7 ⟨rfl, rfl⟩
         refine brE_mk (fun u => ?_) (fun u => ?_)
         · rw [show actsB K p s ((m + 1 : Nat) : Int) = true from u, if_pos rfl] at hd
           refine ⟨_, next, ?_⟩
           refine ⟨(m, ((m + 1 : Nat) : Int), _), ⟨rfl, rfl, rfl, rfl, rfl, rfl, rfl, trivial⟩, ⟨by show m ≤ 4; omega, e25.trans e6, ?_⟩, by show m < m + 1; omega⟩
           show (((m + 1 : Nat) : Int), !_) = _
           rw [hd, t]
         · rw [show actsB K p s ((m + 1 : Nat) : Int) = false from u, if_neg (by decide)] at hd
           refine ⟨_, next, ?_⟩
           refine ⟨(m, a, b), ⟨rfl, rfl, rfl, rfl, rfl, rfl, rfl, trivial⟩, ⟨by show m ≤ 4; omega, e25.trans e6, ?_⟩, by show m < m + 1; omega⟩
           show (a, b) = _
           rw [hd])
    | (rw [Bool.false_or] at hd
       refine (living_spec (hrK.ext e25) hKl 3 s ((m + 1 : Nat) : Int)).mono ?_
       rintro v w6 ⟨ho6, e6⟩
       have hl6 := livingL_length K 3 s ((m + 1 : Nat) : Int)
       obtain ⟨A6, k6, rfl, hr6, _⟩ := ho6.slice
       refine (ContainsI_spec hr6 (by omega) p).mono ?_
       rintro v w7 ⟨rfl, rfl⟩
       refine brE_mk (fun u => ?_) (fun u => ?_)
       · rw [show actsB K p s ((m + 1 : Nat) : Int) = true from u, if_pos rfl] at hd
         refine ⟨_, next, ?_⟩
         refine ⟨(m, ((m + 1 : Nat) : Int), _), ⟨rfl, rfl, rfl, rfl, rfl, rfl, rfl, trivial⟩, ⟨by show m ≤ 4; omega, e25.trans e6, ?_⟩, by show m < m + 1; omega⟩
         exact hd.symm
       · rw [show actsB K p s ((m + 1 : Nat) : Int) = false from u, if_neg (by decide)] at hd
         refine ⟨_, next, ?_⟩
         refine ⟨(m, a, b), ⟨rfl, rfl, rfl, rfl, rfl, rfl, rfl, trivial⟩, ⟨by show m ≤ 4; omega, e25.trans e6, ?_⟩, by show m < m + 1; omega⟩
         show (a, b) = _
         rw [hd])
end Go.Proofs.YtdpdjcopkehdjaaGreat
namespace Go.Proofs.YtdpdjcopkehdjaaGreat.Rk
open Go.Eng Go.RowKit
def guestCells (g:Int × Int):List Value:=[.int .i64 g.1,.int .i64 g.2]
def whoOf (a:List Fact) (g:Int × Int):Int:=if (princL a g.1).2 = true then (princL a g.1).1 else g.1
def clsOf (a:List Fact) (host who st:Int):Int:=if (classL a host who st).1 = 5 ∧ (spouseL a who).2 = true then (classL a host (spouseL a who).1 st).1 else (classL a host who st).1
def letOf (a:List Fact) (lang lot st:Int):Int:=if (letterL a lang lot st).2 = true then (letterL a lang lot st).1 else (((alphaL a lang lot).length:Nat):Int)
def profAt (a:List Fact) (s:Scn) (g:Int × Int):Prof:=⟨clsOf a s.host (whoOf a g) g.2,visitL a (whoOf a g) s.host,decide (g.2 = s.host),(princL a g.1).2,a.any (mournB g.2),credL a (whoOf a g) s.host,letOf a s.lang s.lot g.2⟩
def profOf (l:List Fact) (s:Scn) (g:Int × Int):Prof:=profAt (atL s.known s.day l) s g
set_option maxRecDepth 100000 in
set_option maxHeartbeats 4000000 in
theorem profile_spec {w:World} {A:Option Addr} {l:List Fact} {c:Nat} (hf:HF w A l c) (hl:l.length <= 2 ^ 20) (s:Scn) {g:Int × Int} (hg:In64 g.1) :
  CallsV C.P 45 #[.slice A l.length c,s.val,prVal g] w fun v w' => v = (profOf l s g).val ∧ Ext w w':=by
 obtain ⟨a,ha⟩:∃ a,a = atL s.known s.day l:=⟨_,rfl⟩
 have hfin:profOf l s g = profAt a s g:=by rw [ha]; rfl
 rw [hfin]
 have pP:=fun w' (e:Ext w w') => Principal_spec (hf.ext e) hl s.known s.day g.1 hg
 have pM:=fun w' (e:Ext w w') => Mourns_spec (hf.ext e) hl s.known s.day g.2
 have pC:=fun w' (e:Ext w w') x => Class_spec (hf.ext e) hl s.known s.day s.host x g.2
 have pS:=fun w' (e:Ext w w') x => Spouse_spec (hf.ext e) hl s.known s.day x
 have pV:=fun w' (e:Ext w w') x => Visit_spec (hf.ext e) hl s.known s.day x s.host
 have pK:=fun w' (e:Ext w w') x => Credentials_spec (hf.ext e) hl s.known s.day x s.host
 have pL:=fun w' (e:Ext w w') => Letter_spec (hf.ext e) hl s.known s.day s.lang s.lot g.2
 have pA:=fun w' (e:Ext w w') => Alphabet_spec (hf.ext e) hl s.known s.day s.lang s.lot
 rw [<-ha] at pP pM pC pS pV pK pL pA
 refine callsV_ofS (args:=[_,_,_]) Tryz.func45 rfl Tryz.ntmps45 C_ok (Nat.le_of_ble_eq_true rfl) ?_
 refine Snd.go C_ok plans45 (by kernel_rfl) ?_
 intro g4 w1 h1
 have M:Mem w w1 [(g4,.cells s.cells.toArray 24 (0,0))]:=(Mem.start w).alloc h1
 intro g5 w2 h2
 have M:Mem w w2 [(g5,.cells (guestCells g).toArray 44 (0,0)),(g4,.cells s.cells.toArray 24 (0,0))]:=M.alloc h2
 intro g6 w3 h3
 have M:Mem w w3 [(g6,.cells profZ.cells.toArray 38 (0,0)),(g5,.cells (guestCells g).toArray 44 (0,0)),(g4,.cells s.cells.toArray 24 (0,0))]:=M.alloc h3
 refine ⟨Snd.go C_ok plans45 (by kernel_rfl) ?_⟩
 refine ⟨_,M.cell 2 rfl rfl,?_⟩
 refine ⟨_,M.cell 2 rfl rfl,?_⟩
 refine ⟨_,M.cell 1 rfl rfl,?_⟩
 refine (pP w3 M.ext).mono ?_
 rintro v w4 ⟨rfl,e4⟩
 have M:=M.grow e4
 obtain ⟨who,hwho⟩:∃ who,who = whoOf a g:=⟨_,rfl⟩
 obtain ⟨q,hq⟩:∃ q,q = princL a g.1:=⟨_,rfl⟩
 have hw2:who = if q.2 = true then q.1 else g.1:=by rw [hwho,hq]; rfl
 have hpf:profAt a s g = ⟨clsOf a s.host who g.2,visitL a who s.host,decide (g.2 = s.host),q.2,a.any (mournB g.2),credL a who s.host,letOf a s.lang s.lot g.2⟩:=by rw [hwho,hq]; rfl
 rw [<-hq,hpf]
 refine ⟨Snd.join C_ok plans45 (fun _:Unit => [(0,.slice A l.length c),(4,.pointer (some ⟨g4,0,none⟩)),(5,.pointer (some ⟨g5,0,none⟩)),(6,.pointer (some ⟨g6,0,none⟩)),(7,.int .i64 who),(8,.bool q.2)]) (fun _ w' => w' = w4) (by kernel_rfl) ?_ ?_⟩
 ·refine brE_mk (fun b => ?_) (fun b => ?_)
  ·have b:q.2 = false:=by simpa using b
   refine ⟨_,M.cell 1 rfl rfl,?_⟩
   have hx:g.1 = who:=by rw [hw2,if_neg (by rw [b]; decide)]
   exact ⟨(),⟨rfl,rfl,rfl,rfl,congrArg (fun x => some (Value.int IntKind.i64 x)) hx,rfl,trivial⟩,rfl⟩
  ·have b:q.2 = true:=by simpa using b
   have hx:q.1 = who:=by rw [hw2,if_pos b]
   exact ⟨(),⟨rfl,rfl,rfl,rfl,congrArg (fun x => some (Value.int IntKind.i64 x)) hx,rfl,trivial⟩,rfl⟩
 rintro _ w4' rfl
 obtain ⟨mo,hmo⟩:∃ mo,mo = a.any (mournB g.2):=⟨_,rfl⟩
 rw [<-hmo]
 rw [<-hmo] at pM
 refine Snd.join C_ok plans45 (fun g9:Nat => [(0,.slice A l.length c),(4,.pointer (some ⟨g4,0,none⟩)),(5,.pointer (some ⟨g5,0,none⟩)),(6,.pointer (some ⟨g6,0,none⟩)),(7,.int .i64 who),(9,.pointer (some ⟨g9,0,none⟩))])
  (fun g9 w' => Mem w w' [(g9,.cells (Prof.mk 0 0 (decide (g.2 = s.host)) q.2 mo 0 0).cells.toArray 38 (0,0)),(g6,.cells profZ.cells.toArray 38 (0,0)),(g5,.cells (guestCells g).toArray 44 (0,0)),(g4,.cells s.cells.toArray 24 (0,0))]) (by kernel_rfl) ?_ ?_
 ·refine ⟨_,M.cell 1 rfl rfl,?_⟩
  refine ⟨_,M.cell 2 rfl rfl,?_⟩
  refine ⟨_,M.cell 2 rfl rfl,?_⟩
  refine ⟨_,M.cell 2 rfl rfl,?_⟩
  refine ⟨_,M.cell 1 rfl rfl,?_⟩
  refine ⟨?A,?B⟩
  case A =>
   refine (pM _ M.ext).mono ?_
   rintro v w5 ⟨rfl,e5⟩
   refine ⟨e5,?_⟩
   intro g9 w6 h6
   refine ⟨h6.ext,?_⟩
   have M:=(M.grow e5).alloc h6
   refine ⟨rfl,_,_,M.get 0 rfl,Nat.le_of_ble_eq_true rfl,rfl,?_⟩
   intro w7 h7
   exact ⟨g9,⟨rfl,rfl,rfl,rfl,rfl,rfl,trivial⟩,M.put 0 rfl h7⟩
  case B =>
   intro g9 w6 h6
   refine ⟨h6.ext,?_⟩
   refine (pM _ (M.ext.trans h6.ext)).mono ?_
   rintro v w5 ⟨rfl,e5⟩
   refine ⟨e5,?_⟩
   have M:=(M.alloc h6).grow e5
   refine ⟨rfl,_,_,M.get 0 rfl,Nat.le_of_ble_eq_true rfl,rfl,?_⟩
   intro w7 h7
   exact ⟨g9,⟨rfl,rfl,rfl,rfl,rfl,rfl,trivial⟩,M.put 0 rfl h7⟩
 rintro g9 w7 M
 refine Snd.go C_ok plans45 (by kernel_rfl) ?_
 refine ⟨_,M.cell 3 rfl rfl,?_⟩
 refine ⟨_,M.cell 3 rfl rfl,?_⟩
 refine ⟨_,M.cell 3 rfl rfl,?_⟩
 refine ⟨_,M.cell 2 rfl rfl,?_⟩
 refine (pC _ M.ext who).mono ?_
 rintro v w8 ⟨rfl,e8⟩
 have M:=M.grow e8
 refine ⟨rfl,_,_,M.get 0 rfl,Nat.le_of_ble_eq_true rfl,rfl,?_⟩
 intro w9 h9
 obtain ⟨c0,hc0⟩:∃ c0,c0 = (classL a s.host who g.2).1:=⟨_,rfl⟩
 have M:Mem w w9 [(g9,.cells (Prof.mk c0 0 (decide (g.2 = s.host)) q.2 mo 0 0).cells.toArray 38 (0,0)),(g6,.cells profZ.cells.toArray 38 (0,0)),(g5,.cells (guestCells g).toArray 44 (0,0)),(g4,.cells s.cells.toArray 24 (0,0))]:=by rw [hc0]; exact M.put 0 rfl h9
 obtain ⟨sp,hsp⟩:∃ sp,sp = spouseL a who:=⟨_,rfl⟩
 obtain ⟨c1,hc1⟩:∃ c1,c1 = clsOf a s.host who g.2:=⟨_,rfl⟩
 have hc2:c1 = if c0 = 5 ∧ sp.2 = true then (classL a s.host sp.1 g.2).1 else c0:=by rw [hc1,hc0,hsp]; rfl
 rw [<-hc1]
 refine ⟨Snd.join C_ok plans45 (fun _:Unit => [(0,.slice A l.length c),(4,.pointer (some ⟨g4,0,none⟩)),(5,.pointer (some ⟨g5,0,none⟩)),(6,.pointer (some ⟨g6,0,none⟩)),(7,.int .i64 who),(9,.pointer (some ⟨g9,0,none⟩))])
  (fun _ w' => Mem w w' [(g9,.cells (Prof.mk c1 0 (decide (g.2 = s.host)) q.2 mo 0 0).cells.toArray 38 (0,0)),(g6,.cells profZ.cells.toArray 38 (0,0)),(g5,.cells (guestCells g).toArray 44 (0,0)),(g4,.cells s.cells.toArray 24 (0,0))]) (by kernel_rfl) ?_ ?_⟩
 ·refine ⟨_,M.cell 3 rfl rfl,?_⟩
  refine ⟨_,M.cell 3 rfl rfl,?_⟩
  have X:=pS _ M.ext who
  rw [<-hsp] at X
  refine X.mono ?_
  rintro v w10 ⟨rfl,e10⟩
  have M:=M.grow e10
  refine ⟨_,M.cell 0 rfl rfl,?_⟩
  refine brE_dec (fun b1 => ?_) (fun b1 => ?_)
  ·have b1:c0 = 5:=b1
   refine brE_mk (fun b2 => ?_) (fun b2 => ?_)
   ·have b2:sp.2 = true:=b2
    refine ⟨_,M.cell 3 rfl rfl,?_⟩
    refine ⟨_,M.cell 3 rfl rfl,?_⟩
    refine ⟨_,M.cell 3 rfl rfl,?_⟩
    refine ⟨_,M.cell 2 rfl rfl,?_⟩
    refine (pC _ M.ext sp.1).mono ?_
    rintro v w11 ⟨rfl,e11⟩
    have M:=M.grow e11
    refine ⟨rfl,_,_,M.get 0 rfl,Nat.le_of_ble_eq_true rfl,rfl,?_⟩
    intro w12 h12
    refine ⟨(),⟨rfl,rfl,rfl,rfl,rfl,rfl,trivial⟩,?_⟩
    rw [hc2,if_pos ⟨b1,b2⟩]
    exact M.put 0 rfl h12
   ·have b2:sp.2 = false:=b2
    refine ⟨(),⟨rfl,rfl,rfl,rfl,rfl,rfl,trivial⟩,?_⟩
    rw [hc2,if_neg (fun e => by rw [b2] at e; cases e.2)]
    exact M
  ·have b1:¬ c0 = 5:=b1
   refine ⟨(),⟨rfl,rfl,rfl,rfl,rfl,rfl,trivial⟩,?_⟩
   rw [hc2,if_neg (fun e => b1 e.1)]
   exact M
 rintro _ w13 M
 refine Snd.go C_ok plans45 (by kernel_rfl) ?_
 refine ⟨_,M.cell 3 rfl rfl,?_⟩
 refine ⟨_,M.cell 3 rfl rfl,?_⟩
 refine ⟨_,M.cell 3 rfl rfl,?_⟩
 refine (pV _ M.ext who).mono ?_
 rintro v w14 ⟨rfl,e14⟩
 have M:=M.grow e14
 refine ⟨rfl,_,_,M.get 0 rfl,Nat.le_of_ble_eq_true rfl,rfl,?_⟩
 intro w15 h15
 obtain ⟨vi,hvi⟩:∃ vi,vi = visitL a who s.host:=⟨_,rfl⟩
 rw [<-hvi] at h15 ⊢
 have M:Mem w w15 [(g9,.cells (Prof.mk c1 vi (decide (g.2 = s.host)) q.2 mo 0 0).cells.toArray 38 (0,0)),(g6,.cells profZ.cells.toArray 38 (0,0)),(g5,.cells (guestCells g).toArray 44 (0,0)),(g4,.cells s.cells.toArray 24 (0,0))]:=M.put 0 rfl h15
 refine ⟨Snd.go C_ok plans45 (by kernel_rfl) ?_⟩
 refine ⟨_,M.cell 3 rfl rfl,?_⟩
 refine ⟨_,M.cell 3 rfl rfl,?_⟩
 refine ⟨_,M.cell 3 rfl rfl,?_⟩
 refine (pK _ M.ext who).mono ?_
 rintro v w16 ⟨rfl,e16⟩
 have M:=M.grow e16
 refine ⟨rfl,_,_,M.get 0 rfl,Nat.le_of_ble_eq_true rfl,rfl,?_⟩
 intro w17 h17
 obtain ⟨cr,hcr⟩:∃ cr,cr = credL a who s.host:=⟨_,rfl⟩
 rw [<-hcr] at h17 ⊢
 have M:Mem w w17 [(g9,.cells (Prof.mk c1 vi (decide (g.2 = s.host)) q.2 mo cr 0).cells.toArray 38 (0,0)),(g6,.cells profZ.cells.toArray 38 (0,0)),(g5,.cells (guestCells g).toArray 44 (0,0)),(g4,.cells s.cells.toArray 24 (0,0))]:=M.put 0 rfl h17
 refine ⟨Snd.go C_ok plans45 (by kernel_rfl) ?_⟩
 refine ⟨_,M.cell 3 rfl rfl,?_⟩
 refine ⟨_,M.cell 3 rfl rfl,?_⟩
 refine ⟨_,M.cell 3 rfl rfl,?_⟩
 refine ⟨_,M.cell 3 rfl rfl,?_⟩
 refine ⟨_,M.cell 2 rfl rfl,?_⟩
 obtain ⟨lt,hlt⟩:∃ lt,lt = letterL a s.lang s.lot g.2:=⟨_,rfl⟩
 obtain ⟨le,hle⟩:∃ le,le = letOf a s.lang s.lot g.2:=⟨_,rfl⟩
 have hl2:le = if lt.2 = true then lt.1 else (((alphaL a s.lang s.lot).length:Nat):Int):=by rw [hle,hlt]; rfl
 have X:=pL _ M.ext
 rw [<-hlt] at X
 rw [<-hle]
 refine X.mono ?_
 rintro v w18 ⟨rfl,e18⟩
 have M:=M.grow e18
 refine ⟨Snd.join C_ok plans45 (fun _:Unit => [(6,.pointer (some ⟨g6,0,none⟩)),(9,.pointer (some ⟨g9,0,none⟩)),(12,.int .i64 le)])
  (fun _ w' => Mem w w' [(g9,.cells (Prof.mk c1 vi (decide (g.2 = s.host)) q.2 mo cr 0).cells.toArray 38 (0,0)),(g6,.cells profZ.cells.toArray 38 (0,0)),(g5,.cells (guestCells g).toArray 44 (0,0)),(g4,.cells s.cells.toArray 24 (0,0))]) (by kernel_rfl) ?_ ?_⟩
 ·refine brE_mk (fun b => ?_) (fun b => ?_)
  ·have b:lt.2 = false:=by simpa using b
   refine ⟨_,M.cell 3 rfl rfl,?_⟩
   refine ⟨_,M.cell 3 rfl rfl,?_⟩
   refine ⟨_,M.cell 3 rfl rfl,?_⟩
   refine ⟨_,M.cell 3 rfl rfl,?_⟩
   refine (pA _ M.ext).mono ?_
   rintro v w19 ⟨hv,e19⟩
   obtain ⟨Aa,ca,rfl,_,_⟩:=reads_of_owns hv
   have M:=M.grow e19
   have hx:(((alphaL a s.lang s.lot).length:Nat):Int) = le:=by rw [hl2,if_neg (by rw [b]; decide)]
   exact ⟨(),⟨rfl,rfl,congrArg (fun x => some (Value.int IntKind.i64 x)) hx,trivial⟩,M⟩
  ·have b:lt.2 = true:=by simpa using b
   have hx:lt.1 = le:=by rw [hl2,if_pos b]
   exact ⟨(),⟨rfl,rfl,congrArg (fun x => some (Value.int IntKind.i64 x)) hx,trivial⟩,M⟩
 rintro _ w20 M
 refine Snd.fin C_ok (plans:=plans45) (by kernel_rfl) ?_
 refine ⟨rfl,_,_,M.get 0 rfl,Nat.le_of_ble_eq_true rfl,rfl,?_⟩
 intro w21 h21
 have M:Mem w w21 [(g9,.cells (Prof.mk c1 vi (decide (g.2 = s.host)) q.2 mo cr le).cells.toArray 38 (0,0)),(g6,.cells profZ.cells.toArray 38 (0,0)),(g5,.cells (guestCells g).toArray 44 (0,0)),(g4,.cells s.cells.toArray 24 (0,0))]:=M.put 0 rfl h21
 refine ⟨(Prof.mk c1 vi (decide (g.2 = s.host)) q.2 mo cr le).cells,rfl,M.rd 0 rfl,?_⟩
 refine ⟨rfl,_,_,M.get 1 rfl,Nat.le_of_ble_eq_true rfl,rfl,?_⟩
 intro w22 h22
 have M:=M.put 1 rfl h22
 refine ⟨(Prof.mk c1 vi (decide (g.2 = s.host)) q.2 mo cr le).cells,rfl,M.rd 1 rfl,?_⟩
 exact ⟨rfl,M.ext⟩
end Go.Proofs.YtdpdjcopkehdjaaGreat.Rk
namespace Go.Proofs.YtdpdjcopkehdjaaGreat
open Go.Eng Go.RowKit
theorem whos_snoc (l:List Fact) (x:Fact):whos (l ++ [x]) = whos l ++ if x.kind = 1 then [x.who] else []:=by
 unfold whos
 rw [List.filter_append,List.map_append,List.filter_cons,List.filter_nil]
 congr 1
 by_cases h:x.kind = 1
 ·rw [if_pos (decide_eq_true h),if_pos h]; rfl
 ·rw [if_neg (by simpa using h),if_neg h]; rfl
theorem lastKnown_snoc (l:List Fact) (x:Fact):lastKnown (l ++ [x]) = x.known:=by simp [lastKnown]
set_option maxRecDepth 100000 in
theorem Check_spec {w:World} {A:Option Addr} {l:List Fact} {c:Nat} (h:HF w A l c) (hl:l.length <= 2 ^ 20) :
  CallsV C.P 51 #[.slice A l.length c] w fun v w' => v = .tuple #[.int .i64 ((chkF l).1:Nat),.int .i64 (chkF l).2] ∧ Ext w w':=by
 refine callsV_of C_ok (args:=[_]) (plans:=plans51) Tryz.func51 rfl Tryz.ntmps51 (by kernel_rfl) (Nat.le_of_ble_eq_true rfl) ?_
 intro gi w1 h1
 intro gs w2 h2
 intro g w3 h3
 have hgi:w.heap.size <= gi:=by rw [h1.new]; exact Nat.le_refl _
 have hgs:w.heap.size <= gs:=by rw [h2.new,h1.size]; omega
 have hg:w.heap.size <= g:=by rw [h3.new,h2.size,h1.size]; omega
 have n1:gi ≠ gs:=by rw [h1.new,h2.new,h1.size]; omega
 have n2:gi ≠ g:=by rw [h1.new,h3.new,h2.size,h1.size]; omega
 have n3:gs ≠ g:=by rw [h2.new,h3.new,h2.size,h1.size]; omega
 have M3:Mem w w3 [(g,.cells #[.map (some gi),.map (some gs),.int .i64 (0:Nat),.int .i64 0] 161 (0,0))]:=((Mem.start w).grow (h1.ext.trans h2.ext)).alloc h3
 have si3:SetIs w3 gi []:=SetIs.empty ((h2.ext.trans h3.ext).heap h1.here)
 have ss3:SetIs w3 gs []:=SetIs.empty (h3.ext.heap h2.here)
 have hchk:chkF l = chkG (l.take 0) (l.drop 0):=rfl
 refine loopE C_ok (fun (i:Nat) => [(4,.pointer (some ⟨g,0,none⟩)),(12,.slice A l.length c),(13,.int .i64 l.length),(14,.int .i64 i)])
  (fun i w' => i <= l.length ∧ Mem w w' [(g,.cells #[.map (some gi),.map (some gs),.int .i64 (i:Nat),.int .i64 (lastKnown (l.take i))] 161 (0,0))] ∧ SetIs w' gi ((l.take i).map Fact.id) ∧ SetIs w' gs (whos (l.take i)) ∧ chkF l = chkG (l.take i) (l.drop i)) (fun i => l.length - i) 0
  ⟨rfl,rfl,rfl,rfl,trivial⟩ ⟨Nat.zero_le _,M3,si3,ss3,hchk⟩ ?_
 rintro i w4 ⟨hi,M4,si4,ss4,hc⟩
 refine brE_dec (fun hlt => ?_) (fun hge => ?_)
 case' refine_2 =>
  have:i = l.length:=by have:¬ (i:Int) < (l.length:Nat):=hge; omega
  subst this
  rw [List.drop_length] at hc
  exact ⟨by rw [hc]; rfl,M4.ext⟩
 have hlt:i < l.length:=by have:(i:Int) < (l.length:Nat):=hlt; omega
 have hx:=h.nums _ (List.getElem_mem hlt)
 have hti:(l.take i).length = i:=by rw [List.length_take]; omega
 have htk:l.take (i + 1) = l.take i ++ [l[i]]:=List.take_succ_eq_append_getElem hlt
 rw [chkG_at hlt] at hc
 obtain ⟨b,o,hA,hcc⟩:=Reads.fact (h.reads.ext M4.ext) hlt
 refine ⟨i,b,o,rfl,hlt,hA,?_⟩
 refine ⟨l[i].cells,rfl,hcc,?_⟩
 intro g6 w5 h5
 refine ⟨rfl,_,_,h5.here,Nat.le_of_ble_eq_true rfl,rfl,?_⟩
 intro w6 h6
 have h6:Put w5 g6 (.cells l[i].cells.toArray 55 (0,0)) w6:=h6
 have e46:Ext w4 w6:=h6.ext_of h5.ext (by rw [h5.new]; exact Nat.le_refl _)
 have M6:Mem w w6 [(g6,.cells l[i].cells.toArray 55 (0,0)),(g,.cells #[.map (some gi),.map (some gs),.int .i64 (i:Nat),.int .i64 (lastKnown (l.take i))] 161 (0,0))]:=(M4.alloc h5).put 0 rfl h6
 have hgi6:gi ≠ g6:=fun e => by
  obtain ⟨es,clk,hb⟩:=(si4.ext e46).block
  rw [e,h6.here] at hb; cases hb
 have hgs6:gs ≠ g6:=fun e => by
  obtain ⟨es,clk,hb⟩:=(ss4.ext e46).block
  rw [e,h6.here] at hb; cases hb
 refine ⟨l[i].cells,rfl,M6.rd 0 rfl,?_⟩
 have reg6:RegIs w6 g gi gs (l.take i).length (lastKnown (l.take i)):=by rw [hti]; exact M6.get 1 rfl
 refine (refuses_spec hx (by omega) reg6 (si4.ext e46) (ss4.ext e46)).mono ?_
 rintro v w7 ⟨rfl,e7⟩
 have M7:=M6.grow e7
 have si7:=(si4.ext e46).ext e7
 have ss7:=(ss4.ext e46).ext e7
 refine brE_ndec (fun a1 => ?_) (fun a1 => ?_)
 ·have a1:¬ behindE (l.take i) l[i] = 0:=a1
  rw [if_pos a1] at hc
  exact ⟨by rw [hc],M7.ext⟩
 have a1:behindE (l.take i) l[i] = 0:=a1
 rw [if_neg (fun h => h a1)] at hc
 obtain ⟨fi,hfi,hfi2⟩:=si7
 refine ⟨_,M7.cell 1 rfl rfl,?_⟩
 refine ⟨_,M7.cell 0 rfl rfl,?_⟩
 refine mapPut C_ok rfl rfl (x:=.int .i64 l[i].id) rfl rfl rfl rfl intK (intKey hx.id) hfi ?_
 intro o8 w8 h8 hf8
 have si8:SetIs w8 gi ((l.take (i + 1)).map Fact.id):=by
  rw [htk,List.map_append]
  exact set_put hfi2 hf8
 have ss8:=ss7.other h8 (fun e => n1 e.symm)
 have M8:=M7.grown h8.grownBy (fun q hq => by cases hq; exact hgi) (fun p hp => by
  simp at hp
  rcases hp with rfl | rfl
  ·exact fun e => hgi6 (by injection e with e; exact e.symm)
  ·exact fun e => n2 (by injection e with e; exact e.symm))
 refine ⟨_,M8.cell 0 rfl rfl,?_⟩
 refine brE_dec (fun a2 => ?A) (fun a2 => ?B)
 case' A =>
  have a2:l[i].kind = 1:=a2
  obtain ⟨fs,hfs,hfs2⟩:=ss8
  refine ⟨_,M8.cell 1 rfl rfl,?_⟩
  refine ⟨_,M8.cell 0 rfl rfl,?_⟩
  refine mapPut C_ok rfl rfl (x:=.int .i64 l[i].who) rfl rfl rfl rfl intK (intKey hx.who) hfs ?_
  intro o9 w9 h9 hf9
  have ss9:SetIs w9 gs (whos (l.take (i + 1))):=by
   rw [htk,whos_snoc,if_pos a2]
   exact set_put hfs2 hf9
  have si9:=si8.other h9 n1
  have M9:=M8.grown h9.grownBy (fun q hq => by cases hq; exact hgs) (fun p hp => by
   simp at hp
   rcases hp with rfl | rfl
   ·exact fun e => hgs6 (by injection e with e; exact e.symm)
   ·exact fun e => n3 (by injection e with e; exact e.symm))
 case' B =>
  have a2:¬ l[i].kind = 1:=a2
  have ss9:SetIs w8 gs (whos (l.take (i + 1))):=by
   rw [htk,whos_snoc,if_neg a2,List.append_nil]
   exact ss8
  have si9:=si8
  have M9:=M8
 all_goals
  refine ⟨_,M9.cell 1 rfl rfl,?_⟩
  refine ⟨((i + 1:Nat):Int),fit ⟨by omega,by omega⟩,?_⟩
  refine ⟨rfl,_,_,M9.get 1 rfl,Nat.le_of_ble_eq_true rfl,rfl,?_⟩
  intro w10 h10
  have M10:=M9.put 1 rfl h10
  have si10:=si9.other h10 n2
  have ss10:=ss9.other h10 n3
  refine ⟨_,M10.cell 0 rfl rfl,?_⟩
  refine ⟨rfl,_,_,M10.get 1 rfl,Nat.le_of_ble_eq_true rfl,rfl,?_⟩
  intro w11 h11
  have M11:=M10.put 1 rfl h11
  have si11:=si10.other h11 n2
  have ss11:=ss10.other h11 n3
  refine ⟨((i + 1:Nat):Int),fit ⟨by omega,by omega⟩,?_⟩
  refine ⟨i + 1,⟨rfl,rfl,rfl,rfl,trivial⟩,⟨hlt,?_,si11,ss11,hc⟩,by omega⟩
  rw [htk,lastKnown_snoc]
  exact M11.tail
def appE (l:List Fact) (x:Fact):Int:=if (chkF l).2 ≠ 0 then (chkF l).2 else (chkF (l ++ [x])).2
end Go.Proofs.YtdpdjcopkehdjaaGreat
