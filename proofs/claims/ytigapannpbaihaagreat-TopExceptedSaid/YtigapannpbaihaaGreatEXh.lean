/- a part of the proof: steps, walks and plain laws that the law below stands on; no condition. -/
import Derived.Test.YtigapannpbaihaaGreatEXa
import Derived.Test.YtigapannpbaihaaGreatEXb
import Derived.Test.YtigapannpbaihaaGreatEXc
import Derived.Test.YtigapannpbaihaaGreatEXd
import Derived.Test.YtigapannpbaihaaGreatEXe
import Derived.Test.YtigapannpbaihaaGreatEXf
import Derived.Test.YtigapannpbaihaaGreatEXg
import Derived.Laws.RangeString
import Derived.Lib.OthersKept
import Derived.Lib.TrimU
import Derived.Carry
import Derived.RangeFuncRecord
import Derived.RangeFuncSeq
set_option linter.unusedVariables false
set_option linter.unusedSimpArgs false
set_option linter.unnecessarySimpa false
set_option linter.unusedSectionVars false
namespace Go.Proofs.YtigapannpbaihaaGreat.Rk
open Go.Eng Go.RowKit
def sideP (a b:Prof) (side:Int):Prof:=if side = 2 then b else a
def holdN (a b:Prof) (op attr side n:Int) (l:List Bool):Bool :=
 if op = 1 then true
 else if op = 2 then decide (attrZ attr a < attrZ attr b)
 else if op = 3 then decide (attrZ attr a > attrZ attr b)
 else if op = 4 then decide (attrZ attr a = attrZ attr b)
 else if op = 5 then decide (attrZ attr (sideP a b side) = n)
 else if op = 6 then decide (attrZ attr (sideP a b side) < n)
 else if op = 7 then !(l.headD true)
 else if op = 8 then l.all id
 else if op = 9 then l.any id
 else false
mutual
def holdsT (a b:Prof):Tst -> Bool
 | .mk op attr side n _ _ of => holdN a b op attr side n (holdsL a b of)
def holdsL (a b:Prof):List Tst -> List Bool
 | [] => []
 | x :: r => holdsT a b x :: holdsL a b r
end
theorem holdsL_map (a b:Prof):∀ (l:List Tst),holdsL a b l = l.map (holdsT a b)
 | [] => rfl
 | x :: r => by rw [holdsL,holdsL_map a b r]; rfl
theorem holdsT_mk (a b:Prof) (op attr side n:Int) (A:Option Addr) (c:Nat) (of:List Tst):holdsT a b (.mk op attr side n A c of) = holdN a b op attr side n (of.map (holdsT a b)):=by rw [holdsT,holdsL_map]
theorem kind_range {a:Int} (h:kindZ a ≠ 0):0 <= a ∧ a <= 7:=by
 unfold kindZ at h
 by_cases h1:a = 1 ∨ a = 2
 ·omega
 ·by_cases h2:a = 3 ∨ a = 4 ∨ a = 5
  ·omega
  ·by_cases h3:a = 6 ∨ a = 7
   ·omega
   ·rw [if_neg h1,if_neg h2,if_neg h3] at h; exact absurd rfl h
theorem shaped_mk {op attr side n:Int} {A:Option Addr} {c:Nat} {of:List Tst} (h:shapedT (.mk op attr side n A c of) = true):nodeK op (kindZ attr) attr side n (rangeB attr n) of.length = true ∧ ∀ x ∈ of,shapedT x = true:=by
 rw [shapedT_eq,Bool.and_eq_true] at h
 have h2:=h.2
 rw [shapedL_all,List.all_eq_true] at h2
 exact ⟨h.1,h2⟩
theorem shaped_range {op attr side n r:Int} {rb:Bool} {len:Nat} (h:nodeK op (kindZ attr) attr side n rb len = true) (ho:op = 2 ∨ op = 3 ∨ op = 4 ∨ op = 5 ∨ op = 6):0 <= attr ∧ attr <= 7:=by
 refine kind_range fun h0 => ?_
 rw [h0] at h
 rcases ho with rfl | rfl | rfl | rfl | rfl
 ·have:=of_decide_eq_true h; have:=this.2.1; omega
 ·have:=of_decide_eq_true h; have:=this.2.1; omega
 ·have:=of_decide_eq_true h; exact this.2.1 rfl
 ·have:=of_decide_eq_true h; have:=this.2.1; omega
 ·have:=of_decide_eq_true h; have:=this.2.1; omega
theorem shaped_ops {op k attr side n:Int} {rb:Bool} {len:Nat} (h:nodeK op k attr side n rb len = true) (h1:¬ op = 1) (h2:¬ op = 2) (h3:¬ op = 3) (h4:¬ op = 4) (h5:¬ op = 5) (h6:¬ op = 6):op = 7 ∧ len = 1 ∨ op = 8 ∨ op = 9:=by
 by_cases h7:op = 7
 ·subst h7; exact .inl ⟨rfl,(of_decide_eq_true h).1⟩
 ·by_cases h8:op = 8
  ·exact .inr (.inl h8)
  ·by_cases h9:op = 9
   ·exact .inr (.inr h9)
   ·rw [node_off h1 h2 h3 h4 h5 h6 h7 h8 h9] at h; cases h
theorem any_at {l:List Bool} {i:Nat} (hi:i < l.length) (h:l[i] = true):l.any id = true:=List.any_eq_true.2 ⟨_,List.getElem_mem hi,h⟩
theorem all_at {l:List Bool} {i:Nat} (hi:i < l.length) (h:l[i] = false):l.all id = false:=by
 cases hx:l.all id with
 | false => rfl
 | true => rw [List.all_eq_true] at hx; have:=hx _ (List.getElem_mem hi); rw [h] at this; cases this
set_option maxRecDepth 100000 in
set_option maxHeartbeats 8000000 in
theorem holds_spec {w0:World} {t:Tst} (h:TestIs w0 t) (a b:Prof):shapedT t = true -> ∀ {w:World},Ext w0 w -> CallsV C.P 221 #[t.val,a.val,b.val] w fun v w' => v = .bool (holdsT a b t) ∧ Ext w w':=by
 induction h with
 | @mk t hn hr hc hl hk ih =>
 intro hs w e0
 obtain ⟨op,attr,side,n,A,c,of⟩:=t
 obtain ⟨hnode,hkids⟩:=shaped_mk hs
 rw [holdsT_mk]
 obtain ⟨res,hres⟩:∃ res,res = holdN a b op attr side n (of.map (holdsT a b)):=⟨_,rfl⟩
 rw [<-hres]
 have hl:of.length <= 9223372036854775807:=hl
 have hrng:=fun ho => shaped_range (r:=0) hnode ho
 refine callsV_ofS (args:=[_,_,_]) Tryz.func221 rfl Tryz.ntmps221 C_ok (Nat.le_of_ble_eq_true rfl) ?_
 refine Snd.go C_ok plans221 (by kernel_rfl) ?_
 intro g3 w1 h1
 have M:Mem w w1 [(g3,.cells (Tst.mk op attr side n A c of).cells.toArray 91 (0,0))]:=(Mem.start w).alloc h1
 intro g4 w2 h2
 have M:Mem w w2 [(g4,.cells a.cells.toArray 194 (0,0)),(g3,.cells (Tst.mk op attr side n A c of).cells.toArray 91 (0,0))]:=M.alloc h2
 intro g5 w3 h3
 have M:Mem w w3 [(g5,.cells b.cells.toArray 194 (0,0)),(g4,.cells a.cells.toArray 194 (0,0)),(g3,.cells (Tst.mk op attr side n A c of).cells.toArray 91 (0,0))]:=M.alloc h3
 refine ⟨Snd.go C_ok plans221 (by kernel_rfl) ?_⟩
 refine ⟨a.cells,rfl,M.rd 1 rfl,?_⟩
 intro g7 w4 h4
 have M:=M.alloc h4
 refine ⟨rfl,_,_,M.get 0 rfl,Nat.le_of_ble_eq_true rfl,rfl,?_⟩
 intro w5 h5
 have M:Mem w w5 [(g7,.cells a.cells.toArray 194 (0,0)),(g5,.cells b.cells.toArray 194 (0,0)),(g4,.cells a.cells.toArray 194 (0,0)),(g3,.cells (Tst.mk op attr side n A c of).cells.toArray 91 (0,0))]:=M.put 0 rfl h5
 obtain ⟨sp,hsp⟩:∃ sp,sp = sideP a b side:=⟨_,rfl⟩
 refine ⟨Snd.join C_ok plans221 (fun _:Unit => [(3,.pointer (some ⟨g3,0,none⟩)),(4,.pointer (some ⟨g4,0,none⟩)),(5,.pointer (some ⟨g5,0,none⟩)),(7,.pointer (some ⟨g7,0,none⟩))])
  (fun _ w' => Mem w w' [(g7,.cells sp.cells.toArray 194 (0,0)),(g5,.cells b.cells.toArray 194 (0,0)),(g4,.cells a.cells.toArray 194 (0,0)),(g3,.cells (Tst.mk op attr side n A c of).cells.toArray 91 (0,0))]) (by kernel_rfl) ?_ ?_⟩
 ·refine ⟨_,M.cell 3 (i:=2) rfl rfl,?_⟩
  refine brE_dec (fun s2 => ?_) (fun s2 => ?_)
  ·have s2:side = 2:=s2
   refine ⟨b.cells,rfl,M.rd 1 rfl,?_⟩
   refine ⟨rfl,_,_,M.get 0 rfl,Nat.le_of_ble_eq_true rfl,rfl,?_⟩
   intro w6 h6
   have e:sp = b:=hsp.trans (if_pos s2)
   exact ⟨(),⟨rfl,rfl,rfl,rfl,trivial⟩,by rw [e]; exact M.put 0 rfl h6⟩
  ·have s2:¬ side = 2:=s2
   have e:sp = a:=hsp.trans (if_neg s2)
   exact ⟨(),⟨rfl,rfl,rfl,rfl,trivial⟩,by rw [e]; exact M⟩
 clear M h1 h2 h3 h4 h5
 rintro _ w6 M
 refine Snd.fin C_ok (plans:=plans221) (by kernel_rfl) ?_
 refine ⟨_,M.cell 3 (i:=0) rfl rfl,?_⟩
 refine brE_dec (fun o1 => ?_) (fun o1 => ?_)
 ·have o1:op = 1:=o1
  subst o1
  exact ⟨congrArg Value.bool hres.symm,M.ext⟩
 have o1:¬ op = 1:=o1
 refine brE_dec (fun o2 => ?_) (fun o2 => ?_)
 ·have o2:op = 2:=o2
  have hat:=hrng (by omega)
  subst o2
  refine ⟨_,M.cell 3 (i:=1) rfl rfl,?_⟩
  refine ⟨a.cells,rfl,M.rd 2 rfl,?_⟩
  refine ⟨_,M.cell 3 (i:=1) rfl rfl,?_⟩
  refine ⟨b.cells,rfl,M.rd 1 rfl,?_⟩
  refine (value_spec attr hat a w6).mono ?_
  rintro v w7 ⟨rfl,e7⟩
  refine ⟨e7,?_⟩
  refine (value_spec attr hat b w7).mono ?_
  rintro v w8 ⟨rfl,e8⟩
  exact ⟨congrArg Value.bool hres.symm,M.ext.trans (e7.trans e8)⟩
 have o2:¬ op = 2:=o2
 refine brE_dec (fun o3 => ?_) (fun o3 => ?_)
 ·have o3:op = 3:=o3
  have hat:=hrng (by omega)
  subst o3
  refine ⟨_,M.cell 3 (i:=1) rfl rfl,?_⟩
  refine ⟨a.cells,rfl,M.rd 2 rfl,?_⟩
  refine ⟨_,M.cell 3 (i:=1) rfl rfl,?_⟩
  refine ⟨b.cells,rfl,M.rd 1 rfl,?_⟩
  refine (value_spec attr hat a w6).mono ?_
  rintro v w7 ⟨rfl,e7⟩
  refine ⟨e7,?_⟩
  refine (value_spec attr hat b w7).mono ?_
  rintro v w8 ⟨rfl,e8⟩
  exact ⟨congrArg Value.bool hres.symm,M.ext.trans (e7.trans e8)⟩
 have o3:¬ op = 3:=o3
 refine brE_dec (fun o4 => ?_) (fun o4 => ?_)
 ·have o4:op = 4:=o4
  have hat:=hrng (by omega)
  subst o4
  refine ⟨_,M.cell 3 (i:=1) rfl rfl,?_⟩
  refine ⟨a.cells,rfl,M.rd 2 rfl,?_⟩
  refine ⟨_,M.cell 3 (i:=1) rfl rfl,?_⟩
  refine ⟨b.cells,rfl,M.rd 1 rfl,?_⟩
  refine (value_spec attr hat a w6).mono ?_
  rintro v w7 ⟨rfl,e7⟩
  refine ⟨e7,?_⟩
  refine (value_spec attr hat b w7).mono ?_
  rintro v w8 ⟨rfl,e8⟩
  exact ⟨congrArg Value.bool hres.symm,M.ext.trans (e7.trans e8)⟩
 have o4:¬ op = 4:=o4
 refine brE_dec (fun o5 => ?_) (fun o5 => ?_)
 ·have o5:op = 5:=o5
  have hat:=hrng (by omega)
  subst o5
  refine ⟨_,M.cell 3 (i:=1) rfl rfl,?_⟩
  refine ⟨sp.cells,rfl,M.rd 0 rfl,?_⟩
  refine ⟨_,M.cell 3 (i:=3) rfl rfl,?_⟩
  refine (value_spec attr hat sp w6).mono ?_
  rintro v w7 ⟨rfl,e7⟩
  refine ⟨e7,?_⟩
  have hr2:holdN a b 5 attr side n (of.map (holdsT a b)) = decide (attrZ attr (sideP a b side) = n):=rfl
  rw [hr2,<-hsp] at hres
  exact ⟨congrArg Value.bool hres.symm,M.ext.trans e7⟩
 have o5:¬ op = 5:=o5
 refine brE_dec (fun o6 => ?_) (fun o6 => ?_)
 ·have o6:op = 6:=o6
  have hat:=hrng (by omega)
  subst o6
  refine ⟨_,M.cell 3 (i:=1) rfl rfl,?_⟩
  refine ⟨sp.cells,rfl,M.rd 0 rfl,?_⟩
  refine ⟨_,M.cell 3 (i:=3) rfl rfl,?_⟩
  refine (value_spec attr hat sp w6).mono ?_
  rintro v w7 ⟨rfl,e7⟩
  refine ⟨e7,?_⟩
  have hr2:holdN a b 6 attr side n (of.map (holdsT a b)) = decide (attrZ attr (sideP a b side) < n):=rfl
  rw [hr2,<-hsp] at hres
  exact ⟨congrArg Value.bool hres.symm,M.ext.trans e7⟩
 have o6:¬ op = 6:=o6
 have hops:=shaped_ops hnode o1 o2 o3 o4 o5 o6
 have kidh:∀ i (hi:i < of.length),∀ {w:World},Ext w0 w -> CallsV C.P 221 #[of[i].val,a.val,b.val] w fun v w' => v = .bool (holdsT a b of[i]) ∧ Ext w w':=fun i hi {w} e => ih _ (List.getElem_mem hi) (hkids _ (List.getElem_mem hi)) e
 refine brE_dec (fun o7 => ?_) (fun o7 => ?_)
 ·have o7:op = 7:=o7
  have hlen:of.length = 1:=by omega
  have h0:0 < of.length:=by omega
  subst o7
  obtain ⟨bb,o,hA,hc5⟩:=Reads.elem Tst.len (by omega) (Reads.ext hr (e0.trans M.ext)) h0
  refine ⟨_,M.cell 3 (i:=4) rfl rfl,?_⟩
  refine ⟨0,bb,o,rfl,h0,hA,?_⟩
  refine ⟨of[0].cells,rfl,hc5,?_⟩
  refine ⟨a.cells,rfl,M.rd 2 rfl,?_⟩
  refine ⟨b.cells,rfl,M.rd 1 rfl,?_⟩
  refine (kidh 0 h0 (e0.trans M.ext)).mono ?_
  rintro v w7 ⟨rfl,e7⟩
  refine ⟨congrArg Value.bool ?_,M.ext.trans e7⟩
  rw [hres]
  obtain ⟨x,r,rfl⟩:∃ x r,of = x :: r:=by
   cases of with
   | nil => cases h0
   | cons x r => exact ⟨x,r,rfl⟩
  rfl
 have o7:¬ op = 7:=o7
 have hop:op = 8 ∨ op = 9:=by omega
 obtain ⟨q,hq⟩:∃ q,q = decide (op = 9):=⟨_,rfl⟩
 refine ⟨_,M.cell 3 (i:=4) rfl rfl,?_⟩
 refine loopE C_ok (fun (i:Nat) => [(3,.pointer (some ⟨g3,0,none⟩)),(4,.pointer (some ⟨g4,0,none⟩)),(5,.pointer (some ⟨g5,0,none⟩)),(81,.slice A of.length c),(82,.int .i64 of.length),(83,.int .i64 (i:Nat))])
  (fun i w' => i <= of.length ∧ Mem w w' [(g5,.cells b.cells.toArray 194 (0,0)),(g4,.cells a.cells.toArray 194 (0,0)),(g3,.cells (Tst.mk op attr side n A c of).cells.toArray 91 (0,0))] ∧ ∀ j (hj:j < of.length),j < i -> holdsT a b of[j] = !q) (fun i => of.length - i) 0 ⟨rfl,rfl,rfl,rfl,rfl,rfl,trivial⟩ ⟨Nat.zero_le _,M.tail,fun _ _ h => absurd h (Nat.not_lt_zero _)⟩ ?_
 clear M
 rintro i w7 ⟨hi,M,hall⟩
 refine brE_dec (fun hlt => ?_) (fun hge => ?_)
 ·have hlti:i < of.length:=by have:(i:Int) < (of.length:Nat):=hlt; omega
  have next:IntKind.i64.wrap ((i:Int) + 1) = ((i + 1:Nat):Int):=fit ⟨by omega,by omega⟩
  obtain ⟨bb,o,hA,hc5⟩:=Reads.elem Tst.len (by omega) (Reads.ext hr (e0.trans M.ext)) hlti
  obtain ⟨x,hx⟩:∃ x,x = of[i]:=⟨_,rfl⟩
  have hc5:Rd w7 bb (o + i * 5) x.cells:=by rw [hx]; exact hc5
  have X:=fun {w:World} (e:Ext w0 w) => kidh i hlti e
  rw [<-hx] at X
  refine ⟨i,bb,o,rfl,hlti,hA,?_⟩
  refine ⟨x.cells,rfl,hc5,?_⟩
  intro g9 w8 h8
  have M8:=M.alloc h8
  refine ⟨rfl,_,_,M8.get 0 rfl,Nat.le_of_ble_eq_true rfl,rfl,?_⟩
  intro w9 h9
  have M9:Mem w w9 [(g9,.cells x.cells.toArray 91 (0,0)),(g5,.cells b.cells.toArray 194 (0,0)),(g4,.cells a.cells.toArray 194 (0,0)),(g3,.cells (Tst.mk op attr side n A c of).cells.toArray 91 (0,0))]:=M8.put 0 rfl h9
  refine ⟨x.cells,rfl,M9.rd 0 rfl,?_⟩
  refine ⟨a.cells,rfl,M9.rd 2 rfl,?_⟩
  refine ⟨b.cells,rfl,M9.rd 1 rfl,?_⟩
  refine ⟨_,M9.cell 3 (i:=0) rfl rfl,?_⟩
  refine (X (e0.trans M9.ext)).mono ?_
  rintro v w10 ⟨rfl,e10⟩
  refine ⟨e10,?_⟩
  have M10:=M9.grow e10
  refine ⟨_,eqBool _ _ _ _,?_⟩
  have hqe:decide (op = 9) = q:=hq.symm
  refine brE_mk (fun hb => ?_) (fun hb => ?_)
  ·have hb:holdsT a b x = q:=by rw [<-hqe]; exact eq_of_beq hb
   refine ⟨_,M10.cell 3 (i:=0) rfl rfl,?_⟩
   refine ⟨congrArg Value.bool ?_,M10.ext⟩
   show decide (op = 9) = res
   rw [hqe,hres]
   have hil:i < (of.map (holdsT a b)).length:=by rw [List.length_map]; exact hlti
   have hil2:(of.map (holdsT a b))[i] = q:=by rw [List.getElem_map,<-hx]; exact hb
   rcases hop with rfl | rfl
   ·have hq0:q = false:=hq
    rw [hq0] at hil2 ⊢
    exact (all_at hil hil2).symm
   ·have hq1:q = true:=hq
    rw [hq1] at hil2 ⊢
    exact (any_at hil hil2).symm
  ·have hb:holdsT a b x = !q:=by
    have hne:¬ holdsT a b x = q:=by rw [<-hqe]; exact fun h => by rw [beq_eq_false_iff_ne] at hb; exact hb h
    cases hh:holdsT a b x <;> cases hqq:q <;> simp_all
   refine ⟨_,next,?_⟩
   refine ⟨i + 1,⟨rfl,rfl,rfl,rfl,rfl,rfl,trivial⟩,⟨hlti,M10.tail,fun j hj hji => ?_⟩,by show of.length - (i + 1) < of.length - i; omega⟩
   by_cases he:j = i
   ·subst he; rw [<-hx]; exact hb
   ·exact hall j hj (by omega)
 ·have hie:i = of.length:=by have:¬ (i:Int) < (of.length:Nat):=hge; omega
  refine ⟨_,M.cell 2 (i:=0) rfl rfl,?_⟩
  refine ⟨congrArg Value.bool ?_,M.ext⟩
  show decide (op = 8) = res
  rw [hres]
  have hmem:∀ v ∈ of.map (holdsT a b),v = !q:=fun v hv => by
   obtain ⟨x,hx,rfl⟩:=List.mem_map.1 hv
   obtain ⟨j,hj,rfl⟩:=List.getElem_of_mem hx
   exact hall j hj (by omega)
  rcases hop with rfl | rfl
  ·have hq0:q = false:=hq
   show true = (of.map (holdsT a b)).all id
   rw [Eq.comm,List.all_eq_true]
   intro v hv
   rw [hmem v hv,hq0]; rfl
  ·have hq1:q = true:=hq
   show false = (of.map (holdsT a b)).any id
   rw [Eq.comm,List.any_eq_false]
   intro v hv
   rw [hmem v hv,hq1]; decide
end Go.Proofs.YtigapannpbaihaaGreat.Rk
namespace Go.Eng
open Go.RowKit
section
variable {C:Cfg}
theorem strRange {o:Oper} {t:Nat} {m:Operand} {l:Env} {w:World} {s:ByteArray} (hu:C.P.underlying t = some .string)
  (ho:o.op = .range t m) (hm:evo l m = some (.string s))
  {Q:Value -> World -> Prop} (h:∀ r w',Alloc w r (.stringIter s 0) w' -> Q (.pointer (some ⟨r,0,none⟩)) w'):LoudRun C o l w Q:=by
 intro ρ hρ w₁ hs
 have ha:Alloc w w₁.heap.size (.stringIter s 0) (w₁.alloc (.stringIter s 0)):=by
  have e:w₁.heap.size = w.heap.size:=by rw [hs.heap]
  rw [e]; exact Alloc.of_same hs _
 refine ⟨.pointer (some ⟨w₁.heap.size,0,none⟩),w₁.alloc (.stringIter s 0),_,.inl ?_,h _ _ ha,Same.refl _⟩
 unfold execOp
 rw [ho]
 simp only [hρ _ _ hm]
 have:=run_range_string (P:=C.P) w₁ t s hu
 simp [this,World.iter]
theorem strNext {o:Oper} {it:Operand} {l:Env} {w:World} {r pos:Nat} {s:ByteArray} (hr:w.heap[r]? = some (.stringIter s pos))
  (ho:o.op = .next it true) (hit:evo l it = some (.pointer (some ⟨r,0,none⟩)))
  {Q:Value -> World -> Prop} (h0:¬ pos < s.size -> Q (.tuple #[.bool false]) w)
  (h1:pos < s.size -> ∀ w',Put w r (.stringIter s (pos + (Utf8.decode s pos).2)) w' -> Q (.tuple #[.bool true,.int .i64 (pos:Nat),.int .i32 ((Utf8.decode s pos).1:Nat)]) w'):LoudRun C o l w Q:=by
 intro ρ hρ w₁ hs
 have hr1:w₁.heap[r]? = some (.stringIter s pos):=by rw [hs.heap]; exact hr
 have exec:∀ v w2,(Instr.next (.pointer (some ⟨r,0,none⟩)) true o.type).run C.P w₁ = .ok v w2 -> (execOp ρ o).run C.P w₁ = .ok (.value v) w2:=fun v w2 hh => by
  unfold execOp
  rw [ho]
  simp only [hρ _ _ hit]
  simp [hh]
 by_cases hp:pos < s.size
 ·have hput:Put w r (.stringIter s (pos + (Utf8.decode s pos).2)) (Go.ChangeMaps.setBlock w₁ r (.stringIter s (pos + (Utf8.decode s pos).2))):=put_setObj hs hr
  exact ⟨_,_,_,.inl (exec _ _ (Lib.run_next_any_at w₁ r s pos o.type hr1 hp)),h1 hp _ hput,Same.refl _⟩
 ·exact ⟨_,w,w₁,.inl (exec _ _ (Lib.run_next_end_at w₁ r s pos o.type hr1 hp)),h0 hp,hs⟩
end
theorem decodeN_low (n b0 b1 b2 b3:Nat) (h:(Lib.decodeN n b0 b1 b2 b3).1 < 128):b0 < 128:=by
 unfold Lib.decodeN at h
 repeat' split at h
 all_goals first | assumption | (simp only at h; omega)
theorem decode_low {s:ByteArray} {i:Nat} (hi:i < s.size) (h:(Utf8.decode s i).1 < 128):Utf8.decode s i = ((s[i]'hi).toNat,1):=by
 refine decode_ascii s i hi ?_
 rw [Lib.decode_at] at h
 have e:s.get! i = s[i]'hi:=by
  simp [ByteArray.get!,getElem!_pos,hi]
  rfl
 rw [<-e]
 exact decodeN_low _ _ _ _ _ h
end Go.Eng
namespace Go.Proofs.YtigapannpbaihaaGreat.Rk
open Go.Eng Go.RowKit
def joinZ (n:Int):Bool:=decide ((97 <= n ∧ n <= 122) ∨ (48 <= n ∧ n <= 57) ∨ n = 45)
theorem joinT {n:Int} (h:(97 <= n ∧ n <= 122) ∨ (48 <= n ∧ n <= 57) ∨ n = 45):true = joinZ n:=(decide_eq_true h).symm
theorem joinD {n:Int} (h:¬ ((97 <= n ∧ n <= 122) ∨ (48 <= n ∧ n <= 57))):decide (n = 45) = joinZ n:=decide_eq_decide.2 (by omega)
theorem joinZ_iff {n:Int}:joinZ n = true <-> ((97 <= n ∧ n <= 122) ∨ (48 <= n ∧ n <= 57) ∨ n = 45):=decide_eq_true_iff
def wordB (s:ByteArray):Bool:=decide ((1 <= s.size ∧ s.size <= 24) ∧ (∀ b,s[0]? = some b -> 97 <= b.toNat ∧ b.toNat <= 122) ∧ ∀ i (h:i < s.size),joinZ (s[i].toNat:Nat) = true)
theorem wordB_no {s:ByteArray} (h:¬ ((1 <= s.size ∧ s.size <= 24) ∧ (∀ b,s[0]? = some b -> 97 <= b.toNat ∧ b.toNat <= 122) ∧ ∀ i (h:i < s.size),joinZ (s[i].toNat:Nat) = true)):false = wordB s:=(decide_eq_false h).symm
theorem ba_at {s:ByteArray} {i:Nat} (h:i < s.size):s[i]? = some s[i]:=getElem?_pos s i h
theorem joins_spec (n:Int) (w:World):CallsV C.P 173 #[.int .i32 n] w fun v w' => v = .bool (joinZ n) ∧ w' = w:=by
 refine callsV_of C_ok (args:=[_]) (plans:=[]) Tryz.func173 rfl Tryz.ntmps173 (by kernel_rfl) (Nat.le_of_ble_eq_true rfl) ?_
 refine brE_dec (fun a => ?_) (fun a => ?_)
 ·have a:n >= 97:=a
  refine brE_dec (fun b => ?_) (fun b => ?_)
  ·have b:n <= 122:=b
   exact ⟨congrArg Value.bool (joinT (by omega)),rfl⟩
  ·have b:¬ n <= 122:=b
   refine brE_dec (fun c => ?_) (fun c => ?_)
   ·have c:n >= 48:=c
    refine brE_dec (fun d => ?_) (fun d => ?_)
    ·have d:n <= 57:=d
     exact ⟨congrArg Value.bool (joinT (by omega)),rfl⟩
    ·have d:¬ n <= 57:=d
     exact ⟨congrArg Value.bool (joinD (by omega)),rfl⟩
   ·have c:¬ n >= 48:=c
    exact ⟨congrArg Value.bool (joinD (by omega)),rfl⟩
 ·have a:¬ n >= 97:=a
  refine brE_dec (fun c => ?_) (fun c => ?_)
  ·have c:n >= 48:=c
   refine brE_dec (fun d => ?_) (fun d => ?_)
   ·have d:n <= 57:=d
    exact ⟨congrArg Value.bool (joinT (by omega)),rfl⟩
   ·have d:¬ n <= 57:=d
    exact ⟨congrArg Value.bool (joinD (by omega)),rfl⟩
  ·have c:¬ n >= 48:=c
   exact ⟨congrArg Value.bool (joinD (by omega)),rfl⟩
theorem isWord1_spec (n:Int) (w:World):CallsV C.P 172 #[.int .i32 n] w fun v w' => v = .bool (!joinZ n) ∧ w' = w:=by
 refine callsV_of C_ok (args:=[_]) (plans:=[]) Tryz.func172 rfl Tryz.ntmps172 (by kernel_rfl) (Nat.le_of_ble_eq_true rfl) ?_
 refine (joins_spec n w).mono ?_
 rintro v w' ⟨rfl,rfl⟩
 exact ⟨rfl,rfl⟩
set_option maxRecDepth 100000 in
theorem indexW_spec (s:ByteArray) (w:World) :
  CallsV C.P 262 #[.string s,.func (.func 172) #[] #[],.bool true] w fun v w' => (∃ z:Int,v = .int .i64 z ∧ (z >= 0 <-> ¬ ∀ i (h:i < s.size),joinZ (s[i].toNat:Nat) = true)) ∧ Ext w w':=by
 refine callsV_of C_ok (args:=[_,_,_]) (plans:=[]) Tryz.func262 rfl Tryz.ntmps262 (by kernel_rfl) (Nat.le_of_ble_eq_true rfl) ?_
 refine strRange under9 rfl rfl ?_
 intro r w1 h1
 have M1:=(Mem.start w).alloc h1
 refine loopE C_ok (fun (_:Nat) => [(0,.string s),(1,.func (.func 172) #[] #[]),(2,.bool true),(10,.pointer (some ⟨r,0,none⟩))])
  (fun pos w' => Mem w w' [(r,.stringIter s pos)] ∧ pos <= s.size ∧ ∀ i (h:i < s.size),i < pos -> joinZ (s[i].toNat:Nat) = true) (fun pos => s.size - pos) 0 ⟨rfl,rfl,rfl,rfl,trivial⟩ ⟨M1,Nat.zero_le _,fun _ _ h => absurd h (Nat.not_lt_zero _)⟩ ?_
 rintro pos w2 ⟨M,hp,hall⟩
 refine strNext (M.get 0 rfl) rfl rfl (fun hge => ?_) (fun hlt w3 h3 => ?_)
 ·exact ⟨⟨-1,rfl,⟨fun h => absurd h (by decide),fun h => absurd (fun i hi => hall i hi (by omega)) h⟩⟩,M.ext⟩
 ·have M3:=M.put 0 rfl h3
  refine (isWord1_spec _ w3).mono ?_
  rintro v w4 ⟨rfl,rfl⟩
  refine ⟨_,eqBool _ _ _ _,?_⟩
  refine brE_mk (fun hb => ?_) (fun hb => ?_)
  ·have hj:joinZ ((Utf8.decode s pos).1:Nat) = false:=by simpa using hb
   refine ⟨⟨(pos:Nat),rfl,⟨fun _ hh => ?_,fun _ => Int.natCast_nonneg _⟩⟩,M3.ext⟩
   have hb:=hh pos hlt
   have hlow:(s[pos].toNat) < 128:=by have:=joinZ_iff.1 hb; omega
   rw [decode_ascii s pos hlt hlow] at hj
   rw [hb] at hj
   cases hj
  ·have hj:joinZ ((Utf8.decode s pos).1:Nat) = true:=by simpa using hb
   have hlow:(Utf8.decode s pos).1 < 128:=by have:=joinZ_iff.1 hj; omega
   have hd:=decode_low hlt hlow
   rw [hd] at M3 hj
   refine ⟨pos + 1,⟨rfl,rfl,rfl,rfl,trivial⟩,⟨M3,hlt,fun i hi hip => ?_⟩,by show s.size - (pos + 1) < s.size - pos; omega⟩
   by_cases he:i = pos
   ·subst he; exact hj
   ·exact hall i hi (by omega)
set_option maxRecDepth 100000 in
theorem isWord_spec (s:ByteArray) (w:World) (hs:s.size <= 9223372036854775807):CallsV C.P 124 #[.string s] w fun v w' => v = .bool (wordB s) ∧ Ext w w':=by
 refine callsV_of C_ok (args:=[_]) (plans:=[]) Tryz.func124 rfl Tryz.ntmps124 (by kernel_rfl) (Nat.le_of_ble_eq_true rfl) ?_
 refine ⟨_,eqStr _ _ _ _,?_⟩
 refine brE_dec (fun c1 => ?_) (fun c1 => ?_)
 ·have c1:s = ⟨#[]⟩:=c1
  exact ⟨congrArg Value.bool (wordB_no fun h => by have h1:=h.1.1; rw [c1] at h1; exact absurd h1 (by decide)),Ext.refl _⟩
 have c1:¬ s = ⟨#[]⟩:=c1
 have h0:0 < s.size:=by
  rcases Nat.eq_zero_or_pos s.size with h | h
  ·exact absurd (by cases s with | mk d => congr 1; exact Array.eq_empty_of_size_eq_zero h) c1
  ·exact h
 refine brE_dec (fun c2 => ?_) (fun c2 => ?_)
 ·have c2:((s.size:Nat):Int) > 24:=c2
  exact ⟨congrArg Value.bool (wordB_no fun h => by have h1:=h.1.2; omega),Ext.refl _⟩
 have c2:¬ ((s.size:Nat):Int) > 24:=c2
 refine ⟨0,s[0],rfl,ba_at h0,?_⟩
 refine brE_dec (fun c3 => ?_) (fun c3 => ?_)
 ·have c3:((s[0].toNat:Nat):Int) < 97:=c3
  exact ⟨congrArg Value.bool (wordB_no fun h => by have h1:=h.2.1 _ (ba_at h0); omega),Ext.refl _⟩
 have c3:¬ ((s[0].toNat:Nat):Int) < 97:=c3
 refine ⟨0,s[0],rfl,ba_at h0,?_⟩
 refine brE_dec (fun c4 => ?_) (fun c4 => ?_)
 ·have c4:((s[0].toNat:Nat):Int) > 122:=c4
  exact ⟨congrArg Value.bool (wordB_no fun h => by have h1:=h.2.1 _ (ba_at h0); omega),Ext.refl _⟩
 have c4:¬ ((s[0].toNat:Nat):Int) > 122:=c4
 have hC:CallsV C.P 171 #[.string s,.func (.func 172) #[] #[]] w fun v w' => v = .bool (!wordB s) ∧ Ext w w':=by
  refine callsV_of C_ok (args:=[_,_]) (plans:=[]) Tryz.func171 rfl Tryz.ntmps171 (by kernel_rfl) (Nat.le_of_ble_eq_true rfl) ?_
  have hI:CallsV C.P 218 #[.string s,.func (.func 172) #[] #[]] w fun v w' => (∃ z:Int,v = .int .i64 z ∧ (z >= 0 <-> ¬ ∀ i (h:i < s.size),joinZ (s[i].toNat:Nat) = true)) ∧ Ext w w':=by
   refine callsV_of C_ok (args:=[_,_]) (plans:=[]) Tryz.func218 rfl Tryz.ntmps218 (by kernel_rfl) (Nat.le_of_ble_eq_true rfl) ?_
   exact (indexW_spec s w).mono fun v w' h => h
  refine hI.mono ?_
  rintro v w' ⟨⟨z,rfl,hz⟩,e⟩
  refine ⟨congrArg Value.bool ?_,e⟩
  by_cases hall:∀ i (h:i < s.size),joinZ (s[i].toNat:Nat) = true
  ·have h1:wordB s = true:=decide_eq_true ⟨⟨h0,by omega⟩,fun b hb => by rw [ba_at h0] at hb; cases hb; omega,hall⟩
   rw [h1]
   exact decide_eq_false fun h => hz.1 h hall
  ·have h1:wordB s = false:=decide_eq_false fun h => hall h.2.2
   rw [h1]
   exact decide_eq_true (hz.2 hall)
 refine hC.mono ?_
 rintro v w' ⟨rfl,e⟩
 exact ⟨congrArg Value.bool (Bool.not_not _),e⟩
end Go.Proofs.YtigapannpbaihaaGreat.Rk
namespace Go.Proofs.YtigapannpbaihaaGreat.Rk
open Go.Eng Go.RowKit
structure Rl where
 name:ByteArray
 rank:Int
 weight:Int
 test:Tst
instance:Inhabited Rl:=⟨⟨⟨#[]⟩,0,0,default⟩⟩
def Rl.cells (x:Rl):List Value:=.string x.name :: .int .i64 x.rank :: .int .i64 x.weight :: x.test.cells
def Rl.val (x:Rl):Value:=.agg x.cells.toArray
theorem Rl.len (x:Rl):x.cells.length = 8:=rfl
structure RuleIs (w:World) (x:Rl):Prop where
 name:x.name.size <= 9223372036854775807
 rank:In64 x.rank
 weight:In64 x.weight
 test:TestIs w x.test
structure HRs (w:World) (R:Option Addr) (l:List Rl) (c:Nat):Prop where
 hl:HL Rl.cells w R l c
 each:∀ x ∈ l,RuleIs w x
theorem HRs.ext {w w':World} {R:Option Addr} {l:List Rl} {c:Nat} (h:HRs w R l c) (e:Ext w w'):HRs w' R l c:=⟨h.hl.ext e,fun x hx => ⟨(h.each x hx).name,(h.each x hx).rank,(h.each x hx).weight,(h.each x hx).test.ext e⟩⟩
theorem HRs.at {w:World} {R:Option Addr} {l:List Rl} {c:Nat} (h:HRs w R l c) {i:Nat} (hi:i < l.length):∃ b o,R = some ⟨b,o,none⟩ ∧ Rd w b (o + i * 8) (l[i]).cells:=h.hl.at Rl.len (by omega) hi
theorem Rl.test_part (x:Rl):∀ i v,x.test.cells[i]? = some v -> x.cells[3 + i]? = some v:=by
 intro i v h
 unfold Rl.cells
 rw [show 3 + i = i + 3 by omega]
 exact h
theorem front_eq {A:Option Addr} {c k:Nat}:(if c = 0 then A else A.map (·.add (0 * k))) = A:=by
 split
 ·rfl
 ·cases A with
  | none => rfl
  | some a => obtain ⟨b,o,s⟩:=a; simp [Addr.add]
def sameName (x y:Rl):Bool:=decide (y.name = x.name)
def ruleE (bef:List Rl) (x:Rl):Int :=
 if wordB x.name = false then 4 else if bef.any (sameName x) = true then 6 else if ¬ ((1 <= x.rank ∧ x.rank <= 99) ∧ 1 <= x.weight ∧ x.weight <= 1000) then 1
 else if ¬ fitsP x.test then 2 else if shapedT x.test = false then 1 else 0
def listE:List Rl -> List Rl -> Int
 | _,[] => 0
 | bef,x :: r => if ruleE bef x ≠ 0 then ruleE bef x else listE (bef ++ [x]) r
def chkRl (l:List Rl):Int:=if 24 < l.length then 2 else listE [] l
theorem listE_step {l:List Rl} {i:Nat} (hi:i < l.length):listE (l.take i) (l.drop i) = if ruleE (l.take i) l[i] ≠ 0 then ruleE (l.take i) l[i] else listE (l.take (i + 1)) (l.drop (i + 1)):=by
 rw [List.drop_eq_getElem_cons hi,listE,List.take_succ_eq_append_getElem hi]
theorem listE_end (l:List Rl):listE (l.take l.length) (l.drop l.length) = 0:=by
 rw [List.drop_length]; rfl
theorem ruleE_zero {bef:List Rl} {x:Rl} (h:ruleE bef x = 0):wordB x.name = true ∧ bef.any (sameName x) = false ∧ ((1 <= x.rank ∧ x.rank <= 99) ∧ 1 <= x.weight ∧ x.weight <= 1000) ∧ fitsP x.test ∧ shapedT x.test = true:=by
 unfold ruleE at h
 split at h
 ·cases h
 ·split at h
  ·cases h
  ·split at h
   ·cases h
   ·split at h
    ·cases h
    ·split at h
     ·cases h
     ·rename_i k1 k2 k3 k4 k5
      exact ⟨by simpa using k1,by simpa using k2,Decidable.not_not.1 k3,Decidable.not_not.1 k4,by simpa using k5⟩
theorem listE_zero:∀ {bef l:List Rl},listE bef l = 0 -> ∀ x ∈ l,shapedT x.test = true ∧ (1 <= x.rank ∧ x.rank <= 99) ∧ (1 <= x.weight ∧ x.weight <= 1000)
 | _,[],_,x,hx => by cases hx
 | bef,y :: r,h,x,hx => by
  rw [listE] at h
  by_cases h0:ruleE bef y = 0
  ·rw [if_neg (fun e => e h0)] at h
   rcases List.mem_cons.1 hx with rfl | hx
   ·have:=ruleE_zero h0; exact ⟨this.2.2.2.2,this.2.2.1⟩
   ·exact listE_zero h x hx
  ·rw [if_pos h0] at h; exact absurd h h0
theorem chkRl_zero {l:List Rl} (h:chkRl l = 0):l.length <= 24 ∧ ∀ x ∈ l,shapedT x.test = true ∧ (1 <= x.rank ∧ x.rank <= 99) ∧ (1 <= x.weight ∧ x.weight <= 1000):=by
 unfold chkRl at h
 split at h
 ·cases h
 ·exact ⟨by omega,listE_zero h⟩
theorem twice_spec {w0:World} {l:List Rl} {R:Option Addr} {c c':Nat} (h:HL Rl.cells w0 R l c) {g:Nat} {x:Rl} (hg:w0.heap[g]? = some (.cells x.cells.toArray 93 (0,0))) :
  CallsV C.P 125 #[.slice R l.length c',.func (.func 126) #[] #[.pointer (some ⟨g,0,none⟩)]] w0 fun v w' => v = .bool (l.any (sameName x)) ∧ Ext w0 w':=by
 refine callsV_of C_ok (args:=[_,_]) (plans:=[]) Tryz.func125 rfl Tryz.ntmps125 (by kernel_rfl) (Nat.le_of_ble_eq_true rfl) ?_
 have hcap:=h.cap
 have hI:CallsV C.P 174 #[.slice R l.length c',.func (.func 126) #[] #[.pointer (some ⟨g,0,none⟩)]] w0 fun v w' => (∃ z:Int,v = .int .i64 z ∧ (z >= 0 <-> l.any (sameName x) = true)) ∧ Ext w0 w':=by
  refine callsV_of C_ok (args:=[_,_]) (plans:=[]) Tryz.func174 rfl Tryz.ntmps174 (by kernel_rfl) (Nat.le_of_ble_eq_true rfl) ?_
  refine loopE C_ok (fun (i:Nat) => [(0,.slice R l.length c'),(1,.func (.func 126) #[] #[.pointer (some ⟨g,0,none⟩)]),(7,.int .i64 l.length),(8,.int .i64 (i:Nat))])
   (fun i w' => i <= l.length ∧ Ext w0 w' ∧ (l.take i).any (sameName x) = false) (fun i => l.length - i) 0 ⟨rfl,rfl,rfl,rfl,trivial⟩ ⟨Nat.zero_le _,Ext.refl _,rfl⟩ ?_
  rintro i w1 ⟨hi,e1,hall⟩
  refine brE_dec (fun hlt => ?_) (fun hge => ?_)
  ·have hlti:i < l.length:=by have:(i:Int) < (l.length:Nat):=hlt; omega
   have next:IntKind.i64.wrap ((i:Int) + 1) = ((i + 1:Nat):Int):=fit ⟨by omega,by omega⟩
   obtain ⟨b,o,hA,hc5⟩:=(h.ext e1).at Rl.len (by omega) hlti
   obtain ⟨y,hy⟩:∃ y,y = l[i]:=⟨_,rfl⟩
   have hym:y ∈ l:=by rw [hy]; exact List.getElem_mem hlti
   have hst:(l.take (i + 1)).any (sameName x) = ((l.take i).any (sameName x) || sameName x y):=by rw [List.take_succ_eq_append_getElem hlti,List.any_append,<-hy]; simp
   rw [<-hy] at hc5
   refine ⟨i,b,o,rfl,hlti,hA,?_⟩
   refine ⟨y.cells,rfl,hc5,?_⟩
   have hS:CallsV C.P 126 #[y.val,.pointer (some ⟨g,0,none⟩)] w1 fun v w' => v = .bool (sameName x y) ∧ Ext w1 w':=by
    refine callsV_of C_ok (args:=[_,_]) (plans:=[]) Tryz.func126 rfl Tryz.ntmps126 (by kernel_rfl) (Nat.le_of_ble_eq_true rfl) ?_
    intro g2 w2 h2
    refine ⟨_,cell_of_block (i:=0) h2.here rfl,?_⟩
    refine ⟨_,cell_of_block (i:=0) ((e1.trans h2.ext).heap hg) rfl,?_⟩
    refine ⟨_,eqStr _ _ _ _,?_⟩
    exact ⟨rfl,h2.ext⟩
   refine hS.mono ?_
   rintro v w2 ⟨rfl,e2⟩
   refine brE_mk (fun hb => ?_) (fun hb => ?_)
   ·have hb:sameName x y = true:=hb
    exact ⟨⟨(i:Nat),rfl,⟨fun _ => List.any_eq_true.2 ⟨y,hym,hb⟩,fun _ => Int.natCast_nonneg _⟩⟩,e1.trans e2⟩
   ·have hb:sameName x y = false:=hb
    refine ⟨_,next,?_⟩
    exact ⟨i + 1,⟨rfl,rfl,rfl,rfl,trivial⟩,⟨hlti,e1.trans e2,by rw [hst,hall,hb]; rfl⟩,by show l.length - (i + 1) < l.length - i; omega⟩
  ·have hie:i = l.length:=by have:¬ (i:Int) < (l.length:Nat):=hge; omega
   rw [hie,List.take_length] at hall
   exact ⟨⟨-1,rfl,⟨fun h => absurd h (by decide),fun h => by rw [hall] at h; cases h⟩⟩,e1⟩
 refine hI.mono ?_
 rintro v w' ⟨⟨z,rfl,hz⟩,e⟩
 refine ⟨congrArg Value.bool ?_,e⟩
 cases hs:l.any (sameName x) with
 | true => exact decide_eq_true (hz.2 hs)
 | false => exact decide_eq_false fun h => by rw [hz.1 h] at hs; cases hs
set_option maxRecDepth 100000 in
set_option maxHeartbeats 8000000 in
theorem rulesCheck_spec {w:World} {R:Option Addr} {l:List Rl} {c:Nat} (h:HRs w R l c) :
  CallsV C.P 74 #[.agg #[.slice R l.length c]] w fun v w' => v = .int .i64 (chkRl l) ∧ Ext w w':=by
 have hcap:=h.hl.cap
 refine callsV_of C_ok (args:=[_]) (plans:=[]) Tryz.func74 rfl Tryz.ntmps74 (by kernel_rfl) (Nat.le_of_ble_eq_true rfl) ?_
 intro g1 w1 h1
 have M1:Mem w w1 [(g1,.cells #[.slice R l.length c] 25 (0,0))]:=(Mem.start w).alloc h1
 refine ⟨_,M1.cell 0 rfl rfl,?_⟩
 refine brE_dec (fun c1 => ?_) (fun c1 => ?_)
 ·have c1:((l.length:Nat):Int) > 24:=c1
  exact ⟨congrArg (Value.int .i64) (if_pos (by omega)).symm,M1.ext⟩
 have c1:¬ ((l.length:Nat):Int) > 24:=c1
 have hres:chkRl l = listE [] l:=if_neg (by omega)
 rw [hres]
 refine ⟨_,M1.cell 0 rfl rfl,?_⟩
 refine loopE C_ok (fun (i:Nat) => [(1,.pointer (some ⟨g1,0,none⟩)),(10,.slice R l.length c),(11,.int .i64 l.length),(12,.int .i64 (i:Nat))])
  (fun i w' => i <= l.length ∧ Mem w w' [(g1,.cells #[.slice R l.length c] 25 (0,0))] ∧ listE [] l = listE (l.take i) (l.drop i)) (fun i => l.length - i) 0 ⟨rfl,rfl,rfl,rfl,trivial⟩ ⟨Nat.zero_le _,M1,rfl⟩ ?_
 clear M1
 rintro i w2 ⟨hi,M,hinv⟩
 refine brE_dec (fun hlt => ?_) (fun hge => ?_)
 ·have hlti:i < l.length:=by have:(i:Int) < (l.length:Nat):=hlt; omega
  have next:IntKind.i64.wrap ((i:Int) + 1) = ((i + 1:Nat):Int):=fit ⟨by omega,by omega⟩
  obtain ⟨b,o,hA,hc8⟩:=(h.ext M.ext).at hlti
  have hstep:=listE_step hlti
  have hR:=h.each _ (List.getElem_mem hlti)
  obtain ⟨x,hx⟩:∃ x,x = l[i]:=⟨_,rfl⟩
  rw [<-hx] at hc8 hstep hR
  refine ⟨i,b,o,rfl,hlti,hA,?_⟩
  refine ⟨x.cells,rfl,hc8,?_⟩
  intro g4 w3 h3
  have M3:=M.alloc h3
  refine ⟨rfl,_,_,M3.get 0 rfl,Nat.le_of_ble_eq_true rfl,rfl,?_⟩
  intro w4 h4
  have M:Mem w w4 [(g4,.cells x.cells.toArray 93 (0,0)),(g1,.cells #[.slice R l.length c] 25 (0,0))]:=M3.put 0 rfl h4
  clear M3 h3 h4
  have bad:∀ {e:Int},ruleE (l.take i) x = e -> e ≠ 0 -> Value.int .i64 e = .int .i64 (listE [] l):=fun {e} he hn => by rw [hinv,hstep,if_pos (by rw [he]; exact hn),he]
  refine ⟨_,M.cell 0 (i:=0) rfl rfl,?_⟩
  refine (isWord_spec x.name w4 hR.name).mono ?_
  rintro v w5 ⟨rfl,e5⟩
  have M:=M.grow e5
  refine brE_mk (fun b1 => ?_) (fun b1 => ?_)
  ·have b1:wordB x.name = false:=by simpa using b1
   exact ⟨bad (if_pos b1) (by decide),M.ext⟩
  have b1:¬ wordB x.name = false:=by simpa using b1
  refine ⟨_,M.cell 1 (i:=0) rfl rfl,?_⟩
  refine ⟨0,i,rfl,rfl,Nat.zero_le _,by have:=h.hl.len; omega,?_⟩
  refine ⟨[],[.pointer (some ⟨g4,0,none⟩)],rfl,rfl,?_⟩
  have hfr:HL Rl.cells w5 R (l.take i) c:=by
   refine ⟨?_,by rw [List.length_take]; have:=h.hl.len; omega,by rw [List.length_take]; omega⟩
   have hr:=(h.hl.ext M.ext).reads
   rcases hr with hr | ⟨bb,oo,hAA,hr⟩
   ·left
    have:l = []:=by
     cases l with
     | nil => rfl
     | cons y r => simp [Rl.cells] at hr
    rw [this]; simp
   ·refine .inr ⟨bb,oo,hAA,fun j v hv => hr j v ?_⟩
    have hspl:l.flatMap Rl.cells = (l.take i).flatMap Rl.cells ++ (l.drop i).flatMap Rl.cells:=by rw [<-List.flatMap_append,List.take_append_drop]
    rw [hspl,List.getElem?_append_left (List.getElem?_eq_some_iff.1 hv).1]
    exact hv
  have hT:=twice_spec (c':=c) hfr (M.get 0 rfl)
  rw [show (l.take i).length = i from by rw [List.length_take]; omega] at hT
  have hsl:(Value.slice (if c = 0 then R else R.map (·.add (0 * 8))) (i - 0) (c - 0)) = .slice R i c:=by rw [front_eq]; rfl
  rw [<-hsl] at hT
  refine hT.mono ?_
  rintro v w6 ⟨rfl,e6⟩
  have M:=M.grow e6
  refine brE_mk (fun b2 => ?_) (fun b2 => ?_)
  ·have b2:(l.take i).any (sameName x) = true:=b2
   exact ⟨bad ((if_neg b1).trans (if_pos b2)) (by decide),M.ext⟩
  have b2:¬ (l.take i).any (sameName x) = true:=by have b2:(l.take i).any (sameName x) = false:=b2; rw [b2]; decide
  have bad3:¬ ((1 <= x.rank ∧ x.rank <= 99) ∧ 1 <= x.weight ∧ x.weight <= 1000) -> Value.int .i64 1 = .int .i64 (listE [] l):=fun hn => bad ((if_neg b1).trans ((if_neg b2).trans (if_pos hn))) (by decide)
  refine ⟨_,M.cell 0 (i:=1) rfl rfl,?_⟩
  refine brE_dec (fun c2 => ?_) (fun c2 => ?_)
  ·have c2:x.rank < 1:=c2
   exact ⟨bad3 (by omega),M.ext⟩
  have c2:¬ x.rank < 1:=c2
  refine ⟨_,M.cell 0 (i:=1) rfl rfl,?_⟩
  refine brE_dec (fun c3 => ?_) (fun c3 => ?_)
  ·have c3:x.rank > 99:=c3
   exact ⟨bad3 (by omega),M.ext⟩
  have c3:¬ x.rank > 99:=c3
  refine ⟨_,M.cell 0 (i:=2) rfl rfl,?_⟩
  refine brE_dec (fun c4 => ?_) (fun c4 => ?_)
  ·have c4:x.weight < 1:=c4
   exact ⟨bad3 (by omega),M.ext⟩
  have c4:¬ x.weight < 1:=c4
  refine ⟨_,M.cell 0 (i:=2) rfl rfl,?_⟩
  refine brE_dec (fun c5 => ?_) (fun c5 => ?_)
  ·have c5:x.weight > 1000:=c5
   exact ⟨bad3 (by omega),M.ext⟩
  have c5:¬ x.weight > 1000:=c5
  have b3:¬ ¬ ((1 <= x.rank ∧ x.rank <= 99) ∧ 1 <= x.weight ∧ x.weight <= 1000):=fun hn => hn ⟨⟨by omega,by omega⟩,by omega,by omega⟩
  refine ⟨x.test.cells,rfl,(M.rd 0 rfl).part x.test_part,?_⟩
  refine (fits_spec (hR.test.ext M.ext)).mono ?_
  rintro v w7 ⟨rfl,e7⟩
  have M:=M.grow e7
  refine brE_ndec (fun b4 => ?_) (fun b4 => ?_)
  ·have b4:¬ fitsP x.test:=b4
   exact ⟨bad ((if_neg b1).trans ((if_neg b2).trans ((if_neg b3).trans (if_pos b4)))) (by decide),M.ext⟩
  have b4:¬ ¬ fitsP x.test:=fun hn => hn b4
  refine ⟨x.test.cells,rfl,(M.rd 0 rfl).part x.test_part,?_⟩
  refine (shaped_spec (hR.test.ext M.ext) (Ext.refl _)).mono ?_
  rintro v w8 ⟨rfl,e8⟩
  have M:=M.grow e8
  refine brE_mk (fun b5 => ?_) (fun b5 => ?_)
  ·have b5:shapedT x.test = false:=by simpa using b5
   exact ⟨bad ((if_neg b1).trans ((if_neg b2).trans ((if_neg b3).trans ((if_neg b4).trans (if_pos b5))))) (by decide),M.ext⟩
  have b5:¬ shapedT x.test = false:=by simpa using b5
  have hz:ruleE (l.take i) x = 0:=(if_neg b1).trans ((if_neg b2).trans ((if_neg b3).trans ((if_neg b4).trans (if_neg b5))))
  rw [hz,if_neg (fun e => e rfl)] at hstep
  refine ⟨_,next,?_⟩
  exact ⟨i + 1,⟨rfl,rfl,rfl,rfl,trivial⟩,⟨hlti,M.tail,hinv.trans hstep⟩,by show l.length - (i + 1) < l.length - i; omega⟩
 ·have hie:i = l.length:=by have:¬ (i:Int) < (l.length:Nat):=hge; omega
  rw [hie,listE_end] at hinv
  exact ⟨congrArg (Value.int .i64) hinv.symm,M.ext⟩
end Go.Proofs.YtigapannpbaihaaGreat.Rk
namespace Go.Proofs.YtigapannpbaihaaGreat.Rk
open Go.Eng Go.RowKit Go.ChangeShapes Go.WideShapes Go.ChangeAt
theorem flat_range {α:Type} {enc:α -> List Value} {k:Nat} (hk:∀ x,(enc x).length = k) (k0:0 < k) (f:Nat -> α) (n i:Nat) (v:Value) (h:(((List.range n).map f).flatMap enc)[i]? = some v):∃ q j,q < n ∧ j < k ∧ i = q * k + j ∧ (enc (f q))[j]? = some v:=by
 have hl:=flat_length hk ((List.range n).map f)
 have hi:=(List.getElem?_eq_some_iff.1 h).1
 rw [hl] at hi
 simp at hi
 have hq:i / k < n:=Nat.div_lt_of_lt_mul (by rw [Nat.mul_comm]; exact hi)
 have hq':i / k < ((List.range n).map f).length:=by simpa using hq
 have hj:i % k < k:=Nat.mod_lt _ k0
 have e:i / k * k + i % k = i:=Nat.div_add_mod' i k
 refine ⟨i / k,i % k,hq,hj,e.symm,?_⟩
 have:=flat_get hk ((List.range n).map f) (i / k) (i % k) hq' hj
 rw [e,h] at this
 rw [this]
 simp
section
variable {H:Type} {enc:TypeId × Value -> H} {W:World}
set_option maxRecDepth 100000 in
theorem open_row {α:Type} [Inhabited α] {ec:α -> List Value} {k TS T n:Nat} {Pn:α -> Prop} (hk:∀ x,(ec x).length = k) (k0:0 < k) (hfirst:∀ (a:Addr) (y:α),W.cell? a = (ec y)[0]? -> a.spot = none)
  (hu:Tryz.prog.underlying TS = some (.slice T)) (hcl:Tryz.prog.cellsOf T = k)
  (ho:∀ {cs:List Value} {x:DataW H × List MemPlace},DataW.trod enc Tryz.prog W 0 (fun _ => true) true n T cs = some x -> ∃ y:α,cs = ec y ∧ Pn y)
  {cs:List Value} {x:DataW H × List MemPlace} (h:DataW.trod enc Tryz.prog W 0 (fun _ => true) true (n + 1) TS cs = some x) :
  ∃ A l c,cs = [.slice A l.length c] ∧ HL ec W A l c ∧ ∀ y ∈ l,Pn y:=by
 rcases DataW.trod_slice hu h with ⟨e1,_⟩ | ⟨a,len,cap,elems,rest,n',hn,e1,_,hb,hl,hm,hlen,hel,hsp,hns⟩
 ·exact ⟨none,[],0,e1,⟨.inl rfl,Nat.le_refl _,by simp⟩,by simp⟩
 ·obtain rfl:n = n':=by omega
  rw [hcl] at hel
  obtain ⟨f,hf2⟩:=Deep.choose_lt (n:=len) (p:=fun i (y:α) => W.cells? 0 (a.add (i * k)) k = some (ec y) ∧ Pn y) (fun i hi => by
   have h1:=hel i hi
   rw [List.getElem?_eq_getElem (by omega)] at h1
   obtain ⟨cs',h2,h3⟩:=Option.bind_eq_some_iff.1 h1
   obtain ⟨y,rfl,hy⟩:=ho h3
   exact ⟨y,h2,hy⟩)
  have hll:((List.range len).map f).length = len:=by simp
  refine ⟨some a,(List.range len).map f,cap,by rw [hll]; exact e1,⟨?_,by rw [hll]; exact hl,by rw [hll]; simp only [maxLen] at hm; omega⟩,?_⟩
  ·by_cases h0:len = 0
   ·subst h0; exact .inl rfl
   ·have hc:∀ i < len,∀ j < k,W.cell? ((a.add (i * k)).add j) = (ec (f i))[j]?:=fun i hi j hj => (World.cells?_some (hf2 i (by omega)).1).2.2 j hj
    have hs:a.spot = none:=by
     have h1:=hc 0 (by omega) 0 k0
     have e0:(a.add (0 * k)).add 0 = a:=by
      rw [Nat.zero_mul]; rfl
     rw [e0] at h1
     exact hfirst a _ h1
    obtain ⟨b,o,sp⟩:=a
    simp only at hs
    subst hs
    refine .inr ⟨b,o,rfl,fun i v hv => ?_⟩
    obtain ⟨q,j,hq,hj,rfl,hg⟩:=flat_range hk k0 f len i v hv
    have:=hc q hq j hj
    rw [hg] at this
    rw [<-this]
    rw [add_spot,add_spot,Nat.add_assoc]
  ·intro y hy
   obtain ⟨i,hi,rfl⟩:=List.mem_map.1 hy
   exact (hf2 i (by have:=List.mem_range.1 hi; omega)).2
theorem cellsT:Tryz.prog.cellsOf 91 = 5:=by kernel_rfl
theorem cellsTs:Tryz.prog.cellsOf 89 = 1:=by kernel_rfl
theorem cellsRl:Tryz.prog.cellsOf 93 = 8:=by kernel_rfl
theorem cellsRls:Tryz.prog.cellsOf 23 = 1:=by kernel_rfl
theorem cellsRs:Tryz.prog.cellsOf 25 = 1:=by kernel_rfl
theorem underTs:Tryz.prog.underlying 89 = some (.slice 91):=by kernel_rfl
theorem underRls:Tryz.prog.underlying 23 = some (.slice 93):=by kernel_rfl
theorem underT:Tryz.prog.underlying 91 = some (.struct #[⟨ "Op",5,0,false, "", "",0⟩,⟨ "Attr",5,1,false, "", "",1⟩,⟨ "Side",5,2,false, "", "",2⟩,⟨ "N",3,3,false, "", "",8⟩,⟨ "Of",89,4,false, "", "",16⟩]):=by kernel_rfl
theorem underRl:Tryz.prog.underlying 93 = some (.struct #[⟨ "Name",9,0,false, "", "",0⟩,⟨ "Rank",3,1,false, "", "",16⟩,⟨ "Weight",3,2,false, "", "",24⟩,⟨ "If",91,3,false, "", "",32⟩]):=by kernel_rfl
theorem underRs:Tryz.prog.underlying 25 = some (.struct #[⟨ "List",23,0,false, "", "",0⟩]):=by kernel_rfl
theorem list5' {l:List Value} (h:l.length = 5):∃ a b c d e,l = [a,b,c,d,e]:=by
 match l,h with
 | [a,b,c,d,e],_ => exact ⟨a,b,c,d,e,rfl⟩
set_option maxRecDepth 100000 in
theorem open_test (fuel:Nat):∀ {cs:List Value} {x:DataW H × List MemPlace},DataW.trod enc Tryz.prog W 0 (fun _ => true) true fuel 91 cs = some x -> ∃ t:Tst,cs = t.cells ∧ TestIs W t:=by
 induction fuel using Nat.strongRecOn with
 | _ fuel ih =>
 intro cs x h
 obtain ⟨xs,n,hfu,_,hlen,hxs,hg⟩:=DataW.trod_struct underT h
 rw [cellsT] at hlen
 obtain ⟨a0,a1,a2,a3,a4,rfl⟩:=list5' hlen
 have some5:∀ i,i < 5 -> ∃ y,xs[i]? = some y:=fun i hi => ⟨_,List.getElem?_eq_getElem (by rw [hxs]; exact hi)⟩
 obtain ⟨y0,hy0⟩:=some5 0 (by omega)
 obtain ⟨y1,hy1⟩:=some5 1 (by omega)
 obtain ⟨y2,hy2⟩:=some5 2 (by omega)
 obtain ⟨y3,hy3⟩:=some5 3 (by omega)
 obtain ⟨y4,hy4⟩:=some5 4 (by omega)
 have f0:DataW.trod enc Tryz.prog W 0 (fun _ => true) true n 5 (([a0,a1,a2,a3,a4].drop 0).take (Tryz.prog.cellsOf 5)) = xs[0]?:=hg 0 _ rfl
 have f1:DataW.trod enc Tryz.prog W 0 (fun _ => true) true n 5 (([a0,a1,a2,a3,a4].drop 1).take (Tryz.prog.cellsOf 5)) = xs[1]?:=hg 1 _ rfl
 have f2:DataW.trod enc Tryz.prog W 0 (fun _ => true) true n 5 (([a0,a1,a2,a3,a4].drop 2).take (Tryz.prog.cellsOf 5)) = xs[2]?:=hg 2 _ rfl
 have f3:DataW.trod enc Tryz.prog W 0 (fun _ => true) true n 3 (([a0,a1,a2,a3,a4].drop 3).take (Tryz.prog.cellsOf 3)) = xs[3]?:=hg 3 _ rfl
 have f4:DataW.trod enc Tryz.prog W 0 (fun _ => true) true n 89 (([a0,a1,a2,a3,a4].drop 4).take (Tryz.prog.cellsOf 89)) = xs[4]?:=hg 4 _ rfl
 rw [cells5,hy0] at f0
 rw [cells5,hy1] at f1
 rw [cells5,hy2] at f2
 rw [cells3,hy3] at f3
 rw [cellsTs,hy4] at f4
 obtain ⟨z0,q0,_,w0⟩:=DataW.trod_int under5 f0
 obtain ⟨z1,q1,_,w1⟩:=DataW.trod_int under5 f1
 obtain ⟨z2,q2,_,w2⟩:=DataW.trod_int under5 f2
 obtain ⟨z3,q3,_,w3⟩:=DataW.trod_int under3 f3
 have hn:∃ m,n = m + 1:=by
  cases n with
  | zero => simp [DataW.trod] at f4
  | succ m => exact ⟨m,rfl⟩
 obtain ⟨m,rfl⟩:=hn
 obtain ⟨A,l,c,q4,hHL,hkids⟩:=open_row (ec:=Tst.cells) (k:=5) (n:=m) (Pn:=TestIs W) Tst.len (by omega) (fun a y h2 => by
  have h2:W.cell? a = some (.int .u8 y.op):=h2
  unfold World.cell? at h2
  cases hsp:a.spot with
  | none => rfl
  | some s =>
   simp only [hsp] at h2
   split at h2 <;> simp at h2) underTs cellsT (fun hh => ih m (by omega) hh) f4
 simp at q0 q1 q2 q3 q4
 subst q0 q1 q2 q3 q4
 exact ⟨.mk z0 z1 z2 z3 A c l,rfl,.mk ⟨wf_u8 w0,wf_u8 w1,wf_u8 w2,wf_in64 w3⟩ hHL.reads hHL.len hHL.cap hkids⟩
set_option maxRecDepth 100000 in
theorem open_rule {fuel:Nat} {cs:List Value} {x:DataW H × List MemPlace} (h:DataW.trod enc Tryz.prog W 0 (fun _ => true) true fuel 93 cs = some x):∃ t:Rl,cs = t.cells ∧ RuleIs W t:=by
 obtain ⟨xs,n,_,_,hlen,hxs,hg⟩:=DataW.trod_struct underRl h
 rw [cellsRl] at hlen
 have some4:∀ i,i < 4 -> ∃ y,xs[i]? = some y:=fun i hi => ⟨_,List.getElem?_eq_getElem (by rw [hxs]; exact hi)⟩
 obtain ⟨y0,hy0⟩:=some4 0 (by omega)
 obtain ⟨y1,hy1⟩:=some4 1 (by omega)
 obtain ⟨y2,hy2⟩:=some4 2 (by omega)
 obtain ⟨y3,hy3⟩:=some4 3 (by omega)
 have f0:DataW.trod enc Tryz.prog W 0 (fun _ => true) true n 9 ((cs.drop 0).take (Tryz.prog.cellsOf 9)) = xs[0]?:=hg 0 _ rfl
 have f1:DataW.trod enc Tryz.prog W 0 (fun _ => true) true n 3 ((cs.drop 1).take (Tryz.prog.cellsOf 3)) = xs[1]?:=hg 1 _ rfl
 have f2:DataW.trod enc Tryz.prog W 0 (fun _ => true) true n 3 ((cs.drop 2).take (Tryz.prog.cellsOf 3)) = xs[2]?:=hg 2 _ rfl
 have f3:DataW.trod enc Tryz.prog W 0 (fun _ => true) true n 91 ((cs.drop 3).take (Tryz.prog.cellsOf 91)) = xs[3]?:=hg 3 _ rfl
 rw [cells9,hy0] at f0
 rw [cells3,hy1] at f1
 rw [cells3,hy2] at f2
 rw [cellsT,hy3] at f3
 obtain ⟨s0,q0,_,w0⟩:=DataW.trod_string under9 f0
 obtain ⟨z1,q1,_,w1⟩:=DataW.trod_int under3 f1
 obtain ⟨z2,q2,_,w2⟩:=DataW.trod_int under3 f2
 obtain ⟨t,q3,ht⟩:=open_test n f3
 refine ⟨⟨s0,z1,z2,t⟩,?_,⟨by simpa [maxLen] using w0,wf_in64 w1,wf_in64 w2,ht⟩⟩
 match cs,hlen,q0,q1,q2,q3 with
 | [a0,a1,a2,a3,a4,a5,a6,a7],_,q0,q1,q2,q3 =>
  simp at q0 q1 q2 q3
  subst q0 q1 q2
  show _ = _ :: _ :: _ :: t.cells
  rw [<-q3]
end
section
variable {H:Type} {enc:TypeId × Value -> H} {P:Program} {w:World} {base:Nat} {spare:Nat -> Bool} {held:Bool}
end
end Go.Proofs.YtigapannpbaihaaGreat.Rk
namespace Go.Proofs.YtigapannpbaihaaGreat.Rk
open Go.Eng Go.RowKit
end Go.Proofs.YtigapannpbaihaaGreat.Rk
namespace Go.Proofs.YtigapannpbaihaaGreat.Rk
open Go.Eng Go.RowKit
theorem ltA_iff {a b:Arrow}:ltA a b = true <-> (a.fr < b.fr ∨ a.fr = b.fr ∧ a.to < b.to):=by simp [ltA]
theorem ltA_trans {a b c:Arrow} (h:ltA a b = true) (k:ltA b c = true):ltA a c = true:=by rw [ltA_iff] at *; omega
theorem Valid.next_lt {N:Int} {xs:List Arrow} (h:Valid N xs) {i:Nat} (hi:i + 1 < xs.length):ltA xs[i] xs[i + 1] = true:=by
 have:=h.at_ hi
 unfold okAt at this
 have h2:i < xs.length:=by omega
 simp [hi,h2] at this
 exact this.2
theorem Valid.lt {N:Int} {xs:List Arrow} (h:Valid N xs) {i:Nat}:∀ {j:Nat} (hij:i < j) (hj:j < xs.length),ltA xs[i] xs[j] = true
 | 0,hij,_ => absurd hij (Nat.not_lt_zero _)
 | j + 1,hij,hj => by
  have hn:=h.next_lt hj
  by_cases e:i = j
  ·subst e; exact hn
  ·exact ltA_trans (h.lt (by omega) (by omega)) hn
theorem cmpA_lt (a b:Arrow):cmpA a b < 0 <-> ltA a b = true:=by
 have:=cmpA_neg a b
 cases h:ltA a b with
 | true => simp [h] at this; simp; omega
 | false => simp [h] at this; simp; omega
def arrowZ:Arrow:=⟨0,0,0,0⟩
end Go.Proofs.YtigapannpbaihaaGreat.Rk
namespace Go.Proofs.YtigapannpbaihaaGreat.Rk
open Go.Eng Go.RowKit
end Go.Proofs.YtigapannpbaihaaGreat.Rk
namespace Go.Proofs.YtigapannpbaihaaGreat.Rk
open Go.Eng Go.RowKit
theorem Circles1_spec (A:Option Addr) (n c:Nat) (w:World):CallsV C.P 143 #[.slice A n c] w fun v w' => v = .bool (decide (n < 2)) ∧ w' = w:=by
 refine callsV_of C_ok (args:=[_]) (plans:=[]) Tryz.func143 rfl Tryz.ntmps143 (by kernel_rfl) (Nat.le_of_ble_eq_true rfl) ?_
 refine ⟨?_,rfl⟩
 congr 1
 rw [decide_eq_decide]
 omega
def keepL (L:List (List Int)) (j:Nat):List (List Int):=(L.take j).filter fun l => !decide (l.length < 2)
def keepU (us:List Value) (L:List (List Int)) (j:Nat):List Value:=(((us.zip L).take j).filter fun p => !decide (p.2.length < 2)).map Prod.fst
theorem keep_succ {us:List Value} {L:List (List Int)} {j:Nat} (hu:us.length = L.length) (hj:j < L.length) :
  keepL L (j + 1) = (if L[j].length < 2 then keepL L j else keepL L j ++ [L[j]]) ∧ keepU us L (j + 1) = (if L[j].length < 2 then keepU us L j else keepU us L j ++ [us[j]'(by omega)]):=by
 have hz:j < (us.zip L).length:=by simp; omega
 unfold keepL keepU
 rw [List.take_succ_eq_append_getElem hj,List.take_succ_eq_append_getElem hz,List.filter_append,List.filter_append,List.map_append]
 by_cases h:L[j].length < 2 <;> simp [h]
theorem keep_same {us:List Value} {L:List (List Int)} (hu:us.length = L.length):∀ j,(keepU us L j).length = (keepL L j).length:=by
 intro j
 induction j with
 | zero => simp [keepU,keepL]
 | succ j ih =>
  by_cases hj:j < L.length
  ·have h:=keep_succ hu hj
   rw [h.1,h.2]
   split
   ·exact ih
   ·simp [ih]
  ·have e1:keepL L (j + 1) = keepL L j:=by
    unfold keepL; rw [List.take_of_length_le (by omega),List.take_of_length_le (by omega)]
   have e2:keepU us L (j + 1) = keepU us L j:=by
    unfold keepU; rw [List.take_of_length_le (by simp; omega),List.take_of_length_le (by simp; omega)]
   rw [e1,e2]; exact ih
theorem AllRows.keep {w:World} {B:Nat} {us:List Value} {L:List (List Int)} (h:AllRows w B us L):∀ j,AllRows w B (keepU us L j) (keepL L j):=by
 intro j
 induction j with
 | zero => exact .nil
 | succ j ih =>
  have hl:=h.length
  by_cases hj:j < L.length
  ·have hk:=keep_succ hl hj
   rw [hk.1,hk.2]
   split
   ·exact ih
   ·obtain ⟨u,hu,ho⟩:=h.at hj
    have:us[j]'(by omega) = u:=by
     have:=(List.getElem?_eq_some_iff.1 hu).2
     exact this
    rw [this]
    exact ih.snoc ho
  ·have e1:keepL L (j + 1) = keepL L j:=by
    unfold keepL; rw [List.take_of_length_le (by omega),List.take_of_length_le (by omega)]
   have e2:keepU us L (j + 1) = keepU us L j:=by
    unfold keepU; rw [List.take_of_length_le (by simp; omega),List.take_of_length_le (by simp; omega)]
   rw [e1,e2]; exact ih
theorem keepL_all (L:List (List Int)):keepL L L.length = L.filter fun l => !decide (l.length < 2):=by
 unfold keepL; rw [List.take_length]
theorem Index2_spec {w:World} {A:Option Addr} {c:Nat} {L:List (List Int)} {us:List Value} (hr:RList w A L us) (hl:L.length <= 4611686018427387904) :
  CallsV C.P 207 #[.slice A L.length c,.func (.func 143) #[] #[]] w fun v w' => ((v = .int .i64 (-1) ∧ ∀ l ∈ L,¬ l.length < 2) ∨ ∃ i:Nat,v = .int .i64 (i:Nat) ∧ ∃ h:i < L.length,L[i].length < 2 ∧ ∀ j (hj:j < L.length),j < i -> ¬ L[j].length < 2) ∧ w' = w:=by
 refine callsV_of C_ok (args:=[_,_]) (plans:=[]) Tryz.func207 rfl Tryz.ntmps207 (by kernel_rfl) (Nat.le_of_ble_eq_true rfl) ?_
 refine loopE C_ok (fun (i:Nat) => [(0,.slice A L.length c),(1,.func (.func 143) #[] #[]),(7,.int .i64 L.length),(8,.int .i64 i)])
  (fun i w' => w' = w ∧ i <= L.length ∧ ∀ j (hj:j < L.length),j < i -> ¬ L[j].length < 2) (fun i => L.length - i) 0 ⟨rfl,rfl,rfl,rfl,trivial⟩
  ⟨rfl,Nat.zero_le _,fun j _ hj => absurd hj (Nat.not_lt_zero _)⟩ ?_
 rintro i w1 ⟨rfl,hi,hall⟩
 refine brE_dec (fun hlt => ?_) (fun hge => ?_)
 ·have hlt:i < L.length:=by have:(i:Int) < (L.length:Nat):=hlt; omega
  obtain ⟨A',c',hu,_⟩:=hr.row i hlt
  rcases hr.reads with h0 | ⟨b,o,hA,hrd⟩
  ·subst h0; simp at hu
  refine ⟨i,b,o,rfl,hlt,hA,?_⟩
  refine ⟨_,by have:=hrd i _ hu; simpa using this,?_⟩
  refine (Circles1_spec A' L[i].length c' w1).mono ?_
  rintro v w2 ⟨rfl,rfl⟩
  refine brE_dec (fun h2 => ?_) (fun h2 => ?_)
  ·exact ⟨.inr ⟨i,rfl,hlt,h2,hall⟩,rfl⟩
  ·refine ⟨((i + 1:Nat):Int),fit ⟨by omega,by omega⟩,?_⟩
   refine ⟨i + 1,⟨rfl,rfl,rfl,rfl,trivial⟩,⟨rfl,hlt,fun j hj hji => ?_⟩,by omega⟩
   rcases Nat.lt_or_ge j i with h | h
   ·exact hall j hj h
   ·obtain rfl:j = i:=by omega
    exact h2
 ·have:i = L.length:=by have:¬ (i:Int) < (L.length:Nat):=hge; omega
  subst this
  refine ⟨.inl ⟨rfl,fun l hl => ?_⟩,rfl⟩
  obtain ⟨j,hj,rfl⟩:=List.getElem_of_mem hl
  exact hall j hj hj
theorem Only.trans {t:Nat} {a b c:World} (h:Only t a b) (k:Only t b c):Only t a c:=fun q cs t' fr hq hne => k q cs t' fr (h q cs t' fr hq hne) hne
theorem put_below {B g:Nat} {o:Obj} {w w':World} (h:Put w g o w') (hg:B <= g):Below B w w':=below_put (Below.refl _ _) h hg
theorem splice_take_at {cs vs:List Value} {i:Nat} (h:i <= cs.length):(splice cs i vs).take i = cs.take i:=by
 unfold splice
 rw [List.append_assoc,List.take_append_of_le_length (by simp; omega),List.take_take,Nat.min_self]
theorem Delete2_spec {B:Nat} {w:World} {v:Value} {L:List (List Int)} (hv:Lists B w v L) (hB:B <= w.heap.size) (hl:L.length <= 4611686018427387904) :
  CallsV C.P 141 #[v,.func (.func 143) #[] #[]] w fun v' w' => Lists B w' v' (L.filter fun l => !decide (l.length < 2)) ∧ Below B w w':=by
 obtain ⟨us,ho,hrows⟩:=hv
 have hul:=hrows.length
 obtain ⟨A,cap,us',rfl,hR⟩:=(show Lists B w v L from ⟨us,ho,hrows⟩).read
 refine callsV_of C_ok (args:=[_,_]) (plans:=[]) Tryz.func141 rfl Tryz.ntmps141 (by kernel_rfl) (Nat.le_of_ble_eq_true rfl) ?_
 refine (Index2_spec hR hl).mono ?_
 rintro v w1 ⟨hi | ⟨i0,rfl,hi0,hsm,hfirst⟩,rfl⟩
 ·obtain ⟨rfl,hall⟩:=hi
  have e:(L.filter fun l => !decide (l.length < 2)) = L:=List.filter_eq_self.2 fun l hl => by simpa using hall l hl
  rw [e]
  exact ⟨⟨us,ho,hrows⟩,Below.refl _ _⟩
 refine ⟨((i0 + 1:Nat):Int),fit ⟨by omega,by omega⟩,?_⟩
 have hA:∃ g,A = some ⟨g,0,none⟩:=by
  obtain ⟨_,⟨hv,h0⟩ | ⟨g,cap',cur,hv,_⟩⟩:=ho
  ·simp at hv; omega
  ·simp at hv; exact ⟨g,hv.1⟩
 obtain ⟨g,rfl⟩:=hA
 have kp0:keepL L (i0 + 1) = L.take i0 ∧ keepU us L (i0 + 1) = us.take i0:=by
  have h:=keep_succ hul hi0
  rw [if_pos hsm,if_pos hsm] at h
  rw [h.1,h.2]
  have key:∀ m,m <= i0 -> keepL L m = L.take m ∧ keepU us L m = us.take m:=by
   intro m
   induction m with
   | zero => intro _; simp [keepL,keepU]
   | succ m ih =>
    intro hm
    have h1:=ih (by omega)
    have hmL:m < L.length:=by omega
    have h2:=keep_succ hul hmL
    rw [if_neg (hfirst m hmL (by omega)),if_neg (hfirst m hmL (by omega))] at h2
    rw [h2.1,h2.2,h1.1,h1.2,List.take_succ_eq_append_getElem hmL,List.take_succ_eq_append_getElem (by omega:m < us.length)]
    exact ⟨rfl,rfl⟩
  exact key i0 (Nat.le_refl _)
 refine loopE C_ok (fun (s:Nat × Nat × List Value) => [(0,.slice (some ⟨g,0,none⟩) L.length cap),(1,.func (.func 143) #[] #[]),(5,.int .i64 s.2.1),(6,.int .i64 s.1)])
  (fun s w' => s.2.1 = (keepL L s.1).length ∧ s.2.1 < s.1 ∧ s.1 <= L.length ∧ w'.ownsRow B 31 1 (.slice (some ⟨g,0,none⟩) L.length cap) L.length s.2.2 ∧ s.2.2.take s.2.1 = keepU us L s.1 ∧ (∀ k,s.1 <= k -> s.2.2[k]? = us[k]?) ∧ Only 31 w1 w' ∧ Below B w1 w')
  (fun s => L.length - s.1) (i0 + 1,i0,us) ⟨rfl,rfl,rfl,rfl,trivial⟩
  ⟨by show i0 = (keepL L (i0 + 1)).length; rw [kp0.1,List.length_take]; omega,Nat.lt_succ_self _,hi0,ho,kp0.2.symm,fun _ _ => rfl,only_ext _ (Ext.refl _),Below.refl _ _⟩ ?_
 rintro ⟨j,i,ds⟩ w2 ⟨hi,hij,hj,ho2,htake,hrest,o2,b2⟩
 have hi:i = (keepL L j).length:=hi
 have hij:i < j:=hij
 have hj:j <= L.length:=hj
 have ho2:w2.ownsRow B 31 1 (.slice (some ⟨g,0,none⟩) L.length cap) L.length ds:=ho2
 have htake:ds.take i = keepU us L j:=htake
 have hrest:∀ k,j <= k -> ds[k]? = us[k]?:=hrest
 obtain ⟨cur,hg,hgB,hcl,hccap,hncap,hdl,hct,hput⟩:=ownsRow_open ho2
 refine brE_dec (fun hlt => ?_) (fun hge => ?_)
 ·have hlt:j < L.length:=by have:(j:Int) < (L.length:Nat):=hlt; omega
  obtain ⟨u,hu,hou⟩:=hrows.at hlt
  obtain ⟨A',c',rfl,_,_⟩:=reads_of_owns hou
  have hcj:w2.cell? ⟨g,0 + j * 1,none⟩ = some (.slice A' L[j].length c'):=by
   have h1:ds[j]? = some (.slice A' L[j].length c'):=(hrest j (Nat.le_refl _)).trans hu
   rw [<-hct] at h1
   rw [List.getElem?_take,if_pos (by omega)] at h1
   have:=(Rd.of_block hg) j _ h1
   simpa using this
  have next:IntKind.i64.wrap ((j:Int) + 1) = ((j + 1:Nat):Int):=fit ⟨by omega,by omega⟩
  have hk:=keep_succ hul hlt
  refine ⟨j,g,0,rfl,hlt,rfl,?_⟩
  refine ⟨_,hcj,?_⟩
  refine (Circles1_spec A' L[j].length c' w2).mono ?_
  rintro v w3 ⟨rfl,rfl⟩
  refine brE_mk (fun h2 => ?_) (fun h2 => ?_)
  ·have h2:¬ L[j].length < 2:=by simpa using h2
   rw [if_neg h2,if_neg h2] at hk
   refine ⟨i,g,0,rfl,(by omega:i < L.length),rfl,?_⟩
   refine ⟨rfl,_,_,hg,by show 0 + i * 1 + 1 <= cur.length; omega,rfl,?_⟩
   intro w4 h4
   have h4:Put w3 g (.cells (splice cur (0 + i * 1) [.slice A' L[j].length c']).toArray 31 (0,0)) w4:=h4
   have e0:0 + i * 1 = i:=by omega
   have ho4:=hput (0 + i * 1) [.slice A' L[j].length c'] w4 (by show 0 + i * 1 + 1 <= _; omega) h4
   rw [e0,splice_one (by omega)] at ho4
   refine ⟨((i + 1:Nat):Int),fit ⟨by omega,by omega⟩,?_⟩
   refine ⟨_,next,?_⟩
   refine ⟨(j + 1,i + 1,ds.set i (.slice A' L[j].length c')),⟨rfl,rfl,rfl,rfl,trivial⟩,⟨?_,by show i + 1 < j + 1; omega,hlt,ho4,?_,?_,Only.trans o2 (only_put h4 hg),below_put b2 h4 hgB⟩,by show L.length - (j + 1) < L.length - j; omega⟩
   ·show i + 1 = (keepL L (j + 1)).length
    rw [hk.1,List.length_append,<-hi]; rfl
   ·show (ds.set i (.slice A' L[j].length c')).take (i + 1) = keepU us L (j + 1)
    have hil:i < (ds.set i (.slice A' L[j].length c')).length:=by rw [List.length_set]; omega
    rw [hk.2,List.take_succ_eq_append_getElem hil,List.take_set_of_le (Nat.le_refl _),htake]
    congr 1
    simp
    exact ((List.getElem?_eq_some_iff.1 hu).2).symm
   ·intro k hk1
    show (ds.set i (.slice A' L[j].length c'))[k]? = us[k]?
    have hk1:j + 1 <= k:=hk1
    rw [List.getElem?_set_ne (by omega)]
    exact hrest k (by omega)
  ·have h2:L[j].length < 2:=by simpa using h2
   rw [if_pos h2,if_pos h2] at hk
   refine ⟨_,next,?_⟩
   exact ⟨(j + 1,i,ds),⟨rfl,rfl,rfl,rfl,trivial⟩,⟨by show i = (keepL L (j + 1)).length; rw [hk.1]; exact hi,by show i < j + 1; omega,hlt,ho2,by show ds.take i = keepU us L (j + 1); rw [hk.2]; exact htake,fun k hk1 => hrest k (by have:j + 1 <= k:=hk1; omega),o2,b2⟩,by show L.length - (j + 1) < L.length - j; omega⟩
 ·have:j = L.length:=by have:¬ (j:Int) < (L.length:Nat):=hge; omega
  subst this
  refine ⟨i,L.length,rfl,rfl,by omega,by omega,?_⟩
  have hA:(if cap = i then (some (⟨g,0,none⟩:Addr)) else (some (⟨g,0,none⟩:Addr)).map (·.add (i * 1))) = some ⟨g,0 + i * 1,none⟩:=by
   rw [if_neg (by omega)]
   simp [add_spot]
  refine clearRow (esz:=1) C_ok rfl rfl rfl rfl rfl rfl rfl (by decide) hA (by omega) hg (by omega) ?_
  intro zs w3 hzs h3
  have ho3:=hput (0 + i * 1) zs w3 (by rw [hzs]; omega) h3
  refine ⟨0,i,rfl,rfl,Nat.zero_le _,by omega,?_⟩
  have e:(if cap = 0 then (some ⟨g,0,none⟩:Option Addr) else (some (⟨g,0,none⟩:Addr)).map (·.add (0 * 1))) = some ⟨g,0,none⟩:=by
   split <;> rfl
  have hcut:=ownsRow_cut ho3 (k:=i) (by omega)
  have e0:0 + i * 1 = i:=by omega
  rw [e0,Nat.mul_one,splice_take_at (by omega),htake] at hcut
  have hrows3:AllRows w3 B us L:=(hrows.only o2 (by decide)).only (only_put h3 hg) (by decide)
  refine ⟨?_,below_put b2 h3 hgB⟩
  rw [<-keepL_all]
  refine ⟨keepU us L L.length,?_,hrows3.keep _⟩
  show w3.ownsRow B 31 1 (.slice (if cap = 0 then (some ⟨g,0,none⟩:Option Addr) else (some (⟨g,0,none⟩:Addr)).map (·.add (0 * 1))) i cap) (keepL L L.length).length _
  rw [e,<-hi]
  exact hcut
noncomputable def circlesV (N:Int) (xs:List Arrow):List (List Int):=(compsV N xs).filter fun l => !decide (l.length < 2)
theorem Circles_spec {N:Int} {A:Option Addr} {xs:List Arrow} {c:Nat} {w:World} (h:HRel w N A xs c) :
  CallsV C.P 84 #[relVal N A xs.length c] w fun v w' => Lists w.heap.size w' v (circlesV N xs) ∧ Ext w w':=by
 refine callsV_of C_ok (args:=[_]) (plans:=[]) Tryz.func84 rfl Tryz.ntmps84 (by kernel_rfl) (Nat.le_of_ble_eq_true rfl) ?_
 intro g1 w1 h1
 have M1:=(Mem.start w).alloc h1
 refine ⟨[.int .i64 N,.slice A xs.length c],rfl,M1.rd 0 rfl,?_⟩
 refine (Components_spec (h.ext M1.ext)).mono ?_
 rintro v w2 ⟨hl,e2⟩
 have M2:=M1.grow e2
 have hpr:=(compsV_props (N:=N) (xs:=xs)).1
 refine (Delete2_spec (hl.base M1.ext.size) M2.ext.size (by omega)).mono ?_
 rintro v' w3 ⟨hl3,b3⟩
 exact ⟨hl3,Below.trans M2.ext b3⟩
end Go.Proofs.YtigapannpbaihaaGreat.Rk
namespace Go.Proofs.YtigapannpbaihaaGreat.Rk
open Go.Eng Go.RowKit
theorem valid_of {N:Int} {xs:List Arrow} (hlo:0 <= N) (hhi:N <= 24) (hg:∀ x ∈ xs,goodA N x = true) (hs:xs.Pairwise fun a b => ltA a b = true):Valid N xs:=by
 refine ⟨hlo,hhi,List.all_eq_true.2 fun i hi => ?_⟩
 have hi:i < xs.length:=List.mem_range.1 hi
 have hp:=List.pairwise_iff_getElem.1 hs
 unfold okAt
 rw [List.getElem?_eq_getElem hi]
 simp only [hg _ (List.getElem_mem hi),Bool.true_and]
 cases i with
 | zero => rfl
 | succ j =>
  have hj:j < xs.length:=by omega
  show (match xs[j]? with | some y => ltA y xs[j + 1] | none => false) = true
  rw [List.getElem?_eq_getElem hj]
  exact hp j (j + 1) hj hi (Nat.lt_succ_self _)
theorem Valid.goodAll {N:Int} {xs:List Arrow} (h:Valid N xs):∀ x ∈ xs,goodA N x = true:=fun x hx => by
 obtain ⟨i,hi,rfl⟩:=List.getElem_of_mem hx
 exact h.good hi
theorem Valid.sorted {N:Int} {xs:List Arrow} (h:Valid N xs):xs.Pairwise fun a b => ltA a b = true:=List.pairwise_iff_getElem.2 fun _ _ _ hj hij => h.lt hij hj
theorem Valid.filter {N:Int} {xs:List Arrow} (h:Valid N xs) (p:Arrow -> Bool):Valid N (xs.filter p) :=
 valid_of h.lo h.hi (fun x hx => h.goodAll x ((List.mem_filter.1 hx).1)) (h.sorted.filter p)
theorem waive_mem {xs:List Arrow} {ps:List (Int × Int)} {x:Arrow}:x ∈ waiveL xs ps <-> x ∈ xs ∧ (x.fr,x.to) ∉ ps:=by
 unfold waiveL
 rw [List.mem_filter]
 simp
def backL (xs:List Arrow):List (Int × Int):=(xs.filter fun x => decide (x.fr > x.to)).map fun x => (x.fr,x.to)
theorem backL_length (xs:List Arrow):(backL xs).length <= xs.length:=by
 unfold backL; rw [List.length_map]; exact List.length_filter_le _ _
end Go.Proofs.YtigapannpbaihaaGreat.Rk
namespace Go.Proofs.YtigapannpbaihaaGreat.Rk
open Go.Eng Go.RowKit
end Go.Proofs.YtigapannpbaihaaGreat.Rk
namespace Go.Proofs.YtigapannpbaihaaGreat.Rk
open Go.Eng Go.RowKit
def putW (M:Nat -> Nat -> Int) (a:Arrow):Nat -> Nat -> Int:=fun p q => if (p:Int) = a.fr ∧ (q:Int) = a.to then a.wt else M p q
def wAt (xs:List Arrow):Nat -> Nat -> Int:=xs.foldl putW fun _ _ => 0
theorem wAt_snoc (xs:List Arrow) (a:Arrow):wAt (xs ++ [a]) = putW (wAt xs) a:=by simp [wAt]
theorem toM_snoc (xs:List Arrow) (a:Arrow) (p q:Nat):toM (xs ++ [a]) p q = (toM xs p q || decide (a.fr = (p:Int) ∧ a.to = (q:Int))):=by simp [toM]
theorem wAt_spec:∀ (xs:List Arrow),(∀ x ∈ xs,1 <= x.wt ∧ x.wt <= 1000) -> ∀ p q,0 <= wAt xs p q ∧ wAt xs p q <= 1000 ∧ (0 < wAt xs p q <-> toM xs p q = true):=by
 intro xs h p q
 rw [<-List.reverse_reverse xs] at h ⊢
 generalize xs.reverse = ys at h ⊢
 induction ys with
 | nil => simp [wAt,toM]
 | cons a r ih =>
  rw [List.reverse_cons] at h ⊢
  have h1:=h a (by simp)
  have ih:=ih fun x hx => h x (by simp at hx ⊢; exact .inl hx)
  rw [wAt_snoc,toM_snoc]
  unfold putW
  by_cases e:(p:Int) = a.fr ∧ (q:Int) = a.to
  ·rw [if_pos e]
   have:(a.fr = (p:Int) ∧ a.to = (q:Int)):=⟨e.1.symm,e.2.symm⟩
   simp [this]; omega
  ·rw [if_neg e]
   have:¬ (a.fr = (p:Int) ∧ a.to = (q:Int)):=fun h => e ⟨h.1.symm,h.2.symm⟩
   simp [this]; exact ih
theorem Valid.wts {N:Int} {xs:List Arrow} (h:Valid N xs):∀ x ∈ xs,1 <= x.wt ∧ x.wt <= 1000:=fun x hx => by
 obtain ⟨i,hi,rfl⟩:=List.getElem_of_mem hx
 have:=goodA_spec (h.good hi)
 omega
theorem Valid.wAt {N:Int} {xs:List Arrow} (h:Valid N xs) (p q:Nat):0 <= wAt xs p q ∧ wAt xs p q <= 1000 ∧ (0 < Rk.wAt xs p q <-> toM xs p q = true):=wAt_spec xs h.wts p q
def imat (M:Nat -> Nat -> Int):List Value:=(List.range 576).map fun k => .int .i64 (M (k / 24) (k % 24))
theorem imat_length (M:Nat -> Nat -> Int):(imat M).length = 576:=by simp [imat]
theorem imat_at {k:Nat} (h:k < 576) (M:Nat -> Nat -> Int):(imat M)[k]? = some (.int .i64 (M (k / 24) (k % 24))):=by simp [imat,h]
theorem imat_get {a b:Nat} (ha:a < 24) (hb:b < 24) (M:Nat -> Nat -> Int):(imat M)[a * 24 + b]? = some (.int .i64 (M a b)):=by
 obtain ⟨h1,h2,h3⟩:=cell_idx ha hb
 rw [imat_at h3,h1,h2]
theorem imat_zero:List.replicate 576 (Value.int .i64 0) = imat fun _ _ => 0:=by
 apply List.ext_getElem?
 intro i
 by_cases h:i < 576
 ·rw [imat_at h,List.getElem?_replicate,if_pos h]
 ·rw [List.getElem?_eq_none (by rw [List.length_replicate]; omega),List.getElem?_eq_none (by rw [imat_length]; omega)]
theorem imat_set {a b:Nat} (ha:a < 24) (hb:b < 24) (M:Nat -> Nat -> Int) (x:Arrow) (h1:x.fr = (a:Nat)) (h2:x.to = (b:Nat)):splice (imat M) (a * 24 + b) [.int .i64 x.wt] = imat (putW M x):=by
 obtain ⟨e1,e2,h3⟩:=cell_idx ha hb
 rw [splice_one (by rw [imat_length]; exact h3)]
 apply List.ext_getElem?
 intro k
 rw [List.getElem?_set]
 by_cases hk:k < 576
 ·rw [imat_at hk (putW M x)]
  unfold putW
  rw [h1,h2]
  by_cases e:a * 24 + b = k
  ·subst e
   rw [if_pos rfl,if_pos (by rw [imat_length]; exact h3),e1,e2,if_pos ⟨rfl,rfl⟩]
  ·rw [if_neg e,imat_at hk,if_neg]
   rintro ⟨q1,q2⟩
   omega
 ·rw [if_neg (by omega),List.getElem?_eq_none (by rw [imat_length]; omega),List.getElem?_eq_none (by rw [imat_length]; omega)]
set_option maxRecDepth 100000 in
set_option maxHeartbeats 4000000 in
theorem weigh_spec {N:Int} {A:Option Addr} {xs:List Arrow} {c:Nat} {w:World} (h:HRel w N A xs c) (hok:Valid N xs) :
  CallsV C.P 85 #[relVal N A xs.length c] w fun v w' => v = .agg (imat (wAt xs)).toArray ∧ Ext w w':=by
 have hlen:=h.len
 have hcap:=h.cap
 refine callsV_of C_ok (args:=[_]) (plans:=plans85) Tryz.func85 rfl Tryz.ntmps85 (by kernel_rfl) (Nat.le_of_ble_eq_true rfl) ?_
 intro g1 w1 h1
 intro g2 w2 h2
 have M2:Mem w w2 [(g2,.cells (imat fun _ _ => 0).toArray 110 (0,0)),(g1,.cells #[.int .i64 N,.slice A xs.length c] 36 (0,0))]:=by
  rw [<-imat_zero]; exact ((Mem.start w).alloc h1).alloc h2
 intro g3 w3 h3
 have M3:Mem w w3 [(g3,.cells (imat (wAt (xs.take 0))).toArray 110 (0,0)),(g2,.cells (imat fun _ _ => 0).toArray 110 (0,0)),(g1,.cells #[.int .i64 N,.slice A xs.length c] 36 (0,0))]:=by
  have e:imat (wAt (xs.take 0)) = List.replicate 576 (Value.int .i64 0):=by rw [imat_zero]; rfl
  rw [e]; exact M2.alloc h3
 refine ⟨_,M3.cell 2 rfl rfl,?_⟩
 refine loopE C_ok (fun (i:Nat) => [(2,.pointer (some ⟨g2,0,none⟩)),(3,.pointer (some ⟨g3,0,none⟩)),(7,.slice A xs.length c),(8,.int .i64 xs.length),(9,.int .i64 i)])
  (fun i w' => i <= xs.length ∧ Mem w w' [(g3,.cells (imat (wAt (xs.take i))).toArray 110 (0,0)),(g2,.cells (imat fun _ _ => 0).toArray 110 (0,0))]) (fun i => xs.length - i) 0 ⟨rfl,rfl,rfl,rfl,rfl,trivial⟩
  ⟨Nat.zero_le _,M3.sub (List.Sublist.cons_cons _ (List.Sublist.cons_cons _ (List.nil_sublist _)))⟩ ?_
 rintro i w4 ⟨hi,M4⟩
 refine brE_dec (fun hlt => ?_) (fun hge => ?_)
 ·have hlt:i < xs.length:=by omega
  obtain ⟨b,o,hA,hr⟩:=Reads.arrow h.reads hlt
  have hg:=goodA_spec (hok.good hlt)
  have hhi:=hok.hi
  obtain ⟨p,hp⟩:=Int.eq_ofNat_of_zero_le hg.1
  obtain ⟨q,hq⟩:=Int.eq_ofNat_of_zero_le hg.2.2.1
  have hp24:p < 24:=by omega
  have hq24:q < 24:=by omega
  refine ⟨i,b,o,rfl,hlt,hA,?_⟩
  refine ⟨xs[i].cells,rfl,M4.oldRd hr,?_⟩
  intro gx w5 h5
  have M5:=M4.alloc h5
  refine ⟨rfl,_,_,M5.get 0 rfl,Nat.le_of_ble_eq_true rfl,rfl,?_⟩
  intro w6 h6
  have M6:Mem w w6 [(gx,.cells xs[i].cells.toArray 189 (0,0)),(g3,.cells (imat (wAt (xs.take i))).toArray 110 (0,0)),(g2,.cells (imat fun _ _ => 0).toArray 110 (0,0))]:=M5.put 0 rfl h6
  refine ⟨.int .i64 (p:Int),by rw [<-hp]; exact M6.cell 0 rfl rfl,?_⟩
  refine ⟨.int .i64 (q:Int),by rw [<-hq]; exact M6.cell 0 rfl rfl,?_⟩
  refine ⟨.int .i64 xs[i].wt,M6.cell 0 rfl rfl,?_⟩
  refine ⟨p,rfl,hp24,?_⟩
  refine ⟨q,rfl,hq24,?_⟩
  refine ⟨rfl,_,_,M6.get 1 rfl,by rw [imat_length]; show 0 + p * 24 + q * 1 + 1 <= 576; omega,rfl,?_⟩
  intro w7 h7
  have e7:splice (imat (wAt (xs.take i))) (0 + p * 24 + q * 1) [.int .i64 xs[i].wt] = imat (wAt (xs.take (i + 1))):=by
   rw [List.take_succ_eq_append_getElem hlt,wAt_snoc,<-imat_set hp24 hq24 _ _ hp hq]
   congr 1
   omega
  have h7:Put w6 g3 (.cells (imat (wAt (xs.take (i + 1)))).toArray 110 (0,0)) w7:=by rw [<-e7]; exact h7
  refine ⟨((i + 1:Nat):Int),fit ⟨by omega,by omega⟩,?_⟩
  exact ⟨i + 1,⟨rfl,rfl,rfl,rfl,rfl,trivial⟩,⟨hlt,(M6.put 1 rfl h7).tail⟩,by omega⟩
 ·have:i = xs.length:=by omega
  subst this
  rw [List.take_length] at M4
  refine ⟨imat (wAt xs),imat_length _,M4.rd 0 rfl,?_⟩
  refine ⟨rfl,_,_,M4.get 1 rfl,by rw [imat_length]; exact Nat.le_of_ble_eq_true rfl,rfl,?_⟩
  intro w5 h5
  have e5:splice (imat fun _ _ => 0) 0 (imat (wAt xs)) = imat (wAt xs):=by
   unfold splice
   rw [List.take_zero,List.drop_eq_nil_of_le (by simp [imat_length])]
   simp
  have h5:Put w4 g2 (.cells (imat (wAt xs)).toArray 110 (0,0)) w5:=by rw [<-e5]; exact h5
  have M5:=M4.put 1 rfl h5
  refine ⟨imat (wAt xs),imat_length _,M5.rd 1 rfl,?_⟩
  exact ⟨rfl,M5.ext⟩
def OrdOk (N:Int) (l:List Int):Prop:=(l.length:Int) = N ∧ (∀ x ∈ l,0 <= x ∧ x < N) ∧ l.Nodup
instance (N:Int) (l:List Int):Decidable (OrdOk N l):=inferInstanceAs (Decidable (_ ∧ _ ∧ _))
def ordE (N:Int) (l:List Int):Int:=if OrdOk N l then 0 else 1
def seenB (l:List Int) (i:Nat):Nat -> Bool:=fun k => decide ((k:Int) ∈ l.take i)
theorem seenB_succ {l:List Int} {i k:Nat} (hi:i < l.length) (hk:l[i] = (k:Int)):upd (seenB l i) k true = seenB l (i + 1):=by
 funext q
 unfold upd seenB
 rw [List.take_succ_eq_append_getElem hi,hk]
 by_cases e:q = k
 ·subst e; simp
 ·have:¬ (q:Int) = (k:Int):=by omega
  simp [e,this]
set_option maxHeartbeats 4000000 in
theorem CheckOrder_spec {N:Int} (hN:In64 N) {A:Option Addr} {l:List Int} {c:Nat} {w:World} (hr:Reads w A (ints l)) (hl:l.length <= 2 ^ 40) :
  CallsV C.P 36 #[.int .i64 N,.slice A l.length c] w fun v w' => v = .int .i64 (ordE N l) ∧ Ext w w':=by
 refine callsV_of C_ok (args:=[_,_]) (plans:=[]) Tryz.func36 rfl Tryz.ntmps36 (by kernel_rfl) (Nat.le_of_ble_eq_true rfl) ?_
 refine brE_ndec (fun hne => ?_) (fun heq => ?_)
 ·refine ⟨?_,Ext.refl _⟩
  unfold ordE
  rw [if_neg fun h => hne h.1]
 have hNl:N = (l.length:Nat):=by have:=heq; omega
 subst hNl
 obtain ⟨n,hn⟩:∃ n,n = l.length:=⟨_,rfl⟩
 rw [<-hn]
 refine ⟨n,n,rfl,rfl,Nat.le_refl _,by omega,by omega,rfl,rfl,rfl,rfl,?_⟩
 intro g w1 h1
 have h1:Alloc w g (.cells (bools n (seenB l 0)).toArray 4 (0,0)) w1:=by
  have e:bools n (seenB l 0) = List.replicate n (Value.bool false):=by rw [bools_false]; exact bools_congr fun k _ => by simp [seenB]
  rw [e]; exact h1
 have M1:=(Mem.start w).alloc h1
 refine loopE C_ok (fun (i:Nat) => [(0,.int .i64 n),(5,.slice (some ⟨g,0,none⟩) n n),(14,.slice A n c),(15,.int .i64 n),(16,.int .i64 i)])
  (fun i w' => i <= n ∧ (∀ x ∈ l.take i,0 <= x ∧ x < (n:Int)) ∧ (l.take i).Nodup ∧ Mem w w' [(g,.cells (bools n (seenB l i)).toArray 4 (0,0))]) (fun i => n - i) 0 ⟨rfl,rfl,rfl,rfl,rfl,trivial⟩
  ⟨Nat.zero_le _,by simp,by simp,M1⟩ ?_
 rintro i w2 ⟨hi,hin,hnd,M2⟩
 refine brE_dec (fun hlt => ?_) (fun hge => ?_)
 ·have hlt:i < l.length:=by omega
  obtain ⟨b,o,hA,hc⟩:=Reads.int hr hlt
  refine ⟨i,b,o,rfl,by omega,hA,?_⟩
  refine ⟨_,by have:=M2.old hc; simpa using this,?_⟩
  have hmem:l[i] ∈ l:=List.getElem_mem hlt
  have bad1:¬ (0 <= l[i] ∧ l[i] < (n:Int)) -> ordE (n:Nat) l = 1:=fun h => by
   unfold ordE; rw [if_neg]; rintro ⟨_,h2,_⟩; exact h (h2 _ hmem)
  refine brE_dec (fun hneg => ?_) (fun hnn => ?_)
  ·exact ⟨by rw [bad1 (by omega)],M2.ext⟩
  refine brE_dec (fun hbig => ?_) (fun hsm => ?_)
  ·exact ⟨by rw [bad1 (by have:l[i] >= (n:Int):=hbig; omega)],M2.ext⟩
  have hnn:¬ l[i] < 0:=hnn
  have hsm:¬ l[i] >= (n:Int):=hsm
  obtain ⟨k,hk⟩:=Int.eq_ofNat_of_zero_le (by omega:0 <= l[i])
  have hkn:k < n:=by omega
  refine ⟨k,g,0,hk,hkn,rfl,?_⟩
  refine ⟨.bool (seenB l i k),by have:=M2.rd 0 rfl k _ (bools_get hkn _); simpa using this,?_⟩
  refine brE_mk (fun hb => ?_) (fun hb => ?_)
  ·refine ⟨?_,M2.ext⟩
   have hm:(k:Int) ∈ l.take i:=of_decide_eq_true hb
   unfold ordE; rw [if_neg]; rintro ⟨_,_,h3⟩
   obtain ⟨j,hj,e⟩:=List.mem_iff_getElem.1 hm
   rw [List.length_take] at hj
   rw [List.getElem_take] at e
   have h4:=(List.getElem?_inj (i:=j) (j:=i) (by omega) h3).1 (by rw [List.getElem?_eq_getElem (by omega),List.getElem?_eq_getElem hlt,e,hk])
   omega
  have hm:(k:Int) ∉ l.take i:=of_decide_eq_false hb
  refine ⟨k,g,0,hk,hkn,rfl,?_⟩
  refine ⟨rfl,_,_,M2.get 0 rfl,by rw [bools_length]; show 0 + k * 1 + 1 <= n; omega,rfl,?_⟩
  intro w3 h3
  have e3:splice (bools n (seenB l i)) (0 + k * 1) [.bool true] = bools n (seenB l (i + 1)):=by
   rw [<-seenB_succ hlt hk,<-bools_set hkn]; congr 1; omega
  have h3:Put w2 g (.cells (bools n (seenB l (i + 1))).toArray 4 (0,0)) w3:=by rw [<-e3]; exact h3
  refine ⟨((i + 1:Nat):Int),fit ⟨by omega,by omega⟩,?_⟩
  refine ⟨i + 1,⟨rfl,rfl,rfl,rfl,rfl,trivial⟩,⟨by omega,?_,?_,M2.put 0 rfl h3⟩,by omega⟩
  ·intro x hx
   rw [List.take_succ_eq_append_getElem hlt,List.mem_append,List.mem_singleton] at hx
   rcases hx with hx | rfl
   ·exact hin x hx
   ·omega
  ·rw [List.take_succ_eq_append_getElem hlt,List.nodup_append]
   refine ⟨hnd,by simp,fun a ha b hb e => ?_⟩
   rw [List.mem_singleton] at hb
   subst e; rw [hb,hk] at ha; exact hm ha
 ·have:i = n:=by omega
  subst this
  rw [hn,List.take_length] at hin hnd
  refine ⟨?_,M2.ext⟩
  unfold ordE; rw [if_pos ⟨by rw [hn],by rw [hn]; exact hin,hnd⟩]
def bothE (N:Int) (xs:List Arrow) (l:List Int):Int:=if chk N xs = 0 then ordE N l else chk N xs
theorem bothRO_spec {N:Int} {A B:Option Addr} {xs:List Arrow} {c d:Nat} {l:List Int} {w:World} (h:HRel w N A xs c) (hr:Reads w B (ints l)) (hl:l.length <= 2 ^ 40) :
  CallsV C.P 46 #[relVal N A xs.length c,.slice B l.length d] w fun v w' => v = .int .i64 (bothE N xs l) ∧ Ext w w':=by
 refine callsV_of C_ok (args:=[_,_]) (plans:=[]) Tryz.func46 rfl Tryz.ntmps46 (by kernel_rfl) (Nat.le_of_ble_eq_true rfl) ?_
 intro g1 w1 h1
 have M1:=(Mem.start w).alloc h1
 refine ⟨[.int .i64 N,.slice A xs.length c],rfl,M1.rd 0 rfl,?_⟩
 refine (Check_spec (h.ext M1.ext)).mono ?_
 rintro v w2 ⟨rfl,e2⟩
 have M2:=M1.grow e2
 refine brE_ndec (fun hne => ?_) (fun heq => ?_)
 ·exact ⟨by unfold bothE; rw [if_neg hne],M2.ext⟩
 refine ⟨_,M2.cell 0 rfl rfl,?_⟩
 refine (CheckOrder_spec h.num (hr.ext M2.ext) hl).mono ?_
 rintro v w3 ⟨rfl,e3⟩
 exact ⟨by unfold bothE; rw [if_pos heq],M2.ext.trans e3⟩
def placeTo (l:List Int) (i:Nat):Nat -> Nat:=fun k => if (k:Int) ∈ l.take i then l.idxOf (k:Int) else 0
theorem placeTo_succ {l:List Int} (hn:l.Nodup) {i k:Nat} (hi:i < l.length) (hk:l[i] = (k:Int)):(fun a => if a = k then i else placeTo l i a) = placeTo l (i + 1):=by
 funext q
 unfold placeTo
 rw [List.take_succ_eq_append_getElem hi,hk]
 by_cases e:q = k
 ·subst e
  have:l.idxOf (q:Int) = i:=by rw [<-hk]; exact List.Nodup.idxOf_getElem hn i hi
  simp [this]
 ·have:¬ (q:Int) = (k:Int):=by omega
  simp [e,this]
theorem places_spec {N:Int} {A:Option Addr} {l:List Int} {c:Nat} {w:World} (hr:Reads w A (ints l)) (hl:l.length <= 2 ^ 40) (ho:OrdOk N l) :
  CallsV C.P 105 #[.slice A l.length c] w fun v w' => (∃ g,v = .slice (some ⟨g,0,none⟩) l.length l.length ∧ w'.heap[g]? = some (.cells (ints (natsN l.length fun k => placeTo l l.length k)).toArray 3 (0,0)) ∧ w.heap.size <= g) ∧ Ext w w':=by
 obtain ⟨h1,h2,h3⟩:=ho
 refine callsV_of C_ok (args:=[_]) (plans:=[]) Tryz.func105 rfl Tryz.ntmps105 (by kernel_rfl) (Nat.le_of_ble_eq_true rfl) ?_
 obtain ⟨n,hn⟩:∃ n,n = l.length:=⟨_,rfl⟩
 rw [<-hn]
 refine ⟨n,n,rfl,rfl,Nat.le_refl _,by omega,by omega,rfl,rfl,rfl,rfl,?_⟩
 intro g w1 a1
 have a1:Alloc w g (.cells (ints (natsN n (placeTo l 0))).toArray 3 (0,0)) w1:=by
  have e:ints (natsN n (placeTo l 0)) = List.replicate n (Value.int .i64 0):=by
   rw [zeros_natsN]
   exact congrArg ints (natsN_congr fun k _ => by simp [placeTo])
  rw [e]; exact a1
 have M1:=(Mem.start w).alloc a1
 refine loopE C_ok (fun (i:Nat) => [(3,.slice (some ⟨g,0,none⟩) n n),(9,.slice A n c),(10,.int .i64 n),(11,.int .i64 i)])
  (fun i w' => i <= n ∧ Mem w w' [(g,.cells (ints (natsN n (placeTo l i))).toArray 3 (0,0))]) (fun i => n - i) 0 ⟨rfl,rfl,rfl,rfl,trivial⟩ ⟨Nat.zero_le _,M1⟩ ?_
 rintro i w2 ⟨hi,M2⟩
 refine brE_dec (fun hlt => ?_) (fun hge => ?_)
 ·have hlt:i < l.length:=by omega
  obtain ⟨b,o,hA,hc⟩:=Reads.int hr hlt
  refine ⟨i,b,o,rfl,by omega,hA,?_⟩
  refine ⟨_,by have:=M2.old hc; simpa using this,?_⟩
  have hx:=h2 l[i] (List.getElem_mem hlt)
  obtain ⟨k,hk⟩:=Int.eq_ofNat_of_zero_le hx.1
  have hkn:k < n:=by omega
  refine ⟨k,g,0,hk,hkn,rfl,?_⟩
  refine ⟨rfl,_,_,M2.get 0 rfl,by rw [ints_length,natsN_length]; show 0 + k * 1 + 1 <= n; omega,rfl,?_⟩
  intro w3 a3
  have e3:splice (ints (natsN n (placeTo l i))) (0 + k * 1) [.int .i64 i] = ints (natsN n (placeTo l (i + 1))):=by
   rw [<-placeTo_succ h3 hlt hk,<-natsN_set hkn]; congr 1; omega
  have a3:Put w2 g (.cells (ints (natsN n (placeTo l (i + 1)))).toArray 3 (0,0)) w3:=by rw [<-e3]; exact a3
  refine ⟨((i + 1:Nat):Int),fit ⟨by omega,by omega⟩,?_⟩
  exact ⟨i + 1,⟨rfl,rfl,rfl,rfl,trivial⟩,⟨by omega,M2.put 0 rfl a3⟩,by omega⟩
 ·have:i = n:=by omega
  subst this
  exact ⟨⟨g,rfl,M2.get 0 rfl,M2.new 0 rfl⟩,M2.ext⟩
structure Sl where
 guest:Int
 behind:Int
 wt:Int
def Sl.cells (s:Sl):List Value:=[.int .i64 s.guest,.int .i64 s.behind,.int .i64 s.wt]
def slB (l:List Int) (a:Arrow):Bool:=decide (placeTo l l.length a.fr.toNat > placeTo l l.length a.to.toNat)
def Sl.of (a:Arrow):Sl:=⟨a.fr,a.to,a.wt⟩
def slTo (l:List Int) (xs:List Arrow) (i:Nat):List Sl:=((xs.take i).filter (slB l)).map Sl.of
theorem slTo_succ {l:List Int} {xs:List Arrow} {i:Nat} (hi:i < xs.length):slTo l xs (i + 1) = if slB l xs[i] = true then slTo l xs i ++ [Sl.of xs[i]] else slTo l xs i:=by
 unfold slTo
 rw [List.take_succ_eq_append_getElem hi,List.filter_append]
 cases h:slB l xs[i] <;> simp [h]
theorem slTo_len {l:List Int} {xs:List Arrow} {i:Nat}:(slTo l xs i).length <= i:=by
 unfold slTo
 rw [List.length_map]
 exact Nat.le_trans (List.length_filter_le _ _) (by simp; omega)
set_option maxRecDepth 100000 in
set_option maxHeartbeats 4000000 in
theorem slights_spec {N:Int} {A B:Option Addr} {xs:List Arrow} {c d:Nat} {l:List Int} {w:World} (h:HRel w N A xs c) (hok:Valid N xs) (hx:xs.length <= 2 ^ 40) (hr:Reads w B (ints l)) (hl:l.length <= 2 ^ 40) (ho:OrdOk N l) :
  CallsV C.P 47 #[relVal N A xs.length c,.slice B l.length d] w fun v w' => NewL Sl.cells 65 3 w.heap.size w' v (slTo l xs xs.length) ∧ Ext w w':=by
 have hlen:=h.len
 have hcap:=h.cap
 refine callsV_of C_ok (args:=[_,_]) (plans:=plans47) Tryz.func47 rfl Tryz.ntmps47 (by kernel_rfl) (Nat.le_of_ble_eq_true rfl) ?_
 intro g1 w1 h1
 have M1:=(Mem.start w).alloc h1
 refine (places_spec (hr.ext M1.ext) hl ho).mono ?_
 rintro v w2 ⟨⟨gp,rfl,hp,hpn⟩,e2⟩
 have M2:=M1.grow e2
 have hgp1:gp ≠ g1:=by
  have:=M1.lt (List.mem_cons_self)
  omega
 have hgpw:w.heap.size <= gp:=Nat.le_trans M1.ext.size hpn
 have M3:Mem w w2 [(gp,.cells (ints (natsN l.length fun k => placeTo l l.length k)).toArray 3 (0,0)),(g1,.cells #[.int .i64 N,.slice A xs.length c] 36 (0,0))] :=
  M2.add hp hgpw (by intro p hp e; simp at hp; subst hp; exact hgp1 e.symm)
 refine ⟨_,M3.cell 1 rfl rfl,?_⟩
 have hlN:=ho.1
 refine loopE C_ok (fun (p:Nat × Value) => [(5,.slice (some ⟨gp,0,none⟩) l.length l.length),(6,p.2),(12,.slice A xs.length c),(13,.int .i64 xs.length),(14,.int .i64 p.1)])
  (fun p w' => p.1 <= xs.length ∧ Ext w2 w' ∧ NewL Sl.cells 65 3 w2.heap.size w' p.2 (slTo l xs p.1)) (fun p => xs.length - p.1) (0,.slice none 0 0) ⟨rfl,rfl,rfl,rfl,rfl,trivial⟩
  ⟨Nat.zero_le _,Ext.refl _,newL_nil⟩ ?_
 rintro ⟨i,u⟩ w3 ⟨hi,E3,hn⟩
 simp only at hi hn
 refine brE_dec (fun hlt => ?_) (fun hge => ?_)
 ·have hlt:i < xs.length:=by have:(i:Int) < (xs.length:Nat):=hlt; omega
  have M3:=M3.grow E3
  obtain ⟨b,o,hA,hc⟩:=Reads.arrow h.reads hlt
  have hg:=goodA_spec (hok.good hlt)
  have hhi:=hok.hi
  obtain ⟨p,hp⟩:=Int.eq_ofNat_of_zero_le hg.1
  obtain ⟨q,hq⟩:=Int.eq_ofNat_of_zero_le hg.2.2.1
  refine ⟨i,b,o,rfl,hlt,hA,?_⟩
  refine ⟨xs[i].cells,rfl,M3.oldRd hc,?_⟩
  intro gx w4 h4
  have M4:=M3.alloc h4
  refine ⟨rfl,_,_,M4.get 0 rfl,Nat.le_of_ble_eq_true rfl,rfl,?_⟩
  intro w5 h5
  have M5:Mem w w5 [(gx,.cells xs[i].cells.toArray 189 (0,0)),(gp,.cells (ints (natsN l.length fun k => placeTo l l.length k)).toArray 3 (0,0)),(g1,.cells #[.int .i64 N,.slice A xs.length c] 36 (0,0))]:=M4.put 0 rfl h5
  have E5:Ext w3 w5:=h5.ext_of h4.ext (by rw [h4.new]; exact Nat.le_refl _)
  have hn5:=hn.ext E5
  have hpl:p < l.length:=by omega
  have hql:q < l.length:=by omega
  refine ⟨.int .i64 (p:Int),by rw [<-hp]; exact M5.cell 0 rfl rfl,?_⟩
  refine ⟨p,gp,0,rfl,hpl,rfl,?_⟩
  refine ⟨.int .i64 (placeTo l l.length p:Nat),by have:=M5.rd 1 rfl p _ (natsN_get hpl _); simpa using this,?_⟩
  refine ⟨.int .i64 (q:Int),by rw [<-hq]; exact M5.cell 0 rfl rfl,?_⟩
  refine ⟨q,gp,0,rfl,hql,rfl,?_⟩
  refine ⟨.int .i64 (placeTo l l.length q:Nat),by have:=M5.rd 1 rfl q _ (natsN_get hql _); simpa using this,?_⟩
  have hsl:slB l xs[i] = decide (placeTo l l.length p > placeTo l l.length q):=by unfold slB; rw [hp,hq]; rfl
  refine brE_dec (fun hs => ?_) (fun hs => ?_)
  ·have hs:slB l xs[i] = true:=by rw [hsl]; exact decide_eq_true (by have:((placeTo l l.length p:Nat):Int) > (placeTo l l.length q:Nat):=hs; omega)
   refine ⟨_,M5.cell 0 (i:=0) rfl rfl,?_⟩
   refine ⟨_,M5.cell 0 (i:=1) rfl rfl,?_⟩
   refine ⟨_,M5.cell 0 (i:=3) rfl rfl,?_⟩
   intro g6 w6 h6
   have hn6:=hn5.ext h6.ext
   have hlen2:=slTo_len (l:=l) (xs:=xs) (i:=i)
   refine ⟨rfl,rfl,rfl,w2.heap.size,_,_,(Sl.of xs[i]).cells,hn6,Nat.le_trans E3.size (Nat.le_trans E5.size h6.ext.size),Nat.le_of_ble_eq_true rfl,rfl,rfl,.inr ⟨g6,0,rfl,Rd.of_block h6.here⟩,rfl,rfl,by omega,by simp only [maxLen]; omega,?_⟩
   intro v7 w7 ho7 hg7 _
   have hn7:NewL Sl.cells 65 3 w2.heap.size w7 v7 (slTo l xs (i + 1)):=by
    rw [slTo_succ hlt,if_pos hs]
    unfold NewL
    rw [List.length_append,List.flatMap_append]
    simpa using ho7
   refine ⟨((i + 1:Nat):Int),fit ⟨by omega,by omega⟩,?_⟩
   exact ⟨(i + 1,v7),⟨rfl,rfl,rfl,rfl,rfl,trivial⟩,⟨hlt,app_ext ((E3.trans E5).trans h6.ext) hn6 hg7,hn7⟩,by show xs.length - (i + 1) < xs.length - i; omega⟩
  ·have hs:¬ slB l xs[i] = true:=by rw [hsl]; intro h; have:=of_decide_eq_true h; have hs:¬ ((placeTo l l.length p:Nat):Int) > (placeTo l l.length q:Nat):=hs; omega
   refine ⟨((i + 1:Nat):Int),fit ⟨by omega,by omega⟩,?_⟩
   exact ⟨(i + 1,u),⟨rfl,rfl,rfl,rfl,rfl,trivial⟩,⟨hlt,E3.trans E5,by show NewL _ _ _ _ _ _ (slTo l xs (i + 1)); rw [slTo_succ hlt,if_neg hs]; exact hn5⟩,by show xs.length - (i + 1) < xs.length - i; omega⟩
 ·have:i = xs.length:=by have:¬ (i:Int) < (xs.length:Nat):=hge; omega
  subst this
  exact ⟨hn.base M3.ext.size,M3.ext.trans E3⟩
theorem Slights_spec {N:Int} {A B:Option Addr} {xs:List Arrow} {c d:Nat} {l:List Int} {w:World} (h:HRel w N A xs c) (hx:xs.length <= 2 ^ 40) (hr:Reads w B (ints l)) (hl:l.length <= 2 ^ 40) :
  CallsV C.P 15 #[relVal N A xs.length c,.slice B l.length d] w fun v w' => (∃ u,v = .tuple #[u,.int .i64 (bothE N xs l)] ∧ NewL Sl.cells 65 3 w.heap.size w' u (if bothE N xs l = 0 then slTo l xs xs.length else [])) ∧ Ext w w':=by
 refine callsV_of C_ok (args:=[_,_]) (plans:=[]) Tryz.func15 rfl Tryz.ntmps15 (by kernel_rfl) (Nat.le_of_ble_eq_true rfl) ?_
 intro g1 w1 h1
 have M1:=(Mem.start w).alloc h1
 refine ⟨[.int .i64 N,.slice A xs.length c],rfl,M1.rd 0 rfl,?_⟩
 refine (bothRO_spec (h.ext M1.ext) (hr.ext M1.ext) hl).mono ?_
 rintro v w2 ⟨rfl,e2⟩
 have M2:=M1.grow e2
 refine brE_ndec (fun hne => ?_) (fun heq => ?_)
 ·refine ⟨⟨_,rfl,?_⟩,M2.ext⟩
  rw [if_neg hne]; exact newL_nil
 have hz:chk N xs = 0 ∧ OrdOk N l:=by
  unfold bothE at heq
  by_cases h1:chk N xs = 0
  ·rw [if_pos h1] at heq
   refine ⟨h1,?_⟩
   unfold ordE at heq
   by_cases h2:OrdOk N l
   ·exact h2
   ·rw [if_neg h2] at heq; cases heq
  ·rw [if_neg h1] at heq; exact absurd heq h1
 refine ⟨[.int .i64 N,.slice A xs.length c],rfl,M2.rd 0 rfl,?_⟩
 refine (slights_spec (h.ext M2.ext) (valid_of_chk hz.1) hx (hr.ext M2.ext) hl hz.2).mono ?_
 rintro v w3 ⟨hn,e3⟩
 refine ⟨⟨v,by rw [heq],?_⟩,M2.ext.trans e3⟩
 rw [if_pos heq]
 exact hn.base M2.ext.size
end Go.Proofs.YtigapannpbaihaaGreat.Rk
namespace Go.Eng
open Go.RowKit
structure Wide (F:Fence):Prop where
 eq:F = Fence.wide ∨ ∃ lp,F = Fence.wide.inRound lp
theorem Wide.wide:Wide Fence.wide:=⟨.inl rfl⟩
theorem Wide.round (lp:Nat):Wide (Fence.wide.inRound lp):=⟨.inr ⟨lp,rfl⟩⟩
theorem Wide.fn {F:Fence} (h:Wide F) (f:Nat):F.fn f:=by
 rcases h.eq with rfl | ⟨lp,rfl⟩ <;> trivial
theorem Wide.dep {F:Fence} (h:Wide F) {n:Nat}:F.depth.isSome = true -> 1 <= n:=by
 rcases h.eq with rfl | ⟨lp,rfl⟩ <;> (intro e; cases e)
theorem Wide.calls {F:Fence} (h:Wide F) {n:Nat} {P:Program} {f:FuncId} {args:Array Value} {w:World} {R:Ending -> World -> Prop} (hc:Calls P f args w R):CallsIn F n P f args w R:=by
 have:=(callsIn_wide (n:=n)).2 hc
 rcases h.eq with rfl | ⟨lp,rfl⟩
 ·exact this
 ·exact this
theorem Wide.rows {F:Fence} (h:Wide F) {n:Nat} {P:Program} {row:String} {args:Array Value} {w:World} {R:Value -> World -> Prop} (hc:Rows P row args w R):RowsIn F n P row args w R:=by
 have:RowsIn Fence.wide n P row args w R:=fun c cs _ => let ⟨v,w',r,s⟩:=hc c cs; ⟨v,w',r,stepsIn_wide.2 s⟩
 rcases h.eq with rfl | ⟨lp,rfl⟩
 ·exact this
 ·exact this
theorem op_wide {F:Fence} (hF:Wide F) {nn:Nat} {P:Program} {o:Oper} {a:Act} {w:World} {next:Act -> World -> Prop} {Q:Exit -> Act -> World -> Prop} (hnd:∀ c,o.op ≠ .defer c) (h:o.wp P a w next Q):o.wpIn F nn P a w next Q:=by
 refine ⟨fun f _ => hF.fn f,?_⟩
 rw [Oper.semAt_eq _ _ _ hnd]
 unfold Oper.wp at h
 generalize (execOp a.eval o).run P w = r at h ⊢
 cases r with
 | ok nx w' =>
  cases nx with
  | value v => exact h
  | skip => exact h
  | defer d => exact h
  | enter f args =>
   refine ⟨hF.dep,(hF.calls h).mono ?_⟩
   intro e w'' hh
   cases e <;> exact hh
  | row row args => exact ⟨hF.dep,hF.rows h⟩
  | _ => exact h.elim
 | halt hh w' =>
  cases hh with
  | panic v => exact h
  | _ => exact h.elim
abbrev RepD (n:Nat) (D:List Deferred) (a:Act) (l:Env):Prop:=Rep n D a l
section
variable {n:Nat} {D:List Deferred} {a:Act} {l:Env}
theorem guard_soundD {all:List Oper} {o:Oper} {yes no:Env -> Prop} (h:guardE all o l yes no) (hr:RepD n D a l) :
  (Region.wanted o (yielded all.toArray a.tmps) = true ∧ ∃ l',RepD n D a l' ∧ yes l') ∨ (Region.wanted o (yielded all.toArray a.tmps) = false ∧ ∃ l',RepD n D a l' ∧ no l'):=by
 exact guard_sound h hr
end
section
variable {C:Cfg} {n:Nat}
theorem runLI (hC:C.Ok) {F:Fence} (hF:Wide F) {nn d:Nat} {D:List Deferred} {all:List Oper} (hd:dstsOk n all.toArray = true) (hnd:∀ o ∈ all,∀ c,o.op ≠ .defer c) {K:Env -> World -> Prop} {Q:Exit -> Act -> World -> Prop} {rest:List Nat}
  (hrest:∀ l w a w₁,K l w -> RepD n D a l -> Same w w₁ -> Dr C d w₁ -> wpOpsIn F nn C.P all.toArray Q rest a w₁) :
  ∀ (r:List Oper) (k:Nat) (l:Env) (w:World) (a:Act) (w₁:World),(∀ j,j < r.length -> r[j]? = all[k + j]?) -> runL C all r l w K -> RepD n D a l -> Same w w₁ -> Dr C d w₁ →
   wpOpsIn F nn C.P all.toArray Q (List.range' k r.length ++ rest) a w₁
 | [],k,l,w,a,w₁,_,h,hr,hs,hdw => by simpa using hrest l w a w₁ h hr hs hdw
 | o :: r,k,l,w,a,w₁,hl,h,hr,hs,hdw => by
  have h0:all[k]? = some o:=by simpa using (hl 0 (by simp)).symm
  have h0':all.toArray[k]? = some o:=by simpa using h0
  have hmem:o ∈ all:=List.mem_of_getElem? h0
  have hdst:=dstsOk_spec hd (Array.mem_of_getElem? h0')
  have hnext:∀ j,j < r.length -> r[j]? = all[k + 1 + j]?:=fun j hj => by have:=hl (j + 1) (by simpa using hj); simpa [Nat.add_assoc,Nat.add_comm 1 j] using this
  simp only [List.length_cons,List.range'_succ,List.cons_append,wpOpsIn,h0']
  rw [runL_cons] at h
  rcases guard_soundD h hr with ⟨hw,l',hr',h⟩ | ⟨hw,l',hr',h⟩
  ·simp only [hw,if_true]
   refine op_wide hF (hnd o hmem) ?_
   unfold opE at h
   cases hloud:isLoud o.op with
   | true =>
    simp only [hloud] at h
    exact opL_sound hC h (fun x u hx => hr'.evo hx) hs fun v w' w'' hk hw' hd' => runLI hC hF hd hnd hrest r (k + 1) _ w' _ w'' hnext hk (hr'.bindv hdst v) hw' (hdw.step hd')
   | false =>
    simp only [hloud] at h
    obtain ⟨v,hk,hrun⟩:=opQ_sound hC h
    have:=hrun a.eval (fun x u hx => hr'.evo hx) w₁ (.inr hs.ext)
    unfold Oper.wp
    rw [this]
    exact runLI hC hF hd hnd hrest r (k + 1) _ w _ w₁ hnext hk (hr'.bindv hdst v) hs hdw
  ·simp only [hw,Bool.false_eq_true,if_false]
   exact ⟨fun f _ => hF.fn f,runLI hC hF hd hnd hrest r (k + 1) _ w _ w₁ hnext h (hr'.bindv hdst undef) hs hdw⟩
def noDefer (ops:List Oper):Bool:=ops.all fun o => match o.op with
 | .defer _ => false
 | _ => true
theorem noDefer_spec {ops:List Oper} (h:noDefer ops = true):∀ o ∈ ops,∀ c,o.op ≠ .defer c:=by
 intro o ho c e
 have:=List.all_eq_true.1 h o ho
 rw [e] at this
 cases this
def YieldV (C:Cfg) (lp:Nat) (args:Array Value) (w:World) (K:Value -> World -> Prop):Prop :=
 ∀ w₁,Same w w₁ -> YieldAt Fence.wide 0 C.P lp args w₁ fun e w' => (∃ v w'',e = .returned v ∧ K v w'' ∧ Same w'' w') ∧ (C.dr = true -> w₁.drawn <= w'.drawn)
theorem YieldV.mono {lp:Nat} {args:Array Value} {w:World} {K K':Value -> World -> Prop} (h:YieldV C lp args w K) (hk:∀ v w',K v w' -> K' v w'):YieldV C lp args w K':=by
 intro w₁ hs
 obtain ⟨fn,tmps,assign,body,hy,hr⟩:=h w₁ hs
 exact ⟨fn,tmps,assign,body,hy,hr.mono fun _ _ ⟨⟨v,w'',he,hv,hw⟩,hd⟩ => ⟨⟨v,w'',he,hk v w'' hv,hw⟩,hd⟩⟩
theorem exec_yield {P:Program} {w:World} {o:Oper} {f:Operand} {args:Array Operand} {ts:Array Nat} (ho:o.op = .call ⟨.value f,args,ts⟩) {a:Act} {lp:Nat} (hf:a.eval f = .func (.yield lp) #[] #[]) {vs:List Value} (hvs:args.toList.map a.eval = vs)
  {fn:FuncId} {tmps:Array Value} {assign body:Code} (hy:(Instr.yield lp vs.toArray).run P w = .ok (.round lp fn tmps assign body) w) :
  (execOp a.eval o).run P w = .ok (.round lp fn tmps assign body) w:=by
 have hm:args.map a.eval = vs.toArray:=by apply Array.ext'; simp [hvs]
 unfold execOp
 rw [ho]
 simp [resolve,hf,Deferred.ofValue,invoke,hm,hy]
structure YieldK (C:Cfg) (all post:List Oper) (dst:Option Nat) (f:Operand) (args:List Operand) (K:Env -> World -> Prop) (l:Env) (w:World):Prop where
 ex:∃ lp vs,evo l f = some (.func (.yield lp) #[] #[]) ∧ argsOf l args = some vs ∧ YieldV C lp vs.toArray w fun v w' => runL C all post (bindv dst v l) w' K
theorem Snd.seq {x y:Code} {l:Env} {w:World} {Q:Exit -> Env -> World -> Prop} (h:Snd C n x l w (thenE Q fun l' w' => Rest C n y l' w' Q)):Snd C n (.seq x y) l w Q:=by
 intro d a w₁ hr hs hd
 refine wp_seq (wp_mono (h d a w₁ hr hs hd) ?_)
 rintro e a' w' ⟨l',w'',hq,hr',hs',hd'⟩
 cases e with
 | normal => exact hq.snd d a' w' hr' hs' hd'
 | _ => exact ⟨l',w'',hq,hr',hs',hd'⟩
theorem Snd.block {id:Nat} {c:Code} {l:Env} {w:World} {Q:Exit -> Env -> World -> Prop} (h:Snd C n c l w (blockE id Q)):Snd C n (.block id c) l w Q:=by
 intro d a w₁ hr hs hd
 refine wp_block (wp_mono (h d a w₁ hr hs hd) ?_)
 rintro e a' w' ⟨l',w'',hq,hr',hs',hd'⟩
 cases e with
 | exit id' =>
  simp only [blockE] at hq
  cases hb:Nat.beq id' id with
  | true =>
   rw [hb] at hq
   have:=Nat.eq_of_beq_eq_true hb
   subst this
   simp only [Exit.inBlock,if_true]
   exact ⟨l',w'',hq,hr',hs',hd'⟩
  | false =>
   rw [hb] at hq
   have:id' ≠ id:=fun e => by subst e; rw [Nat.beq_refl] at hb; cases hb
   simp only [Exit.inBlock,this,if_false]
   exact ⟨l',w'',hq,hr',hs',hd'⟩
 | _ => exact ⟨l',w'',hq,hr',hs',hd'⟩
structure Head {σ:Type} (E:σ -> Env) (I:σ -> World -> Prop) (μ:σ -> Nat) (m:Nat) (l:Env) (w:World):Prop where
 ex:∃ s,Cov l (E s) ∧ I s w ∧ μ s < m
theorem Snd.loop {σ:Type} (E:σ -> Env) (I:σ -> World -> Prop) (μ:σ -> Nat) (s₀:σ) {c:Code} {l:Env} {w:World} {Q:Exit -> Env -> World -> Prop} (hcov:Cov l (E s₀)) (h0:I s₀ w)
  (step:∀ s w,I s w -> Snd C n c (E s) w (thenE Q (Head E I μ (μ s)))):Snd C n (.loop c) l w Q:=by
 intro d a w₁ hr hs hdw
 refine wp_loop_ghost (fun m a w₁ => ∃ s w,μ s = m ∧ I s w ∧ Same w w₁ ∧ Rep n C.df a (E s) ∧ Dr C d w₁) (μ s₀) ⟨s₀,w,rfl,h0,hs,hr.sub hcov.sub,hdw⟩ ?_
 rintro m a w₁ ⟨s,w,rfl,hI,hs,hr,hdw⟩
 refine wp_mono (step s w hI d a w₁ hr hs hdw) ?_
 rintro e a' w' ⟨l',w'',hq,hr',hs',hd'⟩
 cases e with
 | normal =>
  obtain ⟨⟨s',hc',hI',hlt⟩⟩:=hq
  exact ⟨μ s',hlt,s',w'',rfl,hI',hs',hr'.sub hc'.sub,hd'⟩
 | _ => exact ⟨l',w'',hq,hr',hs',hd'⟩
theorem Snd.cond {c:Operand} {x y:Code} {b:Bool} {l:Env} {w:World} {Q:Exit -> Env -> World -> Prop} (hc:evo l c = some (.bool b)) (hx:b = true -> Snd C n x l w Q) (hy:b = false -> Snd C n y l w Q):Snd C n (.cond c x y) l w Q:=by
 intro d a w₁ hr hs hd
 have he:=hr.evo hc
 cases b with
 | true => exact wp_cond_true he (hx rfl d a w₁ hr hs hd)
 | false => exact wp_cond_false he (hy rfl d a w₁ hr hs hd)
theorem Snd.skip {l:Env} {w:World} {Q:Exit -> Env -> World -> Prop} (h:Q .normal l w):Snd C n .skip l w Q:=fun _ _ _ hr hs hd => wp_skip ⟨l,w,h,hr,hs,hd⟩
theorem put_putObj {w:World} {lp:Nat} {o:Obj} (h:lp < w.heap.size):Put w lp o (w.putObj lp o) :=
 ⟨World.putObj_size,World.putObj_heap_same h,fun _ hk => World.putObj_heap_other hk,rfl,rfl,rfl⟩
theorem Same.putObj {w w₁:World} (h:Same w w₁) (lp:Nat) (o:Obj):Same (w.putObj lp o) (w₁.putObj lp o) :=
 ⟨by show (w₁.heap.setIfInBounds lp o) = w.heap.setIfInBounds lp o; rw [h.heap],h.os,h.tape,h.output⟩
end
end Go.Eng
