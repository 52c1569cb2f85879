/- a part of the proof: steps, walks and plain laws that the law below stands on; no condition. -/
import Derived.Test.YtdpdjcopkehdjaaGreatRXa
import Derived.Test.YtdpdjcopkehdjaaGreatRXb
import Derived.Test.YtdpdjcopkehdjaaGreatRXc
import Derived.Test.YtdpdjcopkehdjaaGreatRXd
import Derived.Test.YtdpdjcopkehdjaaGreatRXe
import Derived.Test.YtdpdjcopkehdjaaGreatRXf
import Derived.Test.YtdpdjcopkehdjaaGreatRXg
import Derived.Test.YtdpdjcopkehdjaaGreatRXh
import Derived.Test.YtdpdjcopkehdjaaGreatRXi
import Derived.Test.YtdpdjcopkehdjaaGreatRXj
import Derived.Carry
import Derived.Maps.RangeRun
set_option linter.unusedVariables false
set_option linter.unusedSimpArgs false
set_option linter.unnecessarySimpa false
set_option linter.unusedSectionVars false
namespace Go.Proofs.YtdpdjcopkehdjaaGreat.Rk
open Go.Eng Go.RowKit Go.ChangeShapes Go.WideShapes Go.ChangeAt
theorem flat_range {α:Type} {enc:α -> List Value} {k:Nat} (hk:∀ x,(enc x).length = k) (k0:0 < k) (f:Nat -> α) (n i:Nat) (v:Value) (h:(((List.range n).map f).flatMap enc)[i]? = some v):∃ q j,q < n ∧ j < k ∧ i = q * k + j ∧ (enc (f q))[j]? = some v:=by
 have hl:=flat_length hk ((List.range n).map f)
 have hi:=(List.getElem?_eq_some_iff.1 h).1
 rw [hl] at hi
 simp at hi
 have hq:i / k < n:=Nat.div_lt_of_lt_mul (by rw [Nat.mul_comm]; exact hi)
 have hq':i / k < ((List.range n).map f).length:=by simpa using hq
 have hj:i % k < k:=Nat.mod_lt _ k0
 have e:i / k * k + i % k = i:=Nat.div_add_mod' i k
 refine ⟨i / k,i % k,hq,hj,e.symm,?_⟩
 have:=flat_get hk ((List.range n).map f) (i / k) (i % k) hq' hj
 rw [e,h] at this
 rw [this]
 simp
section
variable {H:Type} {enc:TypeId × Value -> H} {W:World}
set_option maxRecDepth 100000 in
theorem open_row {α:Type} [Inhabited α] {ec:α -> List Value} {k TS T n:Nat} {Pn:α -> Prop} (hk:∀ x,(ec x).length = k) (k0:0 < k) (hfirst:∀ (a:Addr) (y:α),W.cell? a = (ec y)[0]? -> a.spot = none)
  (hu:Tryz.prog.underlying TS = some (.slice T)) (hcl:Tryz.prog.cellsOf T = k)
  (ho:∀ {cs:List Value} {x:DataW H × List MemPlace},DataW.trod enc Tryz.prog W 0 (fun _ => true) true n T cs = some x -> ∃ y:α,cs = ec y ∧ Pn y)
  {cs:List Value} {x:DataW H × List MemPlace} (h:DataW.trod enc Tryz.prog W 0 (fun _ => true) true (n + 1) TS cs = some x) :
  ∃ A l c,cs = [.slice A l.length c] ∧ HL ec W A l c ∧ ∀ y ∈ l,Pn y:=by
 rcases DataW.trod_slice hu h with ⟨e1,_⟩ | ⟨a,len,cap,elems,rest,n',hn,e1,_,hb,hl,hm,hlen,hel,hsp,hns⟩
 ·exact ⟨none,[],0,e1,⟨.inl rfl,Nat.le_refl _,by simp⟩,by simp⟩
 ·obtain rfl:n = n':=by omega
  rw [hcl] at hel
  obtain ⟨f,hf2⟩:=Deep.choose_lt (n:=len) (p:=fun i (y:α) => W.cells? 0 (a.add (i * k)) k = some (ec y) ∧ Pn y) (fun i hi => by
   have h1:=hel i hi
   rw [List.getElem?_eq_getElem (by omega)] at h1
   obtain ⟨cs',h2,h3⟩:=Option.bind_eq_some_iff.1 h1
   obtain ⟨y,rfl,hy⟩:=ho h3
   exact ⟨y,h2,hy⟩)
  have hll:((List.range len).map f).length = len:=by simp
  refine ⟨some a,(List.range len).map f,cap,by rw [hll]; exact e1,⟨?_,by rw [hll]; exact hl,by rw [hll]; simp only [maxLen] at hm; omega⟩,?_⟩
  ·by_cases h0:len = 0
   ·subst h0; exact .inl rfl
   ·have hc:∀ i < len,∀ j < k,W.cell? ((a.add (i * k)).add j) = (ec (f i))[j]?:=fun i hi j hj => (World.cells?_some (hf2 i (by omega)).1).2.2 j hj
    have hs:a.spot = none:=by
     have h1:=hc 0 (by omega) 0 k0
     have e0:(a.add (0 * k)).add 0 = a:=by
      rw [Nat.zero_mul]; rfl
     rw [e0] at h1
     exact hfirst a _ h1
    obtain ⟨b,o,sp⟩:=a
    simp only at hs
    subst hs
    refine .inr ⟨b,o,rfl,fun i v hv => ?_⟩
    obtain ⟨q,j,hq,hj,rfl,hg⟩:=flat_range hk k0 f len i v hv
    have:=hc q hq j hj
    rw [hg] at this
    rw [<-this]
    rw [add_spot,add_spot,Nat.add_assoc]
  ·intro y hy
   obtain ⟨i,hi,rfl⟩:=List.mem_map.1 hy
   exact (hf2 i (by have:=List.mem_range.1 hi; omega)).2
theorem cellsT:Tryz.prog.cellsOf 70 = 5:=by kernel_rfl
theorem cellsTs:Tryz.prog.cellsOf 68 = 1:=by kernel_rfl
theorem cellsRl:Tryz.prog.cellsOf 72 = 8:=by kernel_rfl
theorem cellsRls:Tryz.prog.cellsOf 27 = 1:=by kernel_rfl
theorem cellsRs:Tryz.prog.cellsOf 29 = 1:=by kernel_rfl
theorem recRs:Tryz.prog.readableRec 29 = true:=by kernel_rfl
theorem rowRs:(29:TypeId) < Tryz.prog.types.size:=of_decide_eq_true (by kernel_rfl)
theorem underTs:Tryz.prog.underlying 68 = some (.slice 70):=by kernel_rfl
theorem underRls:Tryz.prog.underlying 27 = some (.slice 72):=by kernel_rfl
theorem underT:Tryz.prog.underlying 70 = some (.struct #[⟨ "Op",5,0,false, "", "",0⟩,⟨ "Attr",5,1,false, "", "",1⟩,⟨ "Side",5,2,false, "", "",2⟩,⟨ "N",3,3,false, "", "",8⟩,⟨ "Of",68,4,false, "", "",16⟩]):=by kernel_rfl
theorem underRl:Tryz.prog.underlying 72 = some (.struct #[⟨ "Name",9,0,false, "", "",0⟩,⟨ "Rank",3,1,false, "", "",16⟩,⟨ "Weight",3,2,false, "", "",24⟩,⟨ "If",70,3,false, "", "",32⟩]):=by kernel_rfl
theorem underRs:Tryz.prog.underlying 29 = some (.struct #[⟨ "List",27,0,false, "", "",0⟩]):=by kernel_rfl
theorem list5' {l:List Value} (h:l.length = 5):∃ a b c d e,l = [a,b,c,d,e]:=by
 match l,h with
 | [a,b,c,d,e],_ => exact ⟨a,b,c,d,e,rfl⟩
set_option maxRecDepth 100000 in
theorem open_test (fuel:Nat):∀ {cs:List Value} {x:DataW H × List MemPlace},DataW.trod enc Tryz.prog W 0 (fun _ => true) true fuel 70 cs = some x -> ∃ t:Tst,cs = t.cells ∧ TestIs W t:=by
 induction fuel using Nat.strongRecOn with
 | _ fuel ih =>
 intro cs x h
 obtain ⟨xs,n,hfu,_,hlen,hxs,hg⟩:=DataW.trod_struct underT h
 rw [cellsT] at hlen
 obtain ⟨a0,a1,a2,a3,a4,rfl⟩:=list5' hlen
 have some5:∀ i,i < 5 -> ∃ y,xs[i]? = some y:=fun i hi => ⟨_,List.getElem?_eq_getElem (by rw [hxs]; exact hi)⟩
 obtain ⟨y0,hy0⟩:=some5 0 (by omega)
 obtain ⟨y1,hy1⟩:=some5 1 (by omega)
 obtain ⟨y2,hy2⟩:=some5 2 (by omega)
 obtain ⟨y3,hy3⟩:=some5 3 (by omega)
 obtain ⟨y4,hy4⟩:=some5 4 (by omega)
 have f0:DataW.trod enc Tryz.prog W 0 (fun _ => true) true n 5 (([a0,a1,a2,a3,a4].drop 0).take (Tryz.prog.cellsOf 5)) = xs[0]?:=hg 0 _ rfl
 have f1:DataW.trod enc Tryz.prog W 0 (fun _ => true) true n 5 (([a0,a1,a2,a3,a4].drop 1).take (Tryz.prog.cellsOf 5)) = xs[1]?:=hg 1 _ rfl
 have f2:DataW.trod enc Tryz.prog W 0 (fun _ => true) true n 5 (([a0,a1,a2,a3,a4].drop 2).take (Tryz.prog.cellsOf 5)) = xs[2]?:=hg 2 _ rfl
 have f3:DataW.trod enc Tryz.prog W 0 (fun _ => true) true n 3 (([a0,a1,a2,a3,a4].drop 3).take (Tryz.prog.cellsOf 3)) = xs[3]?:=hg 3 _ rfl
 have f4:DataW.trod enc Tryz.prog W 0 (fun _ => true) true n 68 (([a0,a1,a2,a3,a4].drop 4).take (Tryz.prog.cellsOf 68)) = xs[4]?:=hg 4 _ rfl
 rw [cells5,hy0] at f0
 rw [cells5,hy1] at f1
 rw [cells5,hy2] at f2
 rw [cells3,hy3] at f3
 rw [cellsTs,hy4] at f4
 obtain ⟨z0,q0,_,w0⟩:=DataW.trod_int under5 f0
 obtain ⟨z1,q1,_,w1⟩:=DataW.trod_int under5 f1
 obtain ⟨z2,q2,_,w2⟩:=DataW.trod_int under5 f2
 obtain ⟨z3,q3,_,w3⟩:=DataW.trod_int under3 f3
 have hn:∃ m,n = m + 1:=by
  cases n with
  | zero => simp [DataW.trod] at f4
  | succ m => exact ⟨m,rfl⟩
 obtain ⟨m,rfl⟩:=hn
 obtain ⟨A,l,c,q4,hHL,hkids⟩:=open_row (ec:=Tst.cells) (k:=5) (n:=m) (Pn:=TestIs W) Tst.len (by omega) (fun a y h2 => by
  have h2:W.cell? a = some (.int .u8 y.op):=h2
  unfold World.cell? at h2
  cases hsp:a.spot with
  | none => rfl
  | some s =>
   simp only [hsp] at h2
   split at h2 <;> simp at h2) underTs cellsT (fun hh => ih m (by omega) hh) f4
 simp at q0 q1 q2 q3 q4
 subst q0 q1 q2 q3 q4
 exact ⟨.mk z0 z1 z2 z3 A c l,rfl,.mk ⟨wf_u8 w0,wf_u8 w1,wf_u8 w2,wf_in64 w3⟩ hHL.reads hHL.len hHL.cap hkids⟩
set_option maxRecDepth 100000 in
theorem open_rule {fuel:Nat} {cs:List Value} {x:DataW H × List MemPlace} (h:DataW.trod enc Tryz.prog W 0 (fun _ => true) true fuel 72 cs = some x):∃ t:Rl,cs = t.cells ∧ RuleIs W t:=by
 obtain ⟨xs,n,_,_,hlen,hxs,hg⟩:=DataW.trod_struct underRl h
 rw [cellsRl] at hlen
 have some4:∀ i,i < 4 -> ∃ y,xs[i]? = some y:=fun i hi => ⟨_,List.getElem?_eq_getElem (by rw [hxs]; exact hi)⟩
 obtain ⟨y0,hy0⟩:=some4 0 (by omega)
 obtain ⟨y1,hy1⟩:=some4 1 (by omega)
 obtain ⟨y2,hy2⟩:=some4 2 (by omega)
 obtain ⟨y3,hy3⟩:=some4 3 (by omega)
 have f0:DataW.trod enc Tryz.prog W 0 (fun _ => true) true n 9 ((cs.drop 0).take (Tryz.prog.cellsOf 9)) = xs[0]?:=hg 0 _ rfl
 have f1:DataW.trod enc Tryz.prog W 0 (fun _ => true) true n 3 ((cs.drop 1).take (Tryz.prog.cellsOf 3)) = xs[1]?:=hg 1 _ rfl
 have f2:DataW.trod enc Tryz.prog W 0 (fun _ => true) true n 3 ((cs.drop 2).take (Tryz.prog.cellsOf 3)) = xs[2]?:=hg 2 _ rfl
 have f3:DataW.trod enc Tryz.prog W 0 (fun _ => true) true n 70 ((cs.drop 3).take (Tryz.prog.cellsOf 70)) = xs[3]?:=hg 3 _ rfl
 rw [cells9,hy0] at f0
 rw [cells3,hy1] at f1
 rw [cells3,hy2] at f2
 rw [cellsT,hy3] at f3
 obtain ⟨s0,q0,_,w0⟩:=DataW.trod_string under9 f0
 obtain ⟨z1,q1,_,w1⟩:=DataW.trod_int under3 f1
 obtain ⟨z2,q2,_,w2⟩:=DataW.trod_int under3 f2
 obtain ⟨t,q3,ht⟩:=open_test n f3
 refine ⟨⟨s0,z1,z2,t⟩,?_,⟨by simpa [maxLen] using w0,wf_in64 w1,wf_in64 w2,ht⟩⟩
 match cs,hlen,q0,q1,q2,q3 with
 | [a0,a1,a2,a3,a4,a5,a6,a7],_,q0,q1,q2,q3 =>
  simp at q0 q1 q2 q3
  subst q0 q1 q2
  show _ = _ :: _ :: _ :: t.cells
  rw [<-q3]
set_option maxRecDepth 100000 in
theorem open_rules {v:Value} {d:DataW H} {p:List MemPlace} {b0:Nat} (hv:Value.okWide Tryz.prog W .any b0 29 v) (h:DataW.Trod enc Tryz.prog W 0 (fun _ => true) true 29 v d p) :
  ∃ R l c,v = .agg #[.slice R l.length c] ∧ HRs W R l c:=by
 obtain ⟨cs,rfl,hsz⟩:=okWide_struct underRs hv
 obtain ⟨fuel,hf⟩:=h
 obtain ⟨xs,n,_,_,hlen,hxs,hg⟩:=DataW.trod_struct underRs hf
 obtain ⟨y0,hy0⟩:∃ y,xs[0]? = some y:=⟨_,List.getElem?_eq_getElem (by rw [hxs]; exact Nat.zero_lt_one)⟩
 have f0:DataW.trod enc Tryz.prog W 0 (fun _ => true) true n 27 (((Value.agg cs).cells.toList.drop 0).take (Tryz.prog.cellsOf 27)) = xs[0]?:=hg 0 _ rfl
 rw [cellsRls,hy0] at f0
 have hn:∃ m,n = m + 1:=by
  cases n with
  | zero => simp [DataW.trod] at f0
  | succ m => exact ⟨m,rfl⟩
 obtain ⟨m,rfl⟩:=hn
 obtain ⟨R,l,c,q,hHL,hk⟩:=open_row (ec:=Rl.cells) (k:=8) (n:=m) (Pn:=RuleIs W) Rl.len (by omega) (fun a y h2 => by
  have h2:W.cell? a = some (.string y.name):=h2
  unfold World.cell? at h2
  cases hsp:a.spot with
  | none => rfl
  | some s =>
   simp only [hsp] at h2
   split at h2 <;> simp at h2) underRls cellsRl (fun hh => open_rule hh) f0
 refine ⟨R,l,c,?_,hHL,hk⟩
 have hl1:cs.toList.length = 1:=by simpa [cellsRs] using hsz
 congr 1
 apply Array.ext'
 have:(Value.agg cs).cells.toList = cs.toList:=rfl
 rw [this] at q
 rw [List.drop_zero,List.take_of_length_le (by omega)] at q
 exact q
end
section
variable {H:Type} {enc:TypeId × Value -> H} {P:Program} {w:World} {base:Nat} {spare:Nat -> Bool} {held:Bool}
theorem trodAll_mkn5 {t0 t1 t2 t3 t4:TypeId} {v0 v1 v2 v3 v4:Value} {d0 d1 d2 d3 d4:DataW H} {p0 p1 p2 p3 p4:List MemPlace} (h0:DataW.Trod enc P w base spare held t0 v0 d0 p0) (h1:DataW.Trod enc P w base spare held t1 v1 d1 p1) (h2:DataW.Trod enc P w base spare held t2 v2 d2 p2) (h3:DataW.Trod enc P w base spare held t3 v3 d3 p3) (h4:DataW.Trod enc P w base spare held t4 v4 d4 p4) :
  DataW.TrodAll enc P w base spare held [t0,t1,t2,t3,t4] [v0,v1,v2,v3,v4] [d0,d1,d2,d3,d4] (p0 ++ (p1 ++ (p2 ++ (p3 ++ (p4))))):=⟨p0,_,h0,trodAll_mk4 h1 h2 h3 h4,rfl⟩
theorem trodAll_mkn6 {t0 t1 t2 t3 t4 t5:TypeId} {v0 v1 v2 v3 v4 v5:Value} {d0 d1 d2 d3 d4 d5:DataW H} {p0 p1 p2 p3 p4 p5:List MemPlace} (h0:DataW.Trod enc P w base spare held t0 v0 d0 p0) (h1:DataW.Trod enc P w base spare held t1 v1 d1 p1) (h2:DataW.Trod enc P w base spare held t2 v2 d2 p2) (h3:DataW.Trod enc P w base spare held t3 v3 d3 p3) (h4:DataW.Trod enc P w base spare held t4 v4 d4 p4) (h5:DataW.Trod enc P w base spare held t5 v5 d5 p5) :
  DataW.TrodAll enc P w base spare held [t0,t1,t2,t3,t4,t5] [v0,v1,v2,v3,v4,v5] [d0,d1,d2,d3,d4,d5] (p0 ++ (p1 ++ (p2 ++ (p3 ++ (p4 ++ (p5)))))):=⟨p0,_,h0,trodAll_mkn5 h1 h2 h3 h4 h5,rfl⟩
theorem trodAll_n7 {t0 t1 t2 t3 t4 t5 t6:TypeId} {args:Array Value} {ds:List (DataW H)} {ps:List MemPlace} (h:DataW.TrodAll enc P w base spare held [t0,t1,t2,t3,t4,t5,t6] args.toList ds ps) :
  ∃ v0 v1 v2 v3 v4 v5 v6 d0 d1 d2 d3 d4 d5 d6 p0 p1 p2 p3 p4 p5 p6,args = #[v0,v1,v2,v3,v4,v5,v6] ∧ ds = [d0,d1,d2,d3,d4,d5,d6] ∧ ps = p0 ++ (p1 ++ (p2 ++ (p3 ++ (p4 ++ (p5 ++ (p6)))))) ∧ DataW.Trod enc P w base spare held t0 v0 d0 p0 ∧ DataW.Trod enc P w base spare held t1 v1 d1 p1 ∧ DataW.Trod enc P w base spare held t2 v2 d2 p2 ∧ DataW.Trod enc P w base spare held t3 v3 d3 p3 ∧ DataW.Trod enc P w base spare held t4 v4 d4 p4 ∧ DataW.Trod enc P w base spare held t5 v5 d5 p5 ∧ DataW.Trod enc P w base spare held t6 v6 d6 p6:=by
 obtain ⟨v0,vs0,d0,ds0,p0,q0,hargs,rfl,rfl,h0,r0⟩:=trodAll_cons h
 obtain ⟨v1,vs1,d1,ds1,p1,q1,rfl,rfl,rfl,h1,r1⟩:=trodAll_cons r0
 obtain ⟨v2,vs2,d2,ds2,p2,q2,rfl,rfl,rfl,h2,r2⟩:=trodAll_cons r1
 obtain ⟨v3,vs3,d3,ds3,p3,q3,rfl,rfl,rfl,h3,r3⟩:=trodAll_cons r2
 obtain ⟨v4,vs4,d4,ds4,p4,q4,rfl,rfl,rfl,h4,r4⟩:=trodAll_cons r3
 obtain ⟨v5,vs5,d5,ds5,p5,q5,rfl,rfl,rfl,h5,r5⟩:=trodAll_cons r4
 obtain ⟨v6,vs6,d6,ds6,p6,q6,rfl,rfl,rfl,h6,r6⟩:=trodAll_cons r5
 obtain ⟨rfl,rfl,rfl⟩:=trodAll_nil r6
 exact ⟨v0,v1,v2,v3,v4,v5,v6,d0,d1,d2,d3,d4,d5,d6,p0,p1,p2,p3,p4,p5,p6,by cases args; simp_all,rfl,by simp,h0,h1,h2,h3,h4,h5,h6⟩
theorem trodAll_mkn7 {t0 t1 t2 t3 t4 t5 t6:TypeId} {v0 v1 v2 v3 v4 v5 v6:Value} {d0 d1 d2 d3 d4 d5 d6:DataW H} {p0 p1 p2 p3 p4 p5 p6:List MemPlace} (h0:DataW.Trod enc P w base spare held t0 v0 d0 p0) (h1:DataW.Trod enc P w base spare held t1 v1 d1 p1) (h2:DataW.Trod enc P w base spare held t2 v2 d2 p2) (h3:DataW.Trod enc P w base spare held t3 v3 d3 p3) (h4:DataW.Trod enc P w base spare held t4 v4 d4 p4) (h5:DataW.Trod enc P w base spare held t5 v5 d5 p5) (h6:DataW.Trod enc P w base spare held t6 v6 d6 p6) :
  DataW.TrodAll enc P w base spare held [t0,t1,t2,t3,t4,t5,t6] [v0,v1,v2,v3,v4,v5,v6] [d0,d1,d2,d3,d4,d5,d6] (p0 ++ (p1 ++ (p2 ++ (p3 ++ (p4 ++ (p5 ++ (p6))))))):=⟨p0,_,h0,trodAll_mkn6 h1 h2 h3 h4 h5 h6,rfl⟩
end
end Go.Proofs.YtdpdjcopkehdjaaGreat.Rk
