/- a part of the proof: steps, walks and plain laws that the law below stands on; no condition. -/
import Derived.Test.YtigapannpbaihaaGreatEXa
import Derived.Test.YtigapannpbaihaaGreatEXb
import Derived.Test.YtigapannpbaihaaGreatEXc
import Derived.Test.YtigapannpbaihaaGreatEXd
import Derived.Test.YtigapannpbaihaaGreatEXe
import Derived.Test.YtigapannpbaihaaGreatEXk
import Derived.Test.YtigapannpbaihaaGreatEXl
import Derived.Test.YtigapannpbaihaaGreatEXm
import Derived.Test.YtigapannpbaihaaGreatEXn
set_option linter.unusedVariables false
set_option linter.unusedSimpArgs false
set_option linter.unnecessarySimpa false
set_option linter.unusedSectionVars false
namespace Go.Proofs.YtigapannpbaihaaGreat
open Go.Eng Go.RowKit
theorem IndexFuncW_spec {w:World} {A:Option Addr} {l:List Waiv} {c gd:Nat} {cb:Array Value} {p:Waiv -> Bool} (hr:Reads w A (l.flatMap Waiv.cells)) (hl:l.length <= 2 ^ 20) (hgd:C.can gd = true)
  (hdel:∀ (x:Waiv) (w':World),Ext w w' -> CallsV C.P gd (#[] ++ [x.val].toArray ++ cb) w' fun v w'' => v = .bool (p x) ∧ Ext w' w'') :
  CallsV C.P 103 #[.slice A l.length c,.func (.func gd) #[] cb] w fun v w' => ((v = .int .i64 (-1) ∧ ∀ x ∈ l,p x = false) ∨ ∃ i:Nat,v = .int .i64 (i:Nat) ∧ ∃ h:i < l.length,p l[i] = true ∧ ∀ j (hj:j < l.length),j < i -> p l[j] = false) ∧ Ext w w':=by
 refine callsV_of C_ok (args:=[_,_]) (plans:=[]) Tryz.func103 rfl Tryz.ntmps103 (by kernel_rfl) (Nat.le_of_ble_eq_true rfl) ?_
 refine loopE C_ok (fun (i:Nat) => [(0,.slice A l.length c),(1,.func (.func gd) #[] cb),(7,.int .i64 l.length),(8,.int .i64 i)])
  (fun i w' => Ext w w' ∧ i <= l.length ∧ ∀ j (hj:j < l.length),j < i -> p l[j] = false) (fun i => l.length - i) 0 ⟨rfl,rfl,rfl,rfl,trivial⟩
  ⟨Ext.refl _,Nat.zero_le _,fun j _ hj => absurd hj (Nat.not_lt_zero _)⟩ ?_
 rintro i w1 ⟨e1,hi,hall⟩
 refine brE_dec (fun hlt => ?_) (fun hge => ?_)
 ·have hlt:i < l.length:=by have:(i:Int) < (l.length:Nat):=hlt; omega
  obtain ⟨b,o,hA,hc⟩:=Reads.elem Waiv.len (by omega) (hr.ext e1) hlt
  refine ⟨i,b,o,rfl,hlt,hA,?_⟩
  refine ⟨l[i].cells,rfl,hc,?_⟩
  refine brE_true hgd ?_
  refine (hdel l[i] w1 e1).mono ?_
  rintro v w2 ⟨rfl,e2⟩
  refine brE_mk (fun h2 => ?_) (fun h2 => ?_)
  ·exact ⟨.inr ⟨i,rfl,hlt,h2,hall⟩,e1.trans e2⟩
  ·refine ⟨((i + 1:Nat):Int),fit ⟨by omega,by omega⟩,?_⟩
   refine ⟨i + 1,⟨rfl,rfl,rfl,rfl,trivial⟩,⟨e1.trans e2,hlt,fun j hj hji => ?_⟩,by omega⟩
   rcases Nat.lt_or_ge j i with h | h
   ·exact hall j hj h
   ·obtain rfl:j = i:=by omega
    exact h2
 ·have:i = l.length:=by have:¬ (i:Int) < (l.length:Nat):=hge; omega
  subst this
  refine ⟨.inl ⟨rfl,fun x hx => ?_⟩,e1⟩
  obtain ⟨j,hj,rfl⟩:=List.getElem_of_mem hx
  exact hall j hj hj
set_option maxRecDepth 100000 in
theorem DeleteFuncW_spec {B:Nat} {w:World} {v:Value} {l:List Waiv} {gd:Nat} {cb:Array Value} {p:Waiv -> Bool} (ho:NewL Waiv.cells 124 9 B w v l) (hB:B <= w.heap.size) (hl:l.length <= 2 ^ 20) (hgd:C.can gd = true)
  (hdel:∀ (x:Waiv) (w':World),Below B w w' -> CallsV C.P gd (#[] ++ [x.val].toArray ++ cb) w' fun v w'' => v = .bool (p x) ∧ Ext w' w'') :
  CallsV C.P 100 #[v,.func (.func gd) #[] cb] w fun v' w' => NewL Waiv.cells 124 9 B w' v' (l.filter fun x => !p x) ∧ Below B w w':=by
 obtain ⟨A,cap,rfl,hR,hlc⟩:=reads_of_owns ho
 refine callsV_of C_ok (args:=[_,_]) (plans:=[]) Tryz.func100 rfl Tryz.ntmps100 (by kernel_rfl) (Nat.le_of_ble_eq_true rfl) ?_
 refine (IndexFuncW_spec hR hl hgd fun x w' e => hdel x w' (e.mono hB)).mono ?_
 rintro v w1 ⟨hi | ⟨i0,rfl,hi0,hsm,hfirst⟩,e1⟩
 ·obtain ⟨rfl,hall⟩:=hi
  have e:(l.filter fun x => !p x) = l:=List.filter_eq_self.2 fun x hx => by rw [hall x hx]; rfl
  rw [e]
  exact ⟨ho.ext e1,e1.mono hB⟩
 refine ⟨((i0 + 1:Nat):Int),fit ⟨by omega,by omega⟩,?_⟩
 have hA:∃ g,A = some ⟨g,0,none⟩:=by
  obtain ⟨_,⟨hv,h0⟩ | ⟨g,cap',cur,hv,_⟩⟩:=ho
  ·omega
  ·simp at hv; exact ⟨g,hv.1⟩
 obtain ⟨g,rfl⟩:=hA
 have kp0:=keep_first hi0 hsm hfirst
 have ho1:w1.ownsRow B 124 9 (.slice (some ⟨g,0,none⟩) l.length cap) l.length (l.flatMap Waiv.cells):=ho.ext e1
 refine loopE C_ok (fun (s:Nat × Nat × List Waiv) => [(0,.slice (some ⟨g,0,none⟩) l.length cap),(1,.func (.func gd) #[] cb),(5,.int .i64 s.2.1),(6,.int .i64 s.1)])
  (fun s w' => s.2.1 = ((l.take s.1).filter fun x => !p x).length ∧ s.2.1 < s.1 ∧ s.1 <= l.length ∧ s.2.2.length = l.length ∧ w'.ownsRow B 124 9 (.slice (some ⟨g,0,none⟩) l.length cap) l.length (s.2.2.flatMap Waiv.cells) ∧ s.2.2.take s.2.1 = ((l.take s.1).filter fun x => !p x) ∧ (∀ k,s.1 <= k -> s.2.2[k]? = l[k]?) ∧ Below B w w')
  (fun s => l.length - s.1) (i0 + 1,i0,l) ⟨rfl,rfl,rfl,rfl,trivial⟩
  ⟨by show i0 = _; rw [kp0,List.length_take]; omega,Nat.lt_succ_self _,hi0,rfl,ho1,kp0.symm,fun _ _ => rfl,e1.mono hB⟩ ?_
 rintro ⟨j,i,R⟩ w2 ⟨hi',hij',hj',hRl',ho2',htake',hrest',b2⟩
 have hi:i = ((l.take j).filter fun x => !p x).length:=hi'
 have hij:i < j:=hij'
 have hj:j <= l.length:=hj'
 have hRl:R.length = l.length:=hRl'
 have ho2:w2.ownsRow B 124 9 (.slice (some ⟨g,0,none⟩) l.length cap) l.length (R.flatMap Waiv.cells):=ho2'
 have htake:R.take i = ((l.take j).filter fun x => !p x):=htake'
 have hrest:∀ k,j <= k -> R[k]? = l[k]?:=hrest'
 clear hRl' hi' hij' hj' ho2' hrest' htake'
 refine brE_dec (fun hlt => ?_) (fun hge => ?_)
 ·have hlt:j < l.length:=by have:(j:Int) < (l.length:Nat):=hlt; omega
  have next:IntKind.i64.wrap ((j:Int) + 1) = ((j + 1:Nat):Int):=fit ⟨by omega,by omega⟩
  have hRj:R[j]'(by omega) = l[j]:=by
   have:=hrest j (Nat.le_refl _)
   rw [List.getElem?_eq_getElem hlt,List.getElem?_eq_getElem (by omega)] at this
   exact Option.some.inj this
  have hreads:Reads w2 (some ⟨g,0,none⟩) (R.flatMap Waiv.cells):=by
   obtain ⟨A',c',e,h,_⟩:=reads_of_owns ho2
   cases e; exact h
  obtain ⟨b1,o1,hA1,hc1⟩:=Reads.elem Waiv.len (by omega) hreads (i:=j) (by omega)
  cases hA1
  rw [hRj] at hc1
  refine ⟨j,g,0,rfl,hlt,rfl,?_⟩
  refine ⟨l[j].cells,rfl,hc1,?_⟩
  intro g7 w3 h3
  refine ⟨rfl,_,_,h3.here,Nat.le_of_ble_eq_true rfl,rfl,?_⟩
  intro w4 h4
  have h4:Put w3 g7 (.cells l[j].cells.toArray 124 (0,0)) w4:=h4
  have e24:Ext w2 w4:=h4.ext_of h3.ext (by rw [h3.new]; exact Nat.le_refl _)
  have hBw2:B <= w2.heap.size:=Nat.le_trans hB b2.size
  have b4:Below B w w4:=b2.trans (e24.mono hBw2)
  refine ⟨l[j].cells,rfl,Rd.of_block h4.here,?_⟩
  refine brE_true hgd ?_
  refine (hdel l[j] w4 b4).mono ?_
  rintro v w5 ⟨rfl,e5⟩
  have e25:=e24.trans e5
  have b5:Below B w w5:=b2.trans (e25.mono hBw2)
  have ho5:=ownsRow_ext ho2 e25
  have hk:=keep_at (p:=p) hlt
  refine brE_mk (fun h2 => ?_) (fun h2 => ?_)
  ·have h2:p l[j] = false:=by simpa using h2
   rw [h2,if_neg (by decide)] at hk
   obtain ⟨cur,hg,hgB,hcl,hccap,hncap,hdl,hct,hput⟩:=ownsRow_open ho5
   refine ⟨l[j].cells,rfl,Rd.of_block (e5.heap h4.here),?_⟩
   refine ⟨i,g,0,rfl,(by omega:i < l.length),rfl,?_⟩
   refine ⟨rfl,_,_,hg,by show 0 + i * 9 + 9 <= cur.length; omega,rfl,?_⟩
   intro w6 h6
   have h6:Put w5 g (.cells (splice cur (0 + i * 9) l[j].cells).toArray 124 (0,0)) w6:=h6
   have ho6:=hput (0 + i * 9) l[j].cells w6 (by show 0 + i * 9 + 9 <= _; omega) h6
   have e0:0 + i * 9 = i * 9:=by omega
   rw [e0] at ho6
   have hset:splice (R.flatMap Waiv.cells) (i * 9) l[j].cells = (R.set i l[j]).flatMap Waiv.cells:=flat_set Waiv.len (by omega) _
   rw [hset] at ho6
   have nexti:IntKind.i64.wrap ((i:Int) + 1) = ((i + 1:Nat):Int):=fit ⟨by omega,by omega⟩
   refine ⟨_,nexti,?_⟩
   refine ⟨_,next,?_⟩
   refine ⟨(j + 1,i + 1,R.set i l[j]),⟨rfl,rfl,rfl,rfl,trivial⟩,⟨?_,by show i + 1 < j + 1; omega,hlt,by show (R.set i l[j]).length = _; rw [List.length_set,hRl],ho6,?_,?_,below_put b5 h6 hgB⟩,by show l.length - (j + 1) < l.length - j; omega⟩
   ·show i + 1 = ((l.take (j + 1)).filter fun x => !p x).length
    rw [hk,List.length_append,<-hi]; rfl
   ·show (R.set i l[j]).take (i + 1) = ((l.take (j + 1)).filter fun x => !p x)
    have hil:i < (R.set i l[j]).length:=by rw [List.length_set]; omega
    rw [hk,List.take_succ_eq_append_getElem hil,List.take_set_of_le (Nat.le_refl _),htake]
    congr 1
    simp
   ·intro k hk1
    show (R.set i l[j])[k]? = l[k]?
    have hk1:j + 1 <= k:=hk1
    rw [List.getElem?_set_ne (by omega)]
    exact hrest k (by omega)
  ·have h2:p l[j] = true:=by simpa using h2
   rw [h2,if_pos rfl,List.append_nil] at hk
   refine ⟨_,next,?_⟩
   exact ⟨(j + 1,i,R),⟨rfl,rfl,rfl,rfl,trivial⟩,⟨by show i = ((l.take (j + 1)).filter fun x => !p x).length; rw [hk]; exact hi,by show i < j + 1; omega,hlt,hRl,ho5,by show R.take i = ((l.take (j + 1)).filter fun x => !p x); rw [hk]; exact htake,fun k hk1 => hrest k (by have:j + 1 <= k:=hk1; omega),b5⟩,by show l.length - (j + 1) < l.length - j; omega⟩
 ·have:j = l.length:=by have:¬ (j:Int) < (l.length:Nat):=hge; omega
  subst this
  rw [List.take_length] at hi htake
  obtain ⟨cur,hg,hgB,hcl,hccap,hncap,hdl,hct,hput⟩:=ownsRow_open ho2
  refine ⟨i,l.length,rfl,rfl,by omega,by omega,?_⟩
  have hA:(if cap = i then (some (⟨g,0,none⟩:Addr)) else (some (⟨g,0,none⟩:Addr)).map (·.add (i * 9))) = some ⟨g,0 + i * 9,none⟩:=by
   rw [if_neg (by omega)]
   simp [add_spot]
  refine clearRow (esz:=9) C_ok rfl rfl rfl rfl rfl rfl rfl (by decide) hA (by omega) hg (by omega) ?_
  intro zs w3 hzs h3
  have ho3:=hput (0 + i * 9) zs w3 (by rw [hzs]; omega) h3
  refine ⟨0,i,rfl,rfl,Nat.zero_le _,by omega,?_⟩
  have e:(if cap = 0 then (some ⟨g,0,none⟩:Option Addr) else (some (⟨g,0,none⟩:Addr)).map (·.add (0 * 9))) = some ⟨g,0,none⟩:=by
   split <;> rfl
  have hcut:=ownsRow_cut ho3 (k:=i) (by omega)
  have e0:0 + i * 9 = i * 9:=by omega
  have hft:(R.flatMap Waiv.cells).take (i * 9) = (R.take i).flatMap Waiv.cells:=flat_take Waiv.len (by omega)
  rw [e0,splice_take_at (by rw [flat_length Waiv.len]; omega),hft,htake] at hcut
  refine ⟨?_,below_put b2 h3 hgB⟩
  show w3.ownsRow B 124 9 (.slice (if cap = 0 then (some ⟨g,0,none⟩:Option Addr) else (some (⟨g,0,none⟩:Addr)).map (·.add (0 * 9))) i cap) (l.filter fun x => !p x).length _
  rw [e,<-hi]
  exact hcut
theorem ContainsFuncW_spec {w:World} {A:Option Addr} {l:List Waiv} {c gd:Nat} {cb:Array Value} {p:Waiv -> Bool} (hr:Reads w A (l.flatMap Waiv.cells)) (hl:l.length <= 2 ^ 20) (hgd:C.can gd = true)
  (hdel:∀ (x:Waiv) (w':World),Ext w w' -> CallsV C.P gd (#[] ++ [x.val].toArray ++ cb) w' fun v w'' => v = .bool (p x) ∧ Ext w' w'') :
  CallsV C.P 43 #[.slice A l.length c,.func (.func gd) #[] cb] w fun v w' => v = .bool (l.any p) ∧ Ext w w':=by
 refine callsV_of C_ok (args:=[_,_]) (plans:=[]) Tryz.func43 rfl Tryz.ntmps43 (by kernel_rfl) (Nat.le_of_ble_eq_true rfl) ?_
 refine (IndexFuncW_spec hr hl hgd hdel).mono ?_
 rintro v w1 ⟨⟨rfl,h⟩ | ⟨i,rfl,hi,hp,_⟩,e1⟩
 ·have e:l.any p = false:=by rw [List.any_eq_false]; intro x hx; rw [h x hx]; decide
  rw [e]; exact ⟨rfl,e1⟩
 ·have e:l.any p = true:=List.any_eq_true.2 ⟨_,List.getElem_mem hi,hp⟩
  rw [e]
  refine ⟨?_,e1⟩
  show Value.bool (decide ((0:Int) <= (i:Nat))) = _
  rw [decide_eq_true (by omega)]
end Go.Proofs.YtigapannpbaihaaGreat
namespace Go.Proofs.YtigapannpbaihaaGreat
open Go.Eng Go.RowKit
open Go.Maps (Keyed)
def sidesV (c d:Int):Value:=.agg #[.int .i64 c,.int .i64 d]
theorem sidesRow:(336:TypeId) < Tryz.prog.types.size:=of_decide_eq_true (by kernel_rfl)
theorem sidesAt:Tryz.prog.keyTypeAt 2 336 = true:=by kernel_rfl
theorem sidesT:Tryz.prog.keyType 336 = true:=by kernel_rfl
theorem sidesC:Tryz.prog.cellsOf 336 = 2:=by kernel_rfl
theorem intC:Tryz.prog.cellsOf 3 = 1:=by kernel_rfl
theorem sidesU:Tryz.prog.underlying 336 = some (.struct #[⟨ "creditor",3,0,false, "", "sennet/dues",0⟩,⟨ "debtor",3,1,false, "", "sennet/dues",8⟩]):=by kernel_rfl
theorem sidesK:Keyed C.P 336:=Keyed.of_law (deep_law_laid laidOut (m:=2) (by omega) sidesRow sidesAt (by rw [sidesU]))
theorem succ_ofL {k n:Nat} (h:k < n):∃ m,n = m + 1:=⟨n - 1,by omega⟩
theorem sidesKey {c d:Int} (h1:In64 c) (h2:In64 d):keyOf C.P 336 (sidesV c d) = some (.string (keyBytes [.int .i64 c,.int .i64 d])):=by
 show keyOf Tryz.prog 336 _ = _
 have w1:=wf64 h1
 have w2:=wf64 h2
 obtain ⟨m,hm⟩:∃ m,Tryz.prog.types.size = m + 1:=succ_ofL sidesRow
 have hk:Tryz.prog.keyLits (m + 2) 336 [.int .i64 c,.int .i64 d] = some [.int .i64 c,.int .i64 d]:=by
  simp [Program.keyLits,sidesC,intC,w1,w2]
 simp [keyOf,sidesT,sidesV,Value.formed,sidesC,Value.cells,hm,hk]
theorem sidesV_inj {a b c d:Int} (h:sidesV a b = sidesV c d):a = c ∧ b = d:=by
 simp [sidesV] at h
 exact h
def dueP (d:Due):Value × Value:=(sidesV d.cred d.debt,.int .i64 d.waiver)
theorem dueP_mem {l:List Due} {c d:Int} {u:Value}:(sidesV c d,u) ∈ l.map dueP <-> ∃ x ∈ l,x.cred = c ∧ x.debt = d ∧ u = .int .i64 x.waiver:=by
 rw [List.mem_map]
 constructor
 ·rintro ⟨x,hx,e⟩
  unfold dueP at e
  injection e with e1 e2
  obtain ⟨h1,h2⟩:=sidesV_inj e1
  exact ⟨x,hx,h1,h2,e2.symm⟩
 ·rintro ⟨x,hx,h1,h2,h3⟩
  exact ⟨x,hx,by unfold dueP; rw [h1,h2,h3]⟩
theorem owns_at {w:World} {base e size n:Nat} {v:Value} {xs:List Value} (h:w.ownsRow base e size v n xs) {k:Nat} (hk:v.ownBlock = some k):base <= k ∧ ∃ cur,w.heap[k]? = some (.cells cur e (0,0)):=by
 obtain ⟨_,hv | ⟨g,cap,cur,hv,hb,hg,_⟩⟩:=h
 ·rw [hv.1] at hk; cases hk
 ·rw [hv] at hk
  have hk:g = k:=by simpa [Value.ownBlock] using hk
  subst hk
  exact ⟨hb,cur,hg⟩
theorem owns_same {w w':World} {base e size n:Nat} {v:Value} {xs:List Value} (h:w.ownsRow base e size v n xs) (hs:∀ k,v.ownBlock = some k -> w'.heap[k]? = w.heap[k]?):w'.ownsRow base e size v n xs:=by
 obtain ⟨hl,hv | ⟨g,cap,cur,hv,hb,hg,h1⟩⟩:=h
 ·exact ⟨hl,.inl hv⟩
 ·exact ⟨hl,.inr ⟨g,cap,cur,hv,hb,by rw [hs g (by rw [hv]; rfl)]; exact hg,h1⟩⟩
theorem map_at {P:Program} {k b:Nat} {w:World} {f:Value -> Option Value} (h:MapIs P k w b f):∃ es clk,w.heap[b]? = some (.map es clk):=by
 obtain ⟨es,clk,h,_⟩:=h
 exact ⟨es,clk,h⟩
theorem mapL_at {P:Program} {k b:Nat} {w:World} {D:List (Value × Value)} (h:MapL P k w b D):∃ es clk,w.heap[b]? = some (.map es clk):=by
 obtain ⟨es,clk,h,_⟩:=h
 exact ⟨es,clk,h⟩
structure SV where
 gs:Nat
 bR:Nat
 bC:Nat
 bD:Nat
 bM:Nat
 vW:Value
 vG:Value
def SV.cells (s:SV):List Value:=[.map (some s.bR),.map (some s.bC),s.vW,.map (some s.bD),s.vG,.map (some s.bM)]
def SV.has (s:SV) (k:Nat):Prop:=k = s.gs ∨ k = s.bR ∨ k = s.bC ∨ k = s.bD ∨ k = s.bM ∨ s.vW.ownBlock = some k ∨ s.vG.ownBlock = some k
def numV (n:Int):Option Value:=if n = 0 then none else some (.int .i64 n)
structure StateIs (w:World) (s:SV) (es:List Entry):Prop where
 block:w.heap[s.gs]? = some (.cells s.cells.toArray 217 (0,0))
 rates:∃ f,MapIs C.P 3 w s.bR f ∧ ∀ c,f (.int .i64 c) = numV (rateL es c)
 ceils:∃ f,MapIs C.P 3 w s.bC f ∧ ∀ c,f (.int .i64 c) = numV (ceilL es c)
 waivs:w.ownsRow 0 124 9 s.vW (waivL es).length ((waivL es).flatMap Waiv.cells)
 dues:MapL C.P 336 w s.bD ((dueL es).map dueP)
 gifts:w.ownsRow 0 132 10 s.vG (giftL es).length ((giftL es).flatMap Gift.cells)
 mets:∃ f,MapIs C.P 3 w s.bM f ∧ ∀ c,c ≠ 0 -> f (.int .i64 c) = numV (metL (giftL es) c)
 nodup:[s.gs,s.bR,s.bC,s.bD,s.bM].Nodup
theorem StateIs.lt {w:World} {s:SV} {es:List Entry} (h:StateIs w s es) {k:Nat} (hk:s.has k):k < w.heap.size:=by
 rcases hk with rfl | rfl | rfl | rfl | rfl | hk | hk
 ·exact lt_of_heap h.block
 ·obtain ⟨f,hm,_⟩:=h.rates; obtain ⟨a,b,e⟩:=map_at hm; exact lt_of_heap e
 ·obtain ⟨f,hm,_⟩:=h.ceils; obtain ⟨a,b,e⟩:=map_at hm; exact lt_of_heap e
 ·exact h.dues.lt
 ·obtain ⟨f,hm,_⟩:=h.mets; obtain ⟨a,b,e⟩:=map_at hm; exact lt_of_heap e
 ·obtain ⟨_,cur,e⟩:=owns_at h.waivs hk; exact lt_of_heap e
 ·obtain ⟨_,cur,e⟩:=owns_at h.gifts hk; exact lt_of_heap e
theorem StateIs.keep {w w':World} {s:SV} {es:List Entry} (h:StateIs w s es) (hs:∀ k,s.has k -> w'.heap[k]? = w.heap[k]?):StateIs w' s es:=by
 refine ⟨by rw [hs _ (.inl rfl)]; exact h.block,?_,?_,owns_same h.waivs fun k hk => hs k (.inr (.inr (.inr (.inr (.inr (.inl hk)))))),h.dues.same (hs _ (.inr (.inr (.inr (.inl rfl))))),owns_same h.gifts fun k hk => hs k (.inr (.inr (.inr (.inr (.inr (.inr hk)))))),?_,h.nodup⟩
 ·obtain ⟨f,hm,hf⟩:=h.rates; exact ⟨f,hm.same (hs _ (.inr (.inl rfl))),hf⟩
 ·obtain ⟨f,hm,hf⟩:=h.ceils; exact ⟨f,hm.same (hs _ (.inr (.inr (.inl rfl)))),hf⟩
 ·obtain ⟨f,hm,hf⟩:=h.mets; exact ⟨f,hm.same (hs _ (.inr (.inr (.inr (.inr (.inl rfl)))))),hf⟩
theorem StateIs.ext {w w':World} {s:SV} {es:List Entry} (h:StateIs w s es) (e:Ext w w'):StateIs w' s es:=h.keep fun _ hk => e.block _ (h.lt hk)
theorem StateIs.apartW {w:World} {s:SV} {es:List Entry} (h:StateIs w s es) {k:Nat} (hk:s.vW.ownBlock = some k):k ≠ s.gs ∧ k ≠ s.bR ∧ k ≠ s.bC ∧ k ≠ s.bD ∧ k ≠ s.bM ∧ s.vG.ownBlock ≠ some k:=by
 obtain ⟨_,cur,hc⟩:=owns_at h.waivs hk
 refine ⟨fun e => ?_,fun e => ?_,fun e => ?_,fun e => ?_,fun e => ?_,fun e => ?_⟩
 ·rw [e,h.block] at hc; simp at hc
 ·obtain ⟨f,hm,_⟩:=h.rates; obtain ⟨a,b,e2⟩:=map_at hm; rw [e,e2] at hc; cases hc
 ·obtain ⟨f,hm,_⟩:=h.ceils; obtain ⟨a,b,e2⟩:=map_at hm; rw [e,e2] at hc; cases hc
 ·obtain ⟨a,b,e2⟩:=mapL_at h.dues; rw [e,e2] at hc; cases hc
 ·obtain ⟨f,hm,_⟩:=h.mets; obtain ⟨a,b,e2⟩:=map_at hm; rw [e,e2] at hc; cases hc
 ·obtain ⟨_,cur2,hc2⟩:=owns_at h.gifts e; rw [hc2] at hc; simp at hc
theorem StateIs.apartG {w:World} {s:SV} {es:List Entry} (h:StateIs w s es) {k:Nat} (hk:s.vG.ownBlock = some k):k ≠ s.gs ∧ k ≠ s.bR ∧ k ≠ s.bC ∧ k ≠ s.bD ∧ k ≠ s.bM ∧ s.vW.ownBlock ≠ some k:=by
 obtain ⟨_,cur,hc⟩:=owns_at h.gifts hk
 refine ⟨fun e => ?_,fun e => ?_,fun e => ?_,fun e => ?_,fun e => ?_,fun e => ?_⟩
 ·rw [e,h.block] at hc; simp at hc
 ·obtain ⟨f,hm,_⟩:=h.rates; obtain ⟨a,b,e2⟩:=map_at hm; rw [e,e2] at hc; cases hc
 ·obtain ⟨f,hm,_⟩:=h.ceils; obtain ⟨a,b,e2⟩:=map_at hm; rw [e,e2] at hc; cases hc
 ·obtain ⟨a,b,e2⟩:=mapL_at h.dues; rw [e,e2] at hc; cases hc
 ·obtain ⟨f,hm,_⟩:=h.mets; obtain ⟨a,b,e2⟩:=map_at hm; rw [e,e2] at hc; cases hc
 ·obtain ⟨_,cur2,hc2⟩:=owns_at h.waivs e; rw [hc2] at hc; simp at hc
def StGo (w:World) (s:SV) (es:List Entry) (w':World):Prop:=∃ s',s'.gs = s.gs ∧ StateIs w' s' es ∧ Keep (fun k => ¬ s.has k) w w' ∧ ∀ k,s'.has k -> s.has k ∨ w.heap.size <= k
theorem keep_ext {D:Nat -> Prop} {w w':World} (e:Ext w w'):Keep D w w':=(Keep.refl D w).ext e
theorem newState_spec (w:World):CallsV C.P 92 #[] w fun v w' => (∃ s,v = .pointer (some ⟨s.gs,0,none⟩) ∧ StateIs w' s [] ∧ ∀ k,s.has k -> w.heap.size <= k) ∧ Ext w w':=by
 refine callsV_of C_ok (args:=[]) (plans:=[]) Tryz.func92 rfl Tryz.ntmps92 (by kernel_rfl) (Nat.le_of_ble_eq_true rfl) ?_
 intro g1 w1 h1
 have M1:=(Mem.start w).alloc h1
 intro g2 w2 h2
 have M2:=M1.alloc h2
 intro g3 w3 h3
 have M3:=M2.alloc h3
 intro g4 w4 h4
 have M4:=M3.alloc h4
 intro g5 w5 h5
 have M5:Mem w w5 [(g5,.cells (SV.mk g5 g1 g2 g3 g4 (.slice none 0 0) (.slice none 0 0)).cells.toArray 217 (0,0)),(g4,.map #[] 0),(g3,.map #[] 0),(g2,.map #[] 0),(g1,.map #[] 0)]:=M4.alloc h5
 refine ⟨⟨⟨g5,g1,g2,g3,g4,.slice none 0 0,.slice none 0 0⟩,rfl,⟨M5.get 0 rfl,⟨_,MapIs.empty (M5.get 4 rfl),fun c => rfl⟩,⟨_,MapIs.empty (M5.get 3 rfl),fun c => rfl⟩,World.ownsRow_nil _ _ _ _,MapL.empty (M5.get 2 rfl),World.ownsRow_nil _ _ _ _,⟨_,MapIs.empty (M5.get 1 rfl),fun c _ => rfl⟩,?_⟩,?_⟩,M5.ext⟩
 ·have:=M5.nodup
  simp only [List.map_cons,List.map_nil,List.nodup_cons,List.mem_cons,List.not_mem_nil,or_false,not_or,not_false_eq_true,List.nodup_nil,and_true] at this ⊢
  omega
 ·rintro k (rfl | rfl | rfl | rfl | rfl | hk | hk)
  ·exact M5.new 0 rfl
  ·exact M5.new 4 rfl
  ·exact M5.new 3 rfl
  ·exact M5.new 2 rfl
  ·exact M5.new 1 rfl
  ·cases hk
  ·cases hk
theorem upd_num {f:Value -> Option Value} {g g':Int -> Int} (hf:∀ c,f (.int .i64 c) = numV (g c)) {a n:Int} (hn:n ≠ 0) (hg:∀ c,g' c = if a = c then n else g c):∀ c,updV f (.int .i64 a) (.int .i64 n) (.int .i64 c) = numV (g' c):=by
 intro c
 unfold updV
 rw [hg c]
 by_cases h:a = c
 ·subst h
  rw [if_pos rfl,if_pos rfl,numV,if_neg hn]
 ·rw [if_neg (fun e => h (by injection e with _ e; exact e.symm)),if_neg h,hf c]
theorem plain_gifts {es:List Entry} {x:Entry} (hk:x.kind ≠ 5 ∧ x.kind ≠ 6 ∧ x.kind ≠ 7):giftL (es ++ [x]) = giftL es:=gift_plain hk.1 hk.2.1 hk.2.2
theorem plain_waivs {es:List Entry} {x:Entry} (hk:x.kind ≠ 3 ∧ x.kind ≠ 4):waivL (es ++ [x]) = waivL es:=by
 rw [waivL_snoc]; unfold waivS; rw [if_neg hk.1,if_neg hk.2]
theorem plain_dues {es:List Entry} {x:Entry} (hk:x.kind ≠ 3):dueL (es ++ [x]) = dueL es:=by rw [dueL_snoc,if_neg hk]
theorem plain_rate {es:List Entry} {x:Entry} (hk:x.kind ≠ 1) (c:Int):rateL (es ++ [x]) c = rateL es c:=by
 rw [rateL_snoc]; unfold rateS; rw [if_neg (fun h => hk h.1)]
theorem plain_ceil {es:List Entry} {x:Entry} (hk:x.kind ≠ 2) (c:Int):ceilL (es ++ [x]) c = ceilL es c:=by
 rw [ceilL_snoc]; unfold ceilS; rw [if_neg (fun h => hk h.1)]
theorem rate_spec {w:World} {s:SV} {es:List Entry} {x:Entry} (h:StateIs w s es) (hk:x.kind = 1) (hx:x.Nums) (hn:x.n ≠ 0) :
  CallsV C.P 154 (#[] ++ [.pointer (some ⟨s.gs,0,none⟩),x.val].toArray ++ #[]) w fun _ w' => StGo w s (es ++ [x]) w':=by
 refine callsV_of C_ok (args:=[_,_]) (plans:=plans154) Tryz.func154 rfl Tryz.ntmps154 (by kernel_rfl) (Nat.le_of_ble_eq_true rfl) ?_
 intro g1 w1 h1
 have M1:Mem w w1 [(g1,.cells x.cells.toArray 134 (0,0))]:=(Mem.start w).alloc h1
 have hs:=h.ext M1.ext
 refine ⟨_,cell_of_block (i:=0) hs.block rfl,?_⟩
 refine ⟨_,M1.cell 0 rfl rfl,?_⟩
 refine ⟨_,M1.cell 0 rfl rfl,?_⟩
 obtain ⟨f,hm,hf⟩:=hs.rates
 refine mapPut C_ok rfl rfl (x:=.int .i64 x.a) rfl rfl rfl rfl intK (intKey hx.a) hm ?_
 intro o' w2 h2 hm2
 have same:∀ k,s.has k -> k ≠ s.bR -> w2.heap[k]? = w.heap[k]?:=fun k hk hne => by rw [h2.there k hne,M1.ext.block k (h.lt hk)]
 have hnd:=h.nodup
 simp only [List.nodup_cons,List.mem_cons,List.not_mem_nil,or_false,not_or,not_false_eq_true,List.nodup_nil,and_true] at hnd
 refine ⟨s,rfl,⟨by rw [same _ (.inl rfl) (by omega)]; exact h.block,⟨_,hm2,upd_num hf hn fun c => by rw [rateL_snoc]; unfold rateS; simp only [hk,true_and]⟩,?_,?_,?_,?_,?_,h.nodup⟩,?_,fun k hk => .inl hk⟩
 ·obtain ⟨f,hm,hf⟩:=h.ceils
  exact ⟨f,hm.same (same _ (.inr (.inr (.inl rfl))) (by omega)),fun c => by rw [plain_ceil (by omega)]; exact hf c⟩
 ·rw [plain_waivs (by omega)]
  exact owns_same h.waivs fun k hk => same k (.inr (.inr (.inr (.inr (.inr (.inl hk)))))) (h.apartW hk).2.1
 ·rw [plain_dues (by omega)]
  exact h.dues.same (same _ (.inr (.inr (.inr (.inl rfl)))) (by omega))
 ·rw [plain_gifts (by omega)]
  exact owns_same h.gifts fun k hk => same k (.inr (.inr (.inr (.inr (.inr (.inr hk)))))) (h.apartG hk).2.1
 ·obtain ⟨f,hm,hf⟩:=h.mets
  exact ⟨f,hm.same (same _ (.inr (.inr (.inr (.inr (.inl rfl))))) (by omega)),fun c hc => by rw [plain_gifts (by omega)]; exact hf c hc⟩
 ·exact (keep_ext M1.ext).put h2 (fun hn => hn (.inr (.inl rfl)))
theorem ceiling_spec {w:World} {s:SV} {es:List Entry} {x:Entry} (h:StateIs w s es) (hk:x.kind = 2) (hx:x.Nums) (hn:x.n ≠ 0) :
  CallsV C.P 155 (#[] ++ [.pointer (some ⟨s.gs,0,none⟩),x.val].toArray ++ #[]) w fun _ w' => StGo w s (es ++ [x]) w':=by
 refine callsV_of C_ok (args:=[_,_]) (plans:=plans155) Tryz.func155 rfl Tryz.ntmps155 (by kernel_rfl) (Nat.le_of_ble_eq_true rfl) ?_
 intro g1 w1 h1
 have M1:Mem w w1 [(g1,.cells x.cells.toArray 134 (0,0))]:=(Mem.start w).alloc h1
 have hs:=h.ext M1.ext
 refine ⟨_,cell_of_block (i:=1) hs.block rfl,?_⟩
 refine ⟨_,M1.cell 0 rfl rfl,?_⟩
 refine ⟨_,M1.cell 0 rfl rfl,?_⟩
 obtain ⟨f,hm,hf⟩:=hs.ceils
 refine mapPut C_ok rfl rfl (x:=.int .i64 x.a) rfl rfl rfl rfl intK (intKey hx.a) hm ?_
 intro o' w2 h2 hm2
 have same:∀ k,s.has k -> k ≠ s.bC -> w2.heap[k]? = w.heap[k]?:=fun k hk hne => by rw [h2.there k hne,M1.ext.block k (h.lt hk)]
 have hnd:=h.nodup
 simp only [List.nodup_cons,List.mem_cons,List.not_mem_nil,or_false,not_or,not_false_eq_true,List.nodup_nil,and_true] at hnd
 refine ⟨s,rfl,⟨by rw [same _ (.inl rfl) (by omega)]; exact h.block,?_,⟨_,hm2,upd_num hf hn fun c => by rw [ceilL_snoc]; unfold ceilS; simp only [hk,true_and]⟩,?_,?_,?_,?_,h.nodup⟩,?_,fun k hk => .inl hk⟩
 ·obtain ⟨f,hm,hf⟩:=h.rates
  exact ⟨f,hm.same (same _ (.inr (.inl rfl)) (by omega)),fun c => by rw [plain_rate (by omega)]; exact hf c⟩
 ·rw [plain_waivs (by omega)]
  exact owns_same h.waivs fun k hk => same k (.inr (.inr (.inr (.inr (.inr (.inl hk)))))) (h.apartW hk).2.2.1
 ·rw [plain_dues (by omega)]
  exact h.dues.same (same _ (.inr (.inr (.inr (.inl rfl)))) (by omega))
 ·rw [plain_gifts (by omega)]
  exact owns_same h.gifts fun k hk => same k (.inr (.inr (.inr (.inr (.inr (.inr hk)))))) (h.apartG hk).2.2.1
 ·obtain ⟨f,hm,hf⟩:=h.mets
  exact ⟨f,hm.same (same _ (.inr (.inr (.inr (.inr (.inl rfl))))) (by omega)),fun c hc => by rw [plain_gifts (by omega)]; exact hf c hc⟩
 ·exact (keep_ext M1.ext).put h2 (fun hn => hn (.inr (.inr (.inl rfl))))
end Go.Proofs.YtigapannpbaihaaGreat
namespace Go.Proofs.YtigapannpbaihaaGreat
open Go.Eng Go.RowKit
open Go.Maps (Keyed)
theorem maxQ {o:Oper} {l:Env} {w:World} {x y:Operand} {ts:Array Nat} {a b c:Int} (hm:max a b = c) (ho:o.op = .call ⟨.builtin .max,#[x,y],ts⟩) (hx:evo l x = some (.int .i64 a)) (hy:evo l y = some (.int .i64 b)) :
  QuietRun C o l w (.int .i64 c):=by
 have hm:(if b > a then b else a) = c:=by rw [<-hm,Int.max_def]; split <;> split <;> omega
 intro ρ hρ w' _
 unfold execOp
 rw [ho,<-hm]
 simp [resolve,invoke,builtin,hρ _ _ hx,hρ _ _ hy,Builtin.max_,Builtin.max2]
theorem minQ {o:Oper} {l:Env} {w:World} {x y:Operand} {ts:Array Nat} {a b c:Int} (hm:min a b = c) (ho:o.op = .call ⟨.builtin .min,#[x,y],ts⟩) (hx:evo l x = some (.int .i64 a)) (hy:evo l y = some (.int .i64 b)) :
  QuietRun C o l w (.int .i64 c):=by
 have hm:(if b < a then b else a) = c:=by rw [<-hm,Int.min_def]; split <;> split <;> omega
 intro ρ hρ w' _
 unfold execOp
 rw [ho,<-hm]
 simp [resolve,invoke,builtin,hρ _ _ hx,hρ _ _ hy,Builtin.min_,Builtin.min2]
theorem row_open {α:Type} {enc:α -> List Value} {k e:Nat} (hk:∀ x,(enc x).length = k) (k0:0 < k) {w:World} {v:Value} {l:List α} (h:w.ownsRow 0 e k v l.length (l.flatMap enc)) {i:Nat} (hi:i < l.length) :
  ∃ g cap,∃ cur:List Value,v = .slice (some ⟨g,0,none⟩) l.length cap ∧ w.heap[g]? = some (.cells cur.toArray e (0,0)) ∧ 0 + i * k + k <= cur.length ∧ v.ownBlock = some g ∧ Rd w g (0 + i * k) (enc l[i]) ∧
   ∀ (c:Nat) (vs:List Value) (y:α) (w':World),splice (enc l[i]) c vs = enc y -> c + vs.length <= k -> Put w g (.cells (splice cur (0 + i * k + c) vs).toArray e (0,0)) w' -> w'.ownsRow 0 e k v (l.set i y).length ((l.set i y).flatMap enc):=by
 have hv:∃ g cap,v = .slice (some ⟨g,0,none⟩) l.length cap:=by
  obtain ⟨_,⟨_,h0⟩ | ⟨g,cap,cur,hv,_⟩⟩:=h
  ·omega
  ·exact ⟨g,cap,hv⟩
 obtain ⟨g,cap,rfl⟩:=hv
 obtain ⟨cur,hg,_,hn,_,_,hxl,ht,hput⟩:=ownsRow_open h
 have hb:(i + 1) * k <= l.length * k:=Nat.mul_le_mul_right k hi
 rw [Nat.add_mul,Nat.one_mul] at hb
 obtain ⟨A,c2,hA,hr,_⟩:=reads_of_owns h
 refine ⟨g,cap,cur,rfl,hg,by omega,rfl,?_,fun c vs y w' h1 h2 h3 => ?_⟩
 ·cases hA
  obtain ⟨b,o,hb2,hrd⟩:=Reads.elem hk k0 hr hi
  cases hb2
  exact hrd
 ·have:=hput (0 + i * k + c) vs w' (by omega) h3
  rw [Nat.zero_add,flat_field hk hi h1 h2] at this
  rw [List.length_set]
  exact this
theorem grant_facts {sg:Int} {es:List Entry} {x:Entry} (hk:x.kind = 3) (hx:doE sg es x = 0):(waivL es).length < 500 ∧ x.w.id = (((waivL es).length + 1:Nat):Int) ∧ owesB (dueL es) x.w.giver x.w.taker = false:=by
 obtain ⟨hf,hl,hr⟩:=do_zero hx
 unfold refusedE at hr
 rw [if_pos hk] at hr
 unfold grantedE at hr
 split at hr
 ·cases hr
 rename_i r1
 split at hr
 ·cases hr
 rename_i r2
 split at hr
 ·rename_i r3; exact absurd hr r3
 split at hr
 ·cases hr
 rename_i r4
 have:=Decidable.not_not.1 r2
 exact ⟨by omega,by omega,by simpa using r4⟩
theorem dropK_dues (l:List Due) (c d:Int):dropK (sidesV c d) (l.map dueP) = (l.filter fun x => !decide (x.cred = c ∧ x.debt = d)).map dueP:=by
 classical
 unfold dropK
 rw [List.filter_map]
 congr 1
 refine List.filter_congr fun x _ => ?_
 show (!decide ((dueP x).1 = sidesV c d)) = _
 congr 1
 rw [decide_eq_decide]
 constructor
 ·intro h; exact sidesV_inj h
 ·rintro ⟨h1,h2⟩; unfold dueP; rw [h1,h2]
set_option maxRecDepth 100000 in
theorem grant_spec {w:World} {s:SV} {es:List Entry} {x:Entry} {sg:Int} (h:StateIs w s es) (hk:x.kind = 3) (hx:x.Nums) (hdo:doE sg es x = 0) :
  CallsV C.P 156 (#[] ++ [.pointer (some ⟨s.gs,0,none⟩),x.val].toArray ++ #[]) w fun _ w' => StGo w s (es ++ [x]) w':=by
 obtain ⟨hlen,hid,how⟩:=grant_facts hk hdo
 refine callsV_of C_ok (args:=[_,_]) (plans:=plans156) Tryz.func156 rfl Tryz.ntmps156 (by kernel_rfl) (Nat.le_of_ble_eq_true rfl) ?_
 intro g1 w1 h1
 have M1:Mem w w1 [(g1,.cells x.cells.toArray 134 (0,0))]:=(Mem.start w).alloc h1
 refine ⟨x.w.cells,rfl,(M1.rd 0 rfl).part x.w_part,?_⟩
 intro g2 w2 h2
 have M2:=M1.alloc h2
 refine ⟨rfl,_,_,M2.get 0 rfl,Nat.le_of_ble_eq_true rfl,rfl,?_⟩
 intro w3 h3
 have M3:Mem w w3 [(g2,.cells x.w.cells.toArray 124 (0,0)),(g1,.cells x.cells.toArray 134 (0,0))]:=M2.put 0 rfl h3
 have hs3:=h.ext M3.ext
 refine ⟨_,cell_of_block (i:=2) hs3.block rfl,?_⟩
 refine ⟨x.w.cells,rfl,M3.rd 0 rfl,?_⟩
 intro g4 w4 h4
 refine ⟨h4.ext,?_⟩
 have M4:=M3.alloc h4
 have hs4:=h.ext M4.ext
 refine ⟨rfl,rfl,rfl,0,_,_,x.w.cells,hs4.waivs,Nat.zero_le _,Nat.le_of_ble_eq_true rfl,rfl,rfl,.inr ⟨g4,0,rfl,Rd.of_block h4.here⟩,rfl,rfl,by omega,by simp only [maxLen]; omega,?_⟩
 intro v5 w5 ho5 hg5 hpl
 obtain ⟨A5,c5,rfl,_,_⟩:=reads_of_owns ho5
 have lt4:∀ k,s.has k -> k < w4.heap.size:=fun k hk => hs4.lt hk
 have hW:∀ k,s.vW.ownBlock = some k -> k ≠ s.gs ∧ k ≠ s.bR ∧ k ≠ s.bC ∧ k ≠ s.bD ∧ k ≠ s.bM ∧ s.vG.ownBlock ≠ some k:=fun k hk => h.apartW hk
 have same5:∀ k,s.has k -> s.vW.ownBlock ≠ some k -> w5.heap[k]? = w.heap[k]?:=fun k hk hne => by
  rw [hg5.block k (lt4 k hk) (fun e => hne e.symm),M4.ext.block k (h.lt hk)]
 have hb5:w5.heap[s.gs]? = some (.cells s.cells.toArray 217 (0,0)):=by
  rw [same5 _ (.inl rfl) (fun e => (hW _ e).1 rfl)]; exact h.block
 have old:∀ k,s.has k -> k < w.heap.size:=fun k hk => h.lt hk
 have hg2:w5.heap[g2]? = some (.cells x.w.cells.toArray 124 (0,0)):=by
  rw [hg5.block g2 (lt_of_heap (M4.get 1 rfl)) (fun e => by have:=old g2 (.inr (.inr (.inr (.inr (.inr (.inl e.symm)))))); have:=M4.new 1 rfl; omega)]
  exact M4.get 1 rfl
 refine ⟨rfl,_,_,hb5,Nat.le_of_ble_eq_true rfl,rfl,?_⟩
 intro w6 h6
 generalize hs':(SV.mk s.gs s.bR s.bC s.bD s.bM (.slice A5 ((waivL es).length + 1) c5) s.vG) = s'
 have h6:Put w5 s.gs (.cells s'.cells.toArray 217 (0,0)) w6:=by rw [<-hs']; exact h6
 have hg26:w6.heap[g2]? = some (.cells x.w.cells.toArray 124 (0,0)):=by
  rw [h6.there g2 (fun e => by have:=old g2 (.inl e); have:=M4.new 1 rfl; omega)]; exact hg2
 refine ⟨_,cell_of_block (i:=4) hg26 rfl,?_⟩
 refine ⟨_,cell_of_block (i:=3) hg26 rfl,?_⟩
 intro g7 w7 h7
 refine ⟨rfl,_,_,h7.here,Nat.le_of_ble_eq_true rfl,rfl,?_⟩
 intro w8 h8
 have e68:Ext w6 w8:=h8.ext_of h7.ext (by rw [h7.new]; exact Nat.le_refl _)
 -- the pieces at w8
 have hb8:w8.heap[s.gs]? = some (.cells s'.cells.toArray 217 (0,0)):=e68.heap h6.here
 have size46:w6.heap.size = w5.heap.size:=h6.size
 have same8:∀ k,s.has k -> s.vW.ownBlock ≠ some k -> k ≠ s.gs -> w8.heap[k]? = w.heap[k]?:=fun k hk hne hng => by
  have:w6.heap[k]? = w.heap[k]?:=by rw [h6.there k hng,same5 k hk hne]
  rw [e68.block k (by have:=lt4 k hk; have:=hg5.size; omega),this]
 have hD8:MapL C.P 336 w8 s.bD ((dueL es).map dueP):=h.dues.same (same8 _ (.inr (.inr (.inr (.inl rfl)))) (fun e => (hW _ e).2.2.2.1 rfl) (by
  have hnd:=h.nodup
  simp only [List.nodup_cons,List.mem_cons,List.not_mem_nil,or_false,not_or,not_false_eq_true,List.nodup_nil,and_true] at hnd
  omega))
 have hg28:w8.heap[g2]? = some (.cells x.w.cells.toArray 124 (0,0)):=e68.heap hg26
 have ho8:w8.ownsRow 0 124 9 (.slice A5 ((waivL es).length + 1) c5) ((waivL es).length + 1) ((waivL es).flatMap Waiv.cells ++ x.w.cells):=by
  refine ownsRow_ext (ownsRow_put ho5 h6 (fun e => ?_)) e68
  obtain ⟨_,cur,hc⟩:=owns_at ho5 e
  rw [hb5] at hc; simp at hc
 have keep8:Keep (fun k => ¬ s.has k) w w8:=((((keep_ext M4.ext).grown hg5 (fun k hk hn => hn (.inr (.inr (.inr (.inr (.inr (.inl hk)))))))).put h6 (fun hn => hn (.inl rfl))).ext e68)
 have hnd:=h.nodup
 have hnd':[s'.gs,s'.bR,s'.bC,s'.bD,s'.bM].Nodup:=by rw [<-hs']; exact hnd
 simp only [List.nodup_cons,List.mem_cons,List.not_mem_nil,or_false,not_or,not_false_eq_true,List.nodup_nil,and_true] at hnd
 have hv5:∀ k,(Value.slice A5 ((waivL es).length + 1) c5).ownBlock = some k -> s.has k ∨ w.heap.size <= k:=fun k hk => by
  rcases hpl.2 k hk with h | h
  ·exact .inl (.inr (.inr (.inr (.inr (.inr (.inl h))))))
  ·exact .inr (Nat.le_trans M4.ext.size h)
 have hv5d:(Value.slice A5 ((waivL es).length + 1) c5).ownBlock ≠ some s.bD:=fun e => by
  obtain ⟨_,cur,hc⟩:=owns_at ho8 e
  obtain ⟨a,b,e2⟩:=mapL_at hD8
  rw [e2] at hc; cases hc
 -- what is left to be shown behind the last step
 have fin:∀ {o':Obj} {w9:World},Put w8 s.bD o' w9 -> MapL C.P 336 w9 s.bD ((dueS (dueL es) x.w).map dueP) -> StGo w s (es ++ [x]) w9:=fun {o'} {w9} h9 hD9 => by
  have same9:∀ k,s.has k -> s.vW.ownBlock ≠ some k -> k ≠ s.gs -> k ≠ s.bD -> w9.heap[k]? = w.heap[k]?:=fun k hk hne hng hnd => by rw [h9.there k hnd,same8 k hk hne hng]
  refine ⟨s',by rw [<-hs'],⟨?_,?_,?_,?_,?_,?_,?_,hnd'⟩,keep8.put h9 (fun hn => hn (.inr (.inr (.inr (.inl rfl))))),fun k hk => ?_⟩
  ·rw [show s'.gs = s.gs by rw [<-hs'],h9.there _ (by omega)]; exact hb8
  ·obtain ⟨f,hm,hf⟩:=h.rates
   rw [<-hs']
   exact ⟨f,hm.same (same9 _ (.inr (.inl rfl)) (fun e => (hW _ e).2.1 rfl) (by omega) (by omega)),fun c => by rw [plain_rate (by omega)]; exact hf c⟩
  ·obtain ⟨f,hm,hf⟩:=h.ceils
   rw [<-hs']
   exact ⟨f,hm.same (same9 _ (.inr (.inr (.inl rfl))) (fun e => (hW _ e).2.2.1 rfl) (by omega) (by omega)),fun c => by rw [plain_ceil (by omega)]; exact hf c⟩
  ·have hw:waivL (es ++ [x]) = waivL es ++ [x.w]:=by rw [waivL_snoc]; unfold waivS; rw [if_pos hk]
   rw [hw,<-hs',List.length_append,List.flatMap_append]
   have:=ownsRow_put ho8 h9 hv5d
   simpa using this
  ·rw [<-hs',dueL_snoc,if_pos hk]; exact hD9
  ·rw [plain_gifts (by omega),<-hs']
   exact owns_same h.gifts fun k hk => same9 k (.inr (.inr (.inr (.inr (.inr (.inr hk)))))) (h.apartG hk).2.2.2.2.2 (h.apartG hk).1 (h.apartG hk).2.2.2.1
  ·obtain ⟨f,hm,hf⟩:=h.mets
   rw [<-hs']
   exact ⟨f,hm.same (same9 _ (.inr (.inr (.inr (.inr (.inl rfl))))) (fun e => (hW _ e).2.2.2.2.1 rfl) (by omega) (by omega)),fun c hc => by rw [plain_gifts (by omega)]; exact hf c hc⟩
  ·rw [<-hs'] at hk
   rcases hk with hk | hk | hk | hk | hk | hk | hk
   ·exact .inl (.inl hk)
   ·exact .inl (.inr (.inl hk))
   ·exact .inl (.inr (.inr (.inl hk)))
   ·exact .inl (.inr (.inr (.inr (.inl hk))))
   ·exact .inl (.inr (.inr (.inr (.inr (.inl hk)))))
   ·exact hv5 k hk
   ·exact .inl (.inr (.inr (.inr (.inr (.inr (.inr hk))))))
 refine ⟨_,cell_of_block (i:=3) hb8 (by rw [<-hs']; rfl),?_⟩
 refine ⟨[.int .i64 x.w.taker,.int .i64 x.w.giver],rfl,Rd.of_block h8.here,?_⟩
 by_cases hd:(dueL es).any (fun d => decide (d.cred = x.w.taker ∧ d.debt = x.w.giver)) = true
 ·obtain ⟨d,hd1,hd2⟩:=List.any_eq_true.1 hd
  have hd2:=of_decide_eq_true hd2
  refine ⟨.tuple #[.int .i64 d.waiver,.bool true],mapLGet C_ok (te:=ty3) (x:=sidesV x.w.taker x.w.giver) (sidesKey hx.w.taker hx.w.giver) hD8 sidesK rfl rfl rfl rfl rfl rfl (.inl ⟨rfl,dueP_mem.2 ⟨d,hd1,hd2.1,hd2.2,rfl⟩⟩),?_⟩
  refine ⟨_,cell_of_block (i:=3) hb8 (by rw [<-hs']; rfl),?_⟩
  refine ⟨[.int .i64 x.w.taker,.int .i64 x.w.giver],rfl,Rd.of_block h8.here,?_⟩
  refine mapLDel C_ok (x:=sidesV x.w.taker x.w.giver) (sidesKey hx.w.taker hx.w.giver) hD8 sidesK rfl rfl rfl rfl rfl ?_
  intro o' w9 h9 hD9
  refine fin h9 ?_
  rw [dropK_dues] at hD9
  unfold dueS
  rw [if_pos hd]; exact hD9
 ·have hno:∀ u,(sidesV x.w.taker x.w.giver,u) ∉ (dueL es).map dueP:=fun u hu => by
   obtain ⟨d,hd1,hd2,hd3,_⟩:=dueP_mem.1 hu
   exact hd (List.any_eq_true.2 ⟨d,hd1,decide_eq_true ⟨hd2,hd3⟩⟩)
  refine ⟨.tuple #[.int .i64 0,.bool false],mapLGet C_ok (te:=ty3) (x:=sidesV x.w.taker x.w.giver) (sidesKey hx.w.taker hx.w.giver) hD8 sidesK rfl rfl rfl rfl rfl rfl (.inr ⟨rfl,rfl,hno⟩),?_⟩
  refine ⟨_,cell_of_block (i:=3) hb8 (by rw [<-hs']; rfl),?_⟩
  refine ⟨_,cell_of_block (i:=3) hg28 rfl,?_⟩
  refine ⟨_,cell_of_block (i:=4) hg28 rfl,?_⟩
  refine ⟨_,cell_of_block (i:=0) hg28 rfl,?_⟩
  refine mapLPut C_ok (x:=sidesV x.w.giver x.w.taker) (sidesKey hx.w.giver hx.w.taker) hD8 sidesK rfl rfl rfl rfl rfl rfl (fun u hu => by
   obtain ⟨d,hd1,hd2,hd3,_⟩:=dueP_mem.1 hu
   have:=owes_iff.2 ⟨d,hd1,hd2,hd3⟩
   rw [how] at this; cases this) ?_
  intro o' w9 h9 hD9
  refine fin h9 ?_
  unfold dueS
  rw [if_neg hd,List.map_append]
  exact hD9
theorem end_facts {sg:Int} {es:List Entry} {x:Entry} (hk:x.kind = 4) (hx:doE sg es x = 0):∃ k,∃ _:k < (waivL es).length,x.w.id = ((k + 1:Nat):Int):=by
 obtain ⟨hf,hl,hr⟩:=do_zero hx
 obtain ⟨hok,_,_⟩:=form_okE hf
 have hid:1 <= x.w.id:=by
  unfold okE at hok
  rw [if_neg (by omega),if_neg (by omega),if_neg (by omega),if_pos hk,decide_eq_true_eq] at hok
  exact hok.1
 unfold refusedE at hr
 rw [if_neg (by omega),if_pos hk] at hr
 split at hr
 ·cases hr
 rename_i r1
 obtain ⟨k,hk,he⟩:=num_of (n:=(waivL es).length) (i:=x.w.id) hid (by omega)
 exact ⟨k,hk,he⟩
set_option maxRecDepth 100000 in
theorem end_spec {w:World} {s:SV} {es:List Entry} {x:Entry} {sg:Int} (h:StateIs w s es) (hA:Acc es) (hk:x.kind = 4) (hx:x.Nums) (hdo:doE sg es x = 0) :
  CallsV C.P 157 (#[] ++ [.pointer (some ⟨s.gs,0,none⟩),x.val].toArray ++ #[]) w fun _ w' => StGo w s (es ++ [x]) w':=by
 obtain ⟨k,hlk,hid⟩:=end_facts hk hdo
 have hwl:=(acc_ok hA).wlen
 refine callsV_of C_ok (args:=[_,_]) (plans:=plans157) Tryz.func157 rfl Tryz.ntmps157 (by kernel_rfl) (Nat.le_of_ble_eq_true rfl) ?_
 intro g1 w1 h1
 have M1:Mem w w1 [(g1,.cells x.cells.toArray 134 (0,0))]:=(Mem.start w).alloc h1
 have hs:=h.ext M1.ext
 obtain ⟨g,cap,cur,hv,hg,hb,hown,hrd,hput⟩:=row_open Waiv.len (by omega) hs.waivs hlk
 refine ⟨.slice (some ⟨g,0,none⟩) (waivL es).length cap,cell_of_block (i:=2) hs.block (by show some s.vW = _; rw [hv]),?_⟩
 refine ⟨_,M1.cell 0 rfl rfl,?_⟩
 refine ⟨(k:Int),by show IntKind.i64.wrap (x.w.id - 1) = _; rw [hid,fit ⟨by omega,by omega⟩]; omega,?_⟩
 refine ⟨k,g,0,rfl,hlk,rfl,?_⟩
 refine ⟨_,hrd 8 _ rfl,?_⟩
 refine ⟨_,M1.cell 0 rfl rfl,?_⟩
 refine ⟨_,hrd 7 _ rfl,?_⟩
 refine ⟨_,maxQ rfl rfl rfl rfl,?_⟩
 refine ⟨_,minQ rfl rfl rfl rfl,?_⟩
 refine ⟨rfl,_,_,hg,by show 0 + k * 9 + 8 + 1 <= _; omega,rfl,?_⟩
 intro w2 h2
 have hrow:=hput 8 _ (endW x.day (waivL es)[k]) w2 rfl (Nat.le_of_ble_eq_true rfl) h2
 have hW:=h.apartW hown
 have same:∀ q,s.has q -> q ≠ g -> w2.heap[q]? = w.heap[q]?:=fun q hq hne => by rw [h2.there q hne,M1.ext.block q (h.lt hq)]
 refine ⟨s,rfl,⟨?_,?_,?_,?_,?_,?_,?_,h.nodup⟩,(keep_ext M1.ext).put h2 (fun hn => hn (.inr (.inr (.inr (.inr (.inr (.inl hown))))))),fun k hk => .inl hk⟩
 ·rw [same _ (.inl rfl) hW.1.symm]; exact h.block
 ·obtain ⟨f,hm,hf⟩:=h.rates
  exact ⟨f,hm.same (same _ (.inr (.inl rfl)) hW.2.1.symm),fun c => by rw [plain_rate (by omega)]; exact hf c⟩
 ·obtain ⟨f,hm,hf⟩:=h.ceils
  exact ⟨f,hm.same (same _ (.inr (.inr (.inl rfl))) hW.2.2.1.symm),fun c => by rw [plain_ceil (by omega)]; exact hf c⟩
 ·have hw:waivL (es ++ [x]) = (waivL es).set k (endW x.day (waivL es)[k]):=by rw [waivL_snoc]; unfold waivS; rw [if_neg (by omega),if_pos hk,hid,updAt_eq hlk]
  rw [hw]; exact hrow
 ·rw [plain_dues (by omega)]
  exact h.dues.same (same _ (.inr (.inr (.inr (.inl rfl)))) hW.2.2.2.1.symm)
 ·rw [plain_gifts (by omega)]
  exact owns_same h.gifts fun q hq => same q (.inr (.inr (.inr (.inr (.inr (.inr hq)))))) (fun e => hW.2.2.2.2.2 (by rw [<-e]; exact hq))
 ·obtain ⟨f,hm,hf⟩:=h.mets
  exact ⟨f,hm.same (same _ (.inr (.inr (.inr (.inr (.inl rfl))))) hW.2.2.2.2.1.symm),fun c hc => by rw [plain_gifts (by omega)]; exact hf c hc⟩
end Go.Proofs.YtigapannpbaihaaGreat
namespace Go.Proofs.YtigapannpbaihaaGreat
open Go.Eng Go.RowKit
open Go.Maps (Keyed)
theorem numV_getD (n:Int):(numV n).getD (.int .i64 0) = .int .i64 n:=by
 unfold numV
 split
 ·rename_i h; rw [h]; rfl
 ·rfl
theorem numV_some (n:Int):(numV n).isSome = !decide (n = 0):=by
 unfold numV
 split
 ·rename_i h; rw [h]; rfl
 ·rename_i h; rw [decide_eq_false h]; rfl
theorem worth_spec {w:World} {s:SV} {es:List Entry} (h:StateIs w s es) {x:Gift} (hr:0 <= rateL es x.cur ∧ rateL es x.cur <= 1000000) (hn:1 <= x.n ∧ x.n <= 1000000) (hc:0 <= x.cur ∧ x.cur <= 255) :
  CallsV C.P 214 #[.pointer (some ⟨s.gs,0,none⟩),x.val] w fun v w' => v = .int .i64 (x.n * rateL es x.cur) ∧ Ext w w':=by
 refine callsV_of C_ok (args:=[_,_]) (plans:=plans214) Tryz.func214 rfl Tryz.ntmps214 (by kernel_rfl) (Nat.le_of_ble_eq_true rfl) ?_
 intro g1 w1 h1
 have M1:Mem w w1 [(g1,.cells x.cells.toArray 132 (0,0))]:=(Mem.start w).alloc h1
 have hs:=h.ext M1.ext
 obtain ⟨f,hm,hf⟩:=hs.rates
 have hb:0 <= x.n * rateL es x.cur ∧ x.n * rateL es x.cur <= 1000000 * 1000000:=⟨Int.mul_nonneg (by omega) hr.1,Int.mul_le_mul hn.2 hr.2 hr.1 (by omega)⟩
 refine ⟨_,M1.cell 0 rfl rfl,?_⟩
 refine ⟨_,cell_of_block (i:=0) hs.block rfl,?_⟩
 refine ⟨_,M1.cell 0 rfl rfl,?_⟩
 refine ⟨x.cur,fit ⟨by omega,by omega⟩,?_⟩
 refine ⟨.int .i64 (rateL es x.cur),mapGet1 C_ok (te:=ty3) (x:=.int .i64 x.cur) (intKey ⟨by omega,by omega⟩) hm intK rfl rfl rfl rfl rfl rfl (by rw [hf]; exact numV_getD _),?_⟩
 refine ⟨x.n * rateL es x.cur,fit ⟨by omega,by omega⟩,?_⟩
 exact ⟨rfl,M1.ext⟩
theorem offer_facts {sg:Int} {es:List Entry} {x:Entry} (hk:x.kind = 5) (hx:doE sg es x = 0):(giftL es).length < 500 ∧ (1 <= x.g.n ∧ x.g.n <= 1000000) ∧ (1 <= x.g.cur ∧ x.g.cur <= 2):=by
 obtain ⟨hf,hl,hr⟩:=do_zero hx
 obtain ⟨hok,_,_⟩:=form_okE hf
 unfold refusedE at hr
 rw [if_neg (by omega),if_neg (by omega),if_pos hk] at hr
 unfold offeredE at hr
 split at hr
 ·cases hr
 rename_i r1
 rw [okE_5 hk] at hok
 unfold rightG at hok
 simp only [Bool.and_eq_true,decide_eq_true_eq] at hok
 exact ⟨by omega,hok.1.2,hok.1.1.2⟩
set_option maxRecDepth 100000 in
theorem offer_spec {w:World} {s:SV} {es:List Entry} {x:Entry} {sg:Int} (h:StateIs w s es) (hA:Acc es) (hk:x.kind = 5) (hx:x.Nums) (hdo:doE sg es x = 0) :
  CallsV C.P 158 (#[] ++ [.pointer (some ⟨s.gs,0,none⟩),x.val].toArray ++ #[]) w fun _ w' => StGo w s (es ++ [x]) w':=by
 obtain ⟨hlen,hn,hcur⟩:=offer_facts hk hdo
 have hrate:=(acc_ok hA).rate x.g.cur
 refine callsV_of C_ok (args:=[_,_]) (plans:=plans158) Tryz.func158 rfl Tryz.ntmps158 (by kernel_rfl) (Nat.le_of_ble_eq_true rfl) ?_
 intro g1 w1 h1
 have M1:Mem w w1 [(g1,.cells x.cells.toArray 134 (0,0))]:=(Mem.start w).alloc h1
 refine ⟨x.g.cells,rfl,(M1.rd 0 rfl).part x.g_part,?_⟩
 intro g2 w2 h2
 have M2:=M1.alloc h2
 refine ⟨rfl,_,_,M2.get 0 rfl,Nat.le_of_ble_eq_true rfl,rfl,?_⟩
 intro w3 h3
 have M3:Mem w w3 [(g2,.cells x.g.cells.toArray 132 (0,0)),(g1,.cells x.cells.toArray 134 (0,0))]:=M2.put 0 rfl h3
 have hs3:=h.ext M3.ext
 refine ⟨x.g.cells,rfl,M3.rd 0 rfl,?_⟩
 refine (worth_spec hs3 hrate hn ⟨by omega,by omega⟩).mono ?_
 rintro _ w3' ⟨rfl,e3⟩
 have M3':=M3.grow e3
 refine ⟨rfl,_,_,M3'.get 0 rfl,Nat.le_of_ble_eq_true rfl,rfl,?_⟩
 intro w3a h3a
 have M3a:=M3'.put 0 rfl h3a
 refine ⟨rfl,_,_,M3a.get 0 rfl,Nat.le_of_ble_eq_true rfl,rfl,?_⟩
 intro w3b h3b
 generalize hy:({ x.g with worth:=x.g.n * rateL es x.g.cur,state:=1 }:Gift) = y
 have M3b:Mem w w3b [(g2,.cells y.cells.toArray 132 (0,0)),(g1,.cells x.cells.toArray 134 (0,0))]:=by
  rw [<-hy]; exact M3a.put 0 rfl h3b
 have hs3b:=h.ext M3b.ext
 refine ⟨_,cell_of_block (i:=4) hs3b.block rfl,?_⟩
 refine ⟨y.cells,rfl,M3b.rd 0 rfl,?_⟩
 intro g4 w4 h4
 refine ⟨h4.ext,?_⟩
 have M4:=M3b.alloc h4
 have hs4:=h.ext M4.ext
 refine ⟨rfl,rfl,rfl,0,_,_,y.cells,hs4.gifts,Nat.zero_le _,Nat.le_of_ble_eq_true rfl,rfl,rfl,.inr ⟨g4,0,rfl,Rd.of_block h4.here⟩,rfl,rfl,by omega,by simp only [maxLen]; omega,?_⟩
 intro v5 w5 ho5 hg5 hpl
 obtain ⟨A5,c5,rfl,_,_⟩:=reads_of_owns ho5
 have lt4:∀ k,s.has k -> k < w4.heap.size:=fun k hk => hs4.lt hk
 have hW:∀ k,s.vG.ownBlock = some k -> k ≠ s.gs ∧ k ≠ s.bR ∧ k ≠ s.bC ∧ k ≠ s.bD ∧ k ≠ s.bM ∧ s.vW.ownBlock ≠ some k:=fun k hk => h.apartG hk
 have same5:∀ k,s.has k -> s.vG.ownBlock ≠ some k -> w5.heap[k]? = w.heap[k]?:=fun k hk hne => by
  rw [hg5.block k (lt4 k hk) (fun e => hne e.symm),M4.ext.block k (h.lt hk)]
 have hb5:w5.heap[s.gs]? = some (.cells s.cells.toArray 217 (0,0)):=by
  rw [same5 _ (.inl rfl) (fun e => (hW _ e).1 rfl)]; exact h.block
 refine ⟨rfl,_,_,hb5,Nat.le_of_ble_eq_true rfl,rfl,?_⟩
 intro w6 h6
 generalize hs':(SV.mk s.gs s.bR s.bC s.bD s.bM s.vW (.slice A5 ((giftL es).length + 1) c5)) = s'
 have h6:Put w5 s.gs (.cells s'.cells.toArray 217 (0,0)) w6:=by rw [<-hs']; exact h6
 have same6:∀ k,s.has k -> s.vG.ownBlock ≠ some k -> k ≠ s.gs -> w6.heap[k]? = w.heap[k]?:=fun k hk hne hng => by rw [h6.there k hng,same5 k hk hne]
 have hnd:=h.nodup
 have hnd':[s'.gs,s'.bR,s'.bC,s'.bD,s'.bM].Nodup:=by rw [<-hs']; exact hnd
 simp only [List.nodup_cons,List.mem_cons,List.not_mem_nil,or_false,not_or,not_false_eq_true,List.nodup_nil,and_true] at hnd
 have hG:giftL (es ++ [x]) = giftL es ++ [y]:=by rw [(offer_gift hk hdo).1,hy]
 have hmy:∀ c,metW c y = 0:=fun c => by
  unfold metW metB
  rw [if_neg]
  rw [<-hy]; simp
 refine ⟨s',by rw [<-hs'],⟨?_,?_,?_,?_,?_,?_,?_,hnd'⟩,((keep_ext M4.ext).grown hg5 (fun k hk hn => hn (.inr (.inr (.inr (.inr (.inr (.inr hk)))))))).put h6 (fun hn => hn (.inl rfl)),fun k hk => ?_⟩
 ·rw [show s'.gs = s.gs by rw [<-hs']]; exact h6.here
 ·obtain ⟨f,hm,hf⟩:=h.rates
  rw [<-hs']
  exact ⟨f,hm.same (same6 _ (.inr (.inl rfl)) (fun e => (hW _ e).2.1 rfl) (by omega)),fun c => by rw [plain_rate (by omega)]; exact hf c⟩
 ·obtain ⟨f,hm,hf⟩:=h.ceils
  rw [<-hs']
  exact ⟨f,hm.same (same6 _ (.inr (.inr (.inl rfl))) (fun e => (hW _ e).2.2.1 rfl) (by omega)),fun c => by rw [plain_ceil (by omega)]; exact hf c⟩
 ·rw [plain_waivs (by omega),<-hs']
  exact owns_same h.waivs fun k hk => same6 k (.inr (.inr (.inr (.inr (.inr (.inl hk)))))) (h.apartW hk).2.2.2.2.2 (h.apartW hk).1
 ·rw [plain_dues (by omega),<-hs']
  exact h.dues.same (same6 _ (.inr (.inr (.inr (.inl rfl)))) (fun e => (hW _ e).2.2.2.1 rfl) (by omega))
 ·rw [hG,<-hs',List.length_append,List.flatMap_append]
  have:=ownsRow_put ho5 h6 (fun e => by
   obtain ⟨_,cur,hc⟩:=owns_at ho5 e
   rw [hb5] at hc; simp at hc)
  simpa using this
 ·obtain ⟨f,hm,hf⟩:=h.mets
  rw [<-hs']
  exact ⟨f,hm.same (same6 _ (.inr (.inr (.inr (.inr (.inl rfl))))) (fun e => (hW _ e).2.2.2.2.1 rfl) (by omega)),fun c hc => by rw [hG,metL_snoc,hmy,Int.add_zero]; exact hf c hc⟩
 ·rw [<-hs'] at hk
  rcases hk with hk | hk | hk | hk | hk | hk | hk
  ·exact .inl (.inl hk)
  ·exact .inl (.inr (.inl hk))
  ·exact .inl (.inr (.inr (.inl hk)))
  ·exact .inl (.inr (.inr (.inr (.inl hk))))
  ·exact .inl (.inr (.inr (.inr (.inr (.inl hk)))))
  ·exact .inl (.inr (.inr (.inr (.inr (.inr (.inl hk))))))
  ·rcases hpl.2 k hk with h | h
   ·exact .inl (.inr (.inr (.inr (.inr (.inr (.inr h))))))
   ·exact .inr (Nat.le_trans M4.ext.size h)
end Go.Proofs.YtigapannpbaihaaGreat
namespace Go.Proofs.YtigapannpbaihaaGreat
open Go.Eng Go.RowKit
open Go.Maps (Keyed)
theorem gifts_put {w w':World} {s:SV} {es es':List Entry} {x:Entry} {g:Nat} (h:StateIs w s es) (hk:x.kind = 6 ∨ x.kind = 7) (he:es' = es ++ [x]) (hown:s.vG.ownBlock = some g) (hput:∀ k,s.has k -> k ≠ g -> k ≠ s.bM -> w'.heap[k]? = w.heap[k]?)
  (hrow:w'.ownsRow 0 132 10 s.vG (giftL es').length ((giftL es').flatMap Gift.cells)) (hmet:∃ f,MapIs C.P 3 w' s.bM f ∧ ∀ c,c ≠ 0 -> f (.int .i64 c) = numV (metL (giftL es') c)):StateIs w' s es':=by
 subst he
 have hG:=h.apartG hown
 have hnd:=h.nodup
 simp only [List.nodup_cons,List.mem_cons,List.not_mem_nil,or_false,not_or,not_false_eq_true,List.nodup_nil,and_true] at hnd
 refine ⟨?_,?_,?_,?_,?_,hrow,hmet,h.nodup⟩
 ·rw [hput _ (.inl rfl) hG.1.symm (by omega)]; exact h.block
 ·obtain ⟨f,hm,hf⟩:=h.rates
  exact ⟨f,hm.same (hput _ (.inr (.inl rfl)) hG.2.1.symm (by omega)),fun c => by rw [plain_rate (by omega)]; exact hf c⟩
 ·obtain ⟨f,hm,hf⟩:=h.ceils
  exact ⟨f,hm.same (hput _ (.inr (.inr (.inl rfl))) hG.2.2.1.symm (by omega)),fun c => by rw [plain_ceil (by omega)]; exact hf c⟩
 ·rw [plain_waivs (by omega)]
  exact owns_same h.waivs fun q hq => hput q (.inr (.inr (.inr (.inr (.inr (.inl hq)))))) (fun e => hG.2.2.2.2.2 (by rw [<-e]; exact hq)) (h.apartW hq).2.2.2.2.1
 ·rw [plain_dues (by omega)]
  exact h.dues.same (hput _ (.inr (.inr (.inr (.inl rfl)))) hG.2.2.2.1.symm (by omega))
theorem metW_off {c:Int} {g:Gift} (h:g.state = 1 ∨ g.state = 3):metW c g = 0:=by
 unfold metW metB
 rw [if_neg]
 simp only [decide_eq_true_eq]
 omega
theorem metW_on {c:Int} {g:Gift} (h:g.state = 2 ∨ g.state = 4):metW c g = if g.returns = c then g.worth else 0:=by
 unfold metW metB
 by_cases hr:g.returns = c
 ·rw [if_pos hr,if_pos (decide_eq_true ⟨hr,h⟩)]
 ·rw [if_neg hr,if_neg (fun e => hr (of_decide_eq_true e).1)]
set_option maxRecDepth 100000 in
theorem refuse_spec {w:World} {s:SV} {es:List Entry} {x:Entry} {sg:Int} (h:StateIs w s es) (hA:Acc es) (hk:x.kind = 7) (hx:x.Nums) (hdo:doE sg es x = 0) :
  CallsV C.P 160 (#[] ++ [.pointer (some ⟨s.gs,0,none⟩),x.val].toArray ++ #[]) w fun _ w' => StGo w s (es ++ [x]) w':=by
 obtain ⟨k,hlk,hid,hst⟩:=ans_parts (.inr hk) hdo
 have hgl:=(acc_ok hA).gifts.len
 refine callsV_of C_ok (args:=[_,_]) (plans:=plans160) Tryz.func160 rfl Tryz.ntmps160 (by kernel_rfl) (Nat.le_of_ble_eq_true rfl) ?_
 intro g1 w1 h1
 have M1:Mem w w1 [(g1,.cells x.cells.toArray 134 (0,0))]:=(Mem.start w).alloc h1
 have hs:=h.ext M1.ext
 obtain ⟨g,cap,cur,hv,hg,hb,hown,hrd,hput⟩:=row_open Gift.len (by omega) hs.gifts hlk
 have hne:g1 ≠ g:=fun e => by
  have:=h.lt (k:=g) (.inr (.inr (.inr (.inr (.inr (.inr hown))))))
  have:=M1.new 0 rfl
  omega
 refine ⟨.slice (some ⟨g,0,none⟩) (giftL es).length cap,cell_of_block (i:=4) hs.block (by show some s.vG = _; rw [hv]),?_⟩
 refine ⟨_,M1.cell 0 rfl rfl,?_⟩
 refine ⟨(k:Int),by show IntKind.i64.wrap (x.g.id - 1) = _; rw [hid,fit ⟨by omega,by omega⟩]; omega,?_⟩
 refine ⟨k,g,0,rfl,hlk,rfl,?_⟩
 refine ⟨fun q => q = g1,?_⟩
 refine ⟨.int .i64 x.day,fun u hu => ⟨_,hu.cell rfl (M1.cell 0 (i:=1) rfl rfl),rfl⟩,?_⟩
 refine ⟨rfl,_,_,hg,by show 0 + k * 10 + 7 + 1 <= _; omega,rfl,?_⟩
 intro w2 h2
 refine ⟨(Keep.refl _ w1).put h2 hne.symm,?_⟩
 have hrow:=hput 7 _ { (giftL es)[k] with state:=3 } w2 rfl (Nat.le_of_ble_eq_true rfl) h2
 have hk2:k < ((giftL es).set k { (giftL es)[k] with state:=3 }).length:=by simpa using hlk
 obtain ⟨g',cap',cur',hv',hg',hb',hown',hrd',hput'⟩:=row_open Gift.len (by omega) hrow hk2
 have egg:g' = g:=by rw [hown] at hown'; exact (Option.some.inj hown').symm
 subst egg
 refine ⟨rfl,_,_,hg',by show 0 + k * 10 + 8 + 1 <= _; omega,rfl,?_⟩
 intro w3 h3
 have hrow3:=hput' 8 _ (refuseG x.day (giftL es)[k]) w3 (by rw [List.getElem_set_self]; rfl) (Nat.le_of_ble_eq_true rfl) h3
 rw [List.set_set] at hrow3
 refine ⟨s,rfl,gifts_put (x:=x) h (.inr hk) rfl hown (fun q hq hne _ => by rw [h3.there q hne,h2.there q hne,M1.ext.block q (h.lt hq)]) (by rw [gift_refuse hk hlk hid]; exact hrow3) (by
  obtain ⟨f,hm,hf⟩:=h.mets
  have hbm:s.bM ≠ g':=(h.apartG hown).2.2.2.2.1.symm
  exact ⟨f,hm.same (by rw [h3.there _ hbm,h2.there _ hbm,M1.ext.block _ (h.lt (.inr (.inr (.inr (.inr (.inl rfl))))))]),fun c hc => by
   rw [gift_refuse hk hlk hid,metL_set hlk,metW_off (.inl hst),metW_off (g:=refuseG x.day (giftL es)[k]) (.inr rfl),Int.sub_zero,Int.add_zero]; exact hf c hc⟩),
  (((keep_ext M1.ext).put h2 (fun hn => hn (.inr (.inr (.inr (.inr (.inr (.inr hown)))))))).put h3 (fun hn => hn (.inr (.inr (.inr (.inr (.inr (.inr hown)))))))),fun k hk => .inl hk⟩
theorem met_take {gs:List Gift} {k:Nat} (hk:k < gs.length) (hst:gs[k].state = 1) (d c:Int):metL (gs.set k (takeG d gs[k])) c = if gs[k].returns = c then metL gs c + gs[k].worth else metL gs c:=by
 rw [metL_set hk,metW_off (.inl hst),metW_on (g:=takeG d gs[k]) (.inl rfl)]
 show metL gs c - 0 + (if gs[k].returns = c then gs[k].worth else 0) = _
 split <;> omega
theorem met_back {gs:List Gift} {j:Nat} (hj:j < gs.length) (hst:gs[j].state = 2 ∨ gs[j].state = 4) (c:Int):metL (gs.set j (backG gs[j])) c = metL gs c:=by
 rw [metL_set hj,metW_on hst,metW_on (g:=backG gs[j]) (.inr rfl)]
 show metL gs c - (if gs[j].returns = c then gs[j].worth else 0) + (if gs[j].returns = c then gs[j].worth else 0) = _
 omega
set_option maxRecDepth 100000 in
set_option maxHeartbeats 2000000 in
theorem take_spec {w:World} {s:SV} {es:List Entry} {x:Entry} {sg:Int} (h:StateIs w s es) (hA:Acc es) (hk:x.kind = 6) (hx:x.Nums) (hdo:doE sg es x = 0) :
  CallsV C.P 159 (#[] ++ [.pointer (some ⟨s.gs,0,none⟩),x.val].toArray ++ #[]) w fun _ w' => StGo w s (es ++ [x]) w':=by
 obtain ⟨k,hlk,hid,hst⟩:=ans_parts (.inl hk) hdo
 have hGok:=(acc_ok hA).gifts
 have hgl:=hGok.len
 have hgift:=gift_take hk hlk hid
 refine callsV_of C_ok (args:=[_,_]) (plans:=plans159) Tryz.func159 rfl Tryz.ntmps159 (by kernel_rfl) (Nat.le_of_ble_eq_true rfl) ?_
 intro g1 w1 h1
 have M1:Mem w w1 [(g1,.cells x.cells.toArray 134 (0,0))]:=(Mem.start w).alloc h1
 have hs:=h.ext M1.ext
 obtain ⟨g,cap,cur,hv,hg,hb,hown,hrd,hput⟩:=row_open Gift.len (by omega) hs.gifts hlk
 have hne:g1 ≠ g:=fun e => by
  have:=h.lt (k:=g) (.inr (.inr (.inr (.inr (.inr (.inr hown))))))
  have:=M1.new 0 rfl
  omega
 refine ⟨.slice (some ⟨g,0,none⟩) (giftL es).length cap,cell_of_block (i:=4) hs.block (by show some s.vG = _; rw [hv]),?_⟩
 refine ⟨_,M1.cell 0 rfl rfl,?_⟩
 refine ⟨(k:Int),by show IntKind.i64.wrap (x.g.id - 1) = _; rw [hid,fit ⟨by omega,by omega⟩]; omega,?_⟩
 refine ⟨k,g,0,rfl,hlk,rfl,?_⟩
 refine ⟨fun q => q = g1,?_⟩
 refine ⟨.int .i64 x.day,fun u hu => ⟨_,hu.cell rfl (M1.cell 0 (i:=1) rfl rfl),rfl⟩,?_⟩
 refine ⟨rfl,_,_,hg,by show 0 + k * 10 + 7 + 1 <= _; omega,rfl,?_⟩
 intro w2 h2
 refine ⟨(Keep.refl _ w1).put h2 hne.symm,?_⟩
 have hrow:=hput 7 _ { (giftL es)[k] with state:=2 } w2 rfl (Nat.le_of_ble_eq_true rfl) h2
 have hk2:k < ((giftL es).set k { (giftL es)[k] with state:=2 }).length:=by simpa using hlk
 obtain ⟨g',cap',cur',hv',hg',hb',hown',hrd',hput'⟩:=row_open Gift.len (by omega) hrow hk2
 have egg:g' = g:=by rw [hown] at hown'; exact (Option.some.inj hown').symm
 subst egg
 refine ⟨rfl,_,_,hg',by show 0 + k * 10 + 8 + 1 <= _; omega,rfl,?_⟩
 intro w3 h3
 have hrow3:=hput' 8 _ (takeG x.day (giftL es)[k]) w3 (by rw [List.getElem_set_self]; rfl) (Nat.le_of_ble_eq_true rfl) h3
 rw [List.set_set] at hrow3
 clear hput hput' hrd' hv' hg' hb' hown' hrow hb hg hrd
 have hG:=h.apartG hown
 have same3:∀ q,s.has q -> q ≠ g' -> w3.heap[q]? = w.heap[q]?:=fun q hq hne => by rw [h3.there q hne,h2.there q hne,M1.ext.block q (h.lt hq)]
 have keep3:Keep (fun k => ¬ s.has k) w w3:=(((keep_ext M1.ext).put h2 (fun hn => hn (.inr (.inr (.inr (.inr (.inr (.inr hown)))))))).put h3 (fun hn => hn (.inr (.inr (.inr (.inr (.inr (.inr hown))))))))
 have hmt:=met_take hlk hst x.day
 generalize hgs:(giftL es).set k (takeG x.day (giftL es)[k]) = gs at *
 have hkg:k < gs.length:=by rw [<-hgs]; simpa using hlk
 have hgl2:gs.length = (giftL es).length:=by rw [<-hgs]; simp
 have egk:gs[k] = takeG x.day (giftL es)[k]:=by simp [<-hgs]
 obtain ⟨ga,ca,cua,hva,hga,hba,howna,hrda,hputa⟩:=row_open Gift.len (by omega) hrow3 hkg
 have ega:ga = g':=by rw [hown] at howna; exact (Option.some.inj howna).symm
 subst ega
 rw [egk] at hrda
 have hb3:w3.heap[s.gs]? = some (.cells s.cells.toArray 217 (0,0)):=by rw [same3 _ (.inl rfl) hG.1.symm]; exact h.block
 obtain ⟨f,hm,hf⟩:=h.mets
 have hm3:MapIs C.P 3 w3 s.bM f:=hm.same (same3 _ (.inr (.inr (.inr (.inr (.inl rfl))))) hG.2.2.2.2.1.symm)
 refine ⟨_,hrda 9 _ rfl,?_⟩
 refine brE_dec (fun r0 => ?_) (fun r0 => ?_)
 ·have r0:(giftL es)[k].returns = 0:=r0
  rw [r0] at hgift
  simp only [if_true] at hgift
  refine ⟨s,rfl,gifts_put (x:=x) h (.inl hk) rfl hown (fun q hq hne _ => same3 q hq hne) (by rw [hgift]; exact hrow3) ⟨f,hm3,fun c hc => by rw [hgift,hmt,if_neg (by omega)]; exact hf c hc⟩,keep3,fun k hk => .inl hk⟩
 have r0:(giftL es)[k].returns ≠ 0:=r0
 rcases hGok.refs k hlk with hr0 | ⟨j,hj,hr1,hjk,hj2,hj3,hj4⟩
 ·exact absurd hr0 r0
 have hjg:j < gs.length:=by omega
 have egj:gs[j] = (giftL es)[j]:=by simp only [<-hgs]; rw [List.getElem_set_ne (fun e => hjk e.symm)]
 have hmb:=metL_bounds hGok (giftL es)[k].returns
 have hwk:=hGok.worth k hlk
 have hr64:In64 (giftL es)[k].returns:=⟨by omega,by omega⟩
 refine ⟨_,cell_of_block (i:=5) hb3 rfl,?_⟩
 refine ⟨_,hrda 9 _ rfl,?_⟩
 refine ⟨.int .i64 (metL (giftL es) (giftL es)[k].returns),mapGet1 C_ok (te:=ty3) (x:=.int .i64 (giftL es)[k].returns) (intKey hr64) hm3 intK rfl rfl rfl rfl rfl rfl (by rw [hf _ r0]; exact numV_getD _),?_⟩
 refine ⟨_,hrda 6 _ rfl,?_⟩
 refine ⟨metL (giftL es) (giftL es)[k].returns + (giftL es)[k].worth,fit (show In64 (metL (giftL es) (giftL es)[k].returns + (giftL es)[k].worth) from ⟨by omega,by omega⟩),?_⟩
 refine mapPut C_ok rfl rfl (x:=.int .i64 (giftL es)[k].returns) rfl rfl rfl rfl intK (intKey hr64) hm3 ?_
 intro o4 w4 h4 hm4
 have hf4:∀ c,c ≠ 0 -> updV f (.int .i64 (giftL es)[k].returns) (.int .i64 (metL (giftL es) (giftL es)[k].returns + (giftL es)[k].worth)) (.int .i64 c) = numV (metL gs c):=fun c hc => by
  unfold updV
  rw [hmt]
  by_cases he:(giftL es)[k].returns = c
  ·subst he
   rw [if_pos rfl,if_pos rfl,numV,if_neg (by omega)]
  ·rw [if_neg (fun e => he (by injection e with _ e; exact e.symm)),if_neg he]; exact hf c hc
 have hgm:ga ≠ s.bM:=hG.2.2.2.2.1
 have hb4:w4.heap[s.gs]? = some (.cells s.cells.toArray 217 (0,0)):=by
  rw [h4.there _ (by have hnd:=h.nodup; simp only [List.nodup_cons,List.mem_cons,List.not_mem_nil,or_false,not_or,not_false_eq_true,List.nodup_nil,and_true] at hnd; omega)]; exact hb3
 have hrow4:w4.ownsRow 0 132 10 s.vG gs.length (gs.flatMap Gift.cells):=ownsRow_put hrow3 h4 (fun e => hgm (by rw [hown] at e; exact Option.some.inj e))
 have keep4:Keep (fun k => ¬ s.has k) w w4:=keep3.put h4 (fun hn => hn (.inr (.inr (.inr (.inr (.inl rfl))))))
 have same4:∀ q,s.has q -> q ≠ ga -> q ≠ s.bM -> w4.heap[q]? = w.heap[q]?:=fun q hq h5 h6 => by rw [h4.there q h6,same3 q hq h5]
 obtain ⟨gb,cb,cub,hvb,hgb,hbb,hownb,hrdb,hputb⟩:=row_open Gift.len (by omega) hrow4 hjg
 have egb:gb = ga:=by rw [hown] at hownb; exact (Option.some.inj hownb).symm
 subst egb
 obtain ⟨gc,cc,cuc,_,_,_,hownc,hrdc,_⟩:=row_open Gift.len (by omega) hrow4 hkg
 have egc:gc = gb:=by rw [hown] at hownc; exact (Option.some.inj hownc).symm
 subst egc
 rw [egk] at hrdc
 refine ⟨.slice (some ⟨gc,0,none⟩) gs.length cb,cell_of_block (i:=4) hb4 (by show some s.vG = _; rw [hvb]),?_⟩
 refine ⟨_,hrdc 9 _ rfl,?_⟩
 refine ⟨(j:Int),by show IntKind.i64.wrap ((giftL es)[k].returns - 1) = _; rw [hr1,fit ⟨by omega,by omega⟩]; omega,?_⟩
 refine ⟨j,gc,0,rfl,hjg,rfl,?_⟩
 refine ⟨_,cell_of_block (i:=5) hb4 rfl,?_⟩
 refine ⟨_,hrdc 9 _ rfl,?_⟩
 refine ⟨.int .i64 (metL gs (giftL es)[k].returns),mapGet1 C_ok (te:=ty3) (x:=.int .i64 (giftL es)[k].returns) (intKey hr64) hm4 intK rfl rfl rfl rfl rfl rfl (by rw [hf4 _ r0]; exact numV_getD _),?_⟩
 refine ⟨.int .i64 gs[j].worth,hrdb 6 _ rfl,?_⟩
 simp only at hgift
 rw [if_neg r0,hr1,atN_get hjg,<-hr1] at hgift
 refine brE_dec (fun c1 => ?_) (fun c1 => ?_)
 ·have c1:gs[j].worth <= metL gs (giftL es)[k].returns:=c1
  rw [if_pos c1,hr1,updAt_eq hjg] at hgift
  refine ⟨rfl,_,_,hgb,by show 0 + j * 10 + 7 + 1 <= _; omega,rfl,?_⟩
  intro w5 h5
  have hrow5:=hputb 7 _ (backG gs[j]) w5 rfl (Nat.le_of_ble_eq_true rfl) h5
  refine ⟨s,rfl,gifts_put (x:=x) h (.inl hk) rfl hown (fun q hq h6 h7 => by rw [h5.there q h6,same4 q hq h6 h7]) (by rw [hgift]; exact hrow5) ⟨_,hm4.same (h5.there _ hgm.symm),fun c hc => by rw [hgift,met_back hjg (by rw [egj]; exact hj3)]; exact hf4 c hc⟩,
   keep4.put h5 (fun hn => hn (.inr (.inr (.inr (.inr (.inr (.inr hown))))))),fun k hk => .inl hk⟩
 ·have c1:¬ gs[j].worth <= metL gs (giftL es)[k].returns:=c1
  rw [if_neg c1] at hgift
  exact ⟨s,rfl,gifts_put (x:=x) h (.inl hk) rfl hown same4 (by rw [hgift]; exact hrow4) ⟨_,hm4,fun c hc => by rw [hgift]; exact hf4 c hc⟩,keep4,fun k hk => .inl hk⟩
end Go.Proofs.YtigapannpbaihaaGreat
namespace Go.Proofs.YtigapannpbaihaaGreat
open Go.Eng Go.RowKit
open Go.Maps (Keyed)
theorem StateIs.kind {w:World} {s:SV} {es:List Entry} (h:StateIs w s es) {k:Nat} (hk:s.has k):(∃ a b,w.heap[k]? = some (.map a b)) ∨ ∃ c t fr,w.heap[k]? = some (.cells c t fr) ∧ (t = 217 ∨ t = 124 ∨ t = 132):=by
 rcases hk with rfl | rfl | rfl | rfl | rfl | hk | hk
 ·exact .inr ⟨_,_,_,h.block,.inl rfl⟩
 ·obtain ⟨f,hm,_⟩:=h.rates; exact .inl (map_at hm)
 ·obtain ⟨f,hm,_⟩:=h.ceils; exact .inl (map_at hm)
 ·exact .inl (mapL_at h.dues)
 ·obtain ⟨f,hm,_⟩:=h.mets; exact .inl (map_at hm)
 ·obtain ⟨_,cur,e⟩:=owns_at h.waivs hk; exact .inr ⟨_,_,_,e,.inr (.inl rfl)⟩
 ·obtain ⟨_,cur,e⟩:=owns_at h.gifts hk; exact .inr ⟨_,_,_,e,.inr (.inr rfl)⟩
theorem StateIs.off {w:World} {s:SV} {es:List Entry} (h:StateIs w s es) {k t:Nat} {c:Array Value} {fr:Nat × Nat} (hk:w.heap[k]? = some (.cells c t fr)) (h1:t ≠ 217) (h2:t ≠ 124) (h3:t ≠ 132):¬ s.has k:=fun hs => by
 rcases h.kind hs with ⟨a,b,e⟩ | ⟨c',t',fr',e,ht⟩
 ·rw [hk] at e; cases e
 ·rw [hk] at e
  simp at e
  rcases ht with ht | ht | ht
  ·exact h1 (e.2.1.trans ht)
  ·exact h2 (e.2.1.trans ht)
  ·exact h3 (e.2.1.trans ht)
theorem keep_trans {D E:Nat -> Prop} {a b c:World} (h:Keep D a b) (k:Keep E b c) (hd:∀ q,D q -> q < a.heap.size -> E q):Keep D a c :=
 ⟨k.os.trans h.os,k.tape.trans h.tape,k.output.trans h.output,Nat.le_trans h.size k.size,fun q hD hq => (k.block q (hd q hD hq) (Nat.lt_of_lt_of_le hq h.size)).trans (h.block q hD hq)⟩
theorem owns_from {w:World} {base base' e size n:Nat} {v:Value} {xs:List Value} (h:w.ownsRow base e size v n xs) (hb:∀ k,v.ownBlock = some k -> base' <= k):w.ownsRow base' e size v n xs:=by
 obtain ⟨hl,hv | ⟨g,cap,cur,hv,_,h1⟩⟩:=h
 ·exact ⟨hl,.inl hv⟩
 ·exact ⟨hl,.inr ⟨g,cap,cur,hv,hb g (by rw [hv]; rfl),h1⟩⟩
structure LV where
 gl:Nat
 vE:Value
 s:SV
def LV.ptr (l:LV):Value:=.pointer (some ⟨l.gl,0,none⟩)
def LV.cells (l:LV):List Value:=[l.vE,.pointer (some ⟨l.s.gs,0,none⟩)]
def LV.has (l:LV) (k:Nat):Prop:=k = l.gl ∨ l.vE.ownBlock = some k ∨ l.s.has k
structure LedgerIs (w:World) (l:LV) (es:List Entry):Prop where
 block:w.heap[l.gl]? = some (.cells l.cells.toArray 211 (0,0))
 row:w.ownsRow 0 134 24 l.vE es.length (es.flatMap Entry.cells)
 st:StateIs w l.s es
 acc:Acc es
 nums:∀ x ∈ es,x.Nums
theorem LedgerIs.lt {w:World} {l:LV} {es:List Entry} (h:LedgerIs w l es) {k:Nat} (hk:l.has k):k < w.heap.size:=by
 rcases hk with rfl | hk | hk
 ·exact lt_of_heap h.block
 ·obtain ⟨_,cur,e⟩:=owns_at h.row hk; exact lt_of_heap e
 ·exact h.st.lt hk
theorem LedgerIs.keep {w w':World} {l:LV} {es:List Entry} (h:LedgerIs w l es) (hs:∀ k,l.has k -> w'.heap[k]? = w.heap[k]?):LedgerIs w' l es :=
 ⟨by rw [hs _ (.inl rfl)]; exact h.block,owns_same h.row fun k hk => hs k (.inr (.inl hk)),h.st.keep fun k hk => hs k (.inr (.inr hk)),h.acc,h.nums⟩
theorem LedgerIs.ext {w w':World} {l:LV} {es:List Entry} (h:LedgerIs w l es) (e:Ext w w'):LedgerIs w' l es:=h.keep fun _ hk => e.block _ (h.lt hk)
theorem LedgerIs.offS {w:World} {l:LV} {es:List Entry} (h:LedgerIs w l es):¬ l.s.has l.gl:=h.st.off h.block (by decide) (by decide) (by decide)
theorem LedgerIs.offE {w:World} {l:LV} {es:List Entry} (h:LedgerIs w l es) {k:Nat} (hk:l.vE.ownBlock = some k):¬ l.s.has k ∧ k ≠ l.gl:=by
 obtain ⟨_,cur,e⟩:=owns_at h.row hk
 refine ⟨h.st.off e (by decide) (by decide) (by decide),fun he => ?_⟩
 rw [he,h.block] at e
 simp at e
def LdGo (w:World) (l:LV) (es:List Entry) (w':World):Prop:=∃ l',l'.gl = l.gl ∧ LedgerIs w' l' es ∧ Keep (fun k => ¬ l.has k) w w' ∧ ∀ k,l'.has k -> l.has k ∨ w.heap.size <= k
theorem LdGo.ext {w w':World} {l:LV} {es:List Entry} (h:LedgerIs w l es) (e:Ext w w'):LdGo w l es w':=⟨l,rfl,h.ext e,keep_ext e,fun _ hk => .inl hk⟩
structure LdNew (w0 w:World) (l:LV) (es:List Entry):Prop where
 is:LedgerIs w l es
 new:∀ k,l.has k -> w0.heap.size <= k
 ext:Ext w0 w
theorem LdNew.go {w0 w w':World} {l:LV} {es es':List Entry} (h:LdNew w0 w l es) (k:LdGo w l es' w'):∃ l',l'.gl = l.gl ∧ LdNew w0 w' l' es':=by
 obtain ⟨l',hg,hi,hk,hn⟩:=k
 refine ⟨l',hg,hi,fun q hq => ?_,⟨hk.os.trans h.ext.os,hk.tape.trans h.ext.tape,hk.output.trans h.ext.output,Nat.le_trans h.ext.size hk.size,fun q hq => ?_⟩⟩
 ·rcases hn q hq with h1 | h1
  ·exact h.new q h1
  ·exact Nat.le_trans h.ext.size h1
 ·rw [hk.block q (fun h1 => by have:=h.new q h1; omega) (Nat.lt_of_lt_of_le hq h.ext.size)]
  exact h.ext.block q hq
theorem LdNew.then {w0 w w':World} {l:LV} {es:List Entry} (h:LdNew w0 w l es) (e:Ext w w'):LdNew w0 w' l es:=⟨h.is.ext e,h.new,h.ext.trans e⟩
end Go.Proofs.YtigapannpbaihaaGreat
namespace Go.Eng
open Go.RowKit
open Go.Maps (Keyed)
section
variable {C:Cfg}
theorem LoudRun.same {o o':Oper} {l:Env} {w:World} {Q:Value -> World -> Prop} (h:∀ ρ,execOp ρ o = execOp ρ o') (k:LoudRun C o' l w Q):LoudRun C o l w Q:=by
 intro ρ hρ w₁ hs
 rw [h ρ]
 exact k ρ hρ w₁ hs
theorem insPut (hC:C.Ok) {o:Oper} {t:Nat} {m ix xv:Operand} {l:Env} {w:World} {b k e:Nat} {x v:Value} {lx:Lit} {ti:TI} {f:Value -> Option Value} (K:Keyed C.P k) (hkey:keyOf C.P k x = some lx) (hM:MapIs C.P k w b f)
  (ho:o.op = .insert t m ix xv) (hm:evo l m = some (.map (some b))) (hx:evo l ix = some x) (hv:evo l xv = some v) (hti:C.ti t = some ti) (hd:ti.d = .map k e)
  {Q:Value -> World -> Prop} (h:∀ o' w',Put w b o' w' -> MapIs C.P k w' b (updV f x v) -> Q undef w'):LoudRun C o l w Q :=
 LoudRun.same (o':={ o with op:=.mapUpdate t m ix xv }) (fun ρ => by unfold execOp; rw [ho]) (mapPut hC rfl hm hx hv hti hd K hkey hM h)
end
end Go.Eng
namespace Go.Proofs.YtigapannpbaihaaGreat
open Go.Eng Go.RowKit
open Go.Maps (Keyed)
theorem u8K:Keyed C.P 5:=Go.Maps.int_keyed under5
theorem wfU8 {x:Int} (h:0 <= x ∧ x <= 255):(Lit.int .u8 x).wf = true:=by
 simp [Lit.wf,IntKind.min,IntKind.max,IntKind.bits,IntKind.signed]
 omega
theorem u8Key {x:Int} (h:0 <= x ∧ x <= 255):keyOf C.P 5 (.int .u8 x) = some (.int .u8 x):=Go.Maps.keyOf_int_mk under5 (wfU8 h)
theorem StGo.of_ext {w w1 w':World} {s:SV} {es:List Entry} (e:Ext w w1) (hs:∀ k,s.has k -> k < w.heap.size) (h:StGo w1 s es w'):StGo w s es w':=by
 obtain ⟨s',h1,h2,h3,h4⟩:=h
 exact ⟨s',h1,h2,keep_trans (keep_ext e) h3 fun _ hq _ => hq,fun k hk => (h4 k hk).imp id fun h => Nat.le_trans e.size h⟩
theorem set_facts {sg:Int} {es:List Entry} {x:Entry} (hk:x.kind = 1 ∨ x.kind = 2) (hx:doE sg es x = 0):x.n ≠ 0:=by
 obtain ⟨hf,hl,hr⟩:=do_zero hx
 obtain ⟨hok,_,_⟩:=form_okE hf
 unfold okE at hok
 rcases hk with hk | hk
 ·rw [if_pos hk] at hok
  simp only [Bool.and_eq_true,decide_eq_true_eq] at hok
  omega
 ·rw [if_neg (by omega),if_pos hk] at hok
  simp only [Bool.and_eq_true,decide_eq_true_eq] at hok
  omega
set_option maxRecDepth 100000 in
theorem do_spec {w:World} {s:SV} {es:List Entry} {x:Entry} {sg:Int} (h:StateIs w s es) (hA:Acc es) (hx:x.Nums) (hdo:doE sg es x = 0) :
  CallsV C.P 98 #[.pointer (some ⟨s.gs,0,none⟩),x.val] w fun _ w' => StGo w s (es ++ [x]) w':=by
 have hkind:=ok_kind (form_okE (do_zero hdo).1).1
 refine callsV_of C_ok (args:=[_,_]) (plans:=[]) Tryz.func98 rfl Tryz.ntmps98 (by kernel_rfl) (Nat.le_of_ble_eq_true rfl) ?_
 intro g1 w1 h1
 have M1:Mem w w1 [(g1,.cells x.cells.toArray 134 (0,0))]:=(Mem.start w).alloc h1
 intro g2 w2 h2
 have M2:=M1.alloc h2
 have m2:MapIs C.P 5 w2 g2 _:=MapIs.empty (M2.get 0 rfl)
 refine insPut C_ok u8K (u8Key (x:=1) (by decide)) m2 rfl rfl rfl rfl rfl rfl ?_
 intro o3 w3 h3 m3
 have M3:=M2.put 0 rfl h3
 refine insPut C_ok u8K (u8Key (x:=2) (by decide)) m3 rfl rfl rfl rfl rfl rfl ?_
 intro o4 w4 h4 m4
 have M4:=M3.put 0 rfl h4
 refine insPut C_ok u8K (u8Key (x:=3) (by decide)) m4 rfl rfl rfl rfl rfl rfl ?_
 intro o5 w5 h5 m5
 have M5:=M4.put 0 rfl h5
 refine insPut C_ok u8K (u8Key (x:=4) (by decide)) m5 rfl rfl rfl rfl rfl rfl ?_
 intro o6 w6 h6 m6
 have M6:=M5.put 0 rfl h6
 refine insPut C_ok u8K (u8Key (x:=5) (by decide)) m6 rfl rfl rfl rfl rfl rfl ?_
 intro o7 w7 h7 m7
 have M7:=M6.put 0 rfl h7
 refine insPut C_ok u8K (u8Key (x:=6) (by decide)) m7 rfl rfl rfl rfl rfl rfl ?_
 intro o8 w8 h8 m8
 have M8:=M7.put 0 rfl h8
 refine insPut C_ok u8K (u8Key (x:=7) (by decide)) m8 rfl rfl rfl rfl rfl rfl ?_
 intro o9 w9 h9 m9
 have M9:=M8.put 0 rfl h9
 have M:Mem w w9 [(g2,o9),(g1,.cells x.cells.toArray 134 (0,0))]:=M9
 have hs:=h.ext M.ext
 clear M1 M2 M3 M4 M5 M6 M7 M8 M9 m2 m3 m4 m5 m6 m7 m8
 refine ⟨_,M.cell 1 rfl rfl,?_⟩
 rcases hkind with k | k | k | k | k | k | k
 ·refine ⟨.func (.func 154) #[] #[],mapGet1 C_ok (x:=.int .u8 x.kind) (u8Key hx.kind) m9 u8K rfl rfl rfl rfl rfl rfl (by rw [k]; simp [updV]),?_⟩
  refine ⟨x.cells,rfl,M.rd 1 rfl,?_⟩
  refine (rate_spec hs k hx (set_facts (.inl k) hdo)).mono ?_
  intro v w10 hgo
  exact hgo.of_ext M.ext fun _ hk => h.lt hk
 ·refine ⟨.func (.func 155) #[] #[],mapGet1 C_ok (x:=.int .u8 x.kind) (u8Key hx.kind) m9 u8K rfl rfl rfl rfl rfl rfl (by rw [k]; simp [updV]),?_⟩
  refine ⟨x.cells,rfl,M.rd 1 rfl,?_⟩
  refine (ceiling_spec hs k hx (set_facts (.inr k) hdo)).mono ?_
  intro v w10 hgo
  exact hgo.of_ext M.ext fun _ hk => h.lt hk
 ·refine ⟨.func (.func 156) #[] #[],mapGet1 C_ok (x:=.int .u8 x.kind) (u8Key hx.kind) m9 u8K rfl rfl rfl rfl rfl rfl (by rw [k]; simp [updV]),?_⟩
  refine ⟨x.cells,rfl,M.rd 1 rfl,?_⟩
  refine (grant_spec hs k hx hdo).mono ?_
  intro v w10 hgo
  exact hgo.of_ext M.ext fun _ hk => h.lt hk
 ·refine ⟨.func (.func 157) #[] #[],mapGet1 C_ok (x:=.int .u8 x.kind) (u8Key hx.kind) m9 u8K rfl rfl rfl rfl rfl rfl (by rw [k]; simp [updV]),?_⟩
  refine ⟨x.cells,rfl,M.rd 1 rfl,?_⟩
  refine (end_spec hs hA k hx hdo).mono ?_
  intro v w10 hgo
  exact hgo.of_ext M.ext fun _ hk => h.lt hk
 ·refine ⟨.func (.func 158) #[] #[],mapGet1 C_ok (x:=.int .u8 x.kind) (u8Key hx.kind) m9 u8K rfl rfl rfl rfl rfl rfl (by rw [k]; simp [updV]),?_⟩
  refine ⟨x.cells,rfl,M.rd 1 rfl,?_⟩
  refine (offer_spec hs hA k hx hdo).mono ?_
  intro v w10 hgo
  exact hgo.of_ext M.ext fun _ hk => h.lt hk
 ·refine ⟨.func (.func 159) #[] #[],mapGet1 C_ok (x:=.int .u8 x.kind) (u8Key hx.kind) m9 u8K rfl rfl rfl rfl rfl rfl (by rw [k]; simp [updV]),?_⟩
  refine ⟨x.cells,rfl,M.rd 1 rfl,?_⟩
  refine (take_spec hs hA k hx hdo).mono ?_
  intro v w10 hgo
  exact hgo.of_ext M.ext fun _ hk => h.lt hk
 ·refine ⟨.func (.func 160) #[] #[],mapGet1 C_ok (x:=.int .u8 x.kind) (u8Key hx.kind) m9 u8K rfl rfl rfl rfl rfl rfl (by rw [k]; simp [updV]),?_⟩
  refine ⟨x.cells,rfl,M.rd 1 rfl,?_⟩
  refine (refuse_spec hs hA k hx hdo).mono ?_
  intro v w10 hgo
  exact hgo.of_ext M.ext fun _ hk => h.lt hk
end Go.Proofs.YtigapannpbaihaaGreat
namespace Go.Proofs.YtigapannpbaihaaGreat
open Go.Eng Go.RowKit
open Go.Maps (Keyed)
theorem signs_spec {w:World} {A:Option Addr} {f:List Fact} {c:Nat} (hf:HF w A f c) (hl:f.length <= 2 ^ 20) (x:Waiv) :
  CallsV C.P 213 #[.slice A f.length c,x.val] w fun v w' => v = .bool (decide (leastL (atL x.day x.day f) x.signer x.giver <= 2)) ∧ Ext w w':=by
 refine callsV_of C_ok (args:=[_,_]) (plans:=[]) Tryz.func213 rfl Tryz.ntmps213 (by kernel_rfl) (Nat.le_of_ble_eq_true rfl) ?_
 intro g1 w1 h1
 have M1:Mem w w1 [(g1,.cells x.cells.toArray 124 (0,0))]:=(Mem.start w).alloc h1
 refine ⟨_,M1.cell 0 rfl rfl,?_⟩
 refine ⟨_,M1.cell 0 rfl rfl,?_⟩
 refine ⟨_,M1.cell 0 rfl rfl,?_⟩
 refine ⟨_,M1.cell 0 rfl rfl,?_⟩
 refine (HoldsClass_spec (hf.ext M1.ext) hl _ _ _ _).mono ?_
 rintro v w2 ⟨rfl,e2⟩
 exact ⟨rfl,M1.ext.trans e2⟩
set_option maxRecDepth 100000 in
theorem granted_spec {w:World} {s:SV} {es:List Entry} (h:StateIs w s es) (hA:Acc es) {x:Waiv} (hx:x.Nums) {A:Option Addr} {f:List Fact} {c:Nat} (hf:HF w A f c) (hl:f.length <= 2 ^ 20) :
  CallsV C.P 152 #[.pointer (some ⟨s.gs,0,none⟩),.slice A f.length c,x.val] w fun v w' => v = .int .i64 (grantedE (sgF f x) es x) ∧ Ext w w':=by
 obtain ⟨Aw,cw,hvw,_,_⟩:=reads_of_owns h.waivs
 have hwl:=(acc_ok hA).wlen
 refine callsV_of C_ok (args:=[_,_,_]) (plans:=plans152) Tryz.func152 rfl Tryz.ntmps152 (by kernel_rfl) (Nat.le_of_ble_eq_true rfl) ?_
 intro g1 w1 h1
 have M1:Mem w w1 [(g1,.cells x.cells.toArray 124 (0,0))]:=(Mem.start w).alloc h1
 have hs:=h.ext M1.ext
 have hvc:w1.cell? ⟨s.gs,2,none⟩ = some (.slice Aw (waivL es).length cw):=cell_of_block hs.block (by show some s.vW = _; rw [hvw])
 refine ⟨_,hvc,?_⟩
 refine brE_dec (fun b1 => ?_) (fun b1 => ?_)
 ·have b1:(500:Int) <= ((waivL es).length:Nat):=b1
  exact ⟨congrArg _ (by unfold grantedE; rw [if_pos (by omega)]),M1.ext⟩
 have b1:¬ (500:Int) <= ((waivL es).length:Nat):=b1
 refine ⟨_,M1.cell 0 rfl rfl,?_⟩
 refine ⟨_,hvc,?_⟩
 refine ⟨(((waivL es).length + 1:Nat):Int),fit ⟨by omega,by omega⟩,?_⟩
 refine brE_ndec (fun b2 => ?_) (fun b2 => ?_)
 ·have b2:¬ x.id = (((waivL es).length + 1:Nat):Int):=b2
  exact ⟨congrArg _ (by unfold grantedE; rw [if_neg (by omega),if_pos (by omega)]),M1.ext⟩
 have b2:x.id = (((waivL es).length + 1:Nat):Int):=b2
 refine (Check_spec (hf.ext M1.ext) hl).mono ?_
 rintro v w2 ⟨rfl,e2⟩
 have M2:=M1.grow e2
 refine brE_ndec (fun b3 => ?_) (fun b3 => ?_)
 ·have b3:¬ (chkF f).2 = 0:=b3
  exact ⟨congrArg _ (by unfold grantedE sgF; rw [if_neg (by omega),if_neg (by omega),if_pos b3,if_pos b3]),M2.ext⟩
 have b3:(chkF f).2 = 0:=b3
 refine ⟨x.cells,rfl,M2.rd 0 rfl,?_⟩
 refine (signs_spec (hf.ext M2.ext) hl x).mono ?_
 rintro v w3 ⟨rfl,e3⟩
 have M3:=M2.grow e3
 have hs3:=h.ext M3.ext
 refine brE_mk (fun b4 => ?_) (fun b4 => ?_)
 ·have b4:¬ leastL (atL x.day x.day f) x.signer x.giver <= 2:=by simpa using b4
  have hsg:sgF f x = 60:=by unfold sgF; rw [if_neg (fun h => h b3),if_neg b4]
  exact ⟨congrArg _ (by unfold grantedE; rw [if_neg (by omega),if_neg (by omega),hsg,if_pos (by decide)]),M3.ext⟩
 have b4:leastL (atL x.day x.day f) x.signer x.giver <= 2:=by simpa using b4
 have hg:grantedE (sgF f x) es x = if owesB (dueL es) x.giver x.taker = true then 61 else 0:=by
  have hsg:sgF f x = 0:=by unfold sgF; rw [if_neg (fun h => h b3),if_pos b4]
  unfold grantedE
  rw [if_neg (by omega),if_neg (by omega),hsg,if_neg (by decide)]
 refine ⟨_,cell_of_block (i:=3) hs3.block rfl,?_⟩
 refine ⟨_,M3.cell 0 rfl rfl,?_⟩
 refine ⟨_,M3.cell 0 rfl rfl,?_⟩
 by_cases ho:owesB (dueL es) x.giver x.taker = true
 ·obtain ⟨d,hd1,hd2⟩:=owes_iff.1 ho
  refine ⟨.tuple #[.int .i64 d.waiver,.bool true],mapLGet C_ok (te:=ty3) (x:=sidesV x.giver x.taker) (sidesKey hx.giver hx.taker) hs3.dues sidesK rfl rfl rfl rfl rfl rfl (.inl ⟨rfl,dueP_mem.2 ⟨d,hd1,hd2.1,hd2.2,rfl⟩⟩),?_⟩
  exact ⟨congrArg _ (by rw [hg,if_pos ho]),M3.ext⟩
 ·have hno:∀ u,(sidesV x.giver x.taker,u) ∉ (dueL es).map dueP:=fun u hu => by
   obtain ⟨d,hd1,hd2,hd3,_⟩:=dueP_mem.1 hu
   exact ho (owes_iff.2 ⟨d,hd1,hd2,hd3⟩)
  refine ⟨.tuple #[.int .i64 0,.bool false],mapLGet C_ok (te:=ty3) (x:=sidesV x.giver x.taker) (sidesKey hx.giver hx.taker) hs3.dues sidesK rfl rfl rfl rfl rfl rfl (.inr ⟨rfl,rfl,hno⟩),?_⟩
  exact ⟨congrArg _ (by rw [hg,if_neg ho]),M3.ext⟩
theorem StateIs.gift {w:World} {s:SV} {es:List Entry} (h:StateIs w s es) {k:Nat} (hk:k < (giftL es).length):∃ A c b o,s.vG = .slice A (giftL es).length c ∧ A = some ⟨b,o,none⟩ ∧ Rd w b (o + k * 10) (giftL es)[k].cells:=by
 obtain ⟨A,c,hv,hr,_⟩:=reads_of_owns h.gifts
 obtain ⟨b,o,hA,hrd⟩:=Reads.elem Gift.len (by omega) hr hk
 exact ⟨A,c,b,o,hv,hA,hrd⟩
theorem StateIs.waiv {w:World} {s:SV} {es:List Entry} (h:StateIs w s es) {k:Nat} (hk:k < (waivL es).length):∃ A c b o,s.vW = .slice A (waivL es).length c ∧ A = some ⟨b,o,none⟩ ∧ Rd w b (o + k * 9) (waivL es)[k].cells:=by
 obtain ⟨A,c,hv,hr,_⟩:=reads_of_owns h.waivs
 obtain ⟨b,o,hA,hrd⟩:=Reads.elem Waiv.len (by omega) hr hk
 exact ⟨A,c,b,o,hv,hA,hrd⟩
set_option maxRecDepth 100000 in
theorem offered_spec {w:World} {s:SV} {es:List Entry} (h:StateIs w s es) (hA:Acc es) {x:Gift} (hx:x.Nums) (hn:1 <= x.n ∧ x.n <= 1000000) (hret:0 <= x.returns) :
  CallsV C.P 153 #[.pointer (some ⟨s.gs,0,none⟩),x.val] w fun v w' => v = .int .i64 (offeredE es x) ∧ Ext w w':=by
 obtain ⟨Ag,cg,hvg,_,_⟩:=reads_of_owns h.gifts
 have hgl:=(acc_ok hA).gifts.len
 have hrate:=(acc_ok hA).rate x.cur
 have hceil:=(acc_ok hA).ceil x.to
 have hcur:=hx.cur
 refine callsV_of C_ok (args:=[_,_]) (plans:=plans153) Tryz.func153 rfl Tryz.ntmps153 (by kernel_rfl) (Nat.le_of_ble_eq_true rfl) ?_
 intro g1 w1 h1
 have M1:Mem w w1 [(g1,.cells x.cells.toArray 132 (0,0))]:=(Mem.start w).alloc h1
 have hs:=h.ext M1.ext
 have hvc:w1.cell? ⟨s.gs,4,none⟩ = some (.slice Ag (giftL es).length cg):=cell_of_block hs.block (by show some s.vG = _; rw [hvg])
 obtain ⟨fr,mr,hfr⟩:=hs.rates
 refine ⟨_,hvc,?_⟩
 refine brE_dec (fun b1 => ?_) (fun b1 => ?_)
 ·have b1:(500:Int) <= ((giftL es).length:Nat):=b1
  exact ⟨congrArg _ (by unfold offeredE; rw [if_pos (by omega)]),M1.ext⟩
 have b1:¬ (500:Int) <= ((giftL es).length:Nat):=b1
 refine ⟨_,M1.cell 0 rfl rfl,?_⟩
 refine ⟨_,hvc,?_⟩
 refine ⟨(((giftL es).length + 1:Nat):Int),fit ⟨by omega,by omega⟩,?_⟩
 refine brE_ndec (fun b2 => ?_) (fun b2 => ?_)
 ·have b2:¬ x.id = (((giftL es).length + 1:Nat):Int):=b2
  exact ⟨congrArg _ (by unfold offeredE; rw [if_neg (by omega),if_pos (by omega)]),M1.ext⟩
 have b2:x.id = (((giftL es).length + 1:Nat):Int):=b2
 refine ⟨_,cell_of_block (i:=0) hs.block rfl,?_⟩
 refine ⟨_,M1.cell 0 rfl rfl,?_⟩
 refine ⟨x.cur,fit ⟨by omega,by omega⟩,?_⟩
 refine ⟨.int .i64 (rateL es x.cur),mapGet1 C_ok (te:=ty3) (x:=.int .i64 x.cur) (intKey ⟨by omega,by omega⟩) mr intK rfl rfl rfl rfl rfl rfl (by rw [hfr]; exact numV_getD _),?_⟩
 refine brE_dec (fun b3 => ?_) (fun b3 => ?_)
 ·have b3:rateL es x.cur = 0:=b3
  exact ⟨congrArg _ (by unfold offeredE; rw [if_neg (by omega),if_neg (by omega),if_pos b3]),M1.ext⟩
 have b3:¬ rateL es x.cur = 0:=b3
 refine ⟨_,M1.cell 0 rfl rfl,?_⟩
 refine ⟨_,hvc,?_⟩
 refine brE_dec (fun b4 => ?_) (fun b4 => ?_)
 ·have b4:x.returns > ((giftL es).length:Nat):=b4
  exact ⟨congrArg _ (by unfold offeredE; rw [if_neg (by omega),if_neg (by omega),if_neg b3,if_pos (by omega)]),M1.ext⟩
 have b4:¬ x.returns > ((giftL es).length:Nat):=b4
 have hof:offeredE es x = if x.returns > 0 ∧ (let r:=atN (giftL es) x.returns; ¬ (r.frm = x.to ∧ r.to = x.frm ∧ r.returns = 0 ∧ r.state = 2)) then 8 else if ceilL es x.to > 0 ∧ x.n * rateL es x.cur > ceilL es x.to then 2 else 0:=by
  unfold offeredE
  rw [if_neg (by omega),if_neg (by omega),if_neg b3,if_neg b4]
 refine ⟨_,M1.cell 0 rfl rfl,?_⟩
 refine brE_dec (fun b5 => ?yes) (fun b5 => ?no)
 case' yes =>
  have b5:x.returns > 0:=b5
  obtain ⟨j,hj,hje⟩:=num_of (n:=(giftL es).length) (i:=x.returns) (by omega) (by omega)
  obtain ⟨A,c,b,o,hv,hA',hrd⟩:=hs.gift hj
  have hat:atN (giftL es) x.returns = (giftL es)[j]:=by rw [hje]; exact atN_get hj
  rw [hat] at hof
  refine ⟨.slice A (giftL es).length c,cell_of_block (i:=4) hs.block (by show some s.vG = _; rw [hv]),?_⟩
  refine ⟨_,M1.cell 0 rfl rfl,?_⟩
  refine ⟨(j:Int),by show IntKind.i64.wrap (x.returns - 1) = _; rw [hje,fit ⟨by omega,by omega⟩]; omega,?_⟩
  refine ⟨j,b,o,rfl,hj,hA',?_⟩
  refine ⟨(giftL es)[j].cells,rfl,hrd,?_⟩
  intro g5 w2 h2
  refine ⟨h2.ext,?_⟩
  have M2:=M1.alloc h2
  refine ⟨rfl,_,_,M2.get 0 rfl,Nat.le_of_ble_eq_true rfl,rfl,?_⟩
  intro w3 h3
  have M3:Mem w w3 [(g5,.cells (giftL es)[j].cells.toArray 132 (0,0)),(g1,.cells x.cells.toArray 132 (0,0))]:=M2.put 0 rfl h3
  refine ⟨_,M3.cell 0 rfl rfl,?_⟩
  refine ⟨_,M3.cell 1 rfl rfl,?_⟩
  refine brE_ndec (fun c1 => ?_) (fun c1 => ?_)
  ·have c1:¬ (giftL es)[j].frm = x.to:=c1
   exact ⟨congrArg _ (by rw [hof,if_pos ⟨b5,fun e => c1 e.1⟩]),M3.ext⟩
  have c1:(giftL es)[j].frm = x.to:=c1
  refine ⟨_,M3.cell 0 rfl rfl,?_⟩
  refine ⟨_,M3.cell 1 rfl rfl,?_⟩
  refine brE_ndec (fun c2 => ?_) (fun c2 => ?_)
  ·have c2:¬ (giftL es)[j].to = x.frm:=c2
   exact ⟨congrArg _ (by rw [hof,if_pos ⟨b5,fun e => c2 e.2.1⟩]),M3.ext⟩
  have c2:(giftL es)[j].to = x.frm:=c2
  refine ⟨_,M3.cell 0 rfl rfl,?_⟩
  refine brE_ndec (fun c3 => ?_) (fun c3 => ?_)
  ·have c3:¬ (giftL es)[j].returns = 0:=c3
   exact ⟨congrArg _ (by rw [hof,if_pos ⟨b5,fun e => c3 e.2.2.1⟩]),M3.ext⟩
  have c3:(giftL es)[j].returns = 0:=c3
  refine ⟨_,M3.cell 0 rfl rfl,?_⟩
  refine brE_ndec (fun c4 => ?_) (fun c4 => ?_)
  ·have c4:¬ (giftL es)[j].state = 2:=c4
   exact ⟨congrArg _ (by rw [hof,if_pos ⟨b5,fun e => c4 e.2.2.2⟩]),M3.ext⟩
  have c4:(giftL es)[j].state = 2:=c4
  rw [if_neg (fun e => e.2 ⟨c1,c2,c3,c4⟩)] at hof
  have ez:=M3.ext
  have gz:=M3.get 1 rfl
 case' no =>
  have b5:¬ x.returns > 0:=b5
  rw [if_neg (fun e => b5 e.1)] at hof
  have ez:=M1.ext
  have gz:=M1.get 0 rfl
 all_goals
  have hz:=h.ext ez
  obtain ⟨fc,mc,hfc⟩:=hz.ceils
  refine ⟨_,cell_of_block (i:=1) hz.block rfl,?_⟩
  refine ⟨_,cell_of_block gz rfl,?_⟩
  refine ⟨.tuple #[.int .i64 (ceilL es x.to),.bool (!decide (ceilL es x.to = 0))],mapGet2 C_ok (te:=ty3) (x:=.int .i64 x.to) (intKey hx.to) mc intK rfl rfl rfl rfl rfl rfl (by rw [hfc]; exact numV_getD _) (by rw [hfc]; exact numV_some _),?_⟩
  refine brE_ndec (fun d1 => ?_) (fun d1 => ?_)
  ·have d1:¬ ceilL es x.to = 0:=d1
   refine ⟨x.cells,rfl,Rd.of_block gz,?_⟩
   refine (worth_spec hz hrate hn hcur).mono ?_
   rintro v w4 ⟨rfl,e4⟩
   refine brE_dec (fun d2 => ?_) (fun d2 => ?_)
   ·have d2:x.n * rateL es x.cur > ceilL es x.to:=d2
    exact ⟨congrArg _ (by rw [hof,if_pos ⟨by omega,d2⟩]),ez.trans e4⟩
   ·have d2:¬ x.n * rateL es x.cur > ceilL es x.to:=d2
    exact ⟨congrArg _ (by rw [hof,if_neg (fun e => d2 e.2)]),ez.trans e4⟩
  ·have d1:ceilL es x.to = 0:=d1
   exact ⟨congrArg _ (by rw [hof,if_neg (fun e => by omega)]),ez⟩
theorem end_id {x:Entry} (hf:formX x = true) (hk:x.kind = 4):1 <= x.w.id ∧ x.w.id <= 500:=by
 obtain ⟨hok,_,_⟩:=form_okE hf
 unfold okE at hok
 rw [if_neg (by omega),if_neg (by omega),if_neg (by omega),if_pos hk,decide_eq_true_eq] at hok
 exact hok
theorem ans_id {x:Entry} (hf:formX x = true) (hk:x.kind = 6 ∨ x.kind = 7):1 <= x.g.id ∧ x.g.id <= 500:=by
 obtain ⟨hok,_,_⟩:=form_okE hf
 unfold okE at hok
 rw [if_neg (by omega),if_neg (by omega),if_neg (by omega),if_neg (by omega),if_neg (by omega),if_pos hk,decide_eq_true_eq] at hok
 exact hok
theorem offer_nums {x:Entry} (hf:formX x = true) (hk:x.kind = 5):(1 <= x.g.n ∧ x.g.n <= 1000000) ∧ 0 <= x.g.returns:=by
 obtain ⟨hok,_,_⟩:=form_okE hf
 rw [okE_5 hk] at hok
 unfold rightG at hok
 simp only [Bool.and_eq_true,decide_eq_true_eq] at hok
 exact ⟨hok.1.2,hok.1.1.1.1.2.1⟩
set_option maxRecDepth 100000 in
theorem refused_spec {w:World} {s:SV} {es:List Entry} (h:StateIs w s es) (hA:Acc es) {x:Entry} (hx:x.Nums) (hform:formX x = true) {A:Option Addr} {f:List Fact} {c:Nat} (hf:HF w A f c) (hl:f.length <= 2 ^ 20) :
  CallsV C.P 97 #[.pointer (some ⟨s.gs,0,none⟩),.slice A f.length c,x.val] w fun v w' => v = .int .i64 (refusedE (sgF f x.w) es x) ∧ Ext w w':=by
 have hkind:=ok_kind (form_okE hform).1
 have hwl:=(acc_ok hA).wlen
 have hgl:=(acc_ok hA).gifts.len
 refine callsV_of C_ok (args:=[_,_,_]) (plans:=plans97) Tryz.func97 rfl Tryz.ntmps97 (by kernel_rfl) (Nat.le_of_ble_eq_true rfl) ?_
 intro g1 w1 h1
 have M1:Mem w w1 [(g1,.cells x.cells.toArray 134 (0,0))]:=(Mem.start w).alloc h1
 have hs:=h.ext M1.ext
 refine ⟨_,M1.cell 0 rfl rfl,?_⟩
 refine brE_dec (fun k3 => ?_) (fun k3 => ?_)
 ·have k3:x.kind = 3:=k3
  refine ⟨x.w.cells,rfl,(M1.rd 0 rfl).part x.w_part,?_⟩
  refine (granted_spec hs hA hx.w (hf.ext M1.ext) hl).mono ?_
  rintro v w2 ⟨rfl,e2⟩
  exact ⟨congrArg _ (by unfold refusedE; rw [if_pos k3]),M1.ext.trans e2⟩
 have k3:¬ x.kind = 3:=k3
 refine brE_dec (fun k4 => ?_) (fun k4 => ?_)
 ·have k4:x.kind = 4:=k4
  have hid:=end_id hform k4
  have hr:refusedE (sgF f x.w) es x = if x.w.id > (waivL es).length then 5 else if (atN (waivL es) x.w.id).til <= x.day then 8 else 0:=by
   unfold refusedE; rw [if_neg k3,if_pos k4]
  obtain ⟨Aw,cw,hvw,_,_⟩:=reads_of_owns h.waivs
  refine ⟨_,M1.cell 0 rfl rfl,?_⟩
  refine ⟨.slice Aw (waivL es).length cw,cell_of_block (i:=2) hs.block (by show some s.vW = _; rw [hvw]),?_⟩
  refine brE_dec (fun b1 => ?_) (fun b1 => ?_)
  ·have b1:x.w.id > ((waivL es).length:Nat):=b1
   exact ⟨congrArg _ (by rw [hr,if_pos b1]),M1.ext⟩
  have b1:¬ x.w.id > ((waivL es).length:Nat):=b1
  obtain ⟨j,hj,hje⟩:=num_of (n:=(waivL es).length) (i:=x.w.id) (by omega) (by omega)
  obtain ⟨A',c',b,o,hv,hA',hrd⟩:=hs.waiv hj
  have hat:atN (waivL es) x.w.id = (waivL es)[j]:=by rw [hje]; exact atN_get hj
  rw [hat,if_neg b1] at hr
  refine ⟨.slice A' (waivL es).length c',cell_of_block (i:=2) hs.block (by show some s.vW = _; rw [hv]),?_⟩
  refine ⟨_,M1.cell 0 rfl rfl,?_⟩
  refine ⟨(j:Int),by show IntKind.i64.wrap (x.w.id - 1) = _; rw [hje,fit ⟨by omega,by omega⟩]; omega,?_⟩
  refine ⟨j,b,o,rfl,hj,hA',?_⟩
  refine ⟨_,hrd 8 _ rfl,?_⟩
  refine ⟨_,M1.cell 0 rfl rfl,?_⟩
  refine brE_dec (fun b2 => ?_) (fun b2 => ?_)
  ·have b2:(waivL es)[j].til <= x.day:=b2
   exact ⟨congrArg _ (by rw [hr,if_pos b2]),M1.ext⟩
  ·have b2:¬ (waivL es)[j].til <= x.day:=b2
   exact ⟨congrArg _ (by rw [hr,if_neg b2]),M1.ext⟩
 have k4:¬ x.kind = 4:=k4
 refine brE_dec (fun k5 => ?_) (fun k5 => ?_)
 ·have k5:x.kind = 5:=k5
  obtain ⟨hn,hret⟩:=offer_nums hform k5
  refine ⟨x.g.cells,rfl,(M1.rd 0 rfl).part x.g_part,?_⟩
  refine (offered_spec hs hA hx.g hn hret).mono ?_
  rintro v w2 ⟨rfl,e2⟩
  exact ⟨congrArg _ (by unfold refusedE; rw [if_neg k3,if_neg k4,if_pos k5]),M1.ext.trans e2⟩
 have k5:¬ x.kind = 5:=k5
 have ans:x.kind = 6 ∨ x.kind = 7 -> refusedE (sgF f x.w) es x = if x.g.id > (giftL es).length then 5 else if ¬ (atN (giftL es) x.g.id).state = 1 then 8 else 0:=fun k => by
  unfold refusedE; rw [if_neg k3,if_neg k4,if_neg k5,if_pos k]
 obtain ⟨Ag,cg,hvg,_,_⟩:=reads_of_owns h.gifts
 refine brE_dec (fun k6 => ?k6) (fun k6 => ?no)
 case' no =>
  have k6:¬ x.kind = 6:=k6
  refine brE_dec (fun k7 => ?k7) (fun k7 => ?k8)
 case k8 =>
  have k7:¬ x.kind = 7:=k7
  exact ⟨congrArg _ (by unfold refusedE; rw [if_neg k3,if_neg k4,if_neg k5,if_neg (by omega)]),M1.ext⟩
 case' k6 =>
  have kk:x.kind = 6 ∨ x.kind = 7:=.inl k6
  refine brE_true (decide_eq_true k6) ?_
 case' k7 => have kk:x.kind = 6 ∨ x.kind = 7:=.inr k7
 all_goals
  have hid:=ans_id hform kk
  have hr:=ans kk
  refine ⟨_,M1.cell 0 rfl rfl,?_⟩
  refine ⟨.slice Ag (giftL es).length cg,cell_of_block (i:=4) hs.block (by show some s.vG = _; rw [hvg]),?_⟩
  refine brE_dec (fun b1 => ?_) (fun b1 => ?_)
  ·have b1:x.g.id > ((giftL es).length:Nat):=b1
   exact ⟨congrArg _ (by rw [hr,if_pos b1]),M1.ext⟩
  have b1:¬ x.g.id > ((giftL es).length:Nat):=b1
  obtain ⟨j,hj,hje⟩:=num_of (n:=(giftL es).length) (i:=x.g.id) (by omega) (by omega)
  obtain ⟨A',c',b,o,hv,hA',hrd⟩:=hs.gift hj
  have hat:atN (giftL es) x.g.id = (giftL es)[j]:=by rw [hje]; exact atN_get hj
  rw [hat,if_neg b1] at hr
  refine ⟨.slice A' (giftL es).length c',cell_of_block (i:=4) hs.block (by show some s.vG = _; rw [hv]),?_⟩
  refine ⟨_,M1.cell 0 rfl rfl,?_⟩
  refine ⟨(j:Int),by show IntKind.i64.wrap (x.g.id - 1) = _; rw [hje,fit ⟨by omega,by omega⟩]; omega,?_⟩
  refine ⟨j,b,o,rfl,hj,hA',?_⟩
  refine ⟨_,hrd 7 _ rfl,?_⟩
  refine brE_ndec (fun b2 => ?_) (fun b2 => ?_)
  ·have b2:¬ (giftL es)[j].state = 1:=b2
   exact ⟨congrArg _ (by rw [hr,if_pos b2]),M1.ext⟩
  ·have b2:(giftL es)[j].state = 1:=b2
   exact ⟨congrArg _ (by rw [hr,if_neg (fun e => e b2)]),M1.ext⟩
end Go.Proofs.YtigapannpbaihaaGreat
namespace Go.Proofs.YtigapannpbaihaaGreat
open Go.Eng Go.RowKit
open Go.Maps (Keyed)
theorem underL:Tryz.prog.underlying 55 = some (.pointer (Tryz.prog.pointee 55)):=by kernel_rfl
theorem eqNilP (x y:Operand) (p:Option Addr):EqIs C.P .eql 55 x y (.pointer p) (.pointer none) p.isNone:=by
 intro w
 have hu:C.P.underlying 55 = some (.pointer (C.P.pointee 55)):=underL
 have h1:(eqGuard .eql 55 x y (.pointer p) (.pointer none)).run C.P w = .ok () w:=by simp [eqGuard]
 rw [Sem.run_bind,h1]
 simp only [Result.andThen_ok]
 exact run_eql_pointer_nil _ _ _ hu
theorem New_spec (w:World):CallsV C.P 38 #[] w fun v w' => ∃ l:LV,v = l.ptr ∧ LdNew w w' l []:=by
 refine callsV_of C_ok (args:=[]) (plans:=[]) Tryz.func38 rfl Tryz.ntmps38 (by kernel_rfl) (Nat.le_of_ble_eq_true rfl) ?_
 refine (newState_spec w).mono ?_
 rintro v w1 ⟨⟨s,rfl,hs,hn⟩,e1⟩
 intro g w2 h2
 refine ⟨⟨g,.slice none 0 0,s⟩,rfl,⟨h2.here,World.ownsRow_nil _ _ _ _,hs.ext h2.ext,.nil,fun x hx => by cases hx⟩,?_,e1.trans h2.ext⟩
 rintro k (hk | hk | hk)
 ·rw [hk]; show w.heap.size <= g; rw [h2.new]; exact e1.size
 ·cases hk
 ·exact hn k hk
theorem lastDay_get {es:List Entry} (h:0 < es.length):lastDay es = (es[es.length - 1]'(by omega)).day:=by
 unfold lastDay
 rw [List.getLast?_eq_getElem?,List.getElem?_eq_getElem (by omega)]; rfl
theorem Day_spec {w:World} {l:LV} {es:List Entry} (h:LedgerIs w l es) (hl:es.length <= 2 ^ 20):CallsV C.P 151 #[l.ptr] w fun v w' => v = .int .i64 (lastDay es) ∧ w' = w:=by
 obtain ⟨A,c,hv,hr,_⟩:=reads_of_owns h.row
 refine callsV_of C_ok (args:=[_]) (plans:=plans151) Tryz.func151 rfl Tryz.ntmps151 (by kernel_rfl) (Nat.le_of_ble_eq_true rfl) ?_
 have hvc:w.cell? ⟨l.gl,0,none⟩ = some (.slice A es.length c):=cell_of_block h.block (by show some l.vE = _; rw [hv])
 refine ⟨_,eqNilP _ _ _,?_⟩
 refine ⟨_,hvc,?_⟩
 refine brE_dec (fun b1 => ?_) (fun b1 => ?_)
 ·have b1:((es.length:Nat):Int) = 0:=b1
  have:es = []:=List.length_eq_zero_iff.1 (by omega)
  subst this
  exact ⟨rfl,rfl⟩
 have b1:¬ ((es.length:Nat):Int) = 0:=b1
 refine ⟨_,hvc,?_⟩
 refine ⟨_,hvc,?_⟩
 refine ⟨((es.length - 1:Nat):Int),by show IntKind.i64.wrap (((es.length:Nat):Int) - 1) = _; rw [fit ⟨by omega,by omega⟩]; omega,?_⟩
 obtain ⟨b,o,hA,hrd⟩:=Reads.elem Entry.len (by omega) hr (i:=es.length - 1) (by omega)
 refine ⟨es.length - 1,b,o,rfl,(by omega:es.length - 1 < es.length),hA,?_⟩
 refine ⟨_,hrd 1 _ rfl,?_⟩
 exact ⟨congrArg _ (lastDay_get (by omega)).symm,rfl⟩
def beginE (es:List Entry) (x:Entry):Int:=if formX x = false then 1 else if x.day < lastDay es then 7 else 0
theorem begin_spec {w:World} {l:LV} {es:List Entry} (h:LedgerIs w l es) (hl:es.length <= 2 ^ 20) {x:Entry} (hx:x.Nums):CallsV C.P 96 #[l.ptr,x.val] w fun v w' => v = .int .i64 (beginE es x) ∧ Ext w w':=by
 refine callsV_of C_ok (args:=[_,_]) (plans:=plans96) Tryz.func96 rfl Tryz.ntmps96 (by kernel_rfl) (Nat.le_of_ble_eq_true rfl) ?_
 intro g1 w1 h1
 have M1:Mem w w1 [(g1,.cells x.cells.toArray 134 (0,0))]:=(Mem.start w).alloc h1
 refine ⟨_,eqNilP _ _ _,?_⟩
 refine ⟨x.cells,rfl,M1.rd 0 rfl,?_⟩
 refine (formed_spec x hx w1).mono ?_
 rintro v w2 ⟨rfl,e2⟩
 have M2:=M1.grow e2
 refine brE_mk (fun b1 => ?_) (fun b1 => ?_)
 ·have b1:formX x = false:=by simpa using b1
  exact ⟨congrArg _ (by unfold beginE; rw [if_pos b1]),M2.ext⟩
 have b1:formX x = true:=by simpa using b1
 refine ⟨_,M2.cell 0 rfl rfl,?_⟩
 refine (Day_spec (h.ext M2.ext) hl).mono ?_
 rintro v w3 ⟨rfl,rfl⟩
 refine ⟨Ext.refl _,?_⟩
 refine brE_dec (fun b2 => ?_) (fun b2 => ?_)
 ·have b2:x.day < lastDay es:=b2
  exact ⟨congrArg _ (by unfold beginE; rw [if_neg (by rw [b1]; decide),if_pos b2]),M2.ext⟩
 ·have b2:¬ x.day < lastDay es:=b2
  exact ⟨congrArg _ (by unfold beginE; rw [if_neg (by rw [b1]; decide),if_neg b2]),M2.ext⟩
set_option maxRecDepth 100000 in
theorem Do_spec {w:World} {l:LV} {es:List Entry} (h:LedgerIs w l es) (hl:es.length <= 2 ^ 16) {x:Entry} (hx:x.Nums) {A:Option Addr} {f:List Fact} {c:Nat} (hf:HF w A f c) (hfl:f.length <= 2 ^ 20) :
  CallsV C.P 40 #[l.ptr,.slice A f.length c,x.val] w fun v w' => v = .int .i64 (doF f es x) ∧ LdGo w l (addL (doF f es x) es x) w':=by
 refine callsV_of C_ok (args:=[_,_,_]) (plans:=plans40) Tryz.func40 rfl Tryz.ntmps40 (by kernel_rfl) (Nat.le_of_ble_eq_true rfl) ?_
 intro g1 w1 h1
 have M1:Mem w w1 [(g1,.cells x.cells.toArray 134 (0,0))]:=(Mem.start w).alloc h1
 refine ⟨x.cells,rfl,M1.rd 0 rfl,?_⟩
 refine (begin_spec (h.ext M1.ext) (by omega) hx).mono ?_
 rintro v w2 ⟨rfl,e2⟩
 have M2:=M1.grow e2
 refine brE_ndec (fun b1 => ?_) (fun b1 => ?_)
 ·have b1:¬ beginE es x = 0:=b1
  have hd:doF f es x = beginE es x:=by
   unfold doF doE beginE at *
   split
   ·rfl
   ·rename_i h1
    rw [if_neg h1] at b1
    split
    ·rfl
    ·rename_i h2; rw [if_neg h2] at b1; exact absurd rfl b1
  refine ⟨congrArg _ hd.symm,?_⟩
  have:addL (doF f es x) es x = es:=by unfold addL; rw [if_neg (by rw [hd]; exact b1)]
  rw [this]
  exact LdGo.ext h M2.ext
 have b1:beginE es x = 0:=b1
 have hform:formX x = true:=by
  unfold beginE at b1
  split at b1
  ·cases b1
  ·rename_i h1; simpa using h1
 have hday:¬ x.day < lastDay es:=by
  unfold beginE at b1
  rw [if_neg (by rw [hform]; decide)] at b1
  split at b1
  ·cases b1
  ·assumption
 have hd:doF f es x = refusedE (sgF f x.w) es x:=by
  unfold doF doE
  rw [if_neg (by rw [hform]; decide),if_neg hday]
 have h2':=h.ext M2.ext
 refine ⟨_,cell_of_block (i:=1) h2'.block rfl,?_⟩
 refine ⟨x.cells,rfl,M2.rd 0 rfl,?_⟩
 refine (refused_spec h2'.st h.acc hx hform (hf.ext M2.ext) hfl).mono ?_
 rintro v w3 ⟨rfl,e3⟩
 have M3:=M2.grow e3
 rw [hd]
 refine brE_ndec (fun b2 => ?_) (fun b2 => ?_)
 ·have b2:¬ refusedE (sgF f x.w) es x = 0:=b2
  refine ⟨rfl,?_⟩
  have:addL (refusedE (sgF f x.w) es x) es x = es:=by unfold addL; rw [if_neg b2]
  rw [this]
  exact LdGo.ext h M3.ext
 have b2:refusedE (sgF f x.w) es x = 0:=b2
 have hdo:doE (sgF f x.w) es x = 0:=by rw [<-b2,<-hd]; rfl
 have hadd:addL (refusedE (sgF f x.w) es x) es x = es ++ [x]:=by unfold addL; rw [if_pos b2]
 have h3:=h.ext M3.ext
 refine ⟨_,cell_of_block (i:=1) h3.block rfl,?_⟩
 refine ⟨x.cells,rfl,M3.rd 0 rfl,?_⟩
 refine (do_spec h3.st h.acc hx hdo).mono ?_
 rintro v w4 ⟨s4,hgs4,hst4,hk4,hn4⟩
 -- the ledger's own blocks are as they were
 have keep4:Keep (fun k => ¬ l.s.has k) w w4:=keep_trans (keep_ext M3.ext) hk4 fun _ hq _ => hq
 have hb4:w4.heap[l.gl]? = some (.cells l.cells.toArray 211 (0,0)):=hk4.heap h3.offS h3.block
 have hrow4:w4.ownsRow 0 134 24 l.vE es.length (es.flatMap Entry.cells):=owns_same h3.row fun k hk => hk4.block k (h3.offE hk).1 (h3.lt (.inr (.inl hk)))
 have hg4:w4.heap[g1]? = some (.cells x.cells.toArray 134 (0,0)):=hk4.heap (fun hq => by have:=h.st.lt hq; have:=M3.new 0 rfl; omega) (M3.get 0 rfl)
 obtain ⟨A4,c4,hv4,_,_⟩:=reads_of_owns hrow4
 refine ⟨.slice A4 es.length c4,cell_of_block (i:=0) hb4 (by show some l.vE = _; rw [hv4]),?_⟩
 refine ⟨x.cells,rfl,Rd.of_block hg4,?_⟩
 intro g5 w5 h5
 refine ⟨h5.ext,?_⟩
 have hrow5:=ownsRow_ext hrow4 h5.ext
 rw [hv4] at hrow5
 refine ⟨rfl,rfl,rfl,0,_,_,x.cells,hrow5,Nat.zero_le _,Nat.le_of_ble_eq_true rfl,rfl,rfl,.inr ⟨g5,0,rfl,Rd.of_block h5.here⟩,rfl,rfl,by omega,by simp only [maxLen]; omega,?_⟩
 intro v6 w6 ho6 hg6 hpl
 have hb5:=h5.ext.heap hb4
 have offg:∀ k,(Value.slice A4 es.length c4).ownBlock = some k -> k ≠ l.gl:=fun k hk => (h3.offE (by rw [hv4]; exact hk)).2
 have hb6:w6.heap[l.gl]? = some (.cells l.cells.toArray 211 (0,0)):=by
  rw [hg6.block _ (lt_of_heap hb5) (fun e => offg _ e.symm rfl)]; exact hb5
 obtain ⟨A6,c6,rfl,_,_⟩:=reads_of_owns ho6
 refine ⟨rfl,_,_,hb6,Nat.le_of_ble_eq_true rfl,rfl,?_⟩
 intro w7 h7
 rw [hadd]
 refine ⟨congrArg _ b2.symm,?_⟩
 -- the new state's blocks stay
 have st5:StateIs w5 s4 (es ++ [x]):=hst4.ext h5.ext
 have offR:∀ k,(Value.slice A4 es.length c4).ownBlock = some k -> ¬ s4.has k:=fun k hk hq => by
  obtain ⟨_,cur,e⟩:=owns_at hrow5 hk
  exact st5.off e (by decide) (by decide) (by decide) hq
 have offL:¬ s4.has l.gl:=st5.off hb5 (by decide) (by decide) (by decide)
 have st7:StateIs w7 s4 (es ++ [x]):=st5.keep fun k hk => by
  rw [h7.there k (fun e => offL (e ▸ hk)),hg6.block k (st5.lt hk) (fun e => offR k e.symm hk)]
 generalize hl':(LV.mk l.gl (.slice A6 (es.length + 1) c6) s4) = l'
 have hrow7:w7.ownsRow 0 134 24 (.slice A6 (es.length + 1) c6) (es.length + 1) (es.flatMap Entry.cells ++ x.cells):=ownsRow_put ho6 h7 (fun e => by
  obtain ⟨_,cur,hc⟩:=owns_at ho6 e
  rw [hb6] at hc; simp at hc)
 refine ⟨l',by rw [<-hl'],⟨?_,?_,?_,.snoc _ h.acc hdo,?_⟩,?_,?_⟩
 ·have h7':Put w6 l.gl (.cells #[.slice A6 (es.length + 1) c6,.pointer (some ⟨l.s.gs,0,none⟩)] 211 (0,0)) w7:=h7
  rw [<-hl']
  show w7.heap[l.gl]? = some (.cells #[.slice A6 (es.length + 1) c6,.pointer (some ⟨s4.gs,0,none⟩)] 211 (0,0))
  rw [hgs4]
  exact h7'.here
 ·rw [<-hl',List.length_append,List.flatMap_append]
  have:=hrow7
  simpa using this
 ·rw [<-hl']; exact st7
 ·intro y hy
  rcases List.mem_append.1 hy with hy | hy
  ·exact h.nums y hy
  ·rw [List.mem_singleton.1 hy]; exact hx
 ·have k4:Keep (fun k => ¬ l.has k) w w4:=keep_trans (keep_ext M3.ext) hk4 fun q hq _ hs => hq (.inr (.inr hs))
  exact ((k4.ext h5.ext).grown hg6 (fun k hk hn => hn (.inr (.inl (by rw [hv4]; exact hk))))).put h7 (fun hn => hn (.inl rfl))
 ·intro k hk
  rw [<-hl'] at hk
  rcases hk with hk | hk | hk
  ·exact .inl (.inl hk)
  ·rcases hpl.2 k hk with h6 | h6
   ·exact .inl (.inr (.inl (by rw [hv4]; exact h6)))
   ·exact .inr (Nat.le_trans (Nat.le_trans keep4.size h5.ext.size) h6)
  ·rcases hn4 k hk with h6 | h6
   ·exact .inl (.inr (.inr h6))
   ·exact .inr (Nat.le_trans M3.ext.size h6)
end Go.Proofs.YtigapannpbaihaaGreat
