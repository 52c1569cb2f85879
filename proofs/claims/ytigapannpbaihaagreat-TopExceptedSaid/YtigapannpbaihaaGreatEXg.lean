/- a part of the proof: steps, walks and plain laws that the law below stands on; no condition. -/
import Derived.Test.YtigapannpbaihaaGreatEXa
import Derived.Test.YtigapannpbaihaaGreatEXb
import Derived.Test.YtigapannpbaihaaGreatEXc
import Derived.Test.YtigapannpbaihaaGreatEXd
import Derived.Test.YtigapannpbaihaaGreatEXe
import Derived.Test.YtigapannpbaihaaGreatEXf
import Derived.Test.YtigapannpbaihaaGreatRows
import Derived.ProofKit
import Derived.Lib.SmallJoins
import Derived.Deep.Slices
import Derived.Deep.SlicePairs
import Derived.RowKit
import Derived.RowKit3
set_option linter.unusedVariables false
set_option linter.unusedSimpArgs false
set_option linter.unnecessarySimpa false
set_option linter.unusedSectionVars false
namespace Go.Proofs.YtigapannpbaihaaGreat.Rk
open Go.Eng Go.RowKit
theorem lists_nil (B:Nat) (w:World):Lists B w (.slice none 0 0) []:=⟨[],World.ownsRow_nil _ _ _ _,.nil⟩
theorem Lists.base {B B':Nat} {w:World} {v:Value} {L:List (List Int)} (h:Lists B' w v L) (hb:B <= B'):Lists B w v L :=
 let ⟨us,h1,h2⟩:=h
 ⟨us,ownsRow_base h1 hb,h2.base hb⟩
structure RList (w:World) (A:Option Addr) (L:List (List Int)) (us:List Value):Prop where
 len:us.length = L.length
 reads:Reads w A us
 row:∀ i (h:i < L.length),∃ A' c,us[i]? = some (.slice A' L[i].length c) ∧ Reads w A' (ints L[i])
theorem Lists.read {B:Nat} {w:World} {v:Value} {L:List (List Int)} (h:Lists B w v L):∃ A c us,v = .slice A L.length c ∧ RList w A L us:=by
 obtain ⟨us,h1,h2⟩:=h
 obtain ⟨A,c,e,hr,_⟩:=reads_of_owns h1
 refine ⟨A,c,us,e,h2.length,hr,fun i hi => ?_⟩
 obtain ⟨u,hu,ho⟩:=h2.at hi
 obtain ⟨A',c',e',hr',_⟩:=reads_of_owns ho
 subst e'
 exact ⟨A',c',hu,hr'⟩
theorem RList.ext {w w':World} {A:Option Addr} {L:List (List Int)} {us:List Value} (h:RList w A L us) (e:Ext w w'):RList w' A L us :=
 ⟨h.len,h.reads.ext e,fun i hi => let ⟨A',c,h1,h2⟩:=h.row i hi; ⟨A',c,h1,h2.ext e⟩⟩
def compsL (n:Nat) (R:Nat -> Nat -> Bool):List (List Int):=compsF n R 24 fun _ => false
theorem components_spec {w:World} {g n:Nat} {T R:Nat -> Nat -> Bool} (hw:Web w g n T R) (hn:n <= 24) :
  CallsV C.P 208 #[.pointer (some ⟨g,0,none⟩)] w fun v w' => Lists w.heap.size w' v (compsL n R) ∧ Ext w w':=by
 refine callsV_of C_ok (args:=[_]) (plans:=[]) Tryz.func208 rfl Tryz.ntmps208 (by kernel_rfl) (Nat.le_of_ble_eq_true rfl) ?_
 intro gb w1 h1
 intro go w2 h2
 intro gd w3 h3
 intro gv w4 h4
 refine ⟨[],[.pointer (some ⟨gb,0,none⟩),.pointer (some ⟨gd,0,none⟩),.pointer (some ⟨go,0,none⟩),.pointer (some ⟨gv,0,none⟩)],rfl,rfl,?_⟩
 have M4:=((((Mem.start w).alloc h1).alloc h2).alloc h3).alloc h4
 refine ⟨rfl,_,_,M4.get 0 rfl,Nat.le_of_ble_eq_true rfl,rfl,?_⟩
 intro w5 h5
 have M5:=M4.put 0 rfl h5
 refine ⟨_,cell_of_block h5.here rfl,?_⟩
 have e0:List.replicate 24 (Value.bool false) = setCells fun _ => false:=bools_false 24
 have hd:w5.heap[gd]? = some (.cells (setCells fun _ => false).toArray 227 (0,0)):=by rw [<-e0]; exact M5.get 1 rfl
 have hl:Lists w.heap.size w5 (.slice none 0 0) []:=lists_nil _ _
 have mem:CompMem w.heap.size w5 g gb gd go gv n T R (fun _ => false) (.slice none 0 0) [] :=
  ⟨M5.ext.size,⟨M5.new 3 rfl,M5.new 1 rfl,M5.new 2 rfl,M5.new 0 rfl⟩,hw.ext M5.ext,M5.get 3 rfl,hd,M5.get 2 rfl,h5.here,hl⟩
 have hu:unseen (fun _ => false) <= 24:=Nat.le_trans (List.length_filter_le _ _) (by simp)
 refine (next_spec 24 _ _ w5 g gb gd go gv n T R _ _ hu hn (by rw [List.length_nil,Nat.zero_add]; exact hu) mem).mono ?_
 rintro v6 w6 ⟨v7,hb,ho,hl6⟩
 refine ⟨_,cell_of_block ho rfl,?_⟩
 exact ⟨hl6,Below.trans M5.ext hb⟩
noncomputable def compsV (N:Int) (xs:List Arrow):List (List Int):=if chk N xs = 0 then compsL N.toNat (reach (toM xs)) else []
theorem Components_spec {N:Int} {A:Option Addr} {xs:List Arrow} {c:Nat} {w:World} (h:HRel w N A xs c) :
  CallsV C.P 142 #[relVal N A xs.length c] w fun v w' => Lists w.heap.size w' v (compsV N xs) ∧ Ext w w':=by
 refine callsV_of C_ok (args:=[_]) (plans:=[]) Tryz.func142 rfl Tryz.ntmps142 (by kernel_rfl) (Nat.le_of_ble_eq_true rfl) ?_
 intro g1 w1 h1
 have M1:=(Mem.start w).alloc h1
 refine ⟨[.int .i64 N,.slice A xs.length c],rfl,M1.rd 0 rfl,?_⟩
 by_cases hv:chk N xs = 0
 ·have hok:=valid_of_chk hv
  refine (open_yes (h.ext M1.ext) hok).mono ?_
  rintro v w2 ⟨g,rfl,hg,hw,he⟩
  have M2:=M1.grow he
  obtain ⟨n,rfl⟩:=Int.eq_ofNat_of_zero_le hok.lo
  have:=hok.hi
  refine (components_spec hw (by omega)).mono ?_
  rintro v w3 ⟨hl,he3⟩
  rw [compsV,if_pos hv]
  exact ⟨hl.base M2.ext.size,M2.ext.trans he3⟩
 ·refine (open_no (h.ext M1.ext) hv).mono ?_
  rintro v w2 ⟨rfl,he⟩
  rw [compsV,if_neg hv]
  exact ⟨lists_nil _ _,(M1.grow he).ext⟩
end Go.Proofs.YtigapannpbaihaaGreat.Rk
namespace Go.Proofs.YtigapannpbaihaaGreat.Rk
open Go.Eng Go.RowKit
def prCells (l:List (Int × Int)):List Value:=l.flatMap fun p => [.int .i64 p.1,.int .i64 p.2]
theorem prCells_length (l:List (Int × Int)):(prCells l).length = l.length * 2:=by
 induction l with
 | nil => rfl
 | cons x l ih => show (_ ++ prCells l).length = _; simp [ih]; omega
def rowTo (hs:Nat -> Nat -> Bool) (a b:Nat):List (Int × Int):=((List.range' (a + 1) (b - (a + 1))).filter (hs a)).map fun (k:Nat) => ((a:Int),(k:Int))
def pairsTo (n:Nat) (hs:Nat -> Nat -> Bool) (a:Nat):List (Int × Int):=(List.range a).flatMap fun k => rowTo hs k n
def pairsL (n:Nat) (hs:Nat -> Nat -> Bool):List (Int × Int):=pairsTo n hs n
theorem rowTo_succ {hs:Nat -> Nat -> Bool} {a b:Nat} (h:a + 1 <= b):rowTo hs a (b + 1) = if hs a b then rowTo hs a b ++ [((a:Int),(b:Int))] else rowTo hs a b:=by
 unfold rowTo
 rw [show b + 1 - (a + 1) = (b - (a + 1)) + 1 by omega,List.range'_concat,List.filter_append,List.map_append]
 rw [show a + 1 + 1 * (b - (a + 1)) = b by omega]
 by_cases hb:hs a b = true <;> simp [hb]
theorem pairsTo_succ (n:Nat) (hs:Nat -> Nat -> Bool) (a:Nat):pairsTo n hs (a + 1) = pairsTo n hs a ++ rowTo hs a n:=by
 unfold pairsTo; rw [List.range_succ,List.flatMap_append]; simp
end Go.Proofs.YtigapannpbaihaaGreat.Rk
namespace Go.Proofs.YtigapannpbaihaaGreat.Rk
open Go.Eng Go.RowKit
theorem compsF_props {n:Nat} {R:Nat -> Nat -> Bool} (hn:n <= 24):∀ (m:Nat) (D:Nat -> Bool),(compsF n R m D).length <= m ∧ ∀ l ∈ compsF n R m D,∃ a < n,l = members (compS n R a)
 | 0,D => ⟨by simp [compsF],fun l h => by simp [compsF] at h⟩
 | m + 1,D => by
  rw [compsF]
  cases hf:(List.range n).find? fun a => !(D a || precS n R a (compS n R a) D) with
  | none => exact ⟨by simp,fun l h => by simp at h⟩
  | some a =>
   have ih:=compsF_props (R:=R) hn m (orS D (compS n R a))
   refine ⟨by simpa using ih.1,fun l hl => ?_⟩
   rcases List.mem_cons.1 hl with rfl | hl
   ·exact ⟨a,List.mem_range.1 (List.mem_of_find?_eq_some hf),rfl⟩
   ·exact ih.2 l hl
theorem members_ne {S:Nat -> Bool} {a:Nat} (ha:a < 24) (h:S a = true):members S ≠ []:=by
 obtain ⟨i,hi,_⟩:=members_mem ha h
 intro e
 rw [e] at hi
 simp at hi
theorem compsL_props {n:Nat} {R:Nat -> Nat -> Bool} (hn:n <= 24):(compsL n R).length <= 24 ∧ (∀ l ∈ compsL n R,l.length <= 24) ∧ ∀ l ∈ compsL n R,l ≠ []:=by
 have h:=compsF_props (R:=R) hn 24 fun _ => false
 refine ⟨h.1,fun l hl => ?_,fun l hl => ?_⟩
 ·obtain ⟨a,_,rfl⟩:=h.2 l hl
  exact membersTo_length _ 24
 ·obtain ⟨a,ha,rfl⟩:=h.2 l hl
  exact members_ne (by omega) (comp_refl ha)
theorem compsV_props {N:Int} {xs:List Arrow}:(compsV N xs).length <= 24 ∧ (∀ l ∈ compsV N xs,l.length <= 24) ∧ ∀ l ∈ compsV N xs,l ≠ []:=by
 unfold compsV
 split
 ·rename_i h
  have hok:=valid_of_chk h
  have:=hok.hi
  exact compsL_props (by omega)
 ·exact ⟨by simp,fun l h => by simp at h,fun l h => by simp at h⟩
end Go.Proofs.YtigapannpbaihaaGreat.Rk
namespace Go.Proofs.YtigapannpbaihaaGreat.Rk
open Go.Eng Go.RowKit
open Go.Maps (Keyed)
def prVal (p:Int × Int):Value:=.agg #[.int .i64 p.1,.int .i64 p.2]
theorem laidOut:laidOutB Tryz.prog = true:=by kernel_rfl
theorem row58:(128:TypeId) < Tryz.prog.types.size:=of_decide_eq_true (by kernel_rfl)
theorem key58:Tryz.prog.keyTypeAt 2 128 = true:=by kernel_rfl
theorem keyT58:Tryz.prog.keyType 128 = true:=by kernel_rfl
theorem cells58:Tryz.prog.cellsOf 128 = 2:=by kernel_rfl
theorem cells3:Tryz.prog.cellsOf 3 = 1:=by kernel_rfl
theorem under3:Tryz.prog.underlying 3 = some (.int .i64):=by kernel_rfl
theorem u58:Tryz.prog.underlying 128 = some (.struct #[⟨ "A",3,0,false, "", "",0⟩,⟨ "B",3,1,false, "", "",8⟩]):=by kernel_rfl
theorem pairK:Keyed C.P 128:=Keyed.of_law (deep_law_laid laidOut (m:=2) (by omega) row58 key58 (by rw [u58]))
theorem wf64 {a:Int} (h:In64 a):(Lit.int .i64 a).wf = true:=by
 simp [Lit.wf,IntKind.min,IntKind.max,IntKind.bits,IntKind.signed]
 omega
theorem succ_of_lt {k n:Nat} (h:k < n):∃ m,n = m + 1:=⟨n - 1,by omega⟩
theorem pairKey {p:Int × Int} (h1:In64 p.1) (h2:In64 p.2):keyOf C.P 128 (prVal p) = some (.string (keyBytes [.int .i64 p.1,.int .i64 p.2])):=by
 show keyOf Tryz.prog 128 _ = _
 have w1:=wf64 h1
 have w2:=wf64 h2
 obtain ⟨m,hm⟩:∃ m,Tryz.prog.types.size = m + 1:=succ_of_lt row58
 have hk:Tryz.prog.keyLits (m + 2) 128 [.int .i64 p.1,.int .i64 p.2] = some [.int .i64 p.1,.int .i64 p.2]:=by
  simp [Program.keyLits,cells58,cells3,w1,w2]
 simp [keyOf,keyT58,prVal,Value.formed,cells58,Value.cells,hm,hk]
noncomputable def goneV (ps:List (Int × Int)):Value -> Option Value:=ps.foldl (fun f p => updV f (prVal p) (.bool true)) fun _ => none
theorem goneV_snoc (ps:List (Int × Int)) (p:Int × Int):goneV (ps ++ [p]) = updV (goneV ps) (prVal p) (.bool true):=by simp [goneV]
theorem prVal_inj {p q:Int × Int} (h:prVal p = prVal q):p = q:=by
 obtain ⟨a,b⟩:=p
 obtain ⟨c,d⟩:=q
 simp [prVal] at h
 obtain ⟨rfl,rfl⟩:=h
 rfl
theorem goneV_get (ps:List (Int × Int)) (q:Int × Int):goneV ps (prVal q) = if q ∈ ps then some (.bool true) else none:=by
 suffices h:∀ (l:List (Int × Int)) (f:Value -> Option Value),(l.foldl (fun f p => updV f (prVal p) (.bool true)) f) (prVal q) = if q ∈ l then some (.bool true) else f (prVal q) from h ps _
 intro l
 induction l with
 | nil => intro f; simp
 | cons p l ih =>
  intro f
  rw [List.foldl_cons,ih]
  by_cases h1:q ∈ l
  ·simp [h1]
  ·by_cases h2:q = p
   ·subst h2; simp [h1,updV]
   ·simp [h1,h2,updV]
    intro h3
    exact absurd (prVal_inj h3) h2
def waiveL (xs:List Arrow) (ps:List (Int × Int)):List Arrow:=xs.filter fun x => !decide ((x.fr,x.to) ∈ ps)
theorem waiveL_take {xs:List Arrow} {ps:List (Int × Int)} {i:Nat} (hi:i < xs.length):waiveL (xs.take (i + 1)) ps = if (xs[i].fr,xs[i].to) ∈ ps then waiveL (xs.take i) ps else waiveL (xs.take i) ps ++ [xs[i]]:=by
 unfold waiveL
 rw [List.take_succ_eq_append_getElem hi,List.filter_append]
 by_cases h:(xs[i].fr,xs[i].to) ∈ ps <;> simp [h]
theorem waiveL_length (xs:List Arrow) (ps:List (Int × Int)):(waiveL xs ps).length <= xs.length:=List.length_filter_le _ _
theorem prCells_get {ps:List (Int × Int)} {i:Nat} (hi:i < ps.length) (j:Nat) (v:Value) (h:([.int .i64 ps[i].1,.int .i64 ps[i].2]:List Value)[j]? = some v):(prCells ps)[i * 2 + j]? = some v:=by
 induction ps generalizing i with
 | nil => simp at hi
 | cons x xs ih =>
  have hj:j < 2:=by
   have:=(List.getElem?_eq_some_iff.1 h).1
   simpa using this
  cases i with
  | zero =>
   simp only [Nat.zero_mul,Nat.zero_add]
   show ([.int .i64 x.1,.int .i64 x.2] ++ prCells xs)[j]? = _
   rw [List.getElem?_append_left (by simpa using hj)]
   exact h
  | succ i =>
   show ([.int .i64 x.1,.int .i64 x.2] ++ prCells xs)[(i + 1) * 2 + j]? = _
   rw [List.getElem?_append_right (by simp; omega)]
   have:(i + 1) * 2 + j - [Value.int .i64 x.1,.int .i64 x.2].length = i * 2 + j:=by simp; omega
   rw [this]
   exact ih (by simpa using hi) (by simpa using h)
theorem Reads.pair {w:World} {A:Option Addr} {ps:List (Int × Int)} (h:Reads w A (prCells ps)) {i:Nat} (hi:i < ps.length):∃ b o,A = some ⟨b,o,none⟩ ∧ Rd w b (o + i * 2) [.int .i64 ps[i].1,.int .i64 ps[i].2]:=by
 rcases h with h | ⟨b,o,hA,hr⟩
 ·have:=congrArg List.length h
  rw [prCells_length] at this
  have:ps.length * 2 = 0:=this
  omega
 ·refine ⟨b,o,hA,fun j v hv => ?_⟩
  have:=hr _ _ (prCells_get hi j v hv)
  rwa [<-Nat.add_assoc] at this
theorem own_ne {w:World} {base e size n g:Nat} {v:Value} {xs:List Value} {o:Obj} (h:w.ownsRow base e size v n xs) (hg:w.heap[g]? = some o) (ho:∀ c fr,o ≠ .cells c e fr):some g ≠ v.ownBlock:=by
 intro e
 obtain ⟨_,hv | ⟨g',cap,cur,hv,_,hg',_⟩⟩:=h
 ·rw [hv.1] at e; cases e
 ·rw [hv] at e
  have e:g = g':=by simpa [Value.ownBlock] using e
  subst e
  rw [hg] at hg'
  exact ho _ _ (Option.some.inj hg')
theorem arrows_append (xs ys:List Arrow):arrows (xs ++ ys) = arrows xs ++ arrows ys:=by simp [arrows]
theorem waive_spec {N:Int} {A B:Option Addr} {xs:List Arrow} {c d:Nat} {ps:List (Int × Int)} {w:World} (h:HRel w N A xs c) (hx:xs.length <= 2 ^ 40) (hp:∀ p ∈ ps,In64 p.1 ∧ In64 p.2) (hr:Reads w B (prCells ps)) (hpl:ps.length <= 2 ^ 44) :
  CallsV C.P 25 #[relVal N A xs.length c,.slice B ps.length d] w fun v w' => (∃ A' c',v = relVal N A' (waiveL xs ps).length c' ∧ w'.ownsRow w.heap.size 189 4 (.slice A' (waiveL xs ps).length c') (waiveL xs ps).length (arrows (waiveL xs ps))) ∧ Ext w w':=by
 refine callsV_of C_ok (args:=[_,_]) (plans:=[]) Tryz.func25 rfl Tryz.ntmps25 (by kernel_rfl) (Nat.le_of_ble_eq_true rfl) ?_
 intro g2 w1 h1
 intro g4 w2 h2
 intro gm w3 h3
 have M3:=(((Mem.start w).alloc h1).alloc h2).alloc h3
 refine loopE C_ok (fun (i:Nat) => [(2,.pointer (some ⟨g2,0,none⟩)),(4,.pointer (some ⟨g4,0,none⟩)),(5,.map (some gm)),(12,.slice B ps.length d),(13,.int .i64 ps.length),(14,.int .i64 i)])
  (fun i w' => i <= ps.length ∧ (∃ om,Mem w w' [(gm,om),(g4,.cells #[.int .i64 0,.slice none 0 0] 36 (0,0)),(g2,.cells #[.int .i64 N,.slice A xs.length c] 36 (0,0))]) ∧ MapIs C.P 128 w' gm (goneV (ps.take i)))
  (fun i => ps.length - i) 0 ⟨rfl,rfl,rfl,rfl,rfl,rfl,trivial⟩ ⟨Nat.zero_le _,⟨_,M3⟩,MapIs.empty h3.here⟩ ?_
 rintro i w4 ⟨hi,⟨om,M4⟩,hmap⟩
 refine brE_dec (fun hlt => ?_) (fun hge => ?_)
 ·have hlt:i < ps.length:=by omega
  obtain ⟨b,o,hA,hrd⟩:=Reads.pair (hr.ext M4.ext) hlt
  refine ⟨i,b,o,rfl,hlt,hA,?_⟩
  refine ⟨[.int .i64 ps[i].1,.int .i64 ps[i].2],rfl,hrd,?_⟩
  intro g7 w5 h5
  have M5:=M4.alloc h5
  refine ⟨rfl,_,_,M5.get 0 rfl,Nat.le_of_ble_eq_true rfl,rfl,?_⟩
  intro w6 h6
  have M6:=M5.put 0 rfl h6
  refine ⟨[.int .i64 ps[i].1,.int .i64 ps[i].2],rfl,Rd.of_block h6.here,?_⟩
  have hpi:=hp ps[i] (List.getElem_mem _)
  have hmap6:MapIs C.P 128 w6 gm (goneV (ps.take i)):=(hmap.ext h5.ext).put h6 (by
   have:=M4.lt (g:=gm) (o:=om) (by simp)
   rw [h5.new]; omega)
  refine mapPut C_ok rfl rfl (x:=prVal ps[i]) rfl rfl rfl rfl pairK (pairKey hpi.1 hpi.2) hmap6 ?_
  intro o' w7 h7 hmap7
  have M7:=(M6.put 1 rfl h7).tail
  refine ⟨((i + 1:Nat):Int),fit ⟨by omega,by omega⟩,?_⟩
  refine ⟨i + 1,⟨rfl,rfl,rfl,rfl,rfl,rfl,trivial⟩,⟨hlt,⟨_,M7⟩,?_⟩,by omega⟩
  rw [List.take_succ_eq_append_getElem hlt,goneV_snoc]
  exact hmap7
 ·have:i = ps.length:=by omega
  subst this
  rw [List.take_length] at hmap
  refine ⟨_,M4.cell 2 rfl rfl,?_⟩
  intro g8 w5 h5
  have M5:=M4.alloc h5
  refine ⟨rfl,_,_,M5.get 0 rfl,Nat.le_of_ble_eq_true rfl,rfl,?_⟩
  intro w6 h6
  have M6:Mem w w6 [(g8,.cells #[.int .i64 N,.slice none 0 0] 36 (0,0)),(gm,om),(g4,.cells #[.int .i64 0,.slice none 0 0] 36 (0,0)),(g2,.cells #[.int .i64 N,.slice A xs.length c] 36 (0,0))]:=M5.put 0 rfl h6
  have hmap6:MapIs C.P 128 w6 gm (goneV ps):=(hmap.ext h5.ext).put h6 (by
   have:=M4.lt (g:=gm) (o:=om) (by simp)
   rw [h5.new]; omega)
  refine ⟨_,M6.cell 3 rfl rfl,?_⟩
  refine loopE C_ok (fun (s:Nat × Value) => [(4,.pointer (some ⟨g4,0,none⟩)),(5,.map (some gm)),(8,.pointer (some ⟨g8,0,none⟩)),(25,.slice A xs.length c),(26,.int .i64 xs.length),(27,.int .i64 s.1)])
   (fun s w' => s.1 <= xs.length ∧ Mem w w' [(g8,.cells #[.int .i64 N,s.2] 36 (0,0)),(gm,om),(g4,.cells #[.int .i64 0,.slice none 0 0] 36 (0,0))] ∧ MapIs C.P 128 w' gm (goneV ps) ∧
    w'.ownsRow w.heap.size 189 4 s.2 (waiveL (xs.take s.1) ps).length (arrows (waiveL (xs.take s.1) ps)))
   (fun s => xs.length - s.1) (0,.slice none 0 0) ⟨rfl,rfl,rfl,rfl,rfl,rfl,trivial⟩
   ⟨Nat.zero_le _,M6.sub (List.Sublist.cons_cons _ (List.Sublist.cons_cons _ (List.Sublist.cons_cons _ (List.nil_sublist _)))),hmap6,World.ownsRow_nil _ _ _ _⟩ ?_
  rintro ⟨i,v⟩ w7 ⟨hi,M7,hmap7,ho7⟩
  have hi:i <= xs.length:=hi
  have M7:Mem w w7 [(g8,.cells #[.int .i64 N,v] 36 (0,0)),(gm,om),(g4,.cells #[.int .i64 0,.slice none 0 0] 36 (0,0))]:=M7
  have ho7:w7.ownsRow w.heap.size 189 4 v (waiveL (xs.take i) ps).length (arrows (waiveL (xs.take i) ps)):=ho7
  refine brE_dec (fun hlt => ?_) (fun hge => ?_)
  ·have hlt:i < xs.length:=by have:(i:Int) < xs.length:=hlt; omega
   obtain ⟨b,o,hA,hrd⟩:=Reads.arrow h.reads hlt
   refine ⟨i,b,o,rfl,hlt,hA,?_⟩
   refine ⟨xs[i].cells,rfl,M7.oldRd hrd,?_⟩
   intro g10 w8 h8
   have M8:=M7.alloc h8
   refine ⟨rfl,_,_,M8.get 0 rfl,Nat.le_of_ble_eq_true rfl,rfl,?_⟩
   intro w9 h9
   have M9:Mem w w9 [(g10,.cells xs[i].cells.toArray 189 (0,0)),(g8,.cells #[.int .i64 N,v] 36 (0,0)),(gm,om),(g4,.cells #[.int .i64 0,.slice none 0 0] 36 (0,0))]:=M8.put 0 rfl h9
   have hgm8:=M7.lt (g:=gm) (o:=om) (by simp)
   have hmap9:MapIs C.P 128 w9 gm (goneV ps):=(hmap7.ext h8.ext).put h9 (by rw [h8.new]; omega)
   have hne10:v.ownBlock ≠ some g10:=by
    intro e
    have:=(ho7.lt g10 e).2
    rw [h8.new] at this
    exact Nat.lt_irrefl _ this
   have ho9:w9.ownsRow w.heap.size 189 4 v (waiveL (xs.take i) ps).length (arrows (waiveL (xs.take i) ps)):=ownsRow_put (ownsRow_ext ho7 h8.ext) h9 hne10
   refine ⟨_,M9.cell 0 rfl rfl,?_⟩
   refine ⟨_,M9.cell 0 rfl rfl,?_⟩
   have hnum:=h.nums xs[i] (List.getElem_mem _)
   have hget:(goneV ps (prVal (xs[i].fr,xs[i].to))).getD (.bool false) = .bool (decide ((xs[i].fr,xs[i].to) ∈ ps)):=by
    rw [goneV_get]
    by_cases hm:(xs[i].fr,xs[i].to) ∈ ps <;> simp [hm]
   have htake:=waiveL_take (ps:=ps) hlt
   have next:IntKind.i64.wrap ((i:Int) + 1) = ((i + 1:Nat):Int):=fit ⟨by omega,by omega⟩
   have hwl:=waiveL_length (xs.take i) ps
   have htl:(xs.take i).length <= i:=by simp; omega
   refine ⟨.bool (decide ((xs[i].fr,xs[i].to) ∈ ps)),mapGet1 C_ok (te:=ty4) (x:=prVal (xs[i].fr,xs[i].to)) (pairKey hnum.1 hnum.2.1) hmap9 pairK rfl rfl rfl rfl rfl rfl hget,?_⟩
   refine brE_mk (fun hb => ?_) (fun hb => ?_)
   ·have hnm:(xs[i].fr,xs[i].to) ∉ ps:=by simpa using hb
    rw [if_neg hnm] at htake
    refine ⟨_,M9.cell 1 rfl rfl,?_⟩
    refine ⟨xs[i].cells,rfl,M9.rd 0 rfl,?_⟩
    intro g11 w10 h10
    have M10:=M9.alloc h10
    have ho10:=ownsRow_ext ho9 h10.ext
    refine ⟨rfl,rfl,rfl,w.heap.size,_,_,xs[i].cells,ho10,M10.ext.size,Nat.le_of_ble_eq_true rfl,rfl,rfl,.inr ⟨g11,0,rfl,Rd.of_block h10.here⟩,rfl,rfl,by omega,by simp only [maxLen]; omega,?_⟩
    intro v11 w11 ho11 hg11 _
    have M11:Mem w w11 [(g8,.cells #[.int .i64 N,v] 36 (0,0)),(gm,om),(g4,.cells #[.int .i64 0,.slice none 0 0] 36 (0,0))]:=by
     refine M10.tail.tail.grown hg11 (fun k hk => (ho10.lt k hk).1) ?_
     intro p hp
     simp only [List.tail_cons,List.mem_cons,List.not_mem_nil,or_false] at hp
     rcases hp with rfl | rfl | rfl
     ·exact own_ne ho10 (M10.get 2 rfl) (fun c fr e => by cases e)
     ·obtain ⟨es,clk,hb,_⟩:=hmap9.ext h10.ext
      exact own_ne ho10 hb (fun c fr e => by cases e)
     ·exact own_ne ho10 (M10.get 4 rfl) (fun c fr e => by cases e)
    have hmap11:MapIs C.P 128 w11 gm (goneV ps):=by
     obtain ⟨es,clk,hb,_⟩:=hmap9.ext h10.ext
     exact (hmap9.ext h10.ext).same (hg11.block gm (lt_of_heap hb) (own_ne ho10 hb (fun c fr e => by cases e)))
    obtain ⟨A11,c11,rfl,_,_⟩:=reads_of_owns ho11
    refine ⟨rfl,_,_,M11.get 0 rfl,Nat.le_of_ble_eq_true rfl,rfl,?_⟩
    intro w12 h12
    have M12:=M11.put 0 rfl h12
    refine ⟨_,next,?_⟩
    refine ⟨(i + 1,_),⟨rfl,rfl,rfl,rfl,rfl,rfl,trivial⟩,⟨hlt,M12,hmap11.put h12 (by
     have h5:=M11.nodup
     simp at h5
     exact fun e => h5.1.1 e.symm),?_⟩,by show xs.length - (i + 1) < xs.length - i; omega⟩
    show w12.ownsRow _ _ _ _ (waiveL (xs.take (i + 1)) ps).length (arrows (waiveL (xs.take (i + 1)) ps))
    rw [htake,List.length_append,arrows_append]
    exact ownsRow_put ho11 h12 (fun e => own_ne ho11 (M11.get 0 rfl) (fun c fr e => by cases e) e.symm)
   ·have hm:(xs[i].fr,xs[i].to) ∈ ps:=by simpa using hb
    rw [if_pos hm] at htake
    refine ⟨_,next,?_⟩
    refine ⟨(i + 1,v),⟨rfl,rfl,rfl,rfl,rfl,rfl,trivial⟩,⟨hlt,M9.tail,hmap9,?_⟩,by show xs.length - (i + 1) < xs.length - i; omega⟩
    show w9.ownsRow _ _ _ _ (waiveL (xs.take (i + 1)) ps).length (arrows (waiveL (xs.take (i + 1)) ps))
    rw [htake]
    exact ho9
  ·have:i = xs.length:=by have:¬ (i:Int) < xs.length:=hge; omega
   subst this
   rw [List.take_length] at ho7
   obtain ⟨A8,c8,rfl,_,_⟩:=reads_of_owns ho7
   refine ⟨[.int .i64 N,.slice A8 (waiveL xs ps).length c8],rfl,M7.rd 0 rfl,?_⟩
   refine ⟨rfl,_,_,M7.get 2 rfl,Nat.le_of_ble_eq_true rfl,rfl,?_⟩
   intro w8 h8
   have M8:=M7.put 2 rfl h8
   refine ⟨[.int .i64 N,.slice A8 (waiveL xs ps).length c8],rfl,M8.rd 2 rfl,?_⟩
   refine ⟨⟨A8,c8,rfl,?_⟩,M8.ext⟩
   exact ownsRow_put ho7 h8 (fun e => own_ne ho7 (M7.get 2 rfl) (fun c fr e => by cases e) e.symm)
end Go.Proofs.YtigapannpbaihaaGreat.Rk
namespace Go.Proofs.YtigapannpbaihaaGreat.Rk
open Go.Eng Go.RowKit
def NewRel (B:Nat) (w:World) (v:Value) (N:Int) (xs:List Arrow):Prop:=∃ A c,v = relVal N A xs.length c ∧ w.ownsRow B 189 4 (.slice A xs.length c) xs.length (arrows xs)
theorem newRel_zero (B:Nat) (w:World):NewRel B w (.agg #[.int .i64 0,.slice none 0 0]) 0 []:=⟨none,0,rfl,World.ownsRow_nil _ _ _ _⟩
theorem NewRel.hrel {B:Nat} {w:World} {v:Value} {N:Int} {xs:List Arrow} (h:NewRel B w v N xs) (hN:In64 N) (hx:∀ x ∈ xs,In64 x.fr ∧ In64 x.to ∧ In64 x.rule ∧ In64 x.wt) (hl:xs.length <= 9223372036854775807):∃ A c,v = relVal N A xs.length c ∧ HRel w N A xs c:=by
 obtain ⟨A,c,rfl,ho⟩:=h
 obtain ⟨A',c',e,hr,hc⟩:=reads_of_owns ho
 cases e
 exact ⟨A,c,rfl,hN,hx,hr,hc,hl⟩
end Go.Proofs.YtigapannpbaihaaGreat.Rk
namespace Go.Proofs.YtigapannpbaihaaGreat.Rk
open Go.Eng Go.RowKit
end Go.Proofs.YtigapannpbaihaaGreat.Rk
namespace Go.Proofs.YtigapannpbaihaaGreat.Rk
open Go.Eng Go.RowKit
theorem under4:Tryz.prog.underlying 4 = some .bool:=by kernel_rfl
theorem eqFields_run {P:Program} {w:World} {d:Nat} {xs ys:Array Value} {f:Field -> Bool}:∀ {fs:List Field},(∀ x ∈ fs,x.name ≠ "_" ∧ ∃ u v,(part x.type xs x.offset).run P w = .ok u w ∧ (part x.type ys x.offset).run P w = .ok v w ∧ (Op.equalIn d x.type u v).run P w = .ok (f x) w) →
  (Op.eqFields d xs ys fs).run P w = .ok (fs.all f) w
 | [],_ => by simp [Op.eqFields]
 | x :: r,h => by
  obtain ⟨hn,u,v,h1,h2,h3⟩:=h x (by simp)
  rw [Op.eqFields,if_pos hn]
  simp only [Sem.run_bind,h1,h2,h3,Result.andThen_ok,List.all_cons]
  cases hf:f x with
  | false => simp
  | true => simpa using eqFields_run fun y hy => h y (by simp [hy])
end Go.Proofs.YtigapannpbaihaaGreat.Rk
namespace Go.Proofs.YtigapannpbaihaaGreat.Rk
open Go.Eng Go.RowKit
theorem reads_block {w:World} {g t:Nat} {cs:List Value} (h:w.heap[g]? = some (.cells cs.toArray t (0,0))):Reads w (some ⟨g,0,none⟩) cs:=.inr ⟨g,0,rfl,Rd.of_block h⟩
end Go.Proofs.YtigapannpbaihaaGreat.Rk
namespace Go.Proofs.YtigapannpbaihaaGreat.Rk
open Go.Eng Go.RowKit
end Go.Proofs.YtigapannpbaihaaGreat.Rk
namespace Go.Proofs.YtigapannpbaihaaGreat.Rk
open Go.Eng Go.RowKit
end Go.Proofs.YtigapannpbaihaaGreat.Rk
namespace Go.Proofs.YtigapannpbaihaaGreat.Rk
open Go.Eng Go.RowKit
structure Pre (n:Nat) (R:Nat -> Nat -> Bool):Prop where
 le:n <= 24
 trans:∀ a b c,R a b = true -> R b c = true -> R a c = true
 inside:∀ a b,R a b = true -> a < n ∧ b < n
theorem path_inside {n:Nat} {T:Nat -> Nat -> Bool} (hT:Inside n T) {a b:Nat} (h:Path T a b):a < n ∧ b < n:=by
 induction h with
 | one h => exact hT _ _ h
 | step _ h ih => exact ⟨ih.1,(hT _ _ h).2⟩
theorem pre_reach {n:Nat} {T:Nat -> Nat -> Bool} (hn:n <= 24) (hT:Inside n T):Pre n (reach T) :=
 ⟨hn,fun _ _ _ h k => reach_iff.2 ((reach_iff.1 h).trans (reach_iff.1 k)),fun _ _ h => path_inside hT (reach_iff.1 h)⟩
theorem mem_members {S:Nat -> Bool} {x:Int}:x ∈ members S <-> ∃ k:Nat,x = (k:Int) ∧ k < 24 ∧ S k = true:=by
 constructor
 ·intro h
  obtain ⟨k,hk,rfl⟩:=List.mem_map.1 h
  obtain ⟨h1,h2⟩:=List.mem_filter.1 hk
  exact ⟨k,rfl,List.mem_range.1 h1,h2⟩
 ·rintro ⟨k,rfl,h1,h2⟩
  exact List.mem_map.2 ⟨k,List.mem_filter.2 ⟨List.mem_range.2 h1,h2⟩,rfl⟩
theorem standR_three {R:Nat -> Nat -> Bool} {a b:Nat}:standR R a b = 3 <-> a ≠ b ∧ R a b = true ∧ R b a = true:=by
 unfold standR
 by_cases h:a = b
 ·simp [h]
 ·cases R a b <;> cases R b a <;> simp [h]
theorem compS_iff {n:Nat} {R:Nat -> Nat -> Bool} {a b:Nat}:compS n R a b = true <-> b < n ∧ (a = b ∨ (R a b = true ∧ R b a = true)):=by
 unfold compS
 simp only [Bool.and_eq_true,Bool.or_eq_true,decide_eq_true_eq,standR_three]
 constructor
 ·rintro ⟨h1,h2 | ⟨_,h3⟩⟩
  ·exact ⟨h1,.inl h2⟩
  ·exact ⟨h1,.inr h3⟩
 ·rintro ⟨h1,h2 | h3⟩
  ·exact ⟨h1,.inl h2⟩
  ·by_cases h:a = b
   ·exact ⟨h1,.inl h⟩
   ·exact ⟨h1,.inr ⟨h,h3⟩⟩
section
variable {n:Nat} {R:Nat -> Nat -> Bool}
theorem Pre.comp_trans (P:Pre n R) {a b c:Nat} (h:compS n R a b = true) (k:compS n R b c = true):compS n R a c = true:=by
 rw [compS_iff] at *
 refine ⟨k.1,?_⟩
 rcases h.2 with rfl | ⟨h1,h2⟩
 ·exact k.2
 ·rcases k.2 with rfl | ⟨k1,k2⟩
  ·exact .inr ⟨h1,h2⟩
  ·exact .inr ⟨P.trans _ _ _ h1 k1,P.trans _ _ _ k2 h2⟩
theorem comp_symm {a b:Nat} (ha:a < n) (h:compS n R a b = true):compS n R b a = true:=by
 rw [compS_iff] at *
 refine ⟨ha,?_⟩
 rcases h.2 with rfl | ⟨h1,h2⟩
 ·exact .inl rfl
 ·exact .inr ⟨h2,h1⟩
def ClosedC (n:Nat) (R:Nat -> Nat -> Bool) (D:Nat -> Bool):Prop:=∀ a b,a < n -> D a = true -> compS n R a b = true -> D b = true
theorem Pre.closed_or (P:Pre n R) {D:Nat -> Bool} (h:ClosedC n R D) {a:Nat}:ClosedC n R (orS D (compS n R a)):=by
 intro c b hc hD hcb
 simp only [orS,Bool.or_eq_true] at hD ⊢
 rcases hD with hD | hD
 ·exact .inl (h c b hc hD hcb)
 ·exact .inr (P.comp_trans hD hcb)
theorem prec_false {a:Nat} {own D:Nat -> Bool} (h:precS n R a own D = false) {b:Nat} (hb:b < n) (ho:own b = false) (hD:D b = false):R b a = false:=by
 unfold precS at h
 rw [List.any_eq_false] at h
 have:=h b (List.mem_range.2 hb)
 rw [ho,hD] at this
 simpa using this
def Behind (R:Nat -> Nat -> Bool) (l l':List Int):Prop:=∀ x ∈ l,∀ y ∈ l',∃ a b:Nat,x = (a:Int) ∧ y = (b:Int) ∧ a ≠ b ∧ R b a = false
theorem Pre.comps_from (P:Pre n R):∀ (m:Nat) (D:Nat -> Bool),ClosedC n R D -> ∀ l ∈ compsF n R m D,∃ a < n,l = members (compS n R a) ∧ D a = false
 | 0,_,_,l,h => by simp [compsF] at h
 | m + 1,D,hD,l,h => by
  rw [compsF] at h
  cases hf:(List.range n).find? fun a => !(D a || precS n R a (compS n R a) D) with
  | none => rw [hf] at h; simp at h
  | some a =>
   rw [hf] at h
   have hp:=List.find?_some hf
   simp only [Bool.not_eq_true',Bool.or_eq_false_iff] at hp
   have ha:=List.mem_range.1 (List.mem_of_find?_eq_some hf)
   rcases List.mem_cons.1 h with rfl | h
   ·exact ⟨a,ha,rfl,hp.1⟩
   ·obtain ⟨b,hb,e,hDb⟩:=P.comps_from m _ (P.closed_or hD) l h
    simp only [orS,Bool.or_eq_false_iff] at hDb
    exact ⟨b,hb,e,hDb.1⟩
theorem Pre.comps_order (P:Pre n R):∀ (m:Nat) (D:Nat -> Bool),ClosedC n R D -> (compsF n R m D).Pairwise (Behind R)
 | 0,_,_ => by simp [compsF]
 | m + 1,D,hD => by
  rw [compsF]
  cases hf:(List.range n).find? fun a => !(D a || precS n R a (compS n R a) D) with
  | none => simp
  | some a =>
   have hp:=List.find?_some hf
   simp only [Bool.not_eq_true',Bool.or_eq_false_iff] at hp
   have ha:=List.mem_range.1 (List.mem_of_find?_eq_some hf)
   refine List.pairwise_cons.2 ⟨fun l' hl' => ?_,P.comps_order m _ (P.closed_or hD)⟩
   obtain ⟨b,hb,rfl,hDb⟩:=P.comps_from m _ (P.closed_or hD) l' hl'
   intro x hx y hy
   obtain ⟨i,rfl,hi24,hi⟩:=mem_members.1 hx
   obtain ⟨j,rfl,hj24,hj⟩:=mem_members.1 hy
   have hjn:j < n:=(compS_iff.1 hj).1
   have hin:i < n:=(compS_iff.1 hi).1
   have hDj:orS D (compS n R a) j = false:=by
    cases h:orS D (compS n R a) j with
    | false => rfl
    | true =>
     have:=P.closed_or hD j b hjn h (comp_symm hb hj)
     rw [hDb] at this; cases this
   simp only [orS,Bool.or_eq_false_iff] at hDj
   refine ⟨i,j,rfl,rfl,?_,?_⟩
   ·intro e
    subst e
    rw [hi] at hDj; cases hDj.2
   ·cases h:R j i with
    | false => rfl
    | true =>
     have hja:R j a = true:=by
      rcases (compS_iff.1 hi).2 with rfl | ⟨_,h2⟩
      ·exact h
      ·exact P.trans _ _ _ h h2
     rw [prec_false hp.2 hjn hDj.2 hDj.1] at hja; cases hja
def left (n:Nat) (D:Nat -> Bool):Nat:=((List.range n).filter fun k => !D k).length
theorem Pre.first (P:Pre n R) (D:Nat -> Bool):∀ (c a:Nat),((List.range n).filter fun b => !D b && (R b a && !R a b)).length <= c -> a < n -> D a = false -> ∃ b < n,D b = false ∧ precS n R b (compS n R b) D = false
 | c,a,hc,ha,hD => by
  by_cases hp:precS n R a (compS n R a) D = true
  ·unfold precS at hp
   obtain ⟨b,hb,h⟩:=List.any_eq_true.1 hp
   simp only [Bool.and_eq_true,Bool.not_eq_true'] at h
   obtain ⟨⟨hown,hDb⟩,hba⟩:=h
   have hbn:=List.mem_range.1 hb
   have hab:R a b = false:=by
    cases h:R a b with
    | false => rfl
    | true =>
     have:compS n R a b = true:=compS_iff.2 ⟨hbn,.inr ⟨h,hba⟩⟩
     rw [this] at hown; cases hown
   have hlt:((List.range n).filter fun k => !D k && (R k b && !R b k)).length < ((List.range n).filter fun k => !D k && (R k a && !R a k)).length:=by
    refine filter_lt _ (fun k hk => ?_) hb ?_ ?_
    ·simp only [Bool.and_eq_true,Bool.not_eq_true'] at hk ⊢
     obtain ⟨h1,h2,h3⟩:=hk
     refine ⟨h1,P.trans _ _ _ h2 hba,?_⟩
     cases h:R a k with
     | false => rfl
     | true => rw [P.trans _ _ _ hba h] at h3; cases h3
    ·cases R b b <;> simp
    ·rw [hDb,hba,hab]; rfl
   match c,hc with
   | 0,hc => omega
   | c + 1,hc => exact P.first D c b (by omega) hbn hDb
  ·exact ⟨a,ha,hD,by simpa using hp⟩
theorem Pre.comps_all (P:Pre n R):∀ (m:Nat) (D:Nat -> Bool),left n D <= m -> ∀ a < n,D a = false -> ∃ l ∈ compsF n R m D,(a:Int) ∈ l
 | 0,D,hm,a,ha,hD => by
  have:a ∈ (List.range n).filter fun k => !D k:=List.mem_filter.2 ⟨List.mem_range.2 ha,by rw [hD]; rfl⟩
  have:=List.length_pos_of_mem this
  unfold left at hm
  omega
 | m + 1,D,hm,a,ha,hD => by
  rw [compsF]
  cases hf:(List.range n).find? fun a => !(D a || precS n R a (compS n R a) D) with
  | none =>
   exfalso
   obtain ⟨b,hb,h1,h2⟩:=P.first D _ a (Nat.le_refl _) ha hD
   rw [List.find?_eq_none] at hf
   have:=hf b (List.mem_range.2 hb)
   rw [h1,h2] at this
   exact this rfl
  | some c =>
   have hp:=List.find?_some hf
   simp only [Bool.not_eq_true',Bool.or_eq_false_iff] at hp
   have hc:=List.mem_range.1 (List.mem_of_find?_eq_some hf)
   have hn:=P.le
   by_cases hac:compS n R c a = true
   ·exact ⟨_,List.mem_cons_self,mem_members.2 ⟨a,rfl,by omega,hac⟩⟩
   ·have hac:compS n R c a = false:=by simpa using hac
    have hlt:left n (orS D (compS n R c)) < left n D:=by
     refine filter_lt _ (fun k hk => ?_) (List.mem_range.2 hc) ?_ ?_
     ·simp only [orS,Bool.not_or,Bool.and_eq_true] at hk
      exact hk.1
     ·simp [orS,comp_refl hc]
     ·rw [hp.1]; rfl
    obtain ⟨l,hl,hal⟩:=P.comps_all m (orS D (compS n R c)) (by omega) a ha (by simp [orS,hD,hac])
    exact ⟨l,List.mem_cons_of_mem _ hl,hal⟩
theorem closed_none:ClosedC n R fun _ => false:=fun _ _ _ h => by cases h
theorem Pre.all (P:Pre n R) {a:Nat} (ha:a < n):∃ l ∈ compsL n R,(a:Int) ∈ l :=
 P.comps_all 24 _ (Nat.le_trans (List.length_filter_le _ _) (by simpa using P.le)) a ha rfl
theorem Pre.order (P:Pre n R):(compsL n R).Pairwise (Behind R):=P.comps_order 24 _ closed_none
theorem Pre.from_ (P:Pre n R) {l:List Int} (h:l ∈ compsL n R):∃ a < n,l = members (compS n R a):=by
 obtain ⟨a,ha,e,_⟩:=P.comps_from 24 _ closed_none l h
 exact ⟨a,ha,e⟩
end
end Go.Proofs.YtigapannpbaihaaGreat.Rk
namespace Go.Proofs.YtigapannpbaihaaGreat.Rk
open Go.Eng Go.RowKit
end Go.Proofs.YtigapannpbaihaaGreat.Rk
namespace Go.Proofs.YtigapannpbaihaaGreat.Rk
open Go.Eng Go.RowKit
theorem maxQ {o:Oper} {l:Env} {w:World} {x y:Operand} {ts:Array Nat} {a b:Int} (ho:o.op = .call ⟨.builtin .max,#[x,y],ts⟩) (hx:evo l x = some (.int .i64 a)) (hy:evo l y = some (.int .i64 b)) :
  QuietRun C o l w (.int .i64 (if b > a then b else a)):=by
 intro ρ hρ w' _
 unfold execOp
 rw [ho]
 simp [resolve,invoke,builtin,hρ _ _ hx,hρ _ _ hy,Builtin.max_,Builtin.max2]
def levTo (R:Nat -> Nat -> Bool) (f:Nat -> Nat) (z:Nat):Nat -> Nat
 | 0 => 0
 | b + 1 => if standR R b z = 1 then max (levTo R f z b) (f b + 1) else levTo R f z b
def levF (n:Nat) (R:Nat -> Nat -> Bool):List (List Int) -> (Nat -> Nat) -> Nat -> Nat
 | [],f => f
 | l :: L,f => levF n R L fun a => if (a:Int) ∈ l then levTo R f (l.headD 0).toNat n else f a
def natsN (n:Nat) (f:Nat -> Nat):List Int:=(List.range n).map fun k => ((f k:Nat):Int)
theorem natsN_length (n:Nat) (f:Nat -> Nat):(natsN n f).length = n:=by simp [natsN]
theorem natsN_get {n i:Nat} (h:i < n) (f:Nat -> Nat):(ints (natsN n f))[i]? = some (.int .i64 (f i:Nat)):=by simp [ints,natsN,h]
theorem natsN_set {n i:Nat} (h:i < n) (f:Nat -> Nat) (v:Nat):splice (ints (natsN n f)) i [.int .i64 (v:Nat)] = ints (natsN n fun a => if a = i then v else f a):=by
 rw [splice_one (by rw [ints_length,natsN_length]; exact h)]
 apply List.ext_getElem?
 intro k
 rw [List.getElem?_set]
 by_cases hk:i = k
 ·subst hk
  rw [if_pos rfl,natsN_get h,if_pos (by rw [ints_length,natsN_length]; exact h),if_pos rfl]
 ·rw [if_neg hk]
  by_cases hkn:k < n
  ·rw [natsN_get hkn,natsN_get hkn,if_neg (fun e => hk e.symm)]
  ·rw [List.getElem?_eq_none (by rw [ints_length,natsN_length]; omega),List.getElem?_eq_none (by rw [ints_length,natsN_length]; omega)]
theorem zeros_natsN (n:Nat):List.replicate n (Value.int .i64 0) = ints (natsN n fun _ => 0):=by
 apply List.ext_getElem?
 intro i
 by_cases h:i < n
 ·rw [natsN_get h,List.getElem?_replicate,if_pos h]; rfl
 ·rw [List.getElem?_eq_none (by simp; omega),List.getElem?_eq_none (by rw [ints_length,natsN_length]; omega)]
theorem maxQ' {o:Oper} {l:Env} {w:World} {x y:Operand} {ts:Array Nat} {a b c:Int} (hm:(if b > a then b else a) = c) (ho:o.op = .call ⟨.builtin .max,#[x,y],ts⟩) (hx:evo l x = some (.int .i64 a)) (hy:evo l y = some (.int .i64 b)) :
  QuietRun C o l w (.int .i64 c):=by
 rw [<-hm]
 exact maxQ ho hx hy
def levelsL (n:Nat) (R:Nat -> Nat -> Bool):Nat -> Nat:=levF n R (compsL n R) fun _ => 0
noncomputable def levelsV (N:Int) (xs:List Arrow):List Int:=if chk N xs = 0 then natsN N.toNat (levelsL N.toNat (reach (toM xs))) else []
end Go.Proofs.YtigapannpbaihaaGreat.Rk
namespace Go.Proofs.YtigapannpbaihaaGreat.Rk
open Go.Eng Go.RowKit
section
variable {n:Nat} {R:Nat -> Nat -> Bool}
theorem Pre.uniq (P:Pre n R) {x:Int} {i j:Nat} (hi:i < (compsL n R).length) (hj:j < (compsL n R).length) (h1:x ∈ (compsL n R)[i]) (h2:x ∈ (compsL n R)[j]):i = j:=by
 have hp:=List.pairwise_iff_getElem.1 P.order
 rcases Nat.lt_trichotomy i j with h | h | h
 ·obtain ⟨a,b,e1,e2,hne,_⟩:=hp i j hi hj h x h1 x h2
  omega
 ·exact h
 ·obtain ⟨a,b,e1,e2,hne,_⟩:=hp j i hj hi h x h2 x h1
  omega
theorem Pre.where_ (P:Pre n R) {a:Nat} (ha:a < n):∃ i,∃ hi:i < (compsL n R).length,(a:Int) ∈ (compsL n R)[i]:=by
 obtain ⟨l,hl,hm⟩:=P.all ha
 obtain ⟨i,hi,rfl⟩:=List.getElem_of_mem hl
 exact ⟨i,hi,hm⟩
open Classical in
noncomputable def ix (n:Nat) (R:Nat -> Nat -> Bool) (a:Nat):Nat:=if h:∃ i,∃ hi:i < (compsL n R).length,(a:Int) ∈ (compsL n R)[i] then h.choose else 0
theorem Pre.ix_at (P:Pre n R) {a:Nat} (ha:a < n):∃ hi:ix n R a < (compsL n R).length,(a:Int) ∈ (compsL n R)[ix n R a]:=by
 have h:=P.where_ ha
 unfold ix
 rw [dif_pos h]
 exact h.choose_spec
theorem Pre.ix_eq (P:Pre n R) {a i:Nat} (ha:a < n) (hi:i < (compsL n R).length) (h:(a:Int) ∈ (compsL n R)[i]):ix n R a = i:=by
 obtain ⟨hj,hm⟩:=P.ix_at ha
 exact P.uniq hj hi hm h
end
end Go.Proofs.YtigapannpbaihaaGreat.Rk
namespace Go.Proofs.YtigapannpbaihaaGreat.Rk
open Go.Eng Go.RowKit
theorem natsN_congr {n:Nat} {f g:Nat -> Nat} (h:∀ k < n,f k = g k):natsN n f = natsN n g:=by
 unfold natsN
 exact List.map_congr_left fun k hk => by rw [h k (List.mem_range.1 hk)]
end Go.Proofs.YtigapannpbaihaaGreat.Rk
namespace Go.Proofs.YtigapannpbaihaaGreat.Rk
open Go.Eng Go.RowKit
open Go.Maps (Keyed)
abbrev idB (n:Int):Bool:=decide (1 <= n ∧ n <= 1000000)
theorem isId_spec (n:Int) (w:World):CallsV C.P 129 #[.int .i64 n] w fun v w' => v = .bool (idB n) ∧ w' = w:=by
 refine callsV_of C_ok (args:=[_]) (plans:=[]) Tryz.func129 rfl Tryz.ntmps129 (by kernel_rfl) (Nat.le_of_ble_eq_true rfl) ?_
 refine brE_dec (fun h => ?_) (fun h => ?_)
 ·have h:n >= 1:=h
  refine ⟨?_,rfl⟩
  have:(1:Int) <= n:=h
  simp [this]
 ·have h:¬ n >= 1:=h
  refine ⟨?_,rfl⟩
  have:¬ (1:Int) <= n:=h
  simp [this]
structure Scn where
 host:Int
 lang:Int
 lot:Int
 known:Int
 day:Int
def Scn.cells (s:Scn):List Value:=[.int .i64 s.host,.int .i64 s.lang,.int .i64 s.lot,.int .i64 s.known,.int .i64 s.day]
def Scn.val (s:Scn):Value:=.agg s.cells.toArray
def Scn.ok (s:Scn):Prop:=(1 <= s.host ∧ s.host <= 1000000) ∧ (1 <= s.lang ∧ s.lang <= 3) ∧ (0 <= s.lot ∧ s.lot <= 199) ∧ (0 <= s.known ∧ s.known <= 100000) ∧ (0 <= s.day ∧ s.day <= 100000)
instance (s:Scn):Decidable s.ok:=by unfold Scn.ok; infer_instance
def schk (s:Scn):Int:=if s.ok then 0 else 1
theorem schk_bad {s:Scn} (h:¬ s.ok):(1:Int) = schk s:=by rw [schk,if_neg h]
theorem schk_ok {s:Scn} (h:s.ok):(0:Int) = schk s:=by rw [schk,if_pos h]
theorem CheckScene_spec (s:Scn) (w:World):CallsV C.P 76 #[s.val] w fun v w' => v = .int .i64 (schk s) ∧ Ext w w':=by
 refine callsV_of C_ok (args:=[_]) (plans:=[]) Tryz.func76 rfl Tryz.ntmps76 (by kernel_rfl) (Nat.le_of_ble_eq_true rfl) ?_
 intro g1 w1 h1
 have M1:=(Mem.start w).alloc h1
 refine ⟨_,M1.cell 0 rfl rfl,?_⟩
 refine (isId_spec s.host w1).mono ?_
 rintro v w2 ⟨rfl,rfl⟩
 refine brE_mk (fun b1 => ?_) (fun b1 => ?_)
 ·refine ⟨?_,M1.ext⟩
  rw [<-schk_bad]
  intro h; have h':=h.1; simp at b1; omega
 refine ⟨_,M1.cell 0 rfl rfl,?_⟩
 refine (in_spec _ _ _ _).mono ?_
 rintro v w2 ⟨rfl,rfl⟩
 refine brE_mk (fun b2 => ?_) (fun b2 => ?_)
 ·refine ⟨?_,M1.ext⟩
  rw [<-schk_bad]
  intro h; have h':=h.2.1; simp at b2; omega
 refine ⟨_,M1.cell 0 rfl rfl,?_⟩
 refine (in_spec _ _ _ _).mono ?_
 rintro v w2 ⟨rfl,rfl⟩
 refine brE_mk (fun b3 => ?_) (fun b3 => ?_)
 ·refine ⟨?_,M1.ext⟩
  rw [<-schk_bad]
  intro h; have h':=h.2.2.1; simp at b3; omega
 refine ⟨_,M1.cell 0 rfl rfl,?_⟩
 refine (in_spec _ _ _ _).mono ?_
 rintro v w2 ⟨rfl,rfl⟩
 refine brE_mk (fun b4 => ?_) (fun b4 => ?_)
 ·refine ⟨?_,M1.ext⟩
  rw [<-schk_bad]
  intro h; have h':=h.2.2.2.1; simp at b4; omega
 refine ⟨_,M1.cell 0 rfl rfl,?_⟩
 refine (in_spec _ _ _ _).mono ?_
 rintro v w2 ⟨rfl,rfl⟩
 refine brE_mk (fun b5 => ?_) (fun b5 => ?_)
 ·refine ⟨?_,M1.ext⟩
  rw [<-schk_bad]
  intro h; have h':=h.2.2.2.2; simp at b5; omega
 ·refine ⟨?_,M1.ext⟩
  rw [<-schk_ok]
  simp at b1 b2 b3 b4 b5
  exact ⟨b1,b2,b3,b4,b5⟩
def gloop:List Int -> List (Int × Int) -> Int
 | _,[] => 0
 | seen,g :: r => if (idB g.1 && idB g.2) = true then (if g.1 ∈ seen then 6 else gloop (seen ++ [g.1]) r) else 1
def gchk (gs:List (Int × Int)):Int:=if gs.length > 24 then 2 else gloop [] gs
theorem gloop_at {gs:List (Int × Int)} {i:Nat} (hi:i < gs.length):gloop ((gs.take i).map Prod.fst) (gs.drop i) =
  if (idB gs[i].1 && idB gs[i].2) = true then (if gs[i].1 ∈ (gs.take i).map Prod.fst then 6 else gloop ((gs.take (i + 1)).map Prod.fst) (gs.drop (i + 1))) else 1:=by
 rw [List.drop_eq_getElem_cons hi,gloop,List.take_succ_eq_append_getElem hi,List.map_append]
 rfl
end Go.Proofs.YtigapannpbaihaaGreat.Rk
namespace Go.Proofs.YtigapannpbaihaaGreat.Rk
open Go.Eng Go.RowKit
open Go.Maps (Keyed)
theorem intK:Keyed C.P 3:=Go.Maps.int_keyed under3
theorem intKey {x:Int} (h:In64 x):keyOf C.P 3 (.int .i64 x) = some (.int .i64 x):=Go.Maps.keyOf_int_mk under3 (wf64 h)
noncomputable def seenV (l:List Int):Value -> Option Value:=l.foldl (fun f x => updV f (.int .i64 x) (.bool true)) fun _ => none
theorem seenV_snoc (l:List Int) (x:Int):seenV (l ++ [x]) = updV (seenV l) (.int .i64 x) (.bool true):=by simp [seenV]
theorem seenV_get (l:List Int) (q:Int):seenV l (.int .i64 q) = if q ∈ l then some (.bool true) else none:=by
 suffices h:∀ (l:List Int) (f:Value -> Option Value),(l.foldl (fun f x => updV f (.int .i64 x) (.bool true)) f) (.int .i64 q) = if q ∈ l then some (.bool true) else f (.int .i64 q) from h l _
 intro l
 induction l with
 | nil => intro f; simp
 | cons p l ih =>
  intro f
  rw [List.foldl_cons,ih]
  by_cases h1:q ∈ l
  ·simp [h1]
  ·by_cases h2:q = p
   ·subst h2; simp [h1,updV]
   ·simp [h1,h2,updV]
theorem CheckGuests_spec {w:World} {B:Option Addr} {gs:List (Int × Int)} {d:Nat} (hr:Reads w B (prCells gs)) :
  CallsV C.P 78 #[.slice B gs.length d] w fun v w' => v = .int .i64 (gchk gs) ∧ Ext w w':=by
 refine callsV_of C_ok (args:=[_]) (plans:=[]) Tryz.func78 rfl Tryz.ntmps78 (by kernel_rfl) (Nat.le_of_ble_eq_true rfl) ?_
 refine brE_dec (fun hl => ?_) (fun hl => ?_)
 ·have hl:(gs.length:Int) > 24:=hl
  exact ⟨by rw [gchk,if_pos (by omega)],Ext.refl _⟩
 have hl:¬ (gs.length:Int) > 24:=hl
 have hg:gchk gs = gloop [] gs:=by rw [gchk,if_neg (by omega)]
 rw [hg]
 intro gm w1 h1
 refine loopE C_ok (fun (i:Nat) => [(3,.map (some gm)),(10,.slice B gs.length d),(11,.int .i64 gs.length),(12,.int .i64 i)])
  (fun i w' => i <= gs.length ∧ (∃ om,Mem w w' [(gm,om)]) ∧ MapIs C.P 3 w' gm (seenV ((gs.take i).map Prod.fst)) ∧ gloop [] gs = gloop ((gs.take i).map Prod.fst) (gs.drop i))
  (fun i => gs.length - i) 0 ⟨rfl,rfl,rfl,rfl,trivial⟩ ⟨Nat.zero_le _,⟨_,(Mem.start w).alloc h1⟩,MapIs.empty h1.here,rfl⟩ ?_
 rintro i w2 ⟨hi,⟨om,M2⟩,hmap,hloop⟩
 refine brE_dec (fun hlt => ?_) (fun hge => ?_)
 ·have hlt:i < gs.length:=by omega
  rw [gloop_at hlt] at hloop
  obtain ⟨b,o,hA,hrd⟩:=Reads.pair (hr.ext M2.ext) hlt
  refine ⟨i,b,o,rfl,hlt,hA,?_⟩
  refine ⟨[.int .i64 gs[i].1,.int .i64 gs[i].2],rfl,hrd,?_⟩
  intro g5 w3 h3
  have M3:=M2.alloc h3
  refine ⟨rfl,_,_,M3.get 0 rfl,Nat.le_of_ble_eq_true rfl,rfl,?_⟩
  intro w4 h4
  have M4:Mem w w4 [(g5,.cells #[.int .i64 gs[i].1,.int .i64 gs[i].2] 63 (0,0)),(gm,om)]:=M3.put 0 rfl h4
  have hmap4:MapIs C.P 3 w4 gm (seenV ((gs.take i).map Prod.fst)):=(hmap.ext h3.ext).put h4 (by
   have:=M2.lt (g:=gm) (o:=om) (by simp)
   rw [h3.new]; omega)
  refine ⟨_,M4.cell 0 rfl rfl,?_⟩
  refine (isId_spec _ _).mono ?_
  rintro v w5 ⟨rfl,rfl⟩
  refine brE_mk (fun b1 => ?_) (fun b1 => ?_)
  ·rw [Bool.not_eq_true'] at b1
   rw [b1,Bool.false_and,if_neg (by decide)] at hloop
   exact ⟨by rw [hloop],M4.ext⟩
  rw [Bool.not_eq_false'] at b1
  refine ⟨_,M4.cell 0 rfl rfl,?_⟩
  refine (isId_spec _ _).mono ?_
  rintro v w5 ⟨rfl,rfl⟩
  refine brE_mk (fun b2 => ?_) (fun b2 => ?_)
  ·rw [Bool.not_eq_true'] at b2
   rw [b2,Bool.and_false,if_neg (by decide)] at hloop
   exact ⟨by rw [hloop],M4.ext⟩
  rw [Bool.not_eq_false'] at b2
  rw [b1,b2,Bool.and_true,if_pos rfl] at hloop
  have hin:=of_decide_eq_true b1
  have h64:In64 gs[i].1:=⟨by omega,by omega⟩
  have hget:(seenV ((gs.take i).map Prod.fst) (.int .i64 gs[i].1)).getD (.bool false) = .bool (decide (gs[i].1 ∈ (gs.take i).map Prod.fst)):=by
   rw [seenV_get]
   by_cases hm:gs[i].1 ∈ (gs.take i).map Prod.fst <;> simp only [hm,if_true,if_false,Option.getD_some,Option.getD_none,decide_true,decide_false]
  refine ⟨_,M4.cell 0 rfl rfl,?_⟩
  refine ⟨.bool (decide (gs[i].1 ∈ (gs.take i).map Prod.fst)),mapGet1 C_ok (te:=ty4) (x:=.int .i64 gs[i].1) (intKey h64) hmap4 intK rfl rfl rfl rfl rfl rfl hget,?_⟩
  refine brE_dec (fun hm => ?_) (fun hm => ?_)
  ·rw [if_pos hm] at hloop
   exact ⟨by rw [hloop],M4.ext⟩
  rw [if_neg hm] at hloop
  refine ⟨_,M4.cell 0 rfl rfl,?_⟩
  refine mapPut C_ok rfl rfl (x:=.int .i64 gs[i].1) rfl rfl rfl rfl intK (intKey h64) hmap4 ?_
  intro o' w6 h6 hmap6
  have M6:=(M4.put 1 rfl h6).tail
  refine ⟨((i + 1:Nat):Int),fit ⟨by omega,by omega⟩,?_⟩
  refine ⟨i + 1,⟨rfl,rfl,rfl,rfl,trivial⟩,⟨hlt,⟨_,M6⟩,?_,hloop⟩,by omega⟩
  rw [List.take_succ_eq_append_getElem hlt,List.map_append]
  show MapIs _ _ _ _ (seenV (_ ++ [gs[i].1]))
  rw [seenV_snoc]
  exact hmap6
 ·have:i = gs.length:=by omega
  subst this
  rw [List.drop_length] at hloop
  exact ⟨by rw [hloop]; rfl,M2.ext⟩
end Go.Proofs.YtigapannpbaihaaGreat.Rk
namespace Go.Proofs.YtigapannpbaihaaGreat.Rk
open Go.Eng Go.RowKit
end Go.Proofs.YtigapannpbaihaaGreat.Rk
namespace Go.Proofs.YtigapannpbaihaaGreat.Rk
open Go.Eng Go.RowKit
end Go.Proofs.YtigapannpbaihaaGreat.Rk
namespace Go.Proofs.YtigapannpbaihaaGreat.Rk
open Go.Eng Go.RowKit
end Go.Proofs.YtigapannpbaihaaGreat.Rk
namespace Go.Proofs.YtigapannpbaihaaGreat.Rk
open Go.Eng Go.RowKit
end Go.Proofs.YtigapannpbaihaaGreat.Rk
namespace Go.Proofs.YtigapannpbaihaaGreat.Rk
open Go.Eng Go.RowKit
end Go.Proofs.YtigapannpbaihaaGreat.Rk
namespace Go.Proofs.YtigapannpbaihaaGreat.Rk
open Go.Eng Go.RowKit Go.ChangeShapes Go.WideShapes Go.ChangeAt
open Go.ChangeMaps (open_string shut_string)
theorem own:ownKnob Tryz.prog.godebug = none:=by kernel_rfl
theorem cells5:Tryz.prog.cellsOf 5 = 1:=by kernel_rfl
theorem cells9:Tryz.prog.cellsOf 9 = 1:=by kernel_rfl
theorem cellsF:Tryz.prog.cellsOf 180 = 9:=by kernel_rfl
theorem wf_u8 {a:Int} (h:(Lit.int .u8 a).wf = true):0 <= a ∧ a <= 255:=by
 simp [Lit.wf,IntKind.min,IntKind.max,IntKind.bits,IntKind.signed] at h
 omega
theorem list9 {l:List Value} (h:l.length = 9):∃ a b c d e f g h' i,l = [a,b,c,d,e,f,g,h',i]:=by
 match l,h with
 | [a,b,c,d,e,f,g,h',i],_ => exact ⟨a,b,c,d,e,f,g,h',i,rfl⟩
theorem cellsSc:Tryz.prog.cellsOf 27 = 5:=by kernel_rfl
theorem cellsU:Tryz.prog.cellsOf 63 = 2:=by kernel_rfl
theorem underUs:Tryz.prog.underlying 28 = some (.slice 63):=by kernel_rfl
theorem underU:Tryz.prog.underlying 63 = some (.struct #[⟨ "Person",3,0,false, "", "",0⟩,⟨ "State",3,1,false, "", "",8⟩]):=by kernel_rfl
theorem underSc:Tryz.prog.underlying 27 = some (.struct #[⟨ "Host",3,0,false, "", "",0⟩,⟨ "Lang",3,1,false, "", "",8⟩,⟨ "Lot",3,2,false, "", "",16⟩,⟨ "Known",3,3,false, "", "",24⟩,⟨ "Day",3,4,false, "", "",32⟩]):=by kernel_rfl
section
variable {H:Type} {enc:TypeId × Value -> H} {W:World}
set_option maxRecDepth 100000 in
theorem open_fcells {base n:Nat} {spare:Nat -> Bool} {held:Bool} {cs:List Value} {x:DataW H × List MemPlace} (h:DataW.trod enc Tryz.prog W base spare held n 180 cs = some x) :
  ∃ y:Fact,cs = y.cells ∧ y.Nums:=by
 obtain ⟨xs,n',_,_,hlen,hxs,hg⟩:=DataW.trod_struct underF h
 rw [cellsF] at hlen
 obtain ⟨a0,a1,a2,a3,a4,a5,a6,a7,a8,rfl⟩:=list9 hlen
 have some9:∀ i,i < 9 -> ∃ y,xs[i]? = some y:=fun i hi => ⟨_,List.getElem?_eq_getElem (by rw [hxs]; exact hi)⟩
 have get3:∀ (i:Nat) (u:Value) (f:Field),(#[⟨ "Id",3,0,false, "", "",0⟩,⟨ "Known",3,1,false, "", "",8⟩,⟨ "Kind",5,2,false, "", "",16⟩,⟨ "Who",3,3,false, "", "",24⟩,⟨ "What",3,4,false, "", "",32⟩,⟨ "Other",3,5,false, "", "",40⟩,⟨ "Since",3,6,false, "", "",48⟩,⟨ "Until",3,7,false, "", "",56⟩,⟨ "Name",9,8,false, "", "",64⟩]:Array Field)[i]? = some f -> f.type = 3 -> i < 9 →
   ((([a0,a1,a2,a3,a4,a5,a6,a7,a8]:List Value).drop f.offset).take 1) = [u] -> ∃ z:Int,u = .int .i64 z ∧ In64 z:=by
  intro i u f hi h3 hi9 hu
  have:=hg i f hi
  rw [h3,cells3,hu] at this
  obtain ⟨y,hy⟩:=some9 i hi9
  rw [hy] at this
  obtain ⟨z,e1,_,wz⟩:=DataW.trod_int under3 this
  simp at e1
  exact ⟨z,e1,wf_in64 wz⟩
 obtain ⟨z0,rfl,w0⟩:=get3 0 a0 _ rfl rfl (by omega) rfl
 obtain ⟨z1,rfl,w1⟩:=get3 1 a1 _ rfl rfl (by omega) rfl
 obtain ⟨z3,rfl,w3⟩:=get3 3 a3 _ rfl rfl (by omega) rfl
 obtain ⟨z4,rfl,w4⟩:=get3 4 a4 _ rfl rfl (by omega) rfl
 obtain ⟨z5,rfl,w5⟩:=get3 5 a5 _ rfl rfl (by omega) rfl
 obtain ⟨z6,rfl,w6⟩:=get3 6 a6 _ rfl rfl (by omega) rfl
 obtain ⟨z7,rfl,w7⟩:=get3 7 a7 _ rfl rfl (by omega) rfl
 have h2:DataW.trod enc Tryz.prog W base spare held n' 5 ((([.int .i64 z0,.int .i64 z1,a2,.int .i64 z3,.int .i64 z4,.int .i64 z5,.int .i64 z6,.int .i64 z7,a8]:List Value).drop 2).take (Tryz.prog.cellsOf 5)) = xs[2]?:=hg 2 ⟨ "Kind",5,2,false, "", "",16⟩ rfl
 have h8:DataW.trod enc Tryz.prog W base spare held n' 9 ((([.int .i64 z0,.int .i64 z1,a2,.int .i64 z3,.int .i64 z4,.int .i64 z5,.int .i64 z6,.int .i64 z7,a8]:List Value).drop 8).take (Tryz.prog.cellsOf 9)) = xs[8]?:=hg 8 ⟨ "Name",9,8,false, "", "",64⟩ rfl
 obtain ⟨y2,hy2⟩:=some9 2 (by omega)
 obtain ⟨y8,hy8⟩:=some9 8 (by omega)
 rw [cells5,hy2] at h2
 rw [cells9,hy8] at h8
 obtain ⟨z2,e2,_,w2⟩:=DataW.trod_int under5 h2
 obtain ⟨s8,e8,_,w8⟩:=DataW.trod_string under9 h8
 simp at e2 e8
 subst e2 e8
 exact ⟨⟨z0,z1,z2,z3,z4,z5,z6,z7,s8⟩,rfl,⟨w0,w1,wf_u8 w2,w3,w4,w5,w6,w7,by simpa [maxLen] using w8⟩⟩
end
end Go.Proofs.YtigapannpbaihaaGreat.Rk
namespace Go.Proofs.YtigapannpbaihaaGreat.Rk
open Go.Eng Go.RowKit
inductive Tst where
 | mk (op attr side n:Int) (A:Option Addr) (c:Nat) (of:List Tst)
def Tst.op:Tst -> Int | .mk x _ _ _ _ _ _ => x
def Tst.attr:Tst -> Int | .mk _ x _ _ _ _ _ => x
def Tst.side:Tst -> Int | .mk _ _ x _ _ _ _ => x
def Tst.n:Tst -> Int | .mk _ _ _ x _ _ _ => x
def Tst.A:Tst -> Option Addr | .mk _ _ _ _ x _ _ => x
def Tst.c:Tst -> Nat | .mk _ _ _ _ _ x _ => x
def Tst.of:Tst -> List Tst | .mk _ _ _ _ _ _ x => x
def Tst.cells (t:Tst):List Value:=[.int .u8 t.op,.int .u8 t.attr,.int .u8 t.side,.int .i64 t.n,.slice t.A t.of.length t.c]
def Tst.val (t:Tst):Value:=.agg t.cells.toArray
instance:Inhabited Tst:=⟨.mk 0 0 0 0 none 0 []⟩
theorem Tst.len (t:Tst):t.cells.length = 5:=rfl
structure Tst.Nums (t:Tst):Prop where
 op:0 <= t.op ∧ t.op <= 255
 attr:0 <= t.attr ∧ t.attr <= 255
 side:0 <= t.side ∧ t.side <= 255
 n:In64 t.n
inductive TestIs (w:World):Tst -> Prop
 | mk {t:Tst}:t.Nums -> Reads w t.A (t.of.flatMap Tst.cells) -> t.of.length <= t.c -> t.of.length <= 9223372036854775807 -> (∀ x ∈ t.of,TestIs w x) -> TestIs w t
theorem TestIs.ext {w w':World} {t:Tst} (h:TestIs w t) (e:Ext w w'):TestIs w' t:=by
 induction h with
 | mk h1 h2 h3 h4 _ ih => exact .mk h1 (h2.ext e) h3 h4 ih
def kindZ (a:Int):Int:=if a = 1 ∨ a = 2 then 1 else if a = 3 ∨ a = 4 ∨ a = 5 then 2 else if a = 6 ∨ a = 7 then 3 else 0
def rangeB (a n:Int):Bool:=if a = 1 then decide (n >= 1 ∧ n <= 5) else if a = 2 then decide (n >= 0 ∧ n <= 2) else decide (kindZ a = 2 ∧ n = 1)
def boolZ (b:Bool):Int:=if b = true then 1 else 0
def attrZ (a:Int) (p:Prof):Int:=if a = 1 then p.cls else if a = 2 then p.visit else if a = 3 then boolZ p.host else if a = 4 then boolZ p.dep else if a = 5 then boolZ p.mourn else if a = 6 then p.cred else if a = 7 then p.letter else 0
theorem kindOf_spec (a:Int) (w:World):CallsV C.P 175 #[.int .u8 a] w fun v w' => v = .int .i64 (kindZ a) ∧ w' = w:=by
 refine callsV_of C_ok (args:=[_]) (plans:=[]) Tryz.func175 rfl Tryz.ntmps175 (by kernel_rfl) (Nat.le_of_ble_eq_true rfl) ?_
 refine brE_dec (fun h1 => ?_) (fun h1 => ?_)
 ·have h1:a = 1:=h1
  refine brE_true (decide_eq_true h1) ?_
  exact ⟨congrArg (Value.int .i64) (by unfold kindZ; (repeat' split) <;> omega),rfl⟩
 have h1:¬ a = 1:=h1
 refine brE_dec (fun h2 => ?_) (fun h2 => ?_)
 ·have h2:a = 2:=h2
  exact ⟨congrArg (Value.int .i64) (by unfold kindZ; (repeat' split) <;> omega),rfl⟩
 have h2:¬ a = 2:=h2
 refine brE_dec (fun h3 => ?_) (fun h3 => ?_)
 ·have h3:a = 3:=h3
  refine brE_true (decide_eq_true h3) ?_
  exact ⟨congrArg (Value.int .i64) (by unfold kindZ; (repeat' split) <;> omega),rfl⟩
 have h3:¬ a = 3:=h3
 refine brE_dec (fun h4 => ?_) (fun h4 => ?_)
 ·have h4:a = 4:=h4
  refine brE_true (decide_eq_true h4) ?_
  exact ⟨congrArg (Value.int .i64) (by unfold kindZ; (repeat' split) <;> omega),rfl⟩
 have h4:¬ a = 4:=h4
 refine brE_dec (fun h5 => ?_) (fun h5 => ?_)
 ·have h5:a = 5:=h5
  exact ⟨congrArg (Value.int .i64) (by unfold kindZ; (repeat' split) <;> omega),rfl⟩
 have h5:¬ a = 5:=h5
 refine brE_dec (fun h6 => ?_) (fun h6 => ?_)
 ·have h6:a = 6:=h6
  refine brE_true (decide_eq_true h6) ?_
  exact ⟨congrArg (Value.int .i64) (by unfold kindZ; (repeat' split) <;> omega),rfl⟩
 have h6:¬ a = 6:=h6
 refine brE_dec (fun h7 => ?_) (fun h7 => ?_)
 ·have h7:a = 7:=h7
  exact ⟨congrArg (Value.int .i64) (by unfold kindZ; (repeat' split) <;> omega),rfl⟩
 have h7:¬ a = 7:=h7
 exact ⟨congrArg (Value.int .i64) (by unfold kindZ; (repeat' split) <;> omega),rfl⟩
theorem inRange_spec (a n:Int) (w:World):CallsV C.P 176 #[.int .u8 a,.int .i64 n] w fun v w' => v = .bool (rangeB a n) ∧ w' = w:=by
 refine callsV_of C_ok (args:=[_,_]) (plans:=[]) Tryz.func176 rfl Tryz.ntmps176 (by kernel_rfl) (Nat.le_of_ble_eq_true rfl) ?_
 refine brE_dec (fun h1 => ?_) (fun h1 => ?_)
 ·have h1:a = 1:=h1
  refine brE_dec (fun h2 => ?_) (fun h2 => ?_)
  ·have h2:n >= 1:=h2
   exact ⟨congrArg Value.bool (by unfold rangeB; rw [if_pos h1]; exact decide_eq_decide.2 ⟨fun h => ⟨h2,h⟩,fun h => h.2⟩),rfl⟩
  ·have h2:¬ n >= 1:=h2
   exact ⟨congrArg Value.bool (by unfold rangeB; rw [if_pos h1]; exact (decide_eq_false fun h => h2 h.1).symm),rfl⟩
 have h1:¬ a = 1:=h1
 refine brE_dec (fun h3 => ?_) (fun h3 => ?_)
 ·have h3:a = 2:=h3
  refine brE_dec (fun h2 => ?_) (fun h2 => ?_)
  ·have h2:n >= 0:=h2
   exact ⟨congrArg Value.bool (by unfold rangeB; rw [if_neg h1,if_pos h3]; exact decide_eq_decide.2 ⟨fun h => ⟨h2,h⟩,fun h => h.2⟩),rfl⟩
  ·have h2:¬ n >= 0:=h2
   exact ⟨congrArg Value.bool (by unfold rangeB; rw [if_neg h1,if_pos h3]; exact (decide_eq_false fun h => h2 h.1).symm),rfl⟩
 have h3:¬ a = 2:=h3
 refine (kindOf_spec a w).mono ?_
 rintro v w' ⟨rfl,rfl⟩
 refine brE_dec (fun h2 => ?_) (fun h2 => ?_)
 ·have h2:kindZ a = 2:=h2
  exact ⟨congrArg Value.bool (by unfold rangeB; rw [if_neg h1,if_neg h3]; exact decide_eq_decide.2 ⟨fun h => ⟨h2,h⟩,fun h => h.2⟩),rfl⟩
 ·have h2:¬ kindZ a = 2:=h2
  exact ⟨congrArg Value.bool (by unfold rangeB; rw [if_neg h1,if_neg h3]; exact (decide_eq_false fun h => h2 h.1).symm),rfl⟩
theorem mark_spec (b:Bool) (w:World):CallsV C.P 299 #[.bool b] w fun v w' => v = .int .i64 (boolZ b) ∧ w' = w:=by
 refine callsV_of C_ok (args:=[_]) (plans:=[]) Tryz.func299 rfl Tryz.ntmps299 (by kernel_rfl) (Nat.le_of_ble_eq_true rfl) ?_
 refine brE_mk (fun h => ?_) (fun h => ?_)
 ·have h:b = true:=h
  exact ⟨congrArg (Value.int .i64) (by rw [h]; rfl),rfl⟩
 ·have h:b = false:=h
  exact ⟨congrArg (Value.int .i64) (by rw [h]; rfl),rfl⟩
theorem view0_spec (p:Prof) (w:World):CallsV C.P 281 #[p.val] w fun v w' => v = .int .i64 (attrZ 0 p) ∧ Ext w w':=by
 refine callsV_of C_ok (args:=[_]) (plans:=[]) Tryz.func281 rfl Tryz.ntmps281 (by kernel_rfl) (Nat.le_of_ble_eq_true rfl) ?_
 intro g w1 h1
 exact ⟨rfl,h1.ext⟩
theorem view1_spec (p:Prof) (w:World):CallsV C.P 282 #[p.val] w fun v w' => v = .int .i64 (attrZ 1 p) ∧ Ext w w':=by
 refine callsV_of C_ok (args:=[_]) (plans:=[]) Tryz.func282 rfl Tryz.ntmps282 (by kernel_rfl) (Nat.le_of_ble_eq_true rfl) ?_
 intro g w1 h1
 refine ⟨_,cell_of_block (i:=0) h1.here rfl,?_⟩
 exact ⟨rfl,h1.ext⟩
theorem view2_spec (p:Prof) (w:World):CallsV C.P 283 #[p.val] w fun v w' => v = .int .i64 (attrZ 2 p) ∧ Ext w w':=by
 refine callsV_of C_ok (args:=[_]) (plans:=[]) Tryz.func283 rfl Tryz.ntmps283 (by kernel_rfl) (Nat.le_of_ble_eq_true rfl) ?_
 intro g w1 h1
 refine ⟨_,cell_of_block (i:=1) h1.here rfl,?_⟩
 exact ⟨rfl,h1.ext⟩
theorem view3_spec (p:Prof) (w:World):CallsV C.P 284 #[p.val] w fun v w' => v = .int .i64 (attrZ 3 p) ∧ Ext w w':=by
 refine callsV_of C_ok (args:=[_]) (plans:=[]) Tryz.func284 rfl Tryz.ntmps284 (by kernel_rfl) (Nat.le_of_ble_eq_true rfl) ?_
 intro g w1 h1
 refine ⟨_,cell_of_block (i:=2) h1.here rfl,?_⟩
 refine (mark_spec _ w1).mono ?_
 rintro v w' ⟨rfl,rfl⟩
 exact ⟨rfl,h1.ext⟩
theorem view4_spec (p:Prof) (w:World):CallsV C.P 285 #[p.val] w fun v w' => v = .int .i64 (attrZ 4 p) ∧ Ext w w':=by
 refine callsV_of C_ok (args:=[_]) (plans:=[]) Tryz.func285 rfl Tryz.ntmps285 (by kernel_rfl) (Nat.le_of_ble_eq_true rfl) ?_
 intro g w1 h1
 refine ⟨_,cell_of_block (i:=3) h1.here rfl,?_⟩
 refine (mark_spec _ w1).mono ?_
 rintro v w' ⟨rfl,rfl⟩
 exact ⟨rfl,h1.ext⟩
theorem view5_spec (p:Prof) (w:World):CallsV C.P 286 #[p.val] w fun v w' => v = .int .i64 (attrZ 5 p) ∧ Ext w w':=by
 refine callsV_of C_ok (args:=[_]) (plans:=[]) Tryz.func286 rfl Tryz.ntmps286 (by kernel_rfl) (Nat.le_of_ble_eq_true rfl) ?_
 intro g w1 h1
 refine ⟨_,cell_of_block (i:=4) h1.here rfl,?_⟩
 refine (mark_spec _ w1).mono ?_
 rintro v w' ⟨rfl,rfl⟩
 exact ⟨rfl,h1.ext⟩
theorem view6_spec (p:Prof) (w:World):CallsV C.P 287 #[p.val] w fun v w' => v = .int .i64 (attrZ 6 p) ∧ Ext w w':=by
 refine callsV_of C_ok (args:=[_]) (plans:=[]) Tryz.func287 rfl Tryz.ntmps287 (by kernel_rfl) (Nat.le_of_ble_eq_true rfl) ?_
 intro g w1 h1
 refine ⟨_,cell_of_block (i:=5) h1.here rfl,?_⟩
 exact ⟨rfl,h1.ext⟩
theorem view7_spec (p:Prof) (w:World):CallsV C.P 288 #[p.val] w fun v w' => v = .int .i64 (attrZ 7 p) ∧ Ext w w':=by
 refine callsV_of C_ok (args:=[_]) (plans:=[]) Tryz.func288 rfl Tryz.ntmps288 (by kernel_rfl) (Nat.le_of_ble_eq_true rfl) ?_
 intro g w1 h1
 refine ⟨_,cell_of_block (i:=6) h1.here rfl,?_⟩
 exact ⟨rfl,h1.ext⟩
set_option maxRecDepth 100000 in
set_option maxHeartbeats 4000000 in
theorem value_spec (a:Int) (ha:0 <= a ∧ a <= 7) (p:Prof) (w:World):CallsV C.P 263 #[.int .u8 a,p.val] w fun v w' => v = .int .i64 (attrZ a p) ∧ Ext w w':=by
 have hc:a = 0 ∨ a = 1 ∨ a = 2 ∨ a = 3 ∨ a = 4 ∨ a = 5 ∨ a = 6 ∨ a = 7:=by omega
 rcases hc with rfl | rfl | rfl | rfl | rfl | rfl | rfl | rfl
 ·refine callsV_of C_ok (args:=[_,_]) (plans:=plans263) Tryz.func263 rfl Tryz.ntmps263 (by kernel_rfl) (Nat.le_of_ble_eq_true rfl) ?_
  intro g3 w1 h1
  have M1:Mem w w1 [(g3,.cells p.cells.toArray 194 (0,0))]:=(Mem.start w).alloc h1
  intro g5 w2 h2
  have M2:=M1.alloc h2
  refine ⟨rfl,_,_,M2.get 0 rfl,Nat.le_of_ble_eq_true rfl,rfl,?_⟩
  intro w3 h3
  have M3:=M2.put 0 rfl h3
  refine ⟨0,rfl,by omega,?_⟩
  refine ⟨_,M3.cell 0 (i:=0) rfl rfl,?_⟩
  refine ⟨p.cells,rfl,M3.rd 1 rfl,?_⟩
  refine (view0_spec p w3).mono ?_
  rintro v w4 ⟨rfl,e4⟩
  exact ⟨rfl,M3.ext.trans e4⟩
 ·refine callsV_of C_ok (args:=[_,_]) (plans:=plans263) Tryz.func263 rfl Tryz.ntmps263 (by kernel_rfl) (Nat.le_of_ble_eq_true rfl) ?_
  intro g3 w1 h1
  have M1:Mem w w1 [(g3,.cells p.cells.toArray 194 (0,0))]:=(Mem.start w).alloc h1
  intro g5 w2 h2
  have M2:=M1.alloc h2
  refine ⟨rfl,_,_,M2.get 0 rfl,Nat.le_of_ble_eq_true rfl,rfl,?_⟩
  intro w3 h3
  have M3:=M2.put 0 rfl h3
  refine ⟨1,rfl,by omega,?_⟩
  refine ⟨_,M3.cell 0 (i:=1) rfl rfl,?_⟩
  refine ⟨p.cells,rfl,M3.rd 1 rfl,?_⟩
  refine (view1_spec p w3).mono ?_
  rintro v w4 ⟨rfl,e4⟩
  exact ⟨rfl,M3.ext.trans e4⟩
 ·refine callsV_of C_ok (args:=[_,_]) (plans:=plans263) Tryz.func263 rfl Tryz.ntmps263 (by kernel_rfl) (Nat.le_of_ble_eq_true rfl) ?_
  intro g3 w1 h1
  have M1:Mem w w1 [(g3,.cells p.cells.toArray 194 (0,0))]:=(Mem.start w).alloc h1
  intro g5 w2 h2
  have M2:=M1.alloc h2
  refine ⟨rfl,_,_,M2.get 0 rfl,Nat.le_of_ble_eq_true rfl,rfl,?_⟩
  intro w3 h3
  have M3:=M2.put 0 rfl h3
  refine ⟨2,rfl,by omega,?_⟩
  refine ⟨_,M3.cell 0 (i:=2) rfl rfl,?_⟩
  refine ⟨p.cells,rfl,M3.rd 1 rfl,?_⟩
  refine (view2_spec p w3).mono ?_
  rintro v w4 ⟨rfl,e4⟩
  exact ⟨rfl,M3.ext.trans e4⟩
 ·refine callsV_of C_ok (args:=[_,_]) (plans:=plans263) Tryz.func263 rfl Tryz.ntmps263 (by kernel_rfl) (Nat.le_of_ble_eq_true rfl) ?_
  intro g3 w1 h1
  have M1:Mem w w1 [(g3,.cells p.cells.toArray 194 (0,0))]:=(Mem.start w).alloc h1
  intro g5 w2 h2
  have M2:=M1.alloc h2
  refine ⟨rfl,_,_,M2.get 0 rfl,Nat.le_of_ble_eq_true rfl,rfl,?_⟩
  intro w3 h3
  have M3:=M2.put 0 rfl h3
  refine ⟨3,rfl,by omega,?_⟩
  refine ⟨_,M3.cell 0 (i:=3) rfl rfl,?_⟩
  refine ⟨p.cells,rfl,M3.rd 1 rfl,?_⟩
  refine (view3_spec p w3).mono ?_
  rintro v w4 ⟨rfl,e4⟩
  exact ⟨rfl,M3.ext.trans e4⟩
 ·refine callsV_of C_ok (args:=[_,_]) (plans:=plans263) Tryz.func263 rfl Tryz.ntmps263 (by kernel_rfl) (Nat.le_of_ble_eq_true rfl) ?_
  intro g3 w1 h1
  have M1:Mem w w1 [(g3,.cells p.cells.toArray 194 (0,0))]:=(Mem.start w).alloc h1
  intro g5 w2 h2
  have M2:=M1.alloc h2
  refine ⟨rfl,_,_,M2.get 0 rfl,Nat.le_of_ble_eq_true rfl,rfl,?_⟩
  intro w3 h3
  have M3:=M2.put 0 rfl h3
  refine ⟨4,rfl,by omega,?_⟩
  refine ⟨_,M3.cell 0 (i:=4) rfl rfl,?_⟩
  refine ⟨p.cells,rfl,M3.rd 1 rfl,?_⟩
  refine (view4_spec p w3).mono ?_
  rintro v w4 ⟨rfl,e4⟩
  exact ⟨rfl,M3.ext.trans e4⟩
 ·refine callsV_of C_ok (args:=[_,_]) (plans:=plans263) Tryz.func263 rfl Tryz.ntmps263 (by kernel_rfl) (Nat.le_of_ble_eq_true rfl) ?_
  intro g3 w1 h1
  have M1:Mem w w1 [(g3,.cells p.cells.toArray 194 (0,0))]:=(Mem.start w).alloc h1
  intro g5 w2 h2
  have M2:=M1.alloc h2
  refine ⟨rfl,_,_,M2.get 0 rfl,Nat.le_of_ble_eq_true rfl,rfl,?_⟩
  intro w3 h3
  have M3:=M2.put 0 rfl h3
  refine ⟨5,rfl,by omega,?_⟩
  refine ⟨_,M3.cell 0 (i:=5) rfl rfl,?_⟩
  refine ⟨p.cells,rfl,M3.rd 1 rfl,?_⟩
  refine (view5_spec p w3).mono ?_
  rintro v w4 ⟨rfl,e4⟩
  exact ⟨rfl,M3.ext.trans e4⟩
 ·refine callsV_of C_ok (args:=[_,_]) (plans:=plans263) Tryz.func263 rfl Tryz.ntmps263 (by kernel_rfl) (Nat.le_of_ble_eq_true rfl) ?_
  intro g3 w1 h1
  have M1:Mem w w1 [(g3,.cells p.cells.toArray 194 (0,0))]:=(Mem.start w).alloc h1
  intro g5 w2 h2
  have M2:=M1.alloc h2
  refine ⟨rfl,_,_,M2.get 0 rfl,Nat.le_of_ble_eq_true rfl,rfl,?_⟩
  intro w3 h3
  have M3:=M2.put 0 rfl h3
  refine ⟨6,rfl,by omega,?_⟩
  refine ⟨_,M3.cell 0 (i:=6) rfl rfl,?_⟩
  refine ⟨p.cells,rfl,M3.rd 1 rfl,?_⟩
  refine (view6_spec p w3).mono ?_
  rintro v w4 ⟨rfl,e4⟩
  exact ⟨rfl,M3.ext.trans e4⟩
 ·refine callsV_of C_ok (args:=[_,_]) (plans:=plans263) Tryz.func263 rfl Tryz.ntmps263 (by kernel_rfl) (Nat.le_of_ble_eq_true rfl) ?_
  intro g3 w1 h1
  have M1:Mem w w1 [(g3,.cells p.cells.toArray 194 (0,0))]:=(Mem.start w).alloc h1
  intro g5 w2 h2
  have M2:=M1.alloc h2
  refine ⟨rfl,_,_,M2.get 0 rfl,Nat.le_of_ble_eq_true rfl,rfl,?_⟩
  intro w3 h3
  have M3:=M2.put 0 rfl h3
  refine ⟨7,rfl,by omega,?_⟩
  refine ⟨_,M3.cell 0 (i:=7) rfl rfl,?_⟩
  refine ⟨p.cells,rfl,M3.rd 1 rfl,?_⟩
  refine (view7_spec p w3).mono ?_
  rintro v w4 ⟨rfl,e4⟩
  exact ⟨rfl,M3.ext.trans e4⟩
def Prof.Ok (p:Prof):Prop:=((1 <= p.cls ∧ p.cls <= 5) ∧ (0 <= p.visit ∧ p.visit <= 2)) ∧ (0 <= p.cred ∧ p.cred <= 100001) ∧ (0 <= p.letter ∧ p.letter <= 200)
instance instProfOk (p:Prof):Decidable p.Ok:=by unfold Prof.Ok; infer_instance
def profE (p:Prof):Int:=if p.Ok then 0 else 1
theorem profE_no {p:Prof} (h:¬ p.Ok):(1:Int) = profE p:=(if_neg h).symm
theorem CheckProfile_spec (p:Prof) (w:World):CallsV C.P 220 #[p.val] w fun v w' => v = .int .i64 (profE p) ∧ Ext w w':=by
 refine callsV_of C_ok (args:=[_]) (plans:=[]) Tryz.func220 rfl Tryz.ntmps220 (by kernel_rfl) (Nat.le_of_ble_eq_true rfl) ?_
 intro g w1 h1
 refine ⟨_,cell_of_block (i:=0) h1.here rfl,?_⟩
 refine brE_dec (fun c0 => ?_) (fun c0 => ?_)
 ·have c0:p.cls < 1:=c0
  exact ⟨congrArg (Value.int .i64) (profE_no fun h => by unfold Prof.Ok at h; omega),h1.ext⟩
 have c0:¬ p.cls < 1:=c0
 refine ⟨_,cell_of_block (i:=0) h1.here rfl,?_⟩
 refine brE_dec (fun c1 => ?_) (fun c1 => ?_)
 ·have c1:p.cls > 5:=c1
  exact ⟨congrArg (Value.int .i64) (profE_no fun h => by unfold Prof.Ok at h; omega),h1.ext⟩
 have c1:¬ p.cls > 5:=c1
 refine ⟨_,cell_of_block (i:=1) h1.here rfl,?_⟩
 refine brE_dec (fun c2 => ?_) (fun c2 => ?_)
 ·have c2:p.visit < 0:=c2
  exact ⟨congrArg (Value.int .i64) (profE_no fun h => by unfold Prof.Ok at h; omega),h1.ext⟩
 have c2:¬ p.visit < 0:=c2
 refine ⟨_,cell_of_block (i:=1) h1.here rfl,?_⟩
 refine brE_dec (fun c3 => ?_) (fun c3 => ?_)
 ·have c3:p.visit > 2:=c3
  exact ⟨congrArg (Value.int .i64) (profE_no fun h => by unfold Prof.Ok at h; omega),h1.ext⟩
 have c3:¬ p.visit > 2:=c3
 refine ⟨_,cell_of_block (i:=5) h1.here rfl,?_⟩
 refine brE_dec (fun c4 => ?_) (fun c4 => ?_)
 ·have c4:p.cred < 0:=c4
  exact ⟨congrArg (Value.int .i64) (profE_no fun h => by unfold Prof.Ok at h; omega),h1.ext⟩
 have c4:¬ p.cred < 0:=c4
 refine ⟨_,cell_of_block (i:=5) h1.here rfl,?_⟩
 refine brE_dec (fun c5 => ?_) (fun c5 => ?_)
 ·have c5:p.cred > 100001:=c5
  exact ⟨congrArg (Value.int .i64) (profE_no fun h => by unfold Prof.Ok at h; omega),h1.ext⟩
 have c5:¬ p.cred > 100001:=c5
 refine ⟨_,cell_of_block (i:=6) h1.here rfl,?_⟩
 refine brE_dec (fun c6 => ?_) (fun c6 => ?_)
 ·have c6:p.letter < 0:=c6
  exact ⟨congrArg (Value.int .i64) (profE_no fun h => by unfold Prof.Ok at h; omega),h1.ext⟩
 have c6:¬ p.letter < 0:=c6
 refine ⟨_,cell_of_block (i:=6) h1.here rfl,?_⟩
 refine brE_dec (fun c7 => ?_) (fun c7 => ?_)
 ·have c7:p.letter > 200:=c7
  exact ⟨congrArg (Value.int .i64) (profE_no fun h => by unfold Prof.Ok at h; omega),h1.ext⟩
 have c7:¬ p.letter > 200:=c7
 exact ⟨congrArg (Value.int .i64) (Eq.symm (if_pos (by unfold Prof.Ok; omega))),h1.ext⟩
end Go.Proofs.YtigapannpbaihaaGreat.Rk
namespace Go.Proofs.YtigapannpbaihaaGreat.Rk
open Go.Eng Go.RowKit
mutual
def cntT:Tst -> Nat
 | .mk _ _ _ _ _ _ of => 1 + cntL of
def cntL:List Tst -> Nat
 | [] => 0
 | x :: r => cntT x + cntL r
end
mutual
def depT:Tst -> Nat
 | .mk _ _ _ _ _ _ of => 1 + depL of
def depL:List Tst -> Nat
 | [] => 0
 | x :: r => max (depT x) (depL r)
end
theorem cntT_eq (t:Tst):cntT t = 1 + cntL t.of:=by cases t; rfl
theorem depT_eq (t:Tst):depT t = 1 + depL t.of:=by cases t; rfl
theorem cntL_append:∀ (a b:List Tst),cntL (a ++ b) = cntL a + cntL b
 | [],b => by simp [cntL]
 | x :: r,b => by simp only [List.cons_append,cntL,cntL_append r b]; omega
theorem depL_append:∀ (a b:List Tst),depL (a ++ b) = max (depL a) (depL b)
 | [],b => by simp [depL]
 | x :: r,b => by simp only [List.cons_append,depL,depL_append r b]; omega
theorem cntL_take {l:List Tst} {i:Nat} (h:i < l.length):cntL (l.take (i + 1)) = cntL (l.take i) + cntT l[i]:=by
 rw [List.take_succ_eq_append_getElem h,cntL_append]; simp [cntL]
theorem depL_take {l:List Tst} {i:Nat} (h:i < l.length):depL (l.take (i + 1)) = max (depL (l.take i)) (depT l[i]):=by
 rw [List.take_succ_eq_append_getElem h,depL_append]; simp [depL]
theorem cntL_part (l:List Tst) (i:Nat):cntL (l.take i) <= cntL l:=by
 have h:=cntL_append (l.take i) (l.drop i)
 rw [List.take_append_drop] at h; omega
theorem depL_part (l:List Tst) (i:Nat):depL (l.take i) <= depL l:=by
 have h:=depL_append (l.take i) (l.drop i)
 rw [List.take_append_drop] at h; omega
theorem depT_pos (t:Tst):1 <= depT t:=by rw [depT_eq]; omega
def fitsP (t:Tst):Prop:=cntT t <= 24 ∧ depT t <= 6
instance (t:Tst):Decidable (fitsP t):=by unfold fitsP; infer_instance
def sizeF (g4 g5 g6:Nat):Value:=.func (.func 69) #[] #[.pointer (some ⟨g4,0,none⟩),.pointer (some ⟨g5,0,none⟩),.pointer (some ⟨g6,0,none⟩)]
def intB (n:Nat):Obj:=.cells #[.int .i64 (n:Nat)] 3 (0,0)
set_option maxRecDepth 100000 in
set_option maxHeartbeats 2000000 in
theorem walk_spec {w0:World} {t:Tst} (h:TestIs w0 t):∀ {w:World} {g4 g5 g6 n d at':Nat},Mem w0 w [(g6,.cells #[sizeF g4 g5 g6] 178 (0,0)),(g5,intB d),(g4,intB n)] -> n <= 24 -> d <= 6 -> at' <= 7 →
  CallsV C.P 69 #[t.val,.int .i64 (at':Nat),.pointer (some ⟨g4,0,none⟩),.pointer (some ⟨g5,0,none⟩),.pointer (some ⟨g6,0,none⟩)] w fun v w' => ∃ n' d':Nat,Mem w0 w' [(g6,.cells #[sizeF g4 g5 g6] 178 (0,0)),(g5,intB d'),(g4,intB n')] ∧
   ((v = .bool true ∧ n' = n + cntT t ∧ d' = max d (at' + depT t - 1) ∧ n' <= 24 ∧ d' <= 6) ∨ (v = .bool false ∧ (24 < n + cntT t ∨ 6 < max d (at' + depT t - 1)))):=by
 induction h with
 | @mk t hn hr hc hl hk ih =>
 intro w g4 g5 g6 n d at' M hn1 hd1 hat
 refine callsV_of C_ok (args:=[_,_,_,_,_]) (plans:=[]) Tryz.func69 rfl Tryz.ntmps69 (by kernel_rfl) (Nat.le_of_ble_eq_true rfl) ?_
 intro gt w1 h1
 have M1:=M.alloc h1
 have ec:=cntT_eq t
 have ed:=depT_eq t
 refine ⟨_,M1.cell 3 rfl rfl,?_⟩
 refine ⟨((n + 1:Nat):Int),fit ⟨by omega,by omega⟩,?_⟩
 refine ⟨rfl,_,_,M1.get 3 rfl,Nat.le_of_ble_eq_true rfl,rfl,?_⟩
 intro w2 h2
 have M2:Mem w0 w2 [(gt,.cells t.cells.toArray 91 (0,0)),(g6,.cells #[sizeF g4 g5 g6] 178 (0,0)),(g5,intB d),(g4,intB (n + 1))]:=M1.put 3 rfl h2
 refine ⟨_,M2.cell 2 rfl rfl,?_⟩
 have hmx:(if ((at':Nat):Int) > ((d:Nat):Int) then ((at':Nat):Int) else ((d:Nat):Int)) = ((max d at':Nat):Int):=by split <;> omega
 refine ⟨_,maxQ' hmx rfl rfl rfl,?_⟩
 refine ⟨rfl,_,_,M2.get 2 rfl,Nat.le_of_ble_eq_true rfl,rfl,?_⟩
 intro w3 h3
 have M3:Mem w0 w3 [(gt,.cells t.cells.toArray 91 (0,0)),(g6,.cells #[sizeF g4 g5 g6] 178 (0,0)),(g5,intB (max d at')),(g4,intB (n + 1))]:=M2.put 2 rfl h3
 clear M M1 M2 h1 h2 h3
 refine ⟨_,M3.cell 3 rfl rfl,?_⟩
 refine brE_dec (fun c1 => ?_) (fun c1 => ?_)
 ·have c1:((n + 1:Nat):Int) > 24:=c1
  exact ⟨_,_,M3.tail,.inr ⟨rfl,.inl (by omega)⟩⟩
 have c1:¬ ((n + 1:Nat):Int) > 24:=c1
 refine ⟨_,M3.cell 2 rfl rfl,?_⟩
 refine brE_dec (fun c2 => ?_) (fun c2 => ?_)
 ·have c2:((max d at':Nat):Int) > 6:=c2
  exact ⟨_,_,M3.tail,.inr ⟨rfl,.inr (by omega)⟩⟩
 have c2:¬ ((max d at':Nat):Int) > 6:=c2
 refine ⟨_,M3.cell 0 (i:=4) rfl rfl,?_⟩
 refine loopE C_ok (fun (s:Nat × Nat × Nat) => [(1,.int .i64 (at':Nat)),(4,.pointer (some ⟨g6,0,none⟩)),(22,.slice t.A t.of.length t.c),(23,.int .i64 t.of.length),(24,.int .i64 (s.1:Nat))])
  (fun s w' => s.1 <= t.of.length ∧ Mem w0 w' [(g6,.cells #[sizeF g4 g5 g6] 178 (0,0)),(g5,intB s.2.2),(g4,intB s.2.1)] ∧ s.2.1 = n + 1 + cntL (t.of.take s.1) ∧ s.2.2 = max (max d at') (at' + depL (t.of.take s.1)) ∧ s.2.1 <= 24 ∧ s.2.2 <= 6)
  (fun s => t.of.length - s.1) (0,n + 1,max d at') ⟨rfl,rfl,rfl,rfl,rfl,trivial⟩ ⟨Nat.zero_le _,M3.tail,by simp [cntL],by simp [depL],by show n + 1 <= 24; omega,by show max d at' <= 6; omega⟩ ?_
 rintro ⟨i,ni,di⟩ w4 ⟨hi',M',en',ed',hn2',hd2'⟩
 have hi:i <= t.of.length:=hi'
 have M:Mem w0 w4 [(g6,.cells #[sizeF g4 g5 g6] 178 (0,0)),(g5,intB di),(g4,intB ni)]:=M'
 have en:ni = n + 1 + cntL (t.of.take i):=en'
 have edd:di = max (max d at') (at' + depL (t.of.take i)):=ed'
 have hn2:ni <= 24:=hn2'
 have hd2:di <= 6:=hd2'
 clear hi' M' en' ed' hn2' hd2'
 refine brE_dec (fun hlt => ?_) (fun hge => ?_)
 ·have hlti:i < t.of.length:=by have:(i:Int) < (t.of.length:Nat):=hlt; omega
  have next:IntKind.i64.wrap ((i:Int) + 1) = ((i + 1:Nat):Int):=fit ⟨by omega,by omega⟩
  obtain ⟨b,o,hA,hc5⟩:=Reads.elem Tst.len (by omega) (hr.ext M.ext) hlti
  obtain ⟨x,hx⟩:∃ x,x = t.of[i]:=⟨_,rfl⟩
  rw [<-hx] at hc5
  have ct:=cntL_take hlti
  have dt:=depL_take hlti
  rw [<-hx] at ct dt
  have cp:=cntL_part t.of (i + 1)
  have dp:=depL_part t.of (i + 1)
  have px:=depT_pos x
  refine ⟨i,b,o,rfl,hlti,hA,?_⟩
  refine ⟨x.cells,rfl,hc5,?_⟩
  intro g9 w5 h5
  have M5:=M.alloc h5
  refine ⟨rfl,_,_,M5.get 0 rfl,Nat.le_of_ble_eq_true rfl,rfl,?_⟩
  intro w6 h6
  have M6:Mem w0 w6 [(g9,.cells x.cells.toArray 91 (0,0)),(g6,.cells #[sizeF g4 g5 g6] 178 (0,0)),(g5,intB di),(g4,intB ni)]:=M5.put 0 rfl h6
  refine ⟨_,M6.cell 1 rfl rfl,?_⟩
  refine ⟨x.cells,rfl,M6.rd 0 rfl,?_⟩
  refine ⟨((at' + 1:Nat):Int),fit ⟨by omega,by omega⟩,?_⟩
  refine (ih x (by rw [hx]; exact List.getElem_mem hlti) M6.tail hn2 hd2 (by omega)).mono ?_
  rintro v w7 ⟨n',d',M7,⟨rfl,e1,e2,k1,k2⟩ | ⟨rfl,hbad⟩⟩
  ·refine ⟨_,next,?_⟩
   refine ⟨(i + 1,n',d'),⟨rfl,rfl,rfl,rfl,rfl,trivial⟩,⟨hlti,M7,by show n' = n + 1 + cntL (t.of.take (i + 1)); omega,by show d' = max (max d at') (at' + depL (t.of.take (i + 1))); omega,k1,k2⟩,by show t.of.length - (i + 1) < t.of.length - i; omega⟩
  ·refine ⟨_,_,M7,.inr ⟨rfl,?_⟩⟩
   rcases hbad with hb | hb
   ·exact .inl (by omega)
   ·exact .inr (by omega)
 ·have hie:i = t.of.length:=by have:¬ (i:Int) < (t.of.length:Nat):=hge; omega
  rw [hie,List.take_length] at en edd
  exact ⟨_,_,M,.inl ⟨rfl,by omega,by omega,hn2,hd2⟩⟩
set_option maxRecDepth 100000 in
theorem Size_spec {w1:World} {t:Tst} (h:TestIs w1 t):CallsV C.P 22 #[t.val] w1 fun v w' => (∃ n d:Int,v = .tuple #[.int .i64 n,.int .i64 d] ∧ (n <= 24 <-> fitsP t) ∧ 0 <= n ∧ n <= 25) ∧ Ext w1 w':=by
 refine callsV_of C_ok (args:=[_]) (plans:=plans22) Tryz.func22 rfl Tryz.ntmps22 (by kernel_rfl) (Nat.le_of_ble_eq_true rfl) ?_
 intro gb w2 h2
 have M2:=(Mem.start w1).alloc h2
 intro g4 w3 h3
 have M3:=M2.alloc h3
 intro g5 w4 h4
 have M4:=M3.alloc h4
 refine ⟨rfl,_,_,M4.get 1 rfl,Nat.le_of_ble_eq_true rfl,rfl,?_⟩
 intro w5 h5
 have M5:=M4.put 1 rfl h5
 refine ⟨rfl,_,_,M5.get 0 rfl,Nat.le_of_ble_eq_true rfl,rfl,?_⟩
 intro w6 h6
 have M6:Mem w1 w6 [(g5,intB 0),(g4,intB 0),(gb,.cells t.cells.toArray 91 (0,0))]:=M5.put 0 rfl h6
 intro g6 w7 h7
 have M7:=M6.alloc h7
 refine ⟨[],[.pointer (some ⟨g4,0,none⟩),.pointer (some ⟨g5,0,none⟩),.pointer (some ⟨g6,0,none⟩)],rfl,rfl,?_⟩
 refine ⟨rfl,_,_,M7.get 0 rfl,Nat.le_of_ble_eq_true rfl,rfl,?_⟩
 intro w8 h8
 have M8:Mem w1 w8 [(g6,.cells #[sizeF g4 g5 g6] 178 (0,0)),(g5,intB 0),(g4,intB 0),(gb,.cells t.cells.toArray 91 (0,0))]:=M7.put 0 rfl h8
 have M9:Mem w1 w8 [(g6,.cells #[sizeF g4 g5 g6] 178 (0,0)),(g5,intB 0),(g4,intB 0)]:=M8.sub (by simp)
 refine ⟨_,M8.cell 0 rfl rfl,?_⟩
 refine ⟨t.cells,rfl,M8.rd 3 rfl,?_⟩
 refine (walk_spec (n:=0) (d:=0) (at':=1) h M9 (by omega) (by omega) (by omega)).mono ?_
 rintro v w9 ⟨n',d',M10,⟨rfl,e1,e2,k1,k2⟩ | ⟨rfl,hbad⟩⟩
 ·refine ⟨_,M10.cell 2 rfl rfl,?_⟩
  refine ⟨_,M10.cell 1 rfl rfl,?_⟩
  exact ⟨⟨_,_,rfl,⟨fun _ => ⟨by omega,by omega⟩,fun _ => by omega⟩,by omega,by omega⟩,M10.ext⟩
 ·refine ⟨⟨_,_,rfl,⟨fun hh => absurd hh (by decide),fun hh => ?_⟩,by decide,by decide⟩,M10.ext⟩
  have h1:=hh.1
  have h2:=hh.2
  omega
set_option maxRecDepth 100000 in
theorem fits_spec {w:World} {t:Tst} (h:TestIs w t):CallsV C.P 127 #[t.val] w fun v w' => v = .bool (decide (fitsP t)) ∧ Ext w w':=by
 refine callsV_of C_ok (args:=[_]) (plans:=[]) Tryz.func127 rfl Tryz.ntmps127 (by kernel_rfl) (Nat.le_of_ble_eq_true rfl) ?_
 intro g1 w1 h1
 refine ⟨t.cells,rfl,Rd.of_block h1.here,?_⟩
 refine (Size_spec (h.ext h1.ext)).mono ?_
 rintro v w2 ⟨⟨n,d,rfl,hn,_,_⟩,e⟩
 exact ⟨congrArg Value.bool (decide_eq_decide.2 hn),h1.ext.trans e⟩
end Go.Proofs.YtigapannpbaihaaGreat.Rk
namespace Go.Proofs.YtigapannpbaihaaGreat.Rk
open Go.Eng Go.RowKit
def sideB (s:Int):Bool:=decide (s = 1 ∨ s = 2)
def nodeK (op k attr side n:Int) (r:Bool) (len:Nat):Bool :=
 if op = 1 then decide (len = 0 ∧ attr = 0 ∧ side = 0 ∧ n = 0)
 else if op = 2 ∨ op = 3 then decide (len = 0 ∧ (k = 1 ∨ k = 3) ∧ side = 0 ∧ n = 0)
 else if op = 4 then decide (len = 0 ∧ k ≠ 0 ∧ side = 0 ∧ n = 0)
 else if op = 5 then decide (len = 0 ∧ (k = 1 ∨ k = 2) ∧ sideB side = true ∧ r = true)
 else if op = 6 then decide (len = 0 ∧ k = 1 ∧ sideB side = true ∧ r = true)
 else if op = 7 then decide (len = 1 ∧ attr = 0 ∧ side = 0 ∧ n = 0)
 else if op = 8 ∨ op = 9 then decide (2 <= len ∧ attr = 0 ∧ side = 0 ∧ n = 0)
 else false
def nodeB (t:Tst):Bool:=nodeK t.op (kindZ t.attr) t.attr t.side t.n (rangeB t.attr t.n) t.of.length
mutual
def shapedT:Tst -> Bool
 | .mk op attr side n A c of => nodeB (.mk op attr side n A c of) && shapedL of
def shapedL:List Tst -> Bool
 | [] => true
 | x :: r => shapedT x && shapedL r
end
theorem shapedT_eq (t:Tst):shapedT t = (nodeB t && shapedL t.of):=by cases t; rfl
theorem shapedL_all:∀ (l:List Tst),shapedL l = l.all shapedT
 | [] => rfl
 | x :: r => by rw [shapedL,shapedL_all r]; rfl
theorem last4 {A1 A2 A3:Prop} [Decidable A1] [Decidable A2] [Decidable A3] {b:Bool} (h1:A1) (h2:A2) (h3:A3):b = decide (A1 ∧ A2 ∧ A3 ∧ b = true):=by
 cases b
 ·exact (decide_eq_false fun h => by cases h.2.2.2).symm
 ·exact (decide_eq_true ⟨h1,h2,h3,rfl⟩).symm
section
variable {k attr side n:Int} {r:Bool} {len:Nat}
theorem node1:nodeK 1 k attr side n r len = decide (len = 0 ∧ attr = 0 ∧ side = 0 ∧ n = 0):=rfl
theorem node2:nodeK 2 k attr side n r len = decide (len = 0 ∧ (k = 1 ∨ k = 3) ∧ side = 0 ∧ n = 0):=rfl
theorem node3:nodeK 3 k attr side n r len = decide (len = 0 ∧ (k = 1 ∨ k = 3) ∧ side = 0 ∧ n = 0):=rfl
theorem node4:nodeK 4 k attr side n r len = decide (len = 0 ∧ k ≠ 0 ∧ side = 0 ∧ n = 0):=rfl
theorem node5:nodeK 5 k attr side n r len = decide (len = 0 ∧ (k = 1 ∨ k = 2) ∧ sideB side = true ∧ r = true):=rfl
theorem node6:nodeK 6 k attr side n r len = decide (len = 0 ∧ k = 1 ∧ sideB side = true ∧ r = true):=rfl
theorem node7:nodeK 7 k attr side n r len = decide (len = 1 ∧ attr = 0 ∧ side = 0 ∧ n = 0):=rfl
theorem node8:nodeK 8 k attr side n r len = decide (2 <= len ∧ attr = 0 ∧ side = 0 ∧ n = 0):=rfl
theorem node9:nodeK 9 k attr side n r len = decide (2 <= len ∧ attr = 0 ∧ side = 0 ∧ n = 0):=rfl
end
theorem node_off {op k attr side n:Int} {r:Bool} {len:Nat} (h1:¬ op = 1) (h2:¬ op = 2) (h3:¬ op = 3) (h4:¬ op = 4) (h5:¬ op = 5) (h6:¬ op = 6) (h7:¬ op = 7) (h8:¬ op = 8) (h9:¬ op = 9):nodeK op k attr side n r len = false:=by
 unfold nodeK
 rw [if_neg h1,if_neg (by omega),if_neg h4,if_neg h5,if_neg h6,if_neg h7,if_neg (by omega)]
theorem index_unshaped {w0:World} {of:List Tst} {A:Option Addr} {c:Nat} (hr:Reads w0 A (of.flatMap Tst.cells)) (hl:of.length <= 9223372036854775807)
  (ih:∀ x ∈ of,∀ {w:World},Ext w0 w -> CallsV C.P 128 #[x.val] w fun v w' => v = .bool (shapedT x) ∧ Ext w w') {w:World} (e0:Ext w0 w) :
  CallsV C.P 177 #[.slice A of.length c,.func (.func 178) #[] #[]] w fun v w' => v = .bool (!shapedL of) ∧ Ext w w':=by
 refine callsV_of C_ok (args:=[_,_]) (plans:=[]) Tryz.func177 rfl Tryz.ntmps177 (by kernel_rfl) (Nat.le_of_ble_eq_true rfl) ?_
 have hI:CallsV C.P 219 #[.slice A of.length c,.func (.func 178) #[] #[]] w fun v w' => (∃ z:Int,v = .int .i64 z ∧ (z >= 0 <-> ¬ shapedL of = true)) ∧ Ext w w':=by
  refine callsV_of C_ok (args:=[_,_]) (plans:=[]) Tryz.func219 rfl Tryz.ntmps219 (by kernel_rfl) (Nat.le_of_ble_eq_true rfl) ?_
  refine loopE C_ok (fun (i:Nat) => [(0,.slice A of.length c),(1,.func (.func 178) #[] #[]),(7,.int .i64 of.length),(8,.int .i64 (i:Nat))])
   (fun i w' => i <= of.length ∧ Ext w w' ∧ (of.take i).all shapedT = true) (fun i => of.length - i) 0 ⟨rfl,rfl,rfl,rfl,trivial⟩ ⟨Nat.zero_le _,Ext.refl _,rfl⟩ ?_
  rintro i w1 ⟨hi,e1,hall⟩
  refine brE_dec (fun hlt => ?_) (fun hge => ?_)
  ·have hlti:i < of.length:=by have:(i:Int) < (of.length:Nat):=hlt; omega
   have next:IntKind.i64.wrap ((i:Int) + 1) = ((i + 1:Nat):Int):=fit ⟨by omega,by omega⟩
   obtain ⟨b,o,hA,hc5⟩:=Reads.elem Tst.len (by omega) (hr.ext (e0.trans e1)) hlti
   obtain ⟨x,hx⟩:∃ x,x = of[i]:=⟨_,rfl⟩
   have hxm:x ∈ of:=by rw [hx]; exact List.getElem_mem hlti
   have hst:(of.take (i + 1)).all shapedT = ((of.take i).all shapedT && shapedT x):=by rw [List.take_succ_eq_append_getElem hlti,List.all_append,<-hx]; simp
   rw [<-hx] at hc5
   refine ⟨i,b,o,rfl,hlti,hA,?_⟩
   refine ⟨x.cells,rfl,hc5,?_⟩
   have hS:CallsV C.P 178 #[x.val] w1 fun v w' => v = .bool (!shapedT x) ∧ Ext w1 w':=by
    refine callsV_of C_ok (args:=[_]) (plans:=[]) Tryz.func178 rfl Tryz.ntmps178 (by kernel_rfl) (Nat.le_of_ble_eq_true rfl) ?_
    intro g w2 h2
    refine ⟨x.cells,rfl,Rd.of_block h2.here,?_⟩
    refine (ih x hxm ((e0.trans e1).trans h2.ext)).mono ?_
    rintro v w3 ⟨rfl,e3⟩
    exact ⟨rfl,h2.ext.trans e3⟩
   refine hS.mono ?_
   rintro v w2 ⟨rfl,e2⟩
   refine brE_mk (fun hb => ?_) (fun hb => ?_)
   ·have hb:shapedT x = false:=by simpa using hb
    refine ⟨⟨(i:Nat),rfl,⟨fun _ hh => ?_,fun _ => Int.natCast_nonneg _⟩⟩,e1.trans e2⟩
    rw [shapedL_all,List.all_eq_true] at hh
    rw [hh x hxm] at hb
    cases hb
   ·have hb:shapedT x = true:=by simpa using hb
    refine ⟨_,next,?_⟩
    exact ⟨i + 1,⟨rfl,rfl,rfl,rfl,trivial⟩,⟨hlti,e1.trans e2,by rw [hst,hall,hb]; rfl⟩,by show of.length - (i + 1) < of.length - i; omega⟩
  ·have hie:i = of.length:=by have:¬ (i:Int) < (of.length:Nat):=hge; omega
   rw [hie,List.take_length] at hall
   exact ⟨⟨-1,rfl,⟨fun h => absurd h (by decide),fun h => absurd (by rw [shapedL_all]; exact hall) h⟩⟩,e1⟩
 refine hI.mono ?_
 rintro v w' ⟨⟨z,rfl,hz⟩,e⟩
 refine ⟨congrArg Value.bool ?_,e⟩
 cases hs:shapedL of with
 | true => exact decide_eq_false fun h => hz.1 h hs
 | false => exact decide_eq_true (hz.2 (by rw [hs]; decide))
set_option maxRecDepth 100000 in
set_option maxHeartbeats 8000000 in
theorem shaped_spec {w0:World} {t:Tst} (h:TestIs w0 t):∀ {w:World},Ext w0 w -> CallsV C.P 128 #[t.val] w fun v w' => v = .bool (shapedT t) ∧ Ext w w':=by
 induction h with
 | @mk t hn hr hc hl hk ih =>
 intro w e0
 obtain ⟨op,attr,side,n,A,c,of⟩:=t
 rw [shapedT_eq]
 obtain ⟨kd,hkd⟩:∃ kd,kd = kindZ attr:=⟨_,rfl⟩
 obtain ⟨nb,hnb⟩:∃ nb,nb = nodeB (.mk op attr side n A c of):=⟨_,rfl⟩
 rw [<-hnb]
 have hnb2:nodeK op kd attr side n (rangeB attr n) of.length = nb:=by rw [hkd]; exact hnb.symm
 have hl:of.length <= 9223372036854775807:=hl
 clear hnb hn
 refine callsV_ofS (args:=[_]) Tryz.func128 rfl Tryz.ntmps128 C_ok (Nat.le_of_ble_eq_true rfl) ?_
 refine Snd.go C_ok [] (by kernel_rfl) ?_
 intro g1 w1 h1
 have HB:∀ {i:Nat} {v:Value},(Tst.mk op attr side n A c of).cells.toArray[i]? = some v -> w1.cell? ⟨g1,i,none⟩ = some v:=fun hv => cell_of_block h1.here hv
 have E1:Ext w w1:=h1.ext
 clear h1
 refine ⟨Snd.go C_ok [] (by kernel_rfl) ?_⟩
 refine ⟨_,HB (i:=1) rfl,?_⟩
 have X:=kindOf_spec attr w1
 rw [<-hkd] at X
 refine X.mono ?_
 clear X
 rintro v w1 ⟨rfl,rfl⟩
 refine ⟨Snd.go C_ok [] (by kernel_rfl) ?_⟩
 refine ⟨_,HB (i:=4) rfl,?_⟩
 refine ⟨Snd.join C_ok [] (fun _:Unit => [(1,.pointer (some ⟨g1,0,none⟩)),(3,.int .i64 kd),(4,.bool (decide (((of.length:Nat):Int) = 0))),(5,.bool (sideB side))]) (fun _ w' => w' = w1) (by kernel_rfl) ?_ ?_⟩
 ·refine ⟨_,HB (i:=2) rfl,?_⟩
  refine brE_dec (fun s1 => ?_) (fun s1 => ?_)
  ·have s1:side = 1:=s1
   exact ⟨(),⟨rfl,rfl,rfl,congrArg (fun x => some (Value.bool x)) (decide_eq_true (.inl s1)).symm,trivial⟩,rfl⟩
  ·have s1:¬ side = 1:=s1
   refine ⟨_,HB (i:=2) rfl,?_⟩
   exact ⟨(),⟨rfl,rfl,rfl,congrArg (fun x => some (Value.bool x)) (decide_eq_decide.2 ⟨fun x => .inr x,fun h => h.resolve_left s1⟩),trivial⟩,rfl⟩
 rintro _ w1 rfl
 refine Snd.go C_ok [] (by kernel_rfl) ?_
 refine ⟨Snd.join C_ok [] (fun _:Unit => [(1,.pointer (some ⟨g1,0,none⟩)),(6,.bool nb)]) (fun _ w' => w' = w1) (by kernel_rfl) ?_ ?_⟩
 ·refine ⟨_,HB (i:=0) rfl,?_⟩
  refine brE_dec (fun o1 => ?_) (fun o1 => ?_)
  ·have o1:op = 1:=o1
   subst o1
   refine brE_dec (fun l0 => ?_) (fun l0 => ?_)
   ·have l0:of.length = 0:=by have l0:((of.length:Nat):Int) = 0:=l0; omega
    refine ⟨_,HB (i:=1) rfl,?_⟩
    refine brE_dec (fun a0 => ?_) (fun a0 => ?_)
    ·have a0:attr = 0:=a0
     refine ⟨_,HB (i:=2) rfl,?_⟩
     refine brE_dec (fun s0 => ?_) (fun s0 => ?_)
     ·have s0:side = 0:=s0
      refine ⟨_,HB (i:=3) rfl,?_⟩
      exact ⟨(),⟨rfl,congrArg (fun x => some (Value.bool x)) (((decide_eq_decide.2 ⟨fun x => ⟨l0,a0,s0,x⟩,fun h => h.2.2.2⟩).trans node1.symm).trans hnb2),trivial⟩,rfl⟩
     ·have s0:¬ (side = 0):=s0
      exact ⟨(),⟨rfl,congrArg (fun x => some (Value.bool x)) (((node1.trans (decide_eq_false fun h => s0 h.2.2.1)).symm).trans hnb2),trivial⟩,rfl⟩
    ·have a0:¬ (attr = 0):=a0
     exact ⟨(),⟨rfl,congrArg (fun x => some (Value.bool x)) (((node1.trans (decide_eq_false fun h => a0 h.2.1)).symm).trans hnb2),trivial⟩,rfl⟩
   ·have l0:¬ (of.length = 0):=by have l0:¬ ((of.length:Nat):Int) = 0:=l0; omega
    exact ⟨(),⟨rfl,congrArg (fun x => some (Value.bool x)) (((node1.trans (decide_eq_false fun h => l0 h.1)).symm).trans hnb2),trivial⟩,rfl⟩
  have o1:¬ op = 1:=o1
  refine brE_dec (fun o2 => ?_) (fun o2 => ?_)
  ·have o2:op = 2:=o2
   refine brE_true (decide_eq_true o2) ?_
   subst o2
   refine brE_dec (fun l0 => ?_) (fun l0 => ?_)
   ·have l0:of.length = 0:=by have l0:((of.length:Nat):Int) = 0:=l0; omega
    refine brE_dec (fun k1 => ?_) (fun k1 => ?_)
    ·have k1:kd = 1:=k1
     refine ⟨_,HB (i:=2) rfl,?_⟩
     refine brE_dec (fun s0 => ?_) (fun s0 => ?_)
     ·have s0:side = 0:=s0
      refine ⟨_,HB (i:=3) rfl,?_⟩
      exact ⟨(),⟨rfl,congrArg (fun x => some (Value.bool x)) (((decide_eq_decide.2 ⟨fun x => ⟨l0,.inl k1,s0,x⟩,fun h => h.2.2.2⟩).trans node2.symm).trans hnb2),trivial⟩,rfl⟩
     ·have s0:¬ (side = 0):=s0
      exact ⟨(),⟨rfl,congrArg (fun x => some (Value.bool x)) (((node2.trans (decide_eq_false fun h => s0 h.2.2.1)).symm).trans hnb2),trivial⟩,rfl⟩
    ·have k1:¬ (kd = 1):=k1
     refine brE_dec (fun k3 => ?_) (fun k3 => ?_)
     ·have k3:kd = 3:=k3
      refine ⟨_,HB (i:=2) rfl,?_⟩
      refine brE_dec (fun s0 => ?_) (fun s0 => ?_)
      ·have s0:side = 0:=s0
       refine ⟨_,HB (i:=3) rfl,?_⟩
       exact ⟨(),⟨rfl,congrArg (fun x => some (Value.bool x)) (((decide_eq_decide.2 ⟨fun x => ⟨l0,.inr k3,s0,x⟩,fun h => h.2.2.2⟩).trans node2.symm).trans hnb2),trivial⟩,rfl⟩
      ·have s0:¬ (side = 0):=s0
       exact ⟨(),⟨rfl,congrArg (fun x => some (Value.bool x)) (((node2.trans (decide_eq_false fun h => s0 h.2.2.1)).symm).trans hnb2),trivial⟩,rfl⟩
     ·have k3:¬ (kd = 3):=k3
      exact ⟨(),⟨rfl,congrArg (fun x => some (Value.bool x)) (((node2.trans (decide_eq_false fun h => (fun e => e.elim k1 k3) h.2.1)).symm).trans hnb2),trivial⟩,rfl⟩
   ·have l0:¬ (of.length = 0):=by have l0:¬ ((of.length:Nat):Int) = 0:=l0; omega
    exact ⟨(),⟨rfl,congrArg (fun x => some (Value.bool x)) (((node2.trans (decide_eq_false fun h => l0 h.1)).symm).trans hnb2),trivial⟩,rfl⟩
  have o2:¬ op = 2:=o2
  refine brE_dec (fun o3 => ?_) (fun o3 => ?_)
  ·have o3:op = 3:=o3
   subst o3
   refine brE_dec (fun l0 => ?_) (fun l0 => ?_)
   ·have l0:of.length = 0:=by have l0:((of.length:Nat):Int) = 0:=l0; omega
    refine brE_dec (fun k1 => ?_) (fun k1 => ?_)
    ·have k1:kd = 1:=k1
     refine ⟨_,HB (i:=2) rfl,?_⟩
     refine brE_dec (fun s0 => ?_) (fun s0 => ?_)
     ·have s0:side = 0:=s0
      refine ⟨_,HB (i:=3) rfl,?_⟩
      exact ⟨(),⟨rfl,congrArg (fun x => some (Value.bool x)) (((decide_eq_decide.2 ⟨fun x => ⟨l0,.inl k1,s0,x⟩,fun h => h.2.2.2⟩).trans node3.symm).trans hnb2),trivial⟩,rfl⟩
     ·have s0:¬ (side = 0):=s0
      exact ⟨(),⟨rfl,congrArg (fun x => some (Value.bool x)) (((node3.trans (decide_eq_false fun h => s0 h.2.2.1)).symm).trans hnb2),trivial⟩,rfl⟩
    ·have k1:¬ (kd = 1):=k1
     refine brE_dec (fun k3 => ?_) (fun k3 => ?_)
     ·have k3:kd = 3:=k3
      refine ⟨_,HB (i:=2) rfl,?_⟩
      refine brE_dec (fun s0 => ?_) (fun s0 => ?_)
      ·have s0:side = 0:=s0
       refine ⟨_,HB (i:=3) rfl,?_⟩
       exact ⟨(),⟨rfl,congrArg (fun x => some (Value.bool x)) (((decide_eq_decide.2 ⟨fun x => ⟨l0,.inr k3,s0,x⟩,fun h => h.2.2.2⟩).trans node3.symm).trans hnb2),trivial⟩,rfl⟩
      ·have s0:¬ (side = 0):=s0
       exact ⟨(),⟨rfl,congrArg (fun x => some (Value.bool x)) (((node3.trans (decide_eq_false fun h => s0 h.2.2.1)).symm).trans hnb2),trivial⟩,rfl⟩
     ·have k3:¬ (kd = 3):=k3
      exact ⟨(),⟨rfl,congrArg (fun x => some (Value.bool x)) (((node3.trans (decide_eq_false fun h => (fun e => e.elim k1 k3) h.2.1)).symm).trans hnb2),trivial⟩,rfl⟩
   ·have l0:¬ (of.length = 0):=by have l0:¬ ((of.length:Nat):Int) = 0:=l0; omega
    exact ⟨(),⟨rfl,congrArg (fun x => some (Value.bool x)) (((node3.trans (decide_eq_false fun h => l0 h.1)).symm).trans hnb2),trivial⟩,rfl⟩
  have o3:¬ op = 3:=o3
  refine brE_dec (fun o4 => ?_) (fun o4 => ?_)
  ·have o4:op = 4:=o4
   subst o4
   refine brE_dec (fun l0 => ?_) (fun l0 => ?_)
   ·have l0:of.length = 0:=by have l0:((of.length:Nat):Int) = 0:=l0; omega
    refine brE_ndec (fun k0 => ?_) (fun k0 => ?_)
    ·have k0:¬ (kd = 0):=k0
     refine ⟨_,HB (i:=2) rfl,?_⟩
     refine brE_dec (fun s0 => ?_) (fun s0 => ?_)
     ·have s0:side = 0:=s0
      refine ⟨_,HB (i:=3) rfl,?_⟩
      exact ⟨(),⟨rfl,congrArg (fun x => some (Value.bool x)) (((decide_eq_decide.2 ⟨fun x => ⟨l0,k0,s0,x⟩,fun h => h.2.2.2⟩).trans node4.symm).trans hnb2),trivial⟩,rfl⟩
     ·have s0:¬ (side = 0):=s0
      exact ⟨(),⟨rfl,congrArg (fun x => some (Value.bool x)) (((node4.trans (decide_eq_false fun h => s0 h.2.2.1)).symm).trans hnb2),trivial⟩,rfl⟩
    ·have k0:kd = 0:=k0
     exact ⟨(),⟨rfl,congrArg (fun x => some (Value.bool x)) (((node4.trans (decide_eq_false fun h => (fun e => e k0) h.2.1)).symm).trans hnb2),trivial⟩,rfl⟩
   ·have l0:¬ (of.length = 0):=by have l0:¬ ((of.length:Nat):Int) = 0:=l0; omega
    exact ⟨(),⟨rfl,congrArg (fun x => some (Value.bool x)) (((node4.trans (decide_eq_false fun h => l0 h.1)).symm).trans hnb2),trivial⟩,rfl⟩
  have o4:¬ op = 4:=o4
  refine brE_dec (fun o5 => ?_) (fun o5 => ?_)
  ·have o5:op = 5:=o5
   subst o5
   refine brE_dec (fun l0 => ?_) (fun l0 => ?_)
   ·have l0:of.length = 0:=by have l0:((of.length:Nat):Int) = 0:=l0; omega
    refine brE_dec (fun k1 => ?_) (fun k1 => ?_)
    ·have k1:kd = 1:=k1
     refine brE_mk (fun sb => ?_) (fun sb => ?_)
     ·have sb:sideB side = true:=sb
      refine ⟨_,HB (i:=1) rfl,?_⟩
      refine ⟨_,HB (i:=3) rfl,?_⟩
      refine (inRange_spec _ _ _).mono ?_
      rintro v w2 ⟨rfl,rfl⟩
      exact ⟨(),⟨rfl,congrArg (fun x => some (Value.bool x)) (((last4 l0 (.inl k1) sb).trans node5.symm).trans hnb2),trivial⟩,rfl⟩
     ·have sb:sideB side = false:=sb
      exact ⟨(),⟨rfl,congrArg (fun x => some (Value.bool x)) (((node5.trans (decide_eq_false fun h => by rw [h.2.2.1] at sb; cases sb)).symm).trans hnb2),trivial⟩,rfl⟩
    ·have k1:¬ (kd = 1):=k1
     refine brE_dec (fun k2 => ?_) (fun k2 => ?_)
     ·have k2:kd = 2:=k2
      refine brE_mk (fun sb => ?_) (fun sb => ?_)
      ·have sb:sideB side = true:=sb
       refine ⟨_,HB (i:=1) rfl,?_⟩
       refine ⟨_,HB (i:=3) rfl,?_⟩
       refine (inRange_spec _ _ _).mono ?_
       rintro v w2 ⟨rfl,rfl⟩
       exact ⟨(),⟨rfl,congrArg (fun x => some (Value.bool x)) (((last4 l0 (.inr k2) sb).trans node5.symm).trans hnb2),trivial⟩,rfl⟩
      ·have sb:sideB side = false:=sb
       exact ⟨(),⟨rfl,congrArg (fun x => some (Value.bool x)) (((node5.trans (decide_eq_false fun h => by rw [h.2.2.1] at sb; cases sb)).symm).trans hnb2),trivial⟩,rfl⟩
     ·have k2:¬ (kd = 2):=k2
      exact ⟨(),⟨rfl,congrArg (fun x => some (Value.bool x)) (((node5.trans (decide_eq_false fun h => (fun e => e.elim k1 k2) h.2.1)).symm).trans hnb2),trivial⟩,rfl⟩
   ·have l0:¬ (of.length = 0):=by have l0:¬ ((of.length:Nat):Int) = 0:=l0; omega
    exact ⟨(),⟨rfl,congrArg (fun x => some (Value.bool x)) (((node5.trans (decide_eq_false fun h => l0 h.1)).symm).trans hnb2),trivial⟩,rfl⟩
  have o5:¬ op = 5:=o5
  refine brE_dec (fun o6 => ?_) (fun o6 => ?_)
  ·have o6:op = 6:=o6
   subst o6
   refine brE_dec (fun l0 => ?_) (fun l0 => ?_)
   ·have l0:of.length = 0:=by have l0:((of.length:Nat):Int) = 0:=l0; omega
    refine brE_dec (fun k1 => ?_) (fun k1 => ?_)
    ·have k1:kd = 1:=k1
     refine brE_mk (fun sb => ?_) (fun sb => ?_)
     ·have sb:sideB side = true:=sb
      refine ⟨_,HB (i:=1) rfl,?_⟩
      refine ⟨_,HB (i:=3) rfl,?_⟩
      refine (inRange_spec _ _ _).mono ?_
      rintro v w2 ⟨rfl,rfl⟩
      exact ⟨(),⟨rfl,congrArg (fun x => some (Value.bool x)) (((last4 l0 (k1) sb).trans node6.symm).trans hnb2),trivial⟩,rfl⟩
     ·have sb:sideB side = false:=sb
      exact ⟨(),⟨rfl,congrArg (fun x => some (Value.bool x)) (((node6.trans (decide_eq_false fun h => by rw [h.2.2.1] at sb; cases sb)).symm).trans hnb2),trivial⟩,rfl⟩
    ·have k1:¬ (kd = 1):=k1
     exact ⟨(),⟨rfl,congrArg (fun x => some (Value.bool x)) (((node6.trans (decide_eq_false fun h => k1 h.2.1)).symm).trans hnb2),trivial⟩,rfl⟩
   ·have l0:¬ (of.length = 0):=by have l0:¬ ((of.length:Nat):Int) = 0:=l0; omega
    exact ⟨(),⟨rfl,congrArg (fun x => some (Value.bool x)) (((node6.trans (decide_eq_false fun h => l0 h.1)).symm).trans hnb2),trivial⟩,rfl⟩
  have o6:¬ op = 6:=o6
  refine brE_dec (fun o7 => ?_) (fun o7 => ?_)
  ·have o7:op = 7:=o7
   subst o7
   refine ⟨_,HB (i:=4) rfl,?_⟩
   refine brE_dec (fun l0 => ?_) (fun l0 => ?_)
   ·have l0:of.length = 1:=by have l0:((of.length:Nat):Int) = 1:=l0; omega
    refine ⟨_,HB (i:=1) rfl,?_⟩
    refine brE_dec (fun a0 => ?_) (fun a0 => ?_)
    ·have a0:attr = 0:=a0
     refine ⟨_,HB (i:=2) rfl,?_⟩
     refine brE_dec (fun s0 => ?_) (fun s0 => ?_)
     ·have s0:side = 0:=s0
      refine ⟨_,HB (i:=3) rfl,?_⟩
      exact ⟨(),⟨rfl,congrArg (fun x => some (Value.bool x)) (((decide_eq_decide.2 ⟨fun x => ⟨l0,a0,s0,x⟩,fun h => h.2.2.2⟩).trans node7.symm).trans hnb2),trivial⟩,rfl⟩
     ·have s0:¬ (side = 0):=s0
      exact ⟨(),⟨rfl,congrArg (fun x => some (Value.bool x)) (((node7.trans (decide_eq_false fun h => s0 h.2.2.1)).symm).trans hnb2),trivial⟩,rfl⟩
    ·have a0:¬ (attr = 0):=a0
     exact ⟨(),⟨rfl,congrArg (fun x => some (Value.bool x)) (((node7.trans (decide_eq_false fun h => a0 h.2.1)).symm).trans hnb2),trivial⟩,rfl⟩
   ·have l0:¬ (of.length = 1):=by have l0:¬ ((of.length:Nat):Int) = 1:=l0; omega
    exact ⟨(),⟨rfl,congrArg (fun x => some (Value.bool x)) (((node7.trans (decide_eq_false fun h => l0 h.1)).symm).trans hnb2),trivial⟩,rfl⟩
  have o7:¬ op = 7:=o7
  refine brE_dec (fun o8 => ?_) (fun o8 => ?_)
  ·have o8:op = 8:=o8
   refine brE_true (decide_eq_true o8) ?_
   subst o8
   refine ⟨_,HB (i:=4) rfl,?_⟩
   refine brE_dec (fun l0 => ?_) (fun l0 => ?_)
   ·have l0:2 <= of.length:=by have l0:((of.length:Nat):Int) >= 2:=l0; omega
    refine ⟨_,HB (i:=1) rfl,?_⟩
    refine brE_dec (fun a0 => ?_) (fun a0 => ?_)
    ·have a0:attr = 0:=a0
     refine ⟨_,HB (i:=2) rfl,?_⟩
     refine brE_dec (fun s0 => ?_) (fun s0 => ?_)
     ·have s0:side = 0:=s0
      refine ⟨_,HB (i:=3) rfl,?_⟩
      exact ⟨(),⟨rfl,congrArg (fun x => some (Value.bool x)) (((decide_eq_decide.2 ⟨fun x => ⟨l0,a0,s0,x⟩,fun h => h.2.2.2⟩).trans node8.symm).trans hnb2),trivial⟩,rfl⟩
     ·have s0:¬ (side = 0):=s0
      exact ⟨(),⟨rfl,congrArg (fun x => some (Value.bool x)) (((node8.trans (decide_eq_false fun h => s0 h.2.2.1)).symm).trans hnb2),trivial⟩,rfl⟩
    ·have a0:¬ (attr = 0):=a0
     exact ⟨(),⟨rfl,congrArg (fun x => some (Value.bool x)) (((node8.trans (decide_eq_false fun h => a0 h.2.1)).symm).trans hnb2),trivial⟩,rfl⟩
   ·have l0:¬ (2 <= of.length):=by have l0:¬ ((of.length:Nat):Int) >= 2:=l0; omega
    exact ⟨(),⟨rfl,congrArg (fun x => some (Value.bool x)) (((node8.trans (decide_eq_false fun h => l0 h.1)).symm).trans hnb2),trivial⟩,rfl⟩
  have o8:¬ op = 8:=o8
  refine brE_dec (fun o9 => ?_) (fun o9 => ?_)
  ·have o9:op = 9:=o9
   subst o9
   refine ⟨_,HB (i:=4) rfl,?_⟩
   refine brE_dec (fun l0 => ?_) (fun l0 => ?_)
   ·have l0:2 <= of.length:=by have l0:((of.length:Nat):Int) >= 2:=l0; omega
    refine ⟨_,HB (i:=1) rfl,?_⟩
    refine brE_dec (fun a0 => ?_) (fun a0 => ?_)
    ·have a0:attr = 0:=a0
     refine ⟨_,HB (i:=2) rfl,?_⟩
     refine brE_dec (fun s0 => ?_) (fun s0 => ?_)
     ·have s0:side = 0:=s0
      refine ⟨_,HB (i:=3) rfl,?_⟩
      exact ⟨(),⟨rfl,congrArg (fun x => some (Value.bool x)) (((decide_eq_decide.2 ⟨fun x => ⟨l0,a0,s0,x⟩,fun h => h.2.2.2⟩).trans node9.symm).trans hnb2),trivial⟩,rfl⟩
     ·have s0:¬ (side = 0):=s0
      exact ⟨(),⟨rfl,congrArg (fun x => some (Value.bool x)) (((node9.trans (decide_eq_false fun h => s0 h.2.2.1)).symm).trans hnb2),trivial⟩,rfl⟩
    ·have a0:¬ (attr = 0):=a0
     exact ⟨(),⟨rfl,congrArg (fun x => some (Value.bool x)) (((node9.trans (decide_eq_false fun h => a0 h.2.1)).symm).trans hnb2),trivial⟩,rfl⟩
   ·have l0:¬ (2 <= of.length):=by have l0:¬ ((of.length:Nat):Int) >= 2:=l0; omega
    exact ⟨(),⟨rfl,congrArg (fun x => some (Value.bool x)) (((node9.trans (decide_eq_false fun h => l0 h.1)).symm).trans hnb2),trivial⟩,rfl⟩
  have o9:¬ op = 9:=o9
  exact ⟨(),⟨rfl,congrArg (fun x => some (Value.bool x)) (((node_off o1 o2 o3 o4 o5 o6 o7 o8 o9).symm).trans hnb2),trivial⟩,rfl⟩
 rintro _ w1 rfl
 refine Snd.fin C_ok (plans:=[]) (by kernel_rfl) ?_
 refine brE_mk (fun b => ?_) (fun b => ?_)
 ·have b:nb = true:=b
  refine ⟨_,HB (i:=4) rfl,?_⟩
  refine (index_unshaped hr hl (fun x hx {w} e => ih x hx e) (e0.trans E1)).mono ?_
  rintro v w3 ⟨rfl,e3⟩
  exact ⟨congrArg Value.bool (by rw [b,Bool.not_not,Bool.true_and]),E1.trans e3⟩
 ·have b:nb = false:=b
  exact ⟨congrArg Value.bool (by rw [b]; rfl),E1⟩
end Go.Proofs.YtigapannpbaihaaGreat.Rk
