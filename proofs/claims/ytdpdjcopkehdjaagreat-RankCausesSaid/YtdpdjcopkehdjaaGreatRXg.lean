/- a part of the proof: steps, walks and plain laws that the law below stands on; no condition. -/
import Derived.Test.YtdpdjcopkehdjaaGreatRXa
import Derived.Test.YtdpdjcopkehdjaaGreatRXb
import Derived.Test.YtdpdjcopkehdjaaGreatRXc
import Derived.Test.YtdpdjcopkehdjaaGreatRXe
import Derived.Test.YtdpdjcopkehdjaaGreatRXf
set_option linter.unusedVariables false
set_option linter.unusedSimpArgs false
set_option linter.unnecessarySimpa false
set_option linter.unusedSectionVars false
namespace Go.Proofs.YtdpdjcopkehdjaaGreat.Rk
open Go.Eng Go.RowKit
theorem lists_nil (B:Nat) (w:World):Lists B w (.slice none 0 0) []:=⟨[],World.ownsRow_nil _ _ _ _,.nil⟩
theorem Lists.base {B B':Nat} {w:World} {v:Value} {L:List (List Int)} (h:Lists B' w v L) (hb:B <= B'):Lists B w v L :=
 let ⟨us,h1,h2⟩:=h
 ⟨us,ownsRow_base h1 hb,h2.base hb⟩
structure RList (w:World) (A:Option Addr) (L:List (List Int)) (us:List Value):Prop where
 len:us.length = L.length
 reads:Reads w A us
 row:∀ i (h:i < L.length),∃ A' c,us[i]? = some (.slice A' L[i].length c) ∧ Reads w A' (ints L[i])
theorem Lists.read {B:Nat} {w:World} {v:Value} {L:List (List Int)} (h:Lists B w v L):∃ A c us,v = .slice A L.length c ∧ RList w A L us:=by
 obtain ⟨us,h1,h2⟩:=h
 obtain ⟨A,c,e,hr,_⟩:=reads_of_owns h1
 refine ⟨A,c,us,e,h2.length,hr,fun i hi => ?_⟩
 obtain ⟨u,hu,ho⟩:=h2.at hi
 obtain ⟨A',c',e',hr',_⟩:=reads_of_owns ho
 subst e'
 exact ⟨A',c',hu,hr'⟩
theorem RList.ext {w w':World} {A:Option Addr} {L:List (List Int)} {us:List Value} (h:RList w A L us) (e:Ext w w'):RList w' A L us :=
 ⟨h.len,h.reads.ext e,fun i hi => let ⟨A',c,h1,h2⟩:=h.row i hi; ⟨A',c,h1,h2.ext e⟩⟩
def compsL (n:Nat) (R:Nat -> Nat -> Bool):List (List Int):=compsF n R 24 fun _ => false
theorem components_spec {w:World} {g n:Nat} {T R:Nat -> Nat -> Bool} (hw:Web w g n T R) (hn:n <= 24) :
  CallsV C.P 67 #[.pointer (some ⟨g,0,none⟩)] w fun v w' => Lists w.heap.size w' v (compsL n R) ∧ Ext w w':=by
 refine callsV_of C_ok (args:=[_]) (plans:=[]) Tryz.func67 rfl Tryz.ntmps67 (by kernel_rfl) (Nat.le_of_ble_eq_true rfl) ?_
 intro gb w1 h1
 intro go w2 h2
 intro gd w3 h3
 intro gv w4 h4
 refine ⟨[],[.pointer (some ⟨gb,0,none⟩),.pointer (some ⟨gd,0,none⟩),.pointer (some ⟨go,0,none⟩),.pointer (some ⟨gv,0,none⟩)],rfl,rfl,?_⟩
 have M4:=((((Mem.start w).alloc h1).alloc h2).alloc h3).alloc h4
 refine ⟨rfl,_,_,M4.get 0 rfl,Nat.le_of_ble_eq_true rfl,rfl,?_⟩
 intro w5 h5
 have M5:=M4.put 0 rfl h5
 refine ⟨_,cell_of_block h5.here rfl,?_⟩
 have e0:List.replicate 24 (Value.bool false) = setCells fun _ => false:=bools_false 24
 have hd:w5.heap[gd]? = some (.cells (setCells fun _ => false).toArray 128 (0,0)):=by rw [<-e0]; exact M5.get 1 rfl
 have hl:Lists w.heap.size w5 (.slice none 0 0) []:=lists_nil _ _
 have mem:CompMem w.heap.size w5 g gb gd go gv n T R (fun _ => false) (.slice none 0 0) [] :=
  ⟨M5.ext.size,⟨M5.new 3 rfl,M5.new 1 rfl,M5.new 2 rfl,M5.new 0 rfl⟩,hw.ext M5.ext,M5.get 3 rfl,hd,M5.get 2 rfl,h5.here,hl⟩
 have hu:unseen (fun _ => false) <= 24:=Nat.le_trans (List.length_filter_le _ _) (by simp)
 refine (next_spec 24 _ _ w5 g gb gd go gv n T R _ _ hu hn (by rw [List.length_nil,Nat.zero_add]; exact hu) mem).mono ?_
 rintro v6 w6 ⟨v7,hb,ho,hl6⟩
 refine ⟨_,cell_of_block ho rfl,?_⟩
 exact ⟨hl6,Below.trans M5.ext hb⟩
noncomputable def compsV (N:Int) (xs:List Arrow):List (List Int):=if chk N xs = 0 then compsL N.toNat (reach (toM xs)) else []
theorem Components_spec {N:Int} {A:Option Addr} {xs:List Arrow} {c:Nat} {w:World} (h:HRel w N A xs c) :
  CallsV C.P 32 #[relVal N A xs.length c] w fun v w' => Lists w.heap.size w' v (compsV N xs) ∧ Ext w w':=by
 refine callsV_of C_ok (args:=[_]) (plans:=[]) Tryz.func32 rfl Tryz.ntmps32 (by kernel_rfl) (Nat.le_of_ble_eq_true rfl) ?_
 intro g1 w1 h1
 have M1:=(Mem.start w).alloc h1
 refine ⟨[.int .i64 N,.slice A xs.length c],rfl,M1.rd 0 rfl,?_⟩
 by_cases hv:chk N xs = 0
 ·have hok:=valid_of_chk hv
  refine (open_yes (h.ext M1.ext) hok).mono ?_
  rintro v w2 ⟨g,rfl,hg,hw,he⟩
  have M2:=M1.grow he
  obtain ⟨n,rfl⟩:=Int.eq_ofNat_of_zero_le hok.lo
  have:=hok.hi
  refine (components_spec hw (by omega)).mono ?_
  rintro v w3 ⟨hl,he3⟩
  rw [compsV,if_pos hv]
  exact ⟨hl.base M2.ext.size,M2.ext.trans he3⟩
 ·refine (open_no (h.ext M1.ext) hv).mono ?_
  rintro v w2 ⟨rfl,he⟩
  rw [compsV,if_neg hv]
  exact ⟨lists_nil _ _,(M1.grow he).ext⟩
end Go.Proofs.YtdpdjcopkehdjaaGreat.Rk
namespace Go.Proofs.YtdpdjcopkehdjaaGreat.Rk
open Go.Eng Go.RowKit
def prCells (l:List (Int × Int)):List Value:=l.flatMap fun p => [.int .i64 p.1,.int .i64 p.2]
theorem prCells_append (l m:List (Int × Int)):prCells (l ++ m) = prCells l ++ prCells m:=by simp [prCells]
theorem prCells_length (l:List (Int × Int)):(prCells l).length = l.length * 2:=by
 induction l with
 | nil => rfl
 | cons x l ih => show (_ ++ prCells l).length = _; simp [ih]; omega
def Prs (B:Nat) (w:World) (v:Value) (l:List (Int × Int)):Prop:=w.ownsRow B 90 2 v l.length (prCells l)
theorem Prs.base {B B':Nat} {w:World} {v:Value} {l:List (Int × Int)} (h:Prs B' w v l) (hb:B <= B'):Prs B w v l:=ownsRow_base h hb
theorem Prs.ext {B:Nat} {w w':World} {v:Value} {l:List (Int × Int)} (h:Prs B w v l) (e:Ext w w'):Prs B w' v l:=ownsRow_ext h e
theorem prs_nil (B:Nat) (w:World):Prs B w (.slice none 0 0) []:=World.ownsRow_nil _ _ _ _
def rowTo (hs:Nat -> Nat -> Bool) (a b:Nat):List (Int × Int):=((List.range' (a + 1) (b - (a + 1))).filter (hs a)).map fun (k:Nat) => ((a:Int),(k:Int))
def pairsTo (n:Nat) (hs:Nat -> Nat -> Bool) (a:Nat):List (Int × Int):=(List.range a).flatMap fun k => rowTo hs k n
def pairsL (n:Nat) (hs:Nat -> Nat -> Bool):List (Int × Int):=pairsTo n hs n
theorem rowTo_succ {hs:Nat -> Nat -> Bool} {a b:Nat} (h:a + 1 <= b):rowTo hs a (b + 1) = if hs a b then rowTo hs a b ++ [((a:Int),(b:Int))] else rowTo hs a b:=by
 unfold rowTo
 rw [show b + 1 - (a + 1) = (b - (a + 1)) + 1 by omega,List.range'_concat,List.filter_append,List.map_append]
 rw [show a + 1 + 1 * (b - (a + 1)) = b by omega]
 by_cases hb:hs a b = true <;> simp [hb]
theorem rowTo_start (hs:Nat -> Nat -> Bool) (a:Nat):rowTo hs a (a + 1) = []:=by simp [rowTo]
theorem pairsTo_succ (n:Nat) (hs:Nat -> Nat -> Bool) (a:Nat):pairsTo n hs (a + 1) = pairsTo n hs a ++ rowTo hs a n:=by
 unfold pairsTo; rw [List.range_succ,List.flatMap_append]; simp
theorem rowTo_length (hs:Nat -> Nat -> Bool) (a b:Nat):(rowTo hs a b).length <= b:=by
 unfold rowTo
 rw [List.length_map]
 exact Nat.le_trans (List.length_filter_le _ _) (by simp)
theorem pairsTo_length (n:Nat) (hs:Nat -> Nat -> Bool) (a:Nat):(pairsTo n hs a).length <= a * n:=by
 induction a with
 | zero => simp [pairsTo]
 | succ a ih =>
  rw [pairsTo_succ,List.length_append,Nat.succ_mul]
  have:=rowTo_length hs a n
  omega
theorem pairs_spec {w:World} {g n f:Nat} {T R:Nat -> Nat -> Bool} (hf:f = 128 ∨ f = 71) (hw:Web w g n T R) (hn:n <= 24) {caps:Array Value} {hs:Nat -> Nat -> Bool}
  (hc:∀ w',Ext w w' -> ∀ a b:Nat,a < n -> b < n -> CallsV C.P f (#[] ++ #[.int .i64 a,.int .i64 b] ++ caps) w' fun v w'' => v = .bool (hs a b) ∧ Ext w' w'') :
  CallsV C.P 70 #[.pointer (some ⟨g,0,none⟩),.func (.func f) #[] caps] w fun v w' => Prs w.heap.size w' v (pairsL n hs) ∧ Ext w w':=by
 refine callsV_of C_ok (args:=[_,_]) (plans:=[]) Tryz.func70 rfl Tryz.ntmps70 (by kernel_rfl) (Nat.le_of_ble_eq_true rfl) ?_
 refine ⟨_,hw.n,?_⟩
 refine loopE C_ok (fun (s:Nat × Value) => [(0,.pointer (some ⟨g,0,none⟩)),(1,.func (.func f) #[] caps),(5,s.2),(11,.int .i64 n),(12,.int .i64 s.1)])
  (fun s w' => s.1 <= n ∧ Ext w w' ∧ Prs w.heap.size w' s.2 (pairsTo n hs s.1)) (fun s => n - s.1) (0,.slice none 0 0)
  ⟨rfl,rfl,rfl,rfl,rfl,trivial⟩ ⟨Nat.zero_le _,Ext.refl _,prs_nil _ _⟩ ?_
 rintro ⟨a,v⟩ w1 ⟨ha,e1,ho⟩
 have ha:a <= n:=ha
 have ho:Prs w.heap.size w1 v (pairsTo n hs a):=ho
 refine brE_dec (fun hlt => ?_) (fun hge => ?_)
 ·have hlt:a < n:=by have:(a:Int) < n:=hlt; omega
  refine ⟨((a + 1:Nat):Int),fit ⟨by omega,by omega⟩,?_⟩
  refine loopE C_ok (fun (s:Nat × Value) => [(0,.pointer (some ⟨g,0,none⟩)),(1,.func (.func f) #[] caps),(5,s.2),(6,.int .i64 a),(7,.int .i64 s.1),(11,.int .i64 n),(12,.int .i64 a)])
   (fun s w' => a + 1 <= s.1 ∧ s.1 <= n ∧ Ext w w' ∧ Prs w.heap.size w' s.2 (pairsTo n hs a ++ rowTo hs a s.1)) (fun s => n - s.1) (a + 1,v)
   ⟨rfl,rfl,rfl,rfl,rfl,rfl,rfl,trivial⟩ ⟨Nat.le_refl _,hlt,e1,by show Prs _ _ _ (_ ++ rowTo hs a (a + 1)); rw [rowTo_start,List.append_nil]; exact ho⟩ ?_
  rintro ⟨b,v2⟩ w2 ⟨hab,hb,e2,ho2⟩
  have hab:a + 1 <= b:=hab
  have hb:b <= n:=hb
  have ho2:Prs w.heap.size w2 v2 (pairsTo n hs a ++ rowTo hs a b):=ho2
  refine ⟨_,(hw.ext e2).n,?_⟩
  refine brE_dec (fun hlt2 => ?_) (fun hge2 => ?_)
  ·have hlt2:b < n:=by have:(b:Int) < n:=hlt2; omega
   have next:IntKind.i64.wrap ((b:Int) + 1) = ((b + 1:Nat):Int):=fit ⟨by omega,by omega⟩
   have hsu:=rowTo_succ (hs:=hs) hab
   have len1:=pairsTo_length n hs a
   have len2:=rowTo_length hs a b
   have len0:a * n <= 24 * 24:=Nat.mul_le_mul (by omega) hn
   have hcall:=hc w2 e2 a b hlt hlt2
   rcases hf with rfl | rfl
   all_goals
    refine hcall.mono ?_
    rintro v3 w3 ⟨rfl,e3⟩
    have e23:=e2.trans e3
    refine brE_mk (fun hh => ?_) (fun hh => ?_)
    ·rw [if_pos hh] at hsu
     intro g9 w9 h9
     have ho9:w9.ownsRow w.heap.size 90 2 v2 (pairsTo n hs a ++ rowTo hs a b).length (prCells (pairsTo n hs a ++ rowTo hs a b)):=ownsRow_ext (ownsRow_ext ho2 e3) h9.ext
     have e29:=e23.trans h9.ext
     refine ⟨rfl,rfl,rfl,w.heap.size,_,_,[.int .i64 a,.int .i64 b],ho9,e29.size,Nat.le_of_ble_eq_true rfl,rfl,rfl,.inr ⟨g9,0,rfl,Rd.of_block h9.here⟩,rfl,rfl,by rw [List.length_append]; omega,by rw [List.length_append]; simp only [maxLen]; omega,?_⟩
     intro v10 w10 ho10 hg10 _
     refine ⟨_,next,?_⟩
     refine ⟨(b + 1,v10),⟨rfl,rfl,rfl,rfl,rfl,rfl,rfl,trivial⟩,⟨by show a + 1 <= b + 1; omega,hlt2,app_ext e29 ho9 hg10,?_⟩,by show n - (b + 1) < n - b; omega⟩
     show Prs _ _ _ (_ ++ rowTo hs a (b + 1))
     rw [hsu,<-List.append_assoc]
     unfold Prs
     rw [prCells_append,List.length_append]
     exact ho10
    ·rw [if_neg (by rw [hh]; exact Bool.false_ne_true)] at hsu
     refine ⟨_,next,?_⟩
     refine ⟨(b + 1,v2),⟨rfl,rfl,rfl,rfl,rfl,rfl,rfl,trivial⟩,⟨by show a + 1 <= b + 1; omega,hlt2,e23,?_⟩,by show n - (b + 1) < n - b; omega⟩
     show Prs _ _ _ (_ ++ rowTo hs a (b + 1))
     rw [hsu]
     exact ho2.ext e3
  ·have:b = n:=by have:¬ (b:Int) < n:=hge2; omega
   subst this
   refine ⟨((a + 1:Nat):Int),fit ⟨by omega,by omega⟩,?_⟩
   refine ⟨(a + 1,v2),⟨rfl,rfl,rfl,rfl,rfl,trivial⟩,⟨hlt,e2,?_⟩,by show b - (a + 1) < b - a; omega⟩
   show Prs _ _ _ (pairsTo b hs (a + 1))
   rw [pairsTo_succ]; exact ho2
 ·have:a = n:=by have:¬ (a:Int) < n:=hge; omega
  subst this
  exact ⟨ho,e1⟩
def unsetB (R:Nat -> Nat -> Bool) (a b:Nat):Bool:=decide (standR R a b = 0) || decide (standR R a b = 3)
theorem Unsettled1_spec {w:World} {gb g n:Nat} {T R:Nat -> Nat -> Bool} (hb:w.heap[gb]? = some (.cells #[.pointer (some ⟨g,0,none⟩)] 123 (0,0))) (hw:Web w g n T R) {a b:Nat} (ha:a < 24) (hb24:b < 24) :
  CallsV C.P 128 #[.int .i64 a,.int .i64 b,.pointer (some ⟨gb,0,none⟩)] w fun v w' => v = .bool (unsetB R a b) ∧ Ext w w':=by
 refine callsV_of C_ok (args:=[_,_,_]) (plans:=[]) Tryz.func128 rfl Tryz.ntmps128 (by kernel_rfl) (Nat.le_of_ble_eq_true rfl) ?_
 refine ⟨_,cell_of_block hb rfl,?_⟩
 refine (standing_spec hw ha hb24).mono ?_
 rintro v w1 ⟨rfl,rfl⟩
 refine brE_dec (fun h => ?_) (fun h => ?_)
 ·exact ⟨by simp [unsetB,h],Ext.refl _⟩
 ·refine ⟨?_,Ext.refl _⟩
  simp [unsetB,h]
noncomputable def unsetL (N:Int) (xs:List Arrow):List (Int × Int):=if chk N xs = 0 then pairsL N.toNat (unsetB (reach (toM xs))) else []
theorem Unsettled_spec {N:Int} {A:Option Addr} {xs:List Arrow} {c:Nat} {w:World} (h:HRel w N A xs c) :
  CallsV C.P 68 #[relVal N A xs.length c] w fun v w' => (∃ u,v = .tuple #[u,.int .i64 (chk N xs)] ∧ Prs w.heap.size w' u (unsetL N xs)) ∧ Ext w w':=by
 refine callsV_of C_ok (args:=[_]) (plans:=[]) Tryz.func68 rfl Tryz.ntmps68 (by kernel_rfl) (Nat.le_of_ble_eq_true rfl) ?_
 intro g1 w1 h1
 have M1:=(Mem.start w).alloc h1
 refine ⟨[.int .i64 N,.slice A xs.length c],rfl,M1.rd 0 rfl,?_⟩
 by_cases hv:chk N xs = 0
 ·have hok:=valid_of_chk hv
  refine (open_yes (h.ext M1.ext) hok).mono ?_
  rintro v w2 ⟨g,rfl,hg,hw,he⟩
  have M2:=M1.grow he
  obtain ⟨n,rfl⟩:=Int.eq_ofNat_of_zero_le hok.lo
  have:=hok.hi
  intro g3 w3 h3
  refine ⟨rfl,_,_,h3.here,Nat.le_of_ble_eq_true rfl,rfl,?_⟩
  intro w4 h4
  have h4:Put w3 g3 (.cells #[.pointer (some ⟨g,0,none⟩)] 123 (0,0)) w4:=h4
  have M4:=(M2.alloc h3).put 0 rfl h4
  have e24:Ext w2 w4:=h4.ext_of h3.ext (by rw [h3.new]; exact Nat.le_refl _)
  refine ⟨_,cell_of_block h4.here rfl,?_⟩
  refine ⟨[],[.pointer (some ⟨g3,0,none⟩)],rfl,rfl,?_⟩
  refine (pairs_spec (.inl rfl) (hw.ext e24) (by omega) (hs:=unsetB (reach (toM xs))) (fun w' e a b ha hb => ?_)).mono ?_
  ·exact Unsettled1_spec (e.heap h4.here) ((hw.ext e24).ext e) (by omega) (by omega)
  ·rintro v w5 ⟨hp,e5⟩
   refine ⟨⟨v,?_,?_⟩,M4.ext.trans e5⟩
   ·rw [hv]
   ·rw [unsetL,if_pos hv]
    exact hp.base M4.ext.size
 ·refine (open_no (h.ext M1.ext) hv).mono ?_
  rintro v w2 ⟨rfl,he⟩
  have M2:=M1.grow he
  intro g3 w3 h3
  refine ⟨rfl,_,_,h3.here,Nat.le_of_ble_eq_true rfl,rfl,?_⟩
  intro w4 h4
  have M4:=(M2.alloc h3).put 0 rfl h4
  refine ⟨[.int .i64 N,.slice A xs.length c],rfl,M4.rd 1 rfl,?_⟩
  refine (Check_spec (h.ext M4.ext)).mono ?_
  rintro v w5 ⟨rfl,e5⟩
  refine ⟨⟨_,rfl,?_⟩,M4.ext.trans e5⟩
  rw [unsetL,if_neg hv]
  exact prs_nil _ _
end Go.Proofs.YtdpdjcopkehdjaaGreat.Rk
namespace Go.Proofs.YtdpdjcopkehdjaaGreat.Rk
open Go.Eng Go.RowKit
theorem Grow_spec (w:World) {i:Int} (hi0:0 <= i) (hi:i <= 4096) :
  CallsV C.P 129 #[.slice none 0 0,.int .i64 i] w fun v w' => NewInts w w' v [] ∧ Ext w w':=by
 refine callsV_of C_ok (args:=[_,_]) (plans:=[]) Tryz.func129 rfl Tryz.ntmps129 (by kernel_rfl) (Nat.le_of_ble_eq_true rfl) ?_
 refine brE_dec (fun h => by have h:i < 0:=h; omega) (fun _ => ?_)
 refine ⟨_,capQ C_ok rfl rfl rfl rfl,?_⟩
 refine ⟨0,rfl,?_⟩
 refine ⟨i,by rw [fit ⟨by omega,by omega⟩]; omega,?_⟩
 refine brE_dec (fun h => ?_) (fun h => ?_)
 ·have h:i > 0:=h
  obtain ⟨n,rfl⟩:=Int.eq_ofNat_of_zero_le hi0
  have h:0 < n:=by omega
  refine ⟨_,capQ C_ok rfl rfl rfl rfl,?_⟩
  refine ⟨0,0,rfl,rfl,Nat.le_refl _,Nat.le_refl _,?_⟩
  refine appendMake (n:=n) C_ok rfl rfl rfl rfl rfl rfl rfl rfl rfl h (by simp only [maxLen]; omega) (by omega) ?_
  intro g cap w1 e1 ho
  refine ⟨0,0,rfl,rfl,Nat.le_refl _,Nat.zero_le _,?_⟩
  refine ⟨?_,e1⟩
  have:=ownsRow_cut ho (Nat.zero_le n)
  have e:(if cap = 0 then some (⟨g,0,none⟩:Addr) else (some (⟨g,0,none⟩:Addr)).map (·.add (0 * 1))) = some ⟨g,0,none⟩:=by
   split <;> rfl
  show w1.ownsRow _ _ _ (.slice (if cap = 0 then some (⟨g,0,none⟩:Addr) else (some (⟨g,0,none⟩:Addr)).map (·.add (0 * 1))) 0 cap) _ _
  rw [e]
  show w1.ownsRow _ _ _ _ 0 []
  simpa using this
 ·exact ⟨World.ownsRow_nil _ _ _ _,Ext.refl _⟩
theorem flat_take {L:List (List Int)} {i:Nat} (hi:i < L.length):(L.take (i + 1)).flatten = (L.take i).flatten ++ L[i]:=by
 rw [List.take_succ_eq_append_getElem hi,List.flatten_append]; simp
theorem flat_le {L:List (List Int)} {k:Nat} (h:∀ l ∈ L,l.length <= k):L.flatten.length <= L.length * k:=by
 induction L with
 | nil => simp
 | cons l L ih =>
  have h1:=h l (by simp)
  have h2:=ih fun l hl => h l (by simp [hl])
  simp only [List.flatten_cons,List.length_append,List.length_cons,Nat.succ_mul]
  omega
theorem flat_take_le {L:List (List Int)} {k:Nat} (h:∀ l ∈ L,l.length <= k) (i:Nat):(L.take i).flatten.length <= L.length * k:=by
 have:=flat_le (L:=L.take i) fun l hl => h l (List.mem_of_mem_take hl)
 have h2:(L.take i).length * k <= L.length * k:=Nat.mul_le_mul_right _ (by simp; omega)
 omega
theorem Concat_spec {w:World} {A:Option Addr} {c:Nat} {L:List (List Int)} {us:List Value} (hr:RList w A L us) (hL:L.length <= 24) (h24:∀ l ∈ L,l.length <= 24) (hne:∀ l ∈ L,l ≠ []) :
  CallsV C.P 69 #[.slice A L.length c] w fun v w' => NewInts w w' v L.flatten ∧ Ext w w':=by
 refine callsV_of C_ok (args:=[_]) (plans:=[]) Tryz.func69 rfl Tryz.ntmps69 (by kernel_rfl) (Nat.le_of_ble_eq_true rfl) ?_
 have hb0:L.length * 24 <= 24 * 24:=Nat.mul_le_mul_right _ hL
 refine loopE C_ok (fun (i:Nat) => [(0,.slice A L.length c),(3,.int .i64 ((L.take i).flatten.length:Nat)),(9,.slice A L.length c),(10,.int .i64 L.length),(11,.int .i64 i)])
  (fun i w' => i <= L.length ∧ w' = w) (fun i => L.length - i) 0 ⟨rfl,rfl,rfl,rfl,rfl,trivial⟩ ⟨Nat.zero_le _,rfl⟩ ?_
 rintro i w1 ⟨hi,rfl⟩
 refine brE_dec (fun hlt => ?_) (fun hge => ?_)
 ·have hlt:i < L.length:=by omega
  obtain ⟨A',c',hu,_⟩:=hr.row i hlt
  rcases hr.reads with h0 | ⟨b,o,hA,hrd⟩
  ·subst h0; simp at hu
  refine ⟨i,b,o,rfl,hlt,hA,?_⟩
  refine ⟨_,by have:=hrd i _ hu; simpa using this,?_⟩
  have h1:=flat_take_le h24 (i + 1)
  have h2:=flat_take hlt
  have h3:(L.take (i + 1)).flatten.length = (L.take i).flatten.length + L[i].length:=by rw [h2,List.length_append]
  refine ⟨(((L.take (i + 1)).flatten.length:Nat):Int),by rw [h3,fit ⟨by omega,by omega⟩]; omega,?_⟩
  refine brE_dec (fun h => by have h:(((L.take (i + 1)).flatten.length:Nat):Int) < 0:=h; omega) (fun _ => ?_)
  refine ⟨((i + 1:Nat):Int),fit ⟨by omega,by omega⟩,?_⟩
  exact ⟨i + 1,⟨rfl,rfl,rfl,rfl,rfl,trivial⟩,⟨hlt,rfl⟩,by omega⟩
 ·have:i = L.length:=by omega
  subst this
  rw [List.take_length]
  have h1:=flat_le h24
  refine (Grow_spec w1 (i:=(L.flatten.length:Nat)) (by omega) (by omega)).mono ?_
  rintro v w2 ⟨hg,e2⟩
  refine loopE C_ok (fun (s:Nat × Value) => [(6,s.2),(25,.slice A L.length c),(26,.int .i64 L.length),(27,.int .i64 s.1)])
   (fun s w' => s.1 <= L.length ∧ Ext w1 w' ∧ NewInts w1 w' s.2 (L.take s.1).flatten) (fun s => L.length - s.1) (0,v) ⟨rfl,rfl,rfl,rfl,trivial⟩ ⟨Nat.zero_le _,e2,hg⟩ ?_
  rintro ⟨i,v3⟩ w3 ⟨hi,e3,ho⟩
  have hi:i <= L.length:=hi
  have ho:NewInts w1 w3 v3 (L.take i).flatten:=ho
  refine brE_dec (fun hlt => ?_) (fun hge => ?_)
  ·have hlt:i < L.length:=by have:(i:Int) < L.length:=hlt; omega
   obtain ⟨A',c',hu,hr'⟩:=hr.row i hlt
   rcases hr.reads with h0 | ⟨b,o,hA,hrd⟩
   ·subst h0; simp at hu
   refine ⟨i,b,o,rfl,hlt,hA,?_⟩
   refine ⟨_,by have:=(hrd.ext e3) i _ hu; simpa using this,?_⟩
   have hn0:=hne L[i] (List.getElem_mem _)
   rcases hr' with h0 | ⟨b',o',rfl,hrd'⟩
   ·have:=congrArg List.length h0
    rw [ints_length] at this
    exact absurd (List.length_eq_zero_iff.1 this) hn0
   have h1:=flat_take_le h24 (i + 1)
   have h2:=flat_take hlt
   have h3:(L.take (i + 1)).flatten.length = (L.take i).flatten.length + L[i].length:=by rw [h2,List.length_append]
   refine ⟨rfl,rfl,rfl,w1.heap.size,(L.take i).flatten.length,ints (L.take i).flatten,ints L[i],ho,e3.size,Nat.lt_add_one 0,rfl,by rw [ints_length]; simp,.inr ⟨b',o',rfl,hrd'.ext e3⟩,rfl,by simp [ints,Value.oneCell'],by omega,by simp only [maxLen]; omega,?_⟩
   intro v4 w4 ho4 hg4 _
   refine ⟨((i + 1:Nat):Int),fit ⟨by omega,by omega⟩,?_⟩
   refine ⟨(i + 1,v4),⟨rfl,rfl,rfl,rfl,trivial⟩,⟨hlt,app_ext e3 ho hg4,?_⟩,by show L.length - (i + 1) < L.length - i; omega⟩
   show w4.ownsRow _ _ _ _ _ _
   rw [h2,List.length_append,ints_append]
   exact ho4
  ·have:i = L.length:=by have:¬ (i:Int) < L.length:=hge; omega
   subst this
   rw [List.take_length] at ho
   exact ⟨ho,e3⟩
theorem compsF_props {n:Nat} {R:Nat -> Nat -> Bool} (hn:n <= 24):∀ (m:Nat) (D:Nat -> Bool),(compsF n R m D).length <= m ∧ ∀ l ∈ compsF n R m D,∃ a < n,l = members (compS n R a)
 | 0,D => ⟨by simp [compsF],fun l h => by simp [compsF] at h⟩
 | m + 1,D => by
  rw [compsF]
  cases hf:(List.range n).find? fun a => !(D a || precS n R a (compS n R a) D) with
  | none => exact ⟨by simp,fun l h => by simp at h⟩
  | some a =>
   have ih:=compsF_props (R:=R) hn m (orS D (compS n R a))
   refine ⟨by simpa using ih.1,fun l hl => ?_⟩
   rcases List.mem_cons.1 hl with rfl | hl
   ·exact ⟨a,List.mem_range.1 (List.mem_of_find?_eq_some hf),rfl⟩
   ·exact ih.2 l hl
theorem members_ne {S:Nat -> Bool} {a:Nat} (ha:a < 24) (h:S a = true):members S ≠ []:=by
 obtain ⟨i,hi,_⟩:=members_mem ha h
 intro e
 rw [e] at hi
 simp at hi
theorem compsL_props {n:Nat} {R:Nat -> Nat -> Bool} (hn:n <= 24):(compsL n R).length <= 24 ∧ (∀ l ∈ compsL n R,l.length <= 24) ∧ ∀ l ∈ compsL n R,l ≠ []:=by
 have h:=compsF_props (R:=R) hn 24 fun _ => false
 refine ⟨h.1,fun l hl => ?_,fun l hl => ?_⟩
 ·obtain ⟨a,_,rfl⟩:=h.2 l hl
  exact membersTo_length _ 24
 ·obtain ⟨a,ha,rfl⟩:=h.2 l hl
  exact members_ne (by omega) (comp_refl ha)
theorem compsV_props {N:Int} {xs:List Arrow}:(compsV N xs).length <= 24 ∧ (∀ l ∈ compsV N xs,l.length <= 24) ∧ ∀ l ∈ compsV N xs,l ≠ []:=by
 unfold compsV
 split
 ·rename_i h
  have hok:=valid_of_chk h
  have:=hok.hi
  exact compsL_props (by omega)
 ·exact ⟨by simp,fun l h => by simp at h,fun l h => by simp at h⟩
noncomputable def settledB (N:Int) (xs:List Arrow):Bool:=decide (chk N xs = 0) && decide (unsetL N xs = [])
noncomputable def settledL (N:Int) (xs:List Arrow):List Int:=if settledB N xs then (compsV N xs).flatten else []
theorem Settled_spec {N:Int} {A:Option Addr} {xs:List Arrow} {c:Nat} {w:World} (h:HRel w N A xs c) :
  CallsV C.P 34 #[relVal N A xs.length c] w fun v w' => (∃ u,v = .tuple #[u,.bool (settledB N xs)] ∧ NewInts w w' u (settledL N xs)) ∧ Ext w w':=by
 refine callsV_of C_ok (args:=[_]) (plans:=[]) Tryz.func34 rfl Tryz.ntmps34 (by kernel_rfl) (Nat.le_of_ble_eq_true rfl) ?_
 intro g1 w1 h1
 have M1:=(Mem.start w).alloc h1
 refine ⟨[.int .i64 N,.slice A xs.length c],rfl,M1.rd 0 rfl,?_⟩
 refine (Unsettled_spec (h.ext M1.ext)).mono ?_
 rintro v w2 ⟨⟨u,rfl,hp⟩,e2⟩
 have M2:=M1.grow e2
 refine brE_mk (fun hb => ?_) (fun hb => ?_)
 ·have:chk N xs ≠ 0:=by simpa using hb
  refine ⟨⟨.slice none 0 0,?_,?_⟩,M2.ext⟩
  ·simp [settledB,this]
  ·simp [settledL,settledB,this]; exact World.ownsRow_nil _ _ _ _
 ·have hv:chk N xs = 0:=by simpa using hb
  obtain ⟨A3,c3,rfl,_,_⟩:=reads_of_owns hp
  refine brE_dec (fun hg => ?_) (fun hg => ?_)
  ·have:unsetL N xs ≠ []:=by intro e; rw [e] at hg; simp at hg
   refine ⟨⟨.slice none 0 0,?_,?_⟩,M2.ext⟩
   ·simp [settledB,this]
   ·simp [settledL,settledB,this]; exact World.ownsRow_nil _ _ _ _
  ·have hn:unsetL N xs = []:=by
    cases hx:unsetL N xs with
    | nil => rfl
    | cons a l => rw [hx] at hg; simp at hg
   have hs:settledB N xs = true:=by simp [settledB,hv,hn]
   refine ⟨[.int .i64 N,.slice A xs.length c],rfl,M2.rd 0 rfl,?_⟩
   refine (Components_spec (h.ext M2.ext)).mono ?_
   rintro v w3 ⟨hl,e3⟩
   obtain ⟨A4,c4,us,rfl,hrl⟩:=hl.read
   have hpr:=compsV_props (N:=N) (xs:=xs)
   refine (Concat_spec hrl hpr.1 hpr.2.1 hpr.2.2).mono ?_
   rintro v w4 ⟨ho,e4⟩
   refine ⟨⟨v,by rw [hs],?_⟩,(M2.ext.trans e3).trans e4⟩
   rw [settledL,if_pos hs]
   exact ownsRow_base ho (M2.ext.trans e3).size
end Go.Proofs.YtdpdjcopkehdjaaGreat.Rk
namespace Go.Proofs.YtdpdjcopkehdjaaGreat.Rk
open Go.Eng Go.RowKit
open Go.Maps (Keyed)
def prVal (p:Int × Int):Value:=.agg #[.int .i64 p.1,.int .i64 p.2]
theorem laidOut:laidOutB Tryz.prog = true:=by kernel_rfl
theorem row58:(90:TypeId) < Tryz.prog.types.size:=of_decide_eq_true (by kernel_rfl)
theorem key58:Tryz.prog.keyTypeAt 2 90 = true:=by kernel_rfl
theorem keyT58:Tryz.prog.keyType 90 = true:=by kernel_rfl
theorem cells58:Tryz.prog.cellsOf 90 = 2:=by kernel_rfl
theorem cells3:Tryz.prog.cellsOf 3 = 1:=by kernel_rfl
theorem under3:Tryz.prog.underlying 3 = some (.int .i64):=by kernel_rfl
theorem u58:Tryz.prog.underlying 90 = some (.struct #[⟨ "A",3,0,false, "", "",0⟩,⟨ "B",3,1,false, "", "",8⟩]):=by kernel_rfl
theorem pairK:Keyed C.P 90:=Keyed.of_law (deep_law_laid laidOut (m:=2) (by omega) row58 key58 (by rw [u58]))
theorem wf64 {a:Int} (h:In64 a):(Lit.int .i64 a).wf = true:=by
 simp [Lit.wf,IntKind.min,IntKind.max,IntKind.bits,IntKind.signed]
 omega
theorem succ_of_lt {k n:Nat} (h:k < n):∃ m,n = m + 1:=⟨n - 1,by omega⟩
theorem pairKey {p:Int × Int} (h1:In64 p.1) (h2:In64 p.2):keyOf C.P 90 (prVal p) = some (.string (keyBytes [.int .i64 p.1,.int .i64 p.2])):=by
 show keyOf Tryz.prog 90 _ = _
 have w1:=wf64 h1
 have w2:=wf64 h2
 obtain ⟨m,hm⟩:∃ m,Tryz.prog.types.size = m + 1:=succ_of_lt row58
 have hk:Tryz.prog.keyLits (m + 2) 90 [.int .i64 p.1,.int .i64 p.2] = some [.int .i64 p.1,.int .i64 p.2]:=by
  simp [Program.keyLits,cells58,cells3,w1,w2]
 simp [keyOf,keyT58,prVal,Value.formed,cells58,Value.cells,hm,hk]
noncomputable def goneV (ps:List (Int × Int)):Value -> Option Value:=ps.foldl (fun f p => updV f (prVal p) (.bool true)) fun _ => none
theorem goneV_snoc (ps:List (Int × Int)) (p:Int × Int):goneV (ps ++ [p]) = updV (goneV ps) (prVal p) (.bool true):=by simp [goneV]
theorem prVal_inj {p q:Int × Int} (h:prVal p = prVal q):p = q:=by
 obtain ⟨a,b⟩:=p
 obtain ⟨c,d⟩:=q
 simp [prVal] at h
 obtain ⟨rfl,rfl⟩:=h
 rfl
theorem goneV_get (ps:List (Int × Int)) (q:Int × Int):goneV ps (prVal q) = if q ∈ ps then some (.bool true) else none:=by
 suffices h:∀ (l:List (Int × Int)) (f:Value -> Option Value),(l.foldl (fun f p => updV f (prVal p) (.bool true)) f) (prVal q) = if q ∈ l then some (.bool true) else f (prVal q) from h ps _
 intro l
 induction l with
 | nil => intro f; simp
 | cons p l ih =>
  intro f
  rw [List.foldl_cons,ih]
  by_cases h1:q ∈ l
  ·simp [h1]
  ·by_cases h2:q = p
   ·subst h2; simp [h1,updV]
   ·simp [h1,h2,updV]
    intro h3
    exact absurd (prVal_inj h3) h2
def waiveL (xs:List Arrow) (ps:List (Int × Int)):List Arrow:=xs.filter fun x => !decide ((x.fr,x.to) ∈ ps)
theorem waiveL_take {xs:List Arrow} {ps:List (Int × Int)} {i:Nat} (hi:i < xs.length):waiveL (xs.take (i + 1)) ps = if (xs[i].fr,xs[i].to) ∈ ps then waiveL (xs.take i) ps else waiveL (xs.take i) ps ++ [xs[i]]:=by
 unfold waiveL
 rw [List.take_succ_eq_append_getElem hi,List.filter_append]
 by_cases h:(xs[i].fr,xs[i].to) ∈ ps <;> simp [h]
theorem waiveL_length (xs:List Arrow) (ps:List (Int × Int)):(waiveL xs ps).length <= xs.length:=List.length_filter_le _ _
theorem prCells_get {ps:List (Int × Int)} {i:Nat} (hi:i < ps.length) (j:Nat) (v:Value) (h:([.int .i64 ps[i].1,.int .i64 ps[i].2]:List Value)[j]? = some v):(prCells ps)[i * 2 + j]? = some v:=by
 induction ps generalizing i with
 | nil => simp at hi
 | cons x xs ih =>
  have hj:j < 2:=by
   have:=(List.getElem?_eq_some_iff.1 h).1
   simpa using this
  cases i with
  | zero =>
   simp only [Nat.zero_mul,Nat.zero_add]
   show ([.int .i64 x.1,.int .i64 x.2] ++ prCells xs)[j]? = _
   rw [List.getElem?_append_left (by simpa using hj)]
   exact h
  | succ i =>
   show ([.int .i64 x.1,.int .i64 x.2] ++ prCells xs)[(i + 1) * 2 + j]? = _
   rw [List.getElem?_append_right (by simp; omega)]
   have:(i + 1) * 2 + j - [Value.int .i64 x.1,.int .i64 x.2].length = i * 2 + j:=by simp; omega
   rw [this]
   exact ih (by simpa using hi) (by simpa using h)
theorem Reads.pair {w:World} {A:Option Addr} {ps:List (Int × Int)} (h:Reads w A (prCells ps)) {i:Nat} (hi:i < ps.length):∃ b o,A = some ⟨b,o,none⟩ ∧ Rd w b (o + i * 2) [.int .i64 ps[i].1,.int .i64 ps[i].2]:=by
 rcases h with h | ⟨b,o,hA,hr⟩
 ·have:=congrArg List.length h
  rw [prCells_length] at this
  have:ps.length * 2 = 0:=this
  omega
 ·refine ⟨b,o,hA,fun j v hv => ?_⟩
  have:=hr _ _ (prCells_get hi j v hv)
  rwa [<-Nat.add_assoc] at this
theorem own_ne {w:World} {base e size n g:Nat} {v:Value} {xs:List Value} {o:Obj} (h:w.ownsRow base e size v n xs) (hg:w.heap[g]? = some o) (ho:∀ c fr,o ≠ .cells c e fr):some g ≠ v.ownBlock:=by
 intro e
 obtain ⟨_,hv | ⟨g',cap,cur,hv,_,hg',_⟩⟩:=h
 ·rw [hv.1] at e; cases e
 ·rw [hv] at e
  have e:g = g':=by simpa [Value.ownBlock] using e
  subst e
  rw [hg] at hg'
  exact ho _ _ (Option.some.inj hg')
theorem arrows_append (xs ys:List Arrow):arrows (xs ++ ys) = arrows xs ++ arrows ys:=by simp [arrows]
theorem waive_spec {N:Int} {A B:Option Addr} {xs:List Arrow} {c d:Nat} {ps:List (Int × Int)} {w:World} (h:HRel w N A xs c) (hx:xs.length <= 2 ^ 40) (hp:∀ p ∈ ps,In64 p.1 ∧ In64 p.2) (hr:Reads w B (prCells ps)) (hpl:ps.length <= 2 ^ 44) :
  CallsV C.P 46 #[relVal N A xs.length c,.slice B ps.length d] w fun v w' => (∃ A' c',v = relVal N A' (waiveL xs ps).length c' ∧ w'.ownsRow w.heap.size 60 4 (.slice A' (waiveL xs ps).length c') (waiveL xs ps).length (arrows (waiveL xs ps))) ∧ Ext w w':=by
 refine callsV_of C_ok (args:=[_,_]) (plans:=[]) Tryz.func46 rfl Tryz.ntmps46 (by kernel_rfl) (Nat.le_of_ble_eq_true rfl) ?_
 intro g2 w1 h1
 intro g4 w2 h2
 intro gm w3 h3
 have M3:=(((Mem.start w).alloc h1).alloc h2).alloc h3
 refine loopE C_ok (fun (i:Nat) => [(2,.pointer (some ⟨g2,0,none⟩)),(4,.pointer (some ⟨g4,0,none⟩)),(5,.map (some gm)),(12,.slice B ps.length d),(13,.int .i64 ps.length),(14,.int .i64 i)])
  (fun i w' => i <= ps.length ∧ (∃ om,Mem w w' [(gm,om),(g4,.cells #[.int .i64 0,.slice none 0 0] 49 (0,0)),(g2,.cells #[.int .i64 N,.slice A xs.length c] 49 (0,0))]) ∧ MapIs C.P 90 w' gm (goneV (ps.take i)))
  (fun i => ps.length - i) 0 ⟨rfl,rfl,rfl,rfl,rfl,rfl,trivial⟩ ⟨Nat.zero_le _,⟨_,M3⟩,MapIs.empty h3.here⟩ ?_
 rintro i w4 ⟨hi,⟨om,M4⟩,hmap⟩
 refine brE_dec (fun hlt => ?_) (fun hge => ?_)
 ·have hlt:i < ps.length:=by omega
  obtain ⟨b,o,hA,hrd⟩:=Reads.pair (hr.ext M4.ext) hlt
  refine ⟨i,b,o,rfl,hlt,hA,?_⟩
  refine ⟨[.int .i64 ps[i].1,.int .i64 ps[i].2],rfl,hrd,?_⟩
  intro g7 w5 h5
  have M5:=M4.alloc h5
  refine ⟨rfl,_,_,M5.get 0 rfl,Nat.le_of_ble_eq_true rfl,rfl,?_⟩
  intro w6 h6
  have M6:=M5.put 0 rfl h6
  refine ⟨[.int .i64 ps[i].1,.int .i64 ps[i].2],rfl,Rd.of_block h6.here,?_⟩
  have hpi:=hp ps[i] (List.getElem_mem _)
  have hmap6:MapIs C.P 90 w6 gm (goneV (ps.take i)):=(hmap.ext h5.ext).put h6 (by
   have:=M4.lt (g:=gm) (o:=om) (by simp)
   rw [h5.new]; omega)
  refine mapPut C_ok rfl rfl (x:=prVal ps[i]) rfl rfl rfl rfl pairK (pairKey hpi.1 hpi.2) hmap6 ?_
  intro o' w7 h7 hmap7
  have M7:=(M6.put 1 rfl h7).tail
  refine ⟨((i + 1:Nat):Int),fit ⟨by omega,by omega⟩,?_⟩
  refine ⟨i + 1,⟨rfl,rfl,rfl,rfl,rfl,rfl,trivial⟩,⟨hlt,⟨_,M7⟩,?_⟩,by omega⟩
  rw [List.take_succ_eq_append_getElem hlt,goneV_snoc]
  exact hmap7
 ·have:i = ps.length:=by omega
  subst this
  rw [List.take_length] at hmap
  refine ⟨_,M4.cell 2 rfl rfl,?_⟩
  intro g8 w5 h5
  have M5:=M4.alloc h5
  refine ⟨rfl,_,_,M5.get 0 rfl,Nat.le_of_ble_eq_true rfl,rfl,?_⟩
  intro w6 h6
  have M6:Mem w w6 [(g8,.cells #[.int .i64 N,.slice none 0 0] 49 (0,0)),(gm,om),(g4,.cells #[.int .i64 0,.slice none 0 0] 49 (0,0)),(g2,.cells #[.int .i64 N,.slice A xs.length c] 49 (0,0))]:=M5.put 0 rfl h6
  have hmap6:MapIs C.P 90 w6 gm (goneV ps):=(hmap.ext h5.ext).put h6 (by
   have:=M4.lt (g:=gm) (o:=om) (by simp)
   rw [h5.new]; omega)
  refine ⟨_,M6.cell 3 rfl rfl,?_⟩
  refine loopE C_ok (fun (s:Nat × Value) => [(4,.pointer (some ⟨g4,0,none⟩)),(5,.map (some gm)),(8,.pointer (some ⟨g8,0,none⟩)),(25,.slice A xs.length c),(26,.int .i64 xs.length),(27,.int .i64 s.1)])
   (fun s w' => s.1 <= xs.length ∧ Mem w w' [(g8,.cells #[.int .i64 N,s.2] 49 (0,0)),(gm,om),(g4,.cells #[.int .i64 0,.slice none 0 0] 49 (0,0))] ∧ MapIs C.P 90 w' gm (goneV ps) ∧
    w'.ownsRow w.heap.size 60 4 s.2 (waiveL (xs.take s.1) ps).length (arrows (waiveL (xs.take s.1) ps)))
   (fun s => xs.length - s.1) (0,.slice none 0 0) ⟨rfl,rfl,rfl,rfl,rfl,rfl,trivial⟩
   ⟨Nat.zero_le _,M6.sub (List.Sublist.cons_cons _ (List.Sublist.cons_cons _ (List.Sublist.cons_cons _ (List.nil_sublist _)))),hmap6,World.ownsRow_nil _ _ _ _⟩ ?_
  rintro ⟨i,v⟩ w7 ⟨hi,M7,hmap7,ho7⟩
  have hi:i <= xs.length:=hi
  have M7:Mem w w7 [(g8,.cells #[.int .i64 N,v] 49 (0,0)),(gm,om),(g4,.cells #[.int .i64 0,.slice none 0 0] 49 (0,0))]:=M7
  have ho7:w7.ownsRow w.heap.size 60 4 v (waiveL (xs.take i) ps).length (arrows (waiveL (xs.take i) ps)):=ho7
  refine brE_dec (fun hlt => ?_) (fun hge => ?_)
  ·have hlt:i < xs.length:=by have:(i:Int) < xs.length:=hlt; omega
   obtain ⟨b,o,hA,hrd⟩:=Reads.arrow h.reads hlt
   refine ⟨i,b,o,rfl,hlt,hA,?_⟩
   refine ⟨xs[i].cells,rfl,M7.oldRd hrd,?_⟩
   intro g10 w8 h8
   have M8:=M7.alloc h8
   refine ⟨rfl,_,_,M8.get 0 rfl,Nat.le_of_ble_eq_true rfl,rfl,?_⟩
   intro w9 h9
   have M9:Mem w w9 [(g10,.cells xs[i].cells.toArray 60 (0,0)),(g8,.cells #[.int .i64 N,v] 49 (0,0)),(gm,om),(g4,.cells #[.int .i64 0,.slice none 0 0] 49 (0,0))]:=M8.put 0 rfl h9
   have hgm8:=M7.lt (g:=gm) (o:=om) (by simp)
   have hmap9:MapIs C.P 90 w9 gm (goneV ps):=(hmap7.ext h8.ext).put h9 (by rw [h8.new]; omega)
   have hne10:v.ownBlock ≠ some g10:=by
    intro e
    have:=(ho7.lt g10 e).2
    rw [h8.new] at this
    exact Nat.lt_irrefl _ this
   have ho9:w9.ownsRow w.heap.size 60 4 v (waiveL (xs.take i) ps).length (arrows (waiveL (xs.take i) ps)):=ownsRow_put (ownsRow_ext ho7 h8.ext) h9 hne10
   refine ⟨_,M9.cell 0 rfl rfl,?_⟩
   refine ⟨_,M9.cell 0 rfl rfl,?_⟩
   have hnum:=h.nums xs[i] (List.getElem_mem _)
   have hget:(goneV ps (prVal (xs[i].fr,xs[i].to))).getD (.bool false) = .bool (decide ((xs[i].fr,xs[i].to) ∈ ps)):=by
    rw [goneV_get]
    by_cases hm:(xs[i].fr,xs[i].to) ∈ ps <;> simp [hm]
   have htake:=waiveL_take (ps:=ps) hlt
   have next:IntKind.i64.wrap ((i:Int) + 1) = ((i + 1:Nat):Int):=fit ⟨by omega,by omega⟩
   have hwl:=waiveL_length (xs.take i) ps
   have htl:(xs.take i).length <= i:=by simp; omega
   refine ⟨.bool (decide ((xs[i].fr,xs[i].to) ∈ ps)),mapGet1 C_ok (te:=ty4) (x:=prVal (xs[i].fr,xs[i].to)) (pairKey hnum.1 hnum.2.1) hmap9 pairK rfl rfl rfl rfl rfl rfl hget,?_⟩
   refine brE_mk (fun hb => ?_) (fun hb => ?_)
   ·have hnm:(xs[i].fr,xs[i].to) ∉ ps:=by simpa using hb
    rw [if_neg hnm] at htake
    refine ⟨_,M9.cell 1 rfl rfl,?_⟩
    refine ⟨xs[i].cells,rfl,M9.rd 0 rfl,?_⟩
    intro g11 w10 h10
    have M10:=M9.alloc h10
    have ho10:=ownsRow_ext ho9 h10.ext
    refine ⟨rfl,rfl,rfl,w.heap.size,_,_,xs[i].cells,ho10,M10.ext.size,Nat.le_of_ble_eq_true rfl,rfl,rfl,.inr ⟨g11,0,rfl,Rd.of_block h10.here⟩,rfl,rfl,by omega,by simp only [maxLen]; omega,?_⟩
    intro v11 w11 ho11 hg11 _
    have M11:Mem w w11 [(g8,.cells #[.int .i64 N,v] 49 (0,0)),(gm,om),(g4,.cells #[.int .i64 0,.slice none 0 0] 49 (0,0))]:=by
     refine M10.tail.tail.grown hg11 (fun k hk => (ho10.lt k hk).1) ?_
     intro p hp
     simp only [List.tail_cons,List.mem_cons,List.not_mem_nil,or_false] at hp
     rcases hp with rfl | rfl | rfl
     ·exact own_ne ho10 (M10.get 2 rfl) (fun c fr e => by cases e)
     ·obtain ⟨es,clk,hb,_⟩:=hmap9.ext h10.ext
      exact own_ne ho10 hb (fun c fr e => by cases e)
     ·exact own_ne ho10 (M10.get 4 rfl) (fun c fr e => by cases e)
    have hmap11:MapIs C.P 90 w11 gm (goneV ps):=by
     obtain ⟨es,clk,hb,_⟩:=hmap9.ext h10.ext
     exact (hmap9.ext h10.ext).same (hg11.block gm (lt_of_heap hb) (own_ne ho10 hb (fun c fr e => by cases e)))
    obtain ⟨A11,c11,rfl,_,_⟩:=reads_of_owns ho11
    refine ⟨rfl,_,_,M11.get 0 rfl,Nat.le_of_ble_eq_true rfl,rfl,?_⟩
    intro w12 h12
    have M12:=M11.put 0 rfl h12
    refine ⟨_,next,?_⟩
    refine ⟨(i + 1,_),⟨rfl,rfl,rfl,rfl,rfl,rfl,trivial⟩,⟨hlt,M12,hmap11.put h12 (by
     have h5:=M11.nodup
     simp at h5
     exact fun e => h5.1.1 e.symm),?_⟩,by show xs.length - (i + 1) < xs.length - i; omega⟩
    show w12.ownsRow _ _ _ _ (waiveL (xs.take (i + 1)) ps).length (arrows (waiveL (xs.take (i + 1)) ps))
    rw [htake,List.length_append,arrows_append]
    exact ownsRow_put ho11 h12 (fun e => own_ne ho11 (M11.get 0 rfl) (fun c fr e => by cases e) e.symm)
   ·have hm:(xs[i].fr,xs[i].to) ∈ ps:=by simpa using hb
    rw [if_pos hm] at htake
    refine ⟨_,next,?_⟩
    refine ⟨(i + 1,v),⟨rfl,rfl,rfl,rfl,rfl,rfl,trivial⟩,⟨hlt,M9.tail,hmap9,?_⟩,by show xs.length - (i + 1) < xs.length - i; omega⟩
    show w9.ownsRow _ _ _ _ (waiveL (xs.take (i + 1)) ps).length (arrows (waiveL (xs.take (i + 1)) ps))
    rw [htake]
    exact ho9
  ·have:i = xs.length:=by have:¬ (i:Int) < xs.length:=hge; omega
   subst this
   rw [List.take_length] at ho7
   obtain ⟨A8,c8,rfl,_,_⟩:=reads_of_owns ho7
   refine ⟨[.int .i64 N,.slice A8 (waiveL xs ps).length c8],rfl,M7.rd 0 rfl,?_⟩
   refine ⟨rfl,_,_,M7.get 2 rfl,Nat.le_of_ble_eq_true rfl,rfl,?_⟩
   intro w8 h8
   have M8:=M7.put 2 rfl h8
   refine ⟨[.int .i64 N,.slice A8 (waiveL xs ps).length c8],rfl,M8.rd 2 rfl,?_⟩
   refine ⟨⟨A8,c8,rfl,?_⟩,M8.ext⟩
   exact ownsRow_put ho7 h8 (fun e => own_ne ho7 (M7.get 2 rfl) (fun c fr e => by cases e) e.symm)
end Go.Proofs.YtdpdjcopkehdjaaGreat.Rk
namespace Go.Proofs.YtdpdjcopkehdjaaGreat.Rk
open Go.Eng Go.RowKit
def NewRel (B:Nat) (w:World) (v:Value) (N:Int) (xs:List Arrow):Prop:=∃ A c,v = relVal N A xs.length c ∧ w.ownsRow B 60 4 (.slice A xs.length c) xs.length (arrows xs)
theorem newRel_zero (B:Nat) (w:World):NewRel B w (.agg #[.int .i64 0,.slice none 0 0]) 0 []:=⟨none,0,rfl,World.ownsRow_nil _ _ _ _⟩
theorem NewRel.hrel {B:Nat} {w:World} {v:Value} {N:Int} {xs:List Arrow} (h:NewRel B w v N xs) (hN:In64 N) (hx:∀ x ∈ xs,In64 x.fr ∧ In64 x.to ∧ In64 x.rule ∧ In64 x.wt) (hl:xs.length <= 9223372036854775807):∃ A c,v = relVal N A xs.length c ∧ HRel w N A xs c:=by
 obtain ⟨A,c,rfl,ho⟩:=h
 obtain ⟨A',c',e,hr,hc⟩:=reads_of_owns ho
 cases e
 exact ⟨A,c,rfl,hN,hx,hr,hc,hl⟩
theorem Waive_spec {N:Int} {A B:Option Addr} {xs:List Arrow} {c d:Nat} {ps:List (Int × Int)} {w:World} (h:HRel w N A xs c) (hx:xs.length <= 2 ^ 40) (hp:∀ p ∈ ps,In64 p.1 ∧ In64 p.2) (hr:Reads w B (prCells ps)) (hpl:ps.length <= 2 ^ 44) :
  CallsV C.P 33 #[relVal N A xs.length c,.slice B ps.length d] w fun v w' => (∃ u,v = .tuple #[u,.int .i64 (chk N xs)] ∧ NewRel w.heap.size w' u (if chk N xs = 0 then N else 0) (if chk N xs = 0 then waiveL xs ps else [])) ∧ Ext w w':=by
 refine callsV_of C_ok (args:=[_,_]) (plans:=[]) Tryz.func33 rfl Tryz.ntmps33 (by kernel_rfl) (Nat.le_of_ble_eq_true rfl) ?_
 intro g2 w1 h1
 intro g4 w2 h2
 have M2:=((Mem.start w).alloc h1).alloc h2
 refine ⟨[.int .i64 N,.slice A xs.length c],rfl,M2.rd 1 rfl,?_⟩
 refine (Check_spec (h.ext M2.ext)).mono ?_
 rintro v w3 ⟨rfl,e3⟩
 have M3:=M2.grow e3
 refine brE_mk (fun hb => ?_) (fun hb => ?_)
 ·have hv:chk N xs ≠ 0:=by simpa using hb
  refine ⟨rfl,_,_,M3.get 0 rfl,Nat.le_of_ble_eq_true rfl,rfl,?_⟩
  intro w4 h4
  have M4:=M3.put 0 rfl h4
  refine ⟨[.int .i64 0,.slice none 0 0],rfl,M4.rd 0 rfl,?_⟩
  refine ⟨⟨_,rfl,?_⟩,M4.ext⟩
  rw [if_neg hv,if_neg hv]
  exact newRel_zero _ _
 ·have hv:chk N xs = 0:=by simpa using hb
  refine ⟨[.int .i64 N,.slice A xs.length c],rfl,M3.rd 1 rfl,?_⟩
  refine (waive_spec (h.ext M3.ext) hx hp (hr.ext M3.ext) hpl).mono ?_
  rintro v w4 ⟨⟨A4,c4,rfl,ho⟩,e4⟩
  have M4:=M3.grow e4
  refine ⟨rfl,_,_,M4.get 0 rfl,Nat.le_of_ble_eq_true rfl,rfl,?_⟩
  intro w5 h5
  have M5:=M4.put 0 rfl h5
  refine ⟨[.int .i64 N,.slice A4 (waiveL xs ps).length c4],rfl,M5.rd 0 rfl,?_⟩
  refine ⟨⟨_,by rw [hv],?_⟩,M5.ext⟩
  rw [if_pos hv,if_pos hv]
  exact ⟨A4,c4,rfl,ownsRow_base (ownsRow_put ho h5 (fun e => own_ne ho (M4.get 0 rfl) (fun c fr e => by cases e) e.symm)) M3.ext.size⟩
def diffB (R S:Nat -> Nat -> Bool) (a b:Nat):Bool:=!decide (standR R a b = standR S a b)
theorem Changed1_spec {w:World} {gb gc g h n m:Nat} {T R U S:Nat -> Nat -> Bool} (hb:w.heap[gb]? = some (.cells #[.pointer (some ⟨g,0,none⟩)] 123 (0,0))) (hw:Web w g n T R)
  (hc:w.heap[gc]? = some (.cells #[.pointer (some ⟨h,0,none⟩)] 123 (0,0))) (hv:Web w h m U S) {a b:Nat} (ha:a < 24) (hb24:b < 24) :
  CallsV C.P 71 #[.int .i64 a,.int .i64 b,.pointer (some ⟨gb,0,none⟩),.pointer (some ⟨gc,0,none⟩)] w fun v w' => v = .bool (diffB R S a b) ∧ Ext w w':=by
 refine callsV_of C_ok (args:=[_,_,_,_]) (plans:=plans71) Tryz.func71 rfl Tryz.ntmps71 (by kernel_rfl) (Nat.le_of_ble_eq_true rfl) ?_
 refine ⟨_,cell_of_block hb rfl,?_⟩
 refine ⟨_,cell_of_block hc rfl,?_⟩
 refine (standing_spec hw ha hb24).mono ?_
 rintro v w1 ⟨rfl,rfl⟩
 refine ⟨Ext.refl _,?_⟩
 refine (standing_spec hv ha hb24).mono ?_
 rintro v w2 ⟨rfl,rfl⟩
 exact ⟨rfl,Ext.refl _⟩
noncomputable def changedE (N:Int) (xs:List Arrow) (M:Int) (ys:List Arrow):Int:=if chk N xs ≠ 0 then chk N xs else if chk M ys ≠ 0 then chk M ys else if N ≠ M then 1 else 0
noncomputable def changedL (N:Int) (xs:List Arrow) (M:Int) (ys:List Arrow):List (Int × Int):=if changedE N xs M ys = 0 then pairsL N.toNat (diffB (reach (toM xs)) (reach (toM ys))) else []
theorem Changed_spec {N M:Int} {A B:Option Addr} {xs ys:List Arrow} {c d:Nat} {w:World} (h:HRel w N A xs c) (k:HRel w M B ys d) :
  CallsV C.P 35 #[relVal N A xs.length c,relVal M B ys.length d] w fun v w' => (∃ u,v = .tuple #[u,.int .i64 (changedE N xs M ys)] ∧ Prs w.heap.size w' u (changedL N xs M ys)) ∧ Ext w w':=by
 refine callsV_of C_ok (args:=[_,_]) (plans:=plans35) Tryz.func35 rfl Tryz.ntmps35 (by kernel_rfl) (Nat.le_of_ble_eq_true rfl) ?_
 intro g2 w1 h1
 intro g3 w2 h2
 have M2:=((Mem.start w).alloc h1).alloc h2
 refine ⟨[.int .i64 N,.slice A xs.length c],rfl,M2.rd 1 rfl,?_⟩
 by_cases hv:chk N xs = 0
 ·have hok:=valid_of_chk hv
  refine (open_yes (h.ext M2.ext) hok).mono ?_
  rintro v w3 ⟨g,rfl,hg,hw,e3⟩
  have M3:=M2.grow e3
  intro g6 w4 h4
  have M4:=M3.alloc h4
  refine ⟨rfl,_,_,M4.get 0 rfl,Nat.le_of_ble_eq_true rfl,rfl,?_⟩
  intro w5 h5
  have M5:=M4.put 0 rfl h5
  have e35:Ext w3 w5:=h5.ext_of h4.ext (by rw [h4.new]; exact Nat.le_refl _)
  refine ⟨[.int .i64 M,.slice B ys.length d],rfl,M5.rd 1 rfl,?_⟩
  by_cases hv2:chk M ys = 0
  ·have hok2:=valid_of_chk hv2
   refine (open_yes (k.ext M5.ext) hok2).mono ?_
   rintro v w6 ⟨g',rfl,hg',hw',e6⟩
   have M6:=M5.grow e6
   intro g8 w7 h7
   have M7:=M6.alloc h7
   refine ⟨rfl,_,_,M7.get 0 rfl,Nat.le_of_ble_eq_true rfl,rfl,?_⟩
   intro w8 h8
   have M8:=M7.put 0 rfl h8
   have e68:Ext w6 w8:=h8.ext_of h7.ext (by rw [h7.new]; exact Nat.le_refl _)
   have web1:Web w8 g N (toM xs) (reach (toM xs)):=hw.ext ((e35.trans e6).trans e68)
   have web2:Web w8 g' M (toM ys) (reach (toM ys)):=hw'.ext e68
   refine ⟨_,M8.cell 1 rfl rfl,?_⟩
   refine ⟨_,web1.n,?_⟩
   refine ⟨_,M8.cell 0 rfl rfl,?_⟩
   refine ⟨_,web2.n,?_⟩
   refine brE_mk (fun hb => ?_) (fun hb => ?_)
   ·have hne:N ≠ M:=by simpa using hb
    have he:changedE N xs M ys = 1:=by simp [changedE,hv,hv2,hne]
    refine ⟨⟨_,by rw [he],?_⟩,M8.ext⟩
    rw [changedL,he,if_neg (by decide)]
    exact prs_nil _ _
   ·have hne:N = M:=by simpa using hb
    subst hne
    have he:changedE N xs N ys = 0:=by simp [changedE,hv,hv2]
    refine ⟨_,M8.cell 1 rfl rfl,?_⟩
    refine ⟨[],[.pointer (some ⟨g6,0,none⟩),.pointer (some ⟨g8,0,none⟩)],rfl,rfl,?_⟩
    obtain ⟨n,rfl⟩:=Int.eq_ofNat_of_zero_le hok.lo
    have:=hok.hi
    refine (pairs_spec (.inr rfl) web1 (by omega) (hs:=diffB (reach (toM xs)) (reach (toM ys))) (fun w' e a b ha hb => ?_)).mono ?_
    ·exact Changed1_spec (e.heap (M8.get 1 rfl)) (web1.ext e) (e.heap (M8.get 0 rfl)) (web2.ext e) (by omega) (by omega)
    ·rintro v w9 ⟨hp,e9⟩
     refine ⟨⟨v,by rw [he],?_⟩,M8.ext.trans e9⟩
     rw [changedL,if_pos he]
     exact hp.base M8.ext.size
  ·refine (open_no (k.ext M5.ext) hv2).mono ?_
   rintro v w6 ⟨rfl,e6⟩
   have M6:=M5.grow e6
   intro g8 w7 h7
   have M7:=M6.alloc h7
   refine ⟨rfl,_,_,M7.get 0 rfl,Nat.le_of_ble_eq_true rfl,rfl,?_⟩
   intro w8 h8
   have M8:=M7.put 0 rfl h8
   refine ⟨[.int .i64 M,.slice B ys.length d],rfl,M8.rd 2 rfl,?_⟩
   refine (Check_spec (k.ext M8.ext)).mono ?_
   rintro v w9 ⟨rfl,e9⟩
   have he:changedE N xs M ys = chk M ys:=by simp [changedE,hv,hv2]
   refine ⟨⟨_,by rw [he],?_⟩,M8.ext.trans e9⟩
   rw [changedL,he,if_neg hv2]
   exact prs_nil _ _
 ·refine (open_no (h.ext M2.ext) hv).mono ?_
  rintro v w3 ⟨rfl,e3⟩
  have M3:=M2.grow e3
  intro g6 w4 h4
  have M4:=M3.alloc h4
  refine ⟨rfl,_,_,M4.get 0 rfl,Nat.le_of_ble_eq_true rfl,rfl,?_⟩
  intro w5 h5
  have M5:=M4.put 0 rfl h5
  refine ⟨[.int .i64 N,.slice A xs.length c],rfl,M5.rd 2 rfl,?_⟩
  refine (Check_spec (h.ext M5.ext)).mono ?_
  rintro v w6 ⟨rfl,e6⟩
  have he:changedE N xs M ys = chk N xs:=by simp [changedE,hv]
  refine ⟨⟨_,by rw [he],?_⟩,M5.ext.trans e6⟩
  rw [changedL,he,if_neg hv]
  exact prs_nil _ _
end Go.Proofs.YtdpdjcopkehdjaaGreat.Rk
namespace Go.Proofs.YtdpdjcopkehdjaaGreat.Rk
open Go.Eng Go.RowKit
def war (T:Nat -> Nat -> Bool):Nat -> Nat -> Nat -> Bool
 | 0,i,j => T i j
 | k + 1,i,j => war T k i j || (war T k i k && war T k k j)
theorem war_path {T:Nat -> Nat -> Bool}:∀ {k i j:Nat},war T k i j = true -> Path T i j
 | 0,_,_,h => .one h
 | k + 1,i,j,h => by
  rw [war,Bool.or_eq_true,Bool.and_eq_true] at h
  rcases h with h | ⟨h1,h2⟩
  ·exact war_path h
  ·exact (war_path h1).trans (war_path h2)
theorem war_mono {T:Nat -> Nat -> Bool} {k i j:Nat} (h:war T k i j = true):war T (k + 1) i j = true:=by rw [war,h,Bool.true_or]
theorem war_of {T:Nat -> Nat -> Bool} {i j:Nat} (h:T i j = true):∀ k,war T k i j = true
 | 0 => h
 | k + 1 => war_mono (war_of h k)
theorem war_trans {T:Nat -> Nat -> Bool}:∀ {k m i j:Nat},m < k -> war T k i m = true -> war T k m j = true -> war T k i j = true
 | 0,_,_,_,h,_,_ => absurd h (Nat.not_lt_zero _)
 | k + 1,m,i,j,h,h1,h2 => by
  rw [war,Bool.or_eq_true,Bool.and_eq_true] at h1 h2 ⊢
  by_cases hm:m = k
  ·subst hm
   have a1:war T m i m = true:=h1.elim id And.left
   have a2:war T m m j = true:=h2.elim id And.right
   exact .inr ⟨a1,a2⟩
  ·have hlt:m < k:=by omega
   rcases h1 with h1 | ⟨h1,h1'⟩ <;> rcases h2 with h2 | ⟨h2,h2'⟩
   ·exact .inl (war_trans hlt h1 h2)
   ·exact .inr ⟨war_trans hlt h1 h2,h2'⟩
   ·exact .inr ⟨h1,war_trans hlt h1' h2⟩
   ·exact .inr ⟨h1,h2'⟩
theorem reach_war {n:Nat} {T:Nat -> Nat -> Bool} (hT:Inside n T):reach T = war T n:=by
 funext i j
 rw [Bool.eq_iff_iff,reach_iff]
 constructor
 ·intro h
  induction h with
  | one h => exact war_of h n
  | step _ h ih => exact war_trans (hT _ _ h).1 ih (war_of h n)
 ·exact war_path
def exX:List Arrow:=[⟨0,1,0,5⟩,⟨1,2,0,5⟩,⟨2,1,0,5⟩,⟨2,3,0,5⟩]
def exW:List Arrow:=[⟨0,1,0,5⟩,⟨1,2,0,5⟩,⟨2,3,0,5⟩]
theorem exX_valid:chk 4 exX = 0:=by decide
theorem exW_valid:chk 4 exW = 0:=by decide
theorem exX_reach:reach (toM exX) = war (toM exX) 4:=reach_war (valid_of_chk exX_valid).inside
theorem exW_reach:reach (toM exW) = war (toM exW) 4:=reach_war (valid_of_chk exW_valid).inside
theorem ex_waive:waiveL exX [(2,1)] = exW:=by decide
theorem exX_comps:compsV 4 exX = [[0],[1,2],[3]]:=by
 rw [compsV,if_pos exX_valid,exX_reach]
 rfl
theorem exW_comps:compsV 4 exW = [[0],[1],[2],[3]]:=by
 rw [compsV,if_pos exW_valid,exW_reach]
 rfl
theorem exW_unset:unsetL 4 exW = []:=by
 rw [unsetL,if_pos exW_valid,exW_reach]
 rfl
theorem exW_settled:settledB 4 exW = true ∧ settledL 4 exW = [0,1,2,3]:=by
 have h:settledB 4 exW = true:=by simp [settledB,exW_valid,exW_unset]
 refine ⟨h,?_⟩
 rw [settledL,if_pos h,exW_comps]; rfl
theorem ex_changedE:changedE 4 exX 4 exW = 0:=by simp [changedE,exX_valid,exW_valid]
theorem ex_changedL:changedL 4 exX 4 exW = [(1,2)]:=by
 rw [changedL,if_pos ex_changedE,exX_reach,exW_reach]
 rfl
theorem ex_stand03:standS 4 exX 0 3 = 1:=by rw [standS,if_pos exX_valid,exX_reach]; rfl
theorem ex_stand30:standS 4 exX 3 0 = 2:=by rw [standS,if_pos exX_valid,exX_reach]; rfl
theorem ex_stand12:standS 4 exX 1 2 = 3:=by rw [standS,if_pos exX_valid,exX_reach]; rfl
theorem ex_check:checkS 4 exX 1 3 [1,2,1,2,3] = true:=by decide
theorem exT {a b:Nat} (h:toM exX a b = true):(a = 0 ∧ b = 1) ∨ (a = 1 ∧ b = 2) ∨ (a = 2 ∧ b = 1) ∨ (a = 2 ∧ b = 3):=by
 simp [toM,exX] at h
 omega
theorem ex_d32:dist (toM exX) 3 2 = 1:=dist_one.2 rfl
theorem ex_d31:dist (toM exX) 3 1 = 2:=by
 have h1:dist (toM exX) 3 1 ≠ 1:=fun h => by have:=exT (dist_one.1 h); omega
 exact (dist_next (by omega)).2 ⟨by omega,2,rfl,ex_d32⟩
theorem ex_d30:dist (toM exX) 3 0 = 3:=by
 have h1:dist (toM exX) 3 0 ≠ 1:=fun h => by have:=exT (dist_one.1 h); omega
 have h2:dist (toM exX) 3 0 ≠ 2:=fun h => by
  obtain ⟨_,y,hy,hd⟩:=(dist_next (by omega)).1 h
  have:=exT hy
  have:=exT (dist_one.1 hd)
  omega
 exact (dist_next (by omega)).2 ⟨by omega,1,rfl,ex_d31⟩
theorem ex_d12:dist (toM exX) 1 2 = 1:=dist_one.2 rfl
theorem ex_d11:dist (toM exX) 1 1 = 2:=by
 have h1:dist (toM exX) 1 1 ≠ 1:=fun h => by have:=exT (dist_one.1 h); omega
 exact (dist_next (by omega)).2 ⟨by omega,2,rfl,ex_d12⟩
theorem ex_m0:members (toM exX 0) = [1]:=by decide
theorem ex_m1:members (toM exX 1) = [2]:=by decide
theorem ex_chain03:chainS 4 exX 0 3 = some [0,1,2,3]:=by
 have h:chk 4 exX = 0 ∧ (inR 4 0 && inR 4 3) = true ∧ reach (toM exX) (0:Int).toNat (3:Int).toNat = true:=⟨exX_valid,rfl,by rw [exX_reach]; rfl⟩
 rw [chainS,if_pos h]
 show some (chainL (toM exX) 0 3) = _
 simp [chainL,ex_d30,follow,ex_m0,ex_m1,ex_d31,ex_d32]
theorem ex_chain11:chainS 4 exX 1 1 = some [1,2,1]:=by
 have h:chk 4 exX = 0 ∧ (inR 4 1 && inR 4 1) = true ∧ reach (toM exX) (1:Int).toNat (1:Int).toNat = true:=⟨exX_valid,rfl,by rw [exX_reach]; rfl⟩
 rw [chainS,if_pos h]
 show some (chainL (toM exX) 1 1) = _
 simp [chainL,ex_d11,follow,ex_m1,ex_d12]
theorem ex_chain30:chainS 4 exX 3 0 = none:=by
 have h:¬ (chk 4 exX = 0 ∧ (inR 4 3 && inR 4 0) = true ∧ reach (toM exX) (3:Int).toNat (0:Int).toNat = true):=fun h => by
  have:=h.2.2
  rw [exX_reach] at this
  cases this
 rw [chainS,if_neg h]
end Go.Proofs.YtdpdjcopkehdjaaGreat.Rk
namespace Go.Proofs.YtdpdjcopkehdjaaGreat.Rk
open Go.Eng Go.RowKit
theorem SameInts_spec {w:World} {A B:Option Addr} {xs ys:List Int} {c d:Nat} (hx:Reads w A (ints xs)) (hy:Reads w B (ints ys)) (hl:xs.length <= 9223372036854775807) :
  CallsV C.P 37 #[.slice A xs.length c,.slice B ys.length d] w fun v w' => v = .bool (decide (xs = ys)) ∧ Ext w w':=by
 refine callsV_of C_ok (args:=[_,_]) (plans:=plans37) Tryz.func37 rfl Tryz.ntmps37 (by kernel_rfl) (Nat.le_of_ble_eq_true rfl) ?_
 refine brE_mk (fun hb => ?_) (fun hb => ?_)
 ·have hb:¬ (xs.length:Int) = (ys.length:Int):=by simpa using hb
  have hne:xs ≠ ys:=fun e => hb (by rw [e])
  exact ⟨by rw [decide_eq_false hne],Ext.refl _⟩
 ·have hb:(xs.length:Int) = (ys.length:Int):=by simpa using hb
  have hlen:xs.length = ys.length:=by omega
  refine loopE C_ok (fun (i:Nat) => [(0,.slice A xs.length c),(1,.slice B ys.length d),(5,.int .i64 i)])
   (fun i w' => w' = w ∧ i <= xs.length ∧ xs.take i = ys.take i) (fun i => xs.length - i) 0 ⟨rfl,rfl,rfl,trivial⟩ ⟨rfl,Nat.zero_le _,rfl⟩ ?_
  rintro i w1 ⟨rfl,hi,ht⟩
  refine brE_dec (fun hlt => ?_) (fun hge => ?_)
  ·have hlt:i < xs.length:=by omega
   have hlt2:i < ys.length:=by omega
   obtain ⟨b1,o1,hA,hc1⟩:=Reads.int hx hlt
   obtain ⟨b2,o2,hB,hc2⟩:=Reads.int hy hlt2
   refine ⟨i,b1,o1,rfl,hlt,hA,?_⟩
   refine ⟨_,by simpa using hc1,?_⟩
   refine ⟨i,b2,o2,rfl,hlt2,hB,?_⟩
   refine ⟨_,by simpa using hc2,?_⟩
   refine brE_mk (fun hn => ?_) (fun hn => ?_)
   ·have hn:¬ xs[i] = ys[i]:=by simpa using hn
    have hne:xs ≠ ys:=fun e => hn (by subst e; rfl)
    exact ⟨by rw [decide_eq_false hne],Ext.refl _⟩
   ·have hn:xs[i] = ys[i]:=by simpa using hn
    refine ⟨((i + 1:Nat):Int),fit ⟨by omega,by omega⟩,?_⟩
    exact ⟨i + 1,⟨rfl,rfl,rfl,trivial⟩,⟨rfl,hlt,by rw [List.take_succ_eq_append_getElem hlt,List.take_succ_eq_append_getElem hlt2,ht,hn]⟩,by omega⟩
  ·have:i = xs.length:=by omega
   subst this
   have e:xs = ys:=by rw [List.take_length,hlen,List.take_length] at ht; exact ht
   exact ⟨by rw [decide_eq_true e],Ext.refl _⟩
theorem sample_spec (w:World):CallsV C.P 31 #[] w fun v w' => NewRel w.heap.size w' v 4 exX ∧ Ext w w':=by
 refine callsV_of C_ok (args:=[]) (plans:=[]) Tryz.func31 rfl Tryz.ntmps31 (by kernel_rfl) (Nat.le_of_ble_eq_true rfl) ?_
 intro g0 w1 h1
 intro g5 w2 h2
 have M2:=((Mem.start w).alloc h1).alloc h2
 refine ⟨rfl,_,_,M2.get 1 rfl,Nat.le_of_ble_eq_true rfl,rfl,?_⟩
 intro w3 h3
 have M3:=M2.put 1 rfl h3
 refine ⟨[.int .i64 4,.slice (some ⟨g5,0,none⟩) 4 4],rfl,M3.rd 1 rfl,?_⟩
 refine ⟨⟨some ⟨g5,0,none⟩,4,rfl,?_⟩,M3.ext⟩
 exact owns_block (M3.get 0 rfl) (M3.new 0 rfl) rfl (Nat.le_of_ble_eq_true rfl)
theorem under4:Tryz.prog.underlying 4 = some .bool:=by kernel_rfl
theorem eqFields_run {P:Program} {w:World} {d:Nat} {xs ys:Array Value} {f:Field -> Bool}:∀ {fs:List Field},(∀ x ∈ fs,x.name ≠ "_" ∧ ∃ u v,(part x.type xs x.offset).run P w = .ok u w ∧ (part x.type ys x.offset).run P w = .ok v w ∧ (Op.equalIn d x.type u v).run P w = .ok (f x) w) →
  (Op.eqFields d xs ys fs).run P w = .ok (fs.all f) w
 | [],_ => by simp [Op.eqFields]
 | x :: r,h => by
  obtain ⟨hn,u,v,h1,h2,h3⟩:=h x (by simp)
  rw [Op.eqFields,if_pos hn]
  simp only [Sem.run_bind,h1,h2,h3,Result.andThen_ok,List.all_cons]
  cases hf:f x with
  | false => simp
  | true => simpa using eqFields_run fun y hy => h y (by simp [hy])
theorem eqInt_run {P:Program} {t:Nat} {k:IntKind} (hu:P.underlying t = some (.int k)) (w:World) (d:Nat) (k':IntKind) (a b:Int):(Op.equalIn (d + 1) t (.int k' a) (.int k' b)).run P w = .ok (decide (a = b)) w:=by
 simp only [Op.equalIn,Sem.run_bind,run_underlying hu,Result.andThen_ok,if_true,Sem.run_pure]
 congr 1
theorem eq58 (x y:Operand) (p q:Int × Int):EqIs C.P .eql 90 x y (prVal p) (prVal q) (decide (p = q)):=by
 intro w
 have hm:C.P.eqGuardType C.P.depth 90 = false:=by kernel_rfl
 have hs:C.P.stoodInHeld 90 = false:=by kernel_rfl
 have hf:Tryz.prog.fieldsOf 90 = #[⟨ "A",3,0,false, "", "",0⟩,⟨ "B",3,1,false, "", "",8⟩]:=by kernel_rfl
 have hu:C.P.underlying 90 = some (.struct (C.P.fieldsOf 90)):=by show Tryz.prog.underlying 90 = some (.struct (Tryz.prog.fieldsOf 90)); rw [hf]; exact u58
 rw [Sem.run_bind,prVal,prVal,run_eqGuard_agg w .eql 90 x y _ _ hm]
 simp only [Result.andThen_ok]
 rw [run_eql_struct,run_equalIn_struct w 9999 90 _ _ hu hs]
 have h3:C.P.underlying 3 = some (.int .i64):=under3
 have hp:∀ (i:Nat) (cs:Array Value) (v:Value),cs[i]? = some v -> (part 3 cs i).run C.P w = .ok v w:=by
  intro i cs v hv
  have:=(C_ok.ti (t:=3) (ti:=ty3) rfl).run_agg
  simp [part,this,ty3,TD.agg,hv]
 show ((Op.eqFields 9999 _ _ (Tryz.prog.fieldsOf 90).toList).run C.P w).andThen _ = _
 rw [hf]
 rw [eqFields_run (f:=fun x => if x.offset = 0 then decide (p.1 = q.1) else decide (p.2 = q.2))]
 ·obtain ⟨a,b⟩:=p
  obtain ⟨c,d⟩:=q
  simp
 ·intro f hf
  simp only [List.mem_cons,List.not_mem_nil,or_false] at hf
  rcases hf with rfl | rfl
  ·exact ⟨by decide,.int .i64 p.1,.int .i64 q.1,hp 0 _ _ rfl,hp 0 _ _ rfl,eqInt_run h3 w 9998 .i64 p.1 q.1⟩
  ·exact ⟨by decide,.int .i64 p.2,.int .i64 q.2,hp 1 _ _ rfl,hp 1 _ _ rfl,eqInt_run h3 w 9998 .i64 p.2 q.2⟩
end Go.Proofs.YtdpdjcopkehdjaaGreat.Rk
namespace Go.Proofs.YtdpdjcopkehdjaaGreat.Rk
open Go.Eng Go.RowKit
theorem exX_nums:∀ x ∈ exX,In64 x.fr ∧ In64 x.to ∧ In64 x.rule ∧ In64 x.wt:=by decide
theorem exW_nums:∀ x ∈ exW,In64 x.fr ∧ In64 x.to ∧ In64 x.rule ∧ In64 x.wt:=by decide
theorem SameInts_yes {w:World} {A B:Option Addr} {xs:List Int} {c d:Nat} (hx:Reads w A (ints xs)) (hy:Reads w B (ints xs)) (hl:xs.length <= 9223372036854775807) :
  CallsV C.P 37 #[.slice A xs.length c,.slice B xs.length d] w fun v w' => v = .bool true ∧ Ext w w' :=
 (SameInts_spec hx hy hl).mono fun v w' h => ⟨by rw [h.1,decide_eq_true rfl],h.2⟩
theorem eq58_yes (x y:Operand) (p:Int × Int):EqIs C.P .eql 90 x y (prVal p) (prVal p) true:=by
 have:=eq58 x y p p
 rwa [decide_eq_true rfl] at this
theorem reads_block {w:World} {g t:Nat} {cs:List Value} (h:w.heap[g]? = some (.cells cs.toArray t (0,0))):Reads w (some ⟨g,0,none⟩) cs:=.inr ⟨g,0,rfl,Rd.of_block h⟩
set_option maxRecDepth 100000 in
theorem stands_spec (w:World):CallsV C.P 11 #[] w fun v w' => v = .bool true ∧ Ext w w':=by
 refine callsV_of C_ok (args:=[]) (plans:=[]) Tryz.func11 rfl Tryz.ntmps11 (by kernel_rfl) (Nat.le_of_ble_eq_true rfl) ?_
 refine (sample_spec w).mono ?_
 rintro v w1 ⟨hn,e1⟩
 obtain ⟨A,c,rfl,hX1⟩:=hn.hrel (by decide) exX_nums (by decide)
 intro g1 w2 h2
 refine ⟨rfl,_,_,h2.here,Nat.le_of_ble_eq_true rfl,rfl,?_⟩
 intro w3 h3
 have e13:Ext w1 w3:=h3.ext_of h2.ext (by rw [h2.new]; exact Nat.le_refl _)
 have e3:Ext w w3:=e1.trans e13
 have hX:HRel w3 4 A exX c:=hX1.ext e13
 have hR:Rd w3 g1 0 [.int .i64 4,.slice A exX.length c]:=Rd.of_block h3.here
 -- the chains
 refine ⟨[.int .i64 4,.slice A exX.length c],rfl,hR,?_⟩
 refine (Chain_spec hX 0 3).mono ?_
 rintro v w4 hc4
 rw [ex_chain03] at hc4
 obtain ⟨⟨s4,rfl,hl4⟩,e4⟩:=hc4
 obtain ⟨A4,c4,rfl,hr4,_⟩:=hl4.slice
 refine ⟨[.int .i64 4,.slice A exX.length c],rfl,hR.ext e4,?_⟩
 refine (Chain_spec (hX.ext e4) 1 1).mono ?_
 rintro v w5 hc5
 rw [ex_chain11] at hc5
 obtain ⟨⟨s5,rfl,hl5⟩,e5⟩:=hc5
 obtain ⟨A5,c5,rfl,hr5,_⟩:=hl5.slice
 have e35:=e4.trans e5
 refine ⟨[.int .i64 4,.slice A exX.length c],rfl,hR.ext e35,?_⟩
 refine (Chain_spec (hX.ext e35) 3 0).mono ?_
 rintro v w6 hc6
 rw [ex_chain30] at hc6
 obtain ⟨rfl,e6⟩:=hc6
 have e36:=e35.trans e6
 -- the components
 refine ⟨[.int .i64 4,.slice A exX.length c],rfl,hR.ext e36,?_⟩
 refine (Components_spec (hX.ext e36)).mono ?_
 rintro v w7 ⟨hl7,e7⟩
 rw [exX_comps] at hl7
 obtain ⟨A7,c7,us7,rfl,hr7⟩:=hl7.read
 have e37:=e36.trans e7
 -- waived
 refine ⟨[.int .i64 4,.slice A exX.length c],rfl,hR.ext e37,?_⟩
 intro g38 w8 h8
 have e38:=e37.trans h8.ext
 refine (Waive_spec (ps:=[(2,1)]) (hX.ext e38) (by decide) (by decide) (.inr ⟨g38,0,rfl,Rd.of_block h8.here⟩) (by decide)).mono ?_
 rintro v w9 ⟨⟨u9,hv9,hn9⟩,e9⟩
 rw [exX_valid] at hv9
 subst hv9
 rw [exX_valid,if_pos rfl,if_pos rfl,ex_waive] at hn9
 obtain ⟨A9,c9,rfl,hW9⟩:=hn9.hrel (by decide) exW_nums (by decide)
 have e39:=e38.trans e9
 intro g9 w10 h10
 refine ⟨rfl,_,_,h10.here,Nat.le_of_ble_eq_true rfl,rfl,?_⟩
 intro w11 h11
 have e911:Ext w9 w11:=h11.ext_of h10.ext (by rw [h10.new]; exact Nat.le_refl _)
 have e311:=e39.trans e911
 have hW:HRel w11 4 A9 exW c9:=hW9.ext e911
 have hRW:Rd w11 g9 0 [.int .i64 4,.slice A9 exW.length c9]:=Rd.of_block h11.here
 -- settled
 refine ⟨[.int .i64 4,.slice A9 exW.length c9],rfl,hRW,?_⟩
 refine (Settled_spec hW).mono ?_
 rintro v w12 ⟨⟨u12,hv12,hl12⟩,e12⟩
 rw [exW_settled.1] at hv12
 subst hv12
 rw [exW_settled.2] at hl12
 obtain ⟨A12,c12,rfl,hr12,_⟩:=hl12.slice
 have e312:=e311.trans e12
 -- changed
 refine ⟨[.int .i64 4,.slice A exX.length c],rfl,hR.ext e312,?_⟩
 refine ⟨[.int .i64 4,.slice A9 exW.length c9],rfl,hRW.ext e12,?_⟩
 refine (Changed_spec (hX.ext e312) (hW.ext e12)).mono ?_
 rintro v w13 ⟨⟨u13,hv13,hp13⟩,e13'⟩
 rw [ex_changedE] at hv13
 subst hv13
 rw [ex_changedL] at hp13
 obtain ⟨A13,c13,rfl,hr13,_⟩:=reads_of_owns hp13
 have e313:=e312.trans e13'
 -- the standings
 have hX13:=hX.ext e313
 refine ⟨[.int .i64 4,.slice A exX.length c],rfl,hR.ext e313,?_⟩
 refine (Standing_spec hX13 0 3).mono ?_
 rintro v w14 ⟨hv14,e14⟩
 rw [ex_stand03] at hv14
 subst hv14
 have hX14:=hX13.ext e14
 refine ⟨[.int .i64 4,.slice A exX.length c],rfl,hR.ext (e313.trans e14),?_⟩
 refine (Standing_spec hX14 3 0).mono ?_
 rintro v w15 ⟨hv15,e15⟩
 rw [ex_stand30] at hv15
 subst hv15
 have hX15:=hX14.ext e15
 have e315:=(e313.trans e14).trans e15
 refine ⟨[.int .i64 4,.slice A exX.length c],rfl,hR.ext e315,?_⟩
 refine (Standing_spec hX15 1 2).mono ?_
 rintro v w16 ⟨hv16,e16⟩
 rw [ex_stand12] at hv16
 subst hv16
 have e316:=e315.trans e16
 -- the lists
 intro g17 w17 h17
 have e317:=e316.trans h17.ext
 have e417:Ext w4 w17:=((((((((((e5.trans e6).trans e7).trans h8.ext).trans e9).trans e911).trans e12).trans e13').trans e14).trans e15).trans e16).trans h17.ext
 refine (SameInts_yes (xs:=[0,1,2,3]) (hr4.ext e417) (reads_block h17.here) (by decide)).mono ?_
 rintro v w18 ⟨rfl,e18⟩
 intro g19 w19 h19
 have e519:Ext w5 w19:=(((((((((((e6.trans e7).trans h8.ext).trans e9).trans e911).trans e12).trans e13').trans e14).trans e15).trans e16).trans h17.ext).trans e18).trans h19.ext
 refine (SameInts_yes (xs:=[1,2,1]) (hr5.ext e519) (reads_block h19.here) (by decide)).mono ?_
 rintro v w20 ⟨rfl,e20⟩
 intro g21 w21 h21
 have e1721:Ext w17 w21:=((e18.trans h19.ext).trans e20).trans h21.ext
 have e1217:Ext w12 w17:=(((e13'.trans e14).trans e15).trans e16).trans h17.ext
 refine (SameInts_yes (xs:=[0,1,2,3]) (hr12.ext (e1217.trans e1721)) (reads_block h21.here) (by decide)).mono ?_
 rintro v w22 ⟨rfl,e22⟩
 have e722:Ext w7 w22:=((((((h8.ext.trans e9).trans e911).trans e12).trans e1217).trans e1721)).trans e22
 have hr22:=hr7.ext e722
 obtain ⟨A',c',hu,hrow⟩:=hr22.row 1 (by decide)
 rcases hr22.reads with h0 | ⟨b,o,hA,hrd⟩
 ·rw [h0] at hu; simp at hu
 refine ⟨1,b,o,rfl,(by decide:1 < 3),hA,?_⟩
 refine ⟨_,by simpa using hrd 1 _ hu,?_⟩
 intro g23 w23 h23
 refine (SameInts_yes (xs:=[1,2]) (hrow.ext h23.ext) (reads_block h23.here) (by decide)).mono ?_
 rintro v w24 ⟨rfl,e24⟩
 have e1324:Ext w13 w24:=((((((e14.trans e15).trans e16).trans h17.ext).trans e1721).trans e22).trans h23.ext).trans e24
 -- the pair
 obtain ⟨b2,o2,hA2,hrd2⟩:=Reads.pair (ps:=[((1:Int),(2:Int))]) (hr13.ext e1324) (i:=0) (by decide)
 refine ⟨0,b2,o2,rfl,(by decide:0 < 1),hA2,?_⟩
 refine ⟨[.int .i64 1,.int .i64 2],rfl,hrd2,?_⟩
 refine ⟨true,eq58_yes _ _ (1,2),?_⟩
 have e324:Ext w3 w24:=e313.trans e1324
 refine ⟨[.int .i64 4,.slice A exX.length c],rfl,hR.ext e324,?_⟩
 intro g25 w25 h25
 refine (CheckChain_spec (hX.ext (e324.trans h25.ext)) 1 3 (l:=[1,2,1,2,3]) (reads_block h25.here) (by decide)).mono ?_
 rintro v w26 ⟨hv26,e26⟩
 rw [ex_check] at hv26
 subst hv26
 exact ⟨rfl,((e3.trans e324).trans h25.ext).trans e26⟩
end Go.Proofs.YtdpdjcopkehdjaaGreat.Rk
namespace Go.Proofs.YtdpdjcopkehdjaaGreat.Rk
open Go.Eng Go.RowKit
end Go.Proofs.YtdpdjcopkehdjaaGreat.Rk
namespace Go.Proofs.YtdpdjcopkehdjaaGreat.Rk
open Go.Eng Go.RowKit
theorem follow_ok {n:Nat} {T:Nat -> Nat -> Bool} (hT:Inside n T) (hn:n <= 24) {b:Nat}:∀ (k x:Nat),dist T b x = k + 1 →
  (follow T (dist T b) x k).length = k ∧ (∀ z ∈ follow T (dist T b) x k,∃ m:Nat,z = (m:Int) ∧ m < n) ∧ linksB T ((x:Int) :: (follow T (dist T b) x k ++ [(b:Int)])) = true
 | 0,x,h => by
  refine ⟨rfl,fun z hz => by simp [follow] at hz,?_⟩
  simp [follow,linksB]
  exact dist_one.1 h
 | k + 1,x,h => by
  obtain ⟨_,y0,hty0,hy0⟩:=(dist_next (by omega:2 <= k + 1 + 1)).1 h
  have hy24:y0 < 24:=by have:=hT _ _ hty0; omega
  obtain ⟨i,hi,ei⟩:=members_mem hy24 hty0
  rw [follow]
  cases hf:(members (T x)).find? fun y => decide (dist T b y.toNat = k + 1) with
  | none =>
   rw [List.find?_eq_none] at hf
   have:=hf _ (List.getElem_mem hi)
   rw [ei] at this
   simp at this
   omega
  | some y =>
   have hp:=List.find?_some hf
   have hm:=List.mem_of_find?_eq_some hf
   obtain ⟨j,hj,ej⟩:=List.getElem_of_mem hm
   obtain ⟨m,em,hm24,htm⟩:=members_get hj
   rw [ej] at em
   subst em
   simp at hp
   have ih:=follow_ok hT hn k m hp
   refine ⟨by simp [ih.1],?_,?_⟩
   ·intro z hz
    rcases List.mem_cons.1 hz with rfl | hz
    ·exact ⟨m,rfl,(hT _ _ htm).2⟩
    ·exact ih.2.1 z hz
   ·simp only [Int.toNat_natCast] at ih ⊢
    rw [List.cons_append,linksB,Bool.and_eq_true]
    exact ⟨by simpa using htm,ih.2.2⟩
theorem chain_checks {N:Int} {xs:List Arrow} {a b:Int} {l:List Int} (h:chainS N xs a b = some l):checkS N xs a b l = true:=by
 unfold chainS at h
 split at h
 ·rename_i hc
  obtain ⟨hv,hin,hr⟩:=hc
  have hok:=valid_of_chk hv
  have hin':=Bool.and_eq_true_iff.1 hin
  obtain ⟨p,rfl,hp⟩:=inR_nat hin'.1
  obtain ⟨q,rfl,hq⟩:=inR_nat hin'.2
  simp only [Int.toNat_natCast,Option.some.injEq] at h hr
  have hpath:=reach_iff.1 hr
  have h0:dist (toM xs) q p ≠ 0:=fun e => dist_zero.1 e hpath
  obtain ⟨k,hk⟩:∃ k,dist (toM xs) q p = k + 1:=⟨dist (toM xs) q p - 1,by omega⟩
  have hhi:=hok.hi
  have hlo:=hok.lo
  obtain ⟨h1,h2,h3⟩:=follow_ok hok.inside (by omega) k p hk
  have e:l = (p:Int) :: (follow (toM xs) (dist (toM xs) q) p k ++ [(q:Int)]):=by rw [<-h,chainL,hk]; rfl
  subst e
  unfold checkS chainOk
  rw [h3,hv]
  have hall:((p:Int) :: (follow (toM xs) (dist (toM xs) q) p k ++ [(q:Int)])).all (inR N) = true:=by
   rw [List.all_eq_true]
   intro z hz
   simp only [List.mem_cons,List.mem_append,List.not_mem_nil,or_false] at hz
   rcases hz with rfl | hz | rfl
   ·exact hin'.1
   ·obtain ⟨m,rfl,hm⟩:=h2 z hz
    simp; omega
   ·exact hin'.2
  rw [hall,hin'.1,hin'.2]
  have hlast:((p:Int) :: (follow (toM xs) (dist (toM xs) q) p k ++ [(q:Int)])).getLast? = some (q:Int):=by
   rw [<-List.cons_append,List.getLast?_append]; simp
  rw [hlast]
  simp
 ·cases h
end Go.Proofs.YtdpdjcopkehdjaaGreat.Rk
namespace Go.Proofs.YtdpdjcopkehdjaaGreat.Rk
open Go.Eng Go.RowKit
section
variable {n:Nat} {R:Nat -> Nat -> Bool}
def left (n:Nat) (D:Nat -> Bool):Nat:=((List.range n).filter fun k => !D k).length
end
end Go.Proofs.YtdpdjcopkehdjaaGreat.Rk
namespace Go.Proofs.YtdpdjcopkehdjaaGreat.Rk
open Go.Eng Go.RowKit
end Go.Proofs.YtdpdjcopkehdjaaGreat.Rk
namespace Go.Proofs.YtdpdjcopkehdjaaGreat.Rk
open Go.Eng Go.RowKit
theorem maxQ {o:Oper} {l:Env} {w:World} {x y:Operand} {ts:Array Nat} {a b:Int} (ho:o.op = .call ⟨.builtin .max,#[x,y],ts⟩) (hx:evo l x = some (.int .i64 a)) (hy:evo l y = some (.int .i64 b)) :
  QuietRun C o l w (.int .i64 (if b > a then b else a)):=by
 intro ρ hρ w' _
 unfold execOp
 rw [ho]
 simp [resolve,invoke,builtin,hρ _ _ hx,hρ _ _ hy,Builtin.max_,Builtin.max2]
def natsN (n:Nat) (f:Nat -> Nat):List Int:=(List.range n).map fun k => ((f k:Nat):Int)
theorem natsN_length (n:Nat) (f:Nat -> Nat):(natsN n f).length = n:=by simp [natsN]
theorem natsN_get {n i:Nat} (h:i < n) (f:Nat -> Nat):(ints (natsN n f))[i]? = some (.int .i64 (f i:Nat)):=by simp [ints,natsN,h]
theorem natsN_set {n i:Nat} (h:i < n) (f:Nat -> Nat) (v:Nat):splice (ints (natsN n f)) i [.int .i64 (v:Nat)] = ints (natsN n fun a => if a = i then v else f a):=by
 rw [splice_one (by rw [ints_length,natsN_length]; exact h)]
 apply List.ext_getElem?
 intro k
 rw [List.getElem?_set]
 by_cases hk:i = k
 ·subst hk
  rw [if_pos rfl,natsN_get h,if_pos (by rw [ints_length,natsN_length]; exact h),if_pos rfl]
 ·rw [if_neg hk]
  by_cases hkn:k < n
  ·rw [natsN_get hkn,natsN_get hkn,if_neg (fun e => hk e.symm)]
  ·rw [List.getElem?_eq_none (by rw [ints_length,natsN_length]; omega),List.getElem?_eq_none (by rw [ints_length,natsN_length]; omega)]
theorem zeros_natsN (n:Nat):List.replicate n (Value.int .i64 0) = ints (natsN n fun _ => 0):=by
 apply List.ext_getElem?
 intro i
 by_cases h:i < n
 ·rw [natsN_get h,List.getElem?_replicate,if_pos h]; rfl
 ·rw [List.getElem?_eq_none (by simp; omega),List.getElem?_eq_none (by rw [ints_length,natsN_length]; omega)]
theorem maxQ' {o:Oper} {l:Env} {w:World} {x y:Operand} {ts:Array Nat} {a b c:Int} (hm:(if b > a then b else a) = c) (ho:o.op = .call ⟨.builtin .max,#[x,y],ts⟩) (hx:evo l x = some (.int .i64 a)) (hy:evo l y = some (.int .i64 b)) :
  QuietRun C o l w (.int .i64 c):=by
 rw [<-hm]
 exact maxQ ho hx hy
end Go.Proofs.YtdpdjcopkehdjaaGreat.Rk
namespace Go.Proofs.YtdpdjcopkehdjaaGreat.Rk
open Go.Eng Go.RowKit
section
variable {n:Nat} {R:Nat -> Nat -> Bool}
open Classical in
noncomputable def ix (n:Nat) (R:Nat -> Nat -> Bool) (a:Nat):Nat:=if h:∃ i,∃ hi:i < (compsL n R).length,(a:Int) ∈ (compsL n R)[i] then h.choose else 0
end
end Go.Proofs.YtdpdjcopkehdjaaGreat.Rk
namespace Go.Proofs.YtdpdjcopkehdjaaGreat.Rk
open Go.Eng Go.RowKit
end Go.Proofs.YtdpdjcopkehdjaaGreat.Rk
