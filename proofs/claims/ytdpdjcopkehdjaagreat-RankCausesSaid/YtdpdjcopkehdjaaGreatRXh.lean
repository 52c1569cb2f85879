/- a part of the proof: steps, walks and plain laws that the law below stands on; no condition. -/
import Derived.Test.YtdpdjcopkehdjaaGreatRXa
import Derived.Test.YtdpdjcopkehdjaaGreatRXb
import Derived.Test.YtdpdjcopkehdjaaGreatRXc
import Derived.Test.YtdpdjcopkehdjaaGreatRXd
import Derived.Test.YtdpdjcopkehdjaaGreatRXe
import Derived.Test.YtdpdjcopkehdjaaGreatRXf
import Derived.Test.YtdpdjcopkehdjaaGreatRXg
import Derived.Test.YtdpdjcopkehdjaaGreatRows
import Derived.ProofKit
import Derived.Lib.SmallJoins
import Derived.Deep.Slices
import Derived.Deep.SlicePairs
import Derived.RowKit
import Derived.RowKit3
import Derived.Maps.RangeRun
set_option linter.unusedVariables false
set_option linter.unusedSimpArgs false
set_option linter.unnecessarySimpa false
set_option linter.unusedSectionVars false
namespace Go.Proofs.YtdpdjcopkehdjaaGreat.Rk
open Go.Eng Go.RowKit
open Go.Maps (Keyed)
abbrev idB (n:Int):Bool:=decide (1 <= n ∧ n <= 1000000)
theorem isId_spec (n:Int) (w:World):CallsV C.P 135 #[.int .i64 n] w fun v w' => v = .bool (idB n) ∧ w' = w:=by
 refine callsV_of C_ok (args:=[_]) (plans:=[]) Tryz.func135 rfl Tryz.ntmps135 (by kernel_rfl) (Nat.le_of_ble_eq_true rfl) ?_
 refine brE_dec (fun h => ?_) (fun h => ?_)
 ·have h:n >= 1:=h
  refine ⟨?_,rfl⟩
  have:(1:Int) <= n:=h
  simp [this]
 ·have h:¬ n >= 1:=h
  refine ⟨?_,rfl⟩
  have:¬ (1:Int) <= n:=h
  simp [this]
theorem id_spec (n:Int) (w:World):CallsV C.P 142 #[.int .i64 n] w fun v w' => v = .bool (idB n) ∧ w' = w:=by
 refine callsV_of C_ok (args:=[_]) (plans:=[]) Tryz.func142 rfl Tryz.ntmps142 (by kernel_rfl) (Nat.le_of_ble_eq_true rfl) ?_
 refine brE_dec (fun h => ?_) (fun h => ?_)
 ·have h:n >= 1:=h
  refine ⟨?_,rfl⟩
  have:(1:Int) <= n:=h
  simp [this]
 ·have h:¬ n >= 1:=h
  refine ⟨?_,rfl⟩
  have:¬ (1:Int) <= n:=h
  simp [this]
structure Scn where
 host:Int
 lang:Int
 lot:Int
 known:Int
 day:Int
def Scn.cells (s:Scn):List Value:=[.int .i64 s.host,.int .i64 s.lang,.int .i64 s.lot,.int .i64 s.known,.int .i64 s.day]
def Scn.val (s:Scn):Value:=.agg s.cells.toArray
def Scn.ok (s:Scn):Prop:=(1 <= s.host ∧ s.host <= 1000000) ∧ (1 <= s.lang ∧ s.lang <= 3) ∧ (0 <= s.lot ∧ s.lot <= 199) ∧ (0 <= s.known ∧ s.known <= 100000) ∧ (0 <= s.day ∧ s.day <= 100000)
instance (s:Scn):Decidable s.ok:=by unfold Scn.ok; infer_instance
def schk (s:Scn):Int:=if s.ok then 0 else 1
theorem schk_bad {s:Scn} (h:¬ s.ok):(1:Int) = schk s:=by rw [schk,if_neg h]
theorem schk_ok {s:Scn} (h:s.ok):(0:Int) = schk s:=by rw [schk,if_pos h]
theorem CheckScene_spec (s:Scn) (w:World):CallsV C.P 78 #[s.val] w fun v w' => v = .int .i64 (schk s) ∧ Ext w w':=by
 refine callsV_of C_ok (args:=[_]) (plans:=[]) Tryz.func78 rfl Tryz.ntmps78 (by kernel_rfl) (Nat.le_of_ble_eq_true rfl) ?_
 intro g1 w1 h1
 have M1:=(Mem.start w).alloc h1
 refine ⟨_,M1.cell 0 rfl rfl,?_⟩
 refine (isId_spec s.host w1).mono ?_
 rintro v w2 ⟨rfl,rfl⟩
 refine brE_mk (fun b1 => ?_) (fun b1 => ?_)
 ·refine ⟨?_,M1.ext⟩
  rw [<-schk_bad]
  intro h; have h':=h.1; simp at b1; omega
 refine ⟨_,M1.cell 0 rfl rfl,?_⟩
 refine (in_spec _ _ _ _).mono ?_
 rintro v w2 ⟨rfl,rfl⟩
 refine brE_mk (fun b2 => ?_) (fun b2 => ?_)
 ·refine ⟨?_,M1.ext⟩
  rw [<-schk_bad]
  intro h; have h':=h.2.1; simp at b2; omega
 refine ⟨_,M1.cell 0 rfl rfl,?_⟩
 refine (in_spec _ _ _ _).mono ?_
 rintro v w2 ⟨rfl,rfl⟩
 refine brE_mk (fun b3 => ?_) (fun b3 => ?_)
 ·refine ⟨?_,M1.ext⟩
  rw [<-schk_bad]
  intro h; have h':=h.2.2.1; simp at b3; omega
 refine ⟨_,M1.cell 0 rfl rfl,?_⟩
 refine (in_spec _ _ _ _).mono ?_
 rintro v w2 ⟨rfl,rfl⟩
 refine brE_mk (fun b4 => ?_) (fun b4 => ?_)
 ·refine ⟨?_,M1.ext⟩
  rw [<-schk_bad]
  intro h; have h':=h.2.2.2.1; simp at b4; omega
 refine ⟨_,M1.cell 0 rfl rfl,?_⟩
 refine (in_spec _ _ _ _).mono ?_
 rintro v w2 ⟨rfl,rfl⟩
 refine brE_mk (fun b5 => ?_) (fun b5 => ?_)
 ·refine ⟨?_,M1.ext⟩
  rw [<-schk_bad]
  intro h; have h':=h.2.2.2.2; simp at b5; omega
 ·refine ⟨?_,M1.ext⟩
  rw [<-schk_ok]
  simp at b1 b2 b3 b4 b5
  exact ⟨b1,b2,b3,b4,b5⟩
theorem refScene_spec (s:Scn) (w:World):CallsV C.P 84 #[s.val] w fun v w' => v = .int .i64 (schk s) ∧ Ext w w':=by
 refine callsV_of C_ok (args:=[_]) (plans:=[]) Tryz.func84 rfl Tryz.ntmps84 (by kernel_rfl) (Nat.le_of_ble_eq_true rfl) ?_
 intro g1 w1 h1
 have M1:=(Mem.start w).alloc h1
 refine ⟨_,M1.cell 0 rfl rfl,?_⟩
 refine (id_spec s.host w1).mono ?_
 rintro v w2 ⟨rfl,rfl⟩
 refine brE_mk (fun b1 => ?_) (fun b1 => ?_)
 ·refine ⟨?_,M1.ext⟩
  rw [<-schk_bad]
  intro h; have h':=h.1; simp at b1; omega
 have b1:1 <= s.host ∧ s.host <= 1000000:=by simpa using b1
 refine ⟨_,M1.cell 0 rfl rfl,?_⟩
 refine brE_dec (fun c1 => ?_) (fun c1 => ?_)
 ·have c1:s.lang < 1:=c1
  exact ⟨by rw [<-schk_bad]; intro h; have:=h.2.1; omega,M1.ext⟩
 have c1:¬ s.lang < 1:=c1
 refine ⟨_,M1.cell 0 rfl rfl,?_⟩
 refine brE_dec (fun c2 => ?_) (fun c2 => ?_)
 ·have c2:s.lang > 3:=c2
  exact ⟨by rw [<-schk_bad]; intro h; have:=h.2.1; omega,M1.ext⟩
 have c2:¬ s.lang > 3:=c2
 refine ⟨_,M1.cell 0 rfl rfl,?_⟩
 refine brE_dec (fun c3 => ?_) (fun c3 => ?_)
 ·have c3:s.lot < 0:=c3
  exact ⟨by rw [<-schk_bad]; intro h; have:=h.2.2.1; omega,M1.ext⟩
 have c3:¬ s.lot < 0:=c3
 refine ⟨_,M1.cell 0 rfl rfl,?_⟩
 refine brE_dec (fun c4 => ?_) (fun c4 => ?_)
 ·have c4:s.lot > 199:=c4
  exact ⟨by rw [<-schk_bad]; intro h; have:=h.2.2.1; omega,M1.ext⟩
 have c4:¬ s.lot > 199:=c4
 refine ⟨_,M1.cell 0 rfl rfl,?_⟩
 refine brE_dec (fun c5 => ?_) (fun c5 => ?_)
 ·have c5:s.known < 0:=c5
  exact ⟨by rw [<-schk_bad]; intro h; have:=h.2.2.2.1; omega,M1.ext⟩
 have c5:¬ s.known < 0:=c5
 refine ⟨_,M1.cell 0 rfl rfl,?_⟩
 refine brE_dec (fun c6 => ?_) (fun c6 => ?_)
 ·have c6:s.known > 100000:=c6
  exact ⟨by rw [<-schk_bad]; intro h; have:=h.2.2.2.1; omega,M1.ext⟩
 have c6:¬ s.known > 100000:=c6
 refine ⟨_,M1.cell 0 rfl rfl,?_⟩
 refine brE_dec (fun c7 => ?_) (fun c7 => ?_)
 ·have c7:s.day < 0:=c7
  exact ⟨by rw [<-schk_bad]; intro h; have:=h.2.2.2.2; omega,M1.ext⟩
 have c7:¬ s.day < 0:=c7
 refine ⟨_,M1.cell 0 rfl rfl,?_⟩
 refine brE_dec (fun c8 => ?_) (fun c8 => ?_)
 ·have c8:s.day > 100000:=c8
  exact ⟨by rw [<-schk_bad]; intro h; have:=h.2.2.2.2; omega,M1.ext⟩
 have c8:¬ s.day > 100000:=c8
 exact ⟨by rw [<-schk_ok]; exact ⟨b1,⟨by omega,by omega⟩,⟨by omega,by omega⟩,⟨by omega,by omega⟩,⟨by omega,by omega⟩⟩,M1.ext⟩
def gloop:List Int -> List (Int × Int) -> Int
 | _,[] => 0
 | seen,g :: r => if (idB g.1 && idB g.2) = true then (if g.1 ∈ seen then 6 else gloop (seen ++ [g.1]) r) else 1
def gchk (gs:List (Int × Int)):Int:=if gs.length > 24 then 2 else gloop [] gs
theorem gloop_at {gs:List (Int × Int)} {i:Nat} (hi:i < gs.length):gloop ((gs.take i).map Prod.fst) (gs.drop i) =
  if (idB gs[i].1 && idB gs[i].2) = true then (if gs[i].1 ∈ (gs.take i).map Prod.fst then 6 else gloop ((gs.take (i + 1)).map Prod.fst) (gs.drop (i + 1))) else 1:=by
 rw [List.drop_eq_getElem_cons hi,gloop,List.take_succ_eq_append_getElem hi,List.map_append]
 rfl
end Go.Proofs.YtdpdjcopkehdjaaGreat.Rk
namespace Go.Proofs.YtdpdjcopkehdjaaGreat.Rk
open Go.Eng Go.RowKit
open Go.Maps (Keyed)
theorem intK:Keyed C.P 3:=Go.Maps.int_keyed under3
theorem intKey {x:Int} (h:In64 x):keyOf C.P 3 (.int .i64 x) = some (.int .i64 x):=Go.Maps.keyOf_int_mk under3 (wf64 h)
noncomputable def seenV (l:List Int):Value -> Option Value:=l.foldl (fun f x => updV f (.int .i64 x) (.bool true)) fun _ => none
theorem seenV_snoc (l:List Int) (x:Int):seenV (l ++ [x]) = updV (seenV l) (.int .i64 x) (.bool true):=by simp [seenV]
theorem seenV_get (l:List Int) (q:Int):seenV l (.int .i64 q) = if q ∈ l then some (.bool true) else none:=by
 suffices h:∀ (l:List Int) (f:Value -> Option Value),(l.foldl (fun f x => updV f (.int .i64 x) (.bool true)) f) (.int .i64 q) = if q ∈ l then some (.bool true) else f (.int .i64 q) from h l _
 intro l
 induction l with
 | nil => intro f; simp
 | cons p l ih =>
  intro f
  rw [List.foldl_cons,ih]
  by_cases h1:q ∈ l
  ·simp [h1]
  ·by_cases h2:q = p
   ·subst h2; simp [h1,updV]
   ·simp [h1,h2,updV]
theorem CheckGuests_spec {w:World} {B:Option Addr} {gs:List (Int × Int)} {d:Nat} (hr:Reads w B (prCells gs)) :
  CallsV C.P 80 #[.slice B gs.length d] w fun v w' => v = .int .i64 (gchk gs) ∧ Ext w w':=by
 refine callsV_of C_ok (args:=[_]) (plans:=[]) Tryz.func80 rfl Tryz.ntmps80 (by kernel_rfl) (Nat.le_of_ble_eq_true rfl) ?_
 refine brE_dec (fun hl => ?_) (fun hl => ?_)
 ·have hl:(gs.length:Int) > 24:=hl
  exact ⟨by rw [gchk,if_pos (by omega)],Ext.refl _⟩
 have hl:¬ (gs.length:Int) > 24:=hl
 have hg:gchk gs = gloop [] gs:=by rw [gchk,if_neg (by omega)]
 rw [hg]
 intro gm w1 h1
 refine loopE C_ok (fun (i:Nat) => [(3,.map (some gm)),(10,.slice B gs.length d),(11,.int .i64 gs.length),(12,.int .i64 i)])
  (fun i w' => i <= gs.length ∧ (∃ om,Mem w w' [(gm,om)]) ∧ MapIs C.P 3 w' gm (seenV ((gs.take i).map Prod.fst)) ∧ gloop [] gs = gloop ((gs.take i).map Prod.fst) (gs.drop i))
  (fun i => gs.length - i) 0 ⟨rfl,rfl,rfl,rfl,trivial⟩ ⟨Nat.zero_le _,⟨_,(Mem.start w).alloc h1⟩,MapIs.empty h1.here,rfl⟩ ?_
 rintro i w2 ⟨hi,⟨om,M2⟩,hmap,hloop⟩
 refine brE_dec (fun hlt => ?_) (fun hge => ?_)
 ·have hlt:i < gs.length:=by omega
  rw [gloop_at hlt] at hloop
  obtain ⟨b,o,hA,hrd⟩:=Reads.pair (hr.ext M2.ext) hlt
  refine ⟨i,b,o,rfl,hlt,hA,?_⟩
  refine ⟨[.int .i64 gs[i].1,.int .i64 gs[i].2],rfl,hrd,?_⟩
  intro g5 w3 h3
  have M3:=M2.alloc h3
  refine ⟨rfl,_,_,M3.get 0 rfl,Nat.le_of_ble_eq_true rfl,rfl,?_⟩
  intro w4 h4
  have M4:Mem w w4 [(g5,.cells #[.int .i64 gs[i].1,.int .i64 gs[i].2] 44 (0,0)),(gm,om)]:=M3.put 0 rfl h4
  have hmap4:MapIs C.P 3 w4 gm (seenV ((gs.take i).map Prod.fst)):=(hmap.ext h3.ext).put h4 (by
   have:=M2.lt (g:=gm) (o:=om) (by simp)
   rw [h3.new]; omega)
  refine ⟨_,M4.cell 0 rfl rfl,?_⟩
  refine (isId_spec _ _).mono ?_
  rintro v w5 ⟨rfl,rfl⟩
  refine brE_mk (fun b1 => ?_) (fun b1 => ?_)
  ·rw [Bool.not_eq_true'] at b1
   rw [b1,Bool.false_and,if_neg (by decide)] at hloop
   exact ⟨by rw [hloop],M4.ext⟩
  rw [Bool.not_eq_false'] at b1
  refine ⟨_,M4.cell 0 rfl rfl,?_⟩
  refine (isId_spec _ _).mono ?_
  rintro v w5 ⟨rfl,rfl⟩
  refine brE_mk (fun b2 => ?_) (fun b2 => ?_)
  ·rw [Bool.not_eq_true'] at b2
   rw [b2,Bool.and_false,if_neg (by decide)] at hloop
   exact ⟨by rw [hloop],M4.ext⟩
  rw [Bool.not_eq_false'] at b2
  rw [b1,b2,Bool.and_true,if_pos rfl] at hloop
  have hin:=of_decide_eq_true b1
  have h64:In64 gs[i].1:=⟨by omega,by omega⟩
  have hget:(seenV ((gs.take i).map Prod.fst) (.int .i64 gs[i].1)).getD (.bool false) = .bool (decide (gs[i].1 ∈ (gs.take i).map Prod.fst)):=by
   rw [seenV_get]
   by_cases hm:gs[i].1 ∈ (gs.take i).map Prod.fst <;> simp only [hm,if_true,if_false,Option.getD_some,Option.getD_none,decide_true,decide_false]
  refine ⟨_,M4.cell 0 rfl rfl,?_⟩
  refine ⟨.bool (decide (gs[i].1 ∈ (gs.take i).map Prod.fst)),mapGet1 C_ok (te:=ty4) (x:=.int .i64 gs[i].1) (intKey h64) hmap4 intK rfl rfl rfl rfl rfl rfl hget,?_⟩
  refine brE_dec (fun hm => ?_) (fun hm => ?_)
  ·rw [if_pos hm] at hloop
   exact ⟨by rw [hloop],M4.ext⟩
  rw [if_neg hm] at hloop
  refine ⟨_,M4.cell 0 rfl rfl,?_⟩
  refine mapPut C_ok rfl rfl (x:=.int .i64 gs[i].1) rfl rfl rfl rfl intK (intKey h64) hmap4 ?_
  intro o' w6 h6 hmap6
  have M6:=(M4.put 1 rfl h6).tail
  refine ⟨((i + 1:Nat):Int),fit ⟨by omega,by omega⟩,?_⟩
  refine ⟨i + 1,⟨rfl,rfl,rfl,rfl,trivial⟩,⟨hlt,⟨_,M6⟩,?_,hloop⟩,by omega⟩
  rw [List.take_succ_eq_append_getElem hlt,List.map_append]
  show MapIs _ _ _ _ (seenV (_ ++ [gs[i].1]))
  rw [seenV_snoc]
  exact hmap6
 ·have:i = gs.length:=by omega
  subst this
  rw [List.drop_length] at hloop
  exact ⟨by rw [hloop]; rfl,M2.ext⟩
theorem refGuests_spec {w:World} {B:Option Addr} {gs:List (Int × Int)} {d:Nat} (hr:Reads w B (prCells gs)) :
  CallsV C.P 85 #[.slice B gs.length d] w fun v w' => v = .int .i64 (gchk gs) ∧ Ext w w':=by
 refine callsV_of C_ok (args:=[_]) (plans:=plans85) Tryz.func85 rfl Tryz.ntmps85 (by kernel_rfl) (Nat.le_of_ble_eq_true rfl) ?_
 refine brE_dec (fun hl => ?_) (fun hl => ?_)
 ·have hl:(gs.length:Int) > 24:=hl
  exact ⟨by rw [gchk,if_pos (by omega)],Ext.refl _⟩
 have hl:¬ (gs.length:Int) > 24:=hl
 have hg:gchk gs = gloop [] gs:=by rw [gchk,if_neg (by omega)]
 rw [hg]
 refine loopE C_ok (fun (i:Nat) => [(0,.slice B gs.length d),(3,.int .i64 i)])
  (fun i w' => i <= gs.length ∧ w' = w ∧ gloop [] gs = gloop ((gs.take i).map Prod.fst) (gs.drop i))
  (fun i => gs.length - i) 0 ⟨rfl,rfl,trivial⟩ ⟨Nat.zero_le _,rfl,rfl⟩ ?_
 rintro i w2 ⟨hi,rfl,hloop⟩
 refine brE_dec (fun hlt => ?_) (fun hge => ?_)
 ·have hlt:i < gs.length:=by omega
  rw [gloop_at hlt] at hloop
  obtain ⟨b,o,hA,hrd⟩:=Reads.pair hr hlt
  have c0:w2.cell? ⟨b,o + i * 2,none⟩ = some (.int .i64 gs[i].1):=by simpa using hrd 0 _ rfl
  have c1:w2.cell? ⟨b,o + i * 2 + 1,none⟩ = some (.int .i64 gs[i].2):=by simpa using hrd 1 _ rfl
  refine ⟨i,b,o,rfl,hlt,hA,?_⟩
  refine ⟨_,c0,?_⟩
  refine (id_spec _ _).mono ?_
  rintro v w5 ⟨rfl,rfl⟩
  refine brE_mk (fun b1 => ?_) (fun b1 => ?_)
  ·rw [Bool.not_eq_true'] at b1
   rw [b1,Bool.false_and,if_neg (by decide)] at hloop
   exact ⟨by rw [hloop],Ext.refl _⟩
  rw [Bool.not_eq_false'] at b1
  refine ⟨i,b,o,rfl,hlt,hA,?_⟩
  refine ⟨_,c1,?_⟩
  refine (id_spec _ _).mono ?_
  rintro v w5 ⟨rfl,rfl⟩
  refine brE_mk (fun b2 => ?_) (fun b2 => ?_)
  ·rw [Bool.not_eq_true'] at b2
   rw [b2,Bool.and_false,if_neg (by decide)] at hloop
   exact ⟨by rw [hloop],Ext.refl _⟩
  rw [Bool.not_eq_false'] at b2
  rw [b1,b2,Bool.and_true,if_pos rfl] at hloop
  refine loopE C_ok (fun (k:Nat) => [(0,.slice B gs.length d),(3,.int .i64 i),(4,.int .i64 k)])
   (fun k w' => k <= i ∧ w' = w5 ∧ ∀ j (hj:j < gs.length),j < k -> gs[j].1 ≠ gs[i].1) (fun k => i - k) 0 ⟨rfl,rfl,rfl,trivial⟩ ⟨Nat.zero_le _,rfl,fun _ _ h => absurd h (Nat.not_lt_zero _)⟩ ?_
  rintro k w6 ⟨hk,rfl,hno⟩
  refine brE_dec (fun hlt2 => ?_) (fun hge2 => ?_)
  ·have hlt2:k < i:=by omega
   have hkl:k < gs.length:=by omega
   obtain ⟨b',o',hA',hrd'⟩:=Reads.pair hr hkl
   refine ⟨k,b',o',rfl,hkl,hA',?_⟩
   have c2:w6.cell? ⟨b',o' + k * 2,none⟩ = some (.int .i64 gs[k].1):=by simpa using hrd' 0 _ rfl
   refine ⟨_,c2,?_⟩
   refine ⟨i,b,o,rfl,hlt,hA,?_⟩
   refine ⟨_,c0,?_⟩
   refine brE_dec (fun he => ?_) (fun he => ?_)
   ·have he:gs[k].1 = gs[i].1:=he
    have hm:gs[i].1 ∈ (gs.take i).map Prod.fst:=List.mem_map.2 ⟨gs[k],List.mem_take_iff_getElem.2 ⟨k,by omega,rfl⟩,he⟩
    rw [if_pos hm] at hloop
    exact ⟨by rw [hloop],Ext.refl _⟩
   ·have he:¬ gs[k].1 = gs[i].1:=he
    refine ⟨((k + 1:Nat):Int),fit ⟨by omega,by omega⟩,?_⟩
    refine ⟨k + 1,⟨rfl,rfl,rfl,trivial⟩,⟨hlt2,rfl,fun j hj hjk => ?_⟩,by omega⟩
    rcases Nat.lt_or_ge j k with h | h
    ·exact hno j hj h
    ·obtain rfl:j = k:=by omega
     exact he
  ·have:k = i:=by omega
   subst this
   have hm:¬ gs[k].1 ∈ (gs.take k).map Prod.fst:=by
    intro hm
    obtain ⟨g,hg1,hg2⟩:=List.mem_map.1 hm
    obtain ⟨j,hj,rfl⟩:=List.mem_take_iff_getElem.1 hg1
    exact hno j (by omega) (by omega) hg2
   rw [if_neg hm] at hloop
   refine ⟨((k + 1:Nat):Int),fit ⟨by omega,by omega⟩,?_⟩
   exact ⟨k + 1,⟨rfl,rfl,trivial⟩,⟨hlt,rfl,hloop⟩,by omega⟩
 ·have:i = gs.length:=by omega
  subst this
  rw [List.drop_length] at hloop
  exact ⟨by rw [hloop]; rfl,Ext.refl _⟩
end Go.Proofs.YtdpdjcopkehdjaaGreat.Rk
namespace Go.Proofs.YtdpdjcopkehdjaaGreat.Rk
open Go.Eng Go.RowKit
theorem goodA_no {N:Int} {x:Arrow} (h:¬ (0 <= x.fr ∧ x.fr <= N - 1 ∧ 0 <= x.to ∧ x.to <= N - 1 ∧ x.fr ≠ x.to ∧ 0 <= x.rule ∧ x.rule <= 23 ∧ 1 <= x.wt ∧ x.wt <= 1000)):goodA N x = false:=by
 cases hg:goodA N x with
 | false => rfl
 | true => exact absurd (goodA_spec hg) h
theorem goodA_yes {N:Int} {x:Arrow} (h:0 <= x.fr ∧ x.fr <= N - 1 ∧ 0 <= x.to ∧ x.to <= N - 1 ∧ x.fr ≠ x.to ∧ 0 <= x.rule ∧ x.rule <= 23 ∧ 1 <= x.wt ∧ x.wt <= 1000):goodA N x = true:=by
 obtain ⟨a,b,c,d,e,f,g,i,j⟩:=h
 simp [goodA,a,b,c,d,e,f,g,i,j]
theorem refCheck_spec {N:Int} {A:Option Addr} {xs:List Arrow} {c:Nat} {w:World} (h:HRel w N A xs c):CallsV C.P 118 #[relVal N A xs.length c] w fun v w' => v = .int .i64 (chk N xs) ∧ Ext w w':=by
 have hcap:=h.cap
 refine callsV_of C_ok (args:=[_]) (plans:=[]) Tryz.func118 rfl Tryz.ntmps118 (by kernel_rfl) (Nat.le_of_ble_eq_true rfl) ?_
 intro g1 w1 h1
 have M1:=(Mem.start w).alloc h1
 refine ⟨_,M1.cell 0 rfl rfl,?_⟩
 refine brE_dec (fun hN => ?_) (fun hN => ?_)
 ·exact ⟨by rw [chk_big hN],M1.ext⟩
 refine ⟨_,M1.cell 0 rfl rfl,?_⟩
 refine brE_dec (fun hN0 => ?_) (fun hN0 => ?_)
 ·exact ⟨by rw [chk_neg hN hN0],M1.ext⟩
 have hN':¬ N > 24:=hN
 have hN0':¬ N < 0:=hN0
 refine loopE C_ok (fun i:Nat => [(1,.pointer (some ⟨g1,0,none⟩)),(3,.int .i64 i)])
  (fun i w' => Mem w w' [(g1,.cells #[.int .i64 N,.slice A xs.length c] 49 (0,0))] ∧ i <= xs.length ∧ ∀ j < i,okAt N xs j = true) (fun i => xs.length - i) 0 ⟨rfl,rfl,trivial⟩ ⟨M1,Nat.zero_le _,by simp⟩ ?_
 rintro i w2 ⟨M2,hi,hall⟩
 refine ⟨_,M2.cell 0 rfl rfl,?_⟩
 refine brE_dec (fun hlt => ?_) (fun hge => ?_)
 ·have hlt:i < xs.length:=by omega
  obtain ⟨b,o,hA,hr⟩:=Reads.arrow h.reads hlt
  refine ⟨_,M2.cell 0 rfl rfl,?_⟩
  refine ⟨i,b,o,rfl,hlt,hA,?_⟩
  refine ⟨xs[i].cells,rfl,M2.oldRd hr,?_⟩
  intro g3 w3 h3
  have M3:=M2.alloc h3
  refine ⟨rfl,_,_,M3.get 0 rfl,Nat.le_of_ble_eq_true rfl,rfl,?_⟩
  intro w4 h4
  have M4:Mem w w4 [(g3,.cells xs[i].cells.toArray 60 (0,0)),(g1,.cells #[.int .i64 N,.slice A xs.length c] 49 (0,0))]:=M3.put 0 rfl h4
  have bad:∀ {w':World},Ext w w' -> goodA N xs[i] = false -> (Value.int IntKind.i64 1 = .int .i64 (chk N xs)) ∧ Ext w w':=fun he hb =>
   ⟨by rw [chk_bad hN hN0 hlt (by unfold okAt; simp [hlt,hb])],he⟩
  refine ⟨_,M4.cell 0 rfl rfl,?_⟩
  refine brE_dec (fun c1 => ?_) (fun c1 => ?_)
  ·have c1:xs[i].fr < 0:=c1
   exact bad M4.ext (goodA_no fun hh => by omega)
  have c1:¬ xs[i].fr < 0:=c1
  refine ⟨_,M4.cell 0 rfl rfl,?_⟩
  refine ⟨_,M4.cell 1 rfl rfl,?_⟩
  refine brE_dec (fun c2 => ?_) (fun c2 => ?_)
  ·have c2:xs[i].fr >= N:=c2
   exact bad M4.ext (goodA_no fun hh => by omega)
  have c2:¬ xs[i].fr >= N:=c2
  refine ⟨_,M4.cell 0 rfl rfl,?_⟩
  refine brE_dec (fun c3 => ?_) (fun c3 => ?_)
  ·have c3:xs[i].to < 0:=c3
   exact bad M4.ext (goodA_no fun hh => by omega)
  have c3:¬ xs[i].to < 0:=c3
  refine ⟨_,M4.cell 0 rfl rfl,?_⟩
  refine ⟨_,M4.cell 1 rfl rfl,?_⟩
  refine brE_dec (fun c4 => ?_) (fun c4 => ?_)
  ·have c4:xs[i].to >= N:=c4
   exact bad M4.ext (goodA_no fun hh => by omega)
  have c4:¬ xs[i].to >= N:=c4
  refine ⟨_,M4.cell 0 rfl rfl,?_⟩
  refine ⟨_,M4.cell 0 rfl rfl,?_⟩
  refine brE_dec (fun c5 => ?_) (fun c5 => ?_)
  ·have c5:xs[i].fr = xs[i].to:=c5
   exact bad M4.ext (goodA_no fun hh => by omega)
  have c5:¬ xs[i].fr = xs[i].to:=c5
  refine ⟨_,M4.cell 0 rfl rfl,?_⟩
  refine brE_dec (fun c6 => ?_) (fun c6 => ?_)
  ·have c6:xs[i].rule < 0:=c6
   exact bad M4.ext (goodA_no fun hh => by omega)
  have c6:¬ xs[i].rule < 0:=c6
  refine ⟨_,M4.cell 0 rfl rfl,?_⟩
  refine brE_dec (fun c7 => ?_) (fun c7 => ?_)
  ·have c7:xs[i].rule > 23:=c7
   exact bad M4.ext (goodA_no fun hh => by omega)
  have c7:¬ xs[i].rule > 23:=c7
  refine ⟨_,M4.cell 0 rfl rfl,?_⟩
  refine brE_dec (fun c8 => ?_) (fun c8 => ?_)
  ·have c8:xs[i].wt < 1:=c8
   exact bad M4.ext (goodA_no fun hh => by omega)
  have c8:¬ xs[i].wt < 1:=c8
  refine ⟨_,M4.cell 0 rfl rfl,?_⟩
  refine brE_dec (fun c9 => ?_) (fun c9 => ?_)
  ·have c9:xs[i].wt > 1000:=c9
   exact bad M4.ext (goodA_no fun hh => by omega)
  have c9:¬ xs[i].wt > 1000:=c9
  have hgood:goodA N xs[i] = true:=goodA_yes (by omega)
  refine brE_dec (fun hi0 => ?_) (fun hi0 => ?_)
  ·obtain ⟨j,rfl⟩:∃ j,i = j + 1:=⟨i - 1,by omega⟩
   have hj:j < xs.length:=by omega
   obtain ⟨b',o',hA',hr'⟩:=Reads.arrow h.reads hj
   have worse:∀ {w':World},Ext w w' -> ltA xs[j] xs[j + 1] = false -> (Value.int IntKind.i64 1 = .int .i64 (chk N xs)) ∧ Ext w w':=fun he hb =>
    ⟨by rw [chk_bad hN hN0 hlt (by unfold okAt; simp [hlt,hj,hb])],he⟩
   refine ⟨_,M4.cell 1 rfl rfl,?_⟩
   refine ⟨(j:Int),by rw [fit ⟨by omega,by omega⟩]; omega,?_⟩
   refine ⟨j,b',o',rfl,hj,hA',?_⟩
   refine ⟨xs[j].cells,rfl,M4.oldRd hr',?_⟩
   intro g5 w5 h5
   have M5:=M4.alloc h5
   refine ⟨rfl,_,_,M5.get 0 rfl,Nat.le_of_ble_eq_true rfl,rfl,?_⟩
   intro w6 h6
   have M6:Mem w w6 [(g5,.cells xs[j].cells.toArray 60 (0,0)),(g3,.cells xs[j + 1].cells.toArray 60 (0,0)),(g1,.cells #[.int .i64 N,.slice A xs.length c] 49 (0,0))]:=M5.put 0 rfl h6
   have go1:ltA xs[j] xs[j + 1] = true -> Mem w w6 [(g1,.cells #[.int .i64 N,.slice A xs.length c] 49 (0,0))] ∧ j + 1 + 1 <= xs.length ∧ ∀ k < j + 1 + 1,okAt N xs k = true:=fun hl2 => ⟨M6.tail.tail,hlt,fun k hk => by
    rcases Nat.lt_or_ge k (j + 1) with h | h
    ·exact hall k h
    ·obtain rfl:k = j + 1:=by omega
     unfold okAt; simp [hlt,hj,hgood,hl2]⟩
   have next:IntKind.i64.wrap (((j + 1:Nat):Int) + 1) = ((j + 1 + 1:Nat):Int):=fit ⟨by omega,by omega⟩
   refine ⟨_,M6.cell 0 rfl rfl,?_⟩
   refine ⟨_,M6.cell 1 rfl rfl,?_⟩
   refine brE_dec (fun d1 => ?_) (fun d1 => ?_)
   ·have d1:xs[j].fr > xs[j + 1].fr:=d1
    exact worse M6.ext (by unfold ltA; rw [decide_eq_false]; omega)
   have d1:¬ xs[j].fr > xs[j + 1].fr:=d1
   refine ⟨_,M6.cell 0 rfl rfl,?_⟩
   refine ⟨_,M6.cell 1 rfl rfl,?_⟩
   refine brE_dec (fun d2 => ?_) (fun d2 => ?_)
   ·have d2:xs[j].fr = xs[j + 1].fr:=d2
    refine ⟨_,M6.cell 0 rfl rfl,?_⟩
    refine ⟨_,M6.cell 1 rfl rfl,?_⟩
    refine brE_dec (fun d3 => ?_) (fun d3 => ?_)
    ·have d3:xs[j].to >= xs[j + 1].to:=d3
     exact worse M6.ext (by unfold ltA; rw [decide_eq_false]; omega)
    ·have d3:¬ xs[j].to >= xs[j + 1].to:=d3
     refine ⟨_,next,?_⟩
     exact ⟨j + 1 + 1,⟨rfl,rfl,trivial⟩,go1 (by unfold ltA; rw [decide_eq_true]; omega),by omega⟩
   ·have d2:¬ xs[j].fr = xs[j + 1].fr:=d2
    refine ⟨_,next,?_⟩
    exact ⟨j + 1 + 1,⟨rfl,rfl,trivial⟩,go1 (by unfold ltA; rw [decide_eq_true]; omega),by omega⟩
  ·obtain rfl:i = 0:=by omega
   refine ⟨((0 + 1:Nat):Int),fit ⟨by omega,by omega⟩,?_⟩
   refine ⟨0 + 1,⟨rfl,rfl,trivial⟩,⟨M4.tail,hlt,fun k hk => ?_⟩,by omega⟩
   obtain rfl:k = 0:=by omega
   unfold okAt; simp [hlt,hgood]
 ·have:i = xs.length:=by omega
  subst this
  exact ⟨by rw [chk_ok hN hN0 hall],M2.ext⟩
end Go.Proofs.YtdpdjcopkehdjaaGreat.Rk
namespace Go.Proofs.YtdpdjcopkehdjaaGreat.Rk
open Go.Eng Go.RowKit
theorem mat_zero:List.replicate 576 (Value.bool false) = mat fun _ _ => false:=bools_false 576
theorem mat_size (M:Nat -> Nat -> Bool):(Value.agg (mat M).toArray).cells.size = 576:=by simp [Value.cells,bools_length]
theorem mat_copy (M K:Nat -> Nat -> Bool):splice (mat K) 0 (mat M) = mat M:=by
 unfold splice
 rw [bools_length]
 simp [bools_length]
theorem mat_cell {w:World} {g t:Nat} {fr:Nat × Nat} {M:Nat -> Nat -> Bool} (h:w.heap[g]? = some (.cells (mat M).toArray t fr)) {a b:Nat} (ha:a < 24) (hb:b < 24):w.cell? ⟨g,0 + a * 24 + b * 1,none⟩ = some (.bool (M a b)):=by
 have:=(Rd.of_block h) _ _ (mat_get ha hb M)
 simpa using this
theorem refIn_spec (N:Int) (A:Option Addr) (k c:Nat) (n:Int) (w:World):CallsV C.P 61 #[relVal N A k c,.int .i64 n] w fun v w' => v = .bool (inR N n) ∧ Ext w w':=by
 refine callsV_of C_ok (args:=[_,_]) (plans:=[]) Tryz.func61 rfl Tryz.ntmps61 (by kernel_rfl) (Nat.le_of_ble_eq_true rfl) ?_
 intro g1 w1 h1
 have M1:=(Mem.start w).alloc h1
 refine brE_dec (fun h => ?_) (fun h => ?_)
 ·have h:n >= 0:=h
  refine ⟨_,M1.cell 0 rfl rfl,?_⟩
  refine ⟨?_,M1.ext⟩
  congr 1
  apply decide_eq_decide.2
  omega
 ·have h:¬ n >= 0:=h
  refine ⟨?_,M1.ext⟩
  congr 1
  rw [eq_comm,decide_eq_false_iff_not]
  omega
set_option maxRecDepth 100000 in
theorem steps_spec {N:Int} {A:Option Addr} {xs:List Arrow} {c:Nat} {w:World} (h:HRel w N A xs c) (hok:Valid N xs) :
  CallsV C.P 119 #[relVal N A xs.length c] w fun v w' => v = .agg (mat (toM xs)).toArray ∧ Ext w w':=by
 have hcap:=h.cap
 have hN:=hok.hi
 refine callsV_of C_ok (args:=[_]) (plans:=plans119) Tryz.func119 rfl Tryz.ntmps119 (by kernel_rfl) (Nat.le_of_ble_eq_true rfl) ?_
 intro g1 w1 h1
 intro g2 w2 h2
 intro g3 w3 h3
 have M3:Mem w w3 [(g3,.cells (mat (toM (xs.take 0))).toArray 171 (0,0)),(g2,.cells (mat fun _ _ => false).toArray 171 (0,0)),(g1,.cells #[.int .i64 N,.slice A xs.length c] 49 (0,0))]:=by
  have e:mat (toM (xs.take 0)) = mat fun _ _ => false:=rfl
  rw [e,<-mat_zero]
  exact (((Mem.start w).alloc h1).alloc h2).alloc h3
 refine loopE C_ok (fun (i:Nat) => [(1,.pointer (some ⟨g1,0,none⟩)),(2,.pointer (some ⟨g2,0,none⟩)),(3,.pointer (some ⟨g3,0,none⟩)),(4,.int .i64 i)])
  (fun i w' => i <= xs.length ∧ Mem w w' [(g3,.cells (mat (toM (xs.take i))).toArray 171 (0,0)),(g2,.cells (mat fun _ _ => false).toArray 171 (0,0)),(g1,.cells #[.int .i64 N,.slice A xs.length c] 49 (0,0))]) (fun i => xs.length - i) 0
  ⟨rfl,rfl,rfl,rfl,trivial⟩ ⟨Nat.zero_le _,M3⟩ ?_
 rintro i w4 ⟨hi,M4⟩
 refine ⟨_,M4.cell 2 rfl rfl,?_⟩
 refine brE_dec (fun hlt => ?_) (fun hge => ?_)
 ·have hlt:i < xs.length:=by omega
  obtain ⟨b,o,hA,hr⟩:=Reads.arrow h.reads hlt
  have hr:=M4.oldRd hr
  have hg:=goodA_spec (hok.good hlt)
  obtain ⟨p,hp⟩:=Int.eq_ofNat_of_zero_le hg.1
  obtain ⟨q,hq⟩:=Int.eq_ofNat_of_zero_le hg.2.2.1
  have hp24:p < 24:=by omega
  have hq24:q < 24:=by omega
  have cf:w4.cell? ⟨b,o + i * 4,none⟩ = some (.int .i64 (p:Int)):=by rw [<-hp]; simpa using hr 0 _ rfl
  have ct:w4.cell? ⟨b,o + i * 4 + 1,none⟩ = some (.int .i64 (q:Int)):=by rw [<-hq]; simpa using hr 1 _ rfl
  refine ⟨_,M4.cell 2 rfl rfl,?_⟩
  refine ⟨i,b,o,rfl,hlt,hA,?_⟩
  refine ⟨_,cf,?_⟩
  refine ⟨_,M4.cell 2 rfl rfl,?_⟩
  refine ⟨i,b,o,rfl,hlt,hA,?_⟩
  refine ⟨_,ct,?_⟩
  refine ⟨p,rfl,hp24,?_⟩
  refine ⟨q,rfl,hq24,?_⟩
  refine ⟨rfl,_,_,M4.get 0 rfl,by rw [bools_length]; show 0 + p * 24 + q * 1 + 1 <= 576; omega,rfl,?_⟩
  intro w5 h5
  have e5:splice (mat (toM (xs.take i))) (0 + p * 24 + q * 1) [.bool true] = mat (toM (xs.take (i + 1))):=by
   rw [<-toM_take hlt hp hq,<-mat_set hp24 hq24]
   congr 1
   omega
  have h5:Put w4 g3 (.cells (mat (toM (xs.take (i + 1)))).toArray 171 (0,0)) w5:=by rw [<-e5]; exact h5
  refine ⟨((i + 1:Nat):Int),fit ⟨by omega,by omega⟩,?_⟩
  exact ⟨i + 1,⟨rfl,rfl,rfl,rfl,trivial⟩,⟨hlt,M4.put 0 rfl h5⟩,by omega⟩
 ·have:i = xs.length:=by omega
  subst this
  rw [List.take_length] at M4
  refine ⟨mat (toM xs),bools_length _ _,M4.rd 0 rfl,?_⟩
  refine ⟨mat_size _,_,_,M4.get 1 rfl,by rw [bools_length]; show 0 + 576 <= 576; omega,bools_one 576 _,?_⟩
  intro w5 h5
  have h5:Put w4 g2 (.cells (mat (toM xs)).toArray 171 (0,0)) w5:=by rw [<-mat_copy (toM xs) fun _ _ => false]; exact h5
  have M5:=M4.put 1 rfl h5
  refine ⟨mat (toM xs),bools_length _ _,M5.rd 1 rfl,?_⟩
  exact ⟨rfl,M5.ext⟩
def midM (T:Nat -> Nat -> Bool) (k a b:Nat):Nat -> Nat -> Bool:=fun i j => if i < a ∨ i = a ∧ j < b then war T (k + 1) i j else war T k i j
theorem midM_set {T:Nat -> Nat -> Bool} {k a b:Nat} (h:(war T k a k && war T k k b) = true):upd2 (midM T k a b) a b true = midM T k a (b + 1):=by
 funext i j
 unfold upd2 midM
 by_cases e:i = a ∧ j = b
 ·obtain ⟨rfl,rfl⟩:=e
  rw [if_pos ⟨rfl,rfl⟩,if_pos (.inr ⟨rfl,by omega⟩),war,h,Bool.or_true]
 ·rw [if_neg e]
  by_cases h2:i < a ∨ i = a ∧ j < b
  ·rw [if_pos h2,if_pos (by omega)]
  ·rw [if_neg h2,if_neg (by omega)]
end Go.Proofs.YtdpdjcopkehdjaaGreat.Rk
namespace Go.Proofs.YtdpdjcopkehdjaaGreat.Rk
open Go.Eng Go.RowKit
end Go.Proofs.YtdpdjcopkehdjaaGreat.Rk
namespace Go.Proofs.YtdpdjcopkehdjaaGreat.Rk
open Go.Eng Go.RowKit
end Go.Proofs.YtdpdjcopkehdjaaGreat.Rk
namespace Go.Proofs.YtdpdjcopkehdjaaGreat.Rk
open Go.Eng Go.RowKit
theorem dist_count {n:Nat} {T:Nat -> Nat -> Bool} (hT:Inside n T) {b m x:Nat} (h:dist T b x = m + 1):∀ k,k <= m + 1 -> k <= ((List.range n).filter fun y => decide (1 <= dist T b y ∧ dist T b y <= k)).length
 | 0,_ => Nat.zero_le _
 | k + 1,hk => by
  have ih:=dist_count hT h k (by omega)
  obtain ⟨y,hy⟩:=dist_down m x h (k + 1) (by omega) hk
  have hyn:y < n:=dist_lt hT (b:=b) (by omega)
  have:=filter_lt (p:=fun y => decide (1 <= dist T b y ∧ dist T b y <= k)) (q:=fun y => decide (1 <= dist T b y ∧ dist T b y <= k + 1)) (List.range n) (fun z hz => by
   have:=of_decide_eq_true hz
   exact decide_eq_true (by omega)) (List.mem_range.2 hyn) (decide_eq_false (by omega)) (decide_eq_true (by omega))
  omega
theorem dist_le {n:Nat} {T:Nat -> Nat -> Bool} (hT:Inside n T) (b x:Nat):dist T b x <= n:=by
 by_cases h:dist T b x = 0
 ·omega
 ·obtain ⟨m,hm⟩:∃ m,dist T b x = m + 1:=⟨dist T b x - 1,by omega⟩
  have h1:=dist_count hT hm (m + 1) (Nat.le_refl _)
  have h2:=List.length_filter_le (fun y => decide (1 <= dist T b y ∧ dist T b y <= m + 1)) (List.range n)
  rw [List.length_range] at h2
  omega
def oneTo (T:Nat -> Nat -> Bool) (b a:Nat):Nat -> Nat:=fun x => if x < a ∧ T x b = true then 1 else 0
theorem oneTo_zero (T:Nat -> Nat -> Bool) (b:Nat):oneTo T b 0 = fun _ => 0:=by funext x; simp [oneTo]
theorem oneTo_yes {T:Nat -> Nat -> Bool} {b a:Nat} (h:T a b = true):(fun x => if x = a then 1 else oneTo T b a x) = oneTo T b (a + 1):=by
 funext x
 unfold oneTo
 by_cases e:x = a
 ·subst e; rw [if_pos rfl,if_pos ⟨by omega,h⟩]
 ·rw [if_neg e]
  by_cases hx:x < a ∧ T x b = true
  ·rw [if_pos hx,if_pos ⟨by omega,hx.2⟩]
  ·rw [if_neg hx,if_neg (fun hh => hx ⟨by omega,hh.2⟩)]
theorem oneTo_no {T:Nat -> Nat -> Bool} {b a:Nat} (h:T a b = false):oneTo T b a = oneTo T b (a + 1):=by
 funext x
 unfold oneTo
 by_cases e:x = a
 ·subst e; rw [if_neg (by omega),if_neg (by rw [h]; simp)]
 ·by_cases hx:x < a ∧ T x b = true
  ·rw [if_pos hx,if_pos ⟨by omega,hx.2⟩]
  ·rw [if_neg hx,if_neg (fun hh => hx ⟨by omega,hh.2⟩)]
theorem oneTo_end {n:Nat} {T:Nat -> Nat -> Bool} (hT:Inside n T) (b:Nat):oneTo T b n = stepsAt T b 2:=by
 funext x
 unfold oneTo stepsAt
 by_cases h:T x b = true
 ·rw [if_pos ⟨(hT _ _ h).1,h⟩,dist_one.2 h,if_pos (by omega)]
 ·rw [if_neg (fun hh => h hh.2)]
  have:dist T b x ≠ 1:=fun hh => h (dist_one.1 hh)
  split <;> omega
noncomputable def anyTo (T:Nat -> Nat -> Bool) (b k a c:Nat):Bool:=(List.range c).any fun y => T a y && decide (dist T b y = k - 1)
open Classical in
noncomputable def midN (T:Nat -> Nat -> Bool) (b k a c:Nat):Nat -> Nat:=fun x => if x < a ∧ dist T b x = k ∨ x = a ∧ stepsAt T b k x = 0 ∧ anyTo T b k a c = true then k else stepsAt T b k x
theorem anyTo_succ (T:Nat -> Nat -> Bool) (b k a c:Nat):anyTo T b k a (c + 1) = (anyTo T b k a c || (T a c && decide (dist T b c = k - 1))):=by
 unfold anyTo
 rw [List.range_succ,List.any_append]; simp
theorem midN_start (T:Nat -> Nat -> Bool) (b k:Nat):midN T b k 0 0 = stepsAt T b k:=by
 funext x
 unfold midN
 rw [if_neg]
 rintro (h | ⟨_,_,h⟩)
 ·omega
 ·simp [anyTo] at h
theorem stepsAt_back {T:Nat -> Nat -> Bool} {b k x:Nat} (hk:2 <= k):stepsAt T b k x = k - 1 <-> dist T b x = k - 1:=by
 unfold stepsAt
 split <;> omega
theorem midN_hit {T:Nat -> Nat -> Bool} {b k a c:Nat} (hk:2 <= k) (h0:stepsAt T b k a = 0) (ht:T a c = true) (hd:stepsAt T b k c = k - 1):(fun x => if x = a then k else midN T b k a c x) = midN T b k a (c + 1):=by
 have hany:anyTo T b k a (c + 1) = true:=by rw [anyTo_succ,ht,decide_eq_true ((stepsAt_back hk).1 hd)]; simp
 funext x
 unfold midN
 by_cases e:x = a
 ·subst e; rw [if_pos rfl,if_pos (.inr ⟨rfl,h0,hany⟩)]
 ·rw [if_neg e]
  by_cases hx:x < a ∧ dist T b x = k
  ·rw [if_pos (.inl hx),if_pos (.inl hx)]
  ·rw [if_neg (fun h => h.elim hx fun h => e h.1),if_neg (fun h => h.elim hx fun h => e h.1)]
theorem midN_miss {T:Nat -> Nat -> Bool} {b k a c:Nat} (hk:2 <= k) (h:stepsAt T b k a ≠ 0 ∨ T a c = false ∨ stepsAt T b k c ≠ k - 1):midN T b k a c = midN T b k a (c + 1):=by
 funext x
 unfold midN
 have key:(x = a ∧ stepsAt T b k x = 0 ∧ anyTo T b k a c = true) <-> (x = a ∧ stepsAt T b k x = 0 ∧ anyTo T b k a (c + 1) = true):=by
  constructor
  ·rintro ⟨e,h0,h1⟩
   exact ⟨e,h0,by rw [anyTo_succ,h1]; rfl⟩
  ·rintro ⟨e,h0,h1⟩
   refine ⟨e,h0,?_⟩
   subst e
   rcases h with h | h | h
   ·exact absurd h0 h
   ·rw [anyTo_succ,h,Bool.false_and,Bool.or_false] at h1; exact h1
   ·rw [anyTo_succ,decide_eq_false (fun hh => h ((stepsAt_back hk).2 hh)),Bool.and_false,Bool.or_false] at h1; exact h1
 by_cases hx:x < a ∧ dist T b x = k
 ·rw [if_pos (.inl hx),if_pos (.inl hx)]
 ·by_cases hy:x = a ∧ stepsAt T b k x = 0 ∧ anyTo T b k a c = true
  ·rw [if_pos (.inr hy),if_pos (.inr (key.1 hy))]
  ·rw [if_neg (fun h => h.elim hx hy),if_neg (fun h => h.elim hx fun h => hy (key.2 h))]
theorem midN_row {n:Nat} {T:Nat -> Nat -> Bool} (hT:Inside n T) {b k a:Nat} (hk:2 <= k):midN T b k a n = midN T b k (a + 1) 0:=by
 funext x
 have hz:∀ y,¬ (y = a + 1 ∧ stepsAt T b k y = 0 ∧ anyTo T b k (a + 1) 0 = true):=fun y h => by simp [anyTo] at h
 have key:(x = a ∧ stepsAt T b k x = 0 ∧ anyTo T b k a n = true) <-> (x = a ∧ dist T b x = k):=by
  constructor
  ·rintro ⟨rfl,h0,h1⟩
   refine ⟨rfl,(dist_next hk).2 ⟨?_,?_⟩⟩
   ·unfold stepsAt at h0
    split at h0 <;> omega
   ·obtain ⟨y,_,hy⟩:=List.any_eq_true.1 h1
    rw [Bool.and_eq_true,decide_eq_true_eq] at hy
    exact ⟨y,hy⟩
  ·rintro ⟨rfl,h⟩
   obtain ⟨_,y,hy,hd⟩:=(dist_next hk).1 h
   refine ⟨rfl,by unfold stepsAt; rw [if_neg (by omega)],List.any_eq_true.2 ⟨y,List.mem_range.2 (hT _ _ hy).2,by rw [hy,decide_eq_true hd]; rfl⟩⟩
 unfold midN
 by_cases hx:x < a ∧ dist T b x = k
 ·rw [if_pos (.inl hx),if_pos (.inl ⟨by omega,hx.2⟩)]
 ·by_cases hy:x = a ∧ dist T b x = k
  ·rw [if_pos (.inr (key.2 hy)),if_pos (.inl ⟨by omega,hy.2⟩)]
  ·rw [if_neg (fun h => h.elim hx fun h => hy (key.1 h)),if_neg]
   rintro (h | h)
   ·rcases Nat.lt_or_ge x a with h1 | h1
    ·exact hx ⟨h1,h.2⟩
    ·exact hy ⟨by omega,h.2⟩
   ·exact hz x h
theorem midN_end {n:Nat} {T:Nat -> Nat -> Bool} (hT:Inside n T) {b k:Nat} (hk:2 <= k):midN T b k n 0 = stepsAt T b (k + 1):=by
 funext x
 unfold midN
 by_cases hd:dist T b x = k
 ·have hx:x < n:=dist_lt hT (b:=b) (by omega)
  rw [if_pos (.inl ⟨hx,hd⟩)]
  unfold stepsAt
  rw [if_pos (by omega),hd]
 ·rw [if_neg]
  ·unfold stepsAt
   split <;> split <;> omega
  ·rintro (h | h)
   ·exact hd h.2
   ·simp [anyTo] at h
theorem stepsAt_all {n:Nat} {T:Nat -> Nat -> Bool} (hT:Inside n T) (b:Nat):stepsAt T b (n + 1) = dist T b:=by
 funext x
 have:=dist_le hT b x
 unfold stepsAt
 rw [if_pos (by omega)]
theorem nats_one (f:Nat -> Nat):(nats f).all (·.oneCell') = true:=by
 rw [List.all_eq_true]
 intro v hv
 obtain ⟨k,_,rfl⟩:=List.mem_map.1 hv
 rfl
theorem nats_size (f:Nat -> Nat):(Value.agg (nats f).toArray).cells.size = 24:=by simp [Value.cells,nats_length]
theorem nats_copy (f g:Nat -> Nat):splice (nats g) 0 (nats f) = nats f:=by
 unfold splice
 have h1:=nats_length f
 have h2:=nats_length g
 rw [h1,List.drop_eq_nil_of_le (by omega)]
 simp
theorem nats_cell {w:World} {g t:Nat} {fr:Nat × Nat} {f:Nat -> Nat} (h:w.heap[g]? = some (.cells (nats f).toArray t fr)) {a:Nat} (ha:a < 24):w.cell? ⟨g,0 + a * 1,none⟩ = some (.int .i64 (f a:Nat)):=by
 have:=(Rd.of_block h) a _ (nats_get ha f)
 simpa using this
set_option maxRecDepth 100000 in
theorem far_spec {N:Int} {A:Option Addr} {xs:List Arrow} {c:Nat} {w:World} (h:HRel w N A xs c) (hok:Valid N xs) {b:Nat} (hb:(b:Int) < N) :
  CallsV C.P 120 #[relVal N A xs.length c,.int .i64 b] w fun v w' => v = .agg (nats (dist (toM xs) b)).toArray ∧ Ext w w':=by
 have hlo:=hok.lo
 have hhi:=hok.hi
 obtain ⟨n,rfl⟩:=Int.eq_ofNat_of_zero_le hlo
 have hn:n <= 24:=by omega
 have hb24:b < 24:=by omega
 have hT:Inside n (toM xs):=hok.inside
 refine callsV_of C_ok (args:=[_,_]) (plans:=[]) Tryz.func120 rfl Tryz.ntmps120 (by kernel_rfl) (Nat.le_of_ble_eq_true rfl) ?_
 intro g2 w1 h1
 intro g4 w2 h2
 have M2:=((Mem.start w).alloc h1).alloc h2
 refine ⟨[.int .i64 n,.slice A xs.length c],rfl,M2.rd 1 rfl,?_⟩
 refine (steps_spec (h.ext M2.ext) hok).mono ?_
 rintro v w3 ⟨rfl,e3⟩
 have M3:=M2.grow e3
 intro g5 w4 h4
 have M4:=M3.alloc h4
 refine ⟨mat_size _,_,_,M4.get 0 rfl,Nat.le_of_ble_eq_true rfl,bools_one 576 _,?_⟩
 intro w5 h5
 have h5:Put w4 g5 (.cells (mat (toM xs)).toArray 171 (0,0)) w5:=by
  have:=mat_copy (toM xs) fun _ _ => false
  rw [<-mat_zero] at this
  rw [<-this]; exact h5
 have M5:=M4.put 0 rfl h5
 intro g6 w6 h6
 have M6:=M5.alloc h6
 generalize toM xs = T at *
 have M6:Mem w w6 [(g6,.cells (nats (oneTo T b 0)).toArray 132 (0,0)),(g5,.cells (mat T).toArray 171 (0,0)),(g4,.cells (nats fun _ => 0).toArray 132 (0,0)),(g2,.cells #[.int .i64 n,.slice A xs.length c] 49 (0,0))]:=by
  rw [oneTo_zero,<-nats_zero]; exact M6
 refine loopE C_ok (fun (a:Nat) => [(1,.int .i64 b),(2,.pointer (some ⟨g2,0,none⟩)),(4,.pointer (some ⟨g4,0,none⟩)),(5,.pointer (some ⟨g5,0,none⟩)),(6,.pointer (some ⟨g6,0,none⟩)),(7,.int .i64 a)])
  (fun a w' => a <= n ∧ Mem w w' [(g6,.cells (nats (oneTo T b a)).toArray 132 (0,0)),(g5,.cells (mat T).toArray 171 (0,0)),(g4,.cells (nats fun _ => 0).toArray 132 (0,0)),(g2,.cells #[.int .i64 n,.slice A xs.length c] 49 (0,0))]) (fun a => n - a) 0
  ⟨rfl,rfl,rfl,rfl,rfl,rfl,trivial⟩ ⟨Nat.zero_le _,M6⟩ ?_
 rintro a w7 ⟨ha,M7⟩
 refine ⟨_,M7.cell 3 rfl rfl,?_⟩
 refine brE_dec (fun hlt => ?_) (fun hge => ?_)
 ·have hlt:a < n:=by have:(a:Int) < n:=hlt; omega
  have ha24:a < 24:=by omega
  have next:IntKind.i64.wrap ((a:Int) + 1) = ((a + 1:Nat):Int):=fit ⟨by omega,by omega⟩
  refine ⟨a,rfl,ha24,?_⟩
  refine ⟨b,rfl,hb24,?_⟩
  refine ⟨_,mat_cell (M7.get 1 rfl) ha24 hb24,?_⟩
  refine brE_mk (fun hr => ?_) (fun hr => ?_)
  ·refine ⟨a,rfl,ha24,?_⟩
   refine ⟨rfl,_,_,M7.get 0 rfl,by rw [nats_length]; show 0 + a * 1 + 1 <= 24; omega,rfl,?_⟩
   intro w8 h8
   have e8:splice (nats (oneTo T b a)) (0 + a * 1) [.int .i64 1] = nats (oneTo T b (a + 1)):=by
    rw [<-oneTo_yes hr]
    have:=nats_set ha24 (oneTo T b a) 1
    rw [Nat.mul_one,Nat.zero_add]
    exact this
   have h8:Put w7 g6 (.cells (nats (oneTo T b (a + 1))).toArray 132 (0,0)) w8:=by rw [<-e8]; exact h8
   refine ⟨_,next,?_⟩
   exact ⟨a + 1,⟨rfl,rfl,rfl,rfl,rfl,rfl,trivial⟩,⟨hlt,M7.put 0 rfl h8⟩,by omega⟩
  ·refine ⟨_,next,?_⟩
   exact ⟨a + 1,⟨rfl,rfl,rfl,rfl,rfl,rfl,trivial⟩,⟨hlt,by rw [<-oneTo_no hr]; exact M7⟩,by omega⟩
 ·have:a = n:=by have:¬ (a:Int) < n:=hge; omega
  subst this
  rw [oneTo_end hT] at M7
  refine loopE C_ok (fun (k:Nat) => [(1,.int .i64 b),(2,.pointer (some ⟨g2,0,none⟩)),(4,.pointer (some ⟨g4,0,none⟩)),(5,.pointer (some ⟨g5,0,none⟩)),(6,.pointer (some ⟨g6,0,none⟩)),(8,.int .i64 k)])
   (fun k w' => 2 <= k ∧ k <= a + 1 ∧ Mem w w' [(g6,.cells (nats (stepsAt T b k)).toArray 132 (0,0)),(g5,.cells (mat T).toArray 171 (0,0)),(g4,.cells (nats fun _ => 0).toArray 132 (0,0)),(g2,.cells #[.int .i64 a,.slice A xs.length c] 49 (0,0))]) (fun k => a + 1 - k) 2
   ⟨rfl,rfl,rfl,rfl,rfl,rfl,trivial⟩ ⟨Nat.le_refl _,by omega,M7⟩ ?_
  rintro k w8 ⟨hk2,hk,M8⟩
  refine ⟨_,M8.cell 3 rfl rfl,?_⟩
  refine brE_dec (fun hlt => ?_) (fun hge2 => ?_)
  ·have hlt:k <= a:=by have:(k:Int) <= a:=hlt; omega
   refine ⟨nats (stepsAt T b k),nats_length _,M8.rd 0 rfl,?_⟩
   intro g9 w9 h9
   have M9:=M8.alloc h9
   refine ⟨nats_size _,_,_,M9.get 0 rfl,Nat.le_of_ble_eq_true rfl,nats_one _,?_⟩
   intro w10 h10
   have h10:Put w9 g9 (.cells (nats (midN T b k 0 0)).toArray 132 (0,0)) w10:=by
    have:=nats_copy (stepsAt T b k) fun _ => 0
    rw [<-nats_zero] at this
    rw [midN_start,<-this]; exact h10
   have M10:=M9.put 0 rfl h10
   refine loopE C_ok (fun (i:Nat) => [(1,.int .i64 b),(2,.pointer (some ⟨g2,0,none⟩)),(4,.pointer (some ⟨g4,0,none⟩)),(5,.pointer (some ⟨g5,0,none⟩)),(6,.pointer (some ⟨g6,0,none⟩)),(8,.int .i64 k),(9,.pointer (some ⟨g9,0,none⟩)),(10,.int .i64 i)])
    (fun i w' => i <= a ∧ Mem w w' [(g9,.cells (nats (midN T b k i 0)).toArray 132 (0,0)),(g6,.cells (nats (stepsAt T b k)).toArray 132 (0,0)),(g5,.cells (mat T).toArray 171 (0,0)),(g4,.cells (nats fun _ => 0).toArray 132 (0,0)),(g2,.cells #[.int .i64 a,.slice A xs.length c] 49 (0,0))]) (fun i => a - i) 0
    ⟨rfl,rfl,rfl,rfl,rfl,rfl,rfl,rfl,trivial⟩ ⟨Nat.zero_le _,M10⟩ ?_
   rintro i w11 ⟨hi,M11⟩
   refine ⟨_,M11.cell 4 rfl rfl,?_⟩
   refine brE_dec (fun hlti => ?_) (fun hgei => ?_)
   ·have hlti:i < a:=by have:(i:Int) < a:=hlti; omega
    have hi24:i < 24:=by omega
    refine loopE C_ok (fun (j:Nat) => [(1,.int .i64 b),(2,.pointer (some ⟨g2,0,none⟩)),(4,.pointer (some ⟨g4,0,none⟩)),(5,.pointer (some ⟨g5,0,none⟩)),(6,.pointer (some ⟨g6,0,none⟩)),(8,.int .i64 k),(9,.pointer (some ⟨g9,0,none⟩)),(10,.int .i64 i),(11,.int .i64 j)])
     (fun j w' => j <= a ∧ Mem w w' [(g9,.cells (nats (midN T b k i j)).toArray 132 (0,0)),(g6,.cells (nats (stepsAt T b k)).toArray 132 (0,0)),(g5,.cells (mat T).toArray 171 (0,0)),(g4,.cells (nats fun _ => 0).toArray 132 (0,0)),(g2,.cells #[.int .i64 a,.slice A xs.length c] 49 (0,0))]) (fun j => a - j) 0
     ⟨rfl,rfl,rfl,rfl,rfl,rfl,rfl,rfl,rfl,trivial⟩ ⟨Nat.zero_le _,M11⟩ ?_
    rintro j w12 ⟨hj,M12⟩
    refine ⟨_,M12.cell 4 rfl rfl,?_⟩
    refine brE_dec (fun hltj => ?_) (fun hgej => ?_)
    ·have hltj:j < a:=by have:(j:Int) < a:=hltj; omega
     have hj24:j < 24:=by omega
     have next:IntKind.i64.wrap ((j:Int) + 1) = ((j + 1:Nat):Int):=fit ⟨by omega,by omega⟩
     have miss:(stepsAt T b k i ≠ 0 ∨ T i j = false ∨ stepsAt T b k j ≠ k - 1) -> j + 1 <= a ∧ Mem w w12 [(g9,.cells (nats (midN T b k i (j + 1))).toArray 132 (0,0)),(g6,.cells (nats (stepsAt T b k)).toArray 132 (0,0)),(g5,.cells (mat T).toArray 171 (0,0)),(g4,.cells (nats fun _ => 0).toArray 132 (0,0)),(g2,.cells #[.int .i64 a,.slice A xs.length c] 49 (0,0))]:=fun hm =>
      ⟨hltj,by rw [<-midN_miss hk2 hm]; exact M12⟩
     refine ⟨i,rfl,hi24,?_⟩
     refine ⟨_,nats_cell (M12.get 1 rfl) hi24,?_⟩
     refine brE_dec (fun h0 => ?_) (fun h0 => ?_)
     ·have h0:stepsAt T b k i = 0:=by have:((stepsAt T b k i:Nat):Int) = 0:=h0; omega
      refine ⟨i,rfl,hi24,?_⟩
      refine ⟨j,rfl,hj24,?_⟩
      refine ⟨_,mat_cell (M12.get 2 rfl) hi24 hj24,?_⟩
      refine brE_mk (fun hr => ?_) (fun hr => ?_)
      ·refine ⟨j,rfl,hj24,?_⟩
       refine ⟨_,nats_cell (M12.get 1 rfl) hj24,?_⟩
       refine ⟨((k - 1:Nat):Int),by rw [fit ⟨by omega,by omega⟩]; omega,?_⟩
       refine brE_dec (fun hd => ?_) (fun hd => ?_)
       ·have hd:stepsAt T b k j = k - 1:=by have:((stepsAt T b k j:Nat):Int) = ((k - 1:Nat):Int):=hd; omega
        refine ⟨i,rfl,hi24,?_⟩
        refine ⟨rfl,_,_,M12.get 0 rfl,by rw [nats_length]; show 0 + i * 1 + 1 <= 24; omega,rfl,?_⟩
        intro w13 h13
        have e13:splice (nats (midN T b k i j)) (0 + i * 1) [.int .i64 (k:Nat)] = nats (midN T b k i (j + 1)):=by
         rw [<-midN_hit hk2 h0 hr hd]
         have:=nats_set hi24 (midN T b k i j) k
         rw [Nat.mul_one,Nat.zero_add]
         exact this
        have h13:Put w12 g9 (.cells (nats (midN T b k i (j + 1))).toArray 132 (0,0)) w13:=by rw [<-e13]; exact h13
        refine ⟨_,next,?_⟩
        exact ⟨j + 1,⟨rfl,rfl,rfl,rfl,rfl,rfl,rfl,rfl,rfl,trivial⟩,⟨hltj,M12.put 0 rfl h13⟩,by omega⟩
       ·have hd:stepsAt T b k j ≠ k - 1:=by have:¬ ((stepsAt T b k j:Nat):Int) = ((k - 1:Nat):Int):=hd; omega
        refine ⟨_,next,?_⟩
        exact ⟨j + 1,⟨rfl,rfl,rfl,rfl,rfl,rfl,rfl,rfl,rfl,trivial⟩,miss (.inr (.inr hd)),by omega⟩
      ·refine ⟨_,next,?_⟩
       exact ⟨j + 1,⟨rfl,rfl,rfl,rfl,rfl,rfl,rfl,rfl,rfl,trivial⟩,miss (.inr (.inl hr)),by omega⟩
     ·have h0:stepsAt T b k i ≠ 0:=by have:¬ ((stepsAt T b k i:Nat):Int) = 0:=h0; omega
      refine ⟨_,next,?_⟩
      exact ⟨j + 1,⟨rfl,rfl,rfl,rfl,rfl,rfl,rfl,rfl,rfl,trivial⟩,miss (.inl h0),by omega⟩
    ·have:j = a:=by have:¬ (j:Int) < a:=hgej; omega
     subst this
     rw [midN_row hT hk2] at M12
     refine ⟨((i + 1:Nat):Int),fit ⟨by omega,by omega⟩,?_⟩
     exact ⟨i + 1,⟨rfl,rfl,rfl,rfl,rfl,rfl,rfl,rfl,trivial⟩,⟨hlti,M12⟩,by omega⟩
   ·have:i = a:=by have:¬ (i:Int) < a:=hgei; omega
    subst this
    rw [midN_end hT hk2] at M11
    refine ⟨nats (stepsAt T b (k + 1)),nats_length _,M11.rd 0 rfl,?_⟩
    refine ⟨nats_size _,_,_,M11.get 1 rfl,by rw [nats_length]; exact Nat.le_refl _,nats_one _,?_⟩
    intro w12 h12
    have h12:Put w11 g6 (.cells (nats (stepsAt T b (k + 1))).toArray 132 (0,0)) w12:=by rw [<-nats_copy (stepsAt T b (k + 1)) (stepsAt T b k)]; exact h12
    have M12:=(M11.put 1 rfl h12).tail
    refine ⟨((k + 1:Nat):Int),fit ⟨by omega,by omega⟩,?_⟩
    exact ⟨k + 1,⟨rfl,rfl,rfl,rfl,rfl,rfl,trivial⟩,⟨by omega,by omega,M12⟩,by omega⟩
  ·have:k = a + 1:=by have:¬ (k:Int) <= a:=hge2; omega
   subst this
   rw [stepsAt_all hT] at M8
   refine ⟨nats (dist T b),nats_length _,M8.rd 0 rfl,?_⟩
   refine ⟨nats_size _,_,_,M8.get 2 rfl,by rw [nats_length]; exact Nat.le_refl _,nats_one _,?_⟩
   intro w9 h9
   have h9:Put w8 g4 (.cells (nats (dist T b)).toArray 132 (0,0)) w9:=by rw [<-nats_copy (dist T b) fun _ => 0]; exact h9
   have M9:=M8.put 2 rfl h9
   refine ⟨nats (dist T b),nats_length _,M9.rd 2 rfl,?_⟩
   exact ⟨rfl,M9.ext⟩
end Go.Proofs.YtdpdjcopkehdjaaGreat.Rk
namespace Go.Proofs.YtdpdjcopkehdjaaGreat.Rk
open Go.Eng Go.RowKit Go.ChangeShapes Go.WideShapes Go.ChangeAt
open Go.ChangeMaps (open_string shut_string)
theorem own:ownKnob Tryz.prog.godebug = none:=by kernel_rfl
theorem cells5:Tryz.prog.cellsOf 5 = 1:=by kernel_rfl
theorem cells9:Tryz.prog.cellsOf 9 = 1:=by kernel_rfl
theorem cellsF:Tryz.prog.cellsOf 55 = 9:=by kernel_rfl
theorem recFs:Tryz.prog.readableRec 22 = true:=by kernel_rfl
theorem rowFs:(22:TypeId) < Tryz.prog.types.size:=of_decide_eq_true (by kernel_rfl)
theorem rec3:Tryz.prog.readableRec 3 = true:=by kernel_rfl
theorem row3:(3:TypeId) < Tryz.prog.types.size:=of_decide_eq_true (by kernel_rfl)
theorem wf_u8 {a:Int} (h:(Lit.int .u8 a).wf = true):0 <= a ∧ a <= 255:=by
 simp [Lit.wf,IntKind.min,IntKind.max,IntKind.bits,IntKind.signed] at h
 omega
theorem list9 {l:List Value} (h:l.length = 9):∃ a b c d e f g h' i,l = [a,b,c,d,e,f,g,h',i]:=by
 match l,h with
 | [a,b,c,d,e,f,g,h',i],_ => exact ⟨a,b,c,d,e,f,g,h',i,rfl⟩
theorem recSc:Tryz.prog.readableRec 24 = true:=by kernel_rfl
theorem rowSc:(24:TypeId) < Tryz.prog.types.size:=of_decide_eq_true (by kernel_rfl)
theorem recUs:Tryz.prog.readableRec 25 = true:=by kernel_rfl
theorem rowUs:(25:TypeId) < Tryz.prog.types.size:=of_decide_eq_true (by kernel_rfl)
theorem recPs:Tryz.prog.readableRec 46 = true:=by kernel_rfl
theorem rowPs:(46:TypeId) < Tryz.prog.types.size:=of_decide_eq_true (by kernel_rfl)
theorem cellsSc:Tryz.prog.cellsOf 24 = 5:=by kernel_rfl
theorem cellsU:Tryz.prog.cellsOf 44 = 2:=by kernel_rfl
theorem cellsPr:Tryz.prog.cellsOf 90 = 2:=by kernel_rfl
theorem underUs:Tryz.prog.underlying 25 = some (.slice 44):=by kernel_rfl
theorem underPs:Tryz.prog.underlying 46 = some (.slice 90):=by kernel_rfl
theorem underU:Tryz.prog.underlying 44 = some (.struct #[⟨ "Person",3,0,false, "", "",0⟩,⟨ "State",3,1,false, "", "",8⟩]):=by kernel_rfl
theorem underPr:Tryz.prog.underlying 90 = some (.struct #[⟨ "A",3,0,false, "", "",0⟩,⟨ "B",3,1,false, "", "",8⟩]):=by kernel_rfl
theorem underSc:Tryz.prog.underlying 24 = some (.struct #[⟨ "Host",3,0,false, "", "",0⟩,⟨ "Lang",3,1,false, "", "",8⟩,⟨ "Lot",3,2,false, "", "",16⟩,⟨ "Known",3,3,false, "", "",24⟩,⟨ "Day",3,4,false, "", "",32⟩]):=by kernel_rfl
section
variable {H:Type} {enc:TypeId × Value -> H} {W:World}
set_option maxRecDepth 100000 in
theorem open_fcells {base n:Nat} {spare:Nat -> Bool} {held:Bool} {cs:List Value} {x:DataW H × List MemPlace} (h:DataW.trod enc Tryz.prog W base spare held n 55 cs = some x) :
  ∃ y:Fact,cs = y.cells ∧ y.Nums:=by
 obtain ⟨xs,n',_,_,hlen,hxs,hg⟩:=DataW.trod_struct underF h
 rw [cellsF] at hlen
 obtain ⟨a0,a1,a2,a3,a4,a5,a6,a7,a8,rfl⟩:=list9 hlen
 have some9:∀ i,i < 9 -> ∃ y,xs[i]? = some y:=fun i hi => ⟨_,List.getElem?_eq_getElem (by rw [hxs]; exact hi)⟩
 have get3:∀ (i:Nat) (u:Value) (f:Field),(#[⟨ "Id",3,0,false, "", "",0⟩,⟨ "Known",3,1,false, "", "",8⟩,⟨ "Kind",5,2,false, "", "",16⟩,⟨ "Who",3,3,false, "", "",24⟩,⟨ "What",3,4,false, "", "",32⟩,⟨ "Other",3,5,false, "", "",40⟩,⟨ "Since",3,6,false, "", "",48⟩,⟨ "Until",3,7,false, "", "",56⟩,⟨ "Name",9,8,false, "", "",64⟩]:Array Field)[i]? = some f -> f.type = 3 -> i < 9 →
   ((([a0,a1,a2,a3,a4,a5,a6,a7,a8]:List Value).drop f.offset).take 1) = [u] -> ∃ z:Int,u = .int .i64 z ∧ In64 z:=by
  intro i u f hi h3 hi9 hu
  have:=hg i f hi
  rw [h3,cells3,hu] at this
  obtain ⟨y,hy⟩:=some9 i hi9
  rw [hy] at this
  obtain ⟨z,e1,_,wz⟩:=DataW.trod_int under3 this
  simp at e1
  exact ⟨z,e1,wf_in64 wz⟩
 obtain ⟨z0,rfl,w0⟩:=get3 0 a0 _ rfl rfl (by omega) rfl
 obtain ⟨z1,rfl,w1⟩:=get3 1 a1 _ rfl rfl (by omega) rfl
 obtain ⟨z3,rfl,w3⟩:=get3 3 a3 _ rfl rfl (by omega) rfl
 obtain ⟨z4,rfl,w4⟩:=get3 4 a4 _ rfl rfl (by omega) rfl
 obtain ⟨z5,rfl,w5⟩:=get3 5 a5 _ rfl rfl (by omega) rfl
 obtain ⟨z6,rfl,w6⟩:=get3 6 a6 _ rfl rfl (by omega) rfl
 obtain ⟨z7,rfl,w7⟩:=get3 7 a7 _ rfl rfl (by omega) rfl
 have h2:DataW.trod enc Tryz.prog W base spare held n' 5 ((([.int .i64 z0,.int .i64 z1,a2,.int .i64 z3,.int .i64 z4,.int .i64 z5,.int .i64 z6,.int .i64 z7,a8]:List Value).drop 2).take (Tryz.prog.cellsOf 5)) = xs[2]?:=hg 2 ⟨ "Kind",5,2,false, "", "",16⟩ rfl
 have h8:DataW.trod enc Tryz.prog W base spare held n' 9 ((([.int .i64 z0,.int .i64 z1,a2,.int .i64 z3,.int .i64 z4,.int .i64 z5,.int .i64 z6,.int .i64 z7,a8]:List Value).drop 8).take (Tryz.prog.cellsOf 9)) = xs[8]?:=hg 8 ⟨ "Name",9,8,false, "", "",64⟩ rfl
 obtain ⟨y2,hy2⟩:=some9 2 (by omega)
 obtain ⟨y8,hy8⟩:=some9 8 (by omega)
 rw [cells5,hy2] at h2
 rw [cells9,hy8] at h8
 obtain ⟨z2,e2,_,w2⟩:=DataW.trod_int under5 h2
 obtain ⟨s8,e8,_,w8⟩:=DataW.trod_string under9 h8
 simp at e2 e8
 subst e2 e8
 exact ⟨⟨z0,z1,z2,z3,z4,z5,z6,z7,s8⟩,rfl,⟨w0,w1,wf_u8 w2,w3,w4,w5,w6,w7,by simpa [maxLen] using w8⟩⟩
theorem fcells_range (f:Nat -> Fact) (n i:Nat) (v:Value) (h:(fcells ((List.range n).map f))[i]? = some v):∃ k j,k < n ∧ j < 9 ∧ i = k * 9 + j ∧ (f k).cells[j]? = some v:=by
 have hl:=fcells_length ((List.range n).map f)
 have hi:=(List.getElem?_eq_some_iff.1 h).1
 rw [hl] at hi
 simp at hi
 have hk:i / 9 < ((List.range n).map f).length:=by simp; omega
 have hj:i % 9 < 9:=Nat.mod_lt _ (by omega)
 refine ⟨i / 9,i % 9,by simpa using hk,hj,by omega,?_⟩
 have:=flat_get Fact.len ((List.range n).map f) (i / 9) (i % 9) hk hj
 rw [show i / 9 * 9 + i % 9 = i by omega] at this
 have h2:((List.range n).map f).flatMap Fact.cells = fcells ((List.range n).map f):=rfl
 rw [h2,h] at this
 rw [this]
 simp
set_option maxRecDepth 100000 in
theorem open_facts {v:Value} {d:DataW H} {p:List MemPlace} {b0:Nat} (hv:Value.okWide Tryz.prog W .any b0 22 v) (h:DataW.Trod enc Tryz.prog W 0 (fun _ => true) true 22 v d p) :
  ∃ A l c,v = .slice A l.length c ∧ HF W A l c:=by
 obtain ⟨a0,len0,cap0,rfl⟩:=okWide_slice underFs hv
 obtain ⟨fuel,hf⟩:=h
 rcases Deep.open_slice underFs hf with ⟨e1,_⟩ | ⟨a,len,cap,m,n,D,Pl,e1,hb,hl,hm,hmm,_,hx⟩
 ·simp [Value.cells] at e1
  obtain ⟨rfl,rfl,rfl⟩:=e1
  exact ⟨none,[],0,rfl,by simp,.inl rfl,Nat.le_refl _,by simp⟩
 ·simp [Value.cells] at e1
  obtain ⟨rfl,rfl,rfl⟩:=e1
  have hmm:m = cap0:=by simpa using hmm
  subst hmm
  rw [cellsF] at hx
  obtain ⟨f,hf2⟩:=Deep.choose_lt (p:=fun i (y:Fact) => W.cells? 0 (a.add (i * 9)) 9 = some y.cells ∧ y.Nums) (fun i hi => by
   obtain ⟨cs',h1,h2⟩:=hx i hi
   obtain ⟨y,rfl,hy⟩:=open_fcells h2
   exact ⟨y,h1,hy⟩)
  have hlen:((List.range len0).map f).length = len0:=by simp
  refine ⟨some a,(List.range len0).map f,m,by rw [hlen],?_,?_,by rw [hlen]; exact hl,by rw [hlen]; simp only [maxLen] at hm; omega⟩
  ·intro x hx
   obtain ⟨i,hi,rfl⟩:=List.mem_map.1 hx
   exact (hf2 i (by have:=List.mem_range.1 hi; omega)).2
  ·by_cases h0:len0 = 0
   ·subst h0; exact .inl rfl
   ·have hc:∀ i < len0,∀ j < 9,W.cell? ((a.add (i * 9)).add j) = (f i).cells[j]?:=fun i hi j hj => (World.cells?_some (hf2 i (by omega)).1).2.2 j hj
    have hs:a.spot = none:=by
     have:=hc 0 (by omega) 0 (by omega)
     have h2:W.cell? ((a.add (0 * 9)).add 0) = some (.int .i64 (f 0).id):=this
     unfold World.cell? at h2
     cases hsp:a.spot with
     | none => rfl
     | some s =>
      have ea:(a.add (0 * 9)).add 0 = a:=rfl
      rw [ea] at h2
      simp only [hsp] at h2
      split at h2 <;> simp at h2
    obtain ⟨b,o,sp⟩:=a
    simp only at hs
    subst hs
    refine .inr ⟨b,o,rfl,fun i v hv => ?_⟩
    obtain ⟨k,j,hk,hj,rfl,hg⟩:=fcells_range f len0 i v hv
    have:=hc k hk j hj
    rw [hg] at this
    rw [<-this]
    rw [add_spot,add_spot,Nat.add_assoc]
theorem list5 {l:List Value} (h:l.length = 5):∃ a b c d e,l = [a,b,c,d,e]:=by
 match l,h with
 | [a,b,c,d,e],_ => exact ⟨a,b,c,d,e,rfl⟩
theorem prs_range (f:Nat -> Int × Int) (n i:Nat) (v:Value) (h:(prCells ((List.range n).map f))[i]? = some v):∃ k j,k < n ∧ j < 2 ∧ i = k * 2 + j ∧ ([.int .i64 (f k).1,.int .i64 (f k).2]:List Value)[j]? = some v:=by
 have hl:=prCells_length ((List.range n).map f)
 have hi:=(List.getElem?_eq_some_iff.1 h).1
 rw [hl] at hi
 simp at hi
 have hk:i / 2 < ((List.range n).map f).length:=by simp; omega
 have hj:i % 2 < 2:=Nat.mod_lt _ (by omega)
 refine ⟨i / 2,i % 2,by simpa using hk,hj,by omega,?_⟩
 obtain ⟨u,hu⟩:∃ u,([.int .i64 (f (i / 2)).1,.int .i64 (f (i / 2)).2]:List Value)[i % 2]? = some u:=⟨_,List.getElem?_eq_getElem (by simpa using hj)⟩
 have:=prCells_get hk (i % 2) u (by simpa using hu)
 rw [show i / 2 * 2 + i % 2 = i by omega] at this
 rw [hu,<-this,h]
set_option maxRecDepth 100000 in
theorem open_two {v:Value} {d:DataW H} {p:List MemPlace} {b0 t e:Nat} {n0 n1:String} {o1:Nat} (ht:Tryz.prog.underlying t = some (.slice e)) (ce:Tryz.prog.cellsOf e = 2)
  (he:Tryz.prog.underlying e = some (.struct #[⟨ n0,3,0,false, "", "",0⟩,⟨ n1,3,1,false, "", "",o1⟩]))
  (hv:Value.okWide Tryz.prog W .any b0 t v) (h:DataW.Trod enc Tryz.prog W 0 (fun _ => true) true t v d p) :
  ∃ B l c,v = .slice B l.length c ∧ Reads W B (prCells l) ∧ l.length <= c ∧ c <= 9223372036854775807 ∧ ∀ x ∈ l,In64 x.1 ∧ In64 x.2:=by
 obtain ⟨a0,len0,cap0,rfl⟩:=okWide_slice ht hv
 obtain ⟨fuel,hf⟩:=h
 rcases Deep.open_slice_pairs ht he ce rfl rfl cells3 cells3 hf with ⟨e1,_⟩ | ⟨a,len,cap,m,n,V0,V1,D0,D1,P0,P1,e1,_,hl,hm,hmm,_,hx⟩
 ·simp [Value.cells] at e1
  obtain ⟨rfl,rfl,rfl⟩:=e1
  exact ⟨none,[],0,rfl,.inl rfl,Nat.le_refl _,by omega,by simp⟩
 ·simp [Value.cells] at e1
  obtain ⟨rfl,rfl,rfl⟩:=e1
  have hmm:m = cap0:=by simpa using hmm
  subst hmm
  obtain ⟨f,hf2⟩:=Deep.choose_lt (p:=fun i (y:Int × Int) => W.cell? (a.add (i * 2)) = some (.int .i64 y.1) ∧ W.cell? (a.add (i * 2 + 1)) = some (.int .i64 y.2) ∧ In64 y.1 ∧ In64 y.2) (fun i hi => by
   obtain ⟨h1,h2,h3,h4⟩:=hx i hi
   obtain ⟨x,e3,_,w3⟩:=DataW.trod_int under3 h3
   obtain ⟨y,e4,_,w4⟩:=DataW.trod_int under3 h4
   simp at e3 e4
   exact ⟨(x,y),by rw [h1,e3],by rw [h2,e4],wf_in64 w3,wf_in64 w4⟩)
  have hlen:((List.range len0).map f).length = len0:=by simp
  refine ⟨some a,(List.range len0).map f,m,by rw [hlen],?_,by rw [hlen]; exact hl,by simp only [maxLen] at hm; omega,?_⟩
  ·by_cases h0:len0 = 0
   ·subst h0; exact .inl rfl
   ·have hs:a.spot = none:=by
     have h2:W.cell? a = some (.int .i64 (f 0).1):=(hf2 0 (by omega)).1
     unfold World.cell? at h2
     cases hsp:a.spot with
     | none => rfl
     | some s =>
      simp only [hsp] at h2
      split at h2 <;> simp at h2
    obtain ⟨b,o,sp⟩:=a
    simp only at hs
    subst hs
    refine .inr ⟨b,o,rfl,fun i v hv => ?_⟩
    obtain ⟨k,j,hk,hj,rfl,hg⟩:=prs_range f len0 i v hv
    have h3:=hf2 k (by omega)
    rw [add_spot,add_spot] at h3
    match j,hj with
    | 0,_ => simp at hg; rw [<-hg]; simpa using h3.1
    | 1,_ => simp at hg; rw [<-hg]; simpa [Nat.add_assoc] using h3.2.1
  ·intro x hx2
   obtain ⟨i,hi,rfl⟩:=List.mem_map.1 hx2
   exact (hf2 i (by have:=List.mem_range.1 hi; omega)).2.2
set_option maxRecDepth 100000 in
theorem open_guests {v:Value} {d:DataW H} {p:List MemPlace} {b0:Nat} (hv:Value.okWide Tryz.prog W .any b0 25 v) (h:DataW.Trod enc Tryz.prog W 0 (fun _ => true) true 25 v d p) :
  ∃ B l c,v = .slice B l.length c ∧ Reads W B (prCells l) ∧ l.length <= c ∧ c <= 9223372036854775807 ∧ ∀ x ∈ l,In64 x.1 ∧ In64 x.2:=open_two underUs cellsU underU hv h
set_option maxRecDepth 100000 in
theorem open_prs {v:Value} {d:DataW H} {p:List MemPlace} {b0:Nat} (hv:Value.okWide Tryz.prog W .any b0 46 v) (h:DataW.Trod enc Tryz.prog W 0 (fun _ => true) true 46 v d p) :
  ∃ B l c,v = .slice B l.length c ∧ Reads W B (prCells l) ∧ l.length <= c ∧ c <= 9223372036854775807 ∧ ∀ x ∈ l,In64 x.1 ∧ In64 x.2:=open_two underPs cellsPr underPr hv h
set_option maxRecDepth 100000 in
theorem open_scene {v:Value} {d:DataW H} {p:List MemPlace} {b0:Nat} (hv:Value.okWide Tryz.prog W .any b0 24 v) (h:DataW.Trod enc Tryz.prog W 0 (fun _ => true) true 24 v d p) :
  ∃ s:Scn,v = s.val ∧ In64 s.host ∧ In64 s.lang ∧ In64 s.lot ∧ In64 s.known ∧ In64 s.day:=by
 obtain ⟨cs,rfl,hsz⟩:=okWide_struct underSc hv
 obtain ⟨fuel,hf⟩:=h
 obtain ⟨xs,n,_,_,hlen,hxs,hg⟩:=DataW.trod_struct underSc hf
 have hcl:cs.toList.length = 5:=by simpa [cellsSc] using hsz
 obtain ⟨a,b,c,d',e,hcs⟩:=list5 hcl
 have hcv:(Value.agg cs).cells.toList = [a,b,c,d',e]:=hcs
 rw [hcv] at hg
 have get:∀ (i:Nat) (u:Value) (f:Field),(#[⟨ "Host",3,0,false, "", "",0⟩,⟨ "Lang",3,1,false, "", "",8⟩,⟨ "Lot",3,2,false, "", "",16⟩,⟨ "Known",3,3,false, "", "",24⟩,⟨ "Day",3,4,false, "", "",32⟩]:Array Field)[i]? = some f -> f.type = 3 -> i < 5 →
   ((([a,b,c,d',e]:List Value).drop f.offset).take 1) = [u] -> ∃ z:Int,u = .int .i64 z ∧ In64 z:=by
  intro i u f hi h3 hi5 hu
  have:=hg i f hi
  rw [h3,cells3,hu] at this
  have hx:i < xs.length:=by rw [hxs]; simpa using hi5
  rw [List.getElem?_eq_getElem hx] at this
  obtain ⟨z,e1,_,wz⟩:=DataW.trod_int under3 this
  simp at e1
  exact ⟨z,e1,wf_in64 wz⟩
 obtain ⟨z0,rfl,w0⟩:=get 0 a _ rfl rfl (by omega) rfl
 obtain ⟨z1,rfl,w1⟩:=get 1 b _ rfl rfl (by omega) rfl
 obtain ⟨z2,rfl,w2⟩:=get 2 c _ rfl rfl (by omega) rfl
 obtain ⟨z3,rfl,w3⟩:=get 3 d' _ rfl rfl (by omega) rfl
 obtain ⟨z4,rfl,w4⟩:=get 4 e _ rfl rfl (by omega) rfl
 refine ⟨⟨z0,z1,z2,z3,z4⟩,?_,w0,w1,w2,w3,w4⟩
 show Value.agg cs = Value.agg _
 congr 1
 apply Array.ext'
 rw [hcs]
 rfl
end
end Go.Proofs.YtdpdjcopkehdjaaGreat.Rk
namespace Go.Proofs.YtdpdjcopkehdjaaGreat
structure OrdB {α:Type} (lt:α -> α -> Bool):Prop where
 asym:∀ x y,lt x y = true -> lt y x = false
 ntr:∀ x y z,lt y x = false -> lt z y = false -> lt z x = false
abbrev SortedB {α:Type} (lt:α -> α -> Bool) (l:List α):Prop:=l.Pairwise fun x y => lt y x = false
section
variable {α:Type} {lt:α -> α -> Bool}
theorem swap_split {P Y S:List α} {x y:α}:((P ++ x :: (Y ++ y :: S)).set P.length y).set (P.length + 1 + Y.length) x = P ++ y :: (Y ++ x :: S):=by
 rw [List.set_append_right _ _ (Nat.le_refl _),Nat.sub_self,List.set_cons_zero,List.set_append_right _ _ (by omega),show P.length + 1 + Y.length - P.length = Y.length + 1 by omega,List.set_cons_succ,List.set_append_right _ _ (Nat.le_refl _),Nat.sub_self,List.set_cons_zero]
theorem get_mid {P S:List α} {x:α} (h:P.length < (P ++ x :: S).length):(P ++ x :: S)[P.length] = x:=by simp
theorem get_mid2 {P Y S:List α} {x y:α} {k:Nat} (hk:k = P.length + 1 + Y.length) (h:k < (P ++ x :: (Y ++ y :: S)).length):(P ++ x :: (Y ++ y :: S))[k] = y:=by
 subst hk
 rw [List.getElem_append_right (by omega)]
 simp only [show P.length + 1 + Y.length - P.length = Y.length + 1 by omega,List.getElem_cons_succ]
 rw [List.getElem_append_right (Nat.le_refl _)]
 simp
theorem sorted_insert {M1 M2:List α} {x:α} (h:SortedB lt (M1 ++ M2)) (h1:∀ z ∈ M1,lt x z = false) (h2:∀ z ∈ M2,lt z x = false):SortedB lt (M1 ++ x :: M2):=by
 obtain ⟨a,b,c⟩:=List.pairwise_append.1 h
 refine List.pairwise_append.2 ⟨a,List.pairwise_cons.2 ⟨fun z hz => h2 z hz,b⟩,fun z hz y hy => ?_⟩
 rcases List.mem_cons.1 hy with rfl | hy
 ·exact h1 z hz
 ·exact c z hz y hy
theorem sorted_last (O:OrdB lt) {M:List α} {x y:α} (h:SortedB lt (M ++ [y])) (hx:lt x y = false):∀ z ∈ M ++ [y],lt x z = false:=by
 intro z hz
 obtain ⟨_,_,c⟩:=List.pairwise_append.1 h
 rcases List.mem_append.1 hz with hz | hz
 ·exact O.ntr z y x (c z hz y (by simp)) hx
 ·rw [List.mem_singleton.1 hz]; exact hx
theorem sorted_at {l:List α} (h:SortedB lt l) {i j:Nat} (hi:i < l.length) (hj:j < l.length) (hij:i < j):lt l[j] l[i] = false:=List.pairwise_iff_getElem.1 h i j hi hj hij
theorem sorted_le (O:OrdB lt) {l:List α} (h:SortedB lt l) {i j:Nat} (hi:i < l.length) (hj:j < l.length) (hij:i <= j):lt l[j] l[i] = false:=by
 rcases Nat.lt_or_ge i j with h' | h'
 ·exact sorted_at h hi hj h'
 ·obtain rfl:i = j:=by omega
  cases e:lt l[i] l[i] with
  | false => rfl
  | true => exact absurd (O.asym _ _ e) (by rw [e]; decide)
theorem search_yes (O:OrdB lt) {l:List α} (h:SortedB lt l) {x:α} {k:Nat} (hk:k < l.length) (hx:lt l[k] x = true) {t:Nat} (ht:t <= k):lt (l[t]'(by omega)) x = true:=by
 cases e:lt (l[t]'(by omega)) x with
 | true => rfl
 | false =>
  have h1:=sorted_le O h (by omega:t < l.length) hk ht
  have:=O.ntr x _ _ e h1
  rw [hx] at this; cases this
theorem search_no (O:OrdB lt) {l:List α} (h:SortedB lt l) {x:α} {k:Nat} (hk:k < l.length) (hx:lt l[k] x = false) {t:Nat} (ht:k <= t) (htl:t < l.length):lt l[t] x = false :=
 O.ntr x _ _ hx (sorted_le O h hk htl ht)
theorem search_yes' (O:OrdB lt) {l:List α} (h:SortedB lt l) {x:α} {k:Nat} (hk:k < l.length) (hx:lt x l[k] = false) {t:Nat} (ht:t <= k):lt x (l[t]'(by omega)) = false :=
 O.ntr _ _ x (sorted_le O h (by omega:t < l.length) hk ht) hx
theorem search_no' (O:OrdB lt) {l:List α} (h:SortedB lt l) {x:α} {k:Nat} (hk:k < l.length) (hx:lt x l[k] = true) {t:Nat} (ht:k <= t) (htl:t < l.length):lt x l[t] = true:=by
 cases e:lt x l[t] with
 | true => rfl
 | false =>
  have h1:=sorted_le O h hk htl ht
  have:=O.ntr _ _ x h1 e
  rw [hx] at this; cases this
theorem mem_take_at {l:List α} {k:Nat} {z:α} (h:z ∈ l.take k):∃ t,∃ ht:t < l.length,t < k ∧ z = l[t]:=by
 obtain ⟨t,ht,rfl⟩:=List.getElem_of_mem h
 rw [List.length_take] at ht
 exact ⟨t,by omega,by omega,by rw [List.getElem_take]⟩
theorem mem_drop_at {l:List α} {k:Nat} {z:α} (h:z ∈ l.drop k):∃ t,∃ ht:t < l.length,k <= t ∧ z = l[t]:=by
 obtain ⟨t,ht,rfl⟩:=List.getElem_of_mem h
 rw [List.length_drop] at ht
 exact ⟨k + t,by omega,by omega,by rw [List.getElem_drop]⟩
theorem merge_one (O:OrdB lt) {B:List α} (h:SortedB lt B) {x:α} {k:Nat} (h1:∀ t (ht:t < B.length),t < k -> lt B[t] x = true) (h2:∀ t (ht:t < B.length),k <= t -> lt B[t] x = false):SortedB lt (B.take k ++ x :: B.drop k):=by
 refine sorted_insert (by rw [List.take_append_drop]; exact h) (fun z hz => ?_) (fun z hz => ?_)
 ·obtain ⟨t,ht,hk,rfl⟩:=mem_take_at hz
  exact O.asym _ _ (h1 t ht hk)
 ·obtain ⟨t,ht,hk,rfl⟩:=mem_drop_at hz
  exact h2 t ht hk
theorem merge_one' (O:OrdB lt) {A:List α} (h:SortedB lt A) {x:α} {k:Nat} (h1:∀ t (ht:t < A.length),t < k -> lt x A[t] = false) (h2:∀ t (ht:t < A.length),k <= t -> lt x A[t] = true):SortedB lt (A.take k ++ x :: A.drop k):=by
 refine sorted_insert (by rw [List.take_append_drop]; exact h) (fun z hz => ?_) (fun z hz => ?_)
 ·obtain ⟨t,ht,hk,rfl⟩:=mem_take_at hz
  exact h1 t ht hk
 ·obtain ⟨t,ht,hk,rfl⟩:=mem_drop_at hz
  exact O.asym _ _ (h2 t ht hk)
theorem merge_halves {A1 A2 B1 B2 X Y:List α} (h1:∀ x ∈ A1,∀ y ∈ B2,lt y x = false) (h2:∀ x ∈ B1,∀ y ∈ A2,lt y x = false) (hA:SortedB lt (A1 ++ A2)) (hB:SortedB lt (B1 ++ B2))
  (hX:SortedB lt X) (hXp:X.Perm (A1 ++ B1)) (hY:SortedB lt Y) (hYp:Y.Perm (A2 ++ B2)):SortedB lt (X ++ Y) ∧ (X ++ Y).Perm (A1 ++ A2 ++ (B1 ++ B2)):=by
 obtain ⟨_,_,cA⟩:=List.pairwise_append.1 hA
 obtain ⟨_,_,cB⟩:=List.pairwise_append.1 hB
 refine ⟨List.pairwise_append.2 ⟨hX,hY,fun x hx y hy => ?_⟩,?_⟩
 ·rcases List.mem_append.1 (hXp.mem_iff.1 hx) with hx | hx <;> rcases List.mem_append.1 (hYp.mem_iff.1 hy) with hy | hy
  ·exact cA x hx y hy
  ·exact h1 x hx y hy
  ·exact h2 x hx y hy
  ·exact cB x hx y hy
 ·refine (hXp.append hYp).trans ?_
  rw [List.append_assoc,List.append_assoc]
  refine List.Perm.append_left A1 ?_
  rw [<-List.append_assoc,<-List.append_assoc]
  exact List.Perm.append_right B2 List.perm_append_comm
end
end Go.Proofs.YtdpdjcopkehdjaaGreat
namespace Go.Proofs.YtdpdjcopkehdjaaGreat.Rk
open Go.Eng Go.RowKit
inductive Tst where
 | mk (op attr side n:Int) (A:Option Addr) (c:Nat) (of:List Tst)
def Tst.op:Tst -> Int | .mk x _ _ _ _ _ _ => x
def Tst.attr:Tst -> Int | .mk _ x _ _ _ _ _ => x
def Tst.side:Tst -> Int | .mk _ _ x _ _ _ _ => x
def Tst.n:Tst -> Int | .mk _ _ _ x _ _ _ => x
def Tst.A:Tst -> Option Addr | .mk _ _ _ _ x _ _ => x
def Tst.c:Tst -> Nat | .mk _ _ _ _ _ x _ => x
def Tst.of:Tst -> List Tst | .mk _ _ _ _ _ _ x => x
def Tst.cells (t:Tst):List Value:=[.int .u8 t.op,.int .u8 t.attr,.int .u8 t.side,.int .i64 t.n,.slice t.A t.of.length t.c]
def Tst.val (t:Tst):Value:=.agg t.cells.toArray
instance:Inhabited Tst:=⟨.mk 0 0 0 0 none 0 []⟩
theorem Tst.len (t:Tst):t.cells.length = 5:=rfl
structure Tst.Nums (t:Tst):Prop where
 op:0 <= t.op ∧ t.op <= 255
 attr:0 <= t.attr ∧ t.attr <= 255
 side:0 <= t.side ∧ t.side <= 255
 n:In64 t.n
inductive TestIs (w:World):Tst -> Prop
 | mk {t:Tst}:t.Nums -> Reads w t.A (t.of.flatMap Tst.cells) -> t.of.length <= t.c -> t.of.length <= 9223372036854775807 -> (∀ x ∈ t.of,TestIs w x) -> TestIs w t
theorem TestIs.ext {w w':World} {t:Tst} (h:TestIs w t) (e:Ext w w'):TestIs w' t:=by
 induction h with
 | mk h1 h2 h3 h4 _ ih => exact .mk h1 (h2.ext e) h3 h4 ih
def kindZ (a:Int):Int:=if a = 1 ∨ a = 2 then 1 else if a = 3 ∨ a = 4 ∨ a = 5 then 2 else if a = 6 ∨ a = 7 then 3 else 0
def rangeB (a n:Int):Bool:=if a = 1 then decide (n >= 1 ∧ n <= 5) else if a = 2 then decide (n >= 0 ∧ n <= 2) else decide (kindZ a = 2 ∧ n = 1)
def boolZ (b:Bool):Int:=if b = true then 1 else 0
def attrZ (a:Int) (p:Prof):Int:=if a = 1 then p.cls else if a = 2 then p.visit else if a = 3 then boolZ p.host else if a = 4 then boolZ p.dep else if a = 5 then boolZ p.mourn else if a = 6 then p.cred else if a = 7 then p.letter else 0
theorem kindOf_spec (a:Int) (w:World):CallsV C.P 200 #[.int .u8 a] w fun v w' => v = .int .i64 (kindZ a) ∧ w' = w:=by
 refine callsV_of C_ok (args:=[_]) (plans:=[]) Tryz.func200 rfl Tryz.ntmps200 (by kernel_rfl) (Nat.le_of_ble_eq_true rfl) ?_
 refine brE_dec (fun h1 => ?_) (fun h1 => ?_)
 ·have h1:a = 1:=h1
  refine brE_true (decide_eq_true h1) ?_
  exact ⟨congrArg (Value.int .i64) (by unfold kindZ; (repeat' split) <;> omega),rfl⟩
 have h1:¬ a = 1:=h1
 refine brE_dec (fun h2 => ?_) (fun h2 => ?_)
 ·have h2:a = 2:=h2
  exact ⟨congrArg (Value.int .i64) (by unfold kindZ; (repeat' split) <;> omega),rfl⟩
 have h2:¬ a = 2:=h2
 refine brE_dec (fun h3 => ?_) (fun h3 => ?_)
 ·have h3:a = 3:=h3
  refine brE_true (decide_eq_true h3) ?_
  exact ⟨congrArg (Value.int .i64) (by unfold kindZ; (repeat' split) <;> omega),rfl⟩
 have h3:¬ a = 3:=h3
 refine brE_dec (fun h4 => ?_) (fun h4 => ?_)
 ·have h4:a = 4:=h4
  refine brE_true (decide_eq_true h4) ?_
  exact ⟨congrArg (Value.int .i64) (by unfold kindZ; (repeat' split) <;> omega),rfl⟩
 have h4:¬ a = 4:=h4
 refine brE_dec (fun h5 => ?_) (fun h5 => ?_)
 ·have h5:a = 5:=h5
  exact ⟨congrArg (Value.int .i64) (by unfold kindZ; (repeat' split) <;> omega),rfl⟩
 have h5:¬ a = 5:=h5
 refine brE_dec (fun h6 => ?_) (fun h6 => ?_)
 ·have h6:a = 6:=h6
  refine brE_true (decide_eq_true h6) ?_
  exact ⟨congrArg (Value.int .i64) (by unfold kindZ; (repeat' split) <;> omega),rfl⟩
 have h6:¬ a = 6:=h6
 refine brE_dec (fun h7 => ?_) (fun h7 => ?_)
 ·have h7:a = 7:=h7
  exact ⟨congrArg (Value.int .i64) (by unfold kindZ; (repeat' split) <;> omega),rfl⟩
 have h7:¬ a = 7:=h7
 exact ⟨congrArg (Value.int .i64) (by unfold kindZ; (repeat' split) <;> omega),rfl⟩
theorem inRange_spec (a n:Int) (w:World):CallsV C.P 201 #[.int .u8 a,.int .i64 n] w fun v w' => v = .bool (rangeB a n) ∧ w' = w:=by
 refine callsV_of C_ok (args:=[_,_]) (plans:=[]) Tryz.func201 rfl Tryz.ntmps201 (by kernel_rfl) (Nat.le_of_ble_eq_true rfl) ?_
 refine brE_dec (fun h1 => ?_) (fun h1 => ?_)
 ·have h1:a = 1:=h1
  refine brE_dec (fun h2 => ?_) (fun h2 => ?_)
  ·have h2:n >= 1:=h2
   exact ⟨congrArg Value.bool (by unfold rangeB; rw [if_pos h1]; exact decide_eq_decide.2 ⟨fun h => ⟨h2,h⟩,fun h => h.2⟩),rfl⟩
  ·have h2:¬ n >= 1:=h2
   exact ⟨congrArg Value.bool (by unfold rangeB; rw [if_pos h1]; exact (decide_eq_false fun h => h2 h.1).symm),rfl⟩
 have h1:¬ a = 1:=h1
 refine brE_dec (fun h3 => ?_) (fun h3 => ?_)
 ·have h3:a = 2:=h3
  refine brE_dec (fun h2 => ?_) (fun h2 => ?_)
  ·have h2:n >= 0:=h2
   exact ⟨congrArg Value.bool (by unfold rangeB; rw [if_neg h1,if_pos h3]; exact decide_eq_decide.2 ⟨fun h => ⟨h2,h⟩,fun h => h.2⟩),rfl⟩
  ·have h2:¬ n >= 0:=h2
   exact ⟨congrArg Value.bool (by unfold rangeB; rw [if_neg h1,if_pos h3]; exact (decide_eq_false fun h => h2 h.1).symm),rfl⟩
 have h3:¬ a = 2:=h3
 refine (kindOf_spec a w).mono ?_
 rintro v w' ⟨rfl,rfl⟩
 refine brE_dec (fun h2 => ?_) (fun h2 => ?_)
 ·have h2:kindZ a = 2:=h2
  exact ⟨congrArg Value.bool (by unfold rangeB; rw [if_neg h1,if_neg h3]; exact decide_eq_decide.2 ⟨fun h => ⟨h2,h⟩,fun h => h.2⟩),rfl⟩
 ·have h2:¬ kindZ a = 2:=h2
  exact ⟨congrArg Value.bool (by unfold rangeB; rw [if_neg h1,if_neg h3]; exact (decide_eq_false fun h => h2 h.1).symm),rfl⟩
theorem mark_spec (b:Bool) (w:World):CallsV C.P 252 #[.bool b] w fun v w' => v = .int .i64 (boolZ b) ∧ w' = w:=by
 refine callsV_of C_ok (args:=[_]) (plans:=[]) Tryz.func252 rfl Tryz.ntmps252 (by kernel_rfl) (Nat.le_of_ble_eq_true rfl) ?_
 refine brE_mk (fun h => ?_) (fun h => ?_)
 ·have h:b = true:=h
  exact ⟨congrArg (Value.int .i64) (by rw [h]; rfl),rfl⟩
 ·have h:b = false:=h
  exact ⟨congrArg (Value.int .i64) (by rw [h]; rfl),rfl⟩
theorem view0_spec (p:Prof) (w:World):CallsV C.P 187 #[p.val] w fun v w' => v = .int .i64 (attrZ 0 p) ∧ Ext w w':=by
 refine callsV_of C_ok (args:=[_]) (plans:=[]) Tryz.func187 rfl Tryz.ntmps187 (by kernel_rfl) (Nat.le_of_ble_eq_true rfl) ?_
 intro g w1 h1
 exact ⟨rfl,h1.ext⟩
theorem view1_spec (p:Prof) (w:World):CallsV C.P 188 #[p.val] w fun v w' => v = .int .i64 (attrZ 1 p) ∧ Ext w w':=by
 refine callsV_of C_ok (args:=[_]) (plans:=[]) Tryz.func188 rfl Tryz.ntmps188 (by kernel_rfl) (Nat.le_of_ble_eq_true rfl) ?_
 intro g w1 h1
 refine ⟨_,cell_of_block (i:=0) h1.here rfl,?_⟩
 exact ⟨rfl,h1.ext⟩
theorem view2_spec (p:Prof) (w:World):CallsV C.P 189 #[p.val] w fun v w' => v = .int .i64 (attrZ 2 p) ∧ Ext w w':=by
 refine callsV_of C_ok (args:=[_]) (plans:=[]) Tryz.func189 rfl Tryz.ntmps189 (by kernel_rfl) (Nat.le_of_ble_eq_true rfl) ?_
 intro g w1 h1
 refine ⟨_,cell_of_block (i:=1) h1.here rfl,?_⟩
 exact ⟨rfl,h1.ext⟩
theorem view3_spec (p:Prof) (w:World):CallsV C.P 190 #[p.val] w fun v w' => v = .int .i64 (attrZ 3 p) ∧ Ext w w':=by
 refine callsV_of C_ok (args:=[_]) (plans:=[]) Tryz.func190 rfl Tryz.ntmps190 (by kernel_rfl) (Nat.le_of_ble_eq_true rfl) ?_
 intro g w1 h1
 refine ⟨_,cell_of_block (i:=2) h1.here rfl,?_⟩
 refine (mark_spec _ w1).mono ?_
 rintro v w' ⟨rfl,rfl⟩
 exact ⟨rfl,h1.ext⟩
theorem view4_spec (p:Prof) (w:World):CallsV C.P 191 #[p.val] w fun v w' => v = .int .i64 (attrZ 4 p) ∧ Ext w w':=by
 refine callsV_of C_ok (args:=[_]) (plans:=[]) Tryz.func191 rfl Tryz.ntmps191 (by kernel_rfl) (Nat.le_of_ble_eq_true rfl) ?_
 intro g w1 h1
 refine ⟨_,cell_of_block (i:=3) h1.here rfl,?_⟩
 refine (mark_spec _ w1).mono ?_
 rintro v w' ⟨rfl,rfl⟩
 exact ⟨rfl,h1.ext⟩
theorem view5_spec (p:Prof) (w:World):CallsV C.P 192 #[p.val] w fun v w' => v = .int .i64 (attrZ 5 p) ∧ Ext w w':=by
 refine callsV_of C_ok (args:=[_]) (plans:=[]) Tryz.func192 rfl Tryz.ntmps192 (by kernel_rfl) (Nat.le_of_ble_eq_true rfl) ?_
 intro g w1 h1
 refine ⟨_,cell_of_block (i:=4) h1.here rfl,?_⟩
 refine (mark_spec _ w1).mono ?_
 rintro v w' ⟨rfl,rfl⟩
 exact ⟨rfl,h1.ext⟩
theorem view6_spec (p:Prof) (w:World):CallsV C.P 193 #[p.val] w fun v w' => v = .int .i64 (attrZ 6 p) ∧ Ext w w':=by
 refine callsV_of C_ok (args:=[_]) (plans:=[]) Tryz.func193 rfl Tryz.ntmps193 (by kernel_rfl) (Nat.le_of_ble_eq_true rfl) ?_
 intro g w1 h1
 refine ⟨_,cell_of_block (i:=5) h1.here rfl,?_⟩
 exact ⟨rfl,h1.ext⟩
theorem view7_spec (p:Prof) (w:World):CallsV C.P 194 #[p.val] w fun v w' => v = .int .i64 (attrZ 7 p) ∧ Ext w w':=by
 refine callsV_of C_ok (args:=[_]) (plans:=[]) Tryz.func194 rfl Tryz.ntmps194 (by kernel_rfl) (Nat.le_of_ble_eq_true rfl) ?_
 intro g w1 h1
 refine ⟨_,cell_of_block (i:=6) h1.here rfl,?_⟩
 exact ⟨rfl,h1.ext⟩
set_option maxRecDepth 100000 in
set_option maxHeartbeats 4000000 in
theorem value_spec (a:Int) (ha:0 <= a ∧ a <= 7) (p:Prof) (w:World):CallsV C.P 124 #[.int .u8 a,p.val] w fun v w' => v = .int .i64 (attrZ a p) ∧ Ext w w':=by
 have hc:a = 0 ∨ a = 1 ∨ a = 2 ∨ a = 3 ∨ a = 4 ∨ a = 5 ∨ a = 6 ∨ a = 7:=by omega
 rcases hc with rfl | rfl | rfl | rfl | rfl | rfl | rfl | rfl
 ·refine callsV_of C_ok (args:=[_,_]) (plans:=plans124) Tryz.func124 rfl Tryz.ntmps124 (by kernel_rfl) (Nat.le_of_ble_eq_true rfl) ?_
  intro g3 w1 h1
  have M1:Mem w w1 [(g3,.cells p.cells.toArray 38 (0,0))]:=(Mem.start w).alloc h1
  intro g5 w2 h2
  have M2:=M1.alloc h2
  refine ⟨rfl,_,_,M2.get 0 rfl,Nat.le_of_ble_eq_true rfl,rfl,?_⟩
  intro w3 h3
  have M3:=M2.put 0 rfl h3
  refine ⟨0,rfl,by omega,?_⟩
  refine ⟨_,M3.cell 0 (i:=0) rfl rfl,?_⟩
  refine ⟨p.cells,rfl,M3.rd 1 rfl,?_⟩
  refine (view0_spec p w3).mono ?_
  rintro v w4 ⟨rfl,e4⟩
  exact ⟨rfl,M3.ext.trans e4⟩
 ·refine callsV_of C_ok (args:=[_,_]) (plans:=plans124) Tryz.func124 rfl Tryz.ntmps124 (by kernel_rfl) (Nat.le_of_ble_eq_true rfl) ?_
  intro g3 w1 h1
  have M1:Mem w w1 [(g3,.cells p.cells.toArray 38 (0,0))]:=(Mem.start w).alloc h1
  intro g5 w2 h2
  have M2:=M1.alloc h2
  refine ⟨rfl,_,_,M2.get 0 rfl,Nat.le_of_ble_eq_true rfl,rfl,?_⟩
  intro w3 h3
  have M3:=M2.put 0 rfl h3
  refine ⟨1,rfl,by omega,?_⟩
  refine ⟨_,M3.cell 0 (i:=1) rfl rfl,?_⟩
  refine ⟨p.cells,rfl,M3.rd 1 rfl,?_⟩
  refine (view1_spec p w3).mono ?_
  rintro v w4 ⟨rfl,e4⟩
  exact ⟨rfl,M3.ext.trans e4⟩
 ·refine callsV_of C_ok (args:=[_,_]) (plans:=plans124) Tryz.func124 rfl Tryz.ntmps124 (by kernel_rfl) (Nat.le_of_ble_eq_true rfl) ?_
  intro g3 w1 h1
  have M1:Mem w w1 [(g3,.cells p.cells.toArray 38 (0,0))]:=(Mem.start w).alloc h1
  intro g5 w2 h2
  have M2:=M1.alloc h2
  refine ⟨rfl,_,_,M2.get 0 rfl,Nat.le_of_ble_eq_true rfl,rfl,?_⟩
  intro w3 h3
  have M3:=M2.put 0 rfl h3
  refine ⟨2,rfl,by omega,?_⟩
  refine ⟨_,M3.cell 0 (i:=2) rfl rfl,?_⟩
  refine ⟨p.cells,rfl,M3.rd 1 rfl,?_⟩
  refine (view2_spec p w3).mono ?_
  rintro v w4 ⟨rfl,e4⟩
  exact ⟨rfl,M3.ext.trans e4⟩
 ·refine callsV_of C_ok (args:=[_,_]) (plans:=plans124) Tryz.func124 rfl Tryz.ntmps124 (by kernel_rfl) (Nat.le_of_ble_eq_true rfl) ?_
  intro g3 w1 h1
  have M1:Mem w w1 [(g3,.cells p.cells.toArray 38 (0,0))]:=(Mem.start w).alloc h1
  intro g5 w2 h2
  have M2:=M1.alloc h2
  refine ⟨rfl,_,_,M2.get 0 rfl,Nat.le_of_ble_eq_true rfl,rfl,?_⟩
  intro w3 h3
  have M3:=M2.put 0 rfl h3
  refine ⟨3,rfl,by omega,?_⟩
  refine ⟨_,M3.cell 0 (i:=3) rfl rfl,?_⟩
  refine ⟨p.cells,rfl,M3.rd 1 rfl,?_⟩
  refine (view3_spec p w3).mono ?_
  rintro v w4 ⟨rfl,e4⟩
  exact ⟨rfl,M3.ext.trans e4⟩
 ·refine callsV_of C_ok (args:=[_,_]) (plans:=plans124) Tryz.func124 rfl Tryz.ntmps124 (by kernel_rfl) (Nat.le_of_ble_eq_true rfl) ?_
  intro g3 w1 h1
  have M1:Mem w w1 [(g3,.cells p.cells.toArray 38 (0,0))]:=(Mem.start w).alloc h1
  intro g5 w2 h2
  have M2:=M1.alloc h2
  refine ⟨rfl,_,_,M2.get 0 rfl,Nat.le_of_ble_eq_true rfl,rfl,?_⟩
  intro w3 h3
  have M3:=M2.put 0 rfl h3
  refine ⟨4,rfl,by omega,?_⟩
  refine ⟨_,M3.cell 0 (i:=4) rfl rfl,?_⟩
  refine ⟨p.cells,rfl,M3.rd 1 rfl,?_⟩
  refine (view4_spec p w3).mono ?_
  rintro v w4 ⟨rfl,e4⟩
  exact ⟨rfl,M3.ext.trans e4⟩
 ·refine callsV_of C_ok (args:=[_,_]) (plans:=plans124) Tryz.func124 rfl Tryz.ntmps124 (by kernel_rfl) (Nat.le_of_ble_eq_true rfl) ?_
  intro g3 w1 h1
  have M1:Mem w w1 [(g3,.cells p.cells.toArray 38 (0,0))]:=(Mem.start w).alloc h1
  intro g5 w2 h2
  have M2:=M1.alloc h2
  refine ⟨rfl,_,_,M2.get 0 rfl,Nat.le_of_ble_eq_true rfl,rfl,?_⟩
  intro w3 h3
  have M3:=M2.put 0 rfl h3
  refine ⟨5,rfl,by omega,?_⟩
  refine ⟨_,M3.cell 0 (i:=5) rfl rfl,?_⟩
  refine ⟨p.cells,rfl,M3.rd 1 rfl,?_⟩
  refine (view5_spec p w3).mono ?_
  rintro v w4 ⟨rfl,e4⟩
  exact ⟨rfl,M3.ext.trans e4⟩
 ·refine callsV_of C_ok (args:=[_,_]) (plans:=plans124) Tryz.func124 rfl Tryz.ntmps124 (by kernel_rfl) (Nat.le_of_ble_eq_true rfl) ?_
  intro g3 w1 h1
  have M1:Mem w w1 [(g3,.cells p.cells.toArray 38 (0,0))]:=(Mem.start w).alloc h1
  intro g5 w2 h2
  have M2:=M1.alloc h2
  refine ⟨rfl,_,_,M2.get 0 rfl,Nat.le_of_ble_eq_true rfl,rfl,?_⟩
  intro w3 h3
  have M3:=M2.put 0 rfl h3
  refine ⟨6,rfl,by omega,?_⟩
  refine ⟨_,M3.cell 0 (i:=6) rfl rfl,?_⟩
  refine ⟨p.cells,rfl,M3.rd 1 rfl,?_⟩
  refine (view6_spec p w3).mono ?_
  rintro v w4 ⟨rfl,e4⟩
  exact ⟨rfl,M3.ext.trans e4⟩
 ·refine callsV_of C_ok (args:=[_,_]) (plans:=plans124) Tryz.func124 rfl Tryz.ntmps124 (by kernel_rfl) (Nat.le_of_ble_eq_true rfl) ?_
  intro g3 w1 h1
  have M1:Mem w w1 [(g3,.cells p.cells.toArray 38 (0,0))]:=(Mem.start w).alloc h1
  intro g5 w2 h2
  have M2:=M1.alloc h2
  refine ⟨rfl,_,_,M2.get 0 rfl,Nat.le_of_ble_eq_true rfl,rfl,?_⟩
  intro w3 h3
  have M3:=M2.put 0 rfl h3
  refine ⟨7,rfl,by omega,?_⟩
  refine ⟨_,M3.cell 0 (i:=7) rfl rfl,?_⟩
  refine ⟨p.cells,rfl,M3.rd 1 rfl,?_⟩
  refine (view7_spec p w3).mono ?_
  rintro v w4 ⟨rfl,e4⟩
  exact ⟨rfl,M3.ext.trans e4⟩
def Prof.Ok (p:Prof):Prop:=((1 <= p.cls ∧ p.cls <= 5) ∧ (0 <= p.visit ∧ p.visit <= 2)) ∧ (0 <= p.cred ∧ p.cred <= 100001) ∧ (0 <= p.letter ∧ p.letter <= 200)
instance instProfOk (p:Prof):Decidable p.Ok:=by unfold Prof.Ok; infer_instance
def profE (p:Prof):Int:=if p.Ok then 0 else 1
theorem profE_no {p:Prof} (h:¬ p.Ok):(1:Int) = profE p:=(if_neg h).symm
theorem CheckProfile_spec (p:Prof) (w:World):CallsV C.P 113 #[p.val] w fun v w' => v = .int .i64 (profE p) ∧ Ext w w':=by
 refine callsV_of C_ok (args:=[_]) (plans:=[]) Tryz.func113 rfl Tryz.ntmps113 (by kernel_rfl) (Nat.le_of_ble_eq_true rfl) ?_
 intro g w1 h1
 refine ⟨_,cell_of_block (i:=0) h1.here rfl,?_⟩
 refine brE_dec (fun c0 => ?_) (fun c0 => ?_)
 ·have c0:p.cls < 1:=c0
  exact ⟨congrArg (Value.int .i64) (profE_no fun h => by unfold Prof.Ok at h; omega),h1.ext⟩
 have c0:¬ p.cls < 1:=c0
 refine ⟨_,cell_of_block (i:=0) h1.here rfl,?_⟩
 refine brE_dec (fun c1 => ?_) (fun c1 => ?_)
 ·have c1:p.cls > 5:=c1
  exact ⟨congrArg (Value.int .i64) (profE_no fun h => by unfold Prof.Ok at h; omega),h1.ext⟩
 have c1:¬ p.cls > 5:=c1
 refine ⟨_,cell_of_block (i:=1) h1.here rfl,?_⟩
 refine brE_dec (fun c2 => ?_) (fun c2 => ?_)
 ·have c2:p.visit < 0:=c2
  exact ⟨congrArg (Value.int .i64) (profE_no fun h => by unfold Prof.Ok at h; omega),h1.ext⟩
 have c2:¬ p.visit < 0:=c2
 refine ⟨_,cell_of_block (i:=1) h1.here rfl,?_⟩
 refine brE_dec (fun c3 => ?_) (fun c3 => ?_)
 ·have c3:p.visit > 2:=c3
  exact ⟨congrArg (Value.int .i64) (profE_no fun h => by unfold Prof.Ok at h; omega),h1.ext⟩
 have c3:¬ p.visit > 2:=c3
 refine ⟨_,cell_of_block (i:=5) h1.here rfl,?_⟩
 refine brE_dec (fun c4 => ?_) (fun c4 => ?_)
 ·have c4:p.cred < 0:=c4
  exact ⟨congrArg (Value.int .i64) (profE_no fun h => by unfold Prof.Ok at h; omega),h1.ext⟩
 have c4:¬ p.cred < 0:=c4
 refine ⟨_,cell_of_block (i:=5) h1.here rfl,?_⟩
 refine brE_dec (fun c5 => ?_) (fun c5 => ?_)
 ·have c5:p.cred > 100001:=c5
  exact ⟨congrArg (Value.int .i64) (profE_no fun h => by unfold Prof.Ok at h; omega),h1.ext⟩
 have c5:¬ p.cred > 100001:=c5
 refine ⟨_,cell_of_block (i:=6) h1.here rfl,?_⟩
 refine brE_dec (fun c6 => ?_) (fun c6 => ?_)
 ·have c6:p.letter < 0:=c6
  exact ⟨congrArg (Value.int .i64) (profE_no fun h => by unfold Prof.Ok at h; omega),h1.ext⟩
 have c6:¬ p.letter < 0:=c6
 refine ⟨_,cell_of_block (i:=6) h1.here rfl,?_⟩
 refine brE_dec (fun c7 => ?_) (fun c7 => ?_)
 ·have c7:p.letter > 200:=c7
  exact ⟨congrArg (Value.int .i64) (profE_no fun h => by unfold Prof.Ok at h; omega),h1.ext⟩
 have c7:¬ p.letter > 200:=c7
 exact ⟨congrArg (Value.int .i64) (Eq.symm (if_pos (by unfold Prof.Ok; omega))),h1.ext⟩
theorem refWithin_spec (n a b:Int) (w:World):CallsV C.P 106 #[.int .i64 n,.int .i64 a,.int .i64 b] w fun v w' => v = .bool (decide (a <= n ∧ n <= b)) ∧ w' = w:=by
 refine callsV_of C_ok (args:=[_,_,_]) (plans:=[]) Tryz.func106 rfl Tryz.ntmps106 (by kernel_rfl) (Nat.le_of_ble_eq_true rfl) ?_
 refine brE_dec (fun h1 => ?_) (fun h1 => ?_)
 ·have h1:n >= a:=h1
  exact ⟨congrArg Value.bool (decide_eq_decide.2 ⟨fun h => ⟨h1,h⟩,fun h => h.2⟩),rfl⟩
 ·have h1:¬ n >= a:=h1
  exact ⟨congrArg Value.bool (Eq.symm (decide_eq_false fun h => h1 h.1)),rfl⟩
theorem refValid_spec (p:Prof) (w:World):CallsV C.P 179 #[p.val] w fun v w' => v = .bool (decide p.Ok) ∧ Ext w w':=by
 refine callsV_of C_ok (args:=[_]) (plans:=[]) Tryz.func179 rfl Tryz.ntmps179 (by kernel_rfl) (Nat.le_of_ble_eq_true rfl) ?_
 intro g w1 h1
 have no:¬ p.Ok -> Value.bool false = .bool (decide p.Ok):=fun h => congrArg Value.bool (decide_eq_false h).symm
 refine ⟨_,cell_of_block (i:=0) h1.here rfl,?_⟩
 refine (refWithin_spec _ _ _ _).mono ?_
 rintro v w' ⟨rfl,rfl⟩
 obtain ⟨b0,hb0⟩:∃ b,b = decide ((1:Int) <= p.cls ∧ p.cls <= 5):=⟨_,rfl⟩
 rw [<-hb0]
 refine ⟨_,cell_of_block (i:=1) h1.here rfl,?_⟩
 refine (refWithin_spec _ _ _ _).mono ?_
 rintro v w' ⟨rfl,rfl⟩
 obtain ⟨b1,hb1⟩:∃ b,b = decide ((0:Int) <= p.visit ∧ p.visit <= 2):=⟨_,rfl⟩
 rw [<-hb1]
 refine ⟨_,cell_of_block (i:=5) h1.here rfl,?_⟩
 refine (refWithin_spec _ _ _ _).mono ?_
 rintro v w' ⟨rfl,rfl⟩
 obtain ⟨b2,hb2⟩:∃ b,b = decide ((0:Int) <= p.cred ∧ p.cred <= 100001):=⟨_,rfl⟩
 rw [<-hb2]
 refine ⟨_,cell_of_block (i:=6) h1.here rfl,?_⟩
 refine (refWithin_spec _ _ _ _).mono ?_
 rintro v w' ⟨rfl,rfl⟩
 obtain ⟨b3,hb3⟩:∃ b,b = decide ((0:Int) <= p.letter ∧ p.letter <= 200):=⟨_,rfl⟩
 rw [<-hb3]
 refine brE_mk (fun c0 => ?_) (fun c0 => ?_)
 ·have c0:b0 = true:=c0
  have d0:=of_decide_eq_true (hb0.symm.trans c0)
  refine brE_mk (fun c1 => ?_) (fun c1 => ?_)
  ·have c1:b1 = true:=c1
   have d1:=of_decide_eq_true (hb1.symm.trans c1)
   refine brE_mk (fun c2 => ?_) (fun c2 => ?_)
   ·have c2:b2 = true:=c2
    have d2:=of_decide_eq_true (hb2.symm.trans c2)
    exact ⟨congrArg Value.bool (hb3.trans (decide_eq_decide.2 ⟨fun h => ⟨⟨d0,d1⟩,d2,h⟩,fun h => h.2.2⟩)),h1.ext⟩
   ·have c2:b2 = false:=c2
    exact ⟨no fun h => of_decide_eq_false (hb2.symm.trans c2) h.2.1,h1.ext⟩
  ·have c1:b1 = false:=c1
   exact ⟨no fun h => of_decide_eq_false (hb1.symm.trans c1) h.1.2,h1.ext⟩
 ·have c0:b0 = false:=c0
  exact ⟨no fun h => of_decide_eq_false (hb0.symm.trans c0) h.1.1,h1.ext⟩
set_option maxRecDepth 100000 in
theorem refAttr_spec (a:Int) (p:Prof) (w:World):CallsV C.P 274 #[.int .u8 a,p.val] w fun v w' => v = .int .i64 (attrZ a p) ∧ Ext w w':=by
 refine callsV_of C_ok (args:=[_,_]) (plans:=[]) Tryz.func274 rfl Tryz.ntmps274 (by kernel_rfl) (Nat.le_of_ble_eq_true rfl) ?_
 intro g w1 h1
 refine brE_dec (fun h1' => ?_) (fun h1' => ?_)
 ·have h1':a = 1:=h1'
  refine ⟨_,cell_of_block (i:=0) h1.here rfl,?_⟩
  exact ⟨by rw [h1']; rfl,h1.ext⟩
 have h1':¬ a = 1:=h1'
 refine brE_dec (fun h2 => ?_) (fun h2 => ?_)
 ·have h2:a = 2:=h2
  refine ⟨_,cell_of_block (i:=1) h1.here rfl,?_⟩
  exact ⟨by rw [h2]; rfl,h1.ext⟩
 have h2:¬ a = 2:=h2
 refine brE_dec (fun h6 => ?_) (fun h6 => ?_)
 ·have h6:a = 6:=h6
  refine ⟨_,cell_of_block (i:=5) h1.here rfl,?_⟩
  exact ⟨by rw [h6]; rfl,h1.ext⟩
 have h6:¬ a = 6:=h6
 refine brE_dec (fun h7 => ?_) (fun h7 => ?_)
 ·have h7:a = 7:=h7
  refine ⟨_,cell_of_block (i:=6) h1.here rfl,?_⟩
  exact ⟨by rw [h7]; rfl,h1.ext⟩
 have h7:¬ a = 7:=h7
 refine brE_dec (fun h3 => ?_) (fun h3 => ?_)
 ·have h3:a = 3:=h3
  refine ⟨_,cell_of_block (i:=2) h1.here rfl,?_⟩
  have e:attrZ a p = boolZ p.host:=by rw [h3]; rfl
  rw [e]
  refine brE_mk (fun b => ?_) (fun b => ?_)
  ·have b:p.host = true:=b
   exact ⟨by rw [b]; rfl,h1.ext⟩
  ·have b:p.host = false:=b
   exact ⟨by rw [b]; rfl,h1.ext⟩
 have h3:¬ a = 3:=h3
 refine brE_dec (fun h4 => ?_) (fun h4 => ?_)
 ·have h4:a = 4:=h4
  refine ⟨_,cell_of_block (i:=3) h1.here rfl,?_⟩
  have e:attrZ a p = boolZ p.dep:=by rw [h4]; rfl
  rw [e]
  refine brE_mk (fun b => ?_) (fun b => ?_)
  ·have b:p.dep = true:=b
   exact ⟨by rw [b]; rfl,h1.ext⟩
  ·have b:p.dep = false:=b
   exact ⟨by rw [b]; rfl,h1.ext⟩
 have h4:¬ a = 4:=h4
 refine brE_dec (fun h5 => ?_) (fun h5 => ?_)
 ·have h5:a = 5:=h5
  refine ⟨_,cell_of_block (i:=4) h1.here rfl,?_⟩
  have e:attrZ a p = boolZ p.mourn:=by rw [h5]; rfl
  rw [e]
  refine brE_mk (fun b => ?_) (fun b => ?_)
  ·have b:p.mourn = true:=b
   exact ⟨by rw [b]; rfl,h1.ext⟩
  ·have b:p.mourn = false:=b
   exact ⟨by rw [b]; rfl,h1.ext⟩
 have h5:¬ a = 5:=h5
 exact ⟨congrArg (Value.int .i64) (by unfold attrZ; rw [if_neg h1',if_neg h2,if_neg h3,if_neg h4,if_neg h5,if_neg h6,if_neg h7]),h1.ext⟩
theorem refMark_spec (a:Int) (w:World):CallsV C.P 175 #[.int .u8 a] w fun v w' => v = .bool (decide (3 <= a ∧ a <= 5)) ∧ w' = w:=by
 refine callsV_of C_ok (args:=[_]) (plans:=[]) Tryz.func175 rfl Tryz.ntmps175 (by kernel_rfl) (Nat.le_of_ble_eq_true rfl) ?_
 refine brE_dec (fun h => ?_) (fun h => ?_)
 ·have h:a >= 3:=h
  exact ⟨congrArg Value.bool (decide_eq_decide.2 ⟨fun k => ⟨h,k⟩,fun k => k.2⟩),rfl⟩
 ·have h:¬ a >= 3:=h
  exact ⟨congrArg Value.bool (Eq.symm (decide_eq_false fun k => h k.1)),rfl⟩
theorem refSmall_spec (a:Int) (w:World):CallsV C.P 176 #[.int .u8 a] w fun v w' => v = .bool (decide (a = 1 ∨ a = 2)) ∧ w' = w:=by
 refine callsV_of C_ok (args:=[_]) (plans:=[]) Tryz.func176 rfl Tryz.ntmps176 (by kernel_rfl) (Nat.le_of_ble_eq_true rfl) ?_
 refine brE_dec (fun h => ?_) (fun h => ?_)
 ·have h:a = 1:=h
  exact ⟨congrArg Value.bool (Eq.symm (decide_eq_true (.inl h))),rfl⟩
 ·have h:¬ a = 1:=h
  exact ⟨congrArg Value.bool (decide_eq_decide.2 ⟨fun k => .inr k,fun k => k.resolve_left h⟩),rfl⟩
theorem refOrd_spec (a:Int) (w:World):CallsV C.P 177 #[.int .u8 a] w fun v w' => v = .bool (decide (a = 6 ∨ a = 7)) ∧ w' = w:=by
 refine callsV_of C_ok (args:=[_]) (plans:=[]) Tryz.func177 rfl Tryz.ntmps177 (by kernel_rfl) (Nat.le_of_ble_eq_true rfl) ?_
 refine brE_dec (fun h => ?_) (fun h => ?_)
 ·have h:a = 6:=h
  exact ⟨congrArg Value.bool (Eq.symm (decide_eq_true (.inl h))),rfl⟩
 ·have h:¬ a = 6:=h
  exact ⟨congrArg Value.bool (decide_eq_decide.2 ⟨fun k => .inr k,fun k => k.resolve_left h⟩),rfl⟩
def numB (a n:Int):Bool:=if a = 1 then decide (1 <= n ∧ n <= 5) else if a = 2 then decide (0 <= n ∧ n <= 2) else decide (n = 1)
theorem refValue_spec (a n:Int) (w:World):CallsV C.P 178 #[.int .u8 a,.int .i64 n] w fun v w' => v = .bool (numB a n) ∧ w' = w:=by
 refine callsV_of C_ok (args:=[_,_]) (plans:=[]) Tryz.func178 rfl Tryz.ntmps178 (by kernel_rfl) (Nat.le_of_ble_eq_true rfl) ?_
 refine brE_dec (fun h1 => ?_) (fun h1 => ?_)
 ·have h1:a = 1:=h1
  refine (refWithin_spec _ _ _ w).mono ?_
  rintro v w' ⟨rfl,rfl⟩
  exact ⟨congrArg Value.bool (Eq.symm (if_pos h1)),rfl⟩
 have h1:¬ a = 1:=h1
 refine brE_dec (fun h2 => ?_) (fun h2 => ?_)
 ·have h2:a = 2:=h2
  refine (refWithin_spec _ _ _ w).mono ?_
  rintro v w' ⟨rfl,rfl⟩
  exact ⟨congrArg Value.bool (Eq.symm ((if_neg h1).trans (if_pos h2))),rfl⟩
 have h2:¬ a = 2:=h2
 exact ⟨congrArg Value.bool (Eq.symm ((if_neg h1).trans (if_neg h2))),rfl⟩
end Go.Proofs.YtdpdjcopkehdjaaGreat.Rk
