/- a part of the proof: steps, walks and plain laws that the law below stands on; no condition. -/
import Derived.Test.YtdpdjcopkehdjaaGreatRXa
import Derived.Test.YtdpdjcopkehdjaaGreatRXb
import Derived.Test.YtdpdjcopkehdjaaGreatRXc
import Derived.Test.YtdpdjcopkehdjaaGreatRXd
import Derived.Test.YtdpdjcopkehdjaaGreatRXe
import Derived.Test.YtdpdjcopkehdjaaGreatRXf
import Derived.Test.YtdpdjcopkehdjaaGreatRXg
import Derived.Test.YtdpdjcopkehdjaaGreatRXh
import Derived.Test.YtdpdjcopkehdjaaGreatRXi
import Derived.Test.YtdpdjcopkehdjaaGreatRXj
import Derived.Test.YtdpdjcopkehdjaaGreatRXk
import Derived.Test.YtdpdjcopkehdjaaGreatRXl
import Derived.Test.YtdpdjcopkehdjaaGreatRXm
import Derived.Test.YtdpdjcopkehdjaaGreatRXn
import Derived.Test.YtdpdjcopkehdjaaGreatRXo
import Derived.Shelf.Strings.OnBuilder
import Derived.Shelf.Strconv.AtoiAll
import Derived.Shelf.Strconv.Itoa3
import Derived.Shelf.Strings.Search2
import Derived.KernelRfl
import Derived.Test.YtdpdjcopkehdjaaGreatProg
import Derived.WideLaws
import Derived.Maps.RangeRun
set_option linter.unusedVariables false
set_option linter.unusedSimpArgs false
set_option linter.unnecessarySimpa false
set_option linter.unusedSectionVars false
namespace Go.Proofs.YtdpdjcopkehdjaaGreat.Rk
open Go.Eng Go.RowKit
set_option maxRecDepth 100000 in
set_option maxHeartbeats 4000000 in
theorem refProfile_spec {w:World} {A:Option Addr} {l:List Fact} {c:Nat} (hf:HF w A l c) (hl:l.length <= 2 ^ 20) (s:Scn) {g:Int × Int} (hg:In64 g.1) :
  CallsV C.P 44 #[.slice A l.length c,s.val,prVal g] w fun v w' => v = (profOf l s g).val ∧ Ext w w':=by
 obtain ⟨a,ha⟩:∃ a,a = atL s.known s.day l:=⟨_,rfl⟩
 have hfin:profOf l s g = profAt a s g:=by rw [ha]; rfl
 rw [hfin]
 have pP:=fun w' (e:Ext w w') => refPrincipal_spec (hf.ext e) hl s.known s.day g.1
 have pM:=fun w' (e:Ext w w') => refMourns_spec (hf.ext e) hl s.known s.day g.2
 have pC:=fun w' (e:Ext w w') x => refClass_spec (hf.ext e) hl s.known s.day s.host x g.2
 have pS:=fun w' (e:Ext w w') x => refSpouse_spec (hf.ext e) hl s.known s.day x
 have pV:=fun w' (e:Ext w w') x => refVisit_spec (hf.ext e) hl s.known s.day x s.host
 have pK:=fun w' (e:Ext w w') x => refCredentials_spec (hf.ext e) hl s.known s.day x s.host
 have pL:=fun w' (e:Ext w w') => refLetter_spec (hf.ext e) hl s.known s.day s.lang s.lot g.2
 have pA:=fun w' (e:Ext w w') => refAlphabet_spec (hf.ext e) hl s.known s.day s.lang s.lot
 rw [<-ha] at pP pM pC pS pV pK pL pA
 refine callsV_ofS (args:=[_,_,_]) Tryz.func44 rfl Tryz.ntmps44 C_ok (Nat.le_of_ble_eq_true rfl) ?_
 refine Snd.go C_ok [] (by kernel_rfl) ?_
 intro g4 w1 h1
 have M:Mem w w1 [(g4,.cells s.cells.toArray 24 (0,0))]:=(Mem.start w).alloc h1
 intro g5 w2 h2
 have M:Mem w w2 [(g5,.cells (guestCells g).toArray 44 (0,0)),(g4,.cells s.cells.toArray 24 (0,0))]:=M.alloc h2
 intro g6 w3 h3
 have M:Mem w w3 [(g6,.cells profZ.cells.toArray 38 (0,0)),(g5,.cells (guestCells g).toArray 44 (0,0)),(g4,.cells s.cells.toArray 24 (0,0))]:=M.alloc h3
 refine ⟨Snd.go C_ok [] (by kernel_rfl) ?_⟩
 intro g7 w4 h4
 have M:Mem w w4 [(g7,.cells (Prof.mk 0 0 false false false 0 0).cells.toArray 38 (0,0)),(g6,.cells profZ.cells.toArray 38 (0,0)),(g5,.cells (guestCells g).toArray 44 (0,0)),(g4,.cells s.cells.toArray 24 (0,0))]:=M.alloc h4
 refine ⟨Snd.go C_ok [] (by kernel_rfl) ?_⟩
 refine ⟨_,M.cell 2 rfl rfl,?_⟩
 refine ⟨Snd.go C_ok [] (by kernel_rfl) ?_⟩
 refine ⟨_,M.cell 3 rfl rfl,?_⟩
 refine ⟨_,M.cell 3 rfl rfl,?_⟩
 refine ⟨_,M.cell 2 rfl rfl,?_⟩
 obtain ⟨who,hwho⟩:∃ who,who = whoOf a g:=⟨_,rfl⟩
 obtain ⟨q,hq⟩:∃ q,q = princL a g.1:=⟨_,rfl⟩
 have hw2:who = if q.2 = true then q.1 else g.1:=by rw [hwho,hq]; rfl
 have hpf:profAt a s g = ⟨clsOf a s.host who g.2,visitL a who s.host,decide (g.2 = s.host),q.2,a.any (mournB g.2),credL a who s.host,letOf a s.lang s.lot g.2⟩:=by rw [hwho,hq]; rfl
 rw [hpf]
 have X:=pP _ M.ext
 rw [<-hq] at X
 refine X.mono ?_
 rintro v w5 ⟨rfl,e5⟩
 have M:=M.grow e5
 refine ⟨Snd.join C_ok [] (fun _:Unit => [(0,.slice A l.length c),(4,.pointer (some ⟨g4,0,none⟩)),(5,.pointer (some ⟨g5,0,none⟩)),(6,.pointer (some ⟨g6,0,none⟩)),(7,.pointer (some ⟨g7,0,none⟩)),(8,.int .i64 who)]) (fun _ w' => Mem w w' [(g7,.cells (Prof.mk 0 0 false q.2 false 0 0).cells.toArray 38 (0,0)),(g6,.cells profZ.cells.toArray 38 (0,0)),(g5,.cells (guestCells g).toArray 44 (0,0)),(g4,.cells s.cells.toArray 24 (0,0))]) (by kernel_rfl) ?_ ?_⟩
 ·refine brE_mk (fun b => ?_) (fun b => ?_)
  ·have b:q.2 = true:=b
   have hx:q.1 = who:=by rw [hw2,if_pos b]
   refine ⟨rfl,_,_,M.get 0 rfl,Nat.le_of_ble_eq_true rfl,rfl,?_⟩
   intro w6 h6
   refine ⟨(),⟨rfl,rfl,rfl,rfl,rfl,congrArg (fun x => some (Value.int IntKind.i64 x)) hx,trivial⟩,?_⟩
   rw [b]
   exact M.put 0 rfl h6
  ·have b:q.2 = false:=b
   have hx:g.1 = who:=by rw [hw2,if_neg (by rw [b]; decide)]
   refine ⟨(),⟨rfl,rfl,rfl,rfl,rfl,congrArg (fun x => some (Value.int IntKind.i64 x)) hx,trivial⟩,?_⟩
   rw [b]
   exact M
 rintro _ w7 M
 refine Snd.go C_ok [] (by kernel_rfl) ?_
 refine ⟨_,M.cell 3 rfl rfl,?_⟩
 refine ⟨_,M.cell 3 rfl rfl,?_⟩
 refine ⟨_,M.cell 3 rfl rfl,?_⟩
 refine ⟨_,M.cell 2 rfl rfl,?_⟩
 refine (pC _ M.ext who).mono ?_
 rintro v w8 ⟨rfl,e8⟩
 have M:=M.grow e8
 refine ⟨rfl,_,_,M.get 0 rfl,Nat.le_of_ble_eq_true rfl,rfl,?_⟩
 intro w9 h9
 obtain ⟨c0,hc0⟩:∃ c0,c0 = (classL a s.host who g.2).1:=⟨_,rfl⟩
 have M:Mem w w9 [(g7,.cells (Prof.mk c0 0 false q.2 false 0 0).cells.toArray 38 (0,0)),(g6,.cells profZ.cells.toArray 38 (0,0)),(g5,.cells (guestCells g).toArray 44 (0,0)),(g4,.cells s.cells.toArray 24 (0,0))]:=by rw [hc0]; exact M.put 0 rfl h9
 obtain ⟨sp,hsp⟩:∃ sp,sp = spouseL a who:=⟨_,rfl⟩
 obtain ⟨c1,hc1⟩:∃ c1,c1 = clsOf a s.host who g.2:=⟨_,rfl⟩
 have hc2:c1 = if c0 = 5 ∧ sp.2 = true then (classL a s.host sp.1 g.2).1 else c0:=by rw [hc1,hc0,hsp]; rfl
 rw [<-hc1]
 refine ⟨Snd.go C_ok [] (by kernel_rfl) ?_⟩
 refine ⟨_,M.cell 3 rfl rfl,?_⟩
 refine ⟨_,M.cell 3 rfl rfl,?_⟩
 have X:=pS _ M.ext who
 rw [<-hsp] at X
 refine X.mono ?_
 rintro v w10 ⟨rfl,e10⟩
 have M:=M.grow e10
 refine ⟨Snd.join C_ok [] (fun _:Unit => [(0,.slice A l.length c),(4,.pointer (some ⟨g4,0,none⟩)),(5,.pointer (some ⟨g5,0,none⟩)),(6,.pointer (some ⟨g6,0,none⟩)),(7,.pointer (some ⟨g7,0,none⟩)),(8,.int .i64 who)]) (fun _ w' => Mem w w' [(g7,.cells (Prof.mk c1 0 false q.2 false 0 0).cells.toArray 38 (0,0)),(g6,.cells profZ.cells.toArray 38 (0,0)),(g5,.cells (guestCells g).toArray 44 (0,0)),(g4,.cells s.cells.toArray 24 (0,0))]) (by kernel_rfl) ?_ ?_⟩
 ·refine ⟨_,M.cell 0 rfl rfl,?_⟩
  refine brE_dec (fun b1 => ?_) (fun b1 => ?_)
  ·have b1:c0 = 5:=b1
   refine brE_mk (fun b2 => ?_) (fun b2 => ?_)
   ·have b2:sp.2 = true:=b2
    refine ⟨_,M.cell 3 rfl rfl,?_⟩
    refine ⟨_,M.cell 3 rfl rfl,?_⟩
    refine ⟨_,M.cell 3 rfl rfl,?_⟩
    refine ⟨_,M.cell 2 rfl rfl,?_⟩
    refine (pC _ M.ext sp.1).mono ?_
    rintro v w11 ⟨rfl,e11⟩
    have M:=M.grow e11
    refine ⟨rfl,_,_,M.get 0 rfl,Nat.le_of_ble_eq_true rfl,rfl,?_⟩
    intro w12 h12
    refine ⟨(),⟨rfl,rfl,rfl,rfl,rfl,rfl,trivial⟩,?_⟩
    rw [hc2,if_pos ⟨b1,b2⟩]
    exact M.put 0 rfl h12
   ·have b2:sp.2 = false:=b2
    refine ⟨(),⟨rfl,rfl,rfl,rfl,rfl,rfl,trivial⟩,?_⟩
    rw [hc2,if_neg (fun e => by rw [b2] at e; cases e.2)]
    exact M
  ·have b1:¬ c0 = 5:=b1
   refine ⟨(),⟨rfl,rfl,rfl,rfl,rfl,rfl,trivial⟩,?_⟩
   rw [hc2,if_neg (fun e => b1 e.1)]
   exact M
 rintro _ w13 M
 obtain ⟨vi,hvi⟩:∃ vi,vi = visitL a who s.host:=⟨_,rfl⟩
 obtain ⟨cr,hcr⟩:∃ cr,cr = credL a who s.host:=⟨_,rfl⟩
 obtain ⟨mo,hmo⟩:∃ mo,mo = a.any (mournB g.2):=⟨_,rfl⟩
 obtain ⟨lt,hlt⟩:∃ lt,lt = letterL a s.lang s.lot g.2:=⟨_,rfl⟩
 obtain ⟨le,hle⟩:∃ le,le = letOf a s.lang s.lot g.2:=⟨_,rfl⟩
 have hl2:le = if lt.2 = true then lt.1 else (((alphaL a s.lang s.lot).length:Nat):Int):=by rw [hle,hlt]; rfl
 rw [<-hvi,<-hcr,<-hmo,<-hle]
 refine Snd.go C_ok [] (by kernel_rfl) ?_
 refine ⟨_,M.cell 3 rfl rfl,?_⟩
 refine ⟨_,M.cell 3 rfl rfl,?_⟩
 refine ⟨_,M.cell 3 rfl rfl,?_⟩
 have X:=pV _ M.ext who
 rw [<-hvi] at X
 refine X.mono ?_
 rintro v w14 ⟨rfl,e14⟩
 have M:=M.grow e14
 refine ⟨rfl,_,_,M.get 0 rfl,Nat.le_of_ble_eq_true rfl,rfl,?_⟩
 intro w15 h15
 have M:Mem w w15 [(g7,.cells (Prof.mk c1 vi false q.2 false 0 0).cells.toArray 38 (0,0)),(g6,.cells profZ.cells.toArray 38 (0,0)),(g5,.cells (guestCells g).toArray 44 (0,0)),(g4,.cells s.cells.toArray 24 (0,0))]:=M.put 0 rfl h15
 refine ⟨Snd.go C_ok [] (by kernel_rfl) ?_⟩
 refine ⟨_,M.cell 3 rfl rfl,?_⟩
 refine ⟨_,M.cell 3 rfl rfl,?_⟩
 refine ⟨_,M.cell 3 rfl rfl,?_⟩
 have X:=pK _ M.ext who
 rw [<-hcr] at X
 refine X.mono ?_
 rintro v w16 ⟨rfl,e16⟩
 have M:=M.grow e16
 refine ⟨rfl,_,_,M.get 0 rfl,Nat.le_of_ble_eq_true rfl,rfl,?_⟩
 intro w17 h17
 have M:Mem w w17 [(g7,.cells (Prof.mk c1 vi false q.2 false cr 0).cells.toArray 38 (0,0)),(g6,.cells profZ.cells.toArray 38 (0,0)),(g5,.cells (guestCells g).toArray 44 (0,0)),(g4,.cells s.cells.toArray 24 (0,0))]:=M.put 0 rfl h17
 refine ⟨Snd.go C_ok [] (by kernel_rfl) ?_⟩
 refine ⟨_,M.cell 2 rfl rfl,?_⟩
 refine ⟨_,M.cell 3 rfl rfl,?_⟩
 refine ⟨rfl,_,_,M.get 0 rfl,Nat.le_of_ble_eq_true rfl,rfl,?_⟩
 intro w18 h18
 have M:Mem w w18 [(g7,.cells (Prof.mk c1 vi (decide (g.2 = s.host)) q.2 false cr 0).cells.toArray 38 (0,0)),(g6,.cells profZ.cells.toArray 38 (0,0)),(g5,.cells (guestCells g).toArray 44 (0,0)),(g4,.cells s.cells.toArray 24 (0,0))]:=M.put 0 rfl h18
 refine ⟨Snd.go C_ok [] (by kernel_rfl) ?_⟩
 refine ⟨_,M.cell 3 rfl rfl,?_⟩
 refine ⟨_,M.cell 3 rfl rfl,?_⟩
 refine ⟨_,M.cell 2 rfl rfl,?_⟩
 have X:=pM _ M.ext
 rw [<-hmo] at X
 refine X.mono ?_
 rintro v w19 ⟨rfl,e19⟩
 have M:=M.grow e19
 refine ⟨rfl,_,_,M.get 0 rfl,Nat.le_of_ble_eq_true rfl,rfl,?_⟩
 intro w20 h20
 have M:Mem w w20 [(g7,.cells (Prof.mk c1 vi (decide (g.2 = s.host)) q.2 mo cr 0).cells.toArray 38 (0,0)),(g6,.cells profZ.cells.toArray 38 (0,0)),(g5,.cells (guestCells g).toArray 44 (0,0)),(g4,.cells s.cells.toArray 24 (0,0))]:=M.put 0 rfl h20
 refine ⟨Snd.go C_ok [] (by kernel_rfl) ?_⟩
 refine ⟨_,M.cell 3 rfl rfl,?_⟩
 refine ⟨_,M.cell 3 rfl rfl,?_⟩
 refine ⟨_,M.cell 3 rfl rfl,?_⟩
 refine ⟨_,M.cell 3 rfl rfl,?_⟩
 refine ⟨_,M.cell 2 rfl rfl,?_⟩
 have X:=pL _ M.ext
 rw [<-hlt] at X
 refine X.mono ?_
 rintro v w21 ⟨rfl,e21⟩
 have M:=M.grow e21
 refine ⟨Snd.join C_ok [] (fun _:Unit => [(6,.pointer (some ⟨g6,0,none⟩)),(7,.pointer (some ⟨g7,0,none⟩)),(13,.int .i64 le)]) (fun _ w' => Mem w w' [(g7,.cells (Prof.mk c1 vi (decide (g.2 = s.host)) q.2 mo cr 0).cells.toArray 38 (0,0)),(g6,.cells profZ.cells.toArray 38 (0,0)),(g5,.cells (guestCells g).toArray 44 (0,0)),(g4,.cells s.cells.toArray 24 (0,0))]) (by kernel_rfl) ?_ ?_⟩
 ·refine brE_mk (fun b => ?_) (fun b => ?_)
  ·have b:lt.2 = false:=by simpa using b
   refine ⟨_,M.cell 3 rfl rfl,?_⟩
   refine ⟨_,M.cell 3 rfl rfl,?_⟩
   refine ⟨_,M.cell 3 rfl rfl,?_⟩
   refine ⟨_,M.cell 3 rfl rfl,?_⟩
   refine (pA _ M.ext).mono ?_
   rintro v w22 ⟨hv,e22⟩
   obtain ⟨Aa,ca,rfl,_,_⟩:=reads_of_owns hv
   have M:=M.grow e22
   have hx:(((alphaL a s.lang s.lot).length:Nat):Int) = le:=by rw [hl2,if_neg (by rw [b]; decide)]
   exact ⟨(),⟨rfl,rfl,congrArg (fun x => some (Value.int IntKind.i64 x)) hx,trivial⟩,M⟩
  ·have b:lt.2 = true:=by simpa using b
   have hx:lt.1 = le:=by rw [hl2,if_pos b]
   exact ⟨(),⟨rfl,rfl,congrArg (fun x => some (Value.int IntKind.i64 x)) hx,trivial⟩,M⟩
 rintro _ w23 M
 refine Snd.fin C_ok (plans:=[]) (by kernel_rfl) ?_
 refine ⟨rfl,_,_,M.get 0 rfl,Nat.le_of_ble_eq_true rfl,rfl,?_⟩
 intro w24 h24
 have M:Mem w w24 [(g7,.cells (Prof.mk c1 vi (decide (g.2 = s.host)) q.2 mo cr le).cells.toArray 38 (0,0)),(g6,.cells profZ.cells.toArray 38 (0,0)),(g5,.cells (guestCells g).toArray 44 (0,0)),(g4,.cells s.cells.toArray 24 (0,0))]:=M.put 0 rfl h24
 refine ⟨(Prof.mk c1 vi (decide (g.2 = s.host)) q.2 mo cr le).cells,rfl,M.rd 0 rfl,?_⟩
 refine ⟨rfl,_,_,M.get 1 rfl,Nat.le_of_ble_eq_true rfl,rfl,?_⟩
 intro w25 h25
 have M:=M.put 1 rfl h25
 refine ⟨(Prof.mk c1 vi (decide (g.2 = s.host)) q.2 mo cr le).cells,rfl,M.rd 1 rfl,?_⟩
 exact ⟨rfl,M.ext⟩
end Go.Proofs.YtdpdjcopkehdjaaGreat.Rk
namespace Go.Proofs.YtdpdjcopkehdjaaGreat
open Go.Eng Go.RowKit
def plainF (x:Fact):Fact:=⟨x.id,x.known,x.kind,0,0,0,x.since,x.til,⟨#[]⟩⟩
set_option maxRecDepth 100000 in
theorem plain_spec (x:Fact) (w:World):CallsV C.P 242 #[x.val] w fun v w' => v = (plainF x).val ∧ Ext w w':=by
 refine callsV_of C_ok (args:=[_]) (plans:=[]) Tryz.func242 rfl Tryz.ntmps242 (by kernel_rfl) (Nat.le_of_ble_eq_true rfl) ?_
 intro g1 w1 h1
 have M1:Mem w w1 [(g1,.cells x.cells.toArray 55 (0,0))]:=(Mem.start w).alloc h1
 intro g2 w2 h2
 have M2:=M1.alloc h2
 refine ⟨_,M2.cell 1 rfl rfl,?_⟩
 refine ⟨_,M2.cell 1 rfl rfl,?_⟩
 refine ⟨_,M2.cell 1 rfl rfl,?_⟩
 refine ⟨_,M2.cell 1 rfl rfl,?_⟩
 refine ⟨_,M2.cell 1 rfl rfl,?_⟩
 refine ⟨rfl,_,_,M2.get 0 rfl,Nat.le_of_ble_eq_true rfl,rfl,?_⟩
 intro w3 h3
 have M3:Mem w w3 [(g2,.cells (plainF x).cells.toArray 55 (0,0)),(g1,.cells x.cells.toArray 55 (0,0))]:=M2.put 0 rfl h3
 exact ⟨(plainF x).cells,rfl,M3.rd 0 rfl,rfl,M3.ext⟩
def daysB (x:Fact):Bool:=dayB x.known && dayB x.since && (decide (x.til = 0) || decide (x.since < x.til ∧ x.til <= 100000))
theorem head_days (x:Fact):headB x = (decide (1 <= x.kind ∧ x.kind <= 11) && (daysB x && idB x.id)):=by
 unfold headB daysB
 generalize decide (1 <= x.kind ∧ x.kind <= 11) = a
 generalize idB x.id = b
 generalize dayB x.known = c
 generalize dayB x.since = d
 generalize (decide (x.til = 0) || decide (x.since < x.til ∧ x.til <= 100000)) = e
 revert a b c d e
 decide
def refOk (x:Fact):Bool :=
 if x.kind = 1 then idB x.who && decide (1 <= x.other ∧ x.other <= 3)
 else if x.kind = 2 ∨ x.kind = 3 then idB x.who && (idB x.what && decide (1 <= x.other ∧ x.other <= 4))
 else if x.kind = 4 then idB x.who && (idB x.what && idB x.other)
 else if x.kind = 5 then idB x.who && idB x.what
 else if x.kind = 6 ∨ x.kind = 9 then idB x.who && (idB x.other && !decide (x.other = x.who))
 else if x.kind = 7 then idB x.who
 else if x.kind = 8 then idB x.who && (idB x.what && decide (1 <= x.other ∧ x.other <= 2))
 else if x.kind = 10 then idB x.who && decide (x.til = 0)
 else if x.kind = 11 then idB x.what && (!decide (x.what = x.id) && (decide (x.since = 0) && decide (x.til = 0)))
 else false
def refY (x:Fact):Fact :=
 if x.kind = 1 then { plainF x with who:=x.who,other:=x.other,name:=x.name }
 else if x.kind = 2 ∨ x.kind = 3 ∨ x.kind = 4 ∨ x.kind = 8 then { plainF x with who:=x.who,what:=x.what,other:=x.other }
 else if x.kind = 5 then { plainF x with who:=x.who,what:=x.what }
 else if x.kind = 6 ∨ x.kind = 9 then { plainF x with who:=x.who,other:=x.other }
 else if x.kind = 7 ∨ x.kind = 10 then { plainF x with who:=x.who }
 else if x.kind = 11 then { plainF x with what:=x.what }
 else plainF x
theorem ref_fin {x:Fact} (h1:1 <= x.kind) (h2:x.kind <= 11):(refOk x && decide (x = refY x)) = (restB x && rightB x):=by
 obtain ⟨x0,x1,x2,x3,x4,x5,x6,x7,x8⟩:=x
 have h1:1 <= x2:=h1
 have h2:x2 <= 11:=h2
 have cases:x2 = 1 ∨ x2 = 2 ∨ x2 = 3 ∨ x2 = 4 ∨ x2 = 5 ∨ x2 = 6 ∨ x2 = 7 ∨ x2 = 8 ∨ x2 = 9 ∨ x2 = 10 ∨ x2 = 11:=by omega
 rw [Bool.eq_iff_iff]
 rcases cases with rfl | rfl | rfl | rfl | rfl | rfl | rfl | rfl | rfl | rfl | rfl <;> simp [refOk,refY,plainF,restB,rightB,offs,Fact.mk.injEq] <;> (try constructor) <;> intros <;> simp_all <;> omega
theorem form_ref {x:Fact} (hh:headB x = true):formE x = if (refOk x && decide (x = refY x)) = true then (if x.kind = 1 ∧ nameB x.name.data.toList = false then 4 else 0) else 1:=by
 have hk:=(headB_iff.1 hh).1
 unfold formE
 rw [ref_fin hk.1 hk.2,hh,Bool.true_and]
theorem ref_kind {x:Fact} (h:refOk x = true):1 <= x.kind ∧ x.kind <= 11:=by
 unfold refOk at h
 by_cases h0:1 <= x.kind ∧ x.kind <= 11
 ·exact h0
 ·rw [if_neg (by omega),if_neg (by omega),if_neg (by omega),if_neg (by omega),if_neg (by omega),if_neg (by omega),if_neg (by omega),if_neg (by omega),if_neg (by omega)] at h
  cases h
set_option maxRecDepth 100000 in
set_option maxHeartbeats 2000000 in
theorem refFormed_spec (x:Fact) (hx:x.Nums) (w:World):CallsV C.P 169 #[x.val] w fun v w' => v = .int .i64 (formE x) ∧ Ext w w':=by
 refine callsV_ofS (args:=[_]) Tryz.func169 rfl Tryz.ntmps169 C_ok (Nat.le_of_ble_eq_true rfl) ?_
 refine Snd.go C_ok plans169 (by kernel_rfl) ?_
 intro g1 w1 h1
 have M1:Mem w w1 [(g1,.cells x.cells.toArray 55 (0,0))]:=(Mem.start w).alloc h1
 refine ⟨Snd.join C_ok plans169 (fun b:Bool => [(1,.pointer (some ⟨g1,0,none⟩)),(3,.bool b)]) (fun b w' => w' = w1 ∧ b = daysB x) (by kernel_rfl) ?_ ?_⟩
 ·refine ⟨_,M1.cell 0 rfl rfl,?_⟩
  refine (within_spec x.known 0 100000 _).mono ?_
  rintro _ w2 ⟨rfl,rfl⟩
  refine brE_dec (fun a1 => ?_) (fun a1 => ?_)
  ·have a1:0 <= x.known ∧ x.known <= 100000:=a1
   refine ⟨_,M1.cell 0 rfl rfl,?_⟩
   refine (within_spec x.since 0 100000 _).mono ?_
   rintro _ w2 ⟨rfl,rfl⟩
   refine brE_dec (fun a2 => ?_) (fun a2 => ?_)
   ·have a2:0 <= x.since ∧ x.since <= 100000:=a2
    refine ⟨_,M1.cell 0 rfl rfl,?_⟩
    refine brE_dec (fun a3 => ?_) (fun a3 => ?_)
    ·have a3:x.til = 0:=a3
     refine ⟨true,⟨rfl,rfl,trivial⟩,rfl,?_⟩
     simp [daysB,dayB,a1,a2,a3]
    ·have a3:¬ x.til = 0:=a3
     refine ⟨_,M1.cell 0 rfl rfl,?_⟩
     refine ⟨_,M1.cell 0 rfl rfl,?_⟩
     refine brE_dec (fun a4 => ?_) (fun a4 => ?_)
     ·have a4:x.til > x.since:=a4
      refine ⟨_,M1.cell 0 rfl rfl,?_⟩
      refine ⟨decide (x.til <= 100000),⟨rfl,rfl,trivial⟩,rfl,?_⟩
      have a5:x.since < x.til:=a4
      simp [daysB,dayB,a1,a2,a3,a5]
     ·have a4:¬ x.since < x.til:=a4
      refine ⟨false,⟨rfl,rfl,trivial⟩,rfl,?_⟩
      simp [daysB,dayB,a1,a2,a3,a4]
   ·have a2:¬ (0 <= x.since ∧ x.since <= 100000):=a2
    refine ⟨false,⟨rfl,rfl,trivial⟩,rfl,?_⟩
    unfold daysB dayB
    rw [decide_eq_false a2]; simp
  ·have a1:¬ (0 <= x.known ∧ x.known <= 100000):=a1
   refine ⟨false,⟨rfl,rfl,trivial⟩,rfl,?_⟩
   unfold daysB dayB
   rw [decide_eq_false a1]; simp
 rintro b w2 ⟨rfl,hb⟩
 refine Snd.go C_ok plans169 (by kernel_rfl) ?_
 refine ⟨_,M1.cell 0 rfl rfl,?_⟩
 refine (refId_spec x.id _).mono ?_
 rintro _ w3 ⟨rfl,rfl⟩
 refine ⟨Snd.go C_ok plans169 (by kernel_rfl) ?_⟩
 have bad:∀ {w':World},(headB x = true -> False) -> Ext w w' -> Value.int .i64 1 = .int .i64 (formE x) ∧ Ext w w':=fun h e => ⟨by rw [formE_head (headB_no h)],e⟩
 refine brE_mk (fun a1 => ?_) (fun a1 => ?_)
 ·exact bad (fun h => by rw [head_days,<-hb] at h; cases b <;> simp at a1 h) M1.ext
 have a1:daysB x = true:=by rw [<-hb]; simpa using a1
 refine brE_mk (fun a2 => ?_) (fun a2 => ?_)
 ·exact bad (fun h => by rw [head_days] at h; cases hi:idB x.id <;> rw [hi] at a2 h <;> simp at a2 h) M1.ext
 have a2:idB x.id = true:=by simpa using a2
 have hhead:(1 <= x.kind ∧ x.kind <= 11) -> headB x = true:=fun h => by rw [head_days,a1,a2,decide_eq_true h]; rfl
 clear bad
 refine ⟨Snd.go C_ok plans169 (by kernel_rfl) ?_⟩
 refine ⟨_,M1.cell 0 rfl rfl,?_⟩
 refine (refId_spec x.who _).mono ?_
 rintro _ w3 ⟨rfl,rfl⟩
 refine ⟨Snd.go C_ok plans169 (by kernel_rfl) ?_⟩
 refine ⟨_,M1.cell 0 rfl rfl,?_⟩
 refine (refId_spec x.what _).mono ?_
 rintro _ w3 ⟨rfl,rfl⟩
 refine ⟨Snd.go C_ok plans169 (by kernel_rfl) ?_⟩
 refine ⟨_,M1.cell 0 rfl rfl,?_⟩
 refine (refId_spec x.other _).mono ?_
 rintro _ w3 ⟨rfl,rfl⟩
 refine ⟨Snd.go C_ok plans169 (by kernel_rfl) ?_⟩
 refine ⟨x.cells,rfl,M1.rd 0 rfl,?_⟩
 refine (plain_spec x _).mono ?_
 rintro _ w4 ⟨rfl,e4⟩
 have M4:=M1.grow e4
 intro g8 w5 h5
 have M5:=M4.alloc h5
 refine ⟨rfl,_,_,M5.get 0 rfl,Nat.le_of_ble_eq_true rfl,rfl,?_⟩
 intro w6 h6
 have M6:Mem w w6 [(g8,.cells (plainF x).cells.toArray 55 (0,0)),(g1,.cells x.cells.toArray 55 (0,0))]:=M5.put 0 rfl h6
 have hne:g1 ≠ g8:=fun e => by
  have:=M6.nodup
  simp [e] at this
 clear M5 M4 h5 h6 e4
 refine ⟨Snd.go C_ok plans169 (by kernel_rfl) ?_⟩
 refine ⟨Snd.join C_ok plans169 (fun ok:Bool => [(1,.pointer (some ⟨g1,0,none⟩)),(8,.pointer (some ⟨g8,0,none⟩)),(9,.bool ok)])
  (fun ok w' => ok = refOk x ∧ Mem w w' [(g8,.cells (refY x).cells.toArray 55 (0,0)),(g1,.cells x.cells.toArray 55 (0,0))]) (by kernel_rfl) ?_ ?_⟩
 ·refine ⟨_,M6.cell 1 rfl rfl,?_⟩
  refine brE_dec (fun k1 => ?_) (fun k1 => ?_)
  ·have k1:x.kind = 1:=k1
   refine ⟨fun k => k ≠ g8,?_⟩
   refine ⟨_,M6.cell 1 rfl rfl,?_⟩
   refine ⟨.int .i64 x.other,fun u hu => ⟨_,hu.cell hne (M6.cell 1 (i:=5) rfl rfl),rfl⟩,?_⟩
   refine ⟨.string x.name,fun u hu => ⟨_,hu.cell hne (M6.cell 1 (i:=8) rfl rfl),rfl⟩,?_⟩
   refine ⟨rfl,_,_,M6.get 0 rfl,Nat.le_of_ble_eq_true rfl,rfl,?_⟩
   intro v0 s0
   have N0:=M6.put 0 rfl s0
   have kp0:Keep (fun k => k ≠ g8) w6 v0:=(Keep.refl _ w6).put s0 (fun h => h rfl)
   refine ⟨kp0,?_⟩
   refine ⟨rfl,_,_,N0.get 0 rfl,Nat.le_of_ble_eq_true rfl,rfl,?_⟩
   intro v1 s1
   have N1:=N0.put 0 rfl s1
   have kp1:Keep (fun k => k ≠ g8) w6 v1:=kp0.put s1 (fun h => h rfl)
   refine ⟨kp1,?_⟩
   refine ⟨rfl,_,_,N1.get 0 rfl,Nat.le_of_ble_eq_true rfl,rfl,?_⟩
   intro v2 s2
   have N2:=N1.put 0 rfl s2
   refine brE_mk (fun t_who => ?_) (fun t_who => ?_)
   ·have t_who:idB x.who = true:=t_who
    refine ⟨_,N2.cell 1 rfl rfl,?_⟩
    refine (within_spec x.other 1 3 _).mono ?_
    rintro _ w8 ⟨rfl,rfl⟩
    exact ⟨decide (1 <= x.other ∧ x.other <= 3),⟨rfl,rfl,rfl,trivial⟩,by simp [refOk,k1,t_who],by unfold refY; simp only [k1,reduceIte,Int.reduceEq,or_true,true_or,or_false,or_self,false_or]; exact N2⟩
   ·have t_who:idB x.who = false:=t_who
    exact ⟨false,⟨rfl,rfl,rfl,trivial⟩,by simp [refOk,k1,t_who],by unfold refY; simp only [k1,reduceIte,Int.reduceEq,or_true,true_or,or_false,or_self,false_or]; exact N2⟩
  have k1:¬ x.kind = 1:=k1
  refine brE_dec (fun k2 => ?_) (fun k2 => ?_)
  ·have k2:x.kind = 2:=k2
   refine brE_true (decide_eq_true k2) ?_
   refine ⟨fun k => k ≠ g8,?_⟩
   refine ⟨_,M6.cell 1 rfl rfl,?_⟩
   refine ⟨.int .i64 x.what,fun u hu => ⟨_,hu.cell hne (M6.cell 1 (i:=4) rfl rfl),rfl⟩,?_⟩
   refine ⟨.int .i64 x.other,fun u hu => ⟨_,hu.cell hne (M6.cell 1 (i:=5) rfl rfl),rfl⟩,?_⟩
   refine ⟨rfl,_,_,M6.get 0 rfl,Nat.le_of_ble_eq_true rfl,rfl,?_⟩
   intro v0 s0
   have N0:=M6.put 0 rfl s0
   have kp0:Keep (fun k => k ≠ g8) w6 v0:=(Keep.refl _ w6).put s0 (fun h => h rfl)
   refine ⟨kp0,?_⟩
   refine ⟨rfl,_,_,N0.get 0 rfl,Nat.le_of_ble_eq_true rfl,rfl,?_⟩
   intro v1 s1
   have N1:=N0.put 0 rfl s1
   have kp1:Keep (fun k => k ≠ g8) w6 v1:=kp0.put s1 (fun h => h rfl)
   refine ⟨kp1,?_⟩
   refine ⟨rfl,_,_,N1.get 0 rfl,Nat.le_of_ble_eq_true rfl,rfl,?_⟩
   intro v2 s2
   have N2:=N1.put 0 rfl s2
   refine brE_mk (fun t_who => ?_) (fun t_who => ?_)
   ·have t_who:idB x.who = true:=t_who
    refine brE_mk (fun t_what => ?_) (fun t_what => ?_)
    ·have t_what:idB x.what = true:=t_what
     refine ⟨_,N2.cell 1 rfl rfl,?_⟩
     refine (within_spec x.other 1 4 _).mono ?_
     rintro _ w8 ⟨rfl,rfl⟩
     exact ⟨decide (1 <= x.other ∧ x.other <= 4),⟨rfl,rfl,rfl,trivial⟩,by simp [refOk,k2,t_who,t_what],by unfold refY; simp only [k2,reduceIte,Int.reduceEq,or_true,true_or,or_false,or_self,false_or]; exact N2⟩
    ·have t_what:idB x.what = false:=t_what
     exact ⟨false,⟨rfl,rfl,rfl,trivial⟩,by simp [refOk,k2,t_who,t_what],by unfold refY; simp only [k2,reduceIte,Int.reduceEq,or_true,true_or,or_false,or_self,false_or]; exact N2⟩
   ·have t_who:idB x.who = false:=t_who
    exact ⟨false,⟨rfl,rfl,rfl,trivial⟩,by simp [refOk,k2,t_who],by unfold refY; simp only [k2,reduceIte,Int.reduceEq,or_true,true_or,or_false,or_self,false_or]; exact N2⟩
  have k2:¬ x.kind = 2:=k2
  refine brE_dec (fun k3 => ?_) (fun k3 => ?_)
  ·have k3:x.kind = 3:=k3
   refine ⟨fun k => k ≠ g8,?_⟩
   refine ⟨_,M6.cell 1 rfl rfl,?_⟩
   refine ⟨.int .i64 x.what,fun u hu => ⟨_,hu.cell hne (M6.cell 1 (i:=4) rfl rfl),rfl⟩,?_⟩
   refine ⟨.int .i64 x.other,fun u hu => ⟨_,hu.cell hne (M6.cell 1 (i:=5) rfl rfl),rfl⟩,?_⟩
   refine ⟨rfl,_,_,M6.get 0 rfl,Nat.le_of_ble_eq_true rfl,rfl,?_⟩
   intro v0 s0
   have N0:=M6.put 0 rfl s0
   have kp0:Keep (fun k => k ≠ g8) w6 v0:=(Keep.refl _ w6).put s0 (fun h => h rfl)
   refine ⟨kp0,?_⟩
   refine ⟨rfl,_,_,N0.get 0 rfl,Nat.le_of_ble_eq_true rfl,rfl,?_⟩
   intro v1 s1
   have N1:=N0.put 0 rfl s1
   have kp1:Keep (fun k => k ≠ g8) w6 v1:=kp0.put s1 (fun h => h rfl)
   refine ⟨kp1,?_⟩
   refine ⟨rfl,_,_,N1.get 0 rfl,Nat.le_of_ble_eq_true rfl,rfl,?_⟩
   intro v2 s2
   have N2:=N1.put 0 rfl s2
   refine brE_mk (fun t_who => ?_) (fun t_who => ?_)
   ·have t_who:idB x.who = true:=t_who
    refine brE_mk (fun t_what => ?_) (fun t_what => ?_)
    ·have t_what:idB x.what = true:=t_what
     refine ⟨_,N2.cell 1 rfl rfl,?_⟩
     refine (within_spec x.other 1 4 _).mono ?_
     rintro _ w8 ⟨rfl,rfl⟩
     exact ⟨decide (1 <= x.other ∧ x.other <= 4),⟨rfl,rfl,rfl,trivial⟩,by simp [refOk,k3,t_who,t_what],by unfold refY; simp only [k3,reduceIte,Int.reduceEq,or_true,true_or,or_false,or_self,false_or]; exact N2⟩
    ·have t_what:idB x.what = false:=t_what
     exact ⟨false,⟨rfl,rfl,rfl,trivial⟩,by simp [refOk,k3,t_who,t_what],by unfold refY; simp only [k3,reduceIte,Int.reduceEq,or_true,true_or,or_false,or_self,false_or]; exact N2⟩
   ·have t_who:idB x.who = false:=t_who
    exact ⟨false,⟨rfl,rfl,rfl,trivial⟩,by simp [refOk,k3,t_who],by unfold refY; simp only [k3,reduceIte,Int.reduceEq,or_true,true_or,or_false,or_self,false_or]; exact N2⟩
  have k3:¬ x.kind = 3:=k3
  refine brE_dec (fun k4 => ?_) (fun k4 => ?_)
  ·have k4:x.kind = 4:=k4
   refine ⟨fun k => k ≠ g8,?_⟩
   refine ⟨_,M6.cell 1 rfl rfl,?_⟩
   refine ⟨.int .i64 x.what,fun u hu => ⟨_,hu.cell hne (M6.cell 1 (i:=4) rfl rfl),rfl⟩,?_⟩
   refine ⟨.int .i64 x.other,fun u hu => ⟨_,hu.cell hne (M6.cell 1 (i:=5) rfl rfl),rfl⟩,?_⟩
   refine ⟨rfl,_,_,M6.get 0 rfl,Nat.le_of_ble_eq_true rfl,rfl,?_⟩
   intro v0 s0
   have N0:=M6.put 0 rfl s0
   have kp0:Keep (fun k => k ≠ g8) w6 v0:=(Keep.refl _ w6).put s0 (fun h => h rfl)
   refine ⟨kp0,?_⟩
   refine ⟨rfl,_,_,N0.get 0 rfl,Nat.le_of_ble_eq_true rfl,rfl,?_⟩
   intro v1 s1
   have N1:=N0.put 0 rfl s1
   have kp1:Keep (fun k => k ≠ g8) w6 v1:=kp0.put s1 (fun h => h rfl)
   refine ⟨kp1,?_⟩
   refine ⟨rfl,_,_,N1.get 0 rfl,Nat.le_of_ble_eq_true rfl,rfl,?_⟩
   intro v2 s2
   have N2:=N1.put 0 rfl s2
   refine brE_mk (fun t_who => ?_) (fun t_who => ?_)
   ·have t_who:idB x.who = true:=t_who
    refine brE_mk (fun t_what => ?_) (fun t_what => ?_)
    ·have t_what:idB x.what = true:=t_what
     exact ⟨idB x.other,⟨rfl,rfl,rfl,trivial⟩,by simp [refOk,k4,t_who,t_what],by unfold refY; simp only [k4,reduceIte,Int.reduceEq,or_true,true_or,or_false,or_self,false_or]; exact N2⟩
    ·have t_what:idB x.what = false:=t_what
     exact ⟨false,⟨rfl,rfl,rfl,trivial⟩,by simp [refOk,k4,t_who,t_what],by unfold refY; simp only [k4,reduceIte,Int.reduceEq,or_true,true_or,or_false,or_self,false_or]; exact N2⟩
   ·have t_who:idB x.who = false:=t_who
    exact ⟨false,⟨rfl,rfl,rfl,trivial⟩,by simp [refOk,k4,t_who],by unfold refY; simp only [k4,reduceIte,Int.reduceEq,or_true,true_or,or_false,or_self,false_or]; exact N2⟩
  have k4:¬ x.kind = 4:=k4
  refine brE_dec (fun k5 => ?_) (fun k5 => ?_)
  ·have k5:x.kind = 5:=k5
   refine ⟨fun k => k ≠ g8,?_⟩
   refine ⟨_,M6.cell 1 rfl rfl,?_⟩
   refine ⟨.int .i64 x.what,fun u hu => ⟨_,hu.cell hne (M6.cell 1 (i:=4) rfl rfl),rfl⟩,?_⟩
   refine ⟨rfl,_,_,M6.get 0 rfl,Nat.le_of_ble_eq_true rfl,rfl,?_⟩
   intro v0 s0
   have N0:=M6.put 0 rfl s0
   have kp0:Keep (fun k => k ≠ g8) w6 v0:=(Keep.refl _ w6).put s0 (fun h => h rfl)
   refine ⟨kp0,?_⟩
   refine ⟨rfl,_,_,N0.get 0 rfl,Nat.le_of_ble_eq_true rfl,rfl,?_⟩
   intro v1 s1
   have N1:=N0.put 0 rfl s1
   refine brE_mk (fun t_who => ?_) (fun t_who => ?_)
   ·have t_who:idB x.who = true:=t_who
    exact ⟨idB x.what,⟨rfl,rfl,rfl,trivial⟩,by simp [refOk,k5,t_who],by unfold refY; simp only [k5,reduceIte,Int.reduceEq,or_true,true_or,or_false,or_self,false_or]; exact N1⟩
   ·have t_who:idB x.who = false:=t_who
    exact ⟨false,⟨rfl,rfl,rfl,trivial⟩,by simp [refOk,k5,t_who],by unfold refY; simp only [k5,reduceIte,Int.reduceEq,or_true,true_or,or_false,or_self,false_or]; exact N1⟩
  have k5:¬ x.kind = 5:=k5
  refine brE_dec (fun k6 => ?_) (fun k6 => ?_)
  ·have k6:x.kind = 6:=k6
   refine brE_true (decide_eq_true k6) ?_
   refine ⟨fun k => k ≠ g8,?_⟩
   refine ⟨_,M6.cell 1 rfl rfl,?_⟩
   refine ⟨.int .i64 x.other,fun u hu => ⟨_,hu.cell hne (M6.cell 1 (i:=5) rfl rfl),rfl⟩,?_⟩
   refine ⟨rfl,_,_,M6.get 0 rfl,Nat.le_of_ble_eq_true rfl,rfl,?_⟩
   intro v0 s0
   have N0:=M6.put 0 rfl s0
   have kp0:Keep (fun k => k ≠ g8) w6 v0:=(Keep.refl _ w6).put s0 (fun h => h rfl)
   refine ⟨kp0,?_⟩
   refine ⟨rfl,_,_,N0.get 0 rfl,Nat.le_of_ble_eq_true rfl,rfl,?_⟩
   intro v1 s1
   have N1:=N0.put 0 rfl s1
   refine brE_mk (fun t_who => ?_) (fun t_who => ?_)
   ·have t_who:idB x.who = true:=t_who
    refine brE_mk (fun t_other => ?_) (fun t_other => ?_)
    ·have t_other:idB x.other = true:=t_other
     refine ⟨_,N1.cell 1 rfl rfl,?_⟩
     refine ⟨_,N1.cell 1 rfl rfl,?_⟩
     exact ⟨(!decide (x.other = x.who)),⟨rfl,rfl,rfl,trivial⟩,by simp [refOk,k6,t_who,t_other],by unfold refY; simp only [k6,reduceIte,Int.reduceEq,or_true,true_or,or_false,or_self,false_or]; exact N1⟩
    ·have t_other:idB x.other = false:=t_other
     exact ⟨false,⟨rfl,rfl,rfl,trivial⟩,by simp [refOk,k6,t_who,t_other],by unfold refY; simp only [k6,reduceIte,Int.reduceEq,or_true,true_or,or_false,or_self,false_or]; exact N1⟩
   ·have t_who:idB x.who = false:=t_who
    exact ⟨false,⟨rfl,rfl,rfl,trivial⟩,by simp [refOk,k6,t_who],by unfold refY; simp only [k6,reduceIte,Int.reduceEq,or_true,true_or,or_false,or_self,false_or]; exact N1⟩
  have k6:¬ x.kind = 6:=k6
  refine brE_dec (fun k9 => ?_) (fun k9 => ?_)
  ·have k9:x.kind = 9:=k9
   refine ⟨fun k => k ≠ g8,?_⟩
   refine ⟨_,M6.cell 1 rfl rfl,?_⟩
   refine ⟨.int .i64 x.other,fun u hu => ⟨_,hu.cell hne (M6.cell 1 (i:=5) rfl rfl),rfl⟩,?_⟩
   refine ⟨rfl,_,_,M6.get 0 rfl,Nat.le_of_ble_eq_true rfl,rfl,?_⟩
   intro v0 s0
   have N0:=M6.put 0 rfl s0
   have kp0:Keep (fun k => k ≠ g8) w6 v0:=(Keep.refl _ w6).put s0 (fun h => h rfl)
   refine ⟨kp0,?_⟩
   refine ⟨rfl,_,_,N0.get 0 rfl,Nat.le_of_ble_eq_true rfl,rfl,?_⟩
   intro v1 s1
   have N1:=N0.put 0 rfl s1
   refine brE_mk (fun t_who => ?_) (fun t_who => ?_)
   ·have t_who:idB x.who = true:=t_who
    refine brE_mk (fun t_other => ?_) (fun t_other => ?_)
    ·have t_other:idB x.other = true:=t_other
     refine ⟨_,N1.cell 1 rfl rfl,?_⟩
     refine ⟨_,N1.cell 1 rfl rfl,?_⟩
     exact ⟨(!decide (x.other = x.who)),⟨rfl,rfl,rfl,trivial⟩,by simp [refOk,k9,t_who,t_other],by unfold refY; simp only [k9,reduceIte,Int.reduceEq,or_true,true_or,or_false,or_self,false_or]; exact N1⟩
    ·have t_other:idB x.other = false:=t_other
     exact ⟨false,⟨rfl,rfl,rfl,trivial⟩,by simp [refOk,k9,t_who,t_other],by unfold refY; simp only [k9,reduceIte,Int.reduceEq,or_true,true_or,or_false,or_self,false_or]; exact N1⟩
   ·have t_who:idB x.who = false:=t_who
    exact ⟨false,⟨rfl,rfl,rfl,trivial⟩,by simp [refOk,k9,t_who],by unfold refY; simp only [k9,reduceIte,Int.reduceEq,or_true,true_or,or_false,or_self,false_or]; exact N1⟩
  have k9:¬ x.kind = 9:=k9
  refine brE_dec (fun k7 => ?_) (fun k7 => ?_)
  ·have k7:x.kind = 7:=k7
   refine ⟨_,M6.cell 1 rfl rfl,?_⟩
   refine ⟨rfl,_,_,M6.get 0 rfl,Nat.le_of_ble_eq_true rfl,rfl,?_⟩
   intro v0 s0
   have N0:=M6.put 0 rfl s0
   exact ⟨idB x.who,⟨rfl,rfl,rfl,trivial⟩,by simp [refOk,k7],by unfold refY; simp only [k7,reduceIte,Int.reduceEq,or_true,true_or,or_false,or_self,false_or]; exact N0⟩
  have k7:¬ x.kind = 7:=k7
  refine brE_dec (fun k8 => ?_) (fun k8 => ?_)
  ·have k8:x.kind = 8:=k8
   refine ⟨fun k => k ≠ g8,?_⟩
   refine ⟨_,M6.cell 1 rfl rfl,?_⟩
   refine ⟨.int .i64 x.what,fun u hu => ⟨_,hu.cell hne (M6.cell 1 (i:=4) rfl rfl),rfl⟩,?_⟩
   refine ⟨.int .i64 x.other,fun u hu => ⟨_,hu.cell hne (M6.cell 1 (i:=5) rfl rfl),rfl⟩,?_⟩
   refine ⟨rfl,_,_,M6.get 0 rfl,Nat.le_of_ble_eq_true rfl,rfl,?_⟩
   intro v0 s0
   have N0:=M6.put 0 rfl s0
   have kp0:Keep (fun k => k ≠ g8) w6 v0:=(Keep.refl _ w6).put s0 (fun h => h rfl)
   refine ⟨kp0,?_⟩
   refine ⟨rfl,_,_,N0.get 0 rfl,Nat.le_of_ble_eq_true rfl,rfl,?_⟩
   intro v1 s1
   have N1:=N0.put 0 rfl s1
   have kp1:Keep (fun k => k ≠ g8) w6 v1:=kp0.put s1 (fun h => h rfl)
   refine ⟨kp1,?_⟩
   refine ⟨rfl,_,_,N1.get 0 rfl,Nat.le_of_ble_eq_true rfl,rfl,?_⟩
   intro v2 s2
   have N2:=N1.put 0 rfl s2
   refine brE_mk (fun t_who => ?_) (fun t_who => ?_)
   ·have t_who:idB x.who = true:=t_who
    refine brE_mk (fun t_what => ?_) (fun t_what => ?_)
    ·have t_what:idB x.what = true:=t_what
     refine ⟨_,N2.cell 1 rfl rfl,?_⟩
     refine (within_spec x.other 1 2 _).mono ?_
     rintro _ w8 ⟨rfl,rfl⟩
     exact ⟨decide (1 <= x.other ∧ x.other <= 2),⟨rfl,rfl,rfl,trivial⟩,by simp [refOk,k8,t_who,t_what],by unfold refY; simp only [k8,reduceIte,Int.reduceEq,or_true,true_or,or_false,or_self,false_or]; exact N2⟩
    ·have t_what:idB x.what = false:=t_what
     exact ⟨false,⟨rfl,rfl,rfl,trivial⟩,by simp [refOk,k8,t_who,t_what],by unfold refY; simp only [k8,reduceIte,Int.reduceEq,or_true,true_or,or_false,or_self,false_or]; exact N2⟩
   ·have t_who:idB x.who = false:=t_who
    exact ⟨false,⟨rfl,rfl,rfl,trivial⟩,by simp [refOk,k8,t_who],by unfold refY; simp only [k8,reduceIte,Int.reduceEq,or_true,true_or,or_false,or_self,false_or]; exact N2⟩
  have k8:¬ x.kind = 8:=k8
  refine brE_dec (fun k10 => ?_) (fun k10 => ?_)
  ·have k10:x.kind = 10:=k10
   refine ⟨_,M6.cell 1 rfl rfl,?_⟩
   refine ⟨rfl,_,_,M6.get 0 rfl,Nat.le_of_ble_eq_true rfl,rfl,?_⟩
   intro v0 s0
   have N0:=M6.put 0 rfl s0
   refine brE_mk (fun t_who => ?_) (fun t_who => ?_)
   ·have t_who:idB x.who = true:=t_who
    refine ⟨_,N0.cell 1 rfl rfl,?_⟩
    exact ⟨(decide (x.til = 0)),⟨rfl,rfl,rfl,trivial⟩,by simp [refOk,k10,t_who],by unfold refY; simp only [k10,reduceIte,Int.reduceEq,or_true,true_or,or_false,or_self,false_or]; exact N0⟩
   ·have t_who:idB x.who = false:=t_who
    exact ⟨false,⟨rfl,rfl,rfl,trivial⟩,by simp [refOk,k10,t_who],by unfold refY; simp only [k10,reduceIte,Int.reduceEq,or_true,true_or,or_false,or_self,false_or]; exact N0⟩
  have k10:¬ x.kind = 10:=k10
  refine brE_dec (fun k11 => ?_) (fun k11 => ?_)
  ·have k11:x.kind = 11:=k11
   refine ⟨_,M6.cell 1 rfl rfl,?_⟩
   refine ⟨rfl,_,_,M6.get 0 rfl,Nat.le_of_ble_eq_true rfl,rfl,?_⟩
   intro v0 s0
   have N0:=M6.put 0 rfl s0
   refine brE_mk (fun t_what => ?_) (fun t_what => ?_)
   ·have t_what:idB x.what = true:=t_what
    refine ⟨_,N0.cell 1 rfl rfl,?_⟩
    refine ⟨_,N0.cell 1 rfl rfl,?_⟩
    refine brE_ndec (fun c2 => ?_) (fun c2 => ?_)
    ·have c2:¬ x.what = x.id:=c2
     refine ⟨_,N0.cell 1 rfl rfl,?_⟩
     refine brE_dec (fun c3 => ?_) (fun c3 => ?_)
     ·have c3:x.since = 0:=c3
      refine ⟨_,N0.cell 1 rfl rfl,?_⟩
      exact ⟨(decide (x.til = 0)),⟨rfl,rfl,rfl,trivial⟩,by simp [refOk,k11,t_what,c2,c3],by unfold refY; simp only [k11,reduceIte,Int.reduceEq,or_true,true_or,or_false,or_self,false_or]; exact N0⟩
     ·have c3:¬ x.since = 0:=c3
      exact ⟨false,⟨rfl,rfl,rfl,trivial⟩,by simp [refOk,k11,t_what,c2,c3],by unfold refY; simp only [k11,reduceIte,Int.reduceEq,or_true,true_or,or_false,or_self,false_or]; exact N0⟩
    ·have c2:x.what = x.id:=c2
     exact ⟨false,⟨rfl,rfl,rfl,trivial⟩,by simp [refOk,k11,t_what,c2],by unfold refY; simp only [k11,reduceIte,Int.reduceEq,or_true,true_or,or_false,or_self,false_or]; exact N0⟩
   ·have t_what:idB x.what = false:=t_what
    exact ⟨false,⟨rfl,rfl,rfl,trivial⟩,by simp [refOk,k11,t_what],by unfold refY; simp only [k11,reduceIte,Int.reduceEq,or_true,true_or,or_false,or_self,false_or]; exact N0⟩
  have k11:¬ x.kind = 11:=k11
  exact ⟨false,⟨rfl,rfl,rfl,trivial⟩,by simp [refOk,k1,k2,k3,k4,k5,k6,k9,k7,k8,k10,k11],by unfold refY; simp only [k1,k2,k3,k4,k5,k6,k9,k7,k8,k10,k11,or_self,if_false]; exact M6⟩
 rintro ok w7 ⟨hok,M7⟩
 refine Snd.go C_ok plans169 (by kernel_rfl) ?_
 have hfin:∀ {w':World},¬ (refOk x && decide (x = refY x)) = true -> Ext w w' -> Value.int .i64 1 = .int .i64 (formE x) ∧ Ext w w':=fun h e => by
  refine ⟨?_,e⟩
  by_cases hk:1 <= x.kind ∧ x.kind <= 11
  ·rw [form_ref (hhead hk),if_neg h]
  ·rw [formE_head (headB_no fun hh => hk (headB_iff.1 hh).1)]
 refine brE_mk (fun b1 => ?_) (fun b1 => ?_)
 ·have b1:refOk x = false:=by rw [<-hok]; simpa using b1
  exact hfin (by rw [b1]; simp) M7.ext
 have b1:refOk x = true:=by rw [<-hok]; simpa using b1
 refine ⟨x.cells,rfl,M7.rd 1 rfl,?_⟩
 refine ⟨(refY x).cells,rfl,M7.rd 0 rfl,?_⟩
 refine ⟨_,neqF _ _ x (refY x),?_⟩
 refine brE_ndec (fun b2 => ?_) (fun b2 => ?_)
 ·exact hfin (by rw [decide_eq_false b2]; simp) M7.ext
 have b2:x = refY x:=b2
 have hform:=form_ref (hhead (ref_kind b1))
 rw [if_pos (by rw [b1,decide_eq_true b2]; rfl)] at hform
 clear b2 hfin
 refine ⟨Snd.go C_ok plans169 (by kernel_rfl) ?_⟩
 refine ⟨_,M7.cell 1 rfl rfl,?_⟩
 refine brE_dec (fun b3 => ?_) (fun b3 => ?_)
 ·have b3:x.kind = 1:=b3
  refine ⟨_,M7.cell 1 rfl rfl,?_⟩
  refine (refIsName_spec x.name _ hx.name).mono ?_
  rintro _ w8 ⟨rfl,rfl⟩
  refine brE_mk (fun b4 => ?_) (fun b4 => ?_)
  ·have b4:nameB x.name.data.toList = false:=by simpa using b4
   exact ⟨by rw [hform,if_pos ⟨b3,b4⟩],M7.ext⟩
  ·have b4:nameB x.name.data.toList = true:=by simpa using b4
   refine ⟨Snd.fin C_ok (plans:=[]) (by kernel_rfl) ?_⟩
   exact ⟨by rw [hform,if_neg (fun h => by rw [b4] at h; cases h.2)],M7.ext⟩
 ·have b3:¬ x.kind = 1:=b3
  refine ⟨Snd.fin C_ok (plans:=[]) (by kernel_rfl) ?_⟩
  exact ⟨by rw [hform,if_neg (fun h => b3 h.1)],M7.ext⟩
end Go.Proofs.YtdpdjcopkehdjaaGreat
namespace Go.Proofs.YtdpdjcopkehdjaaGreat
open Go.Eng Go.RowKit
theorem insD_in {n:Int}:∀ {l:List Int},l.Pairwise (· < ·) -> n ∈ l -> insD n l = l
 | [],_,h => by cases h
 | x :: r,hp,h => by
  obtain ⟨h1,h2⟩:=List.pairwise_cons.1 hp
  unfold insD
  rcases List.mem_cons.1 h with rfl | h
  ·rw [if_neg (Int.lt_irrefl _),if_pos rfl]
  ·have:=h1 n h
   rw [if_neg (by omega),if_neg (by omega),insD_in h2 h]
theorem insD_out {n:Int}:∀ {l:List Int},n ∉ l -> (insD n l).length = l.length + 1
 | [],_ => rfl
 | x :: r,h => by
  unfold insD
  split
  ·rfl
  ·split
   ·rename_i e; exact absurd (by rw [e]; simp) h
   ·rw [List.length_cons,insD_out (fun e => h (by simp [e])),List.length_cons]
theorem statesN_snoc (l:List Fact) (x:Fact):statesN (l ++ [x]) = statesN l + if x.kind = 1 ∧ namedIn l x.who = false then 1 else 0:=by
 unfold statesN
 rw [whos_snoc]
 by_cases hk:x.kind = 1
 ·rw [if_pos hk,sortD_snoc,namedIn_eq]
  by_cases hm:x.who ∈ whos l
  ·rw [insD_in (sortD_asc _) (mem_sortD.2 hm),if_neg (by simp [hm])]; rfl
  ·rw [insD_out (fun e => hm (mem_sortD.1 e)),if_pos ⟨hk,decide_eq_false hm⟩]
 ·rw [if_neg hk,List.append_nil,if_neg (fun e => hk e.1)]; rfl
theorem statesN_take {l:List Fact} {i:Nat} (hi:i < l.length):statesN (l.take (i + 1)) = statesN (l.take i) + if l[i].kind = 1 ∧ namedIn (l.take i) l[i].who = false then 1 else 0:=by
 rw [List.take_succ_eq_append_getElem hi,statesN_snoc]
theorem statesN_le (l:List Fact):statesN l <= l.length:=by
 unfold statesN
 refine Nat.le_trans (sortD_length _) ?_
 unfold whos
 rw [List.length_map]
 exact List.length_filter_le _ _
set_option maxRecDepth 100000 in
theorem refstates_spec {w1:World} {A:Option Addr} {l:List Fact} {c:Nat} (hr:Reads w1 A (fcells l)) (hl:l.length <= 2 ^ 20) (hc:l.length <= c) :
  CallsV C.P 172 #[.slice A l.length c] w1 fun v w' => v = .int .i64 (statesN l) ∧ w' = w1:=by
 refine callsV_of C_ok (args:=[_]) (plans:=plans172) Tryz.func172 rfl Tryz.ntmps172 (by kernel_rfl) (Nat.le_of_ble_eq_true rfl) ?_
 refine loopE C_ok (fun (i:Nat) => [(0,.slice A l.length c),(3,.int .i64 (statesN (l.take i))),(4,.int .i64 i)])
  (fun i w' => w' = w1 ∧ i <= l.length) (fun i => l.length - i) 0 ⟨rfl,rfl,rfl,trivial⟩ ⟨rfl,Nat.zero_le _⟩ ?_
 rintro i w2 ⟨rfl,hi⟩
 refine brE_dec (fun hlt => ?_) (fun hge => ?_)
 ·have hlt:i < l.length:=by have:(i:Int) < (l.length:Nat):=hlt; omega
  have next:IntKind.i64.wrap ((i:Int) + 1) = ((i + 1:Nat):Int):=fit ⟨by omega,by omega⟩
  have hlen:(l.take i).length = i:=by rw [List.length_take]; omega
  have hsn:=statesN_le (l.take i)
  have hst:=statesN_take hlt
  obtain ⟨b,o,hA,hcl⟩:=Reads.fact hr hlt
  refine ⟨0,i,rfl,rfl,Nat.zero_le _,by omega,?_⟩
  refine ⟨i,b,o,rfl,hlt,hA,?_⟩
  refine ⟨.int .i64 l[i].who,hcl 3 _ rfl,?_⟩
  have hn:=refnamed_spec (cK:=c - 0) (Reads.front (c:=c) (i:=i) hr) (by omega) l[i].who
  rw [hlen] at hn
  refine hn.mono ?_
  rintro _ w3 ⟨rfl,rfl⟩
  refine ⟨i,b,o,rfl,hlt,hA,?_⟩
  refine ⟨.int .u8 l[i].kind,hcl 2 _ rfl,?_⟩
  refine brE_dec (fun k1 => ?_) (fun k1 => ?_)
  ·have k1:l[i].kind = 1:=k1
   refine brE_mk (fun k2 => ?_) (fun k2 => ?_)
   ·have k2:namedIn (l.take i) l[i].who = false:=by simpa using k2
    rw [if_pos ⟨k1,k2⟩] at hst
    refine ⟨((statesN (l.take i) + 1:Nat):Int),fit ⟨by omega,by omega⟩,?_⟩
    refine ⟨_,next,?_⟩
    exact ⟨i + 1,⟨rfl,by show _ = some (Value.int .i64 (statesN (l.take (i + 1)))); rw [hst]; rfl,rfl,trivial⟩,⟨rfl,hlt⟩,by omega⟩
   ·have k2:¬ namedIn (l.take i) l[i].who = false:=by simpa using k2
    rw [if_neg (fun e => k2 e.2)] at hst
    refine ⟨_,next,?_⟩
    exact ⟨i + 1,⟨rfl,by show _ = some (Value.int .i64 (statesN (l.take (i + 1)))); rw [hst]; rfl,rfl,trivial⟩,⟨rfl,hlt⟩,by omega⟩
  ·have k1:¬ l[i].kind = 1:=k1
   rw [if_neg (fun e => k1 e.1)] at hst
   refine ⟨_,next,?_⟩
   exact ⟨i + 1,⟨rfl,by show _ = some (Value.int .i64 (statesN (l.take (i + 1)))); rw [hst]; rfl,rfl,trivial⟩,⟨rfl,hlt⟩,by omega⟩
 ·have:i = l.length:=by have:¬ (i:Int) < (l.length:Nat):=hge; omega
  subst this
  exact ⟨by rw [List.take_length],rfl⟩
theorem last_fact {l:List Fact} (h:0 < l.length):l.getLast? = some (l[l.length - 1]'(by omega)):=List.getLast?_eq_getElem? ▸ List.getElem?_eq_getElem (by omega)
set_option maxRecDepth 100000 in
set_option maxHeartbeats 2000000 in
theorem refBehind_spec {w:World} {A:Option Addr} {l:List Fact} {c:Nat} (hr:Reads w A (fcells l)) (hl:l.length <= 2 ^ 20) (hc:l.length <= c) {x:Fact} (hx:x.Nums) :
  CallsV C.P 104 #[.slice A l.length c,x.val] w fun v w' => v = .int .i64 (behindE l x) ∧ Ext w w':=by
 refine callsV_ofS (args:=[_,_]) Tryz.func104 rfl Tryz.ntmps104 C_ok (Nat.le_of_ble_eq_true rfl) ?_
 unfold behindE
 refine Snd.go C_ok plans104 (by kernel_rfl) ?_
 intro g1 w1 h1
 have M1:Mem w w1 [(g1,.cells x.cells.toArray 55 (0,0))]:=(Mem.start w).alloc h1
 refine ⟨Snd.go C_ok plans104 (by kernel_rfl) ?_⟩
 refine ⟨x.cells,rfl,M1.rd 0 rfl,?_⟩
 refine (refFormed_spec x hx w1).mono ?_
 rintro _ w2 ⟨rfl,e2⟩
 have M2:=M1.grow e2
 clear M1 h1
 refine ⟨Snd.go C_ok plans104 (by kernel_rfl) ?_⟩
 refine brE_ndec (fun a1 => ?_) (fun a1 => ?_)
 ·have a1:¬ formE x = 0:=a1
  exact ⟨by rw [if_pos a1],M2.ext⟩
 have a1:formE x = 0:=a1
 rw [if_neg (fun e => e a1)]
 refine ⟨Snd.go C_ok plans104 (by kernel_rfl) ?_⟩
 refine brE_dec (fun a2 => ?_) (fun a2 => ?_)
 ·have a2:300 <= l.length:=by have:(l.length:Int) >= 300:=a2; omega
  exact ⟨by rw [if_pos a2],M2.ext⟩
 have a2:¬ 300 <= l.length:=by have:¬ (l.length:Int) >= 300:=a2; omega
 rw [if_neg a2]
 have hrl:=hr.ext M2.ext
 refine ⟨Snd.join C_ok plans104 (fun _:Unit => [(0,.slice A l.length c),(3,.pointer (some ⟨g1,0,none⟩))]) (fun _ w' => w' = w2 ∧ l.getLast?.any (fun y => decide (x.known < y.known)) = false) (by kernel_rfl) ?_ ?_⟩
 ·refine brE_dec (fun a3 => ?_) (fun a3 => ?_)
  ·have a3:0 < l.length:=by have:(l.length:Int) > 0:=a3; omega
   refine ⟨_,M2.cell 0 rfl rfl,?_⟩
   obtain ⟨b,o,hA,hcl⟩:=Reads.fact hrl (show l.length - 1 < l.length by omega)
   refine ⟨((l.length - 1:Nat):Int),by rw [fit ⟨by omega,by omega⟩]; omega,?_⟩
   refine ⟨l.length - 1,b,o,rfl,by omega,hA,?_⟩
   refine ⟨.int .i64 (l[l.length - 1]'(by omega)).known,hcl 1 _ rfl,?_⟩
   refine brE_dec (fun a4 => ?_) (fun a4 => ?_)
   ·have a4:x.known < (l[l.length - 1]'(by omega)).known:=a4
    exact ⟨by rw [if_pos (by rw [last_fact a3]; exact decide_eq_true a4)],M2.ext⟩
   ·have a4:¬ x.known < (l[l.length - 1]'(by omega)).known:=a4
    exact ⟨(),⟨rfl,rfl,trivial⟩,rfl,by rw [last_fact a3]; exact decide_eq_false a4⟩
  ·have a3:l = []:=List.length_eq_zero_iff.1 (by have:¬ (l.length:Int) > 0:=a3; omega)
   exact ⟨(),⟨rfl,rfl,trivial⟩,rfl,by rw [a3]; rfl⟩
 rintro _ w2' ⟨rfl,a4⟩
 rw [if_neg (by rw [a4]; decide)]
 refine Snd.fin C_ok (plans:=plans104) (by kernel_rfl) ?_
 refine ⟨_,M2.cell 0 rfl rfl,?_⟩
 refine (numbered_spec hrl hl x.id).mono ?_
 rintro _ w3 ⟨rfl,rfl⟩
 refine brE_mk (fun a5 => ?_) (fun a5 => ?_)
 ·exact ⟨by rw [if_pos a5],M2.ext⟩
 rw [if_neg (by rw [a5]; decide)]
 refine ⟨_,M2.cell 0 rfl rfl,?_⟩
 refine (refnamed_spec hrl hl x.who).mono ?_
 rintro _ w3 ⟨rfl,rfl⟩
 refine ⟨_,M2.cell 0 rfl rfl,?_⟩
 refine (refnamed_spec hrl hl x.what).mono ?_
 rintro _ w3 ⟨rfl,rfl⟩
 refine ⟨_,M2.cell 0 rfl rfl,?_⟩
 refine brE_dec (fun k2 => ?K2) (fun k2 => ?N2)
 case' K2 =>
  have hk:x.kind = 2 ∨ x.kind = 3 ∨ x.kind = 5 ∨ x.kind = 8:=.inl k2
  refine brE_true (decide_eq_true k2) ?_
 case' N2 =>
  have k2:¬ x.kind = 2:=k2
  refine brE_dec (fun k3 => ?K3) (fun k3 => ?N3)
  case' K3 =>
   have hk:x.kind = 2 ∨ x.kind = 3 ∨ x.kind = 5 ∨ x.kind = 8:=.inr (.inl k3)
   refine brE_true (decide_eq_true k3) ?_
  case' N3 =>
   have k3:¬ x.kind = 3:=k3
   refine brE_dec (fun k5 => ?K5) (fun k5 => ?N5)
   case' K5 =>
    have hk:x.kind = 2 ∨ x.kind = 3 ∨ x.kind = 5 ∨ x.kind = 8:=.inr (.inr (.inl k5))
    refine brE_true (decide_eq_true k5) ?_
   case' N5 =>
    have k5:¬ x.kind = 5:=k5
    refine brE_dec (fun k8 => ?K8) (fun k8 => ?N8)
    case' K8 =>
     have hk:x.kind = 2 ∨ x.kind = 3 ∨ x.kind = 5 ∨ x.kind = 8:=.inr (.inr (.inr k8))
    case' N8 =>
     have k8:¬ x.kind = 8:=k8
     have hs0:¬ (x.kind = 2 ∨ x.kind = 3 ∨ x.kind = 5 ∨ x.kind = 8):=by omega
     refine brE_dec (fun k4 => ?_) (fun k4 => ?_)
     ·have k4:x.kind = 4:=k4
      have hs:(speaks x).all (namedIn l) = (namedIn l x.who && namedIn l x.what):=by unfold speaks; rw [if_neg hs0,if_pos k4]; simp
      rw [hs]
      refine brE_mk (fun b1 => ?_) (fun b1 => ?_)
      ·have b1:namedIn l x.who = false:=by simpa using b1
       exact ⟨by rw [if_pos (by rw [b1]; rfl)],M2.ext⟩
      have b1:namedIn l x.who = true:=by simpa using b1
      refine brE_mk (fun b2 => ?_) (fun b2 => ?_)
      ·have b2:namedIn l x.what = false:=by simpa using b2
       exact ⟨by rw [if_pos (by rw [b2,Bool.and_false])],M2.ext⟩
      ·have b2:namedIn l x.what = true:=by simpa using b2
       exact ⟨by rw [if_neg (by rw [b1,b2]; decide),if_neg (fun e => by omega),if_neg (fun e => by omega)],M2.ext⟩
     have k4:¬ x.kind = 4:=k4
     refine brE_dec (fun k7 => ?_) (fun k7 => ?_)
     ·have k7:x.kind = 7:=k7
      have hs:(speaks x).all (namedIn l) = namedIn l x.who:=by unfold speaks; rw [if_neg hs0,if_neg k4,if_pos k7]; simp
      rw [hs]
      refine brE_mk (fun b1 => ?_) (fun b1 => ?_)
      ·have b1:namedIn l x.who = false:=by simpa using b1
       exact ⟨by rw [if_pos b1],M2.ext⟩
      ·have b1:namedIn l x.who = true:=by simpa using b1
       exact ⟨by rw [if_neg (by rw [b1]; decide),if_neg (fun e => by omega),if_neg (fun e => by omega)],M2.ext⟩
     have k7:¬ x.kind = 7:=k7
     have hs:(speaks x).all (namedIn l) = true:=by unfold speaks; rw [if_neg hs0,if_neg k4,if_neg k7]; rfl
     rw [if_neg (by rw [hs]; decide)]
     refine brE_dec (fun k11 => ?_) (fun k11 => ?_)
     ·have k11:x.kind = 11:=k11
      refine ⟨_,M2.cell 0 rfl rfl,?_⟩
      refine (numbered_spec hrl hl x.what).mono ?_
      rintro _ w3 ⟨rfl,rfl⟩
      refine brE_mk (fun b1 => ?_) (fun b1 => ?_)
      ·have b1:idIn l x.what = false:=by simpa using b1
       exact ⟨by rw [if_pos ⟨k11,b1⟩],M2.ext⟩
      ·have b1:¬ idIn l x.what = false:=by simpa using b1
       exact ⟨by rw [if_neg (fun e => b1 e.2),if_neg (fun e => by omega)],M2.ext⟩
     have k11:¬ x.kind = 11:=k11
     rw [if_neg (fun e => k11 e.1)]
     refine brE_dec (fun k1 => ?_) (fun k1 => ?_)
     ·have k1:x.kind = 1:=k1
      refine (refstates_spec hrl hl hc).mono ?_
      rintro _ w3 ⟨rfl,rfl⟩
      refine brE_mk (fun b1 => ?_) (fun b1 => ?_)
      ·have b1:namedIn l x.who = false:=by simpa using b1
       refine brE_dec (fun b2 => ?_) (fun b2 => ?_)
       ·have b2:200 <= statesN l:=by have:(statesN l:Int) >= 200:=b2; omega
        exact ⟨by rw [if_pos ⟨k1,b1,b2⟩],M2.ext⟩
       ·have b2:¬ 200 <= statesN l:=by have:¬ (statesN l:Int) >= 200:=b2; omega
        exact ⟨by rw [if_neg (fun e => b2 e.2.2)],M2.ext⟩
      ·have b1:¬ namedIn l x.who = false:=by simpa using b1
       exact ⟨by rw [if_neg (fun e => b1 e.2.1)],M2.ext⟩
     ·have k1:¬ x.kind = 1:=k1
      exact ⟨by rw [if_neg (fun e => k1 e.1)],M2.ext⟩
 all_goals
  have hs:(speaks x).all (namedIn l) = namedIn l x.what:=by unfold speaks; rw [if_pos hk]; simp
  rw [hs]
  refine brE_mk (fun b1 => ?_) (fun b1 => ?_)
  ·have b1:namedIn l x.what = false:=by simpa using b1
   exact ⟨by rw [if_pos b1],M2.ext⟩
  ·have b1:namedIn l x.what = true:=by simpa using b1
   exact ⟨by rw [if_neg (by rw [b1]; decide),if_neg (fun e => by omega),if_neg (fun e => by omega)],M2.ext⟩
set_option maxRecDepth 100000 in
theorem refCheck_spec {w:World} {A:Option Addr} {l:List Fact} {c:Nat} (h:HF w A l c) (hl:l.length <= 2 ^ 20) :
  CallsV C.P 48 #[.slice A l.length c] w fun v w' => v = .tuple #[.int .i64 ((chkF l).1:Nat),.int .i64 (chkF l).2] ∧ Ext w w':=by
 have hcap:=h.len
 refine callsV_of C_ok (args:=[_]) (plans:=plans48) Tryz.func48 rfl Tryz.ntmps48 (by kernel_rfl) (Nat.le_of_ble_eq_true rfl) ?_
 refine loopE C_ok (fun (i:Nat) => [(0,.slice A l.length c),(4,.int .i64 i)])
  (fun i w' => i <= l.length ∧ Ext w w' ∧ chkF l = chkG (l.take i) (l.drop i)) (fun i => l.length - i) 0 ⟨rfl,rfl,trivial⟩ ⟨Nat.zero_le _,Ext.refl _,rfl⟩ ?_
 rintro i w1 ⟨hi,e1,hch⟩
 refine brE_dec (fun hlt => ?_) (fun hge => ?_)
 ·have hlt:i < l.length:=by have:(i:Int) < (l.length:Nat):=hlt; omega
  have next:IntKind.i64.wrap ((i:Int) + 1) = ((i + 1:Nat):Int):=fit ⟨by omega,by omega⟩
  have hlen:(l.take i).length = i:=by rw [List.length_take]; omega
  rw [chkG_at hlt] at hch
  obtain ⟨b,o,hA,hcl⟩:=Reads.fact (h.reads.ext e1) hlt
  refine ⟨0,i,rfl,rfl,Nat.zero_le _,by omega,?_⟩
  refine ⟨i,b,o,rfl,hlt,hA,?_⟩
  refine ⟨l[i].cells,rfl,hcl,?_⟩
  have hn:=refBehind_spec (c:=c - 0) (Reads.front (c:=c) (i:=i) (h.reads.ext e1)) (by omega) (by omega) (h.nums _ (List.getElem_mem hlt))
  rw [hlen] at hn
  refine hn.mono ?_
  rintro _ w2 ⟨rfl,e2⟩
  refine brE_ndec (fun a1 => ?_) (fun a1 => ?_)
  ·have a1:¬ behindE (l.take i) l[i] = 0:=a1
   rw [if_pos a1] at hch
   exact ⟨by rw [hch],e1.trans e2⟩
  ·have a1:behindE (l.take i) l[i] = 0:=a1
   rw [if_neg (fun e => e a1)] at hch
   refine ⟨_,next,?_⟩
   exact ⟨i + 1,⟨rfl,rfl,trivial⟩,⟨hlt,e1.trans e2,hch⟩,by omega⟩
 ·have:i = l.length:=by have:¬ (i:Int) < (l.length:Nat):=hge; omega
  subst this
  rw [List.drop_length] at hch
  exact ⟨by rw [hch]; rfl,e1⟩
end Go.Proofs.YtdpdjcopkehdjaaGreat
namespace Go.Proofs.YtdpdjcopkehdjaaGreat.Rk
open Go.Eng Go.RowKit
def firstE (e0 e1 e2 e3:Int):Int:=if e0 ≠ 0 then e0 else if e1 ≠ 0 then e1 else if e2 ≠ 0 then e2 else e3
theorem first_spec {w:World} {gF f0 f1 f2 f3:Nat} {c0 c1 c2 c3:Array Value} {e0 e1 e2 e3:Int} (hF:w.heap[gF]? = some (.cells #[.func (.func f0) #[] c0,.func (.func f1) #[] c1,.func (.func f2) #[] c2,.func (.func f3) #[] c3] 142 (0,0)))
  (g0:C.can f0 = true) (g1:C.can f1 = true) (g2:C.can f2 = true) (g3:C.can f3 = true)
  (k0:∀ w',Ext w w' -> CallsV C.P f0 (#[] ++ ([]:List Value).toArray ++ c0) w' fun v w'' => v = .int .i64 e0 ∧ Ext w' w'')
  (k1:∀ w',Ext w w' -> CallsV C.P f1 (#[] ++ ([]:List Value).toArray ++ c1) w' fun v w'' => v = .int .i64 e1 ∧ Ext w' w'')
  (k2:∀ w',Ext w w' -> CallsV C.P f2 (#[] ++ ([]:List Value).toArray ++ c2) w' fun v w'' => v = .int .i64 e2 ∧ Ext w' w'')
  (k3:∀ w',Ext w w' -> CallsV C.P f3 (#[] ++ ([]:List Value).toArray ++ c3) w' fun v w'' => v = .int .i64 e3 ∧ Ext w' w'') :
  CallsV C.P 73 #[.slice (some ⟨gF,0,none⟩) 4 4] w fun v w' => v = .int .i64 (firstE e0 e1 e2 e3) ∧ Ext w w':=by
 refine callsV_of C_ok (args:=[_]) (plans:=[]) Tryz.func73 rfl Tryz.ntmps73 (by kernel_rfl) (Nat.le_of_ble_eq_true rfl) ?_
 refine loopE C_ok (fun (i:Nat) => [(6,.slice (some ⟨gF,0,none⟩) 4 4),(7,.int .i64 4),(8,.int .i64 (i:Nat))])
  (fun i w' => i <= 4 ∧ Ext w w' ∧ (0 < i -> e0 = 0) ∧ (1 < i -> e1 = 0) ∧ (2 < i -> e2 = 0) ∧ (3 < i -> e3 = 0)) (fun i => 4 - i) 0 ⟨rfl,rfl,rfl,trivial⟩
  ⟨Nat.zero_le _,Ext.refl _,(fun h => absurd h (by omega)),(fun h => absurd h (by omega)),(fun h => absurd h (by omega)),(fun h => absurd h (by omega))⟩ ?_
 rintro i w1 ⟨hi,e,z0,z1,z2,z3⟩
 refine brE_dec (fun hlt => ?_) (fun hge => ?_)
 ·have hlt:i < 4:=by have:(i:Int) < 4:=hlt; omega
  have next:IntKind.i64.wrap ((i:Int) + 1) = ((i + 1:Nat):Int):=fit ⟨by omega,by omega⟩
  refine ⟨i,gF,0,rfl,hlt,rfl,?_⟩
  rcases (show i = 0 ∨ i = 1 ∨ i = 2 ∨ i = 3 by omega) with rfl | rfl | rfl | rfl
  ·refine ⟨_,cell_of_block (i:=0) (e.heap hF) rfl,?_⟩
   refine brE_true g0 ?_
   refine (k0 w1 e).mono ?_
   rintro v w2 ⟨rfl,e2'⟩
   refine brE_ndec (fun b => ?_) (fun b => ?_)
   ·have b:e0 ≠ 0:=b
    exact ⟨congrArg _ (by unfold firstE; rw [if_pos b]),e.trans e2'⟩
   ·have b:e0 = 0:=b
    refine ⟨_,next,?_⟩
    exact ⟨1,⟨rfl,rfl,rfl,trivial⟩,⟨by omega,e.trans e2',fun _ => b,(fun h => absurd h (by omega)),(fun h => absurd h (by omega)),(fun h => absurd h (by omega))⟩,by decide⟩
  ·refine ⟨_,cell_of_block (i:=1) (e.heap hF) rfl,?_⟩
   refine brE_true g1 ?_
   refine (k1 w1 e).mono ?_
   rintro v w2 ⟨rfl,e2'⟩
   have q0:=z0 (by omega)
   refine brE_ndec (fun b => ?_) (fun b => ?_)
   ·have b:e1 ≠ 0:=b
    exact ⟨congrArg _ (by unfold firstE; rw [if_neg (fun h => h q0),if_pos b]),e.trans e2'⟩
   ·have b:e1 = 0:=b
    refine ⟨_,next,?_⟩
    exact ⟨2,⟨rfl,rfl,rfl,trivial⟩,⟨by omega,e.trans e2',fun _ => q0,fun _ => b,(fun h => absurd h (by omega)),(fun h => absurd h (by omega))⟩,by decide⟩
  ·refine ⟨_,cell_of_block (i:=2) (e.heap hF) rfl,?_⟩
   refine brE_true g2 ?_
   refine (k2 w1 e).mono ?_
   rintro v w2 ⟨rfl,e2'⟩
   have q0:=z0 (by omega)
   have q1:=z1 (by omega)
   refine brE_ndec (fun b => ?_) (fun b => ?_)
   ·have b:e2 ≠ 0:=b
    exact ⟨congrArg _ (by unfold firstE; rw [if_neg (fun h => h q0),if_neg (fun h => h q1),if_pos b]),e.trans e2'⟩
   ·have b:e2 = 0:=b
    refine ⟨_,next,?_⟩
    exact ⟨3,⟨rfl,rfl,rfl,trivial⟩,⟨by omega,e.trans e2',fun _ => q0,fun _ => q1,fun _ => b,(fun h => absurd h (by omega))⟩,by decide⟩
  ·refine ⟨_,cell_of_block (i:=3) (e.heap hF) rfl,?_⟩
   refine brE_true g3 ?_
   refine (k3 w1 e).mono ?_
   rintro v w2 ⟨rfl,e2'⟩
   have q0:=z0 (by omega)
   have q1:=z1 (by omega)
   have q2:=z2 (by omega)
   refine brE_ndec (fun b => ?_) (fun b => ?_)
   ·have b:e3 ≠ 0:=b
    exact ⟨congrArg _ (by unfold firstE; rw [if_neg (fun h => h q0),if_neg (fun h => h q1),if_neg (fun h => h q2)]),e.trans e2'⟩
   ·have b:e3 = 0:=b
    refine ⟨_,next,?_⟩
    exact ⟨4,⟨rfl,rfl,rfl,trivial⟩,⟨by omega,e.trans e2',fun _ => q0,fun _ => q1,fun _ => q2,fun _ => b⟩,by decide⟩
 ·have hi4:i = 4:=by have:¬ (i:Int) < 4:=hge; omega
  have q0:=z0 (by omega)
  have q1:=z1 (by omega)
  have q2:=z2 (by omega)
  have q3:=z3 (by omega)
  exact ⟨congrArg _ (by unfold firstE; rw [if_neg (fun h => h q0),if_neg (fun h => h q1),if_neg (fun h => h q2),q3]),e⟩
def chkR (f:List Fact) (re:Int) (s:Scn) (gs:List (Int × Int)):Int:=firstE (chkF f).2 re (schk s) (gchk gs)
theorem check_spec {w:World} {A B:Option Addr} {f:List Fact} {c d:Nat} {gs:List (Int × Int)} {p:Option Addr} {re:Int} (hf:HF w A f c) (hl:f.length <= 2 ^ 20) (s:Scn) (hr:Reads w B (prCells gs))
  (hR:∀ w' g5,Ext w w' -> w'.heap[g5]? = some (.cells #[.pointer p] 104 (0,0)) -> CallsV C.P 75 (#[] ++ ([]:List Value).toArray ++ #[.pointer (some ⟨g5,0,none⟩)]) w' fun v w'' => v = .int .i64 re ∧ Ext w' w'') :
  CallsV C.P 39 #[.slice A f.length c,.pointer p,s.val,.slice B gs.length d] w fun v w' => v = .int .i64 (chkR f re s gs) ∧ Ext w w':=by
 refine callsV_of C_ok (args:=[_,_,_,_]) (plans:=[]) Tryz.func39 rfl Tryz.ntmps39 (by kernel_rfl) (Nat.le_of_ble_eq_true rfl) ?_
 intro g4 w1 h1
 have M1:Mem w w1 [(g4,.cells #[.slice A f.length c] 22 (0,0))]:=(Mem.start w).alloc h1
 intro g5 w2 h2
 have M2:Mem w w2 [(g5,.cells #[.pointer p] 104 (0,0)),(g4,.cells #[.slice A f.length c] 22 (0,0))]:=M1.alloc h2
 intro g6 w3 h3
 have M3:Mem w w3 [(g6,.cells s.cells.toArray 24 (0,0)),(g5,.cells #[.pointer p] 104 (0,0)),(g4,.cells #[.slice A f.length c] 22 (0,0))]:=M2.alloc h3
 intro g7 w4 h4
 have M4:Mem w w4 [(g7,.cells #[.slice B gs.length d] 25 (0,0)),(g6,.cells s.cells.toArray 24 (0,0)),(g5,.cells #[.pointer p] 104 (0,0)),(g4,.cells #[.slice A f.length c] 22 (0,0))]:=M3.alloc h4
 refine ⟨[],[.pointer (some ⟨g4,0,none⟩)],rfl,rfl,?_⟩
 refine ⟨[],[.pointer (some ⟨g5,0,none⟩)],rfl,rfl,?_⟩
 refine ⟨[],[.pointer (some ⟨g6,0,none⟩)],rfl,rfl,?_⟩
 refine ⟨[],[.pointer (some ⟨g7,0,none⟩)],rfl,rfl,?_⟩
 intro gF w5 h5
 have M5:=M4.alloc h5
 have hF:=h5.here
 refine (first_spec (e0:=(chkF f).2) (e1:=re) (e2:=schk s) (e3:=gchk gs) hF rfl rfl rfl rfl (fun w' e => ?_) (fun w' e => ?_) (fun w' e => ?_) (fun w' e => ?_)).mono ?_
 ·have M:=M5.grow e
  refine callsV_of C_ok (args:=[_]) (plans:=[]) Tryz.func74 rfl Tryz.ntmps74 (by kernel_rfl) (Nat.le_of_ble_eq_true rfl) ?_
  refine ⟨_,M.cell 4 rfl rfl,?_⟩
  refine (Go.Proofs.YtdpdjcopkehdjaaGreat.Check_spec (hf.ext M.ext) hl).mono ?_
  rintro v w6 ⟨rfl,e6⟩
  exact ⟨rfl,e6⟩
 ·exact hR w' g5 (M5.grow e).ext ((M5.grow e).get 3 rfl)
 ·have M:=M5.grow e
  refine callsV_of C_ok (args:=[_]) (plans:=[]) Tryz.func77 rfl Tryz.ntmps77 (by kernel_rfl) (Nat.le_of_ble_eq_true rfl) ?_
  refine ⟨s.cells,rfl,M.rd 2 rfl,?_⟩
  exact (CheckScene_spec s w').mono fun v w'' h => h
 ·have M:=M5.grow e
  refine callsV_of C_ok (args:=[_]) (plans:=[]) Tryz.func79 rfl Tryz.ntmps79 (by kernel_rfl) (Nat.le_of_ble_eq_true rfl) ?_
  refine ⟨_,M.cell 1 rfl rfl,?_⟩
  exact (CheckGuests_spec (hr.ext M.ext)).mono fun v w'' h => h
 ·rintro v w6 ⟨rfl,e6⟩
  exact ⟨rfl,M5.ext.trans e6⟩
theorem underRp:Tryz.prog.underlying 104 = some (.pointer (Tryz.prog.pointee 104)):=by kernel_rfl
theorem eqNilR (x y:Operand) (p:Option Addr):EqIs C.P .eql 104 x y (.pointer p) (.pointer none) p.isNone:=by
 intro w
 have hu:C.P.underlying 104 = some (.pointer (C.P.pointee 104)):=underRp
 have h1:(eqGuard .eql 104 x y (.pointer p) (.pointer none)).run C.P w = .ok () w:=by simp [eqGuard]
 rw [Sem.run_bind,h1]
 simp only [Result.andThen_ok]
 exact run_eql_pointer_nil _ _ _ hu
theorem common_spec {w:World} {A B:Option Addr} {f:List Fact} {c d:Nat} {gs:List (Int × Int)} (hf:HF w A f c) (hl:f.length <= 2 ^ 20) (s:Scn) (hr:Reads w B (prCells gs)) :
  CallsV C.P 43 #[.slice A f.length c,s.val,.slice B gs.length d] w fun v w' => v = .int .i64 (chkR f 0 s gs) ∧ Ext w w':=by
 refine callsV_of C_ok (args:=[_,_,_]) (plans:=[]) Tryz.func43 rfl Tryz.ntmps43 (by kernel_rfl) (Nat.le_of_ble_eq_true rfl) ?_
 intro g4 w1 h1
 have M1:Mem w w1 [(g4,.cells s.cells.toArray 24 (0,0))]:=(Mem.start w).alloc h1
 have hX:chkR f 0 s gs = if (chkF f).2 ≠ 0 then (chkF f).2 else if schk s ≠ 0 then schk s else gchk gs:=by
  unfold chkR firstE
  rw [if_neg (show ¬ (0:Int) ≠ 0 from fun h => h rfl)]
 refine (Go.Proofs.YtdpdjcopkehdjaaGreat.refCheck_spec (hf.ext M1.ext) hl).mono ?_
 rintro v w2 ⟨rfl,e2⟩
 have M2:=M1.grow e2
 refine brE_ndec (fun b => ?_) (fun b => ?_)
 ·have b:(chkF f).2 ≠ 0:=b
  exact ⟨congrArg _ (by rw [hX,if_pos b]),M2.ext⟩
 have b:(chkF f).2 = 0:=b
 refine ⟨s.cells,rfl,M2.rd 0 rfl,?_⟩
 refine (refScene_spec s w2).mono ?_
 rintro v w3 ⟨rfl,e3⟩
 have M3:=M2.grow e3
 refine brE_ndec (fun b2 => ?_) (fun b2 => ?_)
 ·have b2:schk s ≠ 0:=b2
  exact ⟨congrArg _ (by rw [hX,if_neg (fun h => h b),if_pos b2]),M3.ext⟩
 have b2:schk s = 0:=b2
 refine (refGuests_spec (hr.ext M3.ext)).mono ?_
 rintro v w4 ⟨rfl,e4⟩
 exact ⟨congrArg _ (by rw [hX,if_neg (fun h => h b),if_neg (fun h => h b2)]),M3.ext.trans e4⟩
def profsOf (f:List Fact) (s:Scn) (gs:List (Int × Int)):List Prof:=gs.map (profOf f s)
theorem prRd {w:World} {B:Option Addr} {gs:List (Int × Int)} (h:Reads w B (prCells gs)) {i:Nat} (hi:i < gs.length):∃ b o,B = some ⟨b,o,none⟩ ∧ Rd w b (o + i * 2) (guestCells gs[i]) :=
 Reads.elem (enc:=fun p:Int × Int => guestCells p) (k:=2) (fun _ => rfl) (by omega) h hi
set_option maxRecDepth 100000 in
theorem profiles_spec {w:World} {A B:Option Addr} {f:List Fact} {c d:Nat} {gs:List (Int × Int)} (hf:HF w A f c) (hl:f.length <= 2 ^ 20) (s:Scn) (hr:Reads w B (prCells gs)) (hg:∀ g ∈ gs,In64 g.1) (hgl:gs.length <= 2 ^ 20) :
  CallsV C.P 40 #[.slice A f.length c,s.val,.slice B gs.length d] w fun v w' => NewL Prof.cells 38 7 w.heap.size w' v (profsOf f s gs) ∧ Ext w w':=by
 refine callsV_of C_ok (args:=[_,_,_]) (plans:=[]) Tryz.func40 rfl Tryz.ntmps40 (by kernel_rfl) (Nat.le_of_ble_eq_true rfl) ?_
 intro g4 w1 h1
 have M1:Mem w w1 [(g4,.cells s.cells.toArray 24 (0,0))]:=(Mem.start w).alloc h1
 refine loopE C_ok (fun (p:Nat × Value) => [(0,.slice A f.length c),(4,.pointer (some ⟨g4,0,none⟩)),(7,p.2),(10,.slice B gs.length d),(11,.int .i64 gs.length),(12,.int .i64 (p.1:Nat))])
  (fun p w' => p.1 <= gs.length ∧ NewL Prof.cells 38 7 w1.heap.size w' p.2 (profsOf f s (gs.take p.1)) ∧ Ext w1 w') (fun p => gs.length - p.1) (0,.slice none 0 0) ⟨rfl,rfl,rfl,rfl,rfl,rfl,trivial⟩
  ⟨Nat.zero_le _,newL_nil,Ext.refl _⟩ ?_
 rintro ⟨i,v⟩ w2 ⟨hi',ho',e2⟩
 have hi:i <= gs.length:=hi'
 have ho:NewL Prof.cells 38 7 w1.heap.size w2 v (profsOf f s (gs.take i)):=ho'
 clear hi' ho'
 have hlen:(profsOf f s (gs.take i)).length <= i:=by unfold profsOf; rw [List.length_map,List.length_take]; omega
 refine brE_dec (fun hlt => ?_) (fun hge => ?_)
 ·have hlti:i < gs.length:=by have:(i:Int) < (gs.length:Nat):=hlt; omega
  have next:IntKind.i64.wrap ((i:Int) + 1) = ((i + 1:Nat):Int):=fit ⟨by omega,by omega⟩
  obtain ⟨g,hge⟩:∃ g,g = gs[i]:=⟨_,rfl⟩
  have hs:profsOf f s (gs.take (i + 1)) = profsOf f s (gs.take i) ++ [profOf f s g]:=by unfold profsOf; rw [List.take_succ_eq_append_getElem hlti,List.map_append,<-hge]; rfl
  have hg1:In64 g.1:=by rw [hge]; exact hg _ (List.getElem_mem hlti)
  have M2:=M1.grow e2
  obtain ⟨b,o,hB,hc⟩:=prRd (hr.ext M2.ext) hlti
  rw [<-hge] at hc
  refine ⟨i,b,o,rfl,hlti,hB,?_⟩
  refine ⟨guestCells g,rfl,hc,?_⟩
  intro g9 w3 h3
  refine ⟨rfl,_,_,h3.here,Nat.le_of_ble_eq_true rfl,rfl,?_⟩
  intro w4 h4
  have e24:Ext w2 w4:=h4.ext_of h3.ext (by rw [h3.new]; exact Nat.le_refl _)
  have M4:=M2.grow e24
  have h4:Put w3 g9 (.cells (guestCells g).toArray 44 (0,0)) w4:=h4
  refine ⟨s.cells,rfl,M4.rd 0 rfl,?_⟩
  refine ⟨guestCells g,rfl,Rd.of_block h4.here,?_⟩
  refine (profile_spec (hf.ext M4.ext) hl s hg1).mono ?_
  rintro v' w5 ⟨rfl,e5⟩
  intro g6 w6 h6
  have e26:=(e24.trans e5).trans h6.ext
  have ho6:=ho.ext e26
  refine ⟨rfl,rfl,rfl,w1.heap.size,_,_,(profOf f s g).cells,ho6,(e2.trans e26).size,Nat.le_of_ble_eq_true rfl,rfl,rfl,.inr ⟨g6,0,rfl,Rd.of_block h6.here⟩,rfl,rfl,by omega,by simp only [maxLen]; omega,?_⟩
  intro v7 w7 ho7 hg7 hpl
  refine ⟨_,next,?_⟩
  refine ⟨(i + 1,v7),⟨rfl,rfl,rfl,rfl,rfl,rfl,trivial⟩,⟨hlti,?_,app_ext (e2.trans e26) ho6 hg7⟩,by show gs.length - (i + 1) < gs.length - i; omega⟩
  show NewL _ _ _ _ _ _ (profsOf f s (gs.take (i + 1)))
  rw [hs]
  unfold NewL
  rw [List.length_append,List.flatMap_append]
  simpa using ho7
 ·have hie:i = gs.length:=by have:¬ (i:Int) < (gs.length:Nat):=hge; omega
  rw [hie,List.take_length] at ho
  exact ⟨ho.base M1.ext.size,M1.ext.trans e2⟩
def profsR (f:List Fact) (s:Scn) (gs:List (Int × Int)):List Prof:=if chkR f 0 s gs = 0 then profsOf f s gs else []
theorem gchk_len {gs:List (Int × Int)} (h:gchk gs = 0):gs.length <= 24:=by
 unfold gchk at h
 split at h
 ·cases h
 ·omega
theorem chkR_zero {f:List Fact} {re:Int} {s:Scn} {gs:List (Int × Int)} (h:chkR f re s gs = 0):(chkF f).2 = 0 ∧ re = 0 ∧ schk s = 0 ∧ gchk gs = 0:=by
 unfold chkR firstE at h
 by_cases h0:(chkF f).2 = 0
 ·rw [if_neg (fun e => e h0)] at h
  by_cases h1:re = 0
  ·rw [if_neg (fun e => e h1)] at h
   by_cases h2:schk s = 0
   ·rw [if_neg (fun e => e h2)] at h
    exact ⟨h0,h1,h2,h⟩
   ·rw [if_pos h2] at h; exact absurd h h2
  ·rw [if_pos h1] at h; exact absurd h h1
 ·rw [if_pos h0] at h; exact absurd h h0
end Go.Proofs.YtdpdjcopkehdjaaGreat.Rk
namespace Go.Proofs.YtdpdjcopkehdjaaGreat.Rk
open Go.Eng Go.RowKit
set_option maxRecDepth 100000 in
theorem refProfiles_spec {w:World} {A B:Option Addr} {f:List Fact} {c d:Nat} {gs:List (Int × Int)} (hf:HF w A f c) (hl:f.length <= 2 ^ 20) (s:Scn) (hr:Reads w B (prCells gs)) (hg:∀ g ∈ gs,In64 g.1) :
  CallsV C.P 14 #[.slice A f.length c,s.val,.slice B gs.length d] w fun v w' => (∃ v',v = .tuple #[v',.int .i64 (chkR f 0 s gs)] ∧ NewL Prof.cells 38 7 w.heap.size w' v' (profsR f s gs)) ∧ Ext w w':=by
 refine callsV_of C_ok (args:=[_,_,_]) (plans:=plans14) Tryz.func14 rfl Tryz.ntmps14 (by kernel_rfl) (Nat.le_of_ble_eq_true rfl) ?_
 intro g4 w1 h1
 have M1:Mem w w1 [(g4,.cells s.cells.toArray 24 (0,0))]:=(Mem.start w).alloc h1
 refine ⟨s.cells,rfl,M1.rd 0 rfl,?_⟩
 refine (common_spec (hf.ext M1.ext) hl s (hr.ext M1.ext)).mono ?_
 rintro v w2 ⟨rfl,e2⟩
 have M2:=M1.grow e2
 refine brE_ndec (fun b => ?_) (fun b => ?_)
 ·have b:chkR f 0 s gs ≠ 0:=b
  refine ⟨⟨_,rfl,?_⟩,M2.ext⟩
  have:profsR f s gs = []:=if_neg b
  rw [this]; exact newL_nil
 have b:chkR f 0 s gs = 0:=b
 have hgl:=gchk_len (chkR_zero b).2.2.2
 refine loopE C_ok (fun (p:Nat × Value) => [(0,.slice A f.length c),(2,.slice B gs.length d),(4,.pointer (some ⟨g4,0,none⟩)),(9,p.2),(10,.int .i64 (p.1:Nat))])
  (fun p w' => p.1 <= gs.length ∧ NewL Prof.cells 38 7 w2.heap.size w' p.2 (profsOf f s (gs.take p.1)) ∧ Ext w2 w') (fun p => gs.length - p.1) (0,.slice none 0 0) ⟨rfl,rfl,rfl,rfl,rfl,trivial⟩
  ⟨Nat.zero_le _,newL_nil,Ext.refl _⟩ ?_
 rintro ⟨i,v⟩ w3 ⟨hi',ho',e3⟩
 have hi:i <= gs.length:=hi'
 have ho:NewL Prof.cells 38 7 w2.heap.size w3 v (profsOf f s (gs.take i)):=ho'
 clear hi' ho'
 have hlen:(profsOf f s (gs.take i)).length <= i:=by unfold profsOf; rw [List.length_map,List.length_take]; omega
 refine brE_dec (fun hlt => ?_) (fun hge => ?_)
 ·have hlti:i < gs.length:=by have:(i:Int) < (gs.length:Nat):=hlt; omega
  have next:IntKind.i64.wrap ((i:Int) + 1) = ((i + 1:Nat):Int):=fit ⟨by omega,by omega⟩
  obtain ⟨g,hge⟩:∃ g,g = gs[i]:=⟨_,rfl⟩
  have hs:profsOf f s (gs.take (i + 1)) = profsOf f s (gs.take i) ++ [profOf f s g]:=by unfold profsOf; rw [List.take_succ_eq_append_getElem hlti,List.map_append,<-hge]; rfl
  have hg1:In64 g.1:=by rw [hge]; exact hg _ (List.getElem_mem hlti)
  have M3:=M2.grow e3
  obtain ⟨b,o,hB,hc⟩:=prRd (hr.ext M3.ext) hlti
  rw [<-hge] at hc
  refine ⟨s.cells,rfl,M3.rd 0 rfl,?_⟩
  refine ⟨i,b,o,rfl,hlti,hB,?_⟩
  refine ⟨guestCells g,rfl,hc,?_⟩
  refine (refProfile_spec (hf.ext M3.ext) hl s hg1).mono ?_
  rintro v' w5 ⟨rfl,e5⟩
  intro g6 w6 h6
  have e26:=e5.trans h6.ext
  have ho6:=ho.ext e26
  refine ⟨rfl,rfl,rfl,w2.heap.size,_,_,(profOf f s g).cells,ho6,(e3.trans e26).size,Nat.le_of_ble_eq_true rfl,rfl,rfl,.inr ⟨g6,0,rfl,Rd.of_block h6.here⟩,rfl,rfl,by omega,by simp only [maxLen]; omega,?_⟩
  intro v7 w7 ho7 hg7 hpl
  refine ⟨_,next,?_⟩
  refine ⟨(i + 1,v7),⟨rfl,rfl,rfl,rfl,rfl,trivial⟩,⟨hlti,?_,app_ext (e3.trans e26) ho6 hg7⟩,by show gs.length - (i + 1) < gs.length - i; omega⟩
  show NewL _ _ _ _ _ _ (profsOf f s (gs.take (i + 1)))
  rw [hs]
  unfold NewL
  rw [List.length_append,List.flatMap_append]
  simpa using ho7
 ·have hie:i = gs.length:=by have:¬ (i:Int) < (gs.length:Nat):=hge; omega
  rw [hie,List.take_length] at ho
  refine ⟨⟨_,by rw [b],?_⟩,M2.ext.trans e3⟩
  have:profsR f s gs = profsOf f s gs:=if_pos b
  rw [this]; exact ho.base M2.ext.size
def fewR (f:List Fact) (n m:Nat):Prop:=f.length <= 60 ∧ n <= 30 ∧ m <= 30
theorem fewR_spec {w:World} {A R B:Option Addr} {f:List Fact} {c n nc m d:Nat} (hf:HF w A f c) :
  CallsV C.P 10 #[.slice A f.length c,.agg #[.slice R n nc],.slice B m d] w fun v w' => (∃ b,v = .bool b ∧ (b = true -> fewR f n m)) ∧ Ext w w':=by
 have hcap:=hf.cap
 refine callsV_of C_ok (args:=[_,_,_]) (plans:=[]) Tryz.func10 rfl Tryz.ntmps10 (by kernel_rfl) (Nat.le_of_ble_eq_true rfl) ?_
 intro g4 w1 h1
 refine brE_dec (fun c1 => ?_) (fun c1 => ?_)
 ·exact ⟨⟨false,rfl,fun h => by cases h⟩,h1.ext⟩
 have c1:¬ ((f.length:Nat):Int) > 60:=c1
 refine ⟨_,cell_of_block (i:=0) h1.here rfl,?_⟩
 refine brE_dec (fun c2 => ?_) (fun c2 => ?_)
 ·exact ⟨⟨false,rfl,fun h => by cases h⟩,h1.ext⟩
 have c2:¬ ((n:Nat):Int) > 30:=c2
 refine brE_dec (fun c3 => ?_) (fun c3 => ?_)
 ·exact ⟨⟨false,rfl,fun h => by cases h⟩,h1.ext⟩
 have c3:¬ ((m:Nat):Int) > 30:=c3
 refine loopE C_ok (fun (i:Nat) => [(0,.slice A f.length c),(7,.int .i64 (i:Nat))]) (fun i w' => i <= f.length ∧ w' = w1) (fun i => f.length - i) 0 ⟨rfl,rfl,trivial⟩ ⟨Nat.zero_le _,rfl⟩ ?_
 rintro i w2 ⟨hi,rfl⟩
 refine brE_dec (fun hlt => ?_) (fun hge => ?_)
 ·have hlt:i < f.length:=by have:(i:Int) < (f.length:Nat):=hlt; omega
  obtain ⟨b,o,hA,hc⟩:=Reads.fact (hf.ext h1.ext).reads hlt
  refine ⟨i,b,o,rfl,hlt,hA,?_⟩
  refine ⟨_,hc 8 _ rfl,?_⟩
  refine brE_dec (fun c3 => ?_) (fun c3 => ?_)
  ·exact ⟨⟨false,rfl,fun h => by cases h⟩,h1.ext⟩
  refine ⟨((i + 1:Nat):Int),fit ⟨by omega,by omega⟩,?_⟩
  exact ⟨i + 1,⟨rfl,rfl,trivial⟩,⟨hlt,rfl⟩,by show f.length - (i + 1) < f.length - i; omega⟩
 ·exact ⟨⟨true,rfl,fun _ => ⟨by omega,by omega,by omega⟩⟩,h1.ext⟩
end Go.Proofs.YtdpdjcopkehdjaaGreat.Rk
namespace Go.Proofs.YtdpdjcopkehdjaaGreat.Rk
open Go.Eng Go.RowKit
theorem someRules {w:World} {g5 g6:Nat} {R:Option Addr} {l:List Rl} {c:Nat} (hR:HRs w R l c) (h6:w.heap[g6]? = some (.cells #[.slice R l.length c] 29 (0,0))) (h:w.heap[g5]? = some (.cells #[.pointer (some ⟨g6,0,none⟩)] 104 (0,0))) :
  CallsV C.P 75 (#[] ++ ([]:List Value).toArray ++ #[.pointer (some ⟨g5,0,none⟩)]) w fun v w' => v = .int .i64 (chkRl l) ∧ Ext w w':=by
 refine callsV_of C_ok (args:=[_]) (plans:=[]) Tryz.func75 rfl Tryz.ntmps75 (by kernel_rfl) (Nat.le_of_ble_eq_true rfl) ?_
 refine ⟨_,cell_of_block (i:=0) h rfl,?_⟩
 refine ⟨_,eqNilR _ _ _,?_⟩
 refine ⟨_,cell_of_block (i:=0) h rfl,?_⟩
 refine ⟨[.slice R l.length c],rfl,Rd.of_block h6,?_⟩
 exact (rulesCheck_spec hR).mono fun v w' h => h
theorem relL_mem {l:List Rl} {p:List Prof} {x:Arrow} (hx:x ∈ relL l p):∃ a b:Nat,a < p.length ∧ b < p.length ∧ a ≠ b ∧ x.fr = (a:Nat) ∧ x.to = (b:Nat) ∧ ∃ (n:Nat) (h:n < l.length),x.rule = (n:Nat) ∧ x.wt = l[n].weight ∧ ruledI l (p.getD a default) (p.getD b default) = (n:Nat):=by
 unfold relL at hx
 simp only [List.mem_flatMap,List.mem_range,mem_rwR] at hx
 obtain ⟨a,ha,b,hb,hab,hx⟩:=hx
 unfold arrF at hx
 split at hx
 ·rename_i h0
  have hlt:=ruledI_lt l (p.getD a default) (p.getD b default)
  obtain ⟨n,hn⟩:=Int.eq_ofNat_of_zero_le h0
  have hnl:n < l.length:=by omega
  rw [List.mem_singleton.1 hx]
  exact ⟨a,b,ha,hb,hab,rfl,rfl,n,hnl,hn,by show wtOf l _ = _; rw [hn,wtOf_nat hnl],hn⟩
 ·cases hx
theorem relL_len (l:List Rl) (p:List Prof) (hp:p.length <= 24):(relL l p).length <= 24 * 48:=by
 rw [<-(prog_perm l p).length_eq]
 have n3:=progTo_le l p p.length
 have n5:p.length * (2 * p.length) <= 24 * 48:=Nat.mul_le_mul hp (by omega)
 omega
theorem relL_nums {l:List Rl} {p:List Prof} (hp:p.length <= 24) (hl:l.length <= 24) (hw:∀ x ∈ l,In64 x.weight):∀ x ∈ relL l p,In64 x.fr ∧ In64 x.to ∧ In64 x.rule ∧ In64 x.wt:=by
 intro x hx
 obtain ⟨a,b,ha,hb,_,e1,e2,n,hn,e3,e4,_⟩:=relL_mem hx
 refine ⟨?_,?_,?_,?_⟩
 ·rw [e1]; exact ⟨by omega,by omega⟩
 ·rw [e2]; exact ⟨by omega,by omega⟩
 ·rw [e3]; exact ⟨by omega,by omega⟩
 ·rw [e4]; exact hw _ (List.getElem_mem hn)
end Go.Proofs.YtdpdjcopkehdjaaGreat.Rk
namespace Go.Proofs.YtdpdjcopkehdjaaGreat.Rk
open Go.Eng Go.RowKit
theorem form_parts {x:Fact} (h:formE x = 0):headB x = true ∧ rightB x = true:=by
 unfold formE at h
 split at h
 ·next hb =>
  rw [Bool.and_eq_true,Bool.and_eq_true] at hb
  exact ⟨hb.1.1,hb.2⟩
 ·cases h
theorem credL_range {a:List Fact} (hf:∀ x ∈ a,formE x = 0) (p s:Int):0 <= credL a p s ∧ credL a p s <= 100001:=by
 unfold credL
 split
 ·next x hx =>
  have hm:x ∈ a:=(List.mem_filter.1 (List.mem_of_getLast? hx)).1
  have hh:=(form_parts (hf x hm)).1
  unfold headB at hh
  simp only [Bool.and_eq_true,decide_eq_true_iff] at hh
  omega
 ·omega
theorem relL_valid {l:List Rl} {p:List Prof} (hp:p.length <= 24) (hz:chkRl l = 0):Valid ((p.length:Nat):Int) (relL l p):=by
 obtain ⟨hl,hgood⟩:=chkRl_zero hz
 refine valid_of (by omega) (by omega) (fun x hx => ?_) (relL_sorted l p)
 obtain ⟨a,b,ha,hb,hab,e1,e2,n,hn,e3,e4,_⟩:=relL_mem hx
 have hw:=(hgood _ (List.getElem_mem hn)).2.2
 unfold goodA
 simp only [Bool.and_eq_true,Bool.not_eq_true',decide_eq_true_iff,decide_eq_false_iff_not]
 omega
theorem rel_find {l:List Rl} {p:List Prof} (hp:p.length <= 24) (hz:chkRl l = 0) (ps:List (Int × Int)) {a b:Nat} (ha:a < p.length) (hb:b < p.length) :
  findA (waiveL (relL l p) ps) (a:Nat) (b:Nat) = if a ≠ b ∧ ruledI l (p.getD a default) (p.getD b default) >= 0 ∧ (((a:Nat):Int),((b:Nat):Int)) ∉ ps
   then some ⟨(a:Nat),(b:Nat),ruledI l (p.getD a default) (p.getD b default),wtOf l (ruledI l (p.getD a default) (p.getD b default))⟩ else none:=by
 have hv:=(relL_valid hp hz).filter (fun x => !decide ((x.fr,x.to) ∈ ps))
 split
 ·next hc =>
  obtain ⟨h1,h2,h3⟩:=hc
  have hm:(⟨(a:Nat),(b:Nat),ruledI l (p.getD a default) (p.getD b default),wtOf l (ruledI l (p.getD a default) (p.getD b default))⟩:Arrow) ∈ waiveL (relL l p) ps:=by
   refine waive_mem.2 ⟨?_,h3⟩
   unfold relL
   simp only [List.mem_flatMap,List.mem_range,mem_rwR]
   refine ⟨a,ha,b,hb,h1,?_⟩
   unfold arrF
   rw [if_pos h2]
   exact List.mem_singleton.2 rfl
  obtain ⟨i,hi,e⟩:=List.getElem_of_mem hm
  rw [<-e]
  refine findA_of hv hi ?_
  have e:(waiveL (relL l p) ps)[i] = _:=e
  show (waiveL (relL l p) ps)[i].fr = _ ∧ (waiveL (relL l p) ps)[i].to = _
  rw [e]
  exact ⟨rfl,rfl⟩
 ·next hc =>
  refine findA_none fun j hj hh => hc ?_
  have hm:=List.getElem_mem hj
  obtain ⟨h1,h3⟩:=waive_mem.1 hm
  obtain ⟨a',b',_,_,hab,e1,e2,n,_,_,_,e5⟩:=relL_mem h1
  have ea:a' = a:=by have:=e1.symm.trans hh.1; omega
  have eb:b' = b:=by have:=e2.symm.trans hh.2; omega
  subst ea eb
  rw [hh.1,hh.2] at h3
  exact ⟨hab,by rw [e5]; omega,h3⟩
end Go.Proofs.YtdpdjcopkehdjaaGreat.Rk
namespace Go.Proofs.YtdpdjcopkehdjaaGreat.Rk
open Go.Eng Go.RowKit
noncomputable def relTo (l:List Rl) (p:List Prof) (a:Nat):List Arrow:=(List.range a).flatMap fun a => rwR l p a p.length
theorem relTo_succ (l:List Rl) (p:List Prof) (a:Nat):relTo l p (a + 1) = relTo l p a ++ rwR l p a p.length:=by
 unfold relTo; rw [List.range_succ,List.flatMap_append]; simp
theorem relTo_all (l:List Rl) (p:List Prof):relTo l p p.length = relL l p:=rfl
theorem waiveL_append (xs ys:List Arrow) (ps:List (Int × Int)):waiveL (xs ++ ys) ps = waiveL xs ps ++ waiveL ys ps:=List.filter_append _ _
theorem waiveL_arr (l:List Rl) (p:List Prof) (a b:Nat) (ps:List (Int × Int)):waiveL (arrF l p a b) ps = if (((a:Nat):Int),((b:Nat):Int)) ∈ ps then [] else arrF l p a b:=by
 unfold waiveL arrF
 by_cases h:(((a:Nat):Int),((b:Nat):Int)) ∈ ps
 ·rw [if_pos h]
  split
  ·simp [h]
  ·rfl
 ·rw [if_neg h]
  split
  ·simp [h]
  ·rfl
theorem rwR_le (l:List Rl) (p:List Prof) (a k:Nat):(rwR l p a k).length <= k:=by
 induction k with
 | zero => simp [rwR]
 | succ k ih =>
  rw [rwR_succ,List.length_append]
  have h1:=arrF_le l p a k
  have:(if a = k then [] else arrF l p a k).length <= 1:=by split <;> simp_all
  omega
theorem relTo_le (l:List Rl) (p:List Prof) (a:Nat):(relTo l p a).length <= a * p.length:=by
 induction a with
 | zero => simp [relTo]
 | succ a ih =>
  rw [relTo_succ,List.length_append]
  have:=rwR_le l p a p.length
  rw [Nat.succ_mul]; omega
theorem waiveL_le (xs:List Arrow) (ps:List (Int × Int)):(waiveL xs ps).length <= xs.length:=List.length_filter_le _ _
theorem lt_of_cell {w:World} {b i:Nat} {v:Value} (h:w.cell? ⟨b,i,none⟩ = some v):b < w.heap.size:=by
 unfold World.cell? at h
 cases e:w.heap[b]? with
 | none => simp [e] at h
 | some o => exact lt_of_heap e
theorem reads_grown {w w':World} {A:Option Addr} {cs:List Value} {row:Option Nat} (h:∀ b o,A = some ⟨b,o,none⟩ -> some b ≠ row) (hr:Reads w A cs) (hg:w.grownBy w' row):Reads w' A cs:=by
 rcases hr with h0 | ⟨b,o,hA,hr⟩
 ·exact .inl h0
 ·refine .inr ⟨b,o,hA,fun j v hv => ?_⟩
  have h1:=hr j v hv
  rw [<-h1]
  exact World.cell?_of_block (hg.block b (lt_of_cell h1) (h b o hA))
set_option maxRecDepth 100000 in
set_option maxHeartbeats 8000000 in
theorem refRelate_spec {w:World} {A R B Q:Option Addr} {f:List Fact} {l:List Rl} {c cl d e:Nat} {gs ps:List (Int × Int)} (hf:HF w A f c) (hl:f.length <= 2 ^ 20) (hR:HRs w R l cl) (s:Scn) (hr:Reads w B (prCells gs)) (hg:∀ g ∈ gs,In64 g.1) (hrp:Reads w Q (prCells ps)) (hpl:ps.length <= 2 ^ 44) :
  CallsV C.P 19 #[.slice A f.length c,.agg #[.slice R l.length cl],s.val,.slice B gs.length d,.slice Q ps.length e] w fun v w' =>
   (∃ u,v = .tuple #[u,.int .i64 (chkR f (chkRl l) s gs)] ∧ NewRel w.heap.size w' u (if chkR f (chkRl l) s gs = 0 then ((gs.length:Nat):Int) else 0) (if chkR f (chkRl l) s gs = 0 then waiveL (relL l (profsOf f s gs)) ps else [])) ∧ Ext w w':=by
 obtain ⟨k,hk⟩:∃ k,k = chkR f (chkRl l) s gs:=⟨_,rfl⟩
 have hkE:k = firstE (chkF f).2 (chkRl l) (schk s) (gchk gs):=hk
 have hk0:chkR f 0 s gs = firstE (chkF f).2 0 (schk s) (gchk gs):=rfl
 rw [<-hk]
 refine callsV_of C_ok (args:=[_,_,_,_,_]) (plans:=plans19) Tryz.func19 rfl Tryz.ntmps19 (by kernel_rfl) (Nat.le_of_ble_eq_true rfl) ?_
 intro g6 w1 h1
 have M:Mem w w1 [(g6,.cells #[.slice R l.length cl] 29 (0,0))]:=(Mem.start w).alloc h1
 intro g7 w2 h2
 have M:Mem w w2 [(g7,.cells s.cells.toArray 24 (0,0)),(g6,.cells #[.slice R l.length cl] 29 (0,0))]:=M.alloc h2
 intro g10 w3 h3
 have M:Mem w w3 [(g10,.cells #[.int .i64 0,.slice none 0 0] 49 (0,0)),(g7,.cells s.cells.toArray 24 (0,0)),(g6,.cells #[.slice R l.length cl] 29 (0,0))]:=M.alloc h3
 clear h1 h2 h3
 refine (Go.Proofs.YtdpdjcopkehdjaaGreat.refCheck_spec (hf.ext M.ext) hl).mono ?_
 rintro v w4 ⟨rfl,e4⟩
 have M:=M.grow e4
 refine brE_ndec (fun c0 => ?_) (fun c0 => ?_)
 ·have c0:(chkF f).2 ≠ 0:=c0
  have hke:k = (chkF f).2:=by rw [hkE,firstE,if_pos c0]
  refine ⟨rfl,_,_,M.get 0 rfl,Nat.le_of_ble_eq_true rfl,rfl,?_⟩
  intro w5 h5
  have M:=M.put 0 rfl h5
  refine ⟨[.int .i64 0,.slice none 0 0],rfl,M.rd 0 rfl,?_⟩
  refine ⟨⟨_,by rw [hke],?_⟩,M.ext⟩
  rw [if_neg (by rw [hke]; exact c0),if_neg (by rw [hke]; exact c0)]
  exact newRel_zero _ _
 have c0:(chkF f).2 = 0:=c0
 refine ⟨[.slice R l.length cl],rfl,M.rd 2 rfl,?_⟩
 refine (refRulesCheck_spec (hR.ext M.ext)).mono ?_
 rintro v w5 ⟨rfl,e5⟩
 have M:=M.grow e5
 refine brE_ndec (fun c1 => ?_) (fun c1 => ?_)
 ·have c1:chkRl l ≠ 0:=c1
  have hke:k = chkRl l:=by rw [hkE,firstE,if_neg (fun e => e c0),if_pos c1]
  refine ⟨rfl,_,_,M.get 0 rfl,Nat.le_of_ble_eq_true rfl,rfl,?_⟩
  intro w6 h6
  have M:=M.put 0 rfl h6
  refine ⟨[.int .i64 0,.slice none 0 0],rfl,M.rd 0 rfl,?_⟩
  refine ⟨⟨_,by rw [hke],?_⟩,M.ext⟩
  rw [if_neg (by rw [hke]; exact c1),if_neg (by rw [hke]; exact c1)]
  exact newRel_zero _ _
 have c1:chkRl l = 0:=c1
 have hk3:chkR f 0 s gs = k:=by rw [hk0,hkE,c1]
 refine ⟨s.cells,rfl,M.rd 1 rfl,?_⟩
 have X:=refProfiles_spec (c:=c) (d:=d) (hf.ext M.ext) hl s (hr.ext M.ext) hg
 rw [hk3] at X
 refine X.mono ?_
 clear X
 rintro v w6 ⟨⟨v6,rfl,hp6⟩,e6⟩
 have M:=M.grow e6
 obtain ⟨P,cp,rfl,hHL0⟩:=hp6.hl
 refine brE_ndec (fun c2 => ?_) (fun c2 => ?_)
 ·have c2:k ≠ 0:=c2
  refine ⟨rfl,_,_,M.get 0 rfl,Nat.le_of_ble_eq_true rfl,rfl,?_⟩
  intro w7 h7
  have M:=M.put 0 rfl h7
  refine ⟨[.int .i64 0,.slice none 0 0],rfl,M.rd 0 rfl,?_⟩
  refine ⟨⟨_,rfl,?_⟩,M.ext⟩
  rw [if_neg c2,if_neg c2]
  exact newRel_zero _ _
 have c2:k = 0:=c2
 obtain ⟨p,hpE⟩:∃ p,p = profsOf f s gs:=⟨_,rfl⟩
 have hpR:profsR f s gs = p:=by rw [hpE]; exact if_pos (hk3.trans c2)
 have hpn:p.length = gs.length:=by rw [hpE]; exact List.length_map _
 have hgl:=gchk_len (chkR_zero (hk3.trans c2)).2.2.2
 have hp24:p.length <= 24:=by omega
 rw [hpR] at hHL0 ⊢
 rw [if_pos c2,if_pos c2,<-hpE]
 intro g17 w7 h7
 have M7:=M.alloc h7
 refine ⟨rfl,_,_,M7.get 0 rfl,Nat.le_of_ble_eq_true rfl,rfl,?_⟩
 intro w8 h8
 have M:Mem w w8 [(g17,.cells #[.int .i64 (gs.length:Nat),.slice none 0 0] 49 (0,0)),(g10,.cells #[.int .i64 0,.slice none 0 0] 49 (0,0)),(g7,.cells s.cells.toArray 24 (0,0)),(g6,.cells #[.slice R l.length cl] 29 (0,0))]:=M7.put 0 rfl h8
 have hHL:HL Prof.cells w8 P p cp:=hHL0.ext (h8.ext_of h7.ext (by rw [h7.new]; exact Nat.le_refl _))
 have hPb:0 < p.length -> ∀ b o,P = some ⟨b,o,none⟩ -> b < g17:=fun h0 b o hb => by
  obtain ⟨b',o',e,hc⟩:=hHL0.at (k:=7) (fun _ => rfl) (by omega) h0
  rw [hb] at e
  cases e
  have:=lt_of_cell (hc 0 _ rfl)
  rw [h7.new]; exact this
 clear M7 h7 h8 hHL0 hp6
 obtain ⟨BB,hB⟩:∃ BB,BB = w8.heap.size:=⟨_,rfl⟩
 have hwB:w.heap.size <= BB:=by rw [hB]; exact M.ext.size
 have b17:g17 < BB:=by rw [hB]; exact M.lt List.mem_cons_self
 have b10:g10 < BB:=by rw [hB]; exact M.lt (List.mem_cons_of_mem _ List.mem_cons_self)
 have b7:g7 < BB:=by rw [hB]; exact M.lt (List.mem_cons_of_mem _ (List.mem_cons_of_mem _ List.mem_cons_self))
 have b6:g6 < BB:=by rw [hB]; exact M.lt (List.mem_cons_of_mem _ (List.mem_cons_of_mem _ (List.mem_cons_of_mem _ List.mem_cons_self)))
 have keep:∀ {w5 w6:World} {v u:Value} {cs:List Value} {n:Nat},Mem w w5 [(g17,.cells #[.int .i64 (gs.length:Nat),u] 49 (0,0)),(g10,.cells #[.int .i64 0,.slice none 0 0] 49 (0,0)),(g7,.cells s.cells.toArray 24 (0,0)),(g6,.cells #[.slice R l.length cl] 29 (0,0))] -> w5.ownsRow BB 60 4 v n cs -> w5.grownBy w6 v.ownBlock →
   Mem w w6 [(g17,.cells #[.int .i64 (gs.length:Nat),u] 49 (0,0)),(g10,.cells #[.int .i64 0,.slice none 0 0] 49 (0,0)),(g7,.cells s.cells.toArray 24 (0,0)),(g6,.cells #[.slice R l.length cl] 29 (0,0))]:=by
  intro w5 w6 v u cs n MM ho hg
  refine MM.grown hg (fun j hj => Nat.le_trans hwB (ho.lt j hj).1) (fun pp hpp e => ?_)
  have:=(ho.lt pp.1 e.symm).1
  simp only [List.mem_cons,List.not_mem_nil,or_false] at hpp
  rcases hpp with rfl | rfl | rfl | rfl <;> simp only at this <;> omega
 refine loopE C_ok (fun (t:Nat × Value) => [(3,.slice B gs.length d),(4,.slice Q ps.length e),(6,.pointer (some ⟨g6,0,none⟩)),(10,.pointer (some ⟨g10,0,none⟩)),(15,.slice P p.length cp),(17,.pointer (some ⟨g17,0,none⟩)),(18,.int .i64 (t.1:Nat))])
  (fun t w' => t.1 <= p.length ∧ Mem w w' [(g17,.cells #[.int .i64 (gs.length:Nat),t.2] 49 (0,0)),(g10,.cells #[.int .i64 0,.slice none 0 0] 49 (0,0)),(g7,.cells s.cells.toArray 24 (0,0)),(g6,.cells #[.slice R l.length cl] 29 (0,0))] ∧ NewL Arrow.cells 60 4 BB w' t.2 (waiveL (relTo l p t.1) ps) ∧ BB <= w'.heap.size ∧ HL Prof.cells w' P p cp)
  (fun t => p.length - t.1) (0,.slice none 0 0) ⟨rfl,rfl,rfl,rfl,rfl,rfl,rfl,trivial⟩ ⟨Nat.zero_le _,M,newL_nil,Nat.le_of_eq hB,hHL⟩ ?_
 clear M hB hHL
 rintro ⟨a,v⟩ w9 ⟨ha',M',ho',hs',hH'⟩
 have ha:a <= p.length:=ha'
 have M:Mem w w9 [(g17,.cells #[.int .i64 (gs.length:Nat),v] 49 (0,0)),(g10,.cells #[.int .i64 0,.slice none 0 0] 49 (0,0)),(g7,.cells s.cells.toArray 24 (0,0)),(g6,.cells #[.slice R l.length cl] 29 (0,0))]:=M'
 have ho:NewL Arrow.cells 60 4 BB w9 v (waiveL (relTo l p a) ps):=ho'
 have hs:BB <= w9.heap.size:=hs'
 have hH:HL Prof.cells w9 P p cp:=hH'
 clear ha' M' ho' hs' hH'
 refine brE_dec (fun hlt => ?_) (fun hge => ?_)
 ·have hlta:a < p.length:=by have:(a:Int) < (gs.length:Nat):=hlt; omega
  have next:IntKind.i64.wrap ((a:Int) + 1) = ((a + 1:Nat):Int):=fit ⟨by omega,by omega⟩
  refine loopE C_ok (fun (t:Nat × Value) => [(3,.slice B gs.length d),(4,.slice Q ps.length e),(6,.pointer (some ⟨g6,0,none⟩)),(10,.pointer (some ⟨g10,0,none⟩)),(15,.slice P p.length cp),(17,.pointer (some ⟨g17,0,none⟩)),(18,.int .i64 (a:Nat)),(19,.int .i64 (t.1:Nat))])
   (fun t w' => t.1 <= p.length ∧ Mem w w' [(g17,.cells #[.int .i64 (gs.length:Nat),t.2] 49 (0,0)),(g10,.cells #[.int .i64 0,.slice none 0 0] 49 (0,0)),(g7,.cells s.cells.toArray 24 (0,0)),(g6,.cells #[.slice R l.length cl] 29 (0,0))] ∧ NewL Arrow.cells 60 4 BB w' t.2 (waiveL (relTo l p a ++ rwR l p a t.1) ps) ∧ BB <= w'.heap.size ∧ HL Prof.cells w' P p cp)
   (fun t => p.length - t.1) (0,v) ⟨rfl,rfl,rfl,rfl,rfl,rfl,rfl,rfl,trivial⟩ ⟨Nat.zero_le _,M,by show NewL _ _ _ _ _ _ (waiveL (relTo l p a ++ rwR l p a 0) ps); rw [show rwR l p a 0 = [] from rfl,List.append_nil]; exact ho,hs,hH⟩ ?_
  clear M ho hs hH
  rintro ⟨b,u⟩ w10 ⟨hb',M',ho',hs',hH'⟩
  have hb:b <= p.length:=hb'
  have M:Mem w w10 [(g17,.cells #[.int .i64 (gs.length:Nat),u] 49 (0,0)),(g10,.cells #[.int .i64 0,.slice none 0 0] 49 (0,0)),(g7,.cells s.cells.toArray 24 (0,0)),(g6,.cells #[.slice R l.length cl] 29 (0,0))]:=M'
  have ho:NewL Arrow.cells 60 4 BB w10 u (waiveL (relTo l p a ++ rwR l p a b) ps):=ho'
  have hs:BB <= w10.heap.size:=hs'
  have hH:HL Prof.cells w10 P p cp:=hH'
  clear hb' M' ho' hs' hH'
  refine brE_dec (fun hlt2 => ?_) (fun hge2 => ?_)
  ·have hltb:b < p.length:=by have:(b:Int) < (gs.length:Nat):=hlt2; omega
   have nextb:IntKind.i64.wrap ((b:Int) + 1) = ((b + 1:Nat):Int):=fit ⟨by omega,by omega⟩
   have step:p.length - (b + 1) < p.length - b:=by omega
   have hsucc:=rwR_succ l p a b
   refine brE_dec (fun hab => ?_) (fun hab => ?_)
   ·have hab:a = b:=by have:((a:Nat):Int) = (b:Nat):=hab; omega
    rw [if_pos hab,List.append_nil] at hsucc
    refine ⟨_,nextb,?_⟩
    exact ⟨(b + 1,u),⟨rfl,rfl,rfl,rfl,rfl,rfl,rfl,rfl,trivial⟩,⟨hltb,M,by show NewL _ _ _ _ _ _ (waiveL (relTo l p a ++ rwR l p a (b + 1)) ps); rw [hsucc]; exact ho,hs,hH⟩,step⟩
   have hab:¬ a = b:=by have:¬ ((a:Nat):Int) = (b:Nat):=hab; omega
   rw [if_neg hab] at hsucc
   have hW:waiveL (relTo l p a ++ rwR l p a (b + 1)) ps = waiveL (relTo l p a ++ rwR l p a b) ps ++ (if (((a:Nat):Int),((b:Nat):Int)) ∈ ps then [] else arrF l p a b):=by
    rw [hsucc,<-List.append_assoc,waiveL_append,waiveL_arr]
   refine (Has_spec (hrp.ext M.ext) (by omega) _ _).mono ?_
   rintro v11 w11 ⟨rfl,rfl⟩
   refine brE_dec (fun hin => ?_) (fun hin => ?_)
   ·have hin:(((a:Nat):Int),((b:Nat):Int)) ∈ ps:=hin
    rw [if_pos hin,List.append_nil] at hW
    refine ⟨_,nextb,?_⟩
    exact ⟨(b + 1,u),⟨rfl,rfl,rfl,rfl,rfl,rfl,rfl,rfl,trivial⟩,⟨hltb,M,by show NewL _ _ _ _ _ _ (waiveL (relTo l p a ++ rwR l p a (b + 1)) ps); rw [hW]; exact ho,hs,hH⟩,step⟩
   have hin:¬ (((a:Nat):Int),((b:Nat):Int)) ∈ ps:=hin
   rw [if_neg hin] at hW
   obtain ⟨x,hx⟩:∃ x,x = p[a]:=⟨_,rfl⟩
   obtain ⟨y,hy⟩:∃ y,y = p[b]:=⟨_,rfl⟩
   have gx:p.getD a default = x:=by rw [List.getD_eq_getElem?_getD,List.getElem?_eq_getElem hlta,hx]; rfl
   have gy:p.getD b default = y:=by rw [List.getD_eq_getElem?_getD,List.getElem?_eq_getElem hltb,hy]; rfl
   obtain ⟨b1,o1,hA1,hc1⟩:=hH.at (k:=7) (fun _ => rfl) (by omega) hlta
   obtain ⟨b2,o2,hA2,hc2⟩:=hH.at (k:=7) (fun _ => rfl) (by omega) hltb
   rw [<-hx] at hc1
   rw [<-hy] at hc2
   obtain ⟨r,hrr⟩:∃ r,r = ruledI l x y:=⟨_,rfl⟩
   have fa:arrF l p a b = if r >= 0 then [⟨(a:Nat),(b:Nat),r,wtOf l r⟩] else []:=by unfold arrF; rw [gx,gy,<-hrr]
   have l1:=ruledI_lt l x y
   rw [<-hrr] at l1
   refine ⟨[.slice R l.length cl],rfl,M.rd 3 rfl,?_⟩
   refine ⟨a,b1,o1,rfl,hlta,hA1,?_⟩
   refine ⟨x.cells,rfl,hc1,?_⟩
   refine ⟨b,b2,o2,rfl,hltb,hA2,?_⟩
   refine ⟨y.cells,rfl,hc2,?_⟩
   have X:=ruled_spec (hR.ext M.ext) x y
   rw [<-hrr] at X
   refine X.mono ?_
   clear X
   rintro v12 w12 ⟨rfl,e12⟩
   have M:=M.grow e12
   have ho:=ho.ext e12
   have hH:=hH.ext e12
   refine brE_dec (fun hr0 => ?_) (fun hr0 => ?_)
   ·have hr0:r >= 0:=hr0
    obtain ⟨n,hn⟩:=Int.eq_ofNat_of_zero_le hr0
    have hnl:n < l.length:=by omega
    have fa2:arrF l p a b = [⟨(a:Nat),(b:Nat),r,l[n].weight⟩]:=by rw [fa,if_pos hr0,hn,wtOf_nat hnl]
    obtain ⟨bb,oo,hRR,hc8⟩:=(hR.ext M.ext).at hnl
    have n3:=relTo_le l p a
    have n4:=rwR_le l p a b
    have n5:a * p.length <= 24 * 24:=Nat.mul_le_mul (by omega) (by omega)
    have n6:=waiveL_le (relTo l p a ++ rwR l p a b) ps
    rw [List.length_append] at n6
    obtain ⟨D,hD⟩:∃ D,D = waiveL (relTo l p a ++ rwR l p a b) ps:=⟨_,rfl⟩
    rw [<-hD] at n6 hW ho
    refine ⟨_,M.cell 0 (i:=1) rfl rfl,?_⟩
    refine ⟨_,M.cell 3 rfl rfl,?_⟩
    refine ⟨n,bb,oo,hn,hnl,hRR,?_⟩
    refine ⟨_,hc8 2 _ rfl,?_⟩
    intro g13 w13 h13
    refine ⟨h13.ext,?_⟩
    have M:=M.grow h13.ext
    have ho:=ho.ext h13.ext
    have hs13:BB <= w13.heap.size:=Nat.le_trans (Nat.le_trans hs e12.size) h13.ext.size
    refine ⟨rfl,rfl,rfl,BB,_,_,(Arrow.mk (a:Nat) (b:Nat) r l[n].weight).cells,ho,hs13,Nat.le_of_ble_eq_true rfl,rfl,rfl,.inr ⟨g13,0,rfl,Rd.of_block h13.here⟩,rfl,rfl,by omega,by simp only [maxLen]; omega,?_⟩
    intro v14 w14 ho14 hg14 hpl14
    obtain ⟨A8,n8,c8,e8⟩:∃ A8 n8 c8,v14 = .slice A8 n8 c8:=by
     obtain ⟨A8,c8,ee,_,_⟩:=reads_of_owns ho14
     exact ⟨_,_,_,ee⟩
    subst e8
    have M:=keep M ho hg14
    refine ⟨rfl,_,_,M.get 0 rfl,Nat.le_of_ble_eq_true rfl,rfl,?_⟩
    intro w15 h15
    have M15:=M.put 0 rfl h15
    refine ⟨_,nextb,?_⟩
    have ho9:NewL Arrow.cells 60 4 BB w14 (.slice A8 n8 c8) (D ++ arrF l p a b):=by
     rw [fa2]
     unfold NewL
     rw [List.length_append,List.flatMap_append]
     simpa using ho14
    refine ⟨(b + 1,_),⟨rfl,rfl,rfl,rfl,rfl,rfl,rfl,rfl,trivial⟩,⟨hltb,M15,?_,?_,?_⟩,step⟩
    ·show NewL _ _ _ _ _ _ (waiveL (relTo l p a ++ rwR l p a (b + 1)) ps)
     rw [hW]
     exact ownsRow_put ho9 h15 (fun e => by have:=(ho9.lt g17 e).1; omega)
    ·show BB <= w15.heap.size
     rw [h15.size]; exact Nat.le_trans hs13 hg14.size
    ·refine ⟨?_,hH.len,hH.cap⟩
     have hlt:=hPb (by omega)
     have r14:=reads_grown (fun b o hb e => by have h1:=hlt b o hb; have h2:=(ho.lt b e.symm).1; omega) (hH.reads.ext h13.ext) hg14
     exact reads_grown (row:=some g17) (fun b o hb e => by have h1:=hlt b o hb; cases e; omega) r14 h15.grownBy
   ·have hr0:¬ r >= 0:=hr0
    refine ⟨_,nextb,?_⟩
    exact ⟨(b + 1,u),⟨rfl,rfl,rfl,rfl,rfl,rfl,rfl,rfl,trivial⟩,⟨hltb,M,by show NewL _ _ _ _ _ _ (waiveL (relTo l p a ++ rwR l p a (b + 1)) ps); rw [hW,fa,if_neg hr0,List.append_nil]; exact ho,Nat.le_trans hs e12.size,hH⟩,step⟩
  ·have hbe:b = p.length:=by have:¬ (b:Int) < (gs.length:Nat):=hge2; omega
   refine ⟨_,next,?_⟩
   refine ⟨(a + 1,u),⟨rfl,rfl,rfl,rfl,rfl,rfl,rfl,trivial⟩,⟨hlta,M,?_,hs,hH⟩,by show p.length - (a + 1) < p.length - a; omega⟩
   show NewL _ _ _ _ _ _ (waiveL (relTo l p (a + 1)) ps)
   rw [relTo_succ]
   rw [hbe] at ho
   exact ho
 ·have hae:a = p.length:=by have:¬ (a:Int) < (gs.length:Nat):=hge; omega
  rw [hae,relTo_all] at ho
  obtain ⟨A8,c8,rfl,_,_⟩:=reads_of_owns ho
  obtain ⟨D,hD⟩:∃ D,D = waiveL (relL l p) ps:=⟨_,rfl⟩
  rw [<-hD] at ho M ⊢
  refine ⟨[.int .i64 (gs.length:Nat),.slice A8 D.length c8],rfl,M.rd 0 rfl,?_⟩
  refine ⟨rfl,_,_,M.get 1 rfl,Nat.le_of_ble_eq_true rfl,rfl,?_⟩
  intro w10 h10
  have M10:=M.put 1 rfl h10
  refine ⟨[.int .i64 (gs.length:Nat),.slice A8 D.length c8],rfl,M10.rd 1 rfl,?_⟩
  refine ⟨⟨_,by rw [c2]; rfl,A8,c8,rfl,?_⟩,M10.ext⟩
  exact ownsRow_base (ownsRow_put ho h10 (fun e => by have:=(ho.lt g10 e).1; omega)) hwB
end Go.Proofs.YtdpdjcopkehdjaaGreat.Rk
namespace Go.Proofs.YtdpdjcopkehdjaaGreat.Rk
open Go.Eng Go.RowKit
def causeC (l:List Rl) (p:List Prof) (x:Arrow) (wv:Bool):Cause:=⟨x.fr,x.to,p.getD x.fr.toNat default,p.getD x.to.toNat default,x.rule,(l.getD x.rule.toNat default).name,wv⟩
noncomputable def arrAt (l:List Rl) (p:List Prof) (a b:Nat):Arrow:=⟨(a:Nat),(b:Nat),ruledI l (p.getD a default) (p.getD b default),wtOf l (ruledI l (p.getD a default) (p.getD b default))⟩
noncomputable def causesTo (l:List Rl) (p:List Prof) (ch:List Int) (k:Nat):List Cause:=(List.range k).map fun i => causeC l p (arrAt l p (ch.getD i 0).toNat (ch.getD (i + 1) 0).toNat) false
noncomputable def causesL (l:List Rl) (p:List Prof) (ps:List (Int × Int)) (a b:Nat):List Cause:=match chainS ((p.length:Nat):Int) (waiveL (relL l p) ps) (a:Nat) (b:Nat) with
 | some ch => causesTo l p ch (ch.length - 1)
 | none => if a ≠ b ∧ ruledI l (p.getD a default) (p.getD b default) >= 0 then [causeC l p (arrAt l p a b) true] else []
theorem causesTo_succ (l:List Rl) (p:List Prof) (ch:List Int) (k:Nat):causesTo l p ch (k + 1) = causesTo l p ch k ++ [causeC l p (arrAt l p (ch.getD k 0).toNat (ch.getD (k + 1) 0).toNat) false]:=by
 unfold causesTo; rw [List.range_succ,List.map_append]; rfl
theorem causesTo_len (l:List Rl) (p:List Prof) (ch:List Int) (k:Nat):(causesTo l p ch k).length = k:=by simp [causesTo]
theorem findA_some {xs:List Arrow} {a b:Nat} (h:toM xs a b = true):findA xs (a:Nat) (b:Nat) ≠ none:=by
 unfold toM at h
 obtain ⟨x,hx,hh⟩:=List.any_eq_true.1 h
 unfold findA
 intro e
 exact absurd hh (List.find?_eq_none.1 e x hx)
structure ChainIs (l:List Rl) (p:List Prof) (ps:List (Int × Int)) (ch:List Int):Prop where
 two:2 <= ch.length
 len:ch.length <= 25
 step:∀ i (h:i + 1 < ch.length),∃ x y:Nat,ch[i] = (x:Int) ∧ ch[i + 1] = (y:Int) ∧ x < p.length ∧ y < p.length ∧ x ≠ y ∧ ruledI l (p.getD x default) (p.getD y default) >= 0 ∧ (((x:Nat):Int),((y:Nat):Int)) ∉ ps
theorem chain_is {l:List Rl} {p:List Prof} (hp:p.length <= 24) (hz:chkRl l = 0) {ps:List (Int × Int)} {a b:Int} {ch:List Int} (h:chainS ((p.length:Nat):Int) (waiveL (relL l p) ps) a b = some ch):ChainIs l p ps ch:=by
 have hc:=chain_checks h
 unfold checkS chainOk at hc
 simp only [Bool.and_eq_true,decide_eq_true_eq,Bool.not_eq_true',decide_eq_false_iff_not] at hc
 obtain ⟨hv,⟨⟨⟨⟨⟨_,_⟩,hall⟩,h2⟩,_⟩,_⟩,hlinks⟩:=hc
 have hok:=valid_of_chk hv
 have hin:=hok.inside
 refine ⟨by omega,?_,fun i hi => ?_⟩
 ·unfold chainS at h
  split at h
  ·rename_i hcc
   have e:=Option.some.inj h
   rw [<-e]
   obtain ⟨k,hk⟩:∃ k,dist (toM (waiveL (relL l p) ps)) b.toNat a.toNat = k + 1:=by
    have h0:dist (toM (waiveL (relL l p) ps)) b.toNat a.toNat ≠ 0:=fun e => dist_zero.1 e (reach_iff.1 hcc.2.2)
    exact ⟨_,(Nat.succ_pred_eq_of_pos (by omega)).symm⟩
   have hd:=dist_le hin b.toNat a.toNat
   have hb:b.toNat <= 24:=by
    have:=(Bool.and_eq_true_iff.1 hcc.2.1).2
    have:=of_decide_eq_true this
    omega
   have hl:=(follow_ok hin (by simpa using hp) k a.toNat hk).1
   have hN:(((p.length:Nat):Int)).toNat = p.length:=rfl
   rw [hN] at hd
   unfold chainL
   rw [hk]
   simp only [List.length_cons,List.length_append,List.length_nil,Nat.add_sub_cancel,hl]
   omega
  ·cases h
 ·have ha:=List.all_eq_true.1 hall _ (List.getElem_mem (show i < ch.length by omega))
  have hb:=List.all_eq_true.1 hall _ (List.getElem_mem hi)
  obtain ⟨x,hx,hxl⟩:=inR_nat ha
  obtain ⟨y,hy,hyl⟩:=inR_nat hb
  have hlk:=linksB_at.1 hlinks i hi
  rw [hx,hy] at hlk
  simp only [Int.toNat_natCast] at hlk
  have hf:=findA_some hlk
  rw [rel_find hp hz ps (by omega) (by omega)] at hf
  by_cases hcc:x ≠ y ∧ ruledI l (p.getD x default) (p.getD y default) >= 0 ∧ (((x:Nat):Int),((y:Nat):Int)) ∉ ps
  ·exact ⟨x,y,hx,hy,by omega,by omega,hcc.1,hcc.2.1,hcc.2.2⟩
  ·rw [if_neg hcc] at hf; exact absurd rfl hf
end Go.Proofs.YtdpdjcopkehdjaaGreat.Rk
