/- a part of the proof: steps, walks and plain laws that the law below stands on; no condition. -/
import Derived.Test.YtdpdjcopkehdjaaGreatRXa
import Derived.Test.YtdpdjcopkehdjaaGreatRXb
import Derived.Test.YtdpdjcopkehdjaaGreatRXc
import Derived.Test.YtdpdjcopkehdjaaGreatRXd
import Derived.Test.YtdpdjcopkehdjaaGreatRXe
import Derived.Test.YtdpdjcopkehdjaaGreatRXf
import Derived.Test.YtdpdjcopkehdjaaGreatRXg
import Derived.Test.YtdpdjcopkehdjaaGreatRXh
import Derived.Test.YtdpdjcopkehdjaaGreatRXi
import Derived.Test.YtdpdjcopkehdjaaGreatRXj
import Derived.Maps.RangeRun
set_option linter.unusedVariables false
set_option linter.unusedSimpArgs false
set_option linter.unnecessarySimpa false
set_option linter.unusedSectionVars false
namespace Go.Proofs.YtdpdjcopkehdjaaGreat.Rk
open Go.Eng Go.RowKit
abbrev Cross (ok:Int -> Int -> Prop) (R1 R2:List Int):Prop:=∀ y ∈ R1,∀ x ∈ R2,ok x y
abbrev OkRuns (ok:Int -> Int -> Prop) (Ls:List (List Int)):Prop:=Ls.Pairwise (Cross ok)
theorem okRuns_cross {ok:Int -> Int -> Prop} {Ns Q:List (List Int)} {R1 R2:List Int} (h:OkRuns ok (Ns ++ (R1 :: R2 :: Q))):Cross ok R1 R2:=(List.pairwise_cons.1 (List.pairwise_append.1 h).2.1).1 R2 (by simp)
theorem okRuns_merge {ok:Int -> Int -> Prop} {Ns Q:List (List Int)} {R1 R2 X:List Int} (h:OkRuns ok (Ns ++ (R1 :: R2 :: Q))) (hX:X.Perm (R1 ++ R2)):OkRuns ok ((Ns ++ [X]) ++ Q):=by
 obtain ⟨a,b,c⟩:=List.pairwise_append.1 h
 obtain ⟨b1,b2⟩:=List.pairwise_cons.1 b
 obtain ⟨b3,b4⟩:=List.pairwise_cons.1 b2
 have mem:∀ {z},z ∈ X -> z ∈ R1 ∨ z ∈ R2:=fun hz => List.mem_append.1 (hX.mem_iff.1 hz)
 rw [List.append_assoc,List.singleton_append]
 refine List.pairwise_append.2 ⟨a,List.pairwise_cons.2 ⟨fun L hL y hy x hx => ?_,b4⟩,fun L hL L' hL' y hy x hx => ?_⟩
 ·rcases mem hy with h | h
  ·exact b1 L (by simp [hL]) y h x hx
  ·exact b3 L hL y h x hx
 ·rcases List.mem_cons.1 hL' with rfl | hL'
  ·rcases mem hx with h | h
   ·exact c L hL R1 (by simp) y hy x h
   ·exact c L hL R2 (by simp) y hy x h
  ·exact c L hL L' (by simp [hL']) y hy x hx
theorem okRuns_last {ok:Int -> Int -> Prop} {Rs:List (List Int)} {T T':List Int} (h:OkRuns ok (Rs ++ [T])) (hT:T'.Perm T):OkRuns ok (Rs ++ [T']):=by
 obtain ⟨a,b,c⟩:=List.pairwise_append.1 h
 refine List.pairwise_append.2 ⟨a,List.pairwise_singleton _ _,fun L hL L' hL' y hy x hx => ?_⟩
 rw [List.mem_singleton.1 hL'] at hx
 exact c L hL T (by simp) y hy x (hT.mem_iff.1 hx)
theorem okRuns_take {ok:Int -> Int -> Prop} {Rs:List (List Int)} {rest X:List Int} {k:Nat} (h:OkRuns ok (Rs ++ [rest])) (hr:OkL ok rest) (hX:X.Perm (rest.take k)):OkRuns ok ((Rs ++ [X]) ++ [rest.drop k]):=by
 obtain ⟨a,b,c⟩:=List.pairwise_append.1 h
 have hr2:OkL ok (rest.take k ++ rest.drop k):=by rw [List.take_append_drop]; exact hr
 have mX:∀ {z},z ∈ X -> z ∈ rest.take k:=fun hz => hX.mem_iff.1 hz
 rw [List.append_assoc,List.singleton_append]
 refine List.pairwise_append.2 ⟨a,List.pairwise_cons.2 ⟨fun L hL y hy x hx => ?_,List.pairwise_singleton _ _⟩,fun L hL L' hL' y hy x hx => ?_⟩
 ·rw [List.mem_singleton.1 hL] at hx
  exact (List.pairwise_append.1 hr2).2.2 y (mX hy) x hx
 ·rcases List.mem_cons.1 hL' with rfl | hL'
  ·exact c L hL rest (by simp) y hy x (List.mem_of_mem_take (mX hx))
  ·rw [List.mem_singleton.1 hL'] at hx
   exact c L hL rest (by simp) y hy x (List.mem_of_mem_drop hx)
set_option maxRecDepth 100000 in
set_option maxHeartbeats 4000000 in
theorem stable_spec {B:Nat} {w:World} {A:Option Addr} {n c gd:Nat} {cb:Array Value} {lt:Int -> Int -> Bool} {ok:Int -> Int -> Prop} {M:List Int} (ho:RowI B w (.slice A n c) M) (hB:B <= w.heap.size) (hn:n <= 2 ^ 20) (hgd:C.can gd = true) (hcmp:CmpW B w gd cb ok lt) (hok:OkL ok M) (O:OrdB lt) :
  CallsV C.P 184 #[.slice A n c,.int .i64 (n:Nat),.func (.func gd) #[] cb] w fun _ w' => ∃ M',M'.Perm M ∧ SortedB lt M' ∧ RowI B w' (.slice A n c) M' ∧ Below B w w':=by
 refine callsV_ofS (args:=[_,_,_]) Tryz.func184 rfl Tryz.ntmps184 C_ok (Nat.le_of_ble_eq_true rfl) ?_
 refine Snd.go C_ok [] (by kernel_rfl) ?_
 refine ⟨Snd.go C_ok [] (by kernel_rfl) ?_⟩
 refine ⟨Snd.go C_ok [] (by kernel_rfl) ?_⟩
 refine loopE C_ok (fun (p:List (List Int) × List Int) => [(0,.slice A n c),(1,.int .i64 (n:Nat)),(2,.func (.func gd) #[] cb),(6,.int .i64 20),(7,.int .i64 ((p.1.flatten.length:Nat):Int)),(8,.int .i64 ((p.1.flatten.length + 20:Nat):Int))])
  (fun p w' => (OkRuns ok (p.1 ++ [p.2]) ∧ OkL ok p.2) ∧ (∀ R ∈ p.1,R.length = 20 ∧ SortedB lt R) ∧ (p.1.flatten ++ p.2).Perm M ∧ RowI B w' (.slice A n c) (p.1.flatten ++ p.2) ∧ Below B w w') (fun p => p.2.length) ([],M) ⟨rfl,rfl,rfl,rfl,rfl,rfl,trivial⟩
  ⟨⟨List.pairwise_singleton _ _,hok⟩,(fun R h => by cases h),List.Perm.refl _,ho,Below.refl _ _⟩ ?_
 rintro ⟨Rs,rest⟩ w1 ⟨hK',hR',hp',ho',b1⟩
 have hK:OkRuns ok (Rs ++ [rest]) ∧ OkL ok rest:=hK'
 have hR:∀ R ∈ Rs,R.length = 20 ∧ SortedB lt R:=hR'
 have hp:(Rs.flatten ++ rest).Perm M:=hp'
 have ho1:RowI B w1 (.slice A n c) (Rs.flatten ++ rest):=ho'
 clear hR' hp' ho' hK'
 have hl1:=rowI_n ho1
 rw [List.length_append] at hl1
 refine brE_dec (fun hle => ?_) (fun hgt => ?_)
 ·have hle:Rs.flatten.length + 20 <= n:=by have:((Rs.flatten.length + 20:Nat):Int) <= (n:Nat):=hle; omega
  have ho2:RowI B w1 (.slice A n c) (Rs.flatten ++ (rest.take 20 ++ rest.drop 20)):=by rw [List.take_append_drop]; exact ho1
  have hl20:(rest.take 20).length = 20:=by rw [List.length_take]; omega
  refine (insSort_spec (a:=Rs.flatten.length) (b:=Rs.flatten.length + 20) ho2 (Nat.le_trans hB b1.size) (by omega) rfl (by omega) hgd (hcmp.later b1) (hK.2.sublist (List.take_sublist _ _)) O).mono ?_
  rintro v w2 ⟨X,hXp,hXs,ho3,b2⟩
  have hXl:X.length = 20:=by rw [hXp.length_eq,hl20]
  refine ⟨((Rs.flatten.length + 20 + 20:Nat):Int),by (try dsimp only); rw [fit ⟨by omega,by omega⟩]; omega,?_⟩
  have hfl:(Rs ++ [X]).flatten = Rs.flatten ++ X:=by simp
  have hfn:(Rs ++ [X]).flatten.length = Rs.flatten.length + 20:=by rw [hfl,List.length_append,hXl]
  refine ⟨(Rs ++ [X],rest.drop 20),⟨rfl,rfl,rfl,rfl,congrArg (fun q:Nat => some (Value.int IntKind.i64 ((q:Nat):Int))) hfn.symm,congrArg (fun q:Nat => some (Value.int IntKind.i64 ((q + 20:Nat):Int))) hfn.symm,trivial⟩,⟨⟨okRuns_take hK.1 hK.2 hXp,hK.2.sublist (List.drop_sublist _ _)⟩,?_,?_,?_,b1.trans b2⟩,by show (rest.drop 20).length < rest.length; rw [List.length_drop]; omega⟩
  ·intro R h
   rcases List.mem_append.1 h with h | h
   ·exact hR R h
   ·rw [List.mem_singleton.1 h]; exact ⟨hXl,hXs⟩
  ·show ((Rs ++ [X]).flatten ++ rest.drop 20).Perm M
   rw [hfl,List.append_assoc]
   refine List.Perm.trans ?_ hp
   refine List.Perm.append_left _ ?_
   have:=hXp.append_right (rest.drop 20)
   rwa [List.take_append_drop] at this
  ·show RowI B w2 (.slice A n c) ((Rs ++ [X]).flatten ++ rest.drop 20)
   rw [hfl,List.append_assoc]; exact ho3
 have hlt:rest.length < 20:=by have:¬ ((Rs.flatten.length + 20:Nat):Int) <= (n:Nat):=hgt; omega
 refine ⟨Snd.go C_ok [] (by kernel_rfl) ?_⟩
 refine (insSort_spec (a:=Rs.flatten.length) (b:=n) (P:=Rs.flatten) (M:=rest) (S:=[]) (by rw [List.append_nil]; exact ho1) (Nat.le_trans hB b1.size) (by omega) rfl (by omega) hgd (hcmp.later b1) hK.2 O).mono ?_
 rintro v w2 ⟨T,hTp,hTs,ho2,b2⟩
 rw [List.append_nil] at ho2
 have hKT:=okRuns_last hK.1 hTp
 have hTl:T.length < 20:=by rw [hTp.length_eq]; exact hlt
 have hpT:(Rs.flatten ++ T).Perm M:=(List.Perm.append_left _ hTp).trans hp
 refine ⟨Snd.fin C_ok (plans:=[]) (by kernel_rfl) ?_⟩
 refine loopE C_ok (fun (p:Nat × List (List Int) × List Int) => [(0,.slice A n c),(1,.int .i64 (n:Nat)),(2,.func (.func gd) #[] cb),(6,.int .i64 ((p.1:Nat):Int))])
  (fun p w' => OkRuns ok (p.2.1 ++ [p.2.2]) ∧ 0 < p.1 ∧ p.1 <= 2 ^ 22 ∧ (∀ R ∈ p.2.1,R.length = p.1 ∧ SortedB lt R) ∧ p.2.2.length < p.1 ∧ SortedB lt p.2.2 ∧ (p.2.1.flatten ++ p.2.2).Perm M ∧ RowI B w' (.slice A n c) (p.2.1.flatten ++ p.2.2) ∧ Below B w w') (fun p => n - p.1) (20,Rs,T) ⟨rfl,rfl,rfl,rfl,trivial⟩
  ⟨hKT,(by show 0 < 20; decide),(by show 20 <= 2 ^ 22; decide),hR,hTl,hTs,hpT,ho2,b1.trans b2⟩ ?_
 clear hR hp ho1 hl1 hgt hlt hTp hTs ho2 hTl hpT b1 b2 hK hKT
 rintro ⟨s,Rs2,T2⟩ w3 ⟨hK',s0',s1',hR',hTl',hTs',hp',ho',b3⟩
 have hK:OkRuns ok (Rs2 ++ [T2]):=hK'
 have s0:0 < s:=s0'
 have s1:s <= 2 ^ 22:=s1'
 have hR:∀ R ∈ Rs2,R.length = s ∧ SortedB lt R:=hR'
 have hTl:T2.length < s:=hTl'
 have hTs:SortedB lt T2:=hTs'
 have hp:(Rs2.flatten ++ T2).Perm M:=hp'
 have ho3:RowI B w3 (.slice A n c) (Rs2.flatten ++ T2):=ho'
 clear hK' s0' s1' hR' hTl' hTs' hp' ho'
 have hl3:=rowI_n ho3
 rw [List.length_append] at hl3
 refine brE_dec (fun hlt => ?_) (fun hge => ?_)
 ·have hlt:s < n:=by have:((s:Nat):Int) < (n:Nat):=hlt; omega
  refine ⟨((([]:List (List Int)).flatten.length + 2 * s:Nat):Int),by (try dsimp only); rw [fit ⟨by omega,by omega⟩]; simp,?_⟩
  refine loopE C_ok (fun (p:List (List Int) × List (List Int)) => [(0,.slice A n c),(1,.int .i64 (n:Nat)),(2,.func (.func gd) #[] cb),(6,.int .i64 ((s:Nat):Int)),(7,.int .i64 ((p.1.flatten.length:Nat):Int)),(8,.int .i64 ((p.1.flatten.length + 2 * s:Nat):Int))])
   (fun p w' => OkRuns ok (p.1 ++ (p.2 ++ [T2])) ∧ (∀ R ∈ p.1,R.length = 2 * s ∧ SortedB lt R) ∧ (∀ R ∈ p.2,R.length = s ∧ SortedB lt R) ∧ (p.1.flatten ++ (p.2.flatten ++ T2)).Perm M ∧ RowI B w' (.slice A n c) (p.1.flatten ++ (p.2.flatten ++ T2)) ∧ Below B w w') (fun p => p.2.length) ([],Rs2) ⟨rfl,rfl,rfl,rfl,rfl,rfl,trivial⟩
   ⟨hK,(fun R h => by cases h),hR,hp,ho3,b3⟩ ?_
  rintro ⟨Ns,Qs⟩ w4 ⟨hK4',hN',hQ',hp4',ho4',b4⟩
  have hK4:OkRuns ok (Ns ++ (Qs ++ [T2])):=hK4'
  have hN:∀ R ∈ Ns,R.length = 2 * s ∧ SortedB lt R:=hN'
  have hQ:∀ R ∈ Qs,R.length = s ∧ SortedB lt R:=hQ'
  have hp4:(Ns.flatten ++ (Qs.flatten ++ T2)).Perm M:=hp4'
  have ho4:RowI B w4 (.slice A n c) (Ns.flatten ++ (Qs.flatten ++ T2)):=ho4'
  clear hK4' hN' hQ' hp4' ho4'
  have hl4:=rowI_n ho4
  rw [List.length_append,List.length_append] at hl4
  refine brE_dec (fun hle => ?_) (fun hgt => ?_)
  ·have hle:Ns.flatten.length + 2 * s <= n:=by have:((Ns.flatten.length + 2 * s:Nat):Int) <= (n:Nat):=hle; omega
   match Qs,hQ,hp4,ho4,hl4,hK4 with
   | [],_,_,_,hl4,_ => exact absurd hle (by rw [List.flatten_nil,List.length_nil] at hl4; omega)
   | [R],hQ,_,_,hl4,_ => exact absurd hle (by have:=(hQ R (by simp)).1; simp only [List.flatten_cons,List.flatten_nil,List.append_nil] at hl4; omega)
   | R1 :: R2 :: r,hQ,hp4,ho4,hl4,hK4 =>
    obtain ⟨r1l,r1s⟩:=hQ R1 (by simp)
    obtain ⟨r2l,r2s⟩:=hQ R2 (by simp)
    have e4:(R1 :: R2 :: r).flatten ++ T2 = R1 ++ (R2 ++ (r.flatten ++ T2)):=by simp
    rw [e4] at ho4 hp4
    refine ⟨((Ns.flatten.length + s:Nat):Int),by (try dsimp only); exact fit ⟨by omega,by omega⟩,?_⟩
    refine (symMerge_spec (by omega) hgd O _ (a:=Ns.flatten.length) (m:=Ns.flatten.length + s) (b:=Ns.flatten.length + 2 * s) (Nat.le_refl _) ho4 (Nat.le_trans hB b4.size) rfl (by omega) (by omega) (by omega) (by omega) r1s r2s (hcmp.later b4) (okRuns_cross hK4)).mono ?_
    rintro v w5 ⟨X,hXp,hXs,ho5,b5⟩
    have hXl:X.length = 2 * s:=by rw [hXp.length_eq,List.length_append]; omega
    have hfl:(Ns ++ [X]).flatten = Ns.flatten ++ X:=by simp
    have hfn:(Ns ++ [X]).flatten.length = Ns.flatten.length + 2 * s:=by rw [hfl,List.length_append,hXl]
    refine ⟨((2 * s:Nat):Int),by (try dsimp only); rw [fit ⟨by omega,by omega⟩]; omega,?_⟩
    refine ⟨((Ns.flatten.length + 2 * s + 2 * s:Nat):Int),by (try dsimp only); rw [fit ⟨by omega,by omega⟩]; omega,?_⟩
    refine ⟨(Ns ++ [X],r),⟨rfl,rfl,rfl,rfl,congrArg (fun q:Nat => some (Value.int IntKind.i64 ((q:Nat):Int))) hfn.symm,congrArg (fun q:Nat => some (Value.int IntKind.i64 ((q + 2 * s:Nat):Int))) hfn.symm,trivial⟩,⟨okRuns_merge hK4 hXp,?_,fun R h => hQ R (by simp [h]),?_,?_,b4.trans b5⟩,by show r.length < (R1 :: R2 :: r).length; simp only [List.length_cons]; omega⟩
    ·intro R h
     rcases List.mem_append.1 h with h | h
     ·exact hN R h
     ·rw [List.mem_singleton.1 h]; exact ⟨hXl,hXs⟩
    ·show ((Ns ++ [X]).flatten ++ (r.flatten ++ T2)).Perm M
     rw [hfl,List.append_assoc]
     refine List.Perm.trans ?_ hp4
     refine List.Perm.append_left _ ?_
     have:=hXp.append_right (r.flatten ++ T2)
     rwa [List.append_assoc] at this
    ·show RowI B w5 (.slice A n c) ((Ns ++ [X]).flatten ++ (r.flatten ++ T2))
     rw [hfl,List.append_assoc]; exact ho5
  ·have hgt:n < Ns.flatten.length + 2 * s:=by have:¬ ((Ns.flatten.length + 2 * s:Nat):Int) <= (n:Nat):=hgt; omega
   refine ⟨((Ns.flatten.length + s:Nat):Int),by (try dsimp only); exact fit ⟨by omega,by omega⟩,?_⟩
   have fin:∀ (T':List Int) (w5:World),OkRuns ok (Ns ++ [T']) -> T'.length < 2 * s -> SortedB lt T' -> (Ns.flatten ++ T').Perm M -> RowI B w5 (.slice A n c) (Ns.flatten ++ T') -> Below B w w5 →
     (∃ s':Nat × List (List Int) × List Int,s' = (2 * s,Ns,T')) ∧ (OkRuns ok (Ns ++ [T']) ∧ 0 < 2 * s ∧ 2 * s <= 2 ^ 22 ∧ (∀ R ∈ Ns,R.length = 2 * s ∧ SortedB lt R) ∧ T'.length < 2 * s ∧ SortedB lt T' ∧ (Ns.flatten ++ T').Perm M ∧ RowI B w5 (.slice A n c) (Ns.flatten ++ T') ∧ Below B w w5) :=
    fun T' w5 a0 a1 a2 a3 a4 a5 => ⟨⟨_,rfl⟩,a0,by omega,by omega,hN,a1,a2,a3,a4,a5⟩
   have mul2:IntKind.i64.wrap ((s:Nat) * 2:Int) = ((2 * s:Nat):Int):=by (try dsimp only); rw [fit ⟨by omega,by omega⟩]; omega
   refine brE_dec (fun hm => ?_) (fun hm => ?_)
   ·have hm:Ns.flatten.length + s < n:=by have:((Ns.flatten.length + s:Nat):Int) < (n:Nat):=hm; omega
    match Qs,hQ,hp4,ho4,hl4,hK4 with
    | [],_,_,_,hl4,_ => exact absurd hm (by rw [List.flatten_nil,List.length_nil] at hl4; omega)
    | R1 :: R2 :: r,hQ,_,_,hl4,_ => exact absurd hgt (by have h1:=(hQ R1 (by simp)).1; have h2:=(hQ R2 (by simp)).1; simp only [List.flatten_cons,List.length_append] at hl4; omega)
    | [R],hQ,hp4,ho4,hl4,hK4 =>
     obtain ⟨rl,rs⟩:=hQ R (by simp)
     have e4:[R].flatten ++ T2 = R ++ (T2 ++ []):=by simp
     rw [e4] at ho4 hp4
     simp only [List.flatten_cons,List.flatten_nil,List.append_nil] at hl4
     refine (symMerge_spec (by omega) hgd O _ (a:=Ns.flatten.length) (m:=Ns.flatten.length + s) (b:=n) (Nat.le_refl _) ho4 (Nat.le_trans hB b4.size) rfl (by omega) (by omega) (by omega) (by omega) rs hTs (hcmp.later b4) (okRuns_cross (Q:=[]) hK4)).mono ?_
     rintro v w5 ⟨X,hXp,hXs,ho5,b5⟩
     have hXl:X.length < 2 * s:=by rw [hXp.length_eq,List.length_append]; omega
     rw [List.append_nil] at ho5 hp4
     refine ⟨((2 * s:Nat):Int),mul2,?_⟩
     refine ⟨(2 * s,Ns,X),⟨rfl,rfl,rfl,rfl,trivial⟩,(fin X w5 (by have:=okRuns_merge (Q:=[]) hK4 hXp; rwa [List.append_nil] at this) hXl hXs ((List.Perm.append_left _ hXp).trans hp4) ho5 (b4.trans b5)).2,by show n - 2 * s < n - s; omega⟩
   ·have hm:n <= Ns.flatten.length + s:=by have:¬ ((Ns.flatten.length + s:Nat):Int) < (n:Nat):=hm; omega
    refine ⟨((2 * s:Nat):Int),mul2,?_⟩
    match Qs,hQ,hp4,ho4,hl4,hK4 with
    | [],_,hp4,ho4,hl4,hK4 =>
     exact ⟨(2 * s,Ns,T2),⟨rfl,rfl,rfl,rfl,trivial⟩,(fin T2 w4 hK4 (by omega) hTs hp4 ho4 b4).2,by show n - 2 * s < n - s; omega⟩
    | R1 :: R2 :: r,hQ,_,_,hl4,_ => exact absurd hgt (by have h1:=(hQ R1 (by simp)).1; have h2:=(hQ R2 (by simp)).1; simp only [List.flatten_cons,List.length_append] at hl4; omega)
    | [R],hQ,hp4,ho4,hl4,hK4 =>
     obtain ⟨rl,rs⟩:=hQ R (by simp)
     simp only [List.flatten_cons,List.flatten_nil,List.append_nil] at hl4
     have hT0:T2 = []:=List.length_eq_zero_iff.1 (by omega)
     have e4:[R].flatten ++ T2 = R:=by rw [hT0]; simp
     rw [e4] at ho4 hp4
     exact ⟨(2 * s,Ns,R),⟨rfl,rfl,rfl,rfl,trivial⟩,(fin R w4 (hK4.sublist (List.Sublist.append_left (by simp) Ns)) (by omega) rs hp4 ho4 b4).2,by show n - 2 * s < n - s; omega⟩
 ·have hge:n <= s:=by have:¬ ((s:Nat):Int) < (n:Nat):=hge; omega
  match Rs2,hR,hp,ho3,hl3 with
  | [],_,hp,ho3,_ => exact ⟨T2,hp,hTs,ho3,b3⟩
  | [R],hR,hp,ho3,hl3 =>
   obtain ⟨rl,rs⟩:=hR R (by simp)
   simp only [List.flatten_cons,List.flatten_nil,List.append_nil] at hl3
   have hT0:T2 = []:=List.length_eq_zero_iff.1 (by omega)
   have e4:[R].flatten ++ T2 = R:=by rw [hT0]; simp
   rw [e4] at ho3 hp
   exact ⟨R,hp,rs,ho3,b3⟩
  | R1 :: R2 :: r,hR,_,_,hl3 => exact absurd hge (by have h1:=(hR R1 (by simp)).1; have h2:=(hR R2 (by simp)).1; simp only [List.flatten_cons,List.length_append] at hl3; omega)
theorem sortStable_spec {B:Nat} {w:World} {A:Option Addr} {n c gd:Nat} {cb:Array Value} {lt:Int -> Int -> Bool} {ok:Int -> Int -> Prop} {M:List Int} (ho:RowI B w (.slice A n c) M) (hB:B <= w.heap.size) (hn:n <= 2 ^ 20) (hgd:C.can gd = true) (hcmp:CmpW B w gd cb ok lt) (hok:OkL ok M) (O:OrdB lt) :
  CallsV C.P 114 #[.slice A n c,.func (.func gd) #[] cb] w fun _ w' => ∃ M',M'.Perm M ∧ SortedB lt M' ∧ RowI B w' (.slice A n c) M' ∧ Below B w w':=by
 refine callsV_of C_ok (args:=[_,_]) (plans:=[]) Tryz.func114 rfl Tryz.ntmps114 (by kernel_rfl) (Nat.le_of_ble_eq_true rfl) ?_
 exact (stable_spec ho hB hn hgd hcmp hok O).mono fun v w' h => h
end Go.Proofs.YtdpdjcopkehdjaaGreat.Rk
namespace Go.Proofs.YtdpdjcopkehdjaaGreat.Rk
open Go.Eng Go.RowKit
def rkOf (l:List Rl) (x:Int):Int:=(l.getD x.toNat default).rank
def ltR (l:List Rl) (x y:Int):Bool:=decide (rkOf l x > rkOf l y ∨ (rkOf l x = rkOf l y ∧ x < y))
theorem ordR (l:List Rl):OrdB (ltR l) where
 asym x y h:=by
  have h:=of_decide_eq_true h
  exact decide_eq_false (by omega)
 ntr x y z h1 h2:=by
  have h1:=of_decide_eq_false h1
  have h2:=of_decide_eq_false h2
  exact decide_eq_false (by omega)
def okR (l:List Rl) (x y:Int):Prop:=(0 <= y ∧ y < x) ∧ x < (l.length:Nat)
theorem rkOf_nat {l:List Rl} {i:Nat} (h:i < l.length):rkOf l (i:Nat) = l[i].rank:=by
 unfold rkOf
 rw [Int.toNat_natCast,List.getD_eq_getElem?_getD,List.getElem?_eq_getElem h]; rfl
set_option maxRecDepth 100000 in
theorem cmpR {w0:World} {R:Option Addr} {l:List Rl} {c g1 B:Nat} (h:HL Rl.cells w0 R l c) (hr:∀ x ∈ l,In64 x.rank ∧ 1 <= x.rank ∧ x.rank <= 99) (hg:w0.heap[g1]? = some (.cells #[.slice R l.length c] 29 (0,0))) (hB:w0.heap.size <= B) :
  CmpW B w0 115 #[.pointer (some ⟨g1,0,none⟩)] (okR l) (ltR l):=by
 intro x y w hb hok
 obtain ⟨⟨h1,h2⟩,h3⟩:=hok
 obtain ⟨i,rfl⟩:=Int.eq_ofNat_of_zero_le (show 0 <= x by omega)
 obtain ⟨j,rfl⟩:=Int.eq_ofNat_of_zero_le h1
 have hi:i < l.length:=by omega
 have hj:j < l.length:=by omega
 have e:Ext w0 w:=hb.mono hB
 have hgw:=e.heap hg
 refine callsV_of C_ok (args:=[_,_,_]) (plans:=plans115) Tryz.func115 rfl Tryz.ntmps115 (by kernel_rfl) (Nat.le_of_ble_eq_true rfl) ?_
 obtain ⟨b1,o1,hA1,hc1⟩:=(h.ext e).at Rl.len (by omega) hj
 obtain ⟨b2,o2,hA2,hc2⟩:=(h.ext e).at Rl.len (by omega) hi
 have ri:=hr _ (List.getElem_mem hi)
 have rj:=hr _ (List.getElem_mem hj)
 have ei:=rkOf_nat hi
 have ej:=rkOf_nat hj
 refine ⟨_,cell_of_block (i:=0) hgw rfl,?_⟩
 refine ⟨j,b1,o1,rfl,hj,hA1,?_⟩
 refine ⟨_,hc1 1 _ rfl,?_⟩
 refine ⟨_,cell_of_block (i:=0) hgw rfl,?_⟩
 refine ⟨i,b2,o2,rfl,hi,hA2,?_⟩
 refine ⟨_,hc2 1 _ rfl,?_⟩
 refine ⟨l[j].rank - l[i].rank,fit ⟨by omega,by omega⟩,?_⟩
 refine ⟨⟨_,rfl,?_⟩,Ext.refl _⟩
 unfold ltR
 rw [decide_eq_true_iff]
 have e1:rkOf l (i:Nat) = l[i].rank:=ei
 have e2:rkOf l (j:Nat) = l[j].rank:=ej
 constructor
 ·intro h; left; show rkOf l (i:Nat) > rkOf l (j:Nat); omega
 ·intro h
  have h:rkOf l (i:Nat) > rkOf l (j:Nat) ∨ (rkOf l (i:Nat) = rkOf l (j:Nat) ∧ ((i:Nat):Int) < (j:Nat)):=h
  omega
def upTo (n:Nat):List Int:=(List.range n).map fun k => ((k:Nat):Int)
structure RankedL (l:List Rl) (M:List Int):Prop where
 perm:M.Perm (upTo l.length)
 sorted:SortedB (ltR l) M
set_option maxRecDepth 100000 in
set_option maxHeartbeats 2000000 in
theorem ranked_spec {w:World} {R:Option Addr} {l:List Rl} {c:Nat} (h:HL Rl.cells w R l c) (hr:∀ x ∈ l,In64 x.rank ∧ 1 <= x.rank ∧ x.rank <= 99) (hl:l.length <= 2 ^ 16) :
  CallsV C.P 58 #[.agg #[.slice R l.length c]] w fun v w' => (∃ M:List Int,RankedL l M ∧ w'.ownsRow w.heap.size 3 1 v M.length (ints M)) ∧ Ext w w':=by
 refine callsV_of C_ok (args:=[_]) (plans:=[]) Tryz.func58 rfl Tryz.ntmps58 (by kernel_rfl) (Nat.le_of_ble_eq_true rfl) ?_
 obtain ⟨n,hn⟩:∃ n,n = l.length:=⟨_,rfl⟩
 intro g1 w1 h1
 have M1:Mem w w1 [(g1,.cells #[.slice R l.length c] 29 (0,0))]:=(Mem.start w).alloc h1
 refine ⟨_,M1.cell 0 rfl rfl,?_⟩
 refine ⟨n,n,by rw [hn],by rw [hn],Nat.le_refl _,by omega,by omega,rfl,rfl,rfl,rfl,?_⟩
 intro go w2 h2
 have h2:Alloc w1 go (.cells (ints (natsN n fun _ => 0)).toArray 3 (0,0)) w2:=by rw [<-zeros_natsN]; exact h2
 have M2:=M1.alloc h2
 have hgo:go = w1.heap.size:=h2.new
 refine loopE C_ok (fun (i:Nat) => [(1,.pointer (some ⟨g1,0,none⟩)),(3,.slice (some ⟨go,0,none⟩) n n),(10,.int .i64 (n:Nat)),(11,.int .i64 (i:Nat))])
  (fun i w' => i <= n ∧ Mem w w' [(go,.cells (ints (natsN n fun k => if k < i then k else 0)).toArray 3 (0,0)),(g1,.cells #[.slice R l.length c] 29 (0,0))] ∧ Mem w1 w' [(go,.cells (ints (natsN n fun k => if k < i then k else 0)).toArray 3 (0,0))]) (fun i => n - i) 0 ⟨rfl,rfl,rfl,rfl,trivial⟩
  ⟨Nat.zero_le _,by simpa using M2,by simpa using (Mem.start w1).alloc h2⟩ ?_
 clear M1 M2 h2
 rintro i w3 ⟨hi,M,N⟩
 refine brE_dec (fun hlt => ?_) (fun hge => ?_)
 ·have hlti:i < n:=by have:(i:Int) < (n:Nat):=hlt; omega
  have next:IntKind.i64.wrap ((i:Int) + 1) = ((i + 1:Nat):Int):=fit ⟨by omega,by omega⟩
  refine ⟨i,go,0,rfl,hlti,rfl,?_⟩
  refine ⟨rfl,_,_,M.get 0 rfl,by rw [ints_length,natsN_length]; show 0 + i * 1 + 1 <= n; omega,rfl,?_⟩
  intro w4 h4
  have e4:splice (ints (natsN n fun k => if k < i then k else 0)) (0 + i * 1) [.int .i64 (i:Nat)] = ints (natsN n fun k => if k < i + 1 then k else 0):=by
   have:=natsN_set hlti (fun k => if k < i then k else 0) i
   rw [show 0 + i * 1 = i by omega,this]
   congr 1
   unfold natsN
   refine List.map_congr_left fun k _ => ?_
   congr 1
   show (if k = i then i else if k < i then k else 0) = if k < i + 1 then k else 0
   by_cases hk:k = i
   ·rw [if_pos hk,if_pos (by omega)]; exact hk.symm
   ·rw [if_neg hk]
    by_cases hk2:k < i
    ·rw [if_pos hk2,if_pos (by omega)]
    ·rw [if_neg hk2,if_neg (by omega)]
  have h4:Put w3 go (.cells (ints (natsN n fun k => if k < i + 1 then k else 0)).toArray 3 (0,0)) w4:=by rw [<-e4]; exact h4
  refine ⟨_,next,?_⟩
  exact ⟨i + 1,⟨rfl,rfl,rfl,rfl,trivial⟩,⟨hlti,M.put 0 rfl h4,N.put 0 rfl h4⟩,by show n - (i + 1) < n - i; omega⟩
 ·have hie:i = n:=by have:¬ (i:Int) < (n:Nat):=hge; omega
  have hup:natsN n (fun k => if k < i then k else 0) = upTo n:=by
   unfold natsN upTo
   refine List.map_congr_left fun k hk => ?_
   show (((if k < i then k else 0:Nat)):Int) = ((k:Nat):Int)
   rw [if_pos (by have:=List.mem_range.1 hk; omega)]
  rw [hup] at M N
  refine ⟨[],[.pointer (some ⟨g1,0,none⟩)],rfl,rfl,?_⟩
  have hul:(upTo n).length = n:=by simp [upTo]
  have hrow:RowI w1.heap.size w3 (.slice (some ⟨go,0,none⟩) n n) (upTo n):=by
   show w3.ownsRow _ _ _ _ _ _
   rw [icells_ints,hul]
   exact owns_block (N.get 0 rfl) (N.new 0 rfl) (by rw [ints_length,hul,Nat.mul_one]) (by simp only [maxLen]; omega)
  have hok:OkL (okR l) (upTo n):=by
   unfold OkL upTo
   refine List.pairwise_map.2 ?_
   refine List.Pairwise.imp_of_mem (R:=fun a b => a < b) (fun {a b} ha hb hab => ?_) List.pairwise_lt_range
   have:=List.mem_range.1 hb
   exact ⟨⟨Int.natCast_nonneg _,by omega⟩,by omega⟩
  have hcmp:=cmpR (B:=w1.heap.size) (h.ext (h1.ext)) hr h1.here (Nat.le_refl _)
  have hb13:Below w1.heap.size w1 w3:=N.ext
  refine (sortStable_spec hrow hb13.size (by omega) rfl (hcmp.later hb13) hok (ordR l)).mono ?_
  rintro v w4 ⟨M',hp,hs,ho4,b4⟩
  have hM:M'.length = n:=by rw [hp.length_eq,hul]
  have hn1:w.heap.size <= w1.heap.size:=h1.ext.size
  refine ⟨⟨M',⟨by rw [<-hn]; exact hp,hs⟩,?_⟩,Below.trans h1.ext ((hb13.trans b4).mono hn1)⟩
  have:=NewL.base ho4 hn1
  unfold NewL at this
  rw [icells_ints] at this
  exact this
end Go.Proofs.YtdpdjcopkehdjaaGreat.Rk
namespace Go.Proofs.YtdpdjcopkehdjaaGreat.Rk
open Go.Eng Go.RowKit
def firstI (l:List Rl) (ρ:Int) (T:Rl -> Bool):Int:=match l.findIdx? (fun x => decide (x.rank = ρ) && T x) with
 | some i => ((i:Nat):Int)
 | none => -1
structure Ver (l:List Rl) (T B:Rl -> Bool) (ρ r b:Int):Prop where
 top:(ρ = 0 ∧ ∀ x ∈ l,T x = false ∧ B x = false) ∨ ((∃ x ∈ l,x.rank = ρ ∧ (T x = true ∨ B x = true)) ∧ ∀ x ∈ l,(T x = true ∨ B x = true) -> x.rank <= ρ)
 fr:r = firstI l ρ T
 fb:b = firstI l ρ B
theorem Ver.unique {l:List Rl} {T B:Rl -> Bool} {ρ r b ρ' r' b':Int} (h:Ver l T B ρ r b) (h':Ver l T B ρ' r' b'):(r,b) = (r',b'):=by
 have e:ρ = ρ':=by
  rcases h.top with ⟨h1,h2⟩ | ⟨⟨x,hx,hxr,hxt⟩,h2⟩ <;> rcases h'.top with ⟨h3,h4⟩ | ⟨⟨y,hy,hyr,hyt⟩,h4⟩
  ·rw [h1,h3]
  ·have:=h2 y hy; rcases hyt with e | e
   ·rw [this.1] at e; cases e
   ·rw [this.2] at e; cases e
  ·have:=h4 x hx; rcases hxt with e | e
   ·rw [this.1] at e; cases e
   ·rw [this.2] at e; cases e
  ·have a1:=h2 y hy hyt
   have a2:=h4 x hx hxt
   omega
 subst e
 rw [h.fr,h.fb,h'.fr,h'.fb]
open Classical in
noncomputable def decV (l:List Rl) (T B:Rl -> Bool):Int × Int:=if h:∃ p:Int × Int × Int,Ver l T B p.1 p.2.1 p.2.2 then (h.choose.2.1,h.choose.2.2) else (-1,-1)
theorem decV_eq {l:List Rl} {T B:Rl -> Bool} {ρ r b:Int} (h:Ver l T B ρ r b):decV l T B = (r,b):=by
 have hx:∃ p:Int × Int × Int,Ver l T B p.1 p.2.1 p.2.2:=⟨(ρ,r,b),h⟩
 unfold decV
 rw [dif_pos hx]
 exact Ver.unique hx.choose_spec h
theorem firstI_snoc (p:List Rl) (x:Rl) (ρ:Int) (T:Rl -> Bool):firstI (p ++ [x]) ρ T = if firstI p ρ T >= 0 then firstI p ρ T else if x.rank = ρ ∧ T x = true then ((p.length:Nat):Int) else -1:=by
 unfold firstI
 rw [List.findIdx?_append]
 cases h:p.findIdx? (fun x => decide (x.rank = ρ) && T x) with
 | some i => simp
 | none =>
  by_cases hx:x.rank = ρ ∧ T x = true
  ·simp [hx.1,hx.2]
  ·have hx2:(decide (x.rank = ρ) && T x) = false:=by
    cases hh:(decide (x.rank = ρ) && T x) with
    | false => rfl
    | true => rw [Bool.and_eq_true,decide_eq_true_iff] at hh; exact absurd hh hx
   simp [hx2,hx]
theorem firstI_none {p:List Rl} {ρ:Int} {T:Rl -> Bool} (h:∀ y ∈ p,y.rank = ρ -> T y = false):firstI p ρ T = -1:=by
 unfold firstI
 have:p.findIdx? (fun x => decide (x.rank = ρ) && T x) = none:=by
  refine List.findIdx?_eq_none_iff.2 fun x hx => ?_
  by_cases e:x.rank = ρ
  ·rw [h x hx e]; simp
  ·rw [decide_eq_false e]; rfl
 rw [this]
theorem firstI_low (l:List Rl) (ρ:Int) (T:Rl -> Bool):firstI l ρ T = -1 ∨ 0 <= firstI l ρ T:=by
 unfold firstI
 split
 ·right; omega
 ·left; rfl
theorem ver_nil (T B:Rl -> Bool):Ver [] T B 0 (-1) (-1):=⟨.inl ⟨rfl,fun _ h => by cases h⟩,rfl,rfl⟩
theorem Ver.low {l:List Rl} {T B:Rl -> Bool} {ρ r b:Int} (h:Ver l T B ρ r b) (h1:∀ x ∈ l,1 <= x.rank):0 <= ρ:=by
 rcases h.top with ⟨e,_⟩ | ⟨⟨x,hx,hxr,_⟩,_⟩
 ·omega
 ·have:=h1 x hx; omega
theorem Ver.same {p:List Rl} {x:Rl} {T B:Rl -> Bool} {ρ r b:Int} (h:Ver p T B ρ r b) (h1:∀ x ∈ p,1 <= x.rank) (hx1:1 <= x.rank) (hx:x.rank < ρ ∨ (T x = false ∧ B x = false)):Ver (p ++ [x]) T B ρ r b:=by
 have key:∀ (U:Rl -> Bool),(U x = true -> T x = true ∨ B x = true) -> firstI (p ++ [x]) ρ U = firstI p ρ U:=fun U hU => by
  rw [firstI_snoc]
  rcases firstI_low p ρ U with e | e
  ·rw [if_neg (by omega),if_neg,e]
   rintro ⟨e1,e2⟩
   rcases hx with hx | hx
   ·omega
   ·rcases hU e2 with e3 | e3
    ·rw [hx.1] at e3; cases e3
    ·rw [hx.2] at e3; cases e3
  ·rw [if_pos e]
 refine ⟨?_,h.fr.trans (key T .inl).symm,h.fb.trans (key B .inr).symm⟩
 have hl:=h.low h1
 rcases h.top with ⟨e,h2⟩ | ⟨⟨y,hy,h3⟩,h2⟩
 ·refine .inl ⟨e,fun z hz => ?_⟩
  rcases List.mem_append.1 hz with hz | hz
  ·exact h2 z hz
  ·rw [List.mem_singleton.1 hz]
   rcases hx with hx | hx
   ·omega
   ·exact hx
 ·refine .inr ⟨⟨y,List.mem_append_left _ hy,h3⟩,fun z hz ht => ?_⟩
  rcases List.mem_append.1 hz with hz | hz
  ·exact h2 z hz ht
  ·rw [List.mem_singleton.1 hz] at ht ⊢
   rcases hx with hx | hx
   ·omega
   ·rcases ht with e | e
    ·rw [hx.1] at e; cases e
    ·rw [hx.2] at e; cases e
theorem Ver.more {p:List Rl} {x:Rl} {T B:Rl -> Bool} {ρ r b:Int} (h:Ver p T B ρ r b) (h1:∀ x ∈ p,1 <= x.rank) (hx1:1 <= x.rank) (hge:ρ <= x.rank) (ht:T x = true ∨ B x = true) :
  Ver (p ++ [x]) T B x.rank (if T x = true ∧ (if ρ < x.rank then (-1:Int) else r) < 0 then ((p.length:Nat):Int) else if ρ < x.rank then -1 else r) (if B x = true ∧ (if ρ < x.rank then (-1:Int) else b) < 0 then ((p.length:Nat):Int) else if ρ < x.rank then -1 else b):=by
 have hl:=h.low h1
 have prev:∀ (U:Rl -> Bool) (u:Int),u = firstI p ρ U -> (∀ y,U y = true -> T y = true ∨ B y = true) -> firstI p x.rank U = if ρ < x.rank then -1 else u:=fun U u hu hU => by
  by_cases hlt:ρ < x.rank
  ·rw [if_pos hlt]
   refine firstI_none fun y hy e => ?_
   cases hh:U y with
   | false => rfl
   | true =>
    rcases h.top with ⟨_,h2⟩ | ⟨_,h2⟩
    ·have:=h2 y hy
     rcases hU y hh with e3 | e3
     ·rw [this.1] at e3; cases e3
     ·rw [this.2] at e3; cases e3
    ·have:=h2 y hy (hU y hh); omega
  ·rw [if_neg hlt,hu]
   have:x.rank = ρ:=by omega
   rw [this]
 have fin:∀ (U:Rl -> Bool) (u:Int),u = firstI p ρ U -> (∀ y,U y = true -> T y = true ∨ B y = true) -> (if U x = true ∧ (if ρ < x.rank then (-1:Int) else u) < 0 then ((p.length:Nat):Int) else if ρ < x.rank then -1 else u) = firstI (p ++ [x]) x.rank U:=fun U u hu hU => by
  have e:=prev U u hu hU
  rw [firstI_snoc,<-e]
  have low:=firstI_low p x.rank U
  cases hh:U x with
  | false =>
   rw [if_neg (by simp)]
   rcases low with e1 | e1
   ·rw [if_neg (by omega),if_neg (by simp),e1]
   ·rw [if_pos e1]
  | true =>
   rcases low with e1 | e1
   ·rw [if_pos ⟨rfl,by omega⟩,if_neg (by omega),if_pos ⟨rfl,rfl⟩]
   ·rw [if_neg (by omega),if_pos e1]
 refine ⟨.inr ⟨⟨x,by simp,rfl,ht⟩,fun z hz hzt => ?_⟩,fin T r h.fr fun _ => .inl,fin B b h.fb fun _ => .inr⟩
 rcases List.mem_append.1 hz with hz | hz
 ·rcases h.top with ⟨_,h2⟩ | ⟨_,h2⟩
  ·have:=h2 z hz
   rcases hzt with e | e
   ·rw [this.1] at e; cases e
   ·rw [this.2] at e; cases e
  ·have:=h2 z hz hzt; omega
 ·rw [List.mem_singleton.1 hz]; omega
def atI (l:List Rl) (y:Int):Rl:=l.getD y.toNat default
def findO (M:List Int) (T:Int -> Bool):Int:=(M.find? T).getD (-1)
theorem findO_snoc {M:List Int} {T:Int -> Bool} {y:Int} (hM:∀ z ∈ M,0 <= z):findO (M ++ [y]) T = if T y = true ∧ findO M T < 0 then y else findO M T:=by
 unfold findO
 rw [List.find?_append]
 cases h:M.find? T with
 | some z =>
  have hz:=hM z (List.mem_of_find?_eq_some h)
  rw [if_neg (by simp; omega)]
  rfl
 | none =>
  cases hy:T y with
  | true => simp [hy]
  | false => simp [hy]
theorem RankedL.mem {l:List Rl} {M:List Int} (h:RankedL l M) {y:Int}:y ∈ M <-> ∃ k:Nat,k < l.length ∧ y = (k:Int):=by
 rw [h.perm.mem_iff]
 unfold upTo
 rw [List.mem_map]
 constructor
 ·rintro ⟨k,hk,rfl⟩; exact ⟨k,List.mem_range.1 hk,rfl⟩
 ·rintro ⟨k,hk,rfl⟩; exact ⟨k,List.mem_range.2 hk,rfl⟩
theorem atI_nat {l:List Rl} {k:Nat} (h:k < l.length):atI l (k:Nat) = l[k]:=by
 unfold atI
 rw [Int.toNat_natCast,List.getD_eq_getElem?_getD,List.getElem?_eq_getElem h]; rfl
theorem rk_atI (l:List Rl) (y:Int):rkOf l y = (atI l y).rank:=rfl
theorem first_found {l:List Rl} {M:List Int} {T:Rl -> Bool} {ρ:Int} {j:Nat} (hM:RankedL l M)
  (hall:∀ y ∈ M.take j,T (atI l y) = true -> (atI l y).rank = ρ) (hrest:∀ y ∈ M.drop j,(atI l y).rank = ρ -> T (atI l y) = false) :
  findO (M.take j) (fun y => T (atI l y)) = firstI l ρ T:=by
 unfold findO
 cases hf:(M.take j).find? fun y => T (atI l y) with
 | none =>
  have hno:∀ y ∈ M,(atI l y).rank = ρ -> T (atI l y) = false:=fun y hy hr => by
   rw [<-List.take_append_drop j M] at hy
   rcases List.mem_append.1 hy with hy | hy
   ·have:=List.find?_eq_none.1 hf y hy
    simpa using this
   ·exact hrest y hy hr
  rw [firstI_none]
  ·rfl
  ·intro x hx hr
   obtain ⟨k,hk,rfl⟩:=List.getElem_of_mem hx
   have:=hno (k:Nat) (hM.mem.2 ⟨k,hk,rfl⟩)
   rw [atI_nat hk] at this
   exact this hr
 | some y =>
  have hyT:T (atI l y) = true:=by simpa using List.find?_some hf
  have hym:=List.mem_of_find?_eq_some hf
  have hyM:y ∈ M:=List.mem_of_mem_take hym
  obtain ⟨k,hk,rfl⟩:=hM.mem.1 hyM
  have hyr:=hall _ hym hyT
  obtain ⟨_,us,bs,hsplit,hbefore⟩:=List.find?_eq_some_iff_append.1 hf
  have hidx:l.findIdx? (fun x => decide (x.rank = ρ) && T x) = some k:=by
   rw [List.findIdx?_eq_some_iff_getElem]
   rw [atI_nat hk] at hyT hyr
   refine ⟨hk,by simp [hyT,hyr],fun i hi => ?_⟩
   have hil:i < l.length:=by omega
   cases hh:(decide (l[i].rank = ρ) && T l[i]) with
   | false => simp [hh]
   | true =>
    exfalso
    rw [Bool.and_eq_true,decide_eq_true_iff] at hh
    have hiM:((i:Nat):Int) ∈ M:=hM.mem.2 ⟨i,hil,rfl⟩
    rw [<-List.take_append_drop j M,hsplit] at hiM
    have hs:=hM.sorted
    rw [<-List.take_append_drop j M,hsplit] at hs
    have hlt:ltR l (i:Nat) (k:Nat) = true:=by
     refine decide_eq_true (.inr ⟨?_,by omega⟩)
     rw [rk_atI,rk_atI,atI_nat hil,atI_nat hk,hh.1,hyr]
    rw [List.append_assoc] at hiM hs
    rcases List.mem_append.1 hiM with h1 | h1
    ·have:=hbefore _ h1
     rw [atI_nat hil,hh.2] at this
     cases this
    ·rw [List.cons_append] at h1 hs
     rcases List.mem_cons.1 h1 with h1 | h1
     ·omega
     ·have:=(List.pairwise_cons.1 (List.pairwise_append.1 hs).2.1).1 _ h1
      rw [hlt] at this; cases this
  unfold firstI
  rw [hidx]
  rfl
theorem ver_of_order {l:List Rl} {M:List Int} {T B:Rl -> Bool} {ρ:Int} {j:Nat} (hM:RankedL l M) (h1:∀ x ∈ l,1 <= x.rank)
  (hstop:j = M.length ∨ ∃ h:j < M.length,ρ > rkOf l M[j])
  (hinv:(ρ = 0 ∧ ∀ y ∈ M.take j,T (atI l y) = false ∧ B (atI l y) = false) ∨ ((∃ y ∈ M.take j,(atI l y).rank = ρ ∧ (T (atI l y) = true ∨ B (atI l y) = true)) ∧ ∀ y ∈ M.take j,(T (atI l y) = true ∨ B (atI l y) = true) -> (atI l y).rank = ρ)) :
  Ver l T B ρ (findO (M.take j) fun y => T (atI l y)) (findO (M.take j) fun y => B (atI l y)):=by
 have pos:∀ y ∈ M,1 <= (atI l y).rank:=fun y hy => by
  obtain ⟨k,hk,rfl⟩:=hM.mem.1 hy
  rw [atI_nat hk]; exact h1 _ (List.getElem_mem hk)
 have rest:∀ y ∈ M.drop j,(atI l y).rank < ρ:=fun y hy => by
  rcases hstop with hs | ⟨hj,hs⟩
  ·rw [hs,List.drop_length] at hy; cases hy
  ·rw [List.drop_eq_getElem_cons hj] at hy
   have hsrt:=hM.sorted
   rw [<-List.take_append_drop j M,List.drop_eq_getElem_cons hj] at hsrt
   rcases List.mem_cons.1 hy with rfl | hy
   ·exact hs
   ·have:=(List.pairwise_cons.1 (List.pairwise_append.1 hsrt).2.1).1 _ hy
    have:=of_decide_eq_false this
    have e:=rk_atI l y
    omega
 have onT:∀ y ∈ M.take j,T (atI l y) = true -> (atI l y).rank = ρ:=fun y hy ht => by
  rcases hinv with ⟨_,h2⟩ | ⟨_,h2⟩
  ·rw [(h2 y hy).1] at ht; cases ht
  ·exact h2 y hy (.inl ht)
 have onB:∀ y ∈ M.take j,B (atI l y) = true -> (atI l y).rank = ρ:=fun y hy ht => by
  rcases hinv with ⟨_,h2⟩ | ⟨_,h2⟩
  ·rw [(h2 y hy).2] at ht; cases ht
  ·exact h2 y hy (.inr ht)
 refine ⟨?_,first_found hM onT (fun y hy e => absurd (rest y hy) (by omega)),first_found hM onB (fun y hy e => absurd (rest y hy) (by omega))⟩
 have split:∀ x ∈ l,∃ y,atI l y = x ∧ (y ∈ M.take j ∨ y ∈ M.drop j):=fun x hx => by
  obtain ⟨k,hk,rfl⟩:=List.getElem_of_mem hx
  refine ⟨(k:Nat),atI_nat hk,?_⟩
  have:=hM.mem.2 ⟨k,hk,rfl⟩
  rw [<-List.take_append_drop j M] at this
  exact List.mem_append.1 this
 rcases hinv with ⟨h0,h2⟩ | ⟨⟨y,hy,hyr,hyt⟩,h2⟩
 ·refine .inl ⟨h0,fun x hx => ?_⟩
  obtain ⟨y,rfl,hy | hy⟩:=split x hx
  ·exact h2 y hy
  ·have:=rest y hy
   have:=pos y (List.mem_of_mem_drop hy)
   omega
 ·refine .inr ⟨⟨atI l y,?_,hyr,hyt⟩,fun x hx ht => ?_⟩
  ·obtain ⟨k,hk,rfl⟩:=hM.mem.1 (List.mem_of_mem_take hy)
   rw [atI_nat hk]; exact List.getElem_mem hk
  ·obtain ⟨z,rfl,hz | hz⟩:=split x hx
   ·exact Int.le_of_eq (h2 z hz ht)
   ·exact Int.le_of_lt (rest z hz)
end Go.Proofs.YtdpdjcopkehdjaaGreat.Rk
namespace Go.Proofs.YtdpdjcopkehdjaaGreat.Rk
open Go.Eng Go.RowKit
theorem neqNilF (x y:Operand):EqIs C.P .neq 167 x y .nilFunc .nilFunc false:=by
 intro w
 have h1:(eqGuard .neq 167 x y .nilFunc .nilFunc).run C.P w = .ok () w:=by simp [eqGuard]
 rw [Sem.run_bind,h1]
 simp only [Result.andThen_ok]
 have h2:(binOp .neq 167 .nilFunc .nilFunc).run Tryz.prog w = .ok (.bool false) w:=by kernel_rfl
 exact h2
def InvO (l:List Rl) (T B:Rl -> Bool) (ρ:Int) (D:List Int):Prop :=
 (ρ = 0 ∧ ∀ y ∈ D,T (atI l y) = false ∧ B (atI l y) = false) ∨ ((∃ y ∈ D,(atI l y).rank = ρ ∧ (T (atI l y) = true ∨ B (atI l y) = true)) ∧ ∀ y ∈ D,(T (atI l y) = true ∨ B (atI l y) = true) -> (atI l y).rank = ρ)
theorem InvO.skip {l:List Rl} {T B:Rl -> Bool} {ρ:Int} {D:List Int} {y:Int} (h:InvO l T B ρ D) (ht:T (atI l y) = false) (hb:B (atI l y) = false):InvO l T B ρ (D ++ [y]):=by
 rcases h with ⟨e,h2⟩ | ⟨⟨z,hz,h3⟩,h2⟩
 ·refine .inl ⟨e,fun u hu => ?_⟩
  rcases List.mem_append.1 hu with hu | hu
  ·exact h2 u hu
  ·rw [List.mem_singleton.1 hu]; exact ⟨ht,hb⟩
 ·refine .inr ⟨⟨z,List.mem_append_left _ hz,h3⟩,fun u hu hut => ?_⟩
  rcases List.mem_append.1 hu with hu | hu
  ·exact h2 u hu hut
  ·rw [List.mem_singleton.1 hu,ht,hb] at hut
   rcases hut with e | e <;> cases e
theorem InvO.take {l:List Rl} {T B:Rl -> Bool} {ρ:Int} {D:List Int} {y:Int} (h:InvO l T B ρ D) (hs:SortedB (ltR l) (D ++ [y])) (hge:¬ ρ > (atI l y).rank) (hor:T (atI l y) = true ∨ B (atI l y) = true):InvO l T B (atI l y).rank (D ++ [y]):=by
 refine .inr ⟨⟨y,by simp,rfl,hor⟩,fun u hu hut => ?_⟩
 rcases List.mem_append.1 hu with hu | hu
 ·rcases h with ⟨_,h2⟩ | ⟨_,h2⟩
  ·have:=h2 u hu
   rw [this.1,this.2] at hut
   rcases hut with e | e <;> cases e
  ·have e:=h2 u hu hut
   have:=of_decide_eq_false ((List.pairwise_append.1 hs).2.2 u hu y (by simp))
   have e1:=rk_atI l u
   have e2:=rk_atI l y
   omega
 ·rw [List.mem_singleton.1 hu]
def kindV (p:Int × Int):Int:=if p.1 >= 0 ∧ p.2 >= 0 then 3 else if p.1 >= 0 then 1 else if p.2 >= 0 then 2 else 0
def verC (k r b:Int):List Value:=[.int .u8 k,.int .i64 r,.int .i64 b]
def verV (p:Int × Int):Value:=.agg (verC (kindV p) p.1 p.2).toArray
set_option maxRecDepth 100000 in
set_option maxHeartbeats 8000000 in
theorem decide_spec {w:World} {R:Option Addr} {l:List Rl} {c:Nat} (h:HRs w R l c) (hz:chkRl l = 0) {Mv:List Int} (hM:RankedL l Mv) {A:Option Addr} {cm:Nat} (hA:Reads w A (ints Mv)) (a b:Prof) :
  CallsV C.P 57 #[.agg #[.slice R l.length c],.slice A Mv.length cm,a.val,b.val,.nilFunc] w fun v w' => v = verV (decV l (fun x => holdsT a b x.test) (fun x => holdsT b a x.test)) ∧ Ext w w':=by
 obtain ⟨hl24,hgood⟩:=chkRl_zero hz
 obtain ⟨T,hT⟩:∃ T:Rl -> Bool,T = fun x => holdsT a b x.test:=⟨_,rfl⟩
 obtain ⟨B,hB⟩:∃ B:Rl -> Bool,B = fun x => holdsT b a x.test:=⟨_,rfl⟩
 rw [<-hT,<-hB]
 have hMl:Mv.length = l.length:=by rw [hM.perm.length_eq]; simp [upTo]
 have h1r:∀ x ∈ l,1 <= x.rank:=fun x hx => (hgood x hx).2.1.1
 refine callsV_ofS (args:=[_,_,_,_,_]) Tryz.func57 rfl Tryz.ntmps57 C_ok (Nat.le_of_ble_eq_true rfl) ?_
 refine Snd.go C_ok plans57 (by kernel_rfl) ?_
 intro g5 w1 h1
 have M:Mem w w1 [(g5,.cells #[.slice R l.length c] 29 (0,0))]:=(Mem.start w).alloc h1
 intro g7 w2 h2
 have M:Mem w w2 [(g7,.cells a.cells.toArray 38 (0,0)),(g5,.cells #[.slice R l.length c] 29 (0,0))]:=M.alloc h2
 intro g8 w3 h3
 have M:Mem w w3 [(g8,.cells b.cells.toArray 38 (0,0)),(g7,.cells a.cells.toArray 38 (0,0)),(g5,.cells #[.slice R l.length c] 29 (0,0))]:=M.alloc h3
 intro g10 w4 h4
 have M:Mem w w4 [(g10,.cells (verC 0 0 0).toArray 64 (0,0)),(g8,.cells b.cells.toArray 38 (0,0)),(g7,.cells a.cells.toArray 38 (0,0)),(g5,.cells #[.slice R l.length c] 29 (0,0))]:=M.alloc h4
 refine ⟨Snd.go C_ok plans57 (by kernel_rfl) ?_⟩
 intro g11 w5 h5
 have M:=M.alloc h5
 refine ⟨rfl,_,_,M.get 0 rfl,Nat.le_of_ble_eq_true rfl,rfl,?_⟩
 intro w6 h6
 have M:Mem w w6 [(g11,.cells (verC 0 (-1) (-1)).toArray 64 (0,0)),(g10,.cells (verC 0 0 0).toArray 64 (0,0)),(g8,.cells b.cells.toArray 38 (0,0)),(g7,.cells a.cells.toArray 38 (0,0)),(g5,.cells #[.slice R l.length c] 29 (0,0))]:=M.put 0 rfl h6
 clear h1 h2 h3 h4 h5 h6
 refine ⟨Snd.go C_ok plans57 (by kernel_rfl) ?_⟩
 refine ⟨Snd.join C_ok plans57 (fun _:Int × Int => [(10,.pointer (some ⟨g10,0,none⟩)),(11,.pointer (some ⟨g11,0,none⟩))])
  (fun p w' => decV l T B = p ∧ Mem w w' [(g11,.cells (verC 0 p.1 p.2).toArray 64 (0,0)),(g10,.cells (verC 0 0 0).toArray 64 (0,0))]) (by kernel_rfl) ?_ ?_⟩
 ·refine loopE C_ok (fun (s:Nat × Int × Int × Int) => [(4,.nilFunc),(5,.pointer (some ⟨g5,0,none⟩)),(7,.pointer (some ⟨g7,0,none⟩)),(8,.pointer (some ⟨g8,0,none⟩)),(10,.pointer (some ⟨g10,0,none⟩)),(11,.pointer (some ⟨g11,0,none⟩)),(12,.int .i64 s.2.1),(19,.slice A Mv.length cm),(20,.int .i64 Mv.length),(21,.int .i64 (s.1:Nat))])
   (fun s w' => s.1 <= Mv.length ∧ Mem w w' [(g11,.cells (verC 0 s.2.2.1 s.2.2.2).toArray 64 (0,0)),(g10,.cells (verC 0 0 0).toArray 64 (0,0)),(g8,.cells b.cells.toArray 38 (0,0)),(g7,.cells a.cells.toArray 38 (0,0)),(g5,.cells #[.slice R l.length c] 29 (0,0))] ∧
    InvO l T B s.2.1 (Mv.take s.1) ∧ s.2.2.1 = findO (Mv.take s.1) (fun y => T (atI l y)) ∧ s.2.2.2 = findO (Mv.take s.1) (fun y => B (atI l y)))
   (fun s => Mv.length - s.1) (0,0,-1,-1) ⟨rfl,rfl,rfl,rfl,rfl,rfl,rfl,rfl,rfl,rfl,trivial⟩ ⟨Nat.zero_le _,M,.inl ⟨rfl,fun _ h => by cases h⟩,rfl,rfl⟩ ?_
  clear M
  rintro ⟨j,ρ,r,q⟩ w7 ⟨hj',M',hI',hr',hq'⟩
  have hj:j <= Mv.length:=hj'
  have M:Mem w w7 [(g11,.cells (verC 0 r q).toArray 64 (0,0)),(g10,.cells (verC 0 0 0).toArray 64 (0,0)),(g8,.cells b.cells.toArray 38 (0,0)),(g7,.cells a.cells.toArray 38 (0,0)),(g5,.cells #[.slice R l.length c] 29 (0,0))]:=M'
  have hI:InvO l T B ρ (Mv.take j):=hI'
  have hr:r = findO (Mv.take j) (fun y => T (atI l y)):=hr'
  have hq:q = findO (Mv.take j) (fun y => B (atI l y)):=hq'
  clear hj' M' hI' hr' hq'
  have stop:(j = Mv.length ∨ ∃ h:j < Mv.length,ρ > rkOf l Mv[j]) -> decV l T B = (r,q):=fun hs => by
   rw [hr,hq]
   exact decV_eq (ver_of_order hM h1r hs hI)
  refine brE_dec (fun hlt => ?_) (fun hge => ?_)
  ·have hltj:j < Mv.length:=by have:(j:Int) < (Mv.length:Nat):=hlt; omega
   have next:IntKind.i64.wrap ((j:Int) + 1) = ((j + 1:Nat):Int):=fit ⟨by omega,by omega⟩
   obtain ⟨y,hy⟩:∃ y,y = Mv[j]:=⟨_,rfl⟩
   have htake:Mv.take (j + 1) = Mv.take j ++ [y]:=by rw [List.take_succ_eq_append_getElem hltj,hy]
   obtain ⟨k,hk,hyk⟩:=hM.mem.1 (by rw [hy]; exact List.getElem_mem hltj:y ∈ Mv)
   have hnn:∀ z ∈ Mv.take j,0 <= z:=fun z hz => by
    obtain ⟨i,_,rfl⟩:=hM.mem.1 (List.mem_of_mem_take hz); exact Int.natCast_nonneg _
   obtain ⟨x,hx⟩:∃ x,x = l[k]:=⟨_,rfl⟩
   have hat:atI l y = x:=by rw [hyk,atI_nat hk,hx]
   have hxm:x ∈ l:=by rw [hx]; exact List.getElem_mem hk
   have hsrt:SortedB (ltR l) (Mv.take j ++ [y]):=by rw [<-htake]; exact hM.sorted.sublist (List.take_sublist _ _)
   obtain ⟨bb,o,hAA,hc⟩:=Reads.int (hA.ext M.ext) hltj
   rw [<-hy,hyk] at hc
   refine ⟨j,bb,o,rfl,hltj,hAA,?_⟩
   refine ⟨_,by simpa using hc,?_⟩
   obtain ⟨b2,o2,hR2,hc2⟩:=(h.ext M.ext).at hk
   rw [<-hx] at hc2
   refine ⟨_,M.cell 4 rfl rfl,?_⟩
   refine ⟨k,b2,o2,rfl,hk,hR2,?_⟩
   refine ⟨x.cells,rfl,hc2,?_⟩
   intro g15 w8 h8
   have M8:=M.alloc h8
   refine ⟨rfl,_,_,M8.get 0 rfl,Nat.le_of_ble_eq_true rfl,rfl,?_⟩
   intro w9 h9
   have M:Mem w w9 [(g15,.cells x.cells.toArray 72 (0,0)),(g11,.cells (verC 0 r q).toArray 64 (0,0)),(g10,.cells (verC 0 0 0).toArray 64 (0,0)),(g8,.cells b.cells.toArray 38 (0,0)),(g7,.cells a.cells.toArray 38 (0,0)),(g5,.cells #[.slice R l.length c] 29 (0,0))]:=M8.put 0 rfl h9
   clear M8 h8 h9 hc hc2
   refine ⟨_,M.cell 0 (i:=1) rfl rfl,?_⟩
   refine brE_dec (fun hbr => ?_) (fun hbr => ?_)
   ·have hbr:ρ > x.rank:=hbr
    refine ⟨(r,q),⟨rfl,rfl,trivial⟩,stop (.inr ⟨hltj,?_⟩),M.sub (by simp)⟩
    rw [<-hy,rk_atI,hat]; exact hbr
   have hbr:¬ ρ > x.rank:=hbr
   obtain ⟨tv,htv⟩:∃ tv,tv = holdsT a b x.test:=⟨_,rfl⟩
   obtain ⟨bv,hbv⟩:∃ bv,bv = holdsT b a x.test:=⟨_,rfl⟩
   have hTx:T (atI l y) = tv:=by rw [hat,hT,htv]
   have hBx:B (atI l y) = bv:=by rw [hat,hB,hbv]
   have hsh:=(hgood x hxm).1
   have hti:=(h.each x hxm).test
   refine ⟨x.test.cells,rfl,(M.rd 0 rfl).part x.test_part,?_⟩
   refine ⟨a.cells,rfl,M.rd 4 rfl,?_⟩
   refine ⟨b.cells,rfl,M.rd 3 rfl,?_⟩
   refine ⟨x.test.cells,rfl,(M.rd 0 rfl).part x.test_part,?_⟩
   refine ⟨b.cells,rfl,M.rd 3 rfl,?_⟩
   refine ⟨a.cells,rfl,M.rd 4 rfl,?_⟩
   have X:=holds_spec hti a b hsh M.ext
   rw [<-htv] at X
   refine X.mono ?_
   rintro v w10 ⟨rfl,e10⟩
   refine ⟨e10,?_⟩
   have M:=M.grow e10
   have Y:=holds_spec hti b a hsh M.ext
   rw [<-hbv] at Y
   refine Y.mono ?_
   clear X Y
   rintro v w11 ⟨rfl,e11⟩
   have M:=M.grow e11
   have hfT:=findO_snoc (y:=y) (T:=fun y => T (atI l y)) hnn
   have hfB:=findO_snoc (y:=y) (T:=fun y => B (atI l y)) hnn
   rw [<-htake] at hfT hfB
   have hfT:findO (Mv.take (j + 1)) (fun y => T (atI l y)) = if tv = true ∧ r < 0 then y else r:=by rw [hfT,<-hr]; simp only [hTx]
   have hfB:findO (Mv.take (j + 1)) (fun y => B (atI l y)) = if bv = true ∧ q < 0 then y else q:=by rw [hfB,<-hq]; simp only [hBx]
   refine brE_mk (fun t0 => ?P0) (fun t0 => ?P2)
   case' P0 =>
    have t0:tv = false:=by simpa using t0
    refine brE_mk (fun b0 => ?N) (fun b0 => ?P1)
    case' N =>
     have b0:bv = false:=by simpa using b0
     refine ⟨_,next,?_⟩
     refine ⟨(j + 1,ρ,r,q),⟨rfl,rfl,rfl,rfl,rfl,rfl,rfl,rfl,rfl,rfl,trivial⟩,⟨hltj,M.tail,?_,?_,?_⟩,by show Mv.length - (j + 1) < Mv.length - j; omega⟩
     ·show InvO l T B ρ (Mv.take (j + 1))
      rw [htake]; exact hI.skip (hTx.trans t0) (hBx.trans b0)
     ·show r = findO (Mv.take (j + 1)) _
      rw [hfT,t0,if_neg (by simp)]
     ·show q = findO (Mv.take (j + 1)) _
      rw [hfB,b0,if_neg (by simp)]
    case' P1 =>
     have hor:tv = true ∨ bv = true:=.inr (by simpa using b0)
   case' P2 =>
    have hor:tv = true ∨ bv = true:=.inl (by simpa using t0)
   all_goals
    have hI2:InvO l T B x.rank (Mv.take (j + 1)):=by
     rw [htake,<-hat]
     exact hI.take hsrt (by rw [hat]; exact hbr) (by rw [hTx,hBx]; exact hor)
    refine ⟨_,M.cell 0 (i:=1) rfl rfl,?_⟩
    refine ⟨_,neqNilF _ _,?_⟩
    have fin:∀ {w12:World} {r1 q1:Int},r1 = (if tv = true ∧ r < 0 then y else r) -> q1 = (if bv = true ∧ q < 0 then y else q) -> Mem w w12 [(g15,.cells x.cells.toArray 72 (0,0)),(g11,.cells (verC 0 r1 q1).toArray 64 (0,0)),(g10,.cells (verC 0 0 0).toArray 64 (0,0)),(g8,.cells b.cells.toArray 38 (0,0)),(g7,.cells a.cells.toArray 38 (0,0)),(g5,.cells #[.slice R l.length c] 29 (0,0))] →
      (j + 1 <= Mv.length ∧ Mem w w12 [(g11,.cells (verC 0 r1 q1).toArray 64 (0,0)),(g10,.cells (verC 0 0 0).toArray 64 (0,0)),(g8,.cells b.cells.toArray 38 (0,0)),(g7,.cells a.cells.toArray 38 (0,0)),(g5,.cells #[.slice R l.length c] 29 (0,0))] ∧
       InvO l T B x.rank (Mv.take (j + 1)) ∧ r1 = findO (Mv.take (j + 1)) (fun y => T (atI l y)) ∧ q1 = findO (Mv.take (j + 1)) (fun y => B (atI l y))):=fun e1 e2 MM => ⟨hltj,MM.tail,hI2,e1.trans hfT.symm,e2.trans hfB.symm⟩
    have step:Mv.length - (j + 1) < Mv.length - j:=by omega
    have dn:∀ {z:Int},¬ z < 0 -> ∀ (u:Bool),(if u = true ∧ z < 0 then y else z) = z:=fun hz u => if_neg fun e => hz e.2
    refine brE_mk (fun ta => ?_) (fun ta => ?_)
    ·have ta:tv = true:=ta
     refine ⟨_,M.cell 1 (i:=1) rfl rfl,?_⟩
     refine brE_dec (fun ra => ?_) (fun ra => ?_)
     ·have ra:r < 0:=ra
      refine ⟨rfl,_,_,M.get 1 rfl,Nat.le_of_ble_eq_true rfl,rfl,?_⟩
      intro w12 h12
      have M:Mem w w12 [(g15,.cells x.cells.toArray 72 (0,0)),(g11,.cells (verC 0 y q).toArray 64 (0,0)),(g10,.cells (verC 0 0 0).toArray 64 (0,0)),(g8,.cells b.cells.toArray 38 (0,0)),(g7,.cells a.cells.toArray 38 (0,0)),(g5,.cells #[.slice R l.length c] 29 (0,0))]:=by rw [hyk]; exact M.put 1 rfl h12
      refine brE_mk (fun ba => ?_) (fun ba => ?_)
      ·have ba:bv = true:=ba
       refine ⟨_,M.cell 1 (i:=2) rfl rfl,?_⟩
       refine brE_dec (fun qa => ?_) (fun qa => ?_)
       ·have qa:q < 0:=qa
        refine ⟨rfl,_,_,M.get 1 rfl,Nat.le_of_ble_eq_true rfl,rfl,?_⟩
        intro w13 h13
        have M:Mem w w13 [(g15,.cells x.cells.toArray 72 (0,0)),(g11,.cells (verC 0 y y).toArray 64 (0,0)),(g10,.cells (verC 0 0 0).toArray 64 (0,0)),(g8,.cells b.cells.toArray 38 (0,0)),(g7,.cells a.cells.toArray 38 (0,0)),(g5,.cells #[.slice R l.length c] 29 (0,0))]:=by
         have h13:Put w12 g11 (.cells (verC 0 y y).toArray 64 (0,0)) w13:=by rw [hyk] at h13 ⊢; exact h13
         exact M.put 1 rfl h13
        refine ⟨_,next,?_⟩
        exact ⟨(j + 1,x.rank,y,y),⟨rfl,rfl,rfl,rfl,rfl,rfl,rfl,rfl,rfl,rfl,trivial⟩,fin (if_pos ⟨ta,ra⟩).symm (if_pos ⟨ba,qa⟩).symm M,step⟩
       ·have qa:¬ q < 0:=qa
        refine ⟨_,next,?_⟩
        exact ⟨(j + 1,x.rank,y,q),⟨rfl,rfl,rfl,rfl,rfl,rfl,rfl,rfl,rfl,rfl,trivial⟩,fin (if_pos ⟨ta,ra⟩).symm (dn qa _).symm M,step⟩
      ·have ba:bv = false:=ba
       refine ⟨_,next,?_⟩
       exact ⟨(j + 1,x.rank,y,q),⟨rfl,rfl,rfl,rfl,rfl,rfl,rfl,rfl,rfl,rfl,trivial⟩,fin (if_pos ⟨ta,ra⟩).symm (by rw [ba]; rfl) M,step⟩
     ·have ra:¬ r < 0:=ra
      refine brE_mk (fun ba => ?_) (fun ba => ?_)
      ·have ba:bv = true:=ba
       refine ⟨_,M.cell 1 (i:=2) rfl rfl,?_⟩
       refine brE_dec (fun qa => ?_) (fun qa => ?_)
       ·have qa:q < 0:=qa
        refine ⟨rfl,_,_,M.get 1 rfl,Nat.le_of_ble_eq_true rfl,rfl,?_⟩
        intro w13 h13
        have M:Mem w w13 [(g15,.cells x.cells.toArray 72 (0,0)),(g11,.cells (verC 0 r y).toArray 64 (0,0)),(g10,.cells (verC 0 0 0).toArray 64 (0,0)),(g8,.cells b.cells.toArray 38 (0,0)),(g7,.cells a.cells.toArray 38 (0,0)),(g5,.cells #[.slice R l.length c] 29 (0,0))]:=by rw [hyk]; exact M.put 1 rfl h13
        refine ⟨_,next,?_⟩
        exact ⟨(j + 1,x.rank,r,y),⟨rfl,rfl,rfl,rfl,rfl,rfl,rfl,rfl,rfl,rfl,trivial⟩,fin (dn ra _).symm (if_pos ⟨ba,qa⟩).symm M,step⟩
       ·have qa:¬ q < 0:=qa
        refine ⟨_,next,?_⟩
        exact ⟨(j + 1,x.rank,r,q),⟨rfl,rfl,rfl,rfl,rfl,rfl,rfl,rfl,rfl,rfl,trivial⟩,fin (dn ra _).symm (dn qa _).symm M,step⟩
      ·have ba:bv = false:=ba
       refine ⟨_,next,?_⟩
       exact ⟨(j + 1,x.rank,r,q),⟨rfl,rfl,rfl,rfl,rfl,rfl,rfl,rfl,rfl,rfl,trivial⟩,fin (dn ra _).symm (by rw [ba]; rfl) M,step⟩
    ·have ta:tv = false:=ta
     refine brE_mk (fun ba => ?_) (fun ba => ?_)
     ·have ba:bv = true:=ba
      refine ⟨_,M.cell 1 (i:=2) rfl rfl,?_⟩
      refine brE_dec (fun qa => ?_) (fun qa => ?_)
      ·have qa:q < 0:=qa
       refine ⟨rfl,_,_,M.get 1 rfl,Nat.le_of_ble_eq_true rfl,rfl,?_⟩
       intro w13 h13
       have M:Mem w w13 [(g15,.cells x.cells.toArray 72 (0,0)),(g11,.cells (verC 0 r y).toArray 64 (0,0)),(g10,.cells (verC 0 0 0).toArray 64 (0,0)),(g8,.cells b.cells.toArray 38 (0,0)),(g7,.cells a.cells.toArray 38 (0,0)),(g5,.cells #[.slice R l.length c] 29 (0,0))]:=by rw [hyk]; exact M.put 1 rfl h13
       refine ⟨_,next,?_⟩
       exact ⟨(j + 1,x.rank,r,y),⟨rfl,rfl,rfl,rfl,rfl,rfl,rfl,rfl,rfl,rfl,trivial⟩,fin (by rw [ta]; rfl) (if_pos ⟨ba,qa⟩).symm M,step⟩
      ·have qa:¬ q < 0:=qa
       refine ⟨_,next,?_⟩
       exact ⟨(j + 1,x.rank,r,q),⟨rfl,rfl,rfl,rfl,rfl,rfl,rfl,rfl,rfl,rfl,trivial⟩,fin (by rw [ta]; rfl) (dn qa _).symm M,step⟩
     ·have ba:bv = false:=ba
      refine ⟨_,next,?_⟩
      exact ⟨(j + 1,x.rank,r,q),⟨rfl,rfl,rfl,rfl,rfl,rfl,rfl,rfl,rfl,rfl,trivial⟩,fin (by rw [ta]; rfl) (by rw [ba]; rfl) M,step⟩
  ·have hje:j = Mv.length:=by have:¬ (j:Int) < (Mv.length:Nat):=hge; omega
   exact ⟨(r,q),⟨rfl,rfl,trivial⟩,stop (.inl hje),M.sub (by simp)⟩
 rintro ⟨r,q⟩ w7 ⟨hp',M'⟩
 have hp:decV l T B = (r,q):=hp'
 have M:Mem w w7 [(g11,.cells (verC 0 r q).toArray 64 (0,0)),(g10,.cells (verC 0 0 0).toArray 64 (0,0))]:=M'
 clear hp' M'
 rw [hp]
 refine Snd.join C_ok plans57 (fun _:Unit => [(10,.pointer (some ⟨g10,0,none⟩)),(11,.pointer (some ⟨g11,0,none⟩))])
  (fun _ w' => Mem w w' [(g11,.cells (verC (kindV (r,q)) r q).toArray 64 (0,0)),(g10,.cells (verC 0 0 0).toArray 64 (0,0))]) (by kernel_rfl) ?_ ?_
 ·have k3:r >= 0 -> q >= 0 -> kindV (r,q) = 3:=fun h1 h2 => if_pos ⟨h1,h2⟩
  have k1:r >= 0 -> ¬ q >= 0 -> kindV (r,q) = 1:=fun h1 h2 => (if_neg fun e => h2 e.2).trans (if_pos h1)
  have k2:¬ r >= 0 -> q >= 0 -> kindV (r,q) = 2:=fun h1 h2 => (if_neg fun e => h1 e.1).trans ((if_neg h1).trans (if_pos h2))
  have k0:¬ r >= 0 -> ¬ q >= 0 -> kindV (r,q) = 0:=fun h1 h2 => (if_neg fun e => h1 e.1).trans ((if_neg h1).trans (if_neg h2))
  refine ⟨_,M.cell 0 (i:=1) rfl rfl,?_⟩
  refine brE_dec (fun ra => ?_) (fun ra => ?_)
  ·have ra:r >= 0:=ra
   refine ⟨_,M.cell 0 (i:=2) rfl rfl,?_⟩
   refine brE_dec (fun qa => ?_) (fun qa => ?_)
   ·have qa:q >= 0:=qa
    refine ⟨rfl,_,_,M.get 0 rfl,Nat.le_of_ble_eq_true rfl,rfl,?_⟩
    intro w8 h8
    exact ⟨(),⟨rfl,rfl,trivial⟩,by rw [k3 ra qa]; exact M.put 0 rfl h8⟩
   ·have qa:¬ q >= 0:=qa
    refine ⟨_,M.cell 0 (i:=1) rfl rfl,?_⟩
    refine brE_true (decide_eq_true ra) ?_
    refine ⟨rfl,_,_,M.get 0 rfl,Nat.le_of_ble_eq_true rfl,rfl,?_⟩
    intro w8 h8
    exact ⟨(),⟨rfl,rfl,trivial⟩,by rw [k1 ra qa]; exact M.put 0 rfl h8⟩
  ·have ra:¬ r >= 0:=ra
   refine ⟨_,M.cell 0 (i:=1) rfl rfl,?_⟩
   refine brE_false (decide_eq_false ra) ?_
   refine ⟨_,M.cell 0 (i:=2) rfl rfl,?_⟩
   refine brE_dec (fun qa => ?_) (fun qa => ?_)
   ·have qa:q >= 0:=qa
    refine ⟨rfl,_,_,M.get 0 rfl,Nat.le_of_ble_eq_true rfl,rfl,?_⟩
    intro w8 h8
    exact ⟨(),⟨rfl,rfl,trivial⟩,by rw [k2 ra qa]; exact M.put 0 rfl h8⟩
   ·have qa:¬ q >= 0:=qa
    exact ⟨(),⟨rfl,rfl,trivial⟩,by rw [k0 ra qa]; exact M⟩
 rintro _ w8 M
 refine Snd.fin C_ok (plans:=plans57) (by kernel_rfl) ?_
 refine ⟨verC (kindV (r,q)) r q,rfl,M.rd 0 rfl,?_⟩
 refine ⟨rfl,_,_,M.get 1 rfl,Nat.le_of_ble_eq_true rfl,rfl,?_⟩
 intro w9 h9
 have M:=M.put 1 rfl h9
 refine ⟨verC (kindV (r,q)) r q,rfl,M.rd 1 rfl,?_⟩
 exact ⟨rfl,M.ext⟩
end Go.Proofs.YtdpdjcopkehdjaaGreat.Rk
namespace Go.Proofs.YtdpdjcopkehdjaaGreat.Rk
open Go.Eng Go.RowKit
def decC (k r b ρ:Int):List Value:=[.int .u8 k,.int .i64 r,.int .i64 b,.int .i64 ρ]
set_option maxRecDepth 100000 in
set_option maxHeartbeats 8000000 in
theorem refDecide1_spec {w:World} {R:Option Addr} {l:List Rl} {c:Nat} (h:HRs w R l c) (hz:chkRl l = 0) (a b:Prof) :
  CallsV C.P 180 #[.agg #[.slice R l.length c],a.val,b.val] w fun v w' => (∃ k r q ρ:Int,v = .agg (decC k r q ρ).toArray ∧ decV l (fun x => holdsT a b x.test) (fun x => holdsT b a x.test) = (r,q) ∧ k = kindV (r,q)) ∧ Ext w w':=by
 obtain ⟨hl24,hgood⟩:=chkRl_zero hz
 obtain ⟨T,hT⟩:∃ T:Rl -> Bool,T = fun x => holdsT a b x.test:=⟨_,rfl⟩
 obtain ⟨B,hB⟩:∃ B:Rl -> Bool,B = fun x => holdsT b a x.test:=⟨_,rfl⟩
 rw [<-hT,<-hB]
 have h1r:∀ x ∈ l,1 <= x.rank:=fun x hx => (hgood x hx).2.1.1
 refine callsV_ofS (args:=[_,_,_]) Tryz.func180 rfl Tryz.ntmps180 C_ok (Nat.le_of_ble_eq_true rfl) ?_
 refine Snd.go C_ok [] (by kernel_rfl) ?_
 intro g3 w1 h1
 have M:Mem w w1 [(g3,.cells #[.slice R l.length c] 29 (0,0))]:=(Mem.start w).alloc h1
 intro g4 w2 h2
 have M:Mem w w2 [(g4,.cells a.cells.toArray 38 (0,0)),(g3,.cells #[.slice R l.length c] 29 (0,0))]:=M.alloc h2
 intro g5 w3 h3
 have M:Mem w w3 [(g5,.cells b.cells.toArray 38 (0,0)),(g4,.cells a.cells.toArray 38 (0,0)),(g3,.cells #[.slice R l.length c] 29 (0,0))]:=M.alloc h3
 intro g6 w4 h4
 have M:Mem w w4 [(g6,.cells (decC 0 0 0 0).toArray 215 (0,0)),(g5,.cells b.cells.toArray 38 (0,0)),(g4,.cells a.cells.toArray 38 (0,0)),(g3,.cells #[.slice R l.length c] 29 (0,0))]:=M.alloc h4
 refine ⟨Snd.go C_ok [] (by kernel_rfl) ?_⟩
 intro g7 w5 h5
 have M:=M.alloc h5
 refine ⟨rfl,_,_,M.get 0 rfl,Nat.le_of_ble_eq_true rfl,rfl,?_⟩
 intro w6 h6
 have M:Mem w w6 [(g7,.cells (decC 0 (-1) (-1) 0).toArray 215 (0,0)),(g6,.cells (decC 0 0 0 0).toArray 215 (0,0)),(g5,.cells b.cells.toArray 38 (0,0)),(g4,.cells a.cells.toArray 38 (0,0)),(g3,.cells #[.slice R l.length c] 29 (0,0))]:=M.put 0 rfl h6
 clear h1 h2 h3 h4 h5 h6
 refine ⟨Snd.join C_ok [] (fun _:Int × Int × Int => [(6,.pointer (some ⟨g6,0,none⟩)),(7,.pointer (some ⟨g7,0,none⟩))])
  (fun p w' => decV l T B = (p.1,p.2.1) ∧ Mem w w' [(g7,.cells (decC 0 p.1 p.2.1 p.2.2).toArray 215 (0,0)),(g6,.cells (decC 0 0 0 0).toArray 215 (0,0))]) (by kernel_rfl) ?_ ?_⟩
 ·refine loopE C_ok (fun (s:Nat × Int × Int × Int) => [(3,.pointer (some ⟨g3,0,none⟩)),(4,.pointer (some ⟨g4,0,none⟩)),(5,.pointer (some ⟨g5,0,none⟩)),(6,.pointer (some ⟨g6,0,none⟩)),(7,.pointer (some ⟨g7,0,none⟩)),(8,.int .i64 (s.1:Nat))])
   (fun s w' => s.1 <= l.length ∧ Mem w w' [(g7,.cells (decC 0 s.2.2.1 s.2.2.2 s.2.1).toArray 215 (0,0)),(g6,.cells (decC 0 0 0 0).toArray 215 (0,0)),(g5,.cells b.cells.toArray 38 (0,0)),(g4,.cells a.cells.toArray 38 (0,0)),(g3,.cells #[.slice R l.length c] 29 (0,0))] ∧ Ver (l.take s.1) T B s.2.1 s.2.2.1 s.2.2.2)
   (fun s => l.length - s.1) (0,0,-1,-1) ⟨rfl,rfl,rfl,rfl,rfl,rfl,trivial⟩ ⟨Nat.zero_le _,M,ver_nil T B⟩ ?_
  clear M
  rintro ⟨i,ρ,r,q⟩ w7 ⟨hi',M',hV'⟩
  have hi:i <= l.length:=hi'
  have M:Mem w w7 [(g7,.cells (decC 0 r q ρ).toArray 215 (0,0)),(g6,.cells (decC 0 0 0 0).toArray 215 (0,0)),(g5,.cells b.cells.toArray 38 (0,0)),(g4,.cells a.cells.toArray 38 (0,0)),(g3,.cells #[.slice R l.length c] 29 (0,0))]:=M'
  have hV:Ver (l.take i) T B ρ r q:=hV'
  clear hi' M' hV'
  refine ⟨_,M.cell 4 rfl rfl,?_⟩
  refine brE_dec (fun hlt => ?_) (fun hge => ?_)
  ·have hlti:i < l.length:=by have:(i:Int) < (l.length:Nat):=hlt; omega
   have next:IntKind.i64.wrap ((i:Int) + 1) = ((i + 1:Nat):Int):=fit ⟨by omega,by omega⟩
   obtain ⟨x,hx⟩:∃ x,x = l[i]:=⟨_,rfl⟩
   have hxm:x ∈ l:=by rw [hx]; exact List.getElem_mem hlti
   have htake:l.take (i + 1) = l.take i ++ [x]:=by rw [List.take_succ_eq_append_getElem hlti,hx]
   have htl:(l.take i).length = i:=by rw [List.length_take]; omega
   have h1p:∀ y ∈ l.take i,1 <= y.rank:=fun y hy => h1r y (List.mem_of_mem_take hy)
   have hx1:=h1r x hxm
   have step:l.length - (i + 1) < l.length - i:=by omega
   obtain ⟨b2,o2,hR2,hc2⟩:=(h.ext M.ext).at hlti
   rw [<-hx] at hc2
   refine ⟨_,M.cell 4 rfl rfl,?_⟩
   refine ⟨i,b2,o2,rfl,hlti,hR2,?_⟩
   refine ⟨x.cells,rfl,hc2,?_⟩
   intro g15 w8 h8
   have M8:=M.alloc h8
   refine ⟨rfl,_,_,M8.get 0 rfl,Nat.le_of_ble_eq_true rfl,rfl,?_⟩
   intro w9 h9
   have M:Mem w w9 [(g15,.cells x.cells.toArray 72 (0,0)),(g7,.cells (decC 0 r q ρ).toArray 215 (0,0)),(g6,.cells (decC 0 0 0 0).toArray 215 (0,0)),(g5,.cells b.cells.toArray 38 (0,0)),(g4,.cells a.cells.toArray 38 (0,0)),(g3,.cells #[.slice R l.length c] 29 (0,0))]:=M8.put 0 rfl h9
   clear M8 h8 h9 hc2
   refine ⟨_,M.cell 0 (i:=1) rfl rfl,?_⟩
   refine ⟨_,M.cell 1 (i:=3) rfl rfl,?_⟩
   refine brE_dec (fun hbr => ?_) (fun hbr => ?_)
   ·have hbr:x.rank < ρ:=hbr
    refine ⟨_,next,?_⟩
    exact ⟨(i + 1,ρ,r,q),⟨rfl,rfl,rfl,rfl,rfl,rfl,trivial⟩,⟨hlti,M.tail,by show Ver (l.take (i + 1)) T B ρ r q; rw [htake]; exact hV.same h1p hx1 (.inl hbr)⟩,step⟩
   have hbr:¬ x.rank < ρ:=hbr
   obtain ⟨tv,htv⟩:∃ tv,tv = holdsT a b x.test:=⟨_,rfl⟩
   obtain ⟨bv,hbv⟩:∃ bv,bv = holdsT b a x.test:=⟨_,rfl⟩
   have hTx:T x = tv:=by rw [hT,htv]
   have hBx:B x = bv:=by rw [hB,hbv]
   have hsh:=(hgood x hxm).1
   have hti:=(h.each x hxm).test
   refine ⟨x.test.cells,rfl,(M.rd 0 rfl).part x.test_part,?_⟩
   refine ⟨a.cells,rfl,M.rd 4 rfl,?_⟩
   refine ⟨b.cells,rfl,M.rd 3 rfl,?_⟩
   have X:=refHolds_spec hti a b hsh M.ext
   rw [<-htv] at X
   refine X.mono ?_
   rintro v w10 ⟨rfl,e10⟩
   have M:=M.grow e10
   refine ⟨x.test.cells,rfl,(M.rd 0 rfl).part x.test_part,?_⟩
   refine ⟨b.cells,rfl,M.rd 3 rfl,?_⟩
   refine ⟨a.cells,rfl,M.rd 4 rfl,?_⟩
   have Y:=refHolds_spec hti b a hsh M.ext
   rw [<-hbv] at Y
   refine Y.mono ?_
   clear X Y
   rintro v w11 ⟨rfl,e11⟩
   have M:=M.grow e11
   refine brE_mk (fun t0 => ?P2) (fun t0 => ?P0)
   case' P0 =>
    have t0:tv = false:=t0
    refine brE_mk (fun b0 => ?P1) (fun b0 => ?N)
    case' N =>
     have b0:bv = false:=b0
     refine brE_false t0 ?_
     refine brE_false b0 ?_
     refine ⟨_,next,?_⟩
     exact ⟨(i + 1,ρ,r,q),⟨rfl,rfl,rfl,rfl,rfl,rfl,trivial⟩,⟨hlti,M.tail,by show Ver (l.take (i + 1)) T B ρ r q; rw [htake]; exact hV.same h1p hx1 (.inr ⟨hTx.trans t0,hBx.trans b0⟩)⟩,step⟩
    case' P1 =>
     have hor:tv = true ∨ bv = true:=.inr b0
   case' P2 =>
    have hor:tv = true ∨ bv = true:=.inl t0
   all_goals
    obtain ⟨y,hyk⟩:∃ y:Int,y = ((i:Nat):Int):=⟨_,rfl⟩
    obtain ⟨r0,hr0⟩:∃ r0,r0 = (if ρ < x.rank then (-1:Int) else r):=⟨_,rfl⟩
    obtain ⟨q0,hq0⟩:∃ q0,q0 = (if ρ < x.rank then (-1:Int) else q):=⟨_,rfl⟩
    have hV2:=hV.more h1p hx1 (by omega) (show T x = true ∨ B x = true by rw [hTx,hBx]; exact hor)
    rw [<-htake,htl,hTx,hBx,<-hr0,<-hq0,<-hyk] at hV2
    have dn:∀ {z:Int},¬ z < 0 -> ∀ (u:Bool),(if u = true ∧ z < 0 then y else z) = z:=fun hz u => if_neg fun e => hz e.2
    have fin:∀ {w12:World} {r1 q1:Int},r1 = (if tv = true ∧ r0 < 0 then y else r0) -> q1 = (if bv = true ∧ q0 < 0 then y else q0) -> Mem w w12 [(g15,.cells x.cells.toArray 72 (0,0)),(g7,.cells (decC 0 r1 q1 x.rank).toArray 215 (0,0)),(g6,.cells (decC 0 0 0 0).toArray 215 (0,0)),(g5,.cells b.cells.toArray 38 (0,0)),(g4,.cells a.cells.toArray 38 (0,0)),(g3,.cells #[.slice R l.length c] 29 (0,0))] →
      (i + 1 <= l.length ∧ Mem w w12 [(g7,.cells (decC 0 r1 q1 x.rank).toArray 215 (0,0)),(g6,.cells (decC 0 0 0 0).toArray 215 (0,0)),(g5,.cells b.cells.toArray 38 (0,0)),(g4,.cells a.cells.toArray 38 (0,0)),(g3,.cells #[.slice R l.length c] 29 (0,0))] ∧ Ver (l.take (i + 1)) T B x.rank r1 q1):=fun e1 e2 MM => ⟨hlti,MM.tail,by rw [e1,e2]; exact hV2⟩
    refine ⟨_,M.cell 0 (i:=1) rfl rfl,?_⟩
    refine ⟨_,M.cell 1 (i:=3) rfl rfl,?_⟩
    refine brE_dec (fun hgt => ?_) (fun hgt => ?_)
    ·have hgt:x.rank > ρ:=hgt
     have er:r0 = -1:=by rw [hr0,if_pos hgt]
     have eq:q0 = -1:=by rw [hq0,if_pos hgt]
     refine ⟨_,M.cell 0 (i:=1) rfl rfl,?_⟩
     refine ⟨rfl,_,_,M.get 1 rfl,Nat.le_of_ble_eq_true rfl,rfl,?_⟩
     intro w12 h12
     have M:Mem w w12 [(g15,.cells x.cells.toArray 72 (0,0)),(g7,.cells (decC 0 r0 q0 x.rank).toArray 215 (0,0)),(g6,.cells (decC 0 0 0 0).toArray 215 (0,0)),(g5,.cells b.cells.toArray 38 (0,0)),(g4,.cells a.cells.toArray 38 (0,0)),(g3,.cells #[.slice R l.length c] 29 (0,0))]:=by rw [er,eq]; exact M.put 1 rfl h12
     refine brE_mk (fun ta => ?_) (fun ta => ?_)
     ·have ta:tv = true:=ta
      refine ⟨_,M.cell 1 (i:=1) rfl rfl,?_⟩
      refine brE_dec (fun ra => ?_) (fun ra => ?_)
      ·have ra:r0 < 0:=ra
       refine ⟨rfl,_,_,M.get 1 rfl,Nat.le_of_ble_eq_true rfl,rfl,?_⟩
       intro w12 h12
       have M:Mem w w12 [(g15,.cells x.cells.toArray 72 (0,0)),(g7,.cells (decC 0 y q0 x.rank).toArray 215 (0,0)),(g6,.cells (decC 0 0 0 0).toArray 215 (0,0)),(g5,.cells b.cells.toArray 38 (0,0)),(g4,.cells a.cells.toArray 38 (0,0)),(g3,.cells #[.slice R l.length c] 29 (0,0))]:=by rw [hyk]; exact M.put 1 rfl h12
       refine brE_mk (fun ba => ?_) (fun ba => ?_)
       ·have ba:bv = true:=ba
        refine ⟨_,M.cell 1 (i:=2) rfl rfl,?_⟩
        refine brE_dec (fun qa => ?_) (fun qa => ?_)
        ·have qa:q0 < 0:=qa
         refine ⟨rfl,_,_,M.get 1 rfl,Nat.le_of_ble_eq_true rfl,rfl,?_⟩
         intro w13 h13
         have M:Mem w w13 [(g15,.cells x.cells.toArray 72 (0,0)),(g7,.cells (decC 0 y y x.rank).toArray 215 (0,0)),(g6,.cells (decC 0 0 0 0).toArray 215 (0,0)),(g5,.cells b.cells.toArray 38 (0,0)),(g4,.cells a.cells.toArray 38 (0,0)),(g3,.cells #[.slice R l.length c] 29 (0,0))]:=by
          have h13:Put w12 g7 (.cells (decC 0 y y x.rank).toArray 215 (0,0)) w13:=by rw [hyk] at h13 ⊢; exact h13
          exact M.put 1 rfl h13
         refine ⟨_,next,?_⟩
         exact ⟨(i + 1,x.rank,y,y),⟨rfl,rfl,rfl,rfl,rfl,rfl,trivial⟩,fin (if_pos ⟨ta,ra⟩).symm (if_pos ⟨ba,qa⟩).symm M,step⟩
        ·have qa:¬ q0 < 0:=qa
         refine ⟨_,next,?_⟩
         exact ⟨(i + 1,x.rank,y,q0),⟨rfl,rfl,rfl,rfl,rfl,rfl,trivial⟩,fin (if_pos ⟨ta,ra⟩).symm (dn qa _).symm M,step⟩
       ·have ba:bv = false:=ba
        refine ⟨_,next,?_⟩
        exact ⟨(i + 1,x.rank,y,q0),⟨rfl,rfl,rfl,rfl,rfl,rfl,trivial⟩,fin (if_pos ⟨ta,ra⟩).symm (by rw [ba]; rfl) M,step⟩
      ·have ra:¬ r0 < 0:=ra
       refine brE_mk (fun ba => ?_) (fun ba => ?_)
       ·have ba:bv = true:=ba
        refine ⟨_,M.cell 1 (i:=2) rfl rfl,?_⟩
        refine brE_dec (fun qa => ?_) (fun qa => ?_)
        ·have qa:q0 < 0:=qa
         refine ⟨rfl,_,_,M.get 1 rfl,Nat.le_of_ble_eq_true rfl,rfl,?_⟩
         intro w13 h13
         have M:Mem w w13 [(g15,.cells x.cells.toArray 72 (0,0)),(g7,.cells (decC 0 r0 y x.rank).toArray 215 (0,0)),(g6,.cells (decC 0 0 0 0).toArray 215 (0,0)),(g5,.cells b.cells.toArray 38 (0,0)),(g4,.cells a.cells.toArray 38 (0,0)),(g3,.cells #[.slice R l.length c] 29 (0,0))]:=by rw [hyk]; exact M.put 1 rfl h13
         refine ⟨_,next,?_⟩
         exact ⟨(i + 1,x.rank,r0,y),⟨rfl,rfl,rfl,rfl,rfl,rfl,trivial⟩,fin (dn ra _).symm (if_pos ⟨ba,qa⟩).symm M,step⟩
        ·have qa:¬ q0 < 0:=qa
         refine ⟨_,next,?_⟩
         exact ⟨(i + 1,x.rank,r0,q0),⟨rfl,rfl,rfl,rfl,rfl,rfl,trivial⟩,fin (dn ra _).symm (dn qa _).symm M,step⟩
       ·have ba:bv = false:=ba
        refine ⟨_,next,?_⟩
        exact ⟨(i + 1,x.rank,r0,q0),⟨rfl,rfl,rfl,rfl,rfl,rfl,trivial⟩,fin (dn ra _).symm (by rw [ba]; rfl) M,step⟩
     ·have ta:tv = false:=ta
      refine brE_mk (fun ba => ?_) (fun ba => ?_)
      ·have ba:bv = true:=ba
       refine ⟨_,M.cell 1 (i:=2) rfl rfl,?_⟩
       refine brE_dec (fun qa => ?_) (fun qa => ?_)
       ·have qa:q0 < 0:=qa
        refine ⟨rfl,_,_,M.get 1 rfl,Nat.le_of_ble_eq_true rfl,rfl,?_⟩
        intro w13 h13
        have M:Mem w w13 [(g15,.cells x.cells.toArray 72 (0,0)),(g7,.cells (decC 0 r0 y x.rank).toArray 215 (0,0)),(g6,.cells (decC 0 0 0 0).toArray 215 (0,0)),(g5,.cells b.cells.toArray 38 (0,0)),(g4,.cells a.cells.toArray 38 (0,0)),(g3,.cells #[.slice R l.length c] 29 (0,0))]:=by rw [hyk]; exact M.put 1 rfl h13
        refine ⟨_,next,?_⟩
        exact ⟨(i + 1,x.rank,r0,y),⟨rfl,rfl,rfl,rfl,rfl,rfl,trivial⟩,fin (by rw [ta]; rfl) (if_pos ⟨ba,qa⟩).symm M,step⟩
       ·have qa:¬ q0 < 0:=qa
        refine ⟨_,next,?_⟩
        exact ⟨(i + 1,x.rank,r0,q0),⟨rfl,rfl,rfl,rfl,rfl,rfl,trivial⟩,fin (by rw [ta]; rfl) (dn qa _).symm M,step⟩
      ·have ba:bv = false:=ba
       refine ⟨_,next,?_⟩
       exact ⟨(i + 1,x.rank,r0,q0),⟨rfl,rfl,rfl,rfl,rfl,rfl,trivial⟩,fin (by rw [ta]; rfl) (by rw [ba]; rfl) M,step⟩
    ·have hgt:¬ x.rank > ρ:=hgt
     have erk:ρ = x.rank:=by omega
     have er:r = r0:=by rw [hr0,if_neg hgt]
     have eq:q = q0:=by rw [hq0,if_neg hgt]
     have M:Mem w w11 [(g15,.cells x.cells.toArray 72 (0,0)),(g7,.cells (decC 0 r0 q0 x.rank).toArray 215 (0,0)),(g6,.cells (decC 0 0 0 0).toArray 215 (0,0)),(g5,.cells b.cells.toArray 38 (0,0)),(g4,.cells a.cells.toArray 38 (0,0)),(g3,.cells #[.slice R l.length c] 29 (0,0))]:=by rw [<-er,<-eq,<-erk]; exact M
     refine brE_mk (fun ta => ?_) (fun ta => ?_)
     ·have ta:tv = true:=ta
      refine ⟨_,M.cell 1 (i:=1) rfl rfl,?_⟩
      refine brE_dec (fun ra => ?_) (fun ra => ?_)
      ·have ra:r0 < 0:=ra
       refine ⟨rfl,_,_,M.get 1 rfl,Nat.le_of_ble_eq_true rfl,rfl,?_⟩
       intro w12 h12
       have M:Mem w w12 [(g15,.cells x.cells.toArray 72 (0,0)),(g7,.cells (decC 0 y q0 x.rank).toArray 215 (0,0)),(g6,.cells (decC 0 0 0 0).toArray 215 (0,0)),(g5,.cells b.cells.toArray 38 (0,0)),(g4,.cells a.cells.toArray 38 (0,0)),(g3,.cells #[.slice R l.length c] 29 (0,0))]:=by rw [hyk]; exact M.put 1 rfl h12
       refine brE_mk (fun ba => ?_) (fun ba => ?_)
       ·have ba:bv = true:=ba
        refine ⟨_,M.cell 1 (i:=2) rfl rfl,?_⟩
        refine brE_dec (fun qa => ?_) (fun qa => ?_)
        ·have qa:q0 < 0:=qa
         refine ⟨rfl,_,_,M.get 1 rfl,Nat.le_of_ble_eq_true rfl,rfl,?_⟩
         intro w13 h13
         have M:Mem w w13 [(g15,.cells x.cells.toArray 72 (0,0)),(g7,.cells (decC 0 y y x.rank).toArray 215 (0,0)),(g6,.cells (decC 0 0 0 0).toArray 215 (0,0)),(g5,.cells b.cells.toArray 38 (0,0)),(g4,.cells a.cells.toArray 38 (0,0)),(g3,.cells #[.slice R l.length c] 29 (0,0))]:=by
          have h13:Put w12 g7 (.cells (decC 0 y y x.rank).toArray 215 (0,0)) w13:=by rw [hyk] at h13 ⊢; exact h13
          exact M.put 1 rfl h13
         refine ⟨_,next,?_⟩
         exact ⟨(i + 1,x.rank,y,y),⟨rfl,rfl,rfl,rfl,rfl,rfl,trivial⟩,fin (if_pos ⟨ta,ra⟩).symm (if_pos ⟨ba,qa⟩).symm M,step⟩
        ·have qa:¬ q0 < 0:=qa
         refine ⟨_,next,?_⟩
         exact ⟨(i + 1,x.rank,y,q0),⟨rfl,rfl,rfl,rfl,rfl,rfl,trivial⟩,fin (if_pos ⟨ta,ra⟩).symm (dn qa _).symm M,step⟩
       ·have ba:bv = false:=ba
        refine ⟨_,next,?_⟩
        exact ⟨(i + 1,x.rank,y,q0),⟨rfl,rfl,rfl,rfl,rfl,rfl,trivial⟩,fin (if_pos ⟨ta,ra⟩).symm (by rw [ba]; rfl) M,step⟩
      ·have ra:¬ r0 < 0:=ra
       refine brE_mk (fun ba => ?_) (fun ba => ?_)
       ·have ba:bv = true:=ba
        refine ⟨_,M.cell 1 (i:=2) rfl rfl,?_⟩
        refine brE_dec (fun qa => ?_) (fun qa => ?_)
        ·have qa:q0 < 0:=qa
         refine ⟨rfl,_,_,M.get 1 rfl,Nat.le_of_ble_eq_true rfl,rfl,?_⟩
         intro w13 h13
         have M:Mem w w13 [(g15,.cells x.cells.toArray 72 (0,0)),(g7,.cells (decC 0 r0 y x.rank).toArray 215 (0,0)),(g6,.cells (decC 0 0 0 0).toArray 215 (0,0)),(g5,.cells b.cells.toArray 38 (0,0)),(g4,.cells a.cells.toArray 38 (0,0)),(g3,.cells #[.slice R l.length c] 29 (0,0))]:=by rw [hyk]; exact M.put 1 rfl h13
         refine ⟨_,next,?_⟩
         exact ⟨(i + 1,x.rank,r0,y),⟨rfl,rfl,rfl,rfl,rfl,rfl,trivial⟩,fin (dn ra _).symm (if_pos ⟨ba,qa⟩).symm M,step⟩
        ·have qa:¬ q0 < 0:=qa
         refine ⟨_,next,?_⟩
         exact ⟨(i + 1,x.rank,r0,q0),⟨rfl,rfl,rfl,rfl,rfl,rfl,trivial⟩,fin (dn ra _).symm (dn qa _).symm M,step⟩
       ·have ba:bv = false:=ba
        refine ⟨_,next,?_⟩
        exact ⟨(i + 1,x.rank,r0,q0),⟨rfl,rfl,rfl,rfl,rfl,rfl,trivial⟩,fin (dn ra _).symm (by rw [ba]; rfl) M,step⟩
     ·have ta:tv = false:=ta
      refine brE_mk (fun ba => ?_) (fun ba => ?_)
      ·have ba:bv = true:=ba
       refine ⟨_,M.cell 1 (i:=2) rfl rfl,?_⟩
       refine brE_dec (fun qa => ?_) (fun qa => ?_)
       ·have qa:q0 < 0:=qa
        refine ⟨rfl,_,_,M.get 1 rfl,Nat.le_of_ble_eq_true rfl,rfl,?_⟩
        intro w13 h13
        have M:Mem w w13 [(g15,.cells x.cells.toArray 72 (0,0)),(g7,.cells (decC 0 r0 y x.rank).toArray 215 (0,0)),(g6,.cells (decC 0 0 0 0).toArray 215 (0,0)),(g5,.cells b.cells.toArray 38 (0,0)),(g4,.cells a.cells.toArray 38 (0,0)),(g3,.cells #[.slice R l.length c] 29 (0,0))]:=by rw [hyk]; exact M.put 1 rfl h13
        refine ⟨_,next,?_⟩
        exact ⟨(i + 1,x.rank,r0,y),⟨rfl,rfl,rfl,rfl,rfl,rfl,trivial⟩,fin (by rw [ta]; rfl) (if_pos ⟨ba,qa⟩).symm M,step⟩
       ·have qa:¬ q0 < 0:=qa
        refine ⟨_,next,?_⟩
        exact ⟨(i + 1,x.rank,r0,q0),⟨rfl,rfl,rfl,rfl,rfl,rfl,trivial⟩,fin (by rw [ta]; rfl) (dn qa _).symm M,step⟩
      ·have ba:bv = false:=ba
       refine ⟨_,next,?_⟩
       exact ⟨(i + 1,x.rank,r0,q0),⟨rfl,rfl,rfl,rfl,rfl,rfl,trivial⟩,fin (by rw [ta]; rfl) (by rw [ba]; rfl) M,step⟩
  ·have hie:i = l.length:=by have:¬ (i:Int) < (l.length:Nat):=hge; omega
   rw [hie,List.take_length] at hV
   exact ⟨(r,q,ρ),⟨rfl,rfl,trivial⟩,decV_eq hV,M.sub (by simp)⟩
 rintro ⟨r,q,ρ⟩ w7 ⟨hp',M'⟩
 have hp:decV l T B = (r,q):=hp'
 have M:Mem w w7 [(g7,.cells (decC 0 r q ρ).toArray 215 (0,0)),(g6,.cells (decC 0 0 0 0).toArray 215 (0,0))]:=M'
 clear hp' M'
 rw [hp]
 have k3:r >= 0 -> q >= 0 -> kindV (r,q) = 3:=fun h1 h2 => if_pos ⟨h1,h2⟩
 have k1:r >= 0 -> ¬ q >= 0 -> kindV (r,q) = 1:=fun h1 h2 => (if_neg fun e => h2 e.2).trans (if_pos h1)
 have k2:¬ r >= 0 -> q >= 0 -> kindV (r,q) = 2:=fun h1 h2 => (if_neg fun e => h1 e.1).trans ((if_neg h1).trans (if_pos h2))
 have k0:¬ r >= 0 -> ¬ q >= 0 -> kindV (r,q) = 0:=fun h1 h2 => (if_neg fun e => h1 e.1).trans ((if_neg h1).trans (if_neg h2))
 refine Snd.join C_ok [] (fun _:Unit => [(6,.pointer (some ⟨g6,0,none⟩)),(7,.pointer (some ⟨g7,0,none⟩))])
  (fun _ w' => Mem w w' [(g7,.cells (decC (if r >= 0 then 1 else 0) r q ρ).toArray 215 (0,0)),(g6,.cells (decC 0 0 0 0).toArray 215 (0,0))]) (by kernel_rfl) ?_ ?_
 ·refine ⟨_,M.cell 0 (i:=1) rfl rfl,?_⟩
  refine brE_dec (fun ra => ?_) (fun ra => ?_)
  ·have ra:r >= 0:=ra
   refine ⟨rfl,_,_,M.get 0 rfl,Nat.le_of_ble_eq_true rfl,rfl,?_⟩
   intro w8 h8
   exact ⟨(),⟨rfl,rfl,trivial⟩,by rw [if_pos ra]; exact M.put 0 rfl h8⟩
  ·have ra:¬ r >= 0:=ra
   exact ⟨(),⟨rfl,rfl,trivial⟩,by rw [if_neg ra]; exact M⟩
 clear M
 rintro _ w8 M
 refine Snd.join C_ok [] (fun _:Unit => [(6,.pointer (some ⟨g6,0,none⟩)),(7,.pointer (some ⟨g7,0,none⟩))])
  (fun _ w' => Mem w w' [(g7,.cells (decC (kindV (r,q)) r q ρ).toArray 215 (0,0)),(g6,.cells (decC 0 0 0 0).toArray 215 (0,0))]) (by kernel_rfl) ?_ ?_
 ·refine ⟨_,M.cell 0 (i:=2) rfl rfl,?_⟩
  refine brE_dec (fun qa => ?_) (fun qa => ?_)
  ·have qa:q >= 0:=qa
   refine ⟨_,M.cell 0 (i:=0) rfl rfl,?_⟩
   by_cases ra:r >= 0
   ·refine ⟨3,by rw [if_pos ra]; decide,?_⟩
    refine ⟨rfl,_,_,M.get 0 rfl,Nat.le_of_ble_eq_true rfl,rfl,?_⟩
    intro w9 h9
    exact ⟨(),⟨rfl,rfl,trivial⟩,by rw [k3 ra qa]; exact M.put 0 rfl h9⟩
   ·refine ⟨2,by rw [if_neg ra]; decide,?_⟩
    refine ⟨rfl,_,_,M.get 0 rfl,Nat.le_of_ble_eq_true rfl,rfl,?_⟩
    intro w9 h9
    exact ⟨(),⟨rfl,rfl,trivial⟩,by rw [k2 ra qa]; exact M.put 0 rfl h9⟩
  ·have qa:¬ q >= 0:=qa
   have ek:(if r >= 0 then (1:Int) else 0) = kindV (r,q):=by
    by_cases ra:r >= 0
    ·rw [if_pos ra,k1 ra qa]
    ·rw [if_neg ra,k0 ra qa]
   exact ⟨(),⟨rfl,rfl,trivial⟩,by rw [<-ek]; exact M⟩
 clear M
 rintro _ w9 M
 refine Snd.fin C_ok (plans:=[]) (by kernel_rfl) ?_
 refine ⟨decC (kindV (r,q)) r q ρ,rfl,M.rd 0 rfl,?_⟩
 refine ⟨rfl,_,_,M.get 1 rfl,Nat.le_of_ble_eq_true rfl,rfl,?_⟩
 intro w10 h10
 have M:=M.put 1 rfl h10
 refine ⟨decC (kindV (r,q)) r q ρ,rfl,M.rd 1 rfl,?_⟩
 exact ⟨⟨_,r,q,ρ,rfl,rfl,rfl⟩,M.ext⟩
end Go.Proofs.YtdpdjcopkehdjaaGreat.Rk
namespace Go.Proofs.YtdpdjcopkehdjaaGreat.Rk
open Go.Eng Go.RowKit
def decE (l:List Rl) (a b:Prof):Int:=if chkRl l ≠ 0 then chkRl l else if a.Ok ∧ b.Ok then 0 else 1
noncomputable def decP (l:List Rl) (a b:Prof):Int × Int:=decV l (fun x => holdsT a b x.test) (fun x => holdsT b a x.test)
theorem decE_zero {l:List Rl} {a b:Prof} (h:decE l a b = 0):chkRl l = 0 ∧ a.Ok ∧ b.Ok:=by
 unfold decE at h
 by_cases h0:chkRl l = 0
 ·rw [if_neg (fun e => e h0)] at h
  by_cases h1:a.Ok ∧ b.Ok
  ·exact ⟨h0,h1⟩
  ·rw [if_neg h1] at h; cases h
 ·rw [if_pos h0] at h; exact absurd h h0
theorem both_spec {w:World} {R:Option Addr} {l:List Rl} {c:Nat} (h:HRs w R l c) (a b:Prof) :
  CallsV C.P 56 #[.agg #[.slice R l.length c],a.val,b.val] w fun v w' => v = .int .i64 (decE l a b) ∧ Ext w w':=by
 refine callsV_of C_ok (args:=[_,_,_]) (plans:=plans56) Tryz.func56 rfl Tryz.ntmps56 (by kernel_rfl) (Nat.le_of_ble_eq_true rfl) ?_
 intro g3 w1 h1
 have M:Mem w w1 [(g3,.cells #[.slice R l.length c] 29 (0,0))]:=(Mem.start w).alloc h1
 intro g4 w2 h2
 have M:Mem w w2 [(g4,.cells a.cells.toArray 38 (0,0)),(g3,.cells #[.slice R l.length c] 29 (0,0))]:=M.alloc h2
 intro g5 w3 h3
 have M:Mem w w3 [(g5,.cells b.cells.toArray 38 (0,0)),(g4,.cells a.cells.toArray 38 (0,0)),(g3,.cells #[.slice R l.length c] 29 (0,0))]:=M.alloc h3
 refine ⟨[.slice R l.length c],rfl,M.rd 2 rfl,?_⟩
 obtain ⟨e0,he0⟩:∃ e0,e0 = chkRl l:=⟨_,rfl⟩
 have X:=rulesCheck_spec (h.ext M.ext)
 rw [<-he0] at X
 refine X.mono ?_
 rintro v w4 ⟨rfl,e4⟩
 have M:=M.grow e4
 refine brE_ndec (fun c0 => ?_) (fun c0 => ?_)
 ·have c0:e0 ≠ 0:=c0
  exact ⟨congrArg (Value.int .i64) (by rw [decE,<-he0,if_pos c0]),M.ext⟩
 have c0:e0 = 0:=c0
 refine ⟨a.cells,rfl,M.rd 1 rfl,?_⟩
 refine ⟨b.cells,rfl,M.rd 0 rfl,?_⟩
 refine (CheckProfile_spec a _).mono ?_
 rintro v w5 ⟨rfl,e5⟩
 refine ⟨e5,?_⟩
 have M:=M.grow e5
 refine (CheckProfile_spec b _).mono ?_
 rintro v w6 ⟨rfl,e6⟩
 have M:=M.grow e6
 have hmx:(if profE b > profE a then profE b else profE a) = decE l a b:=by
  have hd:decE l a b = if a.Ok ∧ b.Ok then 0 else 1:=by rw [decE,<-he0,if_neg (fun e => e c0)]
  rw [hd]
  unfold profE
  by_cases ha:a.Ok <;> by_cases hb:b.Ok <;> simp [ha,hb]
 refine ⟨_,maxQ' hmx rfl rfl rfl,?_⟩
 exact ⟨rfl,M.ext⟩
set_option maxRecDepth 100000 in
theorem Decide_spec {w:World} {R:Option Addr} {l:List Rl} {c:Nat} (h:HRs w R l c) (a b:Prof) :
  CallsV C.P 23 #[.agg #[.slice R l.length c],a.val,b.val] w fun v w' => v = .tuple #[if decE l a b = 0 then verV (decP l a b) else .agg (verC 0 0 0).toArray,.int .i64 (decE l a b)] ∧ Ext w w':=by
 refine callsV_of C_ok (args:=[_,_,_]) (plans:=plans23) Tryz.func23 rfl Tryz.ntmps23 (by kernel_rfl) (Nat.le_of_ble_eq_true rfl) ?_
 intro g3 w1 h1
 have M:Mem w w1 [(g3,.cells #[.slice R l.length c] 29 (0,0))]:=(Mem.start w).alloc h1
 intro g4 w2 h2
 have M:Mem w w2 [(g4,.cells a.cells.toArray 38 (0,0)),(g3,.cells #[.slice R l.length c] 29 (0,0))]:=M.alloc h2
 intro g5 w3 h3
 have M:Mem w w3 [(g5,.cells b.cells.toArray 38 (0,0)),(g4,.cells a.cells.toArray 38 (0,0)),(g3,.cells #[.slice R l.length c] 29 (0,0))]:=M.alloc h3
 intro g6 w4 h4
 have M:Mem w w4 [(g6,.cells (verC 0 0 0).toArray 64 (0,0)),(g5,.cells b.cells.toArray 38 (0,0)),(g4,.cells a.cells.toArray 38 (0,0)),(g3,.cells #[.slice R l.length c] 29 (0,0))]:=M.alloc h4
 refine ⟨[.slice R l.length c],rfl,M.rd 3 rfl,?_⟩
 refine ⟨a.cells,rfl,M.rd 2 rfl,?_⟩
 refine ⟨b.cells,rfl,M.rd 1 rfl,?_⟩
 obtain ⟨e0,he0⟩:∃ e0,e0 = decE l a b:=⟨_,rfl⟩
 have X:=both_spec (h.ext M.ext) a b
 rw [<-he0] at X ⊢
 refine X.mono ?_
 rintro v w5 ⟨rfl,e5⟩
 have M:=M.grow e5
 refine brE_ndec (fun c0 => ?_) (fun c0 => ?_)
 ·have c0:e0 ≠ 0:=c0
  refine ⟨rfl,_,_,M.get 0 rfl,Nat.le_of_ble_eq_true rfl,rfl,?_⟩
  intro w6 h6
  have M:=M.put 0 rfl h6
  refine ⟨verC 0 0 0,rfl,M.rd 0 rfl,?_⟩
  exact ⟨by rw [if_neg c0],M.ext⟩
 have c0:e0 = 0:=c0
 have hz:=(decE_zero (he0.symm.trans c0)).1
 obtain ⟨hl24,hgood⟩:=chkRl_zero hz
 have hrk:∀ x ∈ l,In64 x.rank ∧ 1 <= x.rank ∧ x.rank <= 99:=fun x hx => ⟨(h.each x hx).rank,(hgood x hx).2.1⟩
 refine ⟨[.slice R l.length c],rfl,M.rd 3 rfl,?_⟩
 refine ⟨[.slice R l.length c],rfl,M.rd 3 rfl,?_⟩
 refine ⟨a.cells,rfl,M.rd 2 rfl,?_⟩
 refine ⟨b.cells,rfl,M.rd 1 rfl,?_⟩
 refine (ranked_spec (h.ext M.ext).hl hrk (by omega)).mono ?_
 rintro v w6 ⟨⟨Mv,hMv,hown⟩,e6⟩
 refine ⟨e6,?_⟩
 have M:=M.grow e6
 obtain ⟨A,cm,rfl,hrd,_⟩:=reads_of_owns hown
 have Y:=decide_spec (h.ext M.ext) hz hMv (cm:=cm) hrd a b
 obtain ⟨p,hp⟩:∃ p,p = decP l a b:=⟨_,rfl⟩
 have Y:CallsV C.P 57 #[.agg #[.slice R l.length c],.slice A Mv.length cm,a.val,b.val,.nilFunc] w6 fun v w' => v = verV p ∧ Ext w6 w':=by rw [hp]; exact Y
 rw [<-hp]
 refine Y.mono ?_
 rintro v w7 ⟨rfl,e7⟩
 have M:=M.grow e7
 refine ⟨rfl,_,_,M.get 0 rfl,Nat.le_of_ble_eq_true rfl,rfl,?_⟩
 intro w8 h8
 have M:=M.put 0 rfl h8
 refine ⟨verC (kindV p) p.1 p.2,rfl,M.rd 0 rfl,?_⟩
 exact ⟨by rw [if_pos c0,c0]; rfl,M.ext⟩
set_option maxRecDepth 100000 in
theorem refDecide_spec {w:World} {R:Option Addr} {l:List Rl} {c:Nat} (h:HRs w R l c) (a b:Prof) :
  CallsV C.P 109 #[.agg #[.slice R l.length c],a.val,b.val] w fun v w' => v = .tuple #[if decE l a b = 0 then verV (decP l a b) else .agg (verC 0 0 0).toArray,.int .i64 (decE l a b)] ∧ Ext w w':=by
 refine callsV_of C_ok (args:=[_,_,_]) (plans:=[]) Tryz.func109 rfl Tryz.ntmps109 (by kernel_rfl) (Nat.le_of_ble_eq_true rfl) ?_
 intro g3 w1 h1
 have M:Mem w w1 [(g3,.cells #[.slice R l.length c] 29 (0,0))]:=(Mem.start w).alloc h1
 intro g4 w2 h2
 have M:Mem w w2 [(g4,.cells a.cells.toArray 38 (0,0)),(g3,.cells #[.slice R l.length c] 29 (0,0))]:=M.alloc h2
 intro g5 w3 h3
 have M:Mem w w3 [(g5,.cells b.cells.toArray 38 (0,0)),(g4,.cells a.cells.toArray 38 (0,0)),(g3,.cells #[.slice R l.length c] 29 (0,0))]:=M.alloc h3
 intro g6 w4 h4
 have M:Mem w w4 [(g6,.cells (verC 0 0 0).toArray 64 (0,0)),(g5,.cells b.cells.toArray 38 (0,0)),(g4,.cells a.cells.toArray 38 (0,0)),(g3,.cells #[.slice R l.length c] 29 (0,0))]:=M.alloc h4
 refine ⟨[.slice R l.length c],rfl,M.rd 3 rfl,?_⟩
 obtain ⟨e1,he1⟩:∃ e1,e1 = chkRl l:=⟨_,rfl⟩
 have X:=refRulesCheck_spec (h.ext M.ext)
 rw [<-he1] at X
 refine X.mono ?_
 rintro v w5 ⟨rfl,e5⟩
 have M:=M.grow e5
 have hE:decE l a b = if e1 ≠ 0 then e1 else if a.Ok ∧ b.Ok then 0 else 1:=by rw [he1]; rfl
 refine brE_ndec (fun c0 => ?_) (fun c0 => ?_)
 ·have c0:e1 ≠ 0:=c0
  have hd:decE l a b = e1:=by rw [hE,if_pos c0]
  refine ⟨rfl,_,_,M.get 0 rfl,Nat.le_of_ble_eq_true rfl,rfl,?_⟩
  intro w6 h6
  have M:=M.put 0 rfl h6
  refine ⟨verC 0 0 0,rfl,M.rd 0 rfl,?_⟩
  exact ⟨by rw [hd,if_neg c0],M.ext⟩
 have c0:e1 = 0:=c0
 obtain ⟨oa,hoa⟩:∃ oa,oa = decide a.Ok:=⟨_,rfl⟩
 obtain ⟨ob,hob⟩:∃ ob,ob = decide b.Ok:=⟨_,rfl⟩
 refine ⟨a.cells,rfl,M.rd 2 rfl,?_⟩
 have Y:=refValid_spec a w5
 rw [<-hoa] at Y
 refine Y.mono ?_
 rintro v w6 ⟨rfl,e6⟩
 have M:=M.grow e6
 refine ⟨b.cells,rfl,M.rd 1 rfl,?_⟩
 have Z:=refValid_spec b w6
 rw [<-hob] at Z
 refine Z.mono ?_
 clear X Y Z
 rintro v w7 ⟨rfl,e7⟩
 have M:=M.grow e7
 have bad:¬ (a.Ok ∧ b.Ok) -> decE l a b = 1:=fun hn => by rw [hE,if_neg (fun e => e c0),if_neg hn]
 refine brE_mk (fun ca => ?_) (fun ca => ?_)
 ·have ca:oa = false:=by simpa using ca
  have hd:=bad fun e => of_decide_eq_false (hoa.symm.trans ca) e.1
  refine ⟨rfl,_,_,M.get 0 rfl,Nat.le_of_ble_eq_true rfl,rfl,?_⟩
  intro w8 h8
  have M:=M.put 0 rfl h8
  refine ⟨verC 0 0 0,rfl,M.rd 0 rfl,?_⟩
  exact ⟨by rw [hd]; rfl,M.ext⟩
 have ca:oa = true:=by simpa using ca
 refine brE_mk (fun cb => ?_) (fun cb => ?_)
 ·have cb:ob = false:=by simpa using cb
  have hd:=bad fun e => of_decide_eq_false (hob.symm.trans cb) e.2
  refine ⟨rfl,_,_,M.get 0 rfl,Nat.le_of_ble_eq_true rfl,rfl,?_⟩
  intro w8 h8
  have M:=M.put 0 rfl h8
  refine ⟨verC 0 0 0,rfl,M.rd 0 rfl,?_⟩
  exact ⟨by rw [hd]; rfl,M.ext⟩
 have cb:ob = true:=by simpa using cb
 have hd:decE l a b = 0:=by rw [hE,if_neg (fun e => e c0),if_pos ⟨of_decide_eq_true (hoa.symm.trans ca),of_decide_eq_true (hob.symm.trans cb)⟩]
 refine ⟨[.slice R l.length c],rfl,M.rd 3 rfl,?_⟩
 refine ⟨a.cells,rfl,M.rd 2 rfl,?_⟩
 refine ⟨b.cells,rfl,M.rd 1 rfl,?_⟩
 refine (refDecide1_spec (h.ext M.ext) (he1.symm.trans c0) a b).mono ?_
 rintro v w8 ⟨⟨k,r,q,ρ,rfl,hp',hk⟩,e8⟩
 have hp:decP l a b = (r,q):=hp'
 have M:=M.grow e8
 intro g11 w9 h9
 have M:=M.alloc h9
 refine ⟨rfl,_,_,M.get 0 rfl,Nat.le_of_ble_eq_true rfl,rfl,?_⟩
 intro w10 h10
 have M:Mem w w10 [(g11,.cells (decC k r q ρ).toArray 215 (0,0)),(g6,.cells (verC 0 0 0).toArray 64 (0,0)),(g5,.cells b.cells.toArray 38 (0,0)),(g4,.cells a.cells.toArray 38 (0,0)),(g3,.cells #[.slice R l.length c] 29 (0,0))]:=M.put 0 rfl h10
 refine ⟨verC k r q,rfl,?_,?_⟩
 ·have hrd:=M.rd 0 rfl
  intro i v hv
  have:(decC k r q ρ)[i]? = some v:=by
   unfold verC at hv
   unfold decC
   match i,hv with
   | 0,hv => exact hv
   | 1,hv => exact hv
   | 2,hv => exact hv
  have:=hrd i v this
  exact this
 refine ⟨rfl,_,_,M.get 1 rfl,Nat.le_of_ble_eq_true rfl,rfl,?_⟩
 intro w11 h11
 have M:=M.put 1 rfl h11
 refine ⟨verC k r q,rfl,M.rd 1 rfl,?_⟩
 exact ⟨by rw [hd,if_pos rfl,hp,verV,<-hk],M.ext⟩
noncomputable def ruledI (l:List Rl) (a b:Prof):Int:=if decE l a b = 0 then (decP l a b).1 else -1
theorem decP_low {l:List Rl} {a b:Prof}:((decP l a b).1 = -1 ∨ 0 <= (decP l a b).1):=by
 unfold decP decV
 split
 ·rename_i hx
  rw [show ((hx.choose.2.1,hx.choose.2.2):Int × Int).1 = hx.choose.2.1 from rfl,hx.choose_spec.fr]
  exact firstI_low _ _ _
 ·exact .inl rfl
set_option maxRecDepth 100000 in
theorem ruled_spec {w:World} {R:Option Addr} {l:List Rl} {c:Nat} (h:HRs w R l c) (a b:Prof) :
  CallsV C.P 50 #[.agg #[.slice R l.length c],a.val,b.val] w fun v w' => v = .int .i64 (ruledI l a b) ∧ Ext w w':=by
 refine callsV_of C_ok (args:=[_,_,_]) (plans:=[]) Tryz.func50 rfl Tryz.ntmps50 (by kernel_rfl) (Nat.le_of_ble_eq_true rfl) ?_
 intro g3 w1 h1
 have M:Mem w w1 [(g3,.cells #[.slice R l.length c] 29 (0,0))]:=(Mem.start w).alloc h1
 intro g4 w2 h2
 have M:Mem w w2 [(g4,.cells a.cells.toArray 38 (0,0)),(g3,.cells #[.slice R l.length c] 29 (0,0))]:=M.alloc h2
 intro g5 w3 h3
 have M:Mem w w3 [(g5,.cells b.cells.toArray 38 (0,0)),(g4,.cells a.cells.toArray 38 (0,0)),(g3,.cells #[.slice R l.length c] 29 (0,0))]:=M.alloc h3
 refine ⟨[.slice R l.length c],rfl,M.rd 2 rfl,?_⟩
 refine ⟨a.cells,rfl,M.rd 1 rfl,?_⟩
 refine ⟨b.cells,rfl,M.rd 0 rfl,?_⟩
 obtain ⟨k,r,q,hv,hres⟩:∃ k r q:Int,(if decE l a b = 0 then verV (decP l a b) else .agg (verC 0 0 0).toArray) = .agg (verC k r q).toArray ∧ (ruledI l a b = if k = 1 ∨ k = 3 then r else -1):=by
  unfold ruledI
  by_cases hd:decE l a b = 0
  ·rw [if_pos hd,if_pos hd]
   refine ⟨kindV (decP l a b),(decP l a b).1,(decP l a b).2,rfl,?_⟩
   have hlow:=decP_low (l:=l) (a:=a) (b:=b)
   rcases hlow with e | e
   ·rw [e]; split <;> rfl
   ·by_cases hq:(decP l a b).2 >= 0
    ·have hk:kindV (decP l a b) = 3:=if_pos ⟨e,hq⟩
     rw [if_pos (.inr hk)]
    ·have hk:kindV (decP l a b) = 1:=(if_neg fun h => hq h.2).trans (if_pos e)
     rw [if_pos (.inl hk)]
  ·rw [if_neg hd,if_neg hd]
   exact ⟨0,0,0,rfl,rfl⟩
 have X:=refDecide_spec (h.ext M.ext) a b
 rw [hv] at X
 rw [hres]
 refine X.mono ?_
 rintro v w4 ⟨rfl,e4⟩
 have M:=M.grow e4
 intro g7 w5 h5
 have M:=M.alloc h5
 refine ⟨rfl,_,_,M.get 0 rfl,Nat.le_of_ble_eq_true rfl,rfl,?_⟩
 intro w6 h6
 have M:Mem w w6 [(g7,.cells (verC k r q).toArray 64 (0,0)),(g5,.cells b.cells.toArray 38 (0,0)),(g4,.cells a.cells.toArray 38 (0,0)),(g3,.cells #[.slice R l.length c] 29 (0,0))]:=M.put 0 rfl h6
 refine ⟨_,M.cell 0 (i:=0) rfl rfl,?_⟩
 refine brE_dec (fun k1 => ?_) (fun k1 => ?_)
 ·have k1:k = 1:=k1
  refine ⟨_,M.cell 0 (i:=1) rfl rfl,?_⟩
  exact ⟨congrArg (Value.int .i64) (if_pos (.inl k1)).symm,M.ext⟩
 have k1:¬ k = 1:=k1
 refine ⟨_,M.cell 0 (i:=0) rfl rfl,?_⟩
 refine brE_dec (fun k3 => ?_) (fun k3 => ?_)
 ·have k3:k = 3:=k3
  refine ⟨_,M.cell 0 (i:=1) rfl rfl,?_⟩
  exact ⟨congrArg (Value.int .i64) (if_pos (.inr k3)).symm,M.ext⟩
 have k3:¬ k = 3:=k3
 exact ⟨congrArg (Value.int .i64) (if_neg (fun e => e.elim k1 k3)).symm,M.ext⟩
end Go.Proofs.YtdpdjcopkehdjaaGreat.Rk
