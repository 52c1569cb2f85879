/- a part of the proof: steps, walks and plain laws that the law below stands on; no condition. -/
import Derived.Test.YtigapannpbaihaaGreatEXa
import Derived.Test.YtigapannpbaihaaGreatEXb
import Derived.Test.YtigapannpbaihaaGreatEXc
import Derived.Test.YtigapannpbaihaaGreatEXd
import Derived.Test.YtigapannpbaihaaGreatEXe
import Derived.Test.YtigapannpbaihaaGreatEXf
import Derived.Test.YtigapannpbaihaaGreatEXg
import Derived.Test.YtigapannpbaihaaGreatEXh
import Derived.Test.YtigapannpbaihaaGreatEXj
import Derived.Test.YtigapannpbaihaaGreatEXk
import Derived.Ground.SlsfProg
import Derived.Test.YtigapannpbaihaaGreatProg
import Derived.Shelf.SortM.Plain
import Derived.Shelf.SortM.SortNone
import Derived.KernelRfl
set_option linter.unusedVariables false
set_option linter.unusedSimpArgs false
set_option linter.unnecessarySimpa false
set_option linter.unusedSectionVars false
namespace Go.Proofs.YtigapannpbaihaaGreat.Rk
open Go.Eng Go.RowKit Go.Sort
def sortA_ren:Go.Shelf.Ren:=⟨fun | 6 => 80 | 15 => 132 | 14 => 131 | 28 => 190 | 29 => 191 | 20 => 182 | 21 => 183 | 22 => 184 | 23 => 185 | 24 => 186 | 25 => 187 | 26 => 188 | 27 => 189 | 46 => 224 | 47 => 225 | 48 => 226 | 49 => 227 | 50 => 228 | 57 => 265 | n => n,fun | 22 => 34 | 24 => 189 | 25 => 192 | 3 => 3 | 39 => 263 | 0 => 0 | 53 => 313 | 55 => 315 | 4 => 4 | 46 => 307 | 45 => 306 | 50 => 239 | 5 => 5 | 9 => 9 | 66 => 350 | 70 => 342 | 76 => 364 | 77 => 87 | n => n,fun | n => n⟩
theorem sortA:Go.Proofs.SlLaysF0.n6 Tryz.prog sortA_ren:={
 mixed:=by kernel_rfl,
 f6:=⟨Tryz.f80.name,by decide,Tryz.func80.trans (congrArg some (by kernel_rfl))⟩,
 f14:=⟨Tryz.f131.name,by decide,Tryz.func131.trans (congrArg some (by kernel_rfl))⟩,
 f15:=Tryz.func132.trans (congrArg some (by kernel_rfl)),
 f20:=⟨Tryz.f182.name,by decide,Tryz.func182.trans (congrArg some (by kernel_rfl))⟩,
 f21:=⟨Tryz.f183.name,by decide,Tryz.func183.trans (congrArg some (by kernel_rfl))⟩,
 f22:=⟨Tryz.f184.name,by decide,Tryz.func184.trans (congrArg some (by kernel_rfl))⟩,
 f23:=⟨Tryz.f185.name,by decide,Tryz.func185.trans (congrArg some (by kernel_rfl))⟩,
 f24:=⟨Tryz.f186.name,by decide,Tryz.func186.trans (congrArg some (by kernel_rfl))⟩,
 f25:=⟨Tryz.f187.name,by decide,Tryz.func187.trans (congrArg some (by kernel_rfl))⟩,
 f26:=⟨Tryz.f188.name,by decide,Tryz.func188.trans (congrArg some (by kernel_rfl))⟩,
 f27:=⟨Tryz.f189.name,by decide,Tryz.func189.trans (congrArg some (by kernel_rfl))⟩,
 f28:=Tryz.func190.trans (congrArg some (by kernel_rfl)),
 f29:=Tryz.func191.trans (congrArg some (by kernel_rfl)),
 f46:=⟨Tryz.f224.name,by decide,Tryz.func224.trans (congrArg some (by kernel_rfl))⟩,
 f47:=Tryz.func225.trans (congrArg some (by kernel_rfl)),
 f48:=Tryz.func226.trans (congrArg some (by kernel_rfl)),
 f49:=⟨Tryz.f227.name,by decide,Tryz.func227.trans (congrArg some (by kernel_rfl))⟩,
 f50:=⟨Tryz.f228.name,by decide,Tryz.func228.trans (congrArg some (by kernel_rfl))⟩,
 f57:=⟨Tryz.f265.name,by decide,Tryz.func265.trans (congrArg some (by kernel_rfl))⟩,
 t0:=Tryz.underlying0,
 a0:=Tryz.isAgg0,
 z0:=Tryz.sizeOf0,
 v0:=Tryz.zeroValue0,
 t3:=Tryz.underlying3,
 a3:=Tryz.isAgg3,
 z3:=Tryz.sizeOf3,
 v3:=Tryz.zeroValue3,
 t4:=Tryz.underlying4,
 a4:=Tryz.isAgg4,
 z4:=Tryz.sizeOf4,
 v4:=Tryz.zeroValue4,
 t5:=Tryz.underlying5,
 a5:=Tryz.isAgg5,
 z5:=Tryz.sizeOf5,
 v5:=Tryz.zeroValue5,
 t9:=Tryz.underlying9,
 a9:=Tryz.isAgg9,
 z9:=Tryz.sizeOf9,
 v9:=Tryz.zeroValue9,
 t22:=Tryz.underlying34,
 a22:=Tryz.isAgg34,
 z22:=Tryz.sizeOf34,
 v22:=Tryz.zeroValue34,
 t25:=Tryz.underlying192,
 a25:=Tryz.isAgg192,
 z25:=Tryz.sizeOf192,
 v25:=Tryz.zeroValue192,
 t39:=Tryz.underlying263,
 a39:=Tryz.isAgg263,
 z39:=Tryz.sizeOf263,
 v39:=Tryz.zeroValue263,
 t45:=Tryz.underlying306,
 a45:=Tryz.isAgg306,
 z45:=Tryz.sizeOf306,
 v45:=Tryz.zeroValue306,
 t46:=Tryz.underlying307,
 a46:=Tryz.isAgg307,
 z46:=Tryz.sizeOf307,
 v46:=Tryz.zeroValue307,
 t50:=Tryz.underlying239,
 a50:=Tryz.isAgg239,
 z50:=Tryz.sizeOf239,
 v50:=Tryz.zeroValue239,
 t53:=Tryz.underlying313,
 a53:=Tryz.isAgg313,
 z53:=Tryz.sizeOf313,
 v53:=Tryz.zeroValue313,
 t55:=Tryz.underlying315,
 a55:=Tryz.isAgg315,
 z55:=Tryz.sizeOf315,
 v55:=Tryz.zeroValue315,
 t66:=Tryz.underlying350,
 a66:=Tryz.isAgg350,
 z66:=Tryz.sizeOf350,
 v66:=Tryz.zeroValue350,
 t70:=Tryz.underlying342,
 a70:=Tryz.isAgg342,
 z70:=Tryz.sizeOf342,
 v70:=Tryz.zeroValue342,
 t76:=Tryz.underlying364,
 a76:=Tryz.isAgg364,
 z76:=Tryz.sizeOf364,
 v76:=Tryz.zeroValue364,
 t77:=Tryz.underlying87,
 a77:=Tryz.isAgg87,
 z77:=Tryz.sizeOf87,
 v77:=Tryz.zeroValue87 }
instance inhArrowS:Inhabited Arrow:=⟨arrowZ⟩
theorem ltOf_cmpA (x y:Arrow):ltOf cmpA x y = ltA x y:=by
 unfold ltOf
 rw [Bool.eq_iff_iff,decide_eq_true_eq,cmpA_lt]
theorem swo_arrow:SWO (ltOf cmpA) where
 irrefl x:=by rw [ltOf_cmpA]; simp [ltA]
 trans x y z h1 h2:=by rw [ltOf_cmpA] at *; exact ltA_trans h1 h2
 ntrans x y z h1 h2:=by rw [ltOf_cmpA] at *; simp [ltA] at *; omega
theorem cmp_arrow (x y:Arrow) (W:World):CallsV C.P 81 (#[.agg x.cells.toArray,.agg y.cells.toArray] ++ #[]) W fun v w' => v = .int .i64 (cmpA x y) ∧ Ext W w':=compareArrows_spec x y W
theorem SortArrows_spec {w:World} {base:Nat} {v:Value} {l:List Arrow} (h:w.ownsRow base 189 4 v l.length (arrows l)) (hlen:l.length < 4611686018427387904) :
  CallsV C.P 80 #[v,.func (.func 81) #[] #[]] w fun r w' => r = .tuple #[] ∧ ∃ l':List Arrow,l'.Perm l ∧ (l'.Pairwise fun a b => ltA b a = false) ∧ w'.ownsRow base 189 4 v l'.length (arrows l') ∧ w.grownBy w' v.ownBlock ∧ Only 189 w w':=by
 have eg:∀ args w,(callFunc 81 args).run Tryz.prog w = .ok (.enter 81 args) w:=enters_of Tryz.func81 (by kernel_rfl) rfl
 have hlt:ltOf cmpA = ltA:=by funext x y; exact ltOf_cmpA x y
 refine (sortV (P:=C.P) (f:=80) (g:=81) (cb:=#[]) (enc:=Arrow.cells) (k:=4) (fun _ => rfl) (lt:=ltA) (fun W blk cap d hd hH hb => ?_) (fun A cap W => ?_) h hlen).mono ?_
 ·have hcon:=AnyQ.slices_SortFunc sortA 4 Tryz.isAgg189 Tryz.sizeOf189 Arrow.cells (fun _ => rfl) (fun x v hv => by simp [Arrow.cells] at hv; rcases hv with rfl | rfl | rfl | rfl <;> rfl) cmpA swo_arrow 81 #[] blk 0 cap d W eg (cmpLays_of cmp_arrow) hH hb hd
  rw [hlt] at hcon
  exact hcon
 ·exact AnyF.slices_SortFunc_none sortA A cap _ W
 ·exact fun _ _ h => h
end Go.Proofs.YtigapannpbaihaaGreat.Rk
namespace Go.Proofs.YtigapannpbaihaaGreat.Rk
open Go.Eng Go.RowKit
theorem Ver.swap {l:List Rl} {T B:Rl -> Bool} {ρ r q:Int} (h:Ver l T B ρ r q):Ver l B T ρ q r:=by
 refine ⟨?_,h.fb,h.fr⟩
 rcases h.top with ⟨e,h2⟩ | ⟨⟨x,hx,hxr,hxt⟩,h2⟩
 ·exact .inl ⟨e,fun x hx => (h2 x hx).symm⟩
 ·exact .inr ⟨⟨x,hx,hxr,hxt.symm⟩,fun x hx ht => h2 x hx ht.symm⟩
theorem decV_swap (l:List Rl) (T B:Rl -> Bool):decV l B T = ((decV l T B).2,(decV l T B).1):=by
 by_cases hx:∃ p:Int × Int × Int,Ver l T B p.1 p.2.1 p.2.2
 ·obtain ⟨p,hp⟩:=hx
  rw [decV_eq hp,decV_eq hp.swap]
 ·have hy:¬ ∃ p:Int × Int × Int,Ver l B T p.1 p.2.1 p.2.2:=fun ⟨p,hp⟩ => hx ⟨(p.1,p.2.2,p.2.1),hp.swap⟩
  unfold decV
  rw [dif_neg hx,dif_neg hy]
theorem decE_swap (l:List Rl) (a b:Prof):decE l a b = decE l b a:=by
 have e:(if a.Ok ∧ b.Ok then (0:Int) else 1) = if b.Ok ∧ a.Ok then 0 else 1:=by
  by_cases h:a.Ok ∧ b.Ok
  ·rw [if_pos h,if_pos h.symm]
  ·rw [if_neg h,if_neg (fun e => h e.symm)]
 unfold decE
 rw [e]
theorem ruled_back (l:List Rl) (a b:Prof):ruledI l b a = if decE l a b = 0 then (decP l a b).2 else -1:=by
 unfold ruledI
 rw [decE_swap l b a]
 have:decP l b a = ((decP l a b).2,(decP l a b).1):=decV_swap l _ _
 rw [this]
def wtOf (l:List Rl) (n:Int):Int:=(l.getD n.toNat default).weight
noncomputable def arrF (l:List Rl) (p:List Prof) (a b:Nat):List Arrow:=if ruledI l (p.getD a default) (p.getD b default) >= 0 then [⟨(a:Nat),(b:Nat),ruledI l (p.getD a default) (p.getD b default),wtOf l (ruledI l (p.getD a default) (p.getD b default))⟩] else []
theorem arrF_mem {l:List Rl} {p:List Prof} {a b:Nat} {x:Arrow} (h:x ∈ arrF l p a b):x.fr = (a:Nat) ∧ x.to = (b:Nat):=by
 unfold arrF at h
 split at h
 ·rw [List.mem_singleton.1 h]; exact ⟨rfl,rfl⟩
 ·cases h
theorem arrF_nodup (l:List Rl) (p:List Prof) (a b:Nat) (R:Arrow -> Arrow -> Prop):(arrF l p a b).Pairwise R:=by
 unfold arrF
 split
 ·exact List.pairwise_singleton _ _
 ·exact List.Pairwise.nil
noncomputable def rwR (l:List Rl) (p:List Prof) (a k:Nat):List Arrow:=(List.range k).flatMap fun b => if a = b then [] else arrF l p a b
noncomputable def relL (l:List Rl) (p:List Prof):List Arrow:=(List.range p.length).flatMap fun a => rwR l p a p.length
noncomputable def rwP (l:List Rl) (p:List Prof) (a k:Nat):List Arrow:=(List.range k).flatMap fun b => if a < b then arrF l p a b ++ arrF l p b a else []
noncomputable def progTo (l:List Rl) (p:List Prof) (a:Nat):List Arrow:=(List.range a).flatMap fun a => rwP l p a p.length
theorem rwP_succ (l:List Rl) (p:List Prof) (a k:Nat):rwP l p a (k + 1) = rwP l p a k ++ if a < k then arrF l p a k ++ arrF l p k a else []:=by
 unfold rwP; rw [List.range_succ,List.flatMap_append]; simp
theorem rwP_none (l:List Rl) (p:List Prof) (a k:Nat) (h:k <= a + 1):rwP l p a k = []:=by
 unfold rwP
 rw [List.flatMap_eq_nil_iff]
 intro b hb
 rw [if_neg (by have:=List.mem_range.1 hb; omega)]
theorem progTo_succ (l:List Rl) (p:List Prof) (a:Nat):progTo l p (a + 1) = progTo l p a ++ rwP l p a p.length:=by
 unfold progTo; rw [List.range_succ,List.flatMap_append]; simp
theorem mem_rwR {l:List Rl} {p:List Prof} {a k:Nat} {x:Arrow}:x ∈ rwR l p a k <-> ∃ b,b < k ∧ a ≠ b ∧ x ∈ arrF l p a b:=by
 unfold rwR
 rw [List.mem_flatMap]
 constructor
 ·rintro ⟨b,hb,hx⟩
  by_cases e:a = b
  ·rw [if_pos e] at hx; cases hx
  ·rw [if_neg e] at hx; exact ⟨b,List.mem_range.1 hb,e,hx⟩
 ·rintro ⟨b,hb,e,hx⟩
  exact ⟨b,List.mem_range.2 hb,by rw [if_neg e]; exact hx⟩
theorem mem_rwP {l:List Rl} {p:List Prof} {a k:Nat} {x:Arrow}:x ∈ rwP l p a k <-> ∃ b,b < k ∧ a < b ∧ (x ∈ arrF l p a b ∨ x ∈ arrF l p b a):=by
 unfold rwP
 rw [List.mem_flatMap]
 constructor
 ·rintro ⟨b,hb,hx⟩
  by_cases e:a < b
  ·rw [if_pos e] at hx; exact ⟨b,List.mem_range.1 hb,e,List.mem_append.1 hx⟩
  ·rw [if_neg e] at hx; cases hx
 ·rintro ⟨b,hb,e,hx⟩
  exact ⟨b,List.mem_range.2 hb,by rw [if_pos e]; exact List.mem_append.2 hx⟩
theorem relL_sorted (l:List Rl) (p:List Prof):(relL l p).Pairwise fun x y => ltA x y = true:=by
 unfold relL
 refine List.pairwise_flatMap.2 ⟨fun a _ => ?_,?_⟩
 ·unfold rwR
  refine List.pairwise_flatMap.2 ⟨fun b _ => ?_,?_⟩
  ·split
   ·exact List.Pairwise.nil
   ·exact arrF_nodup _ _ _ _ _
  ·refine List.Pairwise.imp (R:=fun a b => a < b) (fun {b1 b2} hlt x hx y hy => ?_) List.pairwise_lt_range
   have hx:x ∈ arrF l p a b1:=by split at hx; (· cases hx); exact hx
   have hy:y ∈ arrF l p a b2:=by split at hy; (· cases hy); exact hy
   obtain ⟨x1,x2⟩:=arrF_mem hx
   obtain ⟨y1,y2⟩:=arrF_mem hy
   exact decide_eq_true (by omega)
 ·refine List.Pairwise.imp (R:=fun a b => a < b) (fun {a1 a2} hlt x hx y hy => ?_) List.pairwise_lt_range
  obtain ⟨b1,_,_,hx⟩:=mem_rwR.1 hx
  obtain ⟨b2,_,_,hy⟩:=mem_rwR.1 hy
  obtain ⟨x1,x2⟩:=arrF_mem hx
  obtain ⟨y1,y2⟩:=arrF_mem hy
  exact decide_eq_true (by omega)
theorem progTo_nodup (l:List Rl) (p:List Prof) (k:Nat):(progTo l p k).Nodup:=by
 unfold progTo
 refine List.pairwise_flatMap.2 ⟨fun a _ => ?_,?_⟩
 ·unfold rwP
  refine List.pairwise_flatMap.2 ⟨fun b _ => ?_,?_⟩
  ·split
   ·next hab =>
    refine List.pairwise_append.2 ⟨arrF_nodup _ _ _ _ _,arrF_nodup _ _ _ _ _,fun x hx y hy e => ?_⟩
    obtain ⟨x1,x2⟩:=arrF_mem hx
    obtain ⟨y1,y2⟩:=arrF_mem hy
    rw [e] at x1
    omega
   ·exact List.Pairwise.nil
  ·refine List.Pairwise.imp (R:=fun a b => a < b) (fun {b1 b2} hlt x hx y hy e => ?_) List.pairwise_lt_range
   by_cases c1:a < b1
   ·by_cases c2:a < b2
    ·rw [if_pos c1] at hx
     rw [if_pos c2] at hy
     rw [e] at hx
     rcases List.mem_append.1 hx with hx | hx <;> rcases List.mem_append.1 hy with hy | hy <;>
     ·obtain ⟨x1,x2⟩:=arrF_mem hx
      obtain ⟨y1,y2⟩:=arrF_mem hy
      omega
    ·rw [if_neg c2] at hy; cases hy
   ·rw [if_neg c1] at hx; cases hx
 ·refine List.Pairwise.imp (R:=fun a b => a < b) (fun {a1 a2} hlt x hx y hy e => ?_) List.pairwise_lt_range
  obtain ⟨b1,_,_,hx⟩:=mem_rwP.1 hx
  obtain ⟨b2,_,_,hy⟩:=mem_rwP.1 hy
  rw [e] at hx
  rcases hx with hx | hx <;> rcases hy with hy | hy <;>
  ·obtain ⟨x1,x2⟩:=arrF_mem hx
   obtain ⟨y1,y2⟩:=arrF_mem hy
   omega
theorem prog_perm (l:List Rl) (p:List Prof):(progTo l p p.length).Perm (relL l p):=by
 have nd:(relL l p).Nodup:=(relL_sorted l p).imp fun h e => by rw [e,ltA_iff] at h; omega
 refine (List.perm_ext_iff_of_nodup (progTo_nodup l p _) nd).2 fun x => ?_
 unfold progTo relL
 simp only [List.mem_flatMap,List.mem_range,mem_rwP,mem_rwR]
 constructor
 ·rintro ⟨a,ha,b,hb,hab,hx | hx⟩
  ·exact ⟨a,ha,b,hb,by omega,hx⟩
  ·exact ⟨b,hb,a,ha,by omega,hx⟩
 ·rintro ⟨a,ha,b,hb,hab,hx⟩
  rcases Nat.lt_or_gt_of_ne hab with h | h
  ·exact ⟨a,ha,b,hb,h,.inl hx⟩
  ·exact ⟨b,hb,a,ha,h,.inr hx⟩
theorem sorted_rel {l:List Rl} {p:List Prof} {L:List Arrow} (hp:L.Perm (progTo l p p.length)) (hs:L.Pairwise fun a b => ltA b a = false):L = relL l p:=by
 refine List.Perm.eq_of_pairwise (le:=fun a b => ltA b a = false) (fun a b ha hb h1 h2 => ?_) hs ((relL_sorted l p).imp fun {a b} h => ?_) (hp.trans (prog_perm l p))
 ·-- two arrows neither of which is before the other one: the same ends
  have ha':=(hp.trans (prog_perm l p)).mem_iff.1 ha
  have hfr:a.fr = b.fr ∧ a.to = b.to:=by
   have h1:¬ (b.fr < a.fr ∨ b.fr = a.fr ∧ b.to < a.to):=of_decide_eq_false h1
   have h2:¬ (a.fr < b.fr ∨ a.fr = b.fr ∧ a.to < b.to):=of_decide_eq_false h2
   omega
  unfold relL at ha' hb
  simp only [List.mem_flatMap,List.mem_range,mem_rwR] at ha' hb
  obtain ⟨a1,_,b1,_,_,hx⟩:=ha'
  obtain ⟨a2,_,b2,_,_,hy⟩:=hb
  obtain ⟨x1,x2⟩:=arrF_mem hx
  obtain ⟨y1,y2⟩:=arrF_mem hy
  have e1:a1 = a2:=by omega
  have e2:b1 = b2:=by omega
  subst e1 e2
  unfold arrF at hx hy
  split at hx
  ·rename_i hc
   rw [if_pos hc] at hy
   rw [List.mem_singleton.1 hx,List.mem_singleton.1 hy]
  ·cases hx
 ·have h:a.fr < b.fr ∨ a.fr = b.fr ∧ a.to < b.to:=ltA_iff.1 h
  exact decide_eq_false (by omega)
end Go.Proofs.YtigapannpbaihaaGreat.Rk
namespace Go.Proofs.YtigapannpbaihaaGreat.Rk
open Go.Eng Go.RowKit
theorem firstI_lt (l:List Rl) (ρ:Int) (T:Rl -> Bool):firstI l ρ T < (l.length:Nat):=by
 unfold firstI
 split
 ·rename_i i hi
  have:=(List.findIdx?_eq_some_iff_getElem.1 hi).1
  omega
 ·omega
theorem ruledI_lt (l:List Rl) (a b:Prof):ruledI l a b < (l.length:Nat):=by
 unfold ruledI
 split
 ·unfold decP decV
  split
  ·rename_i hx
   rw [show ((hx.choose.2.1,hx.choose.2.2):Int × Int).1 = hx.choose.2.1 from rfl,hx.choose_spec.fr]
   exact firstI_lt _ _ _
  ·show (-1:Int) < _; omega
 ·omega
theorem ver_parts (l:List Rl) (a b:Prof):∃ k r q:Int,(if decE l a b = 0 then verV (decP l a b) else .agg (verC 0 0 0).toArray) = .agg (verC k r q).toArray ∧ ((k = 1 ∨ k = 3) <-> ruledI l a b >= 0) ∧ (ruledI l a b >= 0 -> r = ruledI l a b) ∧ ((k = 2 ∨ k = 3) <-> ruledI l b a >= 0) ∧ (ruledI l b a >= 0 -> q = ruledI l b a):=by
 by_cases hd:decE l a b = 0
 ·have e1:ruledI l a b = (decP l a b).1:=if_pos hd
  have e2:ruledI l b a = (decP l a b).2:=(ruled_back l a b).trans (if_pos hd)
  rw [if_pos hd,e1,e2]
  refine ⟨kindV (decP l a b),(decP l a b).1,(decP l a b).2,rfl,?_,fun _ => rfl,?_,fun _ => rfl⟩
  ·unfold kindV
   by_cases h1:(decP l a b).1 >= 0 <;> by_cases h2:(decP l a b).2 >= 0 <;> simp [h1,h2]
  ·unfold kindV
   by_cases h1:(decP l a b).1 >= 0 <;> by_cases h2:(decP l a b).2 >= 0 <;> simp [h1,h2]
 ·have e1:ruledI l a b = -1:=if_neg hd
  have e2:ruledI l b a = -1:=(ruled_back l a b).trans (if_neg hd)
  rw [if_neg hd,e1,e2]
  exact ⟨0,0,0,rfl,by decide,fun h => absurd h (by decide),by decide,fun h => absurd h (by decide)⟩
theorem wtOf_nat {l:List Rl} {n:Nat} (h:n < l.length):wtOf l (n:Nat) = l[n].weight:=by
 unfold wtOf
 rw [Int.toNat_natCast,List.getD_eq_getElem?_getD,List.getElem?_eq_getElem h]; rfl
set_option maxRecDepth 100000 in
set_option maxHeartbeats 8000000 in
theorem decided_spec {w:World} {R P:Option Addr} {l:List Rl} {c:Nat} (h:HRs w R l c) {p:List Prof} {cp:Nat} (hP:HL Prof.cells w P p cp) {a b:Nat} (ha:a < p.length) (hb:b < p.length) (hp:p.length <= 2 ^ 20) :
  CallsV C.P 79 #[.agg #[.slice R l.length c],.slice P p.length cp,.int .i64 (a:Nat),.int .i64 (b:Nat)] w fun v w' => NewL Arrow.cells 189 4 w.heap.size w' v (arrF l p a b ++ arrF l p b a) ∧ Ext w w':=by
 obtain ⟨x,hx⟩:∃ x,x = p[a]:=⟨_,rfl⟩
 obtain ⟨y,hy⟩:∃ y,y = p[b]:=⟨_,rfl⟩
 have gx:p.getD a default = x:=by rw [List.getD_eq_getElem?_getD,List.getElem?_eq_getElem ha,hx]; rfl
 have gy:p.getD b default = y:=by rw [List.getD_eq_getElem?_getD,List.getElem?_eq_getElem hb,hy]; rfl
 obtain ⟨k,r,q,hv,hk1,hr1,hk2,hq1⟩:=ver_parts l x y
 have fa:arrF l p a b = if ruledI l x y >= 0 then [⟨(a:Nat),(b:Nat),ruledI l x y,wtOf l (ruledI l x y)⟩] else []:=by unfold arrF; rw [gx,gy]
 have fb:arrF l p b a = if ruledI l y x >= 0 then [⟨(b:Nat),(a:Nat),ruledI l y x,wtOf l (ruledI l y x)⟩] else []:=by unfold arrF; rw [gx,gy]
 have l1:=ruledI_lt l x y
 have l2:=ruledI_lt l y x
 obtain ⟨F1,hF1⟩:∃ F1,F1 = arrF l p a b:=⟨_,rfl⟩
 obtain ⟨F2,hF2⟩:∃ F2,F2 = arrF l p b a:=⟨_,rfl⟩
 rw [<-hF1] at fa ⊢
 rw [<-hF2] at fb ⊢
 refine callsV_ofS (args:=[_,_,_,_]) Tryz.func79 rfl Tryz.ntmps79 C_ok (Nat.le_of_ble_eq_true rfl) ?_
 refine Snd.go C_ok plans79 (by kernel_rfl) ?_
 intro g4 w1 h1
 have M1:Mem w w1 [(g4,.cells #[.slice R l.length c] 25 (0,0))]:=(Mem.start w).alloc h1
 refine ⟨Snd.join C_ok plans79 (fun g9:Nat => [(2,.int .i64 (a:Nat)),(3,.int .i64 (b:Nat)),(4,.pointer (some ⟨g4,0,none⟩)),(9,.pointer (some ⟨g9,0,none⟩))])
  (fun g9 w' => Mem w w' [(g9,.cells (verC k r q).toArray 258 (0,0)),(g4,.cells #[.slice R l.length c] 25 (0,0))]) (by kernel_rfl) ?_ ?_⟩
 ·obtain ⟨b1,o1,hA1,hc1⟩:=(hP.ext M1.ext).at (k:=7) (fun _ => rfl) (by omega) ha
  obtain ⟨b2,o2,hA2,hc2⟩:=(hP.ext M1.ext).at (k:=7) (fun _ => rfl) (by omega) hb
  rw [<-hx] at hc1
  rw [<-hy] at hc2
  have X:=fun w' (e:Ext w w') => Decide_spec (h.ext e) x y
  rw [hv] at X
  refine ⟨[.slice R l.length c],rfl,M1.rd 0 rfl,?_⟩
  refine ⟨a,b1,o1,rfl,ha,hA1,?_⟩
  refine ⟨x.cells,rfl,hc1,?_⟩
  refine ⟨b,b2,o2,rfl,hb,hA2,?_⟩
  refine ⟨y.cells,rfl,hc2,?_⟩
  refine ⟨?A,?B⟩
  case A =>
   refine (X _ M1.ext).mono ?_
   rintro v w2 ⟨rfl,e2⟩
   refine ⟨e2,?_⟩
   intro g9 w3 h3
   refine ⟨h3.ext,?_⟩
   have M:=(M1.grow e2).alloc h3
   refine ⟨rfl,_,_,M.get 0 rfl,Nat.le_of_ble_eq_true rfl,rfl,?_⟩
   intro w4 h4
   exact ⟨g9,⟨rfl,rfl,rfl,rfl,trivial⟩,M.put 0 rfl h4⟩
  case B =>
   intro g9 w3 h3
   refine ⟨h3.ext,?_⟩
   refine (X _ (M1.ext.trans h3.ext)).mono ?_
   rintro v w2 ⟨rfl,e2⟩
   refine ⟨e2,?_⟩
   have M:=(M1.alloc h3).grow e2
   refine ⟨rfl,_,_,M.get 0 rfl,Nat.le_of_ble_eq_true rfl,rfl,?_⟩
   intro w4 h4
   exact ⟨g9,⟨rfl,rfl,rfl,rfl,trivial⟩,M.put 0 rfl h4⟩
 clear M1 h1
 rintro g9 w3 M
 have hlt9:g9 < w3.heap.size:=M.lt (List.mem_cons_self)
 have hlt4:g4 < w3.heap.size:=M.lt (List.mem_cons_of_mem _ (List.mem_cons_self))
 have hw3:w.heap.size <= w3.heap.size:=M.ext.size
 have keep:∀ {w5 w6:World} {v:Value} {n:Nat} {cs:List Value},Mem w w5 [(g9,.cells (verC k r q).toArray 258 (0,0)),(g4,.cells #[.slice R l.length c] 25 (0,0))] -> w5.ownsRow w3.heap.size 189 4 v n cs -> w5.grownBy w6 v.ownBlock -> Mem w w6 [(g9,.cells (verC k r q).toArray 258 (0,0)),(g4,.cells #[.slice R l.length c] 25 (0,0))]:=by
  intro w5 w6 v n cs MM ho hg
  refine MM.grown hg (fun j hj => Nat.le_trans hw3 (ho.lt j hj).1) (fun pp hpp e => ?_)
  have:=(ho.lt pp.1 e.symm).1
  simp only [List.mem_cons,List.not_mem_nil,or_false] at hpp
  rcases hpp with rfl | rfl <;> simp only at this <;> omega
 refine Snd.go C_ok plans79 (by kernel_rfl) ?_
 refine ⟨Snd.join C_ok plans79 (fun v:Value => [(2,.int .i64 (a:Nat)),(3,.int .i64 (b:Nat)),(4,.pointer (some ⟨g4,0,none⟩)),(9,.pointer (some ⟨g9,0,none⟩)),(11,v)])
  (fun v w' => Mem w w' [(g9,.cells (verC k r q).toArray 258 (0,0)),(g4,.cells #[.slice R l.length c] 25 (0,0))] ∧ NewL Arrow.cells 189 4 w3.heap.size w' v F1 ∧ w3.heap.size <= w'.heap.size) (by kernel_rfl) ?_ ?_⟩
 ·refine ⟨_,M.cell 0 (i:=0) rfl rfl,?_⟩
  refine brE_dec (fun c1 => ?Y1) (fun c1 => ?N1)
  case' Y1 =>
   have hyes:ruledI l x y >= 0:=hk1.1 (.inl c1)
  case' N1 =>
   have c1:¬ k = 1:=c1
   refine ⟨_,M.cell 0 (i:=0) rfl rfl,?_⟩
   refine brE_dec (fun c3 => ?Y3) (fun c3 => ?N3)
   case' N3 =>
    have c3:¬ k = 3:=c3
    have hno:¬ ruledI l x y >= 0:=fun e => (hk1.2 e).elim c1 c3
    refine ⟨.slice none 0 0,⟨rfl,rfl,rfl,rfl,rfl,trivial⟩,M,?_,Nat.le_refl _⟩
    rw [fa,if_neg hno]; exact newL_nil
   case' Y3 =>
    have hyes:ruledI l x y >= 0:=hk1.1 (.inr c3)
  all_goals
   have er:=hr1 hyes
   obtain ⟨n,hn⟩:=Int.eq_ofNat_of_zero_le (show 0 <= r by omega)
   have hnl:n < l.length:=by omega
   have fa2:F1 = [⟨(a:Nat),(b:Nat),(n:Nat),l[n].weight⟩]:=by rw [fa,if_pos hyes,<-er,hn,wtOf_nat hnl]
   obtain ⟨bb,oo,hR,hc8⟩:=(h.ext M.ext).at hnl
   refine ⟨_,M.cell 0 (i:=1) rfl rfl,?_⟩
   refine ⟨_,M.cell 1 rfl rfl,?_⟩
   refine ⟨_,M.cell 0 (i:=1) rfl rfl,?_⟩
   refine ⟨n,bb,oo,hn,hnl,hR,?_⟩
   refine ⟨_,hc8 2 _ rfl,?_⟩
   intro g12 w5 h5
   have M5:=M.grow h5.ext
   have ho:NewL Arrow.cells 189 4 w3.heap.size w5 (.slice none 0 0) ([]:List Arrow):=newL_nil
   refine ⟨rfl,rfl,rfl,w3.heap.size,_,_,(Arrow.mk (a:Nat) (b:Nat) r l[n].weight).cells,ho,h5.ext.size,Nat.le_of_ble_eq_true rfl,rfl,rfl,.inr ⟨g12,0,rfl,Rd.of_block h5.here⟩,rfl,rfl,by simp,by simp [maxLen],?_⟩
   intro v6 w6 ho6 hg6 hpl6
   refine ⟨v6,⟨rfl,rfl,rfl,rfl,rfl,trivial⟩,keep M5 ho hg6,?_,Nat.le_trans h5.ext.size hg6.size⟩
   rw [fa2,<-hn]
   exact ho6
 clear M
 rintro v1 w5 ⟨M,ho1,hsz5⟩
 have hf1:F1.length <= 1:=by rw [fa]; split <;> simp
 refine Snd.join C_ok plans79 (fun v:Value => [(11,v)])
  (fun v w' => Mem w w' [(g9,.cells (verC k r q).toArray 258 (0,0)),(g4,.cells #[.slice R l.length c] 25 (0,0))] ∧ NewL Arrow.cells 189 4 w3.heap.size w' v (F1 ++ F2)) (by kernel_rfl) ?_ ?_
 ·refine ⟨_,M.cell 0 (i:=0) rfl rfl,?_⟩
  refine brE_dec (fun c1 => ?Y1b) (fun c1 => ?N1b)
  case' Y1b =>
   have hyes:ruledI l y x >= 0:=hk2.1 (.inl c1)
  case' N1b =>
   have c1:¬ k = 2:=c1
   refine ⟨_,M.cell 0 (i:=0) rfl rfl,?_⟩
   refine brE_dec (fun c3 => ?Y3b) (fun c3 => ?N3b)
   case' N3b =>
    have c3:¬ k = 3:=c3
    have hno:¬ ruledI l y x >= 0:=fun e => (hk2.2 e).elim c1 c3
    refine ⟨v1,⟨rfl,trivial⟩,M,?_⟩
    rw [fb,if_neg hno,List.append_nil]; exact ho1
   case' Y3b =>
    have hyes:ruledI l y x >= 0:=hk2.1 (.inr c3)
  all_goals
   have er:=hq1 hyes
   obtain ⟨n,hn⟩:=Int.eq_ofNat_of_zero_le (show 0 <= q by omega)
   have hnl:n < l.length:=by omega
   have fb2:F2 = [⟨(b:Nat),(a:Nat),(n:Nat),l[n].weight⟩]:=by rw [fb,if_pos hyes,<-er,hn,wtOf_nat hnl]
   obtain ⟨bb,oo,hR,hc8⟩:=(h.ext M.ext).at hnl
   refine ⟨_,M.cell 0 (i:=2) rfl rfl,?_⟩
   refine ⟨_,M.cell 1 rfl rfl,?_⟩
   refine ⟨_,M.cell 0 (i:=2) rfl rfl,?_⟩
   refine ⟨n,bb,oo,hn,hnl,hR,?_⟩
   refine ⟨_,hc8 2 _ rfl,?_⟩
   intro g12 w6 h6
   have M6:=M.grow h6.ext
   have ho:=ho1.ext h6.ext
   refine ⟨rfl,rfl,rfl,w3.heap.size,_,_,(Arrow.mk (b:Nat) (a:Nat) q l[n].weight).cells,ho,Nat.le_trans hsz5 h6.ext.size,Nat.le_of_ble_eq_true rfl,rfl,rfl,.inr ⟨g12,0,rfl,Rd.of_block h6.here⟩,rfl,rfl,by omega,by simp only [maxLen]; omega,?_⟩
   intro v7 w7 ho7 hg7 hpl7
   refine ⟨v7,⟨rfl,trivial⟩,keep M6 ho hg7,?_⟩
   rw [fb2,<-hn]
   unfold NewL
   rw [List.length_append,List.flatMap_append]
   simpa using ho7
 clear M
 rintro v8 w8 ⟨M,ho8⟩
 refine Snd.fin C_ok (plans:=plans79) (by kernel_rfl) ?_
 exact ⟨ho8.base hw3,M.ext⟩
end Go.Proofs.YtigapannpbaihaaGreat.Rk
namespace Go.Proofs.YtigapannpbaihaaGreat.Rk
open Go.Eng Go.RowKit
theorem arrF_le (l:List Rl) (p:List Prof) (a b:Nat):(arrF l p a b).length <= 1:=by unfold arrF; split <;> simp
theorem rwP_le (l:List Rl) (p:List Prof) (a k:Nat):(rwP l p a k).length <= 2 * k:=by
 induction k with
 | zero => simp [rwP]
 | succ k ih =>
  rw [rwP_succ,List.length_append]
  have h1:=arrF_le l p a k
  have h2:=arrF_le l p k a
  have:(if a < k then arrF l p a k ++ arrF l p k a else []).length <= 2:=by
   split
   ·rw [List.length_append]; omega
   ·simp
  omega
theorem progTo_le (l:List Rl) (p:List Prof) (a:Nat):(progTo l p a).length <= a * (2 * p.length):=by
 induction a with
 | zero => simp [progTo]
 | succ a ih =>
  rw [progTo_succ,List.length_append]
  have:=rwP_le l p a p.length
  rw [Nat.succ_mul]; omega
theorem arrows_one (L:List Arrow):(L.flatMap Arrow.cells).all (·.oneCell') = true:=by
 rw [List.all_eq_true]
 intro v hv
 obtain ⟨x,_,hx⟩:=List.mem_flatMap.1 hv
 simp only [Arrow.cells,List.mem_cons,List.not_mem_nil,or_false] at hx
 rcases hx with rfl | rfl | rfl | rfl <;> rfl
set_option maxRecDepth 100000 in
set_option maxHeartbeats 8000000 in
theorem relate_spec {w:World} {R P:Option Addr} {l:List Rl} {c:Nat} (h:HRs w R l c) {p:List Prof} {cp:Nat} (hP:HL Prof.cells w P p cp) (hp:p.length <= 24) :
  CallsV C.P 26 #[.agg #[.slice R l.length c],.slice P p.length cp] w fun v w' => NewRel w.heap.size w' v (p.length:Nat) (relL l p) ∧ Ext w w':=by
 refine callsV_of C_ok (args:=[_,_]) (plans:=plans26) Tryz.func26 rfl Tryz.ntmps26 (by kernel_rfl) (Nat.le_of_ble_eq_true rfl) ?_
 intro g2 w1 h1
 have M:Mem w w1 [(g2,.cells #[.slice R l.length c] 25 (0,0))]:=(Mem.start w).alloc h1
 intro g4 w2 h2
 have M:Mem w w2 [(g4,.cells #[.int .i64 0,.slice none 0 0] 36 (0,0)),(g2,.cells #[.slice R l.length c] 25 (0,0))]:=M.alloc h2
 intro g5 w3 h3
 have M:=M.alloc h3
 refine ⟨rfl,_,_,M.get 0 rfl,Nat.le_of_ble_eq_true rfl,rfl,?_⟩
 intro w4 h4
 have M:Mem w w4 [(g5,.cells #[.int .i64 (p.length:Nat),.slice none 0 0] 36 (0,0)),(g4,.cells #[.int .i64 0,.slice none 0 0] 36 (0,0)),(g2,.cells #[.slice R l.length c] 25 (0,0))]:=M.put 0 rfl h4
 clear h1 h2 h3 h4
 obtain ⟨B,hB⟩:∃ B,B = w4.heap.size:=⟨_,rfl⟩
 have hwB:w.heap.size <= B:=by rw [hB]; exact M.ext.size
 have b5:g5 < B:=by rw [hB]; exact M.lt List.mem_cons_self
 have b4:g4 < B:=by rw [hB]; exact M.lt (List.mem_cons_of_mem _ List.mem_cons_self)
 have b2:g2 < B:=by rw [hB]; exact M.lt (List.mem_cons_of_mem _ (List.mem_cons_of_mem _ List.mem_cons_self))
 have keep:∀ {w5 w6:World} {v u:Value} {cs:List Value} {n:Nat},Mem w w5 [(g5,.cells #[.int .i64 (p.length:Nat),u] 36 (0,0)),(g4,.cells #[.int .i64 0,.slice none 0 0] 36 (0,0)),(g2,.cells #[.slice R l.length c] 25 (0,0))] -> w5.ownsRow B 189 4 v n cs -> w5.grownBy w6 v.ownBlock →
   Mem w w6 [(g5,.cells #[.int .i64 (p.length:Nat),u] 36 (0,0)),(g4,.cells #[.int .i64 0,.slice none 0 0] 36 (0,0)),(g2,.cells #[.slice R l.length c] 25 (0,0))]:=by
  intro w5 w6 v u cs n MM ho hg
  refine MM.grown hg (fun j hj => Nat.le_trans hwB (ho.lt j hj).1) (fun pp hpp e => ?_)
  have:=(ho.lt pp.1 e.symm).1
  simp only [List.mem_cons,List.not_mem_nil,or_false] at hpp
  rcases hpp with rfl | rfl | rfl <;> simp only at this <;> omega
 refine loopE C_ok (fun (s:Nat × Value) => [(1,.slice P p.length cp),(2,.pointer (some ⟨g2,0,none⟩)),(4,.pointer (some ⟨g4,0,none⟩)),(5,.pointer (some ⟨g5,0,none⟩)),(12,.int .i64 (p.length:Nat)),(13,.int .i64 (s.1:Nat))])
  (fun s w' => s.1 <= p.length ∧ Mem w w' [(g5,.cells #[.int .i64 (p.length:Nat),s.2] 36 (0,0)),(g4,.cells #[.int .i64 0,.slice none 0 0] 36 (0,0)),(g2,.cells #[.slice R l.length c] 25 (0,0))] ∧ NewL Arrow.cells 189 4 B w' s.2 (progTo l p s.1) ∧ B <= w'.heap.size)
  (fun s => p.length - s.1) (0,.slice none 0 0) ⟨rfl,rfl,rfl,rfl,rfl,rfl,trivial⟩ ⟨Nat.zero_le _,M,newL_nil,Nat.le_of_eq hB⟩ ?_
 clear M hB
 rintro ⟨a,v⟩ w5 ⟨ha',M',ho',hs'⟩
 have ha:a <= p.length:=ha'
 have M:Mem w w5 [(g5,.cells #[.int .i64 (p.length:Nat),v] 36 (0,0)),(g4,.cells #[.int .i64 0,.slice none 0 0] 36 (0,0)),(g2,.cells #[.slice R l.length c] 25 (0,0))]:=M'
 have ho:NewL Arrow.cells 189 4 B w5 v (progTo l p a):=ho'
 have hs:B <= w5.heap.size:=hs'
 clear ha' M' ho' hs'
 refine brE_dec (fun hlt => ?_) (fun hge => ?_)
 ·have hlta:a < p.length:=by have:(a:Int) < (p.length:Nat):=hlt; omega
  have next:IntKind.i64.wrap ((a:Int) + 1) = ((a + 1:Nat):Int):=fit ⟨by omega,by omega⟩
  refine ⟨_,next,?_⟩
  refine loopE C_ok (fun (s:Nat × Value) => [(1,.slice P p.length cp),(2,.pointer (some ⟨g2,0,none⟩)),(4,.pointer (some ⟨g4,0,none⟩)),(5,.pointer (some ⟨g5,0,none⟩)),(6,.int .i64 (a:Nat)),(7,.int .i64 (s.1:Nat)),(12,.int .i64 (p.length:Nat)),(13,.int .i64 (a:Nat))])
   (fun s w' => a < s.1 ∧ s.1 <= p.length ∧ Mem w w' [(g5,.cells #[.int .i64 (p.length:Nat),s.2] 36 (0,0)),(g4,.cells #[.int .i64 0,.slice none 0 0] 36 (0,0)),(g2,.cells #[.slice R l.length c] 25 (0,0))] ∧ NewL Arrow.cells 189 4 B w' s.2 (progTo l p a ++ rwP l p a s.1) ∧ B <= w'.heap.size)
   (fun s => p.length - s.1) (a + 1,v) ⟨rfl,rfl,rfl,rfl,rfl,rfl,rfl,rfl,trivial⟩ ⟨Nat.lt_succ_self a,hlta,M,by show NewL _ _ _ _ _ _ (progTo l p a ++ rwP l p a (a + 1)); rw [rwP_none l p a (a + 1) (Nat.le_refl _),List.append_nil]; exact ho,hs⟩ ?_
  clear M ho hs
  rintro ⟨b,u⟩ w6 ⟨hab',hb',M',ho',hs'⟩
  have hab:a < b:=hab'
  have hb:b <= p.length:=hb'
  have M:Mem w w6 [(g5,.cells #[.int .i64 (p.length:Nat),u] 36 (0,0)),(g4,.cells #[.int .i64 0,.slice none 0 0] 36 (0,0)),(g2,.cells #[.slice R l.length c] 25 (0,0))]:=M'
  have ho:NewL Arrow.cells 189 4 B w6 u (progTo l p a ++ rwP l p a b):=ho'
  have hs:B <= w6.heap.size:=hs'
  clear hab' hb' M' ho' hs'
  refine brE_dec (fun hlt2 => ?_) (fun hge2 => ?_)
  ·have hltb:b < p.length:=by have:(b:Int) < (p.length:Nat):=hlt2; omega
   have nextb:IntKind.i64.wrap ((b:Int) + 1) = ((b + 1:Nat):Int):=fit ⟨by omega,by omega⟩
   refine ⟨_,M.cell 0 (i:=1) rfl rfl,?_⟩
   refine ⟨[.slice R l.length c],rfl,M.rd 2 rfl,?_⟩
   refine (decided_spec (h.ext M.ext) (hP.ext M.ext) hlta hltb (by omega)).mono ?_
   rintro v7 w7 ⟨hd,e7⟩
   refine ⟨e7,?_⟩
   have M:=M.grow e7
   have ho:=ho.ext e7
   obtain ⟨A7,c7,rfl,hr7,_⟩:=reads_of_owns hd
   have n1:=arrF_le l p a b
   have n2:=arrF_le l p b a
   have n3:=progTo_le l p a
   have n4:=rwP_le l p a b
   have n5:a * (2 * p.length) <= 24 * 48:=Nat.mul_le_mul (by omega) (by omega)
   obtain ⟨L7,hL7⟩:∃ L7,L7 = arrF l p a b ++ arrF l p b a:=⟨_,rfl⟩
   have hl7:L7.length <= 2:=by rw [hL7,List.length_append]; omega
   have hstep:progTo l p a ++ rwP l p a (b + 1) = (progTo l p a ++ rwP l p a b) ++ L7:=by rw [rwP_succ,if_pos hab,hL7,List.append_assoc]
   rw [<-hL7] at hr7 ⊢
   have hsome:(A7.isSome || L7.length.beq 0) = true:=by
    rcases hr7 with h0 | ⟨b',o',hA7,_⟩
    ·have h1:L7.length = 0:=by
      have:=flat_length (enc:=Arrow.cells) (k:=4) (fun _ => rfl) L7
      rw [h0] at this
      have:L7.length * 4 = 0:=this.symm
      omega
     rw [h1]; cases A7 <;> rfl
    ·rw [hA7]; rfl
   have hpl:(progTo l p a ++ rwP l p a b).length <= 24 * 48 + 48:=by rw [List.length_append]; omega
   obtain ⟨D,hD⟩:∃ D,D = progTo l p a ++ rwP l p a b:=⟨_,rfl⟩
   rw [<-hD] at hstep hpl ho
   refine ⟨rfl,rfl,rfl,B,D.length,D.flatMap Arrow.cells,L7.flatMap Arrow.cells,ho,Nat.le_trans hs e7.size,Nat.le_of_ble_eq_true rfl,rfl,flat_length (enc:=Arrow.cells) (k:=4) (fun _ => rfl) L7,hr7,hsome,arrows_one L7,by omega,by simp only [maxLen]; omega,?_⟩
   intro v8 w8 ho8 hg8 hpl8
   have M:=keep M ho hg8
   obtain ⟨A8,n8,c8,e8⟩:∃ A8 n8 c8,v8 = .slice A8 n8 c8:=by
    obtain ⟨A8,c8,e,_,_⟩:=reads_of_owns ho8
    exact ⟨_,_,_,e⟩
   subst e8
   refine ⟨rfl,_,_,M.get 0 rfl,Nat.le_of_ble_eq_true rfl,rfl,?_⟩
   intro w9 h9
   have M9:=M.put 0 rfl h9
   refine ⟨_,nextb,?_⟩
   have ho9:NewL Arrow.cells 189 4 B w8 (.slice A8 n8 c8) (D ++ L7):=by
    unfold NewL
    rw [List.length_append,List.flatMap_append]
    exact ho8
   refine ⟨(b + 1,_),⟨rfl,rfl,rfl,rfl,rfl,rfl,rfl,rfl,trivial⟩,⟨by show a < b + 1; omega,hltb,M9,?_,?_⟩,by show p.length - (b + 1) < p.length - b; omega⟩
   ·show NewL _ _ _ _ _ _ (progTo l p a ++ rwP l p a (b + 1))
    rw [hstep]
    exact ownsRow_put ho9 h9 (fun e => by have:=(ho9.lt g5 e).1; omega)
   ·show B <= w9.heap.size
    rw [h9.size]; exact Nat.le_trans (Nat.le_trans hs e7.size) hg8.size
  ·have hbe:b = p.length:=by have:¬ (b:Int) < (p.length:Nat):=hge2; omega
   refine ⟨_,next,?_⟩
   refine ⟨(a + 1,u),⟨rfl,rfl,rfl,rfl,rfl,rfl,trivial⟩,⟨hlta,M,?_,hs⟩,by show p.length - (a + 1) < p.length - a; omega⟩
   show NewL _ _ _ _ _ _ (progTo l p (a + 1))
   rw [progTo_succ,<-hbe]
   rw [hbe] at ho ⊢
   exact ho
 ·have hae:a = p.length:=by have:¬ (a:Int) < (p.length:Nat):=hge; omega
  rw [hae] at ho
  refine ⟨_,M.cell 0 (i:=1) rfl rfl,?_⟩
  have n3:=progTo_le l p p.length
  have n5:p.length * (2 * p.length) <= 24 * 48:=Nat.mul_le_mul hp (by omega)
  refine (SortArrows_spec (l:=progTo l p p.length) ho (by omega)).mono ?_
  rintro r w6 ⟨rfl,L,hLp,hLs,ho6,hg6,hon6⟩
  have hL:=sorted_rel hLp hLs
  have M6:=keep M ho hg6
  rw [hL] at ho6
  obtain ⟨A6,c6,rfl,_,_⟩:=reads_of_owns ho6
  refine ⟨[.int .i64 (p.length:Nat),_],rfl,M6.rd 0 rfl,?_⟩
  refine ⟨rfl,_,_,M6.get 1 rfl,Nat.le_of_ble_eq_true rfl,rfl,?_⟩
  intro w7 h7
  have M7:=M6.put 1 rfl h7
  refine ⟨[.int .i64 (p.length:Nat),_],rfl,M7.rd 1 rfl,?_⟩
  refine ⟨⟨A6,c6,rfl,?_⟩,M7.ext⟩
  exact ownsRow_base (ownsRow_put ho6 h7 (fun e => by have:=(ho6.lt g4 e).1; omega)) hwB
end Go.Proofs.YtigapannpbaihaaGreat.Rk
namespace Go.Eng
open Go.RowKit
theorem splice_mid (a b c d:List Value) (h:d.length = b.length):splice (a ++ (b ++ c)) a.length d = a ++ (d ++ c):=by
 unfold splice
 rw [List.take_append_of_le_length (Nat.le_refl _),List.take_length,List.append_assoc]
 congr 2
 rw [List.drop_append,List.drop_eq_nil_of_le (by omega),List.nil_append,h,Nat.add_sub_cancel_left,List.drop_append,List.drop_length,List.nil_append,Nat.sub_self,List.drop_zero]
theorem flat_set {α:Type} {enc:α -> List Value} {k:Nat} (hk:∀ x,(enc x).length = k) {l:List α} {i:Nat} (hi:i < l.length) (x:α):splice (l.flatMap enc) (i * k) (enc x) = (l.set i x).flatMap enc:=by
 have e1:l.flatMap enc = (l.take i).flatMap enc ++ (enc l[i] ++ (l.drop (i + 1)).flatMap enc):=by
  conv => lhs; rw [<-List.take_append_drop i l,List.drop_eq_getElem_cons hi]
  rw [List.flatMap_append,List.flatMap_cons]
 have e2:(l.set i x).flatMap enc = (l.take i).flatMap enc ++ (enc x ++ (l.drop (i + 1)).flatMap enc):=by
  rw [List.set_eq_take_append_cons_drop,if_pos hi,List.flatMap_append,List.flatMap_cons]
 have hl:((l.take i).flatMap enc).length = i * k:=by rw [flat_length hk,List.length_take,Nat.min_eq_left (Nat.le_of_lt hi)]
 rw [e1,e2,<-hl]
 exact splice_mid _ _ _ _ (by rw [hk,hk])
theorem flat_take {α:Type} {enc:α -> List Value} {k:Nat} (hk:∀ x,(enc x).length = k) {l:List α} {i:Nat} (hi:i <= l.length):(l.flatMap enc).take (i * k) = (l.take i).flatMap enc:=by
 have e:l.flatMap enc = (l.take i).flatMap enc ++ (l.drop i).flatMap enc:=by rw [<-List.flatMap_append,List.take_append_drop]
 have hl:((l.take i).flatMap enc).length = i * k:=by rw [flat_length hk,List.length_take,Nat.min_eq_left hi]
 rw [e,List.take_append_of_le_length (by omega),<-hl,List.take_length]
theorem splice_take_at {cs vs:List Value} {i:Nat} (h:i <= cs.length):(splice cs i vs).take i = cs.take i:=by
 unfold splice
 rw [List.append_assoc,List.take_append_of_le_length (by simp; omega),List.take_take,Nat.min_self]
theorem keep_at {α:Type} {p:α -> Bool} {l:List α} {j:Nat} (hj:j < l.length):(l.take (j + 1)).filter (fun x => !p x) = (l.take j).filter (fun x => !p x) ++ if p l[j] = true then [] else [l[j]]:=by
 rw [List.take_succ_eq_append_getElem hj,List.filter_append,List.filter_cons,List.filter_nil]
 cases p l[j] <;> rfl
theorem keep_first {α:Type} {p:α -> Bool} {l:List α} {i:Nat} (hi:i < l.length) (hp:p l[i] = true) (h:∀ j (hj:j < l.length),j < i -> p l[j] = false):(l.take (i + 1)).filter (fun x => !p x) = l.take i:=by
 rw [keep_at hi,if_pos hp,List.append_nil]
 refine List.filter_eq_self.2 fun x hx => ?_
 obtain ⟨j,hj,rfl⟩:=List.getElem_of_mem hx
 rw [List.length_take] at hj
 rw [List.getElem_take,h j (by omega) (by omega)]
 rfl
end Go.Eng
namespace Go.Proofs.YtigapannpbaihaaGreat
open Go.Eng Go.RowKit
theorem IndexFuncF_spec {w:World} {A:Option Addr} {l:List Fact} {c gd:Nat} {cb:Array Value} {p:Fact -> Bool} (hr:Reads w A (fcells l)) (hl:l.length <= 2 ^ 20) (hgd:C.can gd = true)
  (hdel:∀ (x:Fact) (w':World),Ext w w' -> CallsV C.P gd (#[] ++ [x.val].toArray ++ cb) w' fun v w'' => v = .bool (p x) ∧ Ext w' w'') :
  CallsV C.P 291 #[.slice A l.length c,.func (.func gd) #[] cb] w fun v w' => ((v = .int .i64 (-1) ∧ ∀ x ∈ l,p x = false) ∨ ∃ i:Nat,v = .int .i64 (i:Nat) ∧ ∃ h:i < l.length,p l[i] = true ∧ ∀ j (hj:j < l.length),j < i -> p l[j] = false) ∧ Ext w w':=by
 refine callsV_of C_ok (args:=[_,_]) (plans:=[]) Tryz.func291 rfl Tryz.ntmps291 (by kernel_rfl) (Nat.le_of_ble_eq_true rfl) ?_
 refine loopE C_ok (fun (i:Nat) => [(0,.slice A l.length c),(1,.func (.func gd) #[] cb),(7,.int .i64 l.length),(8,.int .i64 i)])
  (fun i w' => Ext w w' ∧ i <= l.length ∧ ∀ j (hj:j < l.length),j < i -> p l[j] = false) (fun i => l.length - i) 0 ⟨rfl,rfl,rfl,rfl,trivial⟩
  ⟨Ext.refl _,Nat.zero_le _,fun j _ hj => absurd hj (Nat.not_lt_zero _)⟩ ?_
 rintro i w1 ⟨e1,hi,hall⟩
 refine brE_dec (fun hlt => ?_) (fun hge => ?_)
 ·have hlt:i < l.length:=by have:(i:Int) < (l.length:Nat):=hlt; omega
  obtain ⟨b,o,hA,hc⟩:=Reads.fact (hr.ext e1) hlt
  refine ⟨i,b,o,rfl,hlt,hA,?_⟩
  refine ⟨l[i].cells,rfl,hc,?_⟩
  refine brE_true hgd ?_
  refine (hdel l[i] w1 e1).mono ?_
  rintro v w2 ⟨rfl,e2⟩
  refine brE_mk (fun h2 => ?_) (fun h2 => ?_)
  ·exact ⟨.inr ⟨i,rfl,hlt,h2,hall⟩,e1.trans e2⟩
  ·refine ⟨((i + 1:Nat):Int),fit ⟨by omega,by omega⟩,?_⟩
   refine ⟨i + 1,⟨rfl,rfl,rfl,rfl,trivial⟩,⟨e1.trans e2,hlt,fun j hj hji => ?_⟩,by omega⟩
   rcases Nat.lt_or_ge j i with h | h
   ·exact hall j hj h
   ·obtain rfl:j = i:=by omega
    exact h2
 ·have:i = l.length:=by have:¬ (i:Int) < (l.length:Nat):=hge; omega
  subst this
  refine ⟨.inl ⟨rfl,fun x hx => ?_⟩,e1⟩
  obtain ⟨j,hj,rfl⟩:=List.getElem_of_mem hx
  exact hall j hj hj
set_option maxRecDepth 100000 in
theorem DeleteFuncF_spec {B:Nat} {w:World} {v:Value} {l:List Fact} {gd:Nat} {cb:Array Value} {p:Fact -> Bool} (ho:NewF B w v l) (hB:B <= w.heap.size) (hl:l.length <= 2 ^ 20) (hgd:C.can gd = true)
  (hdel:∀ (x:Fact) (w':World),Below B w w' -> CallsV C.P gd (#[] ++ [x.val].toArray ++ cb) w' fun v w'' => v = .bool (p x) ∧ Ext w' w'') :
  CallsV C.P 266 #[v,.func (.func gd) #[] cb] w fun v' w' => NewF B w' v' (l.filter fun x => !p x) ∧ Below B w w':=by
 obtain ⟨A,cap,rfl,hR,hlc⟩:=ho.slice
 refine callsV_of C_ok (args:=[_,_]) (plans:=[]) Tryz.func266 rfl Tryz.ntmps266 (by kernel_rfl) (Nat.le_of_ble_eq_true rfl) ?_
 refine (IndexFuncF_spec hR hl hgd fun x w' e => hdel x w' (e.mono hB)).mono ?_
 rintro v w1 ⟨hi | ⟨i0,rfl,hi0,hsm,hfirst⟩,e1⟩
 ·obtain ⟨rfl,hall⟩:=hi
  have e:(l.filter fun x => !p x) = l:=List.filter_eq_self.2 fun x hx => by rw [hall x hx]; rfl
  rw [e]
  exact ⟨ho.ext e1,e1.mono hB⟩
 refine ⟨((i0 + 1:Nat):Int),fit ⟨by omega,by omega⟩,?_⟩
 have hA:∃ g,A = some ⟨g,0,none⟩:=by
  obtain ⟨_,⟨hv,h0⟩ | ⟨g,cap',cur,hv,_⟩⟩:=ho
  ·omega
  ·simp at hv; exact ⟨g,hv.1⟩
 obtain ⟨g,rfl⟩:=hA
 have kp0:=keep_first hi0 hsm hfirst
 have ho1:w1.ownsRow B 180 9 (.slice (some ⟨g,0,none⟩) l.length cap) l.length (fcells l):=ho.ext e1
 refine loopE C_ok (fun (s:Nat × Nat × List Fact) => [(0,.slice (some ⟨g,0,none⟩) l.length cap),(1,.func (.func gd) #[] cb),(5,.int .i64 s.2.1),(6,.int .i64 s.1)])
  (fun s w' => s.2.1 = ((l.take s.1).filter fun x => !p x).length ∧ s.2.1 < s.1 ∧ s.1 <= l.length ∧ s.2.2.length = l.length ∧ w'.ownsRow B 180 9 (.slice (some ⟨g,0,none⟩) l.length cap) l.length (fcells s.2.2) ∧ s.2.2.take s.2.1 = ((l.take s.1).filter fun x => !p x) ∧ (∀ k,s.1 <= k -> s.2.2[k]? = l[k]?) ∧ Below B w w')
  (fun s => l.length - s.1) (i0 + 1,i0,l) ⟨rfl,rfl,rfl,rfl,trivial⟩
  ⟨by show i0 = _; rw [kp0,List.length_take]; omega,Nat.lt_succ_self _,hi0,rfl,ho1,kp0.symm,fun _ _ => rfl,e1.mono hB⟩ ?_
 rintro ⟨j,i,R⟩ w2 ⟨hi',hij',hj',hRl',ho2',htake',hrest',b2⟩
 have hi:i = ((l.take j).filter fun x => !p x).length:=hi'
 have hij:i < j:=hij'
 have hj:j <= l.length:=hj'
 have hRl:R.length = l.length:=hRl'
 have ho2:w2.ownsRow B 180 9 (.slice (some ⟨g,0,none⟩) l.length cap) l.length (fcells R):=ho2'
 have htake:R.take i = ((l.take j).filter fun x => !p x):=htake'
 have hrest:∀ k,j <= k -> R[k]? = l[k]?:=hrest'
 clear hRl' hi' hij' hj' ho2' hrest' htake'
 refine brE_dec (fun hlt => ?_) (fun hge => ?_)
 ·have hlt:j < l.length:=by have:(j:Int) < (l.length:Nat):=hlt; omega
  have next:IntKind.i64.wrap ((j:Int) + 1) = ((j + 1:Nat):Int):=fit ⟨by omega,by omega⟩
  have hRj:R[j]'(by omega) = l[j]:=by
   have:=hrest j (Nat.le_refl _)
   rw [List.getElem?_eq_getElem hlt,List.getElem?_eq_getElem (by omega)] at this
   exact Option.some.inj this
  have hreads:Reads w2 (some ⟨g,0,none⟩) (fcells R):=by
   obtain ⟨A',c',e,h,_⟩:=reads_of_owns ho2
   cases e; exact h
  obtain ⟨b1,o1,hA1,hc1⟩:=Reads.fact hreads (i:=j) (by omega)
  cases hA1
  rw [hRj] at hc1
  refine ⟨j,g,0,rfl,hlt,rfl,?_⟩
  refine ⟨l[j].cells,rfl,hc1,?_⟩
  intro g7 w3 h3
  refine ⟨rfl,_,_,h3.here,Nat.le_of_ble_eq_true rfl,rfl,?_⟩
  intro w4 h4
  have h4:Put w3 g7 (.cells l[j].cells.toArray 180 (0,0)) w4:=h4
  have e24:Ext w2 w4:=h4.ext_of h3.ext (by rw [h3.new]; exact Nat.le_refl _)
  have hBw2:B <= w2.heap.size:=Nat.le_trans hB b2.size
  have b4:Below B w w4:=b2.trans (e24.mono hBw2)
  refine ⟨l[j].cells,rfl,Rd.of_block h4.here,?_⟩
  refine brE_true hgd ?_
  refine (hdel l[j] w4 b4).mono ?_
  rintro v w5 ⟨rfl,e5⟩
  have e25:=e24.trans e5
  have b5:Below B w w5:=b2.trans (e25.mono hBw2)
  have ho5:=ownsRow_ext ho2 e25
  have hk:=keep_at (p:=p) hlt
  refine brE_mk (fun h2 => ?_) (fun h2 => ?_)
  ·have h2:p l[j] = false:=by simpa using h2
   rw [h2,if_neg (by decide)] at hk
   obtain ⟨cur,hg,hgB,hcl,hccap,hncap,hdl,hct,hput⟩:=ownsRow_open ho5
   refine ⟨l[j].cells,rfl,Rd.of_block (e5.heap h4.here),?_⟩
   refine ⟨i,g,0,rfl,(by omega:i < l.length),rfl,?_⟩
   refine ⟨rfl,_,_,hg,by show 0 + i * 9 + 9 <= cur.length; omega,rfl,?_⟩
   intro w6 h6
   have h6:Put w5 g (.cells (splice cur (0 + i * 9) l[j].cells).toArray 180 (0,0)) w6:=h6
   have ho6:=hput (0 + i * 9) l[j].cells w6 (by show 0 + i * 9 + 9 <= _; omega) h6
   have e0:0 + i * 9 = i * 9:=by omega
   rw [e0] at ho6
   have hset:splice (fcells R) (i * 9) l[j].cells = fcells (R.set i l[j]):=flat_set Fact.len (by omega) _
   rw [hset] at ho6
   have nexti:IntKind.i64.wrap ((i:Int) + 1) = ((i + 1:Nat):Int):=fit ⟨by omega,by omega⟩
   refine ⟨_,nexti,?_⟩
   refine ⟨_,next,?_⟩
   refine ⟨(j + 1,i + 1,R.set i l[j]),⟨rfl,rfl,rfl,rfl,trivial⟩,⟨?_,by show i + 1 < j + 1; omega,hlt,by show (R.set i l[j]).length = _; rw [List.length_set,hRl],ho6,?_,?_,below_put b5 h6 hgB⟩,by show l.length - (j + 1) < l.length - j; omega⟩
   ·show i + 1 = ((l.take (j + 1)).filter fun x => !p x).length
    rw [hk,List.length_append,<-hi]; rfl
   ·show (R.set i l[j]).take (i + 1) = ((l.take (j + 1)).filter fun x => !p x)
    have hil:i < (R.set i l[j]).length:=by rw [List.length_set]; omega
    rw [hk,List.take_succ_eq_append_getElem hil,List.take_set_of_le (Nat.le_refl _),htake]
    congr 1
    simp
   ·intro k hk1
    show (R.set i l[j])[k]? = l[k]?
    have hk1:j + 1 <= k:=hk1
    rw [List.getElem?_set_ne (by omega)]
    exact hrest k (by omega)
  ·have h2:p l[j] = true:=by simpa using h2
   rw [h2,if_pos rfl,List.append_nil] at hk
   refine ⟨_,next,?_⟩
   exact ⟨(j + 1,i,R),⟨rfl,rfl,rfl,rfl,trivial⟩,⟨by show i = ((l.take (j + 1)).filter fun x => !p x).length; rw [hk]; exact hi,by show i < j + 1; omega,hlt,hRl,ho5,by show R.take i = ((l.take (j + 1)).filter fun x => !p x); rw [hk]; exact htake,fun k hk1 => hrest k (by have:j + 1 <= k:=hk1; omega),b5⟩,by show l.length - (j + 1) < l.length - j; omega⟩
 ·have:j = l.length:=by have:¬ (j:Int) < (l.length:Nat):=hge; omega
  subst this
  rw [List.take_length] at hi htake
  obtain ⟨cur,hg,hgB,hcl,hccap,hncap,hdl,hct,hput⟩:=ownsRow_open ho2
  refine ⟨i,l.length,rfl,rfl,by omega,by omega,?_⟩
  have hA:(if cap = i then (some (⟨g,0,none⟩:Addr)) else (some (⟨g,0,none⟩:Addr)).map (·.add (i * 9))) = some ⟨g,0 + i * 9,none⟩:=by
   rw [if_neg (by omega)]
   simp [add_spot]
  refine clearRow (esz:=9) C_ok rfl rfl rfl rfl rfl rfl rfl (by decide) hA (by omega) hg (by omega) ?_
  intro zs w3 hzs h3
  have ho3:=hput (0 + i * 9) zs w3 (by rw [hzs]; omega) h3
  refine ⟨0,i,rfl,rfl,Nat.zero_le _,by omega,?_⟩
  have e:(if cap = 0 then (some ⟨g,0,none⟩:Option Addr) else (some (⟨g,0,none⟩:Addr)).map (·.add (0 * 9))) = some ⟨g,0,none⟩:=by
   split <;> rfl
  have hcut:=ownsRow_cut ho3 (k:=i) (by omega)
  have e0:0 + i * 9 = i * 9:=by omega
  have hft:(fcells R).take (i * 9) = fcells (R.take i):=flat_take Fact.len (by omega)
  rw [e0,splice_take_at (by rw [fcells_length]; omega),hft,htake] at hcut
  refine ⟨?_,below_put b2 h3 hgB⟩
  show w3.ownsRow B 180 9 (.slice (if cap = 0 then (some ⟨g,0,none⟩:Option Addr) else (some (⟨g,0,none⟩:Addr)).map (·.add (0 * 9))) i cap) (l.filter fun x => !p x).length _
  rw [e,<-hi]
  exact hcut
end Go.Proofs.YtigapannpbaihaaGreat
namespace Go.Proofs.YtigapannpbaihaaGreat
open Go.Eng Go.RowKit
theorem ownsRow_grown {w w':World} {base e size n:Nat} {v:Value} {xs:List Value} {row:Option Nat} (h:w.ownsRow base e size v n xs) (hg:w.grownBy w' row) (hne:v.ownBlock ≠ row):w'.ownsRow base e size v n xs:=by
 obtain ⟨hl,hv | ⟨g',cap,cur,hv,hb,hg',h1⟩⟩:=h
 ·exact ⟨hl,.inl hv⟩
 ·refine ⟨hl,.inr ⟨g',cap,cur,hv,hb,?_,h1⟩⟩
  rw [hg.block g' (lt_of_heap hg') (fun e => hne (by rw [hv,<-e]; rfl))]
  exact hg'
theorem rev_get {l:List Fact} {k:Nat} (hk:k < l.length):l.reverse[k]? = l[l.length - 1 - k]?:=by
 rw [List.getElem?_reverse hk]
set_option maxRecDepth 100000 in
theorem ReverseF_spec {B:Nat} {w:World} {v:Value} {l:List Fact} (ho:NewF B w v l) (hl:l.length <= 2 ^ 20) :
  CallsV C.P 293 #[v] w fun v' w' => v' = .tuple #[] ∧ NewF B w' v l.reverse ∧ Below B w w':=by
 obtain ⟨A,cap,rfl,hR,hlc⟩:=ho.slice
 refine callsV_of C_ok (args:=[_]) (plans:=plans293) Tryz.func293 rfl Tryz.ntmps293 (by kernel_rfl) (Nat.le_of_ble_eq_true rfl) ?_
 refine ⟨(l.length:Int) - 1,fit ⟨by omega,by omega⟩,?_⟩
 refine loopE C_ok (fun (s:Nat × List Fact) => [(0,.slice A l.length cap),(2,.int .i64 s.1),(3,.int .i64 ((l.length:Int) - 1 - s.1))])
  (fun s w' => 2 * s.1 <= l.length ∧ s.2.length = l.length ∧ w'.ownsRow B 180 9 (.slice A l.length cap) l.length (fcells s.2) ∧ (∀ k,k < s.1 -> s.2[k]? = l.reverse[k]?) ∧ (∀ k,l.length - s.1 <= k -> s.2[k]? = l.reverse[k]?) ∧ (∀ k,s.1 <= k -> k < l.length - s.1 -> s.2[k]? = l[k]?) ∧ Below B w w')
  (fun s => l.length - s.1) (0,l) ⟨rfl,rfl,congrArg (fun z:Int => some (Value.int .i64 z)) (by omega:(l.length:Int) - 1 = (l.length:Int) - 1 - ((0:Nat):Int)),trivial⟩ ⟨Nat.zero_le _,rfl,ho,fun k h => absurd h (Nat.not_lt_zero _),fun k h => by rw [List.getElem?_eq_none (by simpa using h),List.getElem?_eq_none (by simpa using h)],fun _ _ _ => rfl,Below.refl _ _⟩ ?_
 rintro ⟨i,R⟩ w1 ⟨hi2',hRl',ho1',hlo',hhi',hmid',b1⟩
 have hi2:2 * i <= l.length:=hi2'
 have hRl:R.length = l.length:=hRl'
 have ho1:w1.ownsRow B 180 9 (.slice A l.length cap) l.length (fcells R):=ho1'
 have hlo:∀ k,k < i -> R[k]? = l.reverse[k]?:=hlo'
 have hhi:∀ k,l.length - i <= k -> R[k]? = l.reverse[k]?:=hhi'
 have hmid:∀ k,i <= k -> k < l.length - i -> R[k]? = l[k]?:=hmid'
 clear hRl' hhi' hi2' hlo' hmid' ho1'
 refine brE_dec (fun hlt => ?_) (fun hge => ?_)
 ·have hlt:(i:Int) < (l.length:Int) - 1 - i:=hlt
  obtain ⟨j,hj⟩:∃ j:Nat,j = l.length - 1 - i:=⟨_,rfl⟩
  have hij:i < j:=by omega
  have hjl:j < l.length:=by omega
  have hA:∃ g,A = some ⟨g,0,none⟩:=by
   obtain ⟨_,⟨hv,h0⟩ | ⟨g,cap',cur,hv,_⟩⟩:=ho
   ·omega
   ·simp at hv; exact ⟨g,hv.1⟩
  obtain ⟨g,rfl⟩:=hA
  have hreads:Reads w1 (some ⟨g,0,none⟩) (fcells R):=by
   obtain ⟨A',c',e,h,_⟩:=reads_of_owns ho1
   cases e; exact h
  have hRi:R[i]'(by omega) = l[i]'(by omega):=by
   have:=hmid i (Nat.le_refl _) (by omega)
   rw [List.getElem?_eq_getElem (by omega),List.getElem?_eq_getElem (by omega)] at this
   exact Option.some.inj this
  have hRj:R[j]'(by omega) = l[j]'hjl:=by
   have:=hmid j (by omega) (by omega)
   rw [List.getElem?_eq_getElem (by omega),List.getElem?_eq_getElem (by omega)] at this
   exact Option.some.inj this
  obtain ⟨b2,o2,hA2,hc2⟩:=Reads.fact hreads (i:=j) (by omega)
  obtain ⟨b3,o3,hA3,hc3⟩:=Reads.fact hreads (i:=i) (by omega)
  cases hA2
  cases hA3
  rw [hRj] at hc2
  rw [hRi] at hc3
  obtain ⟨cur,hg,hgB,hcl,hccap,hncap,hdl,hct,hput⟩:=ownsRow_open ho1
  refine ⟨j,g,0,by omega,hjl,rfl,?_⟩
  refine ⟨l[j].cells,rfl,hc2,?_⟩
  refine ⟨i,g,0,rfl,(by omega:i < l.length),rfl,?_⟩
  refine ⟨l[i].cells,rfl,hc3,?_⟩
  refine ⟨i,g,0,rfl,(by omega:i < l.length),rfl,?_⟩
  refine ⟨rfl,_,_,hg,by show 0 + i * 9 + 9 <= cur.length; omega,rfl,?_⟩
  intro w4 h4
  have h4:Put w1 g (.cells (splice cur (0 + i * 9) l[j].cells).toArray 180 (0,0)) w4:=h4
  have ho4:=hput (0 + i * 9) l[j].cells w4 (by show 0 + i * 9 + 9 <= _; omega) h4
  have e0:0 + i * 9 = i * 9:=by omega
  have hset:splice (fcells R) (i * 9) l[j].cells = fcells (R.set i l[j]):=flat_set Fact.len (by omega) _
  rw [e0,hset] at ho4
  obtain ⟨cur4,hg4,hgB4,hcl4,hccap4,hncap4,hdl4,hct4,hput4⟩:=ownsRow_open ho4
  refine ⟨j,g,0,by omega,hjl,rfl,?_⟩
  refine ⟨rfl,_,_,hg4,by show 0 + j * 9 + 9 <= cur4.length; omega,rfl,?_⟩
  intro w5 h5
  have h5:Put w4 g (.cells (splice cur4 (0 + j * 9) l[i].cells).toArray 180 (0,0)) w5:=h5
  have ho5:=hput4 (0 + j * 9) l[i].cells w5 (by show 0 + j * 9 + 9 <= _; omega) h5
  have e1:0 + j * 9 = j * 9:=by omega
  have hset2:splice (fcells (R.set i l[j])) (j * 9) l[i].cells = fcells ((R.set i l[j]).set j l[i]):=flat_set Fact.len (by rw [List.length_set]; omega) _
  rw [e1,hset2] at ho5
  refine ⟨((i + 1:Nat):Int),fit ⟨by omega,by omega⟩,?_⟩
  refine ⟨(l.length:Int) - 1 - ((i + 1:Nat):Int),by rw [fit ⟨by omega,by omega⟩]; omega,?_⟩
  have get:∀ k,((R.set i l[j]).set j l[i])[k]? = if k = j then some l[i] else if k = i then some l[j] else R[k]?:=by
   intro k
   rw [List.getElem?_set,List.length_set]
   by_cases h1:j = k
   ·subst h1; rw [if_pos rfl,if_pos rfl,if_pos (by omega)]
   ·rw [if_neg h1,if_neg (fun e => h1 e.symm),List.getElem?_set]
    by_cases h2:i = k
    ·subst h2; rw [if_pos rfl,if_pos rfl,if_pos (by omega)]
    ·rw [if_neg h2,if_neg (fun e => h2 e.symm)]
  refine ⟨(i + 1,(R.set i l[j]).set j l[i]),⟨rfl,rfl,rfl,trivial⟩,⟨by show 2 * (i + 1) <= l.length; omega,by show ((R.set i l[j]).set j l[i]).length = l.length; rw [List.length_set,List.length_set,hRl],ho5,?_,?_,?_,below_put (below_put b1 h4 hgB) h5 hgB⟩,by show l.length - (i + 1) < l.length - i; omega⟩
  ·intro k hk
   have hk:k < i + 1:=hk
   show ((R.set i l[j]).set j l[i])[k]? = _
   rw [get,if_neg (by omega)]
   by_cases hki:k = i
   ·subst hki
    rw [if_pos rfl,rev_get (by omega),<-hj,List.getElem?_eq_getElem hjl]
   ·rw [if_neg hki]; exact hlo k (by omega)
  ·intro k hk
   have hk:l.length - (i + 1) <= k:=hk
   show ((R.set i l[j]).set j l[i])[k]? = _
   rw [get]
   by_cases hkj:k = j
   ·subst hkj
    rw [if_pos rfl,rev_get (by omega),show l.length - 1 - k = i by omega,List.getElem?_eq_getElem (by omega)]
   ·rw [if_neg hkj,if_neg (by omega)]; exact hhi k (by omega)
  ·intro k hk1 hk2
   have hk1:i + 1 <= k:=hk1
   have hk2:k < l.length - (i + 1):=hk2
   show ((R.set i l[j]).set j l[i])[k]? = _
   rw [get,if_neg (by omega),if_neg (by omega)]
   exact hmid k (by omega) (by omega)
 ·have hge:¬ (i:Int) < (l.length:Int) - 1 - i:=hge
  have:R = l.reverse:=by
   apply List.ext_getElem?
   intro k
   by_cases h1:k < i
   ·exact hlo k h1
   ·by_cases h2:l.length - i <= k
    ·exact hhi k h2
    ·rw [hmid k (by omega) (by omega),rev_get (by omega),show l.length - 1 - k = k by omega]
  subst this
  refine ⟨rfl,?_,b1⟩
  show w1.ownsRow _ _ _ _ l.reverse.length _
  rw [List.length_reverse]
  exact ho1
def VoidIs (w:World) (g:Nat) (acc:List Fact):Prop:=∃ f,MapIs C.P 3 w g f ∧ ∀ q:Int,(f (.int .i64 q)).getD (.bool false) = .bool (voidedBy acc q)
theorem VoidIs.ext {w w':World} {g:Nat} {acc:List Fact} (h:VoidIs w g acc) (e:Ext w w'):VoidIs w' g acc:=let ⟨f,h1,h2⟩:=h; ⟨f,h1.ext e,h2⟩
theorem VoidIs.lt {w:World} {g:Nat} {acc:List Fact} (h:VoidIs w g acc):∃ es clk,w.heap[g]? = some (.map es clk):=let ⟨_,⟨es,clk,hb,_⟩,_⟩:=h; ⟨es,clk,hb⟩
theorem voidedBy_snoc (acc:List Fact) (x:Fact) (q:Int):voidedBy (acc ++ [x]) q = (voidedBy acc q || decide (x.kind = 11 ∧ x.what = q)):=by
 unfold voidedBy; rw [List.any_append]; simp
theorem Counting1_spec {w:World} {x:Fact} {g6 gm T:Nat} {acc:List Fact} (hx:x.Nums) (hc:w.heap[g6]? = some (.cells #[.map (some gm)] T (0,0))) (hv:VoidIs w gm acc) :
  CallsV C.P 292 (#[] ++ [x.val].toArray ++ #[.pointer (some ⟨g6,0,none⟩)]) w fun v w' => v = .bool (!voidedBy acc x.id) ∧ w.grownBy w' (some gm) ∧ VoidIs w' gm (if voidedBy acc x.id = true then acc else acc ++ [x]):=by
 refine callsV_of C_ok (args:=[_,_]) (plans:=[]) Tryz.func292 rfl Tryz.ntmps292 (by kernel_rfl) (Nat.le_of_ble_eq_true rfl) ?_
 intro g2 w1 h1
 have M1:=(Mem.start w).alloc h1
 have hc1:=h1.ext.heap hc
 have hv1:=hv.ext h1.ext
 obtain ⟨f,hf,hfv⟩:=hv1
 refine ⟨_,cell_of_block hc1 rfl,?_⟩
 refine ⟨_,M1.cell 0 rfl rfl,?_⟩
 refine ⟨.bool (voidedBy acc x.id),mapGet1 C_ok (te:=ty4) (x:=.int .i64 x.id) (intKey hx.id) hf intK rfl rfl rfl rfl rfl rfl (hfv _),?_⟩
 refine brE_mk (fun hb => ?_) (fun hb => ?_)
 ·rw [hb,if_pos rfl]
  exact ⟨rfl,ext_grownBy h1.ext _,⟨f,hf,hfv⟩⟩
 rw [hb,if_neg (by decide)]
 refine ⟨_,M1.cell 0 rfl rfl,?_⟩
 refine brE_dec (fun hk => ?_) (fun hk => ?_)
 ·have hk:x.kind = 11:=hk
  refine ⟨_,cell_of_block hc1 rfl,?_⟩
  refine ⟨_,M1.cell 0 rfl rfl,?_⟩
  refine mapPut C_ok rfl rfl (x:=.int .i64 x.what) rfl rfl rfl rfl intK (intKey hx.what) hf ?_
  intro o' w2 h2 hf2
  refine ⟨rfl,grownBy_trans (ext_grownBy h1.ext _) h2.grownBy,⟨_,hf2,fun q => ?_⟩⟩
  rw [voidedBy_snoc]
  unfold updV
  by_cases e:q = x.what
  ·subst e; rw [if_pos rfl]; simp [hk]
  ·rw [if_neg (fun h => e (by injection h)),hfv]
   have:decide (x.kind = 11 ∧ x.what = q) = false:=decide_eq_false fun h => e h.2.symm
   rw [this,Bool.or_false]
 ·have hk:¬ x.kind = 11:=hk
  refine ⟨rfl,ext_grownBy h1.ext _,⟨f,hf,fun q => ?_⟩⟩
  rw [voidedBy_snoc,hfv]
  have:decide (x.kind = 11 ∧ x.what = q) = false:=decide_eq_false fun h => hk h.1
  rw [this,Bool.or_false]
set_option maxRecDepth 100000 in
theorem Counting_spec {w:World} {A:Option Addr} {l:List Fact} {c:Nat} (h:HF w A l c) (hl:l.length <= 2 ^ 20) (k:Int) :
  CallsV C.P 267 #[.slice A l.length c,.int .i64 k] w fun v w' => NewF w.heap.size w' v (countL k l) ∧ Ext w w':=by
 refine callsV_of C_ok (args:=[_,_]) (plans:=[]) Tryz.func267 rfl Tryz.ntmps267 (by kernel_rfl) (Nat.le_of_ble_eq_true rfl) ?_
 refine (Known_spec h hl k).mono ?_
 rintro v w1 ⟨hK,e1⟩
 have hkl:=knownL_length k l
 have hsub:=knownL_sub (k:=k) (l:=l)
 have hcount:countL k l = (backL [] (knownL k l).reverse).reverse:=rfl
 rw [hcount]
 clear hcount
 generalize knownL k l = K at *
 obtain ⟨AK,cK,rfl,hrK,_⟩:=hK.slice
 intro gm w2 h2
 have M2:=(Mem.start w1).alloc h2
 intro g6 w3 h3
 have M3:=M2.alloc h3
 refine ⟨rfl,_,_,M3.get 0 rfl,Nat.le_of_ble_eq_true rfl,rfl,?_⟩
 intro w4 h4
 have M4:Mem w1 w4 [(g6,.cells #[.map (some gm)] 203 (0,0)),(gm,.map #[] 0)]:=M3.put 0 rfl h4
 have hgm:=M4.new 1 rfl
 have hg6:=M4.new 0 rfl
 have hne:gm ≠ g6:=by
  have:=M4.nodup
  simp at this
  exact fun e => this e.symm
 refine ⟨[],[.pointer (some ⟨g6,0,none⟩)],rfl,rfl,?_⟩
 refine ⟨(K.length:Int) - 1,fit ⟨by omega,by omega⟩,?_⟩
 refine loopE C_ok (fun (s:Nat × Value × List Fact) => [(5,.slice AK K.length cK),(7,.func (.func 292) #[] #[.pointer (some ⟨g6,0,none⟩)]),(8,s.2.1),(9,.int .i64 ((s.1:Int) - 1))])
  (fun s w' => s.1 <= K.length ∧ Mem w1 w' [(g6,.cells #[.map (some gm)] 203 (0,0))] ∧ VoidIs w' gm s.2.2 ∧ NewF w1.heap.size w' s.2.1 s.2.2 ∧ backL [] K.reverse = backL s.2.2 (K.take s.1).reverse ∧ s.2.2.length + s.1 <= K.length) (fun s => s.1) (K.length,.slice none 0 0,[])
  ⟨rfl,rfl,rfl,rfl,trivial⟩ ⟨Nat.le_refl _,M4.sub (List.Sublist.cons_cons _ (List.nil_sublist _)),⟨_,MapIs.empty (M4.get 1 rfl),fun q => rfl⟩,newF_nil _ _,by rw [List.take_length],by simp⟩ ?_
 rintro ⟨n,v,acc⟩ w5 ⟨hn',M5,hv5',ho',hb',hal'⟩
 have hn:n <= K.length:=hn'
 have ho:NewF w1.heap.size w5 v acc:=ho'
 have hv5:VoidIs w5 gm acc:=hv5'
 have hb:backL [] K.reverse = backL acc (K.take n).reverse:=hb'
 have hal:acc.length + n <= K.length:=hal'
 clear hal' hb' hn' ho' hv5'
 refine brE_dec (fun hge => ?_) (fun hlt => ?_)
 ·have hge:(n:Int) - 1 >= 0:=hge
  obtain ⟨m,rfl⟩:∃ m,n = m + 1:=⟨n - 1,by omega⟩
  have hm:m < K.length:=by omega
  rw [backL_step hm] at hb
  have next:IntKind.i64.wrap ((((m + 1:Nat):Int) - 1) - 1) = (m:Int) - 1:=by rw [fit ⟨by omega,by omega⟩]; omega
  obtain ⟨b2,o2,hA2,hc2⟩:=Reads.fact (hrK.ext M5.ext) hm
  refine ⟨m,b2,o2,by omega,hm,hA2,?_⟩
  refine ⟨K[m].cells,rfl,hc2,?_⟩
  obtain ⟨es,clk,hmap5⟩:=hv5.lt
  refine (Counting1_spec (h.nums _ (hsub _ (List.getElem_mem hm))) (M5.get 0 rfl) hv5).mono ?_
  rintro v6 w6 ⟨rfl,hg56,hv6⟩
  have M6:Mem w1 w6 [(g6,.cells #[.map (some gm)] 203 (0,0))]:=M5.grown hg56 (fun q hq => by cases hq; exact hgm) (fun p hp => by simp at hp; subst hp; exact fun e => hne (by injection e with e; exact e.symm))
  have ho6:NewF w1.heap.size w6 v acc:=ownsRow_grown ho hg56 (fun e => own_ne ho hmap5 (fun c fr e => by cases e) e.symm)
  refine brE_mk (fun hbf => ?_) (fun hbt => ?_)
  ·have hbf:voidedBy acc K[m].id = false:=by simpa using hbf
   rw [hbf,if_neg (by decide)] at hb hv6
   obtain ⟨b3,o3,hA3,hc3⟩:=Reads.fact (hrK.ext M6.ext) hm
   refine ⟨m,b3,o3,by omega,hm,hA3,?_⟩
   refine ⟨K[m].cells,rfl,hc3,?_⟩
   intro g w7 h7
   have M7:=M6.alloc h7
   have ho7:w7.ownsRow w1.heap.size 180 9 v acc.length (fcells acc):=ownsRow_ext ho6 h7.ext
   have hv7:=hv6.ext h7.ext
   obtain ⟨es7,clk7,hmap7⟩:=hv7.lt
   refine ⟨rfl,rfl,rfl,w1.heap.size,_,_,K[m].cells,ho7,M7.ext.size,Nat.le_of_ble_eq_true rfl,rfl,rfl,.inr ⟨g,0,rfl,Rd.of_block h7.here⟩,rfl,rfl,by omega,by simp only [maxLen]; omega,?_⟩
   intro v8 w8 ho8 hg8 _
   have M8:Mem w1 w8 [(g6,.cells #[.map (some gm)] 203 (0,0))]:=M7.tail.grown hg8 (fun q hq => (ho7.lt q hq).1) (fun p hp => by
    simp at hp; subst hp
    exact own_ne ho7 (M7.get 1 rfl) (fun c fr e => by cases e))
   have hv8:VoidIs w8 gm (acc ++ [K[m]]):=by
    obtain ⟨f,hf,hfv⟩:=hv7
    exact ⟨f,hf.same (hg8.block gm (lt_of_heap hmap7) (own_ne ho7 hmap7 (fun c fr e => by cases e))),hfv⟩
   refine ⟨_,next,?_⟩
   refine ⟨(m,v8,acc ++ [K[m]]),⟨rfl,rfl,rfl,rfl,trivial⟩,⟨by show m <= K.length; omega,M8,hv8,?_,hb,by show (acc ++ [K[m]]).length + m <= K.length; simp; omega⟩,by show m < m + 1; omega⟩
   show w8.ownsRow _ _ _ v8 (acc ++ [K[m]]).length (fcells (acc ++ [K[m]]))
   rw [fcells_append,fcells_one,List.length_append]
   exact ho8
  ·have hbt:voidedBy acc K[m].id = true:=by simpa using hbt
   rw [hbt,if_pos rfl] at hb hv6
   refine ⟨_,next,?_⟩
   exact ⟨(m,v,acc),⟨rfl,rfl,rfl,rfl,trivial⟩,⟨by show m <= K.length; omega,M6,hv6,ho6,hb,by show acc.length + m <= K.length; omega⟩,by show m < m + 1; omega⟩
 ·have:n = 0:=by have:¬ (n:Int) - 1 >= 0:=hlt; omega
  subst this
  have hb:backL [] K.reverse = acc:=hb
  rw [hb]
  refine (ReverseF_spec ho (by omega)).mono ?_
  rintro v6 w6 ⟨rfl,ho6,b6⟩
  exact ⟨ho6.base e1.size,e1.trans (Below.trans M5.ext b6)⟩
end Go.Proofs.YtigapannpbaihaaGreat
namespace Go.Proofs.YtigapannpbaihaaGreat
open Go.Eng Go.RowKit
theorem At1_spec {w:World} {x:Fact} {g5:Nat} {day:Int} (hc:w.heap[g5]? = some (.cells #[.int .i64 day] 3 (0,0))) :
  CallsV C.P 268 (#[] ++ [x.val].toArray ++ #[.pointer (some ⟨g5,0,none⟩)]) w fun v w' => v = .bool (decide (x.kind = 11) || !holdsB day x) ∧ Ext w w':=by
 refine callsV_of C_ok (args:=[_,_]) (plans:=[]) Tryz.func268 rfl Tryz.ntmps268 (by kernel_rfl) (Nat.le_of_ble_eq_true rfl) ?_
 intro g2 w1 h1
 have M1:=(Mem.start w).alloc h1
 refine ⟨_,M1.cell 0 rfl rfl,?_⟩
 refine brE_dec (fun hk => ?_) (fun hk => ?_)
 ·have hk:x.kind = 11:=hk
  exact ⟨by rw [decide_eq_true hk]; rfl,M1.ext⟩
 ·have hk:¬ x.kind = 11:=hk
  refine ⟨x.cells,rfl,M1.rd 0 rfl,?_⟩
  refine ⟨_,cell_of_block (h1.ext.heap hc) rfl,?_⟩
  refine (Holds_spec x day w1).mono ?_
  rintro v w2 ⟨rfl,e2⟩
  exact ⟨by rw [decide_eq_false hk]; rfl,M1.ext.trans e2⟩
theorem At_spec {w:World} {A:Option Addr} {l:List Fact} {c:Nat} (h:HF w A l c) (hl:l.length <= 2 ^ 20) (k day:Int) :
  CallsV C.P 229 #[.slice A l.length c,.int .i64 k,.int .i64 day] w fun v w' => NewF w.heap.size w' v (atL k day l) ∧ Ext w w':=by
 refine callsV_of C_ok (args:=[_,_,_]) (plans:=[]) Tryz.func229 rfl Tryz.ntmps229 (by kernel_rfl) (Nat.le_of_ble_eq_true rfl) ?_
 intro g5 w1 h1
 have M1:=(Mem.start w).alloc h1
 refine (Counting_spec (h.ext M1.ext) hl k).mono ?_
 rintro v w2 ⟨ho,e2⟩
 have hcl:=countL_length k l
 refine ⟨[],[.pointer (some ⟨g5,0,none⟩)],rfl,rfl,?_⟩
 have hc2:w2.heap[g5]? = some (.cells #[.int .i64 day] 3 (0,0)):=e2.heap h1.here
 have hlt:g5 < w1.heap.size:=lt_of_heap h1.here
 refine (DeleteFuncF_spec (p:=fun x => decide (x.kind = 11) || !holdsB day x) ho e2.size (by omega) rfl (fun x w' b => At1_spec (by rw [b.block g5 hlt]; exact hc2))).mono ?_
 rintro v' w3 ⟨ho3,b3⟩
 refine ⟨?_,M1.ext.trans (Below.trans e2 b3)⟩
 have e:((countL k l).filter fun x => !(decide (x.kind = 11) || !holdsB day x)) = atL k day l:=by
  unfold atL
  congr 1
  funext x
  rw [Bool.not_or,Bool.not_not]
 rw [<-e]
 exact ho3.base M1.ext.size
end Go.Proofs.YtigapannpbaihaaGreat
namespace Go.Proofs.YtigapannpbaihaaGreat
open Go.Eng Go.RowKit
abbrev BoxI (w:World) (p:Nat) (n:Int):Prop:=w.heap[p]? = some (.cells #[.int .i64 n] 3 (0,0))
theorem BoxI.ext {w w':World} {p:Nat} {n:Int} (h:BoxI w p n) (e:Ext w w'):BoxI w' p n:=e.heap h
theorem named1_spec (x:Fact) {s lang:Int} {p0 p1:Nat} (w:World) (hp0:BoxI w p0 s) (hp1:BoxI w p1 lang) :
  CallsV C.P 236 (#[] ++ [x.val].toArray ++ #[.pointer (some ⟨p0,0,none⟩),.pointer (some ⟨p1,0,none⟩)]) w fun v w' => v = .bool (isNm s lang x) ∧ Ext w w':=by
 refine callsV_of C_ok (args:=[_,_,_]) (plans:=[]) Tryz.func236 rfl Tryz.ntmps236 (by kernel_rfl) (Nat.le_of_ble_eq_true rfl) ?_
 intro g w1 h1
 have M1:=(Mem.start w).alloc h1
 unfold isNm
 refine ⟨_,M1.cell 0 rfl rfl,?_⟩
 refine brE_dec (fun a0 => ?_) (fun a0 => ?_)
 case' refine_2 =>
  have a0:¬ x.kind = 1:=a0
  exact ⟨congrArg Value.bool (decide_eq_false fun h => a0 h.1).symm,M1.ext⟩
 have a0:x.kind = 1:=a0
 refine ⟨_,M1.cell 0 rfl rfl,?_⟩
 refine ⟨_,cell_of_block (h1.ext.heap hp0) rfl,?_⟩
 refine brE_dec (fun a1 => ?_) (fun a1 => ?_)
 case' refine_2 =>
  have a1:¬ x.who = s:=a1
  exact ⟨congrArg Value.bool (decide_eq_false fun h => a1 h.2.1).symm,M1.ext⟩
 have a1:x.who = s:=a1
 refine ⟨_,M1.cell 0 rfl rfl,?_⟩
 refine ⟨_,cell_of_block (h1.ext.heap hp1) rfl,?_⟩
 refine ⟨congrArg Value.bool ?_,M1.ext⟩
 show decide (x.other = lang) = _
 rw [Bool.eq_iff_iff,decide_eq_true_eq,decide_eq_true_eq]
 exact ⟨fun h => ⟨a0,a1,h⟩,fun h => h.2.2⟩
theorem dead1_spec (x:Fact) {n:Int} {p0:Nat} (w:World) (hp0:BoxI w p0 n) :
  CallsV C.P 235 (#[] ++ [x.val].toArray ++ #[.pointer (some ⟨p0,0,none⟩)]) w fun v w' => v = .bool (deathB n x) ∧ Ext w w':=by
 refine callsV_of C_ok (args:=[_,_]) (plans:=[]) Tryz.func235 rfl Tryz.ntmps235 (by kernel_rfl) (Nat.le_of_ble_eq_true rfl) ?_
 intro g w1 h1
 have M1:=(Mem.start w).alloc h1
 unfold deathB
 refine ⟨_,M1.cell 0 rfl rfl,?_⟩
 refine brE_dec (fun a0 => ?_) (fun a0 => ?_)
 case' refine_2 =>
  have a0:¬ x.kind = 10:=a0
  exact ⟨congrArg Value.bool (decide_eq_false fun h => a0 h.1).symm,M1.ext⟩
 have a0:x.kind = 10:=a0
 refine ⟨_,M1.cell 0 rfl rfl,?_⟩
 refine ⟨_,cell_of_block (h1.ext.heap hp0) rfl,?_⟩
 refine ⟨congrArg Value.bool ?_,M1.ext⟩
 show decide (x.who = n) = _
 rw [Bool.eq_iff_iff,decide_eq_true_eq,decide_eq_true_eq]
 exact ⟨fun h => ⟨a0,h⟩,fun h => h.2⟩
theorem Mourns1_spec (x:Fact) {s:Int} {p0:Nat} (w:World) (hp0:BoxI w p0 s) :
  CallsV C.P 196 (#[] ++ [x.val].toArray ++ #[.pointer (some ⟨p0,0,none⟩)]) w fun v w' => v = .bool (mournB s x) ∧ Ext w w':=by
 refine callsV_of C_ok (args:=[_,_]) (plans:=[]) Tryz.func196 rfl Tryz.ntmps196 (by kernel_rfl) (Nat.le_of_ble_eq_true rfl) ?_
 intro g w1 h1
 have M1:=(Mem.start w).alloc h1
 unfold mournB
 refine ⟨_,M1.cell 0 rfl rfl,?_⟩
 refine brE_dec (fun a0 => ?_) (fun a0 => ?_)
 case' refine_2 =>
  have a0:¬ x.kind = 7:=a0
  exact ⟨congrArg Value.bool (decide_eq_false fun h => a0 h.1).symm,M1.ext⟩
 have a0:x.kind = 7:=a0
 refine ⟨_,M1.cell 0 rfl rfl,?_⟩
 refine ⟨_,cell_of_block (h1.ext.heap hp0) rfl,?_⟩
 refine ⟨congrArg Value.bool ?_,M1.ext⟩
 show decide (x.who = s) = _
 rw [Bool.eq_iff_iff,decide_eq_true_eq,decide_eq_true_eq]
 exact ⟨fun h => ⟨a0,h⟩,fun h => h.2⟩
theorem Principal1_spec (x:Fact) {n:Int} {p0:Nat} (w:World) (hp0:BoxI w p0 n) :
  CallsV C.P 194 (#[] ++ [x.val].toArray ++ #[.pointer (some ⟨p0,0,none⟩)]) w fun v w' => v = .bool (deputyB n x) ∧ Ext w w':=by
 refine callsV_of C_ok (args:=[_,_]) (plans:=[]) Tryz.func194 rfl Tryz.ntmps194 (by kernel_rfl) (Nat.le_of_ble_eq_true rfl) ?_
 intro g w1 h1
 have M1:=(Mem.start w).alloc h1
 unfold deputyB
 refine ⟨_,M1.cell 0 rfl rfl,?_⟩
 refine brE_dec (fun a0 => ?_) (fun a0 => ?_)
 case' refine_2 =>
  have a0:¬ x.kind = 9:=a0
  exact ⟨congrArg Value.bool (decide_eq_false fun h => a0 h.1).symm,M1.ext⟩
 have a0:x.kind = 9:=a0
 refine ⟨_,M1.cell 0 rfl rfl,?_⟩
 refine ⟨_,cell_of_block (h1.ext.heap hp0) rfl,?_⟩
 refine ⟨congrArg Value.bool ?_,M1.ext⟩
 show decide (x.who = n) = _
 rw [Bool.eq_iff_iff,decide_eq_true_eq,decide_eq_true_eq]
 exact ⟨fun h => ⟨a0,h⟩,fun h => h.2⟩
theorem Credentials1_spec (x:Fact) {n s:Int} {p0 p1:Nat} (w:World) (hp0:BoxI w p0 n) (hp1:BoxI w p1 s) :
  CallsV C.P 201 (#[] ++ [x.val].toArray ++ #[.pointer (some ⟨p0,0,none⟩),.pointer (some ⟨p1,0,none⟩)]) w fun v w' => v = .bool (credB n s x) ∧ Ext w w':=by
 refine callsV_of C_ok (args:=[_,_,_]) (plans:=[]) Tryz.func201 rfl Tryz.ntmps201 (by kernel_rfl) (Nat.le_of_ble_eq_true rfl) ?_
 intro g w1 h1
 have M1:=(Mem.start w).alloc h1
 unfold credB
 refine ⟨_,M1.cell 0 rfl rfl,?_⟩
 refine brE_dec (fun a0 => ?_) (fun a0 => ?_)
 case' refine_2 =>
  have a0:¬ x.kind = 5:=a0
  exact ⟨congrArg Value.bool (decide_eq_false fun h => a0 h.1).symm,M1.ext⟩
 have a0:x.kind = 5:=a0
 refine ⟨_,M1.cell 0 rfl rfl,?_⟩
 refine ⟨_,cell_of_block (h1.ext.heap hp0) rfl,?_⟩
 refine brE_dec (fun a1 => ?_) (fun a1 => ?_)
 case' refine_2 =>
  have a1:¬ x.who = n:=a1
  exact ⟨congrArg Value.bool (decide_eq_false fun h => a1 h.2.1).symm,M1.ext⟩
 have a1:x.who = n:=a1
 refine ⟨_,M1.cell 0 rfl rfl,?_⟩
 refine ⟨_,cell_of_block (h1.ext.heap hp1) rfl,?_⟩
 refine ⟨congrArg Value.bool ?_,M1.ext⟩
 show decide (x.what = s) = _
 rw [Bool.eq_iff_iff,decide_eq_true_eq,decide_eq_true_eq]
 exact ⟨fun h => ⟨a0,a1,h⟩,fun h => h.2.2⟩
theorem recognised11_spec (x:Fact) {host s n:Int} {p0 p1 p2:Nat} (w:World) (hp0:BoxI w p0 host) (hp1:BoxI w p1 s) (hp2:BoxI w p2 n) :
  CallsV C.P 234 (#[] ++ [x.val].toArray ++ #[.pointer (some ⟨p0,0,none⟩),.pointer (some ⟨p1,0,none⟩),.pointer (some ⟨p2,0,none⟩)]) w fun v w' => v = .bool (recogB host s n x) ∧ Ext w w':=by
 refine callsV_of C_ok (args:=[_,_,_,_]) (plans:=[]) Tryz.func234 rfl Tryz.ntmps234 (by kernel_rfl) (Nat.le_of_ble_eq_true rfl) ?_
 intro g w1 h1
 have M1:=(Mem.start w).alloc h1
 unfold recogB
 refine ⟨_,M1.cell 0 rfl rfl,?_⟩
 refine brE_dec (fun a0 => ?_) (fun a0 => ?_)
 case' refine_2 =>
  have a0:¬ x.kind = 4:=a0
  exact ⟨congrArg Value.bool (decide_eq_false fun h => a0 h.1).symm,M1.ext⟩
 have a0:x.kind = 4:=a0
 refine ⟨_,M1.cell 0 rfl rfl,?_⟩
 refine ⟨_,cell_of_block (h1.ext.heap hp0) rfl,?_⟩
 refine brE_dec (fun a1 => ?_) (fun a1 => ?_)
 case' refine_2 =>
  have a1:¬ x.who = host:=a1
  exact ⟨congrArg Value.bool (decide_eq_false fun h => a1 h.2.1).symm,M1.ext⟩
 have a1:x.who = host:=a1
 refine ⟨_,M1.cell 0 rfl rfl,?_⟩
 refine ⟨_,cell_of_block (h1.ext.heap hp1) rfl,?_⟩
 refine brE_dec (fun a2 => ?_) (fun a2 => ?_)
 case' refine_2 =>
  have a2:¬ x.what = s:=a2
  exact ⟨congrArg Value.bool (decide_eq_false fun h => a2 h.2.2.1).symm,M1.ext⟩
 have a2:x.what = s:=a2
 refine ⟨_,M1.cell 0 rfl rfl,?_⟩
 refine ⟨_,cell_of_block (h1.ext.heap hp2) rfl,?_⟩
 refine ⟨congrArg Value.bool ?_,M1.ext⟩
 show decide (x.other = n) = _
 rw [Bool.eq_iff_iff,decide_eq_true_eq,decide_eq_true_eq]
 exact ⟨fun h => ⟨a0,a1,a2,h⟩,fun h => h.2.2.2⟩
theorem Spouse1_spec (x:Fact) {n:Int} {p0:Nat} (w:World) (hp0:BoxI w p0 n) :
  CallsV C.P 199 (#[] ++ [x.val].toArray ++ #[.pointer (some ⟨p0,0,none⟩)]) w fun v w' => v = .bool (marriedB n x) ∧ Ext w w':=by
 refine callsV_of C_ok (args:=[_,_]) (plans:=[]) Tryz.func199 rfl Tryz.ntmps199 (by kernel_rfl) (Nat.le_of_ble_eq_true rfl) ?_
 intro g w1 h1
 have M1:=(Mem.start w).alloc h1
 unfold marriedB
 refine ⟨_,M1.cell 0 rfl rfl,?_⟩
 refine brE_dec (fun a0 => ?_) (fun a0 => ?_)
 case' refine_2 =>
  have a0:¬ x.kind = 6:=a0
  exact ⟨congrArg Value.bool (decide_eq_false fun h => a0 h.1).symm,M1.ext⟩
 have a0:x.kind = 6:=a0
 refine ⟨_,M1.cell 0 rfl rfl,?_⟩
 refine ⟨_,cell_of_block (h1.ext.heap hp0) rfl,?_⟩
 refine brE_dec (fun a1 => ?_) (fun a1 => ?_)
 ·have a1:x.who = n:=a1
  exact ⟨congrArg Value.bool (decide_eq_true ⟨a0,.inl a1⟩).symm,M1.ext⟩
 have a1:¬ x.who = n:=a1
 refine ⟨_,M1.cell 0 rfl rfl,?_⟩
 refine ⟨_,cell_of_block (h1.ext.heap hp0) rfl,?_⟩
 refine ⟨congrArg Value.bool ?_,M1.ext⟩
 show decide (x.other = n) = _
 rw [Bool.eq_iff_iff,decide_eq_true_eq,decide_eq_true_eq]
 exact ⟨fun h => ⟨a0,.inr h⟩,fun h => h.2.resolve_left a1⟩
abbrev TestV (w:World) (gd:Nat) (cb:Array Value) (p:Fact -> Bool):Prop:=∀ (x:Fact) (w':World),Ext w w' -> CallsV C.P gd (#[] ++ [x.val].toArray ++ cb) w' fun v w'' => v = .bool (p x) ∧ Ext w' w''
set_option maxRecDepth 100000 in
theorem last_spec {w:World} {A:Option Addr} {l:List Fact} {c gd:Nat} {cb:Array Value} {p:Fact -> Bool} (hr:Reads w A (fcells l)) (hl:l.length <= 2 ^ 20) (hgd:C.can gd = true) (hp:TestV w gd cb p) :
  CallsV C.P 193 #[.slice A l.length c,.func (.func gd) #[] cb] w fun v w' => v = .tuple #[((lastP p l).getD factZ).val,.bool (lastP p l).isSome] ∧ Ext w w':=by
 refine callsV_of C_ok (args:=[_,_]) (plans:=[]) Tryz.func193 rfl Tryz.ntmps193 (by kernel_rfl) (Nat.le_of_ble_eq_true rfl) ?_
 intro g4 w1 h1
 have M1:Mem w w1 [(g4,.cells factZ.cells.toArray 180 (0,0))]:=(Mem.start w).alloc h1
 refine ⟨(l.length:Int) - 1,fit ⟨by omega,by omega⟩,?_⟩
 refine loopE C_ok (fun (n:Nat) => [(0,.slice A l.length c),(1,.func (.func gd) #[] cb),(4,.pointer (some ⟨g4,0,none⟩)),(6,.int .i64 ((n:Int) - 1))])
  (fun n w' => n <= l.length ∧ Mem w w' [(g4,.cells factZ.cells.toArray 180 (0,0))] ∧ lastP p l = lastP p (l.take n)) (fun n => n) l.length
  ⟨rfl,rfl,rfl,rfl,trivial⟩ ⟨Nat.le_refl _,M1,by rw [List.take_length]⟩ ?_
 rintro n w2 ⟨hn,M2,hlast⟩
 refine brE_dec (fun hge => ?_) (fun hlt => ?_)
 ·have hge:(n:Int) - 1 >= 0:=hge
  obtain ⟨m,rfl⟩:∃ m,n = m + 1:=⟨n - 1,by omega⟩
  have hm:m < l.length:=by omega
  rw [lastP_take hm] at hlast
  obtain ⟨b,o,hA,hc⟩:=Reads.fact (hr.ext M2.ext) hm
  refine ⟨m,b,o,by omega,hm,hA,?_⟩
  refine ⟨l[m].cells,rfl,hc,?_⟩
  refine brE_true hgd ?_
  refine (hp l[m] w2 M2.ext).mono ?_
  rintro v w3 ⟨rfl,e3⟩
  have M3:=M2.grow e3
  refine brE_mk (fun hb => ?_) (fun hb => ?_)
  ·rw [if_pos hb] at hlast
   obtain ⟨b2,o2,hA2,hc2⟩:=Reads.fact (hr.ext M3.ext) hm
   refine ⟨m,b2,o2,by omega,hm,hA2,?_⟩
   refine ⟨l[m].cells,rfl,hc2,?_⟩
   refine ⟨rfl,_,_,M3.get 0 rfl,Nat.le_of_ble_eq_true rfl,rfl,?_⟩
   intro w4 h4
   have h4:Put w3 g4 (.cells l[m].cells.toArray 180 (0,0)) w4:=h4
   refine ⟨l[m].cells,rfl,Rd.of_block h4.here,?_⟩
   refine ⟨?_,(M3.put 0 rfl h4).ext⟩
   rw [hlast]; rfl
  ·rw [if_neg (by rw [hb]; decide)] at hlast
   refine ⟨((m:Nat):Int) - 1,by rw [fit ⟨by omega,by omega⟩]; omega,?_⟩
   exact ⟨m,⟨rfl,rfl,rfl,rfl,trivial⟩,⟨by omega,M3,hlast⟩,by omega⟩
 ·have:n = 0:=by have:¬ (n:Int) - 1 >= 0:=hlt; omega
  subst this
  have hlast:lastP p l = none:=hlast
  refine ⟨rfl,_,_,M2.get 0 rfl,Nat.le_of_ble_eq_true rfl,rfl,?_⟩
  intro w4 h4
  have h4:Put w2 g4 (.cells factZ.cells.toArray 180 (0,0)) w4:=h4
  refine ⟨factZ.cells,rfl,Rd.of_block h4.here,?_⟩
  refine ⟨?_,(M2.put 0 rfl h4).ext⟩
  rw [hlast]; rfl
theorem IndexFuncV_spec {w:World} {A:Option Addr} {l:List Fact} {c gd:Nat} {cb:Array Value} {p:Fact -> Bool} (hr:Reads w A (fcells l)) (hl:l.length <= 2 ^ 20) (hgd:C.can gd = true) (hp:TestV w gd cb p) :
  CallsV C.P 270 #[.slice A l.length c,.func (.func gd) #[] cb] w fun v w' => (∃ i:Int,v = .int .i64 i ∧ decide (i >= 0) = l.any p) ∧ Ext w w':=by
 refine callsV_of C_ok (args:=[_,_]) (plans:=[]) Tryz.func270 rfl Tryz.ntmps270 (by kernel_rfl) (Nat.le_of_ble_eq_true rfl) ?_
 refine loopE C_ok (fun (i:Nat) => [(0,.slice A l.length c),(1,.func (.func gd) #[] cb),(7,.int .i64 l.length),(8,.int .i64 i)])
  (fun i w' => Ext w w' ∧ i <= l.length ∧ (l.take i).any p = false) (fun i => l.length - i) 0 ⟨rfl,rfl,rfl,rfl,trivial⟩
  ⟨Ext.refl _,Nat.zero_le _,rfl⟩ ?_
 rintro i w1 ⟨e1,hi,hall⟩
 refine brE_dec (fun hlt => ?_) (fun hge => ?_)
 ·have hlt:i < l.length:=by have:(i:Int) < (l.length:Nat):=hlt; omega
  obtain ⟨b,o,hA,hc⟩:=Reads.fact (hr.ext e1) hlt
  refine ⟨i,b,o,rfl,hlt,hA,?_⟩
  refine ⟨l[i].cells,rfl,hc,?_⟩
  refine brE_true hgd ?_
  refine (hp l[i] w1 e1).mono ?_
  rintro v w2 ⟨rfl,e2⟩
  refine brE_mk (fun h2 => ?_) (fun h2 => ?_)
  ·refine ⟨⟨i,rfl,?_⟩,e1.trans e2⟩
   rw [decide_eq_true (by omega),eq_comm,List.any_eq_true]
   exact ⟨_,List.getElem_mem hlt,h2⟩
  ·refine ⟨((i + 1:Nat):Int),fit ⟨by omega,by omega⟩,?_⟩
   refine ⟨i + 1,⟨rfl,rfl,rfl,rfl,trivial⟩,⟨e1.trans e2,hlt,?_⟩,by omega⟩
   rw [List.take_succ_eq_append_getElem hlt,List.any_append,hall]
   simp [h2]
 ·have:i = l.length:=by have:¬ (i:Int) < (l.length:Nat):=hge; omega
  subst this
  rw [List.take_length] at hall
  exact ⟨⟨-1,rfl,by rw [hall]; rfl⟩,e1⟩
theorem some_spec {w:World} {A:Option Addr} {l:List Fact} {c gd:Nat} {cb:Array Value} {p:Fact -> Bool} (hr:Reads w A (fcells l)) (hl:l.length <= 2 ^ 20) (hgd:C.can gd = true) (hp:TestV w gd cb p) :
  CallsV C.P 195 #[.slice A l.length c,.func (.func gd) #[] cb] w fun v w' => v = .bool (l.any p) ∧ Ext w w':=by
 have inner:CallsV C.P 230 #[.slice A l.length c,.func (.func gd) #[] cb] w fun v w' => v = .bool (l.any p) ∧ Ext w w':=by
  refine callsV_of C_ok (args:=[_,_]) (plans:=[]) Tryz.func230 rfl Tryz.ntmps230 (by kernel_rfl) (Nat.le_of_ble_eq_true rfl) ?_
  refine (IndexFuncV_spec hr hl hgd hp).mono ?_
  rintro v w1 ⟨⟨i,rfl,hi⟩,e1⟩
  exact ⟨congrArg Value.bool hi,e1⟩
 refine callsV_of C_ok (args:=[_,_]) (plans:=[]) Tryz.func195 rfl Tryz.ntmps195 (by kernel_rfl) (Nat.le_of_ble_eq_true rfl) ?_
 refine inner.mono ?_
 rintro v w1 ⟨rfl,e1⟩
 exact ⟨rfl,e1⟩
theorem vdead_spec {w:World} {A:Option Addr} {l:List Fact} {c:Nat} (hr:Reads w A (fcells l)) (hl:l.length <= 2 ^ 20) (n:Int) :
  CallsV C.P 200 #[.slice A l.length c,.int .i64 n] w fun v w' => v = .bool (deadB l n) ∧ Ext w w':=by
 refine callsV_of C_ok (args:=[_,_]) (plans:=[]) Tryz.func200 rfl Tryz.ntmps200 (by kernel_rfl) (Nat.le_of_ble_eq_true rfl) ?_
 intro g w1 h1
 refine ⟨[],[.pointer (some ⟨g,0,none⟩)],rfl,rfl,?_⟩
 refine (some_spec (p:=deathB n) (hr.ext h1.ext) hl rfl fun x w' e => dead1_spec x w' (e.heap h1.here)).mono ?_
 rintro v w2 ⟨rfl,e2⟩
 exact ⟨rfl,h1.ext.trans e2⟩
theorem named_spec {w:World} {A:Option Addr} {l:List Fact} {c:Nat} (hr:Reads w A (fcells l)) (hl:l.length <= 2 ^ 20) (s lang:Int) :
  CallsV C.P 203 #[.slice A l.length c,.int .i64 s,.int .i64 lang] w fun v w' => v = .tuple #[((lastP (isNm s lang) l).getD factZ).val,.bool (lastP (isNm s lang) l).isSome] ∧ Ext w w':=by
 refine callsV_of C_ok (args:=[_,_,_]) (plans:=[]) Tryz.func203 rfl Tryz.ntmps203 (by kernel_rfl) (Nat.le_of_ble_eq_true rfl) ?_
 intro g4 w1 h1
 have M1:=(Mem.start w).alloc h1
 intro g5 w2 h2
 have M2:=M1.alloc h2
 intro g6 w3 h3
 have M3:=M2.alloc h3
 refine ⟨[],[.pointer (some ⟨g4,0,none⟩),.pointer (some ⟨g5,0,none⟩)],rfl,rfl,?_⟩
 refine (last_spec (p:=isNm s lang) (hr.ext M3.ext) hl rfl fun x w' e => named1_spec x w' (e.heap (M3.get 2 rfl)) (e.heap (M3.get 1 rfl))).mono ?_
 rintro v w4 ⟨rfl,e4⟩
 have M4:=M3.grow e4
 generalize hx:(lastP (isNm s lang) l).getD factZ = y
 refine ⟨rfl,_,_,M4.get 0 rfl,Nat.le_of_ble_eq_true rfl,rfl,?_⟩
 intro w5 h5
 have h5:Put w4 g6 (.cells y.cells.toArray 180 (0,0)) w5:=h5
 refine ⟨y.cells,rfl,Rd.of_block h5.here,?_⟩
 exact ⟨rfl,(M4.put 0 rfl h5).ext⟩
theorem look_spec {w:World} {A:Option Addr} {l:List Fact} {c:Nat} (h:HF w A l c) (hl:l.length <= 2 ^ 20) (k day:Int) :
  CallsV C.P 192 #[.slice A l.length c,.int .i64 k,.int .i64 day] w fun v w' => NewF w.heap.size w' v (atL k day l) ∧ Ext w w':=by
 refine callsV_of C_ok (args:=[_,_,_]) (plans:=[]) Tryz.func192 rfl Tryz.ntmps192 (by kernel_rfl) (Nat.le_of_ble_eq_true rfl) ?_
 refine (At_spec h hl k day).mono ?_
 rintro v w1 h1
 exact h1
end Go.Proofs.YtigapannpbaihaaGreat
namespace Go.Proofs.YtigapannpbaihaaGreat
open Go.Proofs
def sortI_ren:Go.Shelf.Ren:=⟨fun | 5 => 271 | 8 => 132 | 7 => 295 | 19 => 190 | 20 => 191 | 10 => 301 | 11 => 302 | 12 => 303 | 13 => 304 | 14 => 305 | 15 => 306 | 16 => 307 | 17 => 308 | 18 => 309 | 30 => 312 | 31 => 225 | 32 => 226 | 33 => 313 | 34 => 314 | 35 => 168 | 40 => 315 | n => n,fun | 23 => 31 | 25 => 3 | 3 => 3 | 32 => 263 | 22 => 31 | 0 => 0 | 44 => 313 | 46 => 315 | 4 => 4 | 36 => 307 | 35 => 306 | 41 => 239 | 5 => 5 | 9 => 9 | 53 => 350 | 57 => 342 | 63 => 364 | 64 => 87 | n => n,fun | n => n⟩
theorem sortI:Go.Proofs.SlLaysM.n5 Tryz.prog sortI_ren:={
 mixed:=by kernel_rfl,
 f5:=⟨Tryz.f271.name,by decide,Tryz.func271.trans (congrArg some (by kernel_rfl))⟩,
 f7:=⟨Tryz.f295.name,by decide,Tryz.func295.trans (congrArg some (by kernel_rfl))⟩,
 f8:=Tryz.func132.trans (congrArg some (by kernel_rfl)),
 f10:=⟨Tryz.f301.name,by decide,Tryz.func301.trans (congrArg some (by kernel_rfl))⟩,
 f11:=⟨Tryz.f302.name,by decide,Tryz.func302.trans (congrArg some (by kernel_rfl))⟩,
 f12:=⟨Tryz.f303.name,by decide,Tryz.func303.trans (congrArg some (by kernel_rfl))⟩,
 f13:=⟨Tryz.f304.name,by decide,Tryz.func304.trans (congrArg some (by kernel_rfl))⟩,
 f14:=⟨Tryz.f305.name,by decide,Tryz.func305.trans (congrArg some (by kernel_rfl))⟩,
 f15:=⟨Tryz.f306.name,by decide,Tryz.func306.trans (congrArg some (by kernel_rfl))⟩,
 f16:=⟨Tryz.f307.name,by decide,Tryz.func307.trans (congrArg some (by kernel_rfl))⟩,
 f17:=⟨Tryz.f308.name,by decide,Tryz.func308.trans (congrArg some (by kernel_rfl))⟩,
 f18:=⟨Tryz.f309.name,by decide,Tryz.func309.trans (congrArg some (by kernel_rfl))⟩,
 f19:=Tryz.func190.trans (congrArg some (by kernel_rfl)),
 f20:=Tryz.func191.trans (congrArg some (by kernel_rfl)),
 f30:=⟨Tryz.f312.name,by decide,Tryz.func312.trans (congrArg some (by kernel_rfl))⟩,
 f31:=Tryz.func225.trans (congrArg some (by kernel_rfl)),
 f32:=Tryz.func226.trans (congrArg some (by kernel_rfl)),
 f33:=⟨Tryz.f313.name,by decide,Tryz.func313.trans (congrArg some (by kernel_rfl))⟩,
 f34:=⟨Tryz.f314.name,by decide,Tryz.func314.trans (congrArg some (by kernel_rfl))⟩,
 f35:=⟨Tryz.f168.name,by decide,Tryz.func168.trans (congrArg some (by kernel_rfl))⟩,
 f40:=⟨Tryz.f315.name,by decide,Tryz.func315.trans (congrArg some (by kernel_rfl))⟩,
 t0:=Tryz.underlying0,
 a0:=Tryz.isAgg0,
 z0:=Tryz.sizeOf0,
 v0:=Tryz.zeroValue0,
 t3:=Tryz.underlying3,
 a3:=Tryz.isAgg3,
 z3:=Tryz.sizeOf3,
 v3:=Tryz.zeroValue3,
 t4:=Tryz.underlying4,
 a4:=Tryz.isAgg4,
 z4:=Tryz.sizeOf4,
 v4:=Tryz.zeroValue4,
 t5:=Tryz.underlying5,
 a5:=Tryz.isAgg5,
 z5:=Tryz.sizeOf5,
 v5:=Tryz.zeroValue5,
 t9:=Tryz.underlying9,
 a9:=Tryz.isAgg9,
 z9:=Tryz.sizeOf9,
 v9:=Tryz.zeroValue9,
 t22:=Tryz.underlying31,
 a22:=Tryz.isAgg31,
 z22:=Tryz.sizeOf31,
 v22:=Tryz.zeroValue31,
 t23:=Tryz.underlying31,
 a23:=Tryz.isAgg31,
 z23:=Tryz.sizeOf31,
 v23:=Tryz.zeroValue31,
 t25:=Tryz.underlying3,
 a25:=Tryz.isAgg3,
 z25:=Tryz.sizeOf3,
 v25:=Tryz.zeroValue3,
 t32:=Tryz.underlying263,
 a32:=Tryz.isAgg263,
 z32:=Tryz.sizeOf263,
 v32:=Tryz.zeroValue263,
 t35:=Tryz.underlying306,
 a35:=Tryz.isAgg306,
 z35:=Tryz.sizeOf306,
 v35:=Tryz.zeroValue306,
 t36:=Tryz.underlying307,
 a36:=Tryz.isAgg307,
 z36:=Tryz.sizeOf307,
 v36:=Tryz.zeroValue307,
 t41:=Tryz.underlying239,
 a41:=Tryz.isAgg239,
 z41:=Tryz.sizeOf239,
 v41:=Tryz.zeroValue239,
 t44:=Tryz.underlying313,
 a44:=Tryz.isAgg313,
 z44:=Tryz.sizeOf313,
 v44:=Tryz.zeroValue313,
 t46:=Tryz.underlying315,
 a46:=Tryz.isAgg315,
 z46:=Tryz.sizeOf315,
 v46:=Tryz.zeroValue315,
 t53:=Tryz.underlying350,
 a53:=Tryz.isAgg350,
 z53:=Tryz.sizeOf350,
 v53:=Tryz.zeroValue350,
 t57:=Tryz.underlying342,
 a57:=Tryz.isAgg342,
 z57:=Tryz.sizeOf342,
 v57:=Tryz.zeroValue342,
 t63:=Tryz.underlying364,
 a63:=Tryz.isAgg364,
 z63:=Tryz.sizeOf364,
 v63:=Tryz.zeroValue364,
 t64:=Tryz.underlying87,
 a64:=Tryz.isAgg87,
 z64:=Tryz.sizeOf87,
 v64:=Tryz.zeroValue87 }
end Go.Proofs.YtigapannpbaihaaGreat
namespace Go.Eng
open Go.RowKit Go.Sort
abbrev enc1 (n:Int):List Value:=[.int .i64 n]
theorem ints_flat:∀ (xs:List Int),xs.flatMap enc1 = ints xs
 | [] => rfl
 | x :: r => by rw [List.flatMap_cons,ints_flat r]; rfl
theorem getI_flat (d:Array Int) {j:Nat} (h:j < d.size):(flatK enc1 1 d)[j]! = .int .i64 d[j]!:=by
 rw [get_flatK enc1 1 d j (by omega),Nat.div_one,Nat.mod_one]
 rfl
theorem putRow_one (w:World) (blk off:Nat) (d:Array Int):putRow (Value.int .i64) w blk off d = putRowK enc1 1 w blk off d:=by
 unfold putRowK putRow
 congr 1
 funext c
 apply Array.ext_getElem?
 intro k
 simp only [putCells,Array.getElem?_mapIdx,size_flatK,Nat.mul_one]
 cases c[k]? with
 | none => rfl
 | some y =>
  simp only [Option.map_some]
  by_cases h:off <= k ∧ k < off + d.size
  ·rw [if_pos h,if_pos h,getI_flat d (by omega)]; rfl
  ·rw [if_neg h,if_neg h]
theorem holdsI_one {w:World} {blk off:Nat} {d:Array Int} (h:HoldsK enc1 1 w blk off d):Holds (Value.int .i64) w blk off d:=by
 intro j hj
 have:=h j (by rw [size_flatK]; omega)
 rw [getI_flat d hj] at this
 exact this
end Go.Eng
namespace Go.Proofs.YtigapannpbaihaaGreat
open Go.Eng Go.RowKit Go.Sort
theorem SortI_spec {w:World} {B:Nat} {v:Value} {l:List Int} (h:NewInts B w v l) (hl:l.length <= 2 ^ 40) :
  CallsV C.P 271 #[v] w fun r w' => r = .tuple #[] ∧ (∃ l',NewInts B w' v l' ∧ l'.Perm l ∧ l'.Pairwise (· <= ·)) ∧ w.grownBy w' v.ownBlock:=by
 refine callsV_of_calls fun w₁ hs => ?_
 have h1:w₁.ownsRow B 3 1 v l.length (ints l):=ownsRow_same hs h
 have turn:∀ {w':World} {row:Option Nat},w₁.grownBy w' row -> w.grownBy w' row:=fun hg => ⟨hg.os.trans hs.os,hg.tape.trans hs.tape,hg.output.trans hs.output,by rw [<-hs.heap]; exact hg.size,fun q hq hne => by rw [<-hs.heap] at hq ⊢; exact hg.block q hq hne⟩
 by_cases h0:l = []
 ·subst h0
  obtain ⟨A,c,rfl,_,_⟩:=reads_of_owns h1
  refine (AnyM.slices_Sort_int_none sortI A c w₁).mono ?_
  rintro r w' ⟨rfl,rfl⟩
  exact ⟨_,rfl,⟨rfl,⟨[],h1,List.Perm.refl _,List.Pairwise.nil⟩,turn (grownBy_refl _ _)⟩,Nat.le_refl _⟩
 ·have hpos:0 < l.length:=List.length_pos_iff.2 h0
  have hv:∃ q cap,v = .slice (some ⟨q,0,none⟩) l.length cap:=by
   obtain ⟨_,⟨hv,hn⟩ | ⟨q,cap,cur,hv,_⟩⟩:=h1
   ·omega
   ·exact ⟨q,cap,hv⟩
  obtain ⟨q,cap,rfl⟩:=hv
  rw [<-ints_flat] at h1
  obtain ⟨hH,hlt,hB,hrow⟩:=sort_row (enc:=enc1) (k:=1) (fun _ => rfl) h1
  refine (AnyM.slices_Sort_int sortI q 0 cap l w₁ (holdsI_one hH) hlt (by omega)).mono ?_
  rintro r w' ⟨rfl,n,os,rfl⟩
  have hperm:=List.mergeSort_perm l fun x y => decide (x <= y)
  have hlen:(l.mergeSort fun x y => decide (x <= y)).length = l.length:=hperm.length_eq
  obtain ⟨ho,hg,_⟩:=hrow (l.mergeSort fun x y => decide (x <= y)).toArray n os (by simpa using hlen)
  unfold sortWorldK at ho hg
  rw [<-putRow_one] at ho hg
  refine ⟨_,rfl,⟨rfl,⟨_,?_,hperm,?_⟩,turn hg⟩,?_⟩
  ·show World.ownsRow _ B 3 1 _ (l.mergeSort fun x y => decide (x <= y)).length _
   rw [hlen,<-ints_flat]
   exact ho
  ·refine (List.pairwise_mergeSort (le:=fun x y => decide (x <= y)) (fun a b c h1 h2 => ?_) (fun a b => ?_) l).imp fun h => of_decide_eq_true h
   ·rw [decide_eq_true_eq] at *; omega
   ·rw [Bool.or_eq_true,decide_eq_true_eq,decide_eq_true_eq]; omega
  ·show w₁.drawn <= w₁.drawn + n
   omega
def compF:Int -> List Int -> List Int
 | _,[] => []
 | p,x :: r => if x = p then compF p r else x :: compF x r
def compL:List Int -> List Int
 | [] => []
 | x :: r => x :: compF x r
def lastOr:Int -> List Int -> Int
 | p,[] => p
 | _,x :: r => lastOr x r
theorem compF_snoc:∀ (r:List Int) (p b:Int),compF p (r ++ [b]) = compF p r ++ if b = lastOr p r then [] else [b]
 | [],p,b => by
  show (if b = p then [] else [b]) = _
  rfl
 | x :: r,p,b => by
  rw [List.cons_append,compF,compF,lastOr]
  split
  ·rename_i e; subst e; exact compF_snoc r x b
  ·rw [compF_snoc r x b,List.cons_append]
theorem lastOr_get:∀ (r:List Int) (p:Int),lastOr p r = (p :: r)[r.length]'(by simp)
 | [],p => rfl
 | x :: r,p => by
  rw [lastOr,lastOr_get r x]; rfl
theorem compL_take {l:List Int} {j:Nat} (h1:1 <= j) (hj:j < l.length):compL (l.take (j + 1)) = compL (l.take j) ++ if l[j] = l[j - 1]'(by omega) then [] else [l[j]]:=by
 rw [List.take_succ_eq_append_getElem hj]
 obtain ⟨m,rfl⟩:∃ m,j = m + 1:=⟨j - 1,by omega⟩
 cases l with
 | nil => simp at hj
 | cons x r =>
  have hlen:(r.take m).length = m:=by rw [List.length_take]; simp at hj; omega
  rw [List.take_succ_cons,List.cons_append,compL,compF_snoc,compL,List.cons_append]
  have:lastOr x (r.take m) = (x :: r)[m + 1 - 1]:=by
   rw [lastOr_get]
   have:(x :: r.take m)[(r.take m).length]'(by simp) = (x :: r.take m)[m]'(by simp [hlen]):=by congr 1
   rw [this]
   have e:x :: r.take m = (x :: r).take (m + 1):=by rw [List.take_succ_cons]
   simp only [e,List.getElem_take,Nat.add_sub_cancel]
  rw [this]
theorem compL_short {l:List Int} (h:l.length < 2):compL l = l:=by
 match l,h with
 | [],_ => rfl
 | [x],_ => rfl
theorem compF_sorted:∀ {r:List Int} {p:Int},(p :: r).Pairwise (· <= ·) -> (p :: compF p r).Pairwise (· < ·) ∧ ∀ x,x ∈ p :: compF p r <-> x ∈ p :: r
 | [],p,_ => ⟨by simp [compF],fun x => by simp [compF]⟩
 | y :: r,p,h => by
  obtain ⟨h1,h2⟩:=List.pairwise_cons.1 h
  rw [compF]
  split
  ·rename_i e
   subst e
   obtain ⟨a,b⟩:=compF_sorted h2
   refine ⟨a,fun x => (b x).trans ?_⟩
   simp
  ·rename_i e
   obtain ⟨a,b⟩:=compF_sorted h2
   have hy:=h1 y (by simp)
   refine ⟨List.pairwise_cons.2 ⟨fun x hx => ?_,a⟩,fun x => ?_⟩
   ·have:=(b x).1 hx
    have hyx:y <= x:=by
     rcases List.mem_cons.1 this with rfl | h
     ·exact Int.le_refl _
     ·exact (List.pairwise_cons.1 h2).1 x h
    omega
   ·rw [List.mem_cons,b x,List.mem_cons (a:=x) (b:=p)]
theorem comp_sorted {l l':List Int} (hp:l'.Perm l) (hs:l'.Pairwise (· <= ·)):compL l' = sortD l:=by
 have key:(compL l').Pairwise (· < ·) ∧ ∀ x,x ∈ compL l' <-> x ∈ l':=by
  cases l' with
  | nil => exact ⟨List.Pairwise.nil,fun x => Iff.rfl⟩
  | cons x r => exact compF_sorted hs
 exact sortD_eq key.1 fun x => (key.2 x).trans hp.mem_iff
set_option maxRecDepth 100000 in
theorem Compact_spec {B:Nat} {w:World} {v:Value} {l:List Int} (ho:NewInts B w v l) (hB:B <= w.heap.size) (hl:l.length <= 2 ^ 40) :
  CallsV C.P 272 #[v] w fun v' w' => NewInts B w' v' (compL l) ∧ Below B w w':=by
 obtain ⟨A,cap,rfl,hR,hlc⟩:=ho.slice
 refine callsV_of C_ok (args:=[_]) (plans:=plans272) Tryz.func272 rfl Tryz.ntmps272 (by kernel_rfl) (Nat.le_of_ble_eq_true rfl) ?_
 refine brE_dec (fun h2 => ?_) (fun h2 => ?_)
 ·have h2:(l.length:Int) < 2:=h2
  rw [compL_short (by omega)]
  exact ⟨ho,Below.refl _ _⟩
 have h2:¬ (l.length:Int) < 2:=h2
 have hA:∃ g,A = some ⟨g,0,none⟩:=by
  obtain ⟨_,⟨hv,h0⟩ | ⟨g,cap',cur,hv,_⟩⟩:=ho
  ·omega
  ·simp at hv; exact ⟨g,hv.1⟩
 obtain ⟨g,rfl⟩:=hA
 have ho0:w.ownsRow B 3 1 (.slice (some ⟨g,0,none⟩) l.length cap) l.length (ints l):=ho
 refine loopE C_ok (fun (k:Nat) => [(0,.slice (some ⟨g,0,none⟩) l.length cap),(3,.int .i64 k)])
  (fun k w' => w' = w ∧ 1 <= k ∧ k <= l.length ∧ compL (l.take k) = l.take k) (fun k => l.length - k) 1 ⟨rfl,rfl,trivial⟩ ⟨rfl,Nat.le_refl _,by omega,compL_short (by rw [List.length_take]; omega)⟩ ?_
 rintro k w1 ⟨rfl,hk1,hk,hck⟩
 refine brE_dec (fun hlt => ?_) (fun hge => ?_)
 case' refine_2 =>
  have:k = l.length:=by have:¬ (k:Int) < (l.length:Nat):=hge; omega
  subst this
  rw [List.take_length] at hck
  rw [hck]
  exact ⟨ho,Below.refl _ _⟩
 have hlt:k < l.length:=by have:(k:Int) < (l.length:Nat):=hlt; omega
 have next:IntKind.i64.wrap ((k:Int) + 1) = ((k + 1:Nat):Int):=fit ⟨by omega,by omega⟩
 have hkp:k - 1 < l.length:=by omega
 have hct:=compL_take hk1 hlt
 obtain ⟨b1,o1,hA1,hc1⟩:=Reads.int hR hlt
 obtain ⟨b2,o2,hA2,hc2⟩:=Reads.int hR hkp
 refine ⟨k,b1,o1,rfl,hlt,hA1,?_⟩
 refine ⟨_,by simpa using hc1,?_⟩
 refine ⟨((k - 1:Nat):Int),by rw [fit ⟨by omega,by omega⟩]; omega,?_⟩
 refine ⟨k - 1,b2,o2,rfl,hkp,hA2,?_⟩
 refine ⟨_,by simpa using hc2,?_⟩
 refine brE_dec (fun he => ?_) (fun hn => ?_)
 case' refine_2 =>
  have hn:¬ l[k] = l[k - 1]:=hn
  rw [if_neg hn,hck,<-List.take_succ_eq_append_getElem hlt] at hct
  refine ⟨_,next,?_⟩
  exact ⟨k + 1,⟨rfl,rfl,trivial⟩,⟨rfl,by omega,hlt,hct⟩,by omega⟩
 have he:l[k] = l[k - 1]:=he
 rw [if_pos he,hck,List.append_nil] at hct
 refine ⟨k,l.length,rfl,rfl,by omega,by omega,?_⟩
 have hA2:(if cap = k then (some (⟨g,0,none⟩:Addr)) else (some (⟨g,0,none⟩:Addr)).map (·.add (k * 1))) = some ⟨g,k,none⟩:=by
  rw [if_neg (by omega)]
  simp [add_spot]
 refine loopE C_ok (fun (s:Nat × Nat × List Int) => [(0,.slice (some ⟨g,0,none⟩) l.length cap),(3,.int .i64 s.2.1),(4,.slice (if cap = k then (some (⟨g,0,none⟩:Addr)) else (some (⟨g,0,none⟩:Addr)).map (·.add (k * 1))) (l.length - k) (cap - k)),(5,.int .i64 s.1)])
  (fun s w' => 1 <= s.1 ∧ k + s.1 <= l.length ∧ s.2.1 = (compL (l.take (k + s.1))).length ∧ 1 <= s.2.1 ∧ s.2.1 < k + s.1 ∧ s.2.2.length = l.length ∧ w'.ownsRow B 3 1 (.slice (some ⟨g,0,none⟩) l.length cap) l.length (ints s.2.2) ∧ s.2.2.take s.2.1 = compL (l.take (k + s.1)) ∧ (∀ j,k + s.1 <= j + 1 -> s.2.2[j]? = l[j]?) ∧ Below B w1 w')
  (fun s => l.length - s.1) (1,k,l) ⟨rfl,rfl,rfl,rfl,trivial⟩
  ⟨Nat.le_refl _,hlt,by rw [hct,List.length_take]; show k = _; omega,hk1,Nat.lt_succ_self _,rfl,ho0,hct.symm,fun _ _ => rfl,Below.refl _ _⟩ ?_
 rintro ⟨j,i,R⟩ w2 ⟨hj1',hj',hi',hi1',hij',hRl',ho2',htake',hrest',b2⟩
 have hj1:1 <= j:=hj1'
 have hj:k + j <= l.length:=hj'
 have hi:i = (compL (l.take (k + j))).length:=hi'
 have hi1:1 <= i:=hi1'
 have hij:i < k + j:=hij'
 have hRl:R.length = l.length:=hRl'
 have ho2:w2.ownsRow B 3 1 (.slice (some ⟨g,0,none⟩) l.length cap) l.length (ints R):=ho2'
 have htake:R.take i = compL (l.take (k + j)):=htake'
 have hrest:∀ q,k + j <= q + 1 -> R[q]? = l[q]?:=hrest'
 clear hj1' hj' hi' hi1' hij' hRl' ho2' htake' hrest'
 have at_:∀ {q:Nat} (hq:q < l.length),k + j <= q + 1 -> ∀ o,o + 0 = q -> w2.cell? ⟨g,o,none⟩ = some (.int .i64 l[q]):=fun {q} hq h o ho => by
  have hreads:Reads w2 (some ⟨g,0,none⟩) (ints R):=by
   obtain ⟨A',c',e,h,_⟩:=reads_of_owns ho2
   cases e; exact h
  obtain ⟨b3,o3,hA3,hc3⟩:=Reads.int hreads (i:=q) (by omega)
  cases hA3
  have e:=hrest q h
  rw [List.getElem?_eq_getElem hq,List.getElem?_eq_getElem (by omega)] at e
  rw [Option.some.inj e] at hc3
  rw [show o = 0 + q by omega]; exact hc3
 refine brE_dec (fun hlt2 => ?_) (fun hge2 => ?_)
 ·have hlt2:k + j < l.length:=by have:(j:Int) < ((l.length - k:Nat):Int):=hlt2; omega
  have next2:IntKind.i64.wrap ((j:Int) + 1) = ((j + 1:Nat):Int):=fit ⟨by omega,by omega⟩
  have hc:=compL_take (l:=l) (j:=k + j) (by omega) hlt2
  have hp:k + j - 1 < l.length:=by omega
  refine ⟨j,g,k,rfl,(by omega:j < l.length - k),hA2,?_⟩
  refine ⟨_,at_ hlt2 (by omega) _ (by simp),?_⟩
  refine ⟨((j - 1:Nat):Int),by rw [fit ⟨by omega,by omega⟩]; omega,?_⟩
  refine ⟨j - 1,g,k,rfl,(by omega:j - 1 < l.length - k),hA2,?_⟩
  refine ⟨_,at_ hp (by omega) _ (by simp; omega),?_⟩
  refine brE_ndec (fun hn => ?_) (fun he2 => ?_)
  ·have hn:¬ l[k + j] = l[k + j - 1]:=hn
   rw [if_neg hn] at hc
   refine ⟨j,g,k,rfl,(by omega:j < l.length - k),hA2,?_⟩
   refine ⟨_,at_ hlt2 (by omega) _ (by simp),?_⟩
   obtain ⟨cur,hg,hgB,hcl,hccap,hncap,hdl,hct2,hput⟩:=ownsRow_open ho2
   refine ⟨i,g,0,rfl,(by omega:i < l.length),rfl,?_⟩
   refine ⟨rfl,_,_,hg,by show 0 + i * 1 + 1 <= cur.length; omega,rfl,?_⟩
   intro w6 h6
   have h6:Put w2 g (.cells (splice cur (0 + i * 1) (enc1 l[k + j])).toArray 3 (0,0)) w6:=h6
   have ho6:=hput (0 + i * 1) (enc1 l[k + j]) w6 (by show 0 + i * 1 + 1 <= _; omega) h6
   have hset:splice (ints R) (i * 1) (enc1 l[k + j]) = ints (R.set i l[k + j]):=by
    rw [<-ints_flat,<-ints_flat]
    exact flat_set (enc:=enc1) (k:=1) (fun _ => rfl) (by omega) _
   rw [show 0 + i * 1 = i * 1 by omega,hset] at ho6
   have nexti:IntKind.i64.wrap ((i:Int) + 1) = ((i + 1:Nat):Int):=fit ⟨by omega,by omega⟩
   refine ⟨_,nexti,?_⟩
   refine ⟨_,next2,?_⟩
   refine ⟨(j + 1,i + 1,R.set i l[k + j]),⟨rfl,rfl,rfl,rfl,trivial⟩,⟨by show 1 <= j + 1; omega,hlt2,?_,by show 1 <= i + 1; omega,by show i + 1 < k + (j + 1); omega,by show (R.set i l[k + j]).length = _; rw [List.length_set,hRl],ho6,?_,?_,below_put b2 h6 hgB⟩,by show l.length - (j + 1) < l.length - j; omega⟩
   ·show i + 1 = (compL (l.take (k + j + 1))).length
    rw [hc,List.length_append,<-hi]; rfl
   ·show (R.set i l[k + j]).take (i + 1) = compL (l.take (k + j + 1))
    have hil:i < (R.set i l[k + j]).length:=by rw [List.length_set]; omega
    rw [hc,List.take_succ_eq_append_getElem hil,List.take_set_of_le (Nat.le_refl _),htake]
    congr 1
    simp
   ·intro q hq
    show (R.set i l[k + j])[q]? = l[q]?
    have hq:k + (j + 1) <= q + 1:=hq
    rw [List.getElem?_set_ne (by omega)]
    exact hrest q (by omega)
  ·have he2:l[k + j] = l[k + j - 1]:=he2
   rw [if_pos he2,List.append_nil] at hc
   refine ⟨_,next2,?_⟩
   exact ⟨(j + 1,i,R),⟨rfl,rfl,rfl,rfl,trivial⟩,⟨by show 1 <= j + 1; omega,hlt2,by show i = (compL (l.take (k + j + 1))).length; rw [hc]; exact hi,hi1,by show i < k + (j + 1); omega,hRl,ho2,by show R.take i = compL (l.take (k + j + 1)); rw [hc]; exact htake,fun q hq => hrest q (by have:k + (j + 1) <= q + 1:=hq; omega),b2⟩,by show l.length - (j + 1) < l.length - j; omega⟩
 ·have hkj:k + j = l.length:=by have:¬ (j:Int) < ((l.length - k:Nat):Int):=hge2; omega
  rw [hkj,List.take_length] at hi htake
  obtain ⟨cur,hg,hgB,hcl,hccap,hncap,hdl,hct2,hput⟩:=ownsRow_open ho2
  refine ⟨i,l.length,rfl,rfl,by omega,by omega,?_⟩
  have hA3:(if cap = i then (some (⟨g,0,none⟩:Addr)) else (some (⟨g,0,none⟩:Addr)).map (·.add (i * 1))) = some ⟨g,0 + i * 1,none⟩:=by
   rw [if_neg (by omega)]
   simp [add_spot]
  refine clearRow (esz:=1) C_ok rfl rfl rfl rfl rfl rfl rfl (by decide) hA3 (by omega) hg (by omega) ?_
  intro zs w3 hzs h3
  have ho3:=hput (0 + i * 1) zs w3 (by rw [hzs]; omega) h3
  refine ⟨0,i,rfl,rfl,Nat.zero_le _,by omega,?_⟩
  have e:(if cap = 0 then (some ⟨g,0,none⟩:Option Addr) else (some (⟨g,0,none⟩:Addr)).map (·.add (0 * 1))) = some ⟨g,0,none⟩:=by
   split <;> rfl
  have hcut:=ownsRow_cut ho3 (k:=i) (by omega)
  have hft:(ints R).take (i * 1) = ints (R.take i):=by rw [Nat.mul_one,ints,ints,List.map_take]
  rw [show 0 + i * 1 = i * 1 by omega,splice_take_at (by rw [ints_length]; omega),hft,htake] at hcut
  refine ⟨?_,below_put b2 h3 hgB⟩
  show w3.ownsRow B 3 1 (.slice (if cap = 0 then (some ⟨g,0,none⟩:Option Addr) else (some (⟨g,0,none⟩:Addr)).map (·.add (0 * 1))) i cap) (compL l).length _
  rw [e,<-hi]
  exact hcut
theorem sorted_spec {B:Nat} {w:World} {v:Value} {l:List Int} (ho:NewInts B w v l) (hB:B <= w.heap.size) (hl:l.length <= 2 ^ 40) :
  CallsV C.P 231 #[v] w fun v' w' => NewInts B w' v' (sortD l) ∧ Below B w w':=by
 refine callsV_of C_ok (args:=[_]) (plans:=[]) Tryz.func231 rfl Tryz.ntmps231 (by kernel_rfl) (Nat.le_of_ble_eq_true rfl) ?_
 refine (SortI_spec ho hl).mono ?_
 rintro r w1 ⟨rfl,⟨l',ho1,hp,hs⟩,hg⟩
 have b1:Below B w w1:=below_app (Below.refl _ _) ho hg hB
 refine (Compact_spec ho1 (Nat.le_trans hB b1.size) (by rw [hp.length_eq]; exact hl)).mono ?_
 rintro v' w2 ⟨ho2,b2⟩
 rw [comp_sorted hp hs] at ho2
 exact ⟨ho2,b1.trans b2⟩
end Go.Proofs.YtigapannpbaihaaGreat
