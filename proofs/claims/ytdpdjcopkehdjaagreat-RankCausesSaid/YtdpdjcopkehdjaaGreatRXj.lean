/- a part of the proof: steps, walks and plain laws that the law below stands on; no condition. -/
import Derived.Test.YtdpdjcopkehdjaaGreatRXa
import Derived.Test.YtdpdjcopkehdjaaGreatRXb
import Derived.Test.YtdpdjcopkehdjaaGreatRXc
import Derived.Test.YtdpdjcopkehdjaaGreatRXd
import Derived.Test.YtdpdjcopkehdjaaGreatRXe
import Derived.Test.YtdpdjcopkehdjaaGreatRXf
import Derived.Test.YtdpdjcopkehdjaaGreatRXg
import Derived.Test.YtdpdjcopkehdjaaGreatRXh
import Derived.Test.YtdpdjcopkehdjaaGreatRXi
import Derived.Maps.RangeRun
set_option linter.unusedVariables false
set_option linter.unusedSimpArgs false
set_option linter.unnecessarySimpa false
set_option linter.unusedSectionVars false
namespace Go.Proofs.YtdpdjcopkehdjaaGreat.Rk
open Go.Eng Go.RowKit
def joinZ (n:Int):Bool:=decide ((97 <= n ∧ n <= 122) ∨ (48 <= n ∧ n <= 57) ∨ n = 45)
theorem joinT {n:Int} (h:(97 <= n ∧ n <= 122) ∨ (48 <= n ∧ n <= 57) ∨ n = 45):true = joinZ n:=(decide_eq_true h).symm
theorem joinD {n:Int} (h:¬ ((97 <= n ∧ n <= 122) ∨ (48 <= n ∧ n <= 57))):decide (n = 45) = joinZ n:=decide_eq_decide.2 (by omega)
theorem joinZ_iff {n:Int}:joinZ n = true <-> ((97 <= n ∧ n <= 122) ∨ (48 <= n ∧ n <= 57) ∨ n = 45):=decide_eq_true_iff
def wordB (s:ByteArray):Bool:=decide ((1 <= s.size ∧ s.size <= 24) ∧ (∀ b,s[0]? = some b -> 97 <= b.toNat ∧ b.toNat <= 122) ∧ ∀ i (h:i < s.size),joinZ (s[i].toNat:Nat) = true)
theorem wordB_no {s:ByteArray} (h:¬ ((1 <= s.size ∧ s.size <= 24) ∧ (∀ b,s[0]? = some b -> 97 <= b.toNat ∧ b.toNat <= 122) ∧ ∀ i (h:i < s.size),joinZ (s[i].toNat:Nat) = true)):false = wordB s:=(decide_eq_false h).symm
theorem ba_at {s:ByteArray} {i:Nat} (h:i < s.size):s[i]? = some s[i]:=getElem?_pos s i h
theorem joins_spec (n:Int) (w:World):CallsV C.P 197 #[.int .i32 n] w fun v w' => v = .bool (joinZ n) ∧ w' = w:=by
 refine callsV_of C_ok (args:=[_]) (plans:=[]) Tryz.func197 rfl Tryz.ntmps197 (by kernel_rfl) (Nat.le_of_ble_eq_true rfl) ?_
 refine brE_dec (fun a => ?_) (fun a => ?_)
 ·have a:n >= 97:=a
  refine brE_dec (fun b => ?_) (fun b => ?_)
  ·have b:n <= 122:=b
   exact ⟨congrArg Value.bool (joinT (by omega)),rfl⟩
  ·have b:¬ n <= 122:=b
   refine brE_dec (fun c => ?_) (fun c => ?_)
   ·have c:n >= 48:=c
    refine brE_dec (fun d => ?_) (fun d => ?_)
    ·have d:n <= 57:=d
     exact ⟨congrArg Value.bool (joinT (by omega)),rfl⟩
    ·have d:¬ n <= 57:=d
     exact ⟨congrArg Value.bool (joinD (by omega)),rfl⟩
   ·have c:¬ n >= 48:=c
    exact ⟨congrArg Value.bool (joinD (by omega)),rfl⟩
 ·have a:¬ n >= 97:=a
  refine brE_dec (fun c => ?_) (fun c => ?_)
  ·have c:n >= 48:=c
   refine brE_dec (fun d => ?_) (fun d => ?_)
   ·have d:n <= 57:=d
    exact ⟨congrArg Value.bool (joinT (by omega)),rfl⟩
   ·have d:¬ n <= 57:=d
    exact ⟨congrArg Value.bool (joinD (by omega)),rfl⟩
  ·have c:¬ n >= 48:=c
   exact ⟨congrArg Value.bool (joinD (by omega)),rfl⟩
theorem refJoins_spec (n:Int) (w:World):CallsV C.P 173 #[.int .u8 n] w fun v w' => v = .bool (joinZ n) ∧ w' = w:=by
 refine callsV_of C_ok (args:=[_]) (plans:=[]) Tryz.func173 rfl Tryz.ntmps173 (by kernel_rfl) (Nat.le_of_ble_eq_true rfl) ?_
 refine brE_dec (fun a => ?_) (fun a => ?_)
 ·have a:n >= 97:=a
  refine brE_dec (fun b => ?_) (fun b => ?_)
  ·have b:n <= 122:=b
   exact ⟨congrArg Value.bool (joinT (by omega)),rfl⟩
  ·have b:¬ n <= 122:=b
   refine brE_dec (fun c => ?_) (fun c => ?_)
   ·have c:n >= 48:=c
    refine brE_dec (fun d => ?_) (fun d => ?_)
    ·have d:n <= 57:=d
     exact ⟨congrArg Value.bool (joinT (by omega)),rfl⟩
    ·have d:¬ n <= 57:=d
     exact ⟨congrArg Value.bool (joinD (by omega)),rfl⟩
   ·have c:¬ n >= 48:=c
    exact ⟨congrArg Value.bool (joinD (by omega)),rfl⟩
 ·have a:¬ n >= 97:=a
  refine brE_dec (fun c => ?_) (fun c => ?_)
  ·have c:n >= 48:=c
   refine brE_dec (fun d => ?_) (fun d => ?_)
   ·have d:n <= 57:=d
    exact ⟨congrArg Value.bool (joinT (by omega)),rfl⟩
   ·have d:¬ n <= 57:=d
    exact ⟨congrArg Value.bool (joinD (by omega)),rfl⟩
  ·have c:¬ n >= 48:=c
   exact ⟨congrArg Value.bool (joinD (by omega)),rfl⟩
theorem isWord1_spec (n:Int) (w:World):CallsV C.P 196 #[.int .i32 n] w fun v w' => v = .bool (!joinZ n) ∧ w' = w:=by
 refine callsV_of C_ok (args:=[_]) (plans:=[]) Tryz.func196 rfl Tryz.ntmps196 (by kernel_rfl) (Nat.le_of_ble_eq_true rfl) ?_
 refine (joins_spec n w).mono ?_
 rintro v w' ⟨rfl,rfl⟩
 exact ⟨rfl,rfl⟩
set_option maxRecDepth 100000 in
theorem indexW_spec (s:ByteArray) (w:World) :
  CallsV C.P 294 #[.string s,.func (.func 196) #[] #[],.bool true] w fun v w' => (∃ z:Int,v = .int .i64 z ∧ (z >= 0 <-> ¬ ∀ i (h:i < s.size),joinZ (s[i].toNat:Nat) = true)) ∧ Ext w w':=by
 refine callsV_of C_ok (args:=[_,_,_]) (plans:=[]) Tryz.func294 rfl Tryz.ntmps294 (by kernel_rfl) (Nat.le_of_ble_eq_true rfl) ?_
 refine strRange under9 rfl rfl ?_
 intro r w1 h1
 have M1:=(Mem.start w).alloc h1
 refine loopE C_ok (fun (_:Nat) => [(0,.string s),(1,.func (.func 196) #[] #[]),(2,.bool true),(10,.pointer (some ⟨r,0,none⟩))])
  (fun pos w' => Mem w w' [(r,.stringIter s pos)] ∧ pos <= s.size ∧ ∀ i (h:i < s.size),i < pos -> joinZ (s[i].toNat:Nat) = true) (fun pos => s.size - pos) 0 ⟨rfl,rfl,rfl,rfl,trivial⟩ ⟨M1,Nat.zero_le _,fun _ _ h => absurd h (Nat.not_lt_zero _)⟩ ?_
 rintro pos w2 ⟨M,hp,hall⟩
 refine strNext (M.get 0 rfl) rfl rfl (fun hge => ?_) (fun hlt w3 h3 => ?_)
 ·exact ⟨⟨-1,rfl,⟨fun h => absurd h (by decide),fun h => absurd (fun i hi => hall i hi (by omega)) h⟩⟩,M.ext⟩
 ·have M3:=M.put 0 rfl h3
  refine (isWord1_spec _ w3).mono ?_
  rintro v w4 ⟨rfl,rfl⟩
  refine ⟨_,eqBool _ _ _ _,?_⟩
  refine brE_mk (fun hb => ?_) (fun hb => ?_)
  ·have hj:joinZ ((Utf8.decode s pos).1:Nat) = false:=by simpa using hb
   refine ⟨⟨(pos:Nat),rfl,⟨fun _ hh => ?_,fun _ => Int.natCast_nonneg _⟩⟩,M3.ext⟩
   have hb:=hh pos hlt
   have hlow:(s[pos].toNat) < 128:=by have:=joinZ_iff.1 hb; omega
   rw [decode_ascii s pos hlt hlow] at hj
   rw [hb] at hj
   cases hj
  ·have hj:joinZ ((Utf8.decode s pos).1:Nat) = true:=by simpa using hb
   have hlow:(Utf8.decode s pos).1 < 128:=by have:=joinZ_iff.1 hj; omega
   have hd:=decode_low hlt hlow
   rw [hd] at M3 hj
   refine ⟨pos + 1,⟨rfl,rfl,rfl,rfl,trivial⟩,⟨M3,hlt,fun i hi hip => ?_⟩,by show s.size - (pos + 1) < s.size - pos; omega⟩
   by_cases he:i = pos
   ·subst he; exact hj
   ·exact hall i hi (by omega)
set_option maxRecDepth 100000 in
theorem isWord_spec (s:ByteArray) (w:World) (hs:s.size <= 9223372036854775807):CallsV C.P 130 #[.string s] w fun v w' => v = .bool (wordB s) ∧ Ext w w':=by
 refine callsV_of C_ok (args:=[_]) (plans:=[]) Tryz.func130 rfl Tryz.ntmps130 (by kernel_rfl) (Nat.le_of_ble_eq_true rfl) ?_
 refine ⟨_,eqStr _ _ _ _,?_⟩
 refine brE_dec (fun c1 => ?_) (fun c1 => ?_)
 ·have c1:s = ⟨#[]⟩:=c1
  exact ⟨congrArg Value.bool (wordB_no fun h => by have h1:=h.1.1; rw [c1] at h1; exact absurd h1 (by decide)),Ext.refl _⟩
 have c1:¬ s = ⟨#[]⟩:=c1
 have h0:0 < s.size:=by
  rcases Nat.eq_zero_or_pos s.size with h | h
  ·exact absurd (by cases s with | mk d => congr 1; exact Array.eq_empty_of_size_eq_zero h) c1
  ·exact h
 refine brE_dec (fun c2 => ?_) (fun c2 => ?_)
 ·have c2:((s.size:Nat):Int) > 24:=c2
  exact ⟨congrArg Value.bool (wordB_no fun h => by have h1:=h.1.2; omega),Ext.refl _⟩
 have c2:¬ ((s.size:Nat):Int) > 24:=c2
 refine ⟨0,s[0],rfl,ba_at h0,?_⟩
 refine brE_dec (fun c3 => ?_) (fun c3 => ?_)
 ·have c3:((s[0].toNat:Nat):Int) < 97:=c3
  exact ⟨congrArg Value.bool (wordB_no fun h => by have h1:=h.2.1 _ (ba_at h0); omega),Ext.refl _⟩
 have c3:¬ ((s[0].toNat:Nat):Int) < 97:=c3
 refine ⟨0,s[0],rfl,ba_at h0,?_⟩
 refine brE_dec (fun c4 => ?_) (fun c4 => ?_)
 ·have c4:((s[0].toNat:Nat):Int) > 122:=c4
  exact ⟨congrArg Value.bool (wordB_no fun h => by have h1:=h.2.1 _ (ba_at h0); omega),Ext.refl _⟩
 have c4:¬ ((s[0].toNat:Nat):Int) > 122:=c4
 have hC:CallsV C.P 195 #[.string s,.func (.func 196) #[] #[]] w fun v w' => v = .bool (!wordB s) ∧ Ext w w':=by
  refine callsV_of C_ok (args:=[_,_]) (plans:=[]) Tryz.func195 rfl Tryz.ntmps195 (by kernel_rfl) (Nat.le_of_ble_eq_true rfl) ?_
  have hI:CallsV C.P 253 #[.string s,.func (.func 196) #[] #[]] w fun v w' => (∃ z:Int,v = .int .i64 z ∧ (z >= 0 <-> ¬ ∀ i (h:i < s.size),joinZ (s[i].toNat:Nat) = true)) ∧ Ext w w':=by
   refine callsV_of C_ok (args:=[_,_]) (plans:=[]) Tryz.func253 rfl Tryz.ntmps253 (by kernel_rfl) (Nat.le_of_ble_eq_true rfl) ?_
   exact (indexW_spec s w).mono fun v w' h => h
  refine hI.mono ?_
  rintro v w' ⟨⟨z,rfl,hz⟩,e⟩
  refine ⟨congrArg Value.bool ?_,e⟩
  by_cases hall:∀ i (h:i < s.size),joinZ (s[i].toNat:Nat) = true
  ·have h1:wordB s = true:=decide_eq_true ⟨⟨h0,by omega⟩,fun b hb => by rw [ba_at h0] at hb; cases hb; omega,hall⟩
   rw [h1]
   exact decide_eq_false fun h => hz.1 h hall
  ·have h1:wordB s = false:=decide_eq_false fun h => hall h.2.2
   rw [h1]
   exact decide_eq_true (hz.2 hall)
 refine hC.mono ?_
 rintro v w' ⟨rfl,e⟩
 exact ⟨congrArg Value.bool (Bool.not_not _),e⟩
set_option maxRecDepth 100000 in
theorem refIsWord_spec (s:ByteArray) (w:World) (hs:s.size <= 9223372036854775807):CallsV C.P 105 #[.string s] w fun v w' => v = .bool (wordB s) ∧ w' = w:=by
 refine callsV_of C_ok (args:=[_]) (plans:=[]) Tryz.func105 rfl Tryz.ntmps105 (by kernel_rfl) (Nat.le_of_ble_eq_true rfl) ?_
 refine brE_dec (fun c1 => ?_) (fun c1 => ?_)
 ·have c1:((s.size:Nat):Int) < 1:=c1
  exact ⟨congrArg Value.bool (wordB_no fun h => by have h1:=h.1.1; omega),rfl⟩
 have c1:¬ ((s.size:Nat):Int) < 1:=c1
 have h0:0 < s.size:=by omega
 refine brE_dec (fun c2 => ?_) (fun c2 => ?_)
 ·have c2:((s.size:Nat):Int) > 24:=c2
  exact ⟨congrArg Value.bool (wordB_no fun h => by have h1:=h.1.2; omega),rfl⟩
 have c2:¬ ((s.size:Nat):Int) > 24:=c2
 refine ⟨0,s[0],rfl,ba_at h0,?_⟩
 refine brE_dec (fun c3 => ?_) (fun c3 => ?_)
 ·have c3:((s[0].toNat:Nat):Int) < 97:=c3
  exact ⟨congrArg Value.bool (wordB_no fun h => by have h1:=h.2.1 _ (ba_at h0); omega),rfl⟩
 have c3:¬ ((s[0].toNat:Nat):Int) < 97:=c3
 refine ⟨0,s[0],rfl,ba_at h0,?_⟩
 refine brE_dec (fun c4 => ?_) (fun c4 => ?_)
 ·have c4:((s[0].toNat:Nat):Int) > 122:=c4
  exact ⟨congrArg Value.bool (wordB_no fun h => by have h1:=h.2.1 _ (ba_at h0); omega),rfl⟩
 have c4:¬ ((s[0].toNat:Nat):Int) > 122:=c4
 refine loopE C_ok (fun (i:Nat) => [(0,.string s),(3,.int .i64 (i:Nat))]) (fun i w' => i <= s.size ∧ (∀ k (h:k < s.size),k < i -> joinZ (s[k].toNat:Nat) = true) ∧ w' = w) (fun i => s.size - i) 0 ⟨rfl,rfl,trivial⟩ ⟨Nat.zero_le _,fun _ _ h => absurd h (Nat.not_lt_zero _),rfl⟩ ?_
 rintro i w1 ⟨hi,hall,rfl⟩
 refine brE_dec (fun hlt => ?_) (fun hge => ?_)
 ·have hlt:i < s.size:=by have:(i:Int) < (s.size:Nat):=hlt; omega
  refine ⟨i,s[i],rfl,ba_at hlt,?_⟩
  refine (refJoins_spec _ w1).mono ?_
  rintro v w2 ⟨rfl,rfl⟩
  refine brE_mk (fun b => ?_) (fun b => ?_)
  ·have b:joinZ (s[i].toNat:Nat) = false:=by simpa using b
   exact ⟨congrArg Value.bool (wordB_no fun h => by rw [h.2.2 i hlt] at b; cases b),rfl⟩
  ·have b:joinZ (s[i].toNat:Nat) = true:=by simpa using b
   refine ⟨((i + 1:Nat):Int),fit ⟨by omega,by omega⟩,?_⟩
   refine ⟨i + 1,⟨rfl,rfl,trivial⟩,⟨hlt,fun k hk hki => ?_,rfl⟩,by show s.size - (i + 1) < s.size - i; omega⟩
   by_cases he:k = i
   ·subst he; exact b
   ·exact hall k hk (by omega)
 ·have hall':∀ k (h:k < s.size),joinZ (s[k].toNat:Nat) = true:=fun k hk => hall k hk (by have:¬ (i:Int) < (s.size:Nat):=hge; omega)
  refine ⟨congrArg Value.bool (Eq.symm (decide_eq_true ⟨⟨h0,by omega⟩,fun b hb => ?_,hall'⟩)),rfl⟩
  rw [ba_at h0] at hb
  cases hb
  omega
end Go.Proofs.YtdpdjcopkehdjaaGreat.Rk
namespace Go.Proofs.YtdpdjcopkehdjaaGreat.Rk
open Go.Eng Go.RowKit
structure Rl where
 name:ByteArray
 rank:Int
 weight:Int
 test:Tst
instance:Inhabited Rl:=⟨⟨⟨#[]⟩,0,0,default⟩⟩
def Rl.cells (x:Rl):List Value:=.string x.name :: .int .i64 x.rank :: .int .i64 x.weight :: x.test.cells
def Rl.val (x:Rl):Value:=.agg x.cells.toArray
theorem Rl.len (x:Rl):x.cells.length = 8:=rfl
structure RuleIs (w:World) (x:Rl):Prop where
 name:x.name.size <= 9223372036854775807
 rank:In64 x.rank
 weight:In64 x.weight
 test:TestIs w x.test
structure HRs (w:World) (R:Option Addr) (l:List Rl) (c:Nat):Prop where
 hl:HL Rl.cells w R l c
 each:∀ x ∈ l,RuleIs w x
theorem HRs.ext {w w':World} {R:Option Addr} {l:List Rl} {c:Nat} (h:HRs w R l c) (e:Ext w w'):HRs w' R l c:=⟨h.hl.ext e,fun x hx => ⟨(h.each x hx).name,(h.each x hx).rank,(h.each x hx).weight,(h.each x hx).test.ext e⟩⟩
theorem HRs.at {w:World} {R:Option Addr} {l:List Rl} {c:Nat} (h:HRs w R l c) {i:Nat} (hi:i < l.length):∃ b o,R = some ⟨b,o,none⟩ ∧ Rd w b (o + i * 8) (l[i]).cells:=h.hl.at Rl.len (by omega) hi
theorem Rl.test_part (x:Rl):∀ i v,x.test.cells[i]? = some v -> x.cells[3 + i]? = some v:=by
 intro i v h
 unfold Rl.cells
 rw [show 3 + i = i + 3 by omega]
 exact h
theorem front_eq {A:Option Addr} {c k:Nat}:(if c = 0 then A else A.map (·.add (0 * k))) = A:=by
 split
 ·rfl
 ·cases A with
  | none => rfl
  | some a => obtain ⟨b,o,s⟩:=a; simp [Addr.add]
def sameName (x y:Rl):Bool:=decide (y.name = x.name)
def ruleE (bef:List Rl) (x:Rl):Int :=
 if wordB x.name = false then 4 else if bef.any (sameName x) = true then 6 else if ¬ ((1 <= x.rank ∧ x.rank <= 99) ∧ 1 <= x.weight ∧ x.weight <= 1000) then 1
 else if ¬ fitsP x.test then 2 else if shapedT x.test = false then 1 else 0
def listE:List Rl -> List Rl -> Int
 | _,[] => 0
 | bef,x :: r => if ruleE bef x ≠ 0 then ruleE bef x else listE (bef ++ [x]) r
def chkRl (l:List Rl):Int:=if 24 < l.length then 2 else listE [] l
theorem listE_step {l:List Rl} {i:Nat} (hi:i < l.length):listE (l.take i) (l.drop i) = if ruleE (l.take i) l[i] ≠ 0 then ruleE (l.take i) l[i] else listE (l.take (i + 1)) (l.drop (i + 1)):=by
 rw [List.drop_eq_getElem_cons hi,listE,List.take_succ_eq_append_getElem hi]
theorem listE_end (l:List Rl):listE (l.take l.length) (l.drop l.length) = 0:=by
 rw [List.drop_length]; rfl
theorem ruleE_zero {bef:List Rl} {x:Rl} (h:ruleE bef x = 0):wordB x.name = true ∧ bef.any (sameName x) = false ∧ ((1 <= x.rank ∧ x.rank <= 99) ∧ 1 <= x.weight ∧ x.weight <= 1000) ∧ fitsP x.test ∧ shapedT x.test = true:=by
 unfold ruleE at h
 split at h
 ·cases h
 ·split at h
  ·cases h
  ·split at h
   ·cases h
   ·split at h
    ·cases h
    ·split at h
     ·cases h
     ·rename_i k1 k2 k3 k4 k5
      exact ⟨by simpa using k1,by simpa using k2,Decidable.not_not.1 k3,Decidable.not_not.1 k4,by simpa using k5⟩
theorem listE_zero:∀ {bef l:List Rl},listE bef l = 0 -> ∀ x ∈ l,shapedT x.test = true ∧ (1 <= x.rank ∧ x.rank <= 99) ∧ (1 <= x.weight ∧ x.weight <= 1000)
 | _,[],_,x,hx => by cases hx
 | bef,y :: r,h,x,hx => by
  rw [listE] at h
  by_cases h0:ruleE bef y = 0
  ·rw [if_neg (fun e => e h0)] at h
   rcases List.mem_cons.1 hx with rfl | hx
   ·have:=ruleE_zero h0; exact ⟨this.2.2.2.2,this.2.2.1⟩
   ·exact listE_zero h x hx
  ·rw [if_pos h0] at h; exact absurd h h0
theorem chkRl_zero {l:List Rl} (h:chkRl l = 0):l.length <= 24 ∧ ∀ x ∈ l,shapedT x.test = true ∧ (1 <= x.rank ∧ x.rank <= 99) ∧ (1 <= x.weight ∧ x.weight <= 1000):=by
 unfold chkRl at h
 split at h
 ·cases h
 ·exact ⟨by omega,listE_zero h⟩
theorem twice_spec {w0:World} {l:List Rl} {R:Option Addr} {c c':Nat} (h:HL Rl.cells w0 R l c) {g:Nat} {x:Rl} (hg:w0.heap[g]? = some (.cells x.cells.toArray 72 (0,0))) :
  CallsV C.P 131 #[.slice R l.length c',.func (.func 132) #[] #[.pointer (some ⟨g,0,none⟩)]] w0 fun v w' => v = .bool (l.any (sameName x)) ∧ Ext w0 w':=by
 refine callsV_of C_ok (args:=[_,_]) (plans:=[]) Tryz.func131 rfl Tryz.ntmps131 (by kernel_rfl) (Nat.le_of_ble_eq_true rfl) ?_
 have hcap:=h.cap
 have hI:CallsV C.P 198 #[.slice R l.length c',.func (.func 132) #[] #[.pointer (some ⟨g,0,none⟩)]] w0 fun v w' => (∃ z:Int,v = .int .i64 z ∧ (z >= 0 <-> l.any (sameName x) = true)) ∧ Ext w0 w':=by
  refine callsV_of C_ok (args:=[_,_]) (plans:=[]) Tryz.func198 rfl Tryz.ntmps198 (by kernel_rfl) (Nat.le_of_ble_eq_true rfl) ?_
  refine loopE C_ok (fun (i:Nat) => [(0,.slice R l.length c'),(1,.func (.func 132) #[] #[.pointer (some ⟨g,0,none⟩)]),(7,.int .i64 l.length),(8,.int .i64 (i:Nat))])
   (fun i w' => i <= l.length ∧ Ext w0 w' ∧ (l.take i).any (sameName x) = false) (fun i => l.length - i) 0 ⟨rfl,rfl,rfl,rfl,trivial⟩ ⟨Nat.zero_le _,Ext.refl _,rfl⟩ ?_
  rintro i w1 ⟨hi,e1,hall⟩
  refine brE_dec (fun hlt => ?_) (fun hge => ?_)
  ·have hlti:i < l.length:=by have:(i:Int) < (l.length:Nat):=hlt; omega
   have next:IntKind.i64.wrap ((i:Int) + 1) = ((i + 1:Nat):Int):=fit ⟨by omega,by omega⟩
   obtain ⟨b,o,hA,hc5⟩:=(h.ext e1).at Rl.len (by omega) hlti
   obtain ⟨y,hy⟩:∃ y,y = l[i]:=⟨_,rfl⟩
   have hym:y ∈ l:=by rw [hy]; exact List.getElem_mem hlti
   have hst:(l.take (i + 1)).any (sameName x) = ((l.take i).any (sameName x) || sameName x y):=by rw [List.take_succ_eq_append_getElem hlti,List.any_append,<-hy]; simp
   rw [<-hy] at hc5
   refine ⟨i,b,o,rfl,hlti,hA,?_⟩
   refine ⟨y.cells,rfl,hc5,?_⟩
   have hS:CallsV C.P 132 #[y.val,.pointer (some ⟨g,0,none⟩)] w1 fun v w' => v = .bool (sameName x y) ∧ Ext w1 w':=by
    refine callsV_of C_ok (args:=[_,_]) (plans:=[]) Tryz.func132 rfl Tryz.ntmps132 (by kernel_rfl) (Nat.le_of_ble_eq_true rfl) ?_
    intro g2 w2 h2
    refine ⟨_,cell_of_block (i:=0) h2.here rfl,?_⟩
    refine ⟨_,cell_of_block (i:=0) ((e1.trans h2.ext).heap hg) rfl,?_⟩
    refine ⟨_,eqStr _ _ _ _,?_⟩
    exact ⟨rfl,h2.ext⟩
   refine hS.mono ?_
   rintro v w2 ⟨rfl,e2⟩
   refine brE_mk (fun hb => ?_) (fun hb => ?_)
   ·have hb:sameName x y = true:=hb
    exact ⟨⟨(i:Nat),rfl,⟨fun _ => List.any_eq_true.2 ⟨y,hym,hb⟩,fun _ => Int.natCast_nonneg _⟩⟩,e1.trans e2⟩
   ·have hb:sameName x y = false:=hb
    refine ⟨_,next,?_⟩
    exact ⟨i + 1,⟨rfl,rfl,rfl,rfl,trivial⟩,⟨hlti,e1.trans e2,by rw [hst,hall,hb]; rfl⟩,by show l.length - (i + 1) < l.length - i; omega⟩
  ·have hie:i = l.length:=by have:¬ (i:Int) < (l.length:Nat):=hge; omega
   rw [hie,List.take_length] at hall
   exact ⟨⟨-1,rfl,⟨fun h => absurd h (by decide),fun h => by rw [hall] at h; cases h⟩⟩,e1⟩
 refine hI.mono ?_
 rintro v w' ⟨⟨z,rfl,hz⟩,e⟩
 refine ⟨congrArg Value.bool ?_,e⟩
 cases hs:l.any (sameName x) with
 | true => exact decide_eq_true (hz.2 hs)
 | false => exact decide_eq_false fun h => by rw [hz.1 h] at hs; cases hs
set_option maxRecDepth 100000 in
set_option maxHeartbeats 8000000 in
theorem rulesCheck_spec {w:World} {R:Option Addr} {l:List Rl} {c:Nat} (h:HRs w R l c) :
  CallsV C.P 76 #[.agg #[.slice R l.length c]] w fun v w' => v = .int .i64 (chkRl l) ∧ Ext w w':=by
 have hcap:=h.hl.cap
 refine callsV_of C_ok (args:=[_]) (plans:=[]) Tryz.func76 rfl Tryz.ntmps76 (by kernel_rfl) (Nat.le_of_ble_eq_true rfl) ?_
 intro g1 w1 h1
 have M1:Mem w w1 [(g1,.cells #[.slice R l.length c] 29 (0,0))]:=(Mem.start w).alloc h1
 refine ⟨_,M1.cell 0 rfl rfl,?_⟩
 refine brE_dec (fun c1 => ?_) (fun c1 => ?_)
 ·have c1:((l.length:Nat):Int) > 24:=c1
  exact ⟨congrArg (Value.int .i64) (if_pos (by omega)).symm,M1.ext⟩
 have c1:¬ ((l.length:Nat):Int) > 24:=c1
 have hres:chkRl l = listE [] l:=if_neg (by omega)
 rw [hres]
 refine ⟨_,M1.cell 0 rfl rfl,?_⟩
 refine loopE C_ok (fun (i:Nat) => [(1,.pointer (some ⟨g1,0,none⟩)),(10,.slice R l.length c),(11,.int .i64 l.length),(12,.int .i64 (i:Nat))])
  (fun i w' => i <= l.length ∧ Mem w w' [(g1,.cells #[.slice R l.length c] 29 (0,0))] ∧ listE [] l = listE (l.take i) (l.drop i)) (fun i => l.length - i) 0 ⟨rfl,rfl,rfl,rfl,trivial⟩ ⟨Nat.zero_le _,M1,rfl⟩ ?_
 clear M1
 rintro i w2 ⟨hi,M,hinv⟩
 refine brE_dec (fun hlt => ?_) (fun hge => ?_)
 ·have hlti:i < l.length:=by have:(i:Int) < (l.length:Nat):=hlt; omega
  have next:IntKind.i64.wrap ((i:Int) + 1) = ((i + 1:Nat):Int):=fit ⟨by omega,by omega⟩
  obtain ⟨b,o,hA,hc8⟩:=(h.ext M.ext).at hlti
  have hstep:=listE_step hlti
  have hR:=h.each _ (List.getElem_mem hlti)
  obtain ⟨x,hx⟩:∃ x,x = l[i]:=⟨_,rfl⟩
  rw [<-hx] at hc8 hstep hR
  refine ⟨i,b,o,rfl,hlti,hA,?_⟩
  refine ⟨x.cells,rfl,hc8,?_⟩
  intro g4 w3 h3
  have M3:=M.alloc h3
  refine ⟨rfl,_,_,M3.get 0 rfl,Nat.le_of_ble_eq_true rfl,rfl,?_⟩
  intro w4 h4
  have M:Mem w w4 [(g4,.cells x.cells.toArray 72 (0,0)),(g1,.cells #[.slice R l.length c] 29 (0,0))]:=M3.put 0 rfl h4
  clear M3 h3 h4
  have bad:∀ {e:Int},ruleE (l.take i) x = e -> e ≠ 0 -> Value.int .i64 e = .int .i64 (listE [] l):=fun {e} he hn => by rw [hinv,hstep,if_pos (by rw [he]; exact hn),he]
  refine ⟨_,M.cell 0 (i:=0) rfl rfl,?_⟩
  refine (isWord_spec x.name w4 hR.name).mono ?_
  rintro v w5 ⟨rfl,e5⟩
  have M:=M.grow e5
  refine brE_mk (fun b1 => ?_) (fun b1 => ?_)
  ·have b1:wordB x.name = false:=by simpa using b1
   exact ⟨bad (if_pos b1) (by decide),M.ext⟩
  have b1:¬ wordB x.name = false:=by simpa using b1
  refine ⟨_,M.cell 1 (i:=0) rfl rfl,?_⟩
  refine ⟨0,i,rfl,rfl,Nat.zero_le _,by have:=h.hl.len; omega,?_⟩
  refine ⟨[],[.pointer (some ⟨g4,0,none⟩)],rfl,rfl,?_⟩
  have hfr:HL Rl.cells w5 R (l.take i) c:=by
   refine ⟨?_,by rw [List.length_take]; have:=h.hl.len; omega,by rw [List.length_take]; omega⟩
   have hr:=(h.hl.ext M.ext).reads
   rcases hr with hr | ⟨bb,oo,hAA,hr⟩
   ·left
    have:l = []:=by
     cases l with
     | nil => rfl
     | cons y r => simp [Rl.cells] at hr
    rw [this]; simp
   ·refine .inr ⟨bb,oo,hAA,fun j v hv => hr j v ?_⟩
    have hspl:l.flatMap Rl.cells = (l.take i).flatMap Rl.cells ++ (l.drop i).flatMap Rl.cells:=by rw [<-List.flatMap_append,List.take_append_drop]
    rw [hspl,List.getElem?_append_left (List.getElem?_eq_some_iff.1 hv).1]
    exact hv
  have hT:=twice_spec (c':=c) hfr (M.get 0 rfl)
  rw [show (l.take i).length = i from by rw [List.length_take]; omega] at hT
  have hsl:(Value.slice (if c = 0 then R else R.map (·.add (0 * 8))) (i - 0) (c - 0)) = .slice R i c:=by rw [front_eq]; rfl
  rw [<-hsl] at hT
  refine hT.mono ?_
  rintro v w6 ⟨rfl,e6⟩
  have M:=M.grow e6
  refine brE_mk (fun b2 => ?_) (fun b2 => ?_)
  ·have b2:(l.take i).any (sameName x) = true:=b2
   exact ⟨bad ((if_neg b1).trans (if_pos b2)) (by decide),M.ext⟩
  have b2:¬ (l.take i).any (sameName x) = true:=by have b2:(l.take i).any (sameName x) = false:=b2; rw [b2]; decide
  have bad3:¬ ((1 <= x.rank ∧ x.rank <= 99) ∧ 1 <= x.weight ∧ x.weight <= 1000) -> Value.int .i64 1 = .int .i64 (listE [] l):=fun hn => bad ((if_neg b1).trans ((if_neg b2).trans (if_pos hn))) (by decide)
  refine ⟨_,M.cell 0 (i:=1) rfl rfl,?_⟩
  refine brE_dec (fun c2 => ?_) (fun c2 => ?_)
  ·have c2:x.rank < 1:=c2
   exact ⟨bad3 (by omega),M.ext⟩
  have c2:¬ x.rank < 1:=c2
  refine ⟨_,M.cell 0 (i:=1) rfl rfl,?_⟩
  refine brE_dec (fun c3 => ?_) (fun c3 => ?_)
  ·have c3:x.rank > 99:=c3
   exact ⟨bad3 (by omega),M.ext⟩
  have c3:¬ x.rank > 99:=c3
  refine ⟨_,M.cell 0 (i:=2) rfl rfl,?_⟩
  refine brE_dec (fun c4 => ?_) (fun c4 => ?_)
  ·have c4:x.weight < 1:=c4
   exact ⟨bad3 (by omega),M.ext⟩
  have c4:¬ x.weight < 1:=c4
  refine ⟨_,M.cell 0 (i:=2) rfl rfl,?_⟩
  refine brE_dec (fun c5 => ?_) (fun c5 => ?_)
  ·have c5:x.weight > 1000:=c5
   exact ⟨bad3 (by omega),M.ext⟩
  have c5:¬ x.weight > 1000:=c5
  have b3:¬ ¬ ((1 <= x.rank ∧ x.rank <= 99) ∧ 1 <= x.weight ∧ x.weight <= 1000):=fun hn => hn ⟨⟨by omega,by omega⟩,by omega,by omega⟩
  refine ⟨x.test.cells,rfl,(M.rd 0 rfl).part x.test_part,?_⟩
  refine (fits_spec (hR.test.ext M.ext)).mono ?_
  rintro v w7 ⟨rfl,e7⟩
  have M:=M.grow e7
  refine brE_ndec (fun b4 => ?_) (fun b4 => ?_)
  ·have b4:¬ fitsP x.test:=b4
   exact ⟨bad ((if_neg b1).trans ((if_neg b2).trans ((if_neg b3).trans (if_pos b4)))) (by decide),M.ext⟩
  have b4:¬ ¬ fitsP x.test:=fun hn => hn b4
  refine ⟨x.test.cells,rfl,(M.rd 0 rfl).part x.test_part,?_⟩
  refine (shaped_spec (hR.test.ext M.ext) (Ext.refl _)).mono ?_
  rintro v w8 ⟨rfl,e8⟩
  have M:=M.grow e8
  refine brE_mk (fun b5 => ?_) (fun b5 => ?_)
  ·have b5:shapedT x.test = false:=by simpa using b5
   exact ⟨bad ((if_neg b1).trans ((if_neg b2).trans ((if_neg b3).trans ((if_neg b4).trans (if_pos b5))))) (by decide),M.ext⟩
  have b5:¬ shapedT x.test = false:=by simpa using b5
  have hz:ruleE (l.take i) x = 0:=(if_neg b1).trans ((if_neg b2).trans ((if_neg b3).trans ((if_neg b4).trans (if_neg b5))))
  rw [hz,if_neg (fun e => e rfl)] at hstep
  refine ⟨_,next,?_⟩
  exact ⟨i + 1,⟨rfl,rfl,rfl,rfl,trivial⟩,⟨hlti,M.tail,hinv.trans hstep⟩,by show l.length - (i + 1) < l.length - i; omega⟩
 ·have hie:i = l.length:=by have:¬ (i:Int) < (l.length:Nat):=hge; omega
  rw [hie,listE_end] at hinv
  exact ⟨congrArg (Value.int .i64) hinv.symm,M.ext⟩
end Go.Proofs.YtdpdjcopkehdjaaGreat.Rk
namespace Go.Proofs.YtdpdjcopkehdjaaGreat.Rk
open Go.Eng Go.RowKit
set_option maxRecDepth 100000 in
set_option maxHeartbeats 8000000 in
theorem refRulesCheck_spec {w:World} {R:Option Addr} {l:List Rl} {c:Nat} (h:HRs w R l c) :
  CallsV C.P 49 #[.agg #[.slice R l.length c]] w fun v w' => v = .int .i64 (chkRl l) ∧ Ext w w':=by
 have hcap:=h.hl.cap
 refine callsV_of C_ok (args:=[_]) (plans:=plans49) Tryz.func49 rfl Tryz.ntmps49 (by kernel_rfl) (Nat.le_of_ble_eq_true rfl) ?_
 intro g1 w1 h1
 have M1:Mem w w1 [(g1,.cells #[.slice R l.length c] 29 (0,0))]:=(Mem.start w).alloc h1
 refine ⟨_,M1.cell 0 rfl rfl,?_⟩
 refine brE_dec (fun c1 => ?_) (fun c1 => ?_)
 ·have c1:((l.length:Nat):Int) > 24:=c1
  exact ⟨congrArg (Value.int .i64) (if_pos (by omega)).symm,M1.ext⟩
 have c1:¬ ((l.length:Nat):Int) > 24:=c1
 have hres:chkRl l = listE [] l:=if_neg (by omega)
 rw [hres]
 refine loopE C_ok (fun (i:Nat) => [(1,.pointer (some ⟨g1,0,none⟩)),(3,.int .i64 (i:Nat))])
  (fun i w' => i <= l.length ∧ Mem w w' [(g1,.cells #[.slice R l.length c] 29 (0,0))] ∧ listE [] l = listE (l.take i) (l.drop i)) (fun i => l.length - i) 0 ⟨rfl,rfl,trivial⟩ ⟨Nat.zero_le _,M1,rfl⟩ ?_
 clear M1
 rintro i w2 ⟨hi,M,hinv⟩
 refine ⟨_,M.cell 0 rfl rfl,?_⟩
 refine brE_dec (fun hlt => ?_) (fun hge => ?_)
 ·have hlti:i < l.length:=by have:(i:Int) < (l.length:Nat):=hlt; omega
  have next:IntKind.i64.wrap ((i:Int) + 1) = ((i + 1:Nat):Int):=fit ⟨by omega,by omega⟩
  obtain ⟨b,o,hA,hc8⟩:=(h.ext M.ext).at hlti
  have hstep:=listE_step hlti
  have hR:=h.each _ (List.getElem_mem hlti)
  obtain ⟨x,hx⟩:∃ x,x = l[i]:=⟨_,rfl⟩
  rw [<-hx] at hc8 hstep hR
  refine ⟨_,M.cell 0 rfl rfl,?_⟩
  refine ⟨i,b,o,rfl,hlti,hA,?_⟩
  refine ⟨x.cells,rfl,hc8,?_⟩
  intro g4 w3 h3
  have M3:=M.alloc h3
  refine ⟨rfl,_,_,M3.get 0 rfl,Nat.le_of_ble_eq_true rfl,rfl,?_⟩
  intro w4 h4
  have M:Mem w w4 [(g4,.cells x.cells.toArray 72 (0,0)),(g1,.cells #[.slice R l.length c] 29 (0,0))]:=M3.put 0 rfl h4
  clear M3 h3 h4
  have bad:∀ {e:Int},ruleE (l.take i) x = e -> e ≠ 0 -> Value.int .i64 e = .int .i64 (listE [] l):=fun {e} he hn => by rw [hinv,hstep,if_pos (by rw [he]; exact hn),he]
  refine ⟨_,M.cell 0 (i:=0) rfl rfl,?_⟩
  refine (refIsWord_spec x.name w4 hR.name).mono ?_
  rintro v w4 ⟨rfl,rfl⟩
  refine brE_mk (fun b1 => ?_) (fun b1 => ?_)
  ·have b1:wordB x.name = false:=by simpa using b1
   exact ⟨bad (if_pos b1) (by decide),M.ext⟩
  have b1:¬ wordB x.name = false:=by simpa using b1
  refine loopE C_ok (fun (k:Nat) => [(1,.pointer (some ⟨g1,0,none⟩)),(3,.int .i64 (i:Nat)),(4,.pointer (some ⟨g4,0,none⟩)),(6,.int .i64 (k:Nat))])
   (fun k w' => k <= i ∧ w' = w4 ∧ (l.take k).any (sameName x) = false) (fun k => i - k) 0 ⟨rfl,rfl,rfl,rfl,trivial⟩ ⟨Nat.zero_le _,rfl,rfl⟩ ?_
  rintro k w4 ⟨hk,rfl,hnone⟩
  refine brE_dec (fun hkl => ?_) (fun hkg => ?_)
  ·have hkl:k < i:=by have:(k:Int) < (i:Nat):=hkl; omega
   have hk2:k < l.length:=by omega
   have nextk:IntKind.i64.wrap ((k:Int) + 1) = ((k + 1:Nat):Int):=fit ⟨by omega,by omega⟩
   obtain ⟨b',o',hA',hc'⟩:=(h.ext M.ext).at hk2
   obtain ⟨y,hy⟩:∃ y,y = l[k]:=⟨_,rfl⟩
   have hst:(l.take (k + 1)).any (sameName x) = ((l.take k).any (sameName x) || sameName x y):=by rw [List.take_succ_eq_append_getElem hk2,List.any_append,<-hy]; simp
   have hyi:y ∈ l.take i:=by
    rw [hy,List.mem_take_iff_getElem]
    exact ⟨k,by omega,rfl⟩
   rw [<-hy] at hc'
   refine ⟨_,M.cell 1 rfl rfl,?_⟩
   refine ⟨k,b',o',rfl,hk2,hA',?_⟩
   refine ⟨_,hc' 0 _ rfl,?_⟩
   refine ⟨_,M.cell 0 (i:=0) rfl rfl,?_⟩
   refine ⟨_,eqStr _ _ _ _,?_⟩
   refine brE_dec (fun e => ?_) (fun e => ?_)
   ·have e:y.name = x.name:=e
    have hany:(l.take i).any (sameName x) = true:=List.any_eq_true.2 ⟨y,hyi,decide_eq_true e⟩
    exact ⟨bad ((if_neg b1).trans (if_pos hany)) (by decide),M.ext⟩
   ·have e:¬ y.name = x.name:=e
    refine ⟨_,nextk,?_⟩
    exact ⟨k + 1,⟨rfl,rfl,rfl,rfl,trivial⟩,⟨hkl,rfl,by rw [hst,hnone,sameName,decide_eq_false e]; rfl⟩,by show i - (k + 1) < i - k; omega⟩
  have hki:k = i:=by have:¬ (k:Int) < (i:Nat):=hkg; omega
  rw [hki] at hnone
  have b2:¬ (l.take i).any (sameName x) = true:=by rw [hnone]; decide
  have bad3:¬ ((1 <= x.rank ∧ x.rank <= 99) ∧ 1 <= x.weight ∧ x.weight <= 1000) -> Value.int .i64 1 = .int .i64 (listE [] l):=fun hn => bad ((if_neg b1).trans ((if_neg b2).trans (if_pos hn))) (by decide)
  refine ⟨_,M.cell 0 (i:=1) rfl rfl,?_⟩
  refine (refWithin_spec _ _ _ _).mono ?_
  rintro v w4 ⟨rfl,rfl⟩
  refine ⟨_,M.cell 0 (i:=2) rfl rfl,?_⟩
  refine (refWithin_spec _ _ _ _).mono ?_
  rintro v w4 ⟨rfl,rfl⟩
  refine brE_ndec (fun c2 => ?_) (fun c2 => ?_)
  ·have c2:¬ (1 <= x.rank ∧ x.rank <= 99):=c2
   exact ⟨bad3 (by omega),M.ext⟩
  have c2:1 <= x.rank ∧ x.rank <= 99:=c2
  refine brE_ndec (fun c3 => ?_) (fun c3 => ?_)
  ·have c3:¬ (1 <= x.weight ∧ x.weight <= 1000):=c3
   exact ⟨bad3 (by omega),M.ext⟩
  have c3:1 <= x.weight ∧ x.weight <= 1000:=c3
  have b3:¬ ¬ ((1 <= x.rank ∧ x.rank <= 99) ∧ 1 <= x.weight ∧ x.weight <= 1000):=fun hn => hn ⟨c2,c3⟩
  refine ⟨x.test.cells,rfl,(M.rd 0 rfl).part x.test_part,?_⟩
  refine (small_spec (hR.test.ext M.ext)).mono ?_
  rintro v w7 ⟨rfl,e7⟩
  have M:=M.grow e7
  refine brE_ndec (fun b4 => ?_) (fun b4 => ?_)
  ·have b4:¬ fitsP x.test:=b4
   exact ⟨bad ((if_neg b1).trans ((if_neg b2).trans ((if_neg b3).trans (if_pos b4)))) (by decide),M.ext⟩
  have b4:¬ ¬ fitsP x.test:=fun hn => hn b4
  refine ⟨x.test.cells,rfl,(M.rd 0 rfl).part x.test_part,?_⟩
  refine (node_spec (hR.test.ext M.ext) (Ext.refl _)).mono ?_
  rintro v w8 ⟨rfl,e8⟩
  have M:=M.grow e8
  refine brE_mk (fun b5 => ?_) (fun b5 => ?_)
  ·have b5:shapedT x.test = false:=by simpa using b5
   exact ⟨bad ((if_neg b1).trans ((if_neg b2).trans ((if_neg b3).trans ((if_neg b4).trans (if_pos b5))))) (by decide),M.ext⟩
  have b5:¬ shapedT x.test = false:=by simpa using b5
  have hz:ruleE (l.take i) x = 0:=(if_neg b1).trans ((if_neg b2).trans ((if_neg b3).trans ((if_neg b4).trans (if_neg b5))))
  rw [hz,if_neg (fun e => e rfl)] at hstep
  refine ⟨_,next,?_⟩
  exact ⟨i + 1,⟨rfl,rfl,trivial⟩,⟨hlti,M.tail,hinv.trans hstep⟩,by show l.length - (i + 1) < l.length - i; omega⟩
 ·have hie:i = l.length:=by have:¬ (i:Int) < (l.length:Nat):=hge; omega
  rw [hie,listE_end] at hinv
  exact ⟨congrArg (Value.int .i64) hinv.symm,M.ext⟩
end Go.Proofs.YtdpdjcopkehdjaaGreat.Rk
namespace Go.Proofs.YtdpdjcopkehdjaaGreat.Rk
open Go.Eng Go.RowKit
def icells (x:Int):List Value:=[.int .i64 x]
theorem icells_len (x:Int):(icells x).length = 1:=rfl
theorem put_below {B g:Nat} {o:Obj} {w w':World} (p:Put w g o w') (h:B <= g):Below B w w':=below_put (Below.refl _ _) p h
theorem icells_ints (l:List Int):l.flatMap icells = ints l:=by
 unfold ints icells
 induction l with
 | nil => rfl
 | cons x r ih => simp_all
theorem row_openB {α:Type} {enc:α -> List Value} {k e:Nat} (hk:∀ x,(enc x).length = k) (k0:0 < k) {B:Nat} {w:World} {v:Value} {l:List α} (h:w.ownsRow B e k v l.length (l.flatMap enc)) {i:Nat} (hi:i < l.length) :
  ∃ g cap,∃ cur:List Value,v = .slice (some ⟨g,0,none⟩) l.length cap ∧ w.heap[g]? = some (.cells cur.toArray e (0,0)) ∧ 0 + i * k + k <= cur.length ∧ v.ownBlock = some g ∧ Rd w g (0 + i * k) (enc l[i]) ∧
   ∀ (c:Nat) (vs:List Value) (y:α) (w':World),splice (enc l[i]) c vs = enc y -> c + vs.length <= k -> Put w g (.cells (splice cur (0 + i * k + c) vs).toArray e (0,0)) w' -> w'.ownsRow B e k v (l.set i y).length ((l.set i y).flatMap enc):=by
 have hv:∃ g cap,v = .slice (some ⟨g,0,none⟩) l.length cap:=by
  obtain ⟨_,⟨_,h0⟩ | ⟨g,cap,cur,hv,_⟩⟩:=h
  ·omega
  ·exact ⟨g,cap,hv⟩
 obtain ⟨g,cap,rfl⟩:=hv
 obtain ⟨cur,hg,_,hn,_,_,hxl,ht,hput⟩:=ownsRow_open h
 have hb:(i + 1) * k <= l.length * k:=Nat.mul_le_mul_right k hi
 rw [Nat.add_mul,Nat.one_mul] at hb
 obtain ⟨A,c2,hA,hr,_⟩:=reads_of_owns h
 refine ⟨g,cap,cur,rfl,hg,by omega,rfl,?_,fun c vs y w' h1 h2 h3 => ?_⟩
 ·cases hA
  obtain ⟨b,o,hb2,hrd⟩:=Reads.elem hk k0 hr hi
  cases hb2
  exact hrd
 ·have:=hput (0 + i * k + c) vs w' (by omega) h3
  rw [Nat.zero_add,flat_field hk hi h1 h2] at this
  rw [List.length_set]
  exact this
abbrev RowI (B:Nat) (w:World) (v:Value) (l:List Int):Prop:=NewL icells 3 1 B w v l
def CmpW (B:Nat) (w0:World) (gd:Nat) (cb:Array Value) (ok:Int -> Int -> Prop) (lt:Int -> Int -> Bool):Prop:=∀ (x y:Int) (w:World),Below B w0 w -> ok x y -> CallsV C.P gd (#[] ++ [.int .i64 x,.int .i64 y].toArray ++ cb) w fun v w' => (∃ k:Int,v = .int .i64 k ∧ (k < 0 <-> lt x y = true)) ∧ Ext w w'
theorem CmpW.later {B:Nat} {w0 w1:World} {gd:Nat} {cb:Array Value} {ok:Int -> Int -> Prop} {lt:Int -> Int -> Bool} (h:CmpW B w0 gd cb ok lt) (b:Below B w0 w1):CmpW B w1 gd cb ok lt:=fun x y w hb hk => h x y w (b.trans hb) hk
abbrev OkL (ok:Int -> Int -> Prop) (l:List Int):Prop:=l.Pairwise fun y x => ok x y
theorem rowI_at {B:Nat} {w:World} {A:Option Addr} {n c:Nat} {l:List Int} (h:RowI B w (.slice A n c) l) {i:Nat} (hi:i < l.length):∃ g,A = some ⟨g,0,none⟩ ∧ B <= g ∧ Rd w g (0 + i * 1) (icells l[i]) ∧ n = l.length:=by
 obtain ⟨g,cap,cur,hv,hg,hb,hown,hrd,hput⟩:=row_openB (enc:=icells) icells_len (by omega) h hi
 cases hv
 exact ⟨g,rfl,(h.lt g rfl).1,hrd,rfl⟩
theorem rowI_swap {B:Nat} {w:World} {A:Option Addr} {n c:Nat} {l:List Int} (h:RowI B w (.slice A n c) l) {i j:Nat} (hi:i < l.length) (hj:j < l.length):∃ g,∃ cur:List Value,A = some ⟨g,0,none⟩ ∧ w.heap[g]? = some (.cells cur.toArray 3 (0,0)) ∧ 0 + i * 1 + 1 <= cur.length ∧
  ∀ w1,Put w g (.cells (splice cur (0 + i * 1) (icells l[j])).toArray 3 (0,0)) w1 -> ∃ cur1:List Value,w1.heap[g]? = some (.cells cur1.toArray 3 (0,0)) ∧ 0 + j * 1 + 1 <= cur1.length ∧
   ∀ w2,Put w1 g (.cells (splice cur1 (0 + j * 1) (icells l[i])).toArray 3 (0,0)) w2 -> RowI B w2 (.slice A n c) ((l.set i l[j]).set j l[i]) ∧ Below B w w2:=by
 obtain ⟨g,cap,cur,hv,hg,hb,hown,hrd,hput⟩:=row_openB (enc:=icells) icells_len (by omega) h hi
 cases hv
 have hB:=(h.lt g rfl).1
 refine ⟨g,cur,rfl,hg,hb,fun w1 h1 => ?_⟩
 have r1:=hput 0 (icells l[j]) l[j] w1 rfl (Nat.le_of_ble_eq_true rfl) h1
 have hj1:j < (l.set i l[j]).length:=by rw [List.length_set]; exact hj
 obtain ⟨g',cap',cur',hv',hg',hb',hown',hrd',hput'⟩:=row_openB (enc:=icells) icells_len (by omega) r1 hj1
 have eg:g' = g:=Option.some.inj (hown'.symm.trans hown)
 subst eg
 refine ⟨cur',hg',hb',fun w2 h2 => ⟨?_,below_put (put_below h1 hB) h2 hB⟩⟩
 exact hput' 0 (icells l[i]) l[i] w2 rfl (Nat.le_of_ble_eq_true rfl) h2
theorem swap_adj {α:Type} {P S:List α} {x y:α}:((P ++ y :: x :: S).set (P.length + 1) y).set P.length x = P ++ x :: y :: S:=by
 rw [List.set_append_right _ _ (by omega),show P.length + 1 - P.length = 1 by omega,List.set_append_right _ _ (Nat.le_refl _),Nat.sub_self]
 rfl
theorem get_adj0 {α:Type} {P S:List α} {x y:α} (h:P.length < (P ++ y :: x :: S).length):(P ++ y :: x :: S)[P.length] = y:=by simp
theorem get_adj1 {α:Type} {P S:List α} {x y:α} (h:P.length + 1 < (P ++ y :: x :: S).length):(P ++ y :: x :: S)[P.length + 1] = x:=by
 rw [List.getElem_append_right (by omega)]; simp
set_option maxRecDepth 100000 in
set_option maxHeartbeats 1000000 in
theorem insSort_spec {B:Nat} {w:World} {A:Option Addr} {n c gd a b:Nat} {cb:Array Value} {lt:Int -> Int -> Bool} {ok:Int -> Int -> Prop} {P M S:List Int} (ho:RowI B w (.slice A n c) (P ++ (M ++ S))) (hB:B <= w.heap.size) (hn:n <= 2 ^ 30) (ha:a = P.length) (hb:b = a + M.length) (hgd:C.can gd = true) (hcmp:CmpW B w gd cb ok lt) (hok:OkL ok M) (O:OrdB lt) :
  CallsV C.P 250 #[.slice A n c,.int .i64 (a:Nat),.int .i64 (b:Nat),.func (.func gd) #[] cb] w fun _ w' => ∃ M',M'.Perm M ∧ SortedB lt M' ∧ RowI B w' (.slice A n c) (P ++ (M' ++ S)) ∧ Below B w w':=by
 have hlen:n = (P ++ (M ++ S)).length:=by
  obtain ⟨A',c',e,_⟩:=NewL.hl ho
  cases e; rfl
 have hln:n = P.length + (M.length + S.length):=by rw [hlen,List.length_append,List.length_append]
 refine callsV_of C_ok (args:=[_,_,_,_]) (plans:=plans250) Tryz.func250 rfl Tryz.ntmps250 (by kernel_rfl) (Nat.le_of_ble_eq_true rfl) ?_
 refine ⟨((a + 1:Nat):Int),fit ⟨by omega,by omega⟩,?_⟩
 refine loopE C_ok (fun (p:Nat × List Int) => [(0,.slice A n c),(1,.int .i64 (a:Nat)),(2,.int .i64 (b:Nat)),(3,.func (.func gd) #[] cb),(8,.int .i64 ((a + p.1:Nat):Int))])
  (fun p w' => 1 <= p.1 ∧ p.2.Perm (M.take p.1) ∧ SortedB lt p.2 ∧ RowI B w' (.slice A n c) (P ++ (p.2 ++ (M.drop p.1 ++ S))) ∧ Below B w w') (fun p => M.length - p.1) (1,M.take 1) ⟨rfl,rfl,rfl,rfl,rfl,trivial⟩
  ⟨Nat.le_refl _,List.Perm.refl _,?_,?_,Below.refl _ _⟩ ?_
 ·show SortedB lt (M.take 1)
  cases M with
  | nil => exact List.Pairwise.nil
  | cons x r => simp [SortedB]
 ·show RowI B w (.slice A n c) (P ++ (M.take 1 ++ (M.drop 1 ++ S)))
  rw [<-List.append_assoc (M.take 1),List.take_append_drop]; exact ho
 rintro ⟨k,M1⟩ w1 ⟨hk',hp',hs',ho',b1⟩
 have hk:1 <= k:=hk'
 have hp:M1.Perm (M.take k):=hp'
 have hs:SortedB lt M1:=hs'
 have ho1:RowI B w1 (.slice A n c) (P ++ (M1 ++ (M.drop k ++ S))):=ho'
 clear hk' hp' hs' ho'
 refine brE_dec (fun hlt => ?_) (fun hge => ?_)
 ·have hlt:k < M.length:=by have:((a + k:Nat):Int) < (b:Nat):=hlt; omega
  have hM1:M1.length = k:=by rw [hp.length_eq,List.length_take]; omega
  generalize hx:M[k] = x
  have hdrop:M.drop k = x :: M.drop (k + 1):=by rw [<-hx]; exact List.drop_eq_getElem_cons hlt
  rw [hdrop] at ho1
  refine loopE C_ok (fun (p:List Int × List Int) => [(0,.slice A n c),(1,.int .i64 (a:Nat)),(2,.int .i64 (b:Nat)),(3,.func (.func gd) #[] cb),(8,.int .i64 ((a + k:Nat):Int)),(9,.int .i64 ((a + p.1.length:Nat):Int))])
   (fun p w' => M1 = p.1 ++ p.2 ∧ (∀ z ∈ p.2,lt x z = true) ∧ RowI B w' (.slice A n c) (P ++ (p.1 ++ x :: (p.2 ++ (M.drop (k + 1) ++ S)))) ∧ Below B w w') (fun p => p.1.length) (M1,[]) ⟨rfl,rfl,rfl,rfl,rfl,congrArg (fun q:Nat => some (Value.int IntKind.i64 ((a + q:Nat):Int))) hM1.symm,trivial⟩
   ⟨(List.append_nil _).symm,(fun z hz => by cases hz),ho1,b1⟩ ?_
  rintro ⟨Q,R⟩ w2 ⟨hQR',hR',ho',b2⟩
  have hQR:M1 = Q ++ R:=hQR'
  have hR:∀ z ∈ R,lt x z = true:=hR'
  have ho2:RowI B w2 (.slice A n c) (P ++ (Q ++ x :: (R ++ (M.drop (k + 1) ++ S)))):=ho'
  clear hQR' hR' ho'
  have hQl:Q.length <= k:=by rw [<-hM1,hQR,List.length_append]; omega
  -- when the place is found
  have done:∀ w3,(∀ z ∈ Q,lt x z = false) -> RowI B w3 (.slice A n c) (P ++ (Q ++ x :: (R ++ (M.drop (k + 1) ++ S)))) -> (Q ++ x :: R).Perm (M.take (k + 1)) ∧ SortedB lt (Q ++ x :: R) ∧ RowI B w3 (.slice A n c) (P ++ ((Q ++ x :: R) ++ (M.drop (k + 1) ++ S))):=fun w3 hq h3 => by
   refine ⟨?_,sorted_insert (by rw [<-hQR]; exact hs) hq fun z hz => O.asym _ _ (hR z hz),?_⟩
   ·rw [List.take_succ_eq_append_getElem hlt,hx]
    refine List.perm_middle.trans ?_
    rw [<-hQR]
    exact (List.Perm.cons x hp).trans (List.perm_append_singleton x (M.take k)).symm
   ·have:(Q ++ x :: R) ++ (M.drop (k + 1) ++ S) = Q ++ x :: (R ++ (M.drop (k + 1) ++ S)):=by simp
    rw [this]; exact h3
  have fin:∀ w3,(∀ z ∈ Q,lt x z = false) -> RowI B w3 (.slice A n c) (P ++ (Q ++ x :: (R ++ (M.drop (k + 1) ++ S)))) -> Below B w w3 -> IntKind.i64.wrap (((a + k:Nat):Int) + 1) = ((a + (k + 1):Nat):Int):=fun _ _ _ _ => fit ⟨by omega,by omega⟩
  refine brE_dec (fun hj => ?_) (fun hj => ?_)
  ·have hj:0 < Q.length:=by have:((a + Q.length:Nat):Int) > (a:Nat):=hj; omega
   obtain ⟨I,y,rfl⟩:∃ I y,Q = I ++ [y]:=⟨Q.dropLast,Q.getLast (by intro e; rw [e] at hj; exact Nat.lt_irrefl _ hj),(List.dropLast_concat_getLast _).symm⟩
   have hIl:(I ++ [y]).length = I.length + 1:=by simp
   have eL:P ++ ((I ++ [y]) ++ x :: (R ++ (M.drop (k + 1) ++ S))) = (P ++ I) ++ y :: x :: (R ++ (M.drop (k + 1) ++ S)):=by simp
   rw [eL] at ho2
   have hpl:(P ++ I).length = a + I.length:=by rw [List.length_append,ha]
   have hLl:((P ++ I) ++ y :: x :: (R ++ (M.drop (k + 1) ++ S))).length = n:=by
    obtain ⟨A',c',e,_⟩:=NewL.hl ho2
    cases e; rfl
   have hi0:(P ++ I).length < ((P ++ I) ++ y :: x :: (R ++ (M.drop (k + 1) ++ S))).length:=by simp only [List.length_append,List.length_cons]; omega
   have hi1:(P ++ I).length + 1 < ((P ++ I) ++ y :: x :: (R ++ (M.drop (k + 1) ++ S))).length:=by simp only [List.length_append,List.length_cons]; omega
   have sub1:IntKind.i64.wrap (((a + (I ++ [y]).length:Nat):Int) - 1) = ((a + I.length:Nat):Int):=by rw [hIl,fit ⟨by omega,by omega⟩]; omega
   have idx1:a + (I ++ [y]).length = (P ++ I).length + 1:=by rw [hIl,hpl]; omega
   have idx0:a + I.length = (P ++ I).length:=hpl.symm
   obtain ⟨g1,hA1,_,hr1,_⟩:=rowI_at ho2 hi1
   obtain ⟨g0,hA0,_,hr0,_⟩:=rowI_at ho2 hi0
   rw [get_adj1 hi1] at hr1
   rw [get_adj0 hi0] at hr0
   refine ⟨a + (I ++ [y]).length,g1,0,rfl,by rw [idx1,<-hLl]; exact hi1,hA1,?_⟩
   refine ⟨_,by rw [idx1]; exact hr1 0 _ rfl,?_⟩
   refine ⟨((a + I.length:Nat):Int),sub1,?_⟩
   refine ⟨a + I.length,g0,0,rfl,by rw [idx0,<-hLl]; exact hi0,hA0,?_⟩
   refine ⟨_,by rw [idx0]; exact hr0 0 _ rfl,?_⟩
   refine brE_true hgd ?_
   have hyx:ok x y:=by
    have hym:y ∈ M.take k:=hp.mem_iff.1 (by rw [hQR]; simp)
    obtain ⟨j,hj1,hj2⟩:=List.getElem_of_mem hym
    have hjk:j < k:=by rw [List.length_take] at hj1; omega
    have:=List.pairwise_iff_getElem.1 hok j k (by omega) hlt hjk
    rw [List.getElem_take] at hj2
    rw [hx,hj2] at this
    exact this
   refine (hcmp x y w2 b2 hyx).mono ?_
   rintro v w3 ⟨⟨z,rfl,hz⟩,e3⟩
   have ho3:=ho2.ext e3
   have b3:Below B w w3:=b2.trans (e3.mono (Nat.le_trans hB b2.size))
   refine brE_dec (fun hc => ?_) (fun hc => ?_)
   ·have hc:z < 0:=hc
    have hlt2:=hz.1 hc
    obtain ⟨g,cur,hA,hg,hb1,hput⟩:=rowI_swap ho3 hi1 hi0
    have hrd:=rowI_at ho3 hi1
    have hrd0:=rowI_at ho3 hi0
    rw [get_adj1 hi1] at hrd
    rw [get_adj0 hi0] at hrd0
    obtain ⟨g1',hA1',_,hr1',_⟩:=hrd
    obtain ⟨g0',hA0',_,hr0',_⟩:=hrd0
    rw [get_adj1 hi1,get_adj0 hi0,swap_adj] at hput
    refine ⟨((a + I.length:Nat):Int),sub1,?_⟩
    refine ⟨((a + I.length:Nat):Int),sub1,?_⟩
    refine ⟨a + I.length,g0',0,rfl,by rw [idx0,<-hLl]; exact hi0,hA0',?_⟩
    refine ⟨_,by rw [idx0]; exact hr0' 0 _ rfl,?_⟩
    refine ⟨a + (I ++ [y]).length,g1',0,rfl,by rw [idx1,<-hLl]; exact hi1,hA1',?_⟩
    refine ⟨_,by rw [idx1]; exact hr1' 0 _ rfl,?_⟩
    refine ⟨a + (I ++ [y]).length,g,0,rfl,by rw [idx1,<-hLl]; exact hi1,hA,?_⟩
    rw [idx1]
    refine ⟨rfl,_,_,hg,hb1,rfl,?_⟩
    intro w4 h4
    obtain ⟨cur1,hg1,hb2,hput2⟩:=hput w4 h4
    refine ⟨a + I.length,g,0,rfl,by rw [idx0,<-hLl]; exact hi0,hA,?_⟩
    rw [idx0]
    refine ⟨rfl,_,_,hg1,hb2,rfl,?_⟩
    intro w5 h5
    obtain ⟨ho5,b5⟩:=hput2 w5 h5
    rw [<-idx1]
    refine ⟨((a + I.length:Nat):Int),sub1,?_⟩
    refine ⟨(I,y :: R),⟨rfl,rfl,rfl,rfl,rfl,rfl,trivial⟩,⟨?_,?_,?_,b3.trans b5⟩,by show I.length < (I ++ [y]).length; rw [hIl]; omega⟩
    ·show M1 = I ++ y :: R
     rw [hQR]; simp
    ·intro z hz
     rcases List.mem_cons.1 hz with rfl | hz
     ·exact hlt2
     ·exact hR z hz
    ·show RowI B w5 (.slice A n c) (P ++ (I ++ x :: ((y :: R) ++ (M.drop (k + 1) ++ S))))
     have:P ++ (I ++ x :: ((y :: R) ++ (M.drop (k + 1) ++ S))) = (P ++ I) ++ x :: y :: (R ++ (M.drop (k + 1) ++ S)):=by simp
     rw [this]; exact ho5
   ·have hc:¬ z < 0:=hc
    have hnl:lt x y = false:=by
     cases e:lt x y with
     | false => rfl
     | true => exact absurd (hz.2 e) hc
    have hall:∀ z ∈ I ++ [y],lt x z = false:=sorted_last O (by rw [hQR] at hs; exact (List.pairwise_append.1 hs).1) hnl
    rw [<-eL] at ho3
    obtain ⟨d1,d2,d3⟩:=done w3 hall ho3
    refine ⟨((a + (k + 1):Nat):Int),fin w3 hall ho3 b3,?_⟩
    exact ⟨(k + 1,(I ++ [y]) ++ x :: R),⟨rfl,rfl,rfl,rfl,rfl,trivial⟩,⟨by show 1 <= k + 1; omega,d1,d2,d3,b3⟩,by show M.length - (k + 1) < M.length - k; omega⟩
  ·have hj:Q = []:=List.length_eq_zero_iff.1 (by have:¬ ((a + Q.length:Nat):Int) > (a:Nat):=hj; omega)
   have hall:∀ z ∈ Q,lt x z = false:=fun z hz => by rw [hj] at hz; cases hz
   obtain ⟨d1,d2,d3⟩:=done w2 hall ho2
   refine ⟨((a + (k + 1):Nat):Int),fin w2 hall ho2 b2,?_⟩
   exact ⟨(k + 1,Q ++ x :: R),⟨rfl,rfl,rfl,rfl,rfl,trivial⟩,⟨by show 1 <= k + 1; omega,d1,d2,d3,b2⟩,by show M.length - (k + 1) < M.length - k; omega⟩
 ·have hge:M.length <= k:=by have:¬ ((a + k:Nat):Int) < (b:Nat):=hge; omega
  rw [List.take_of_length_le hge] at hp
  rw [List.drop_eq_nil_of_le hge] at ho1
  exact ⟨M1,hp,hs,ho1,b1⟩
end Go.Proofs.YtdpdjcopkehdjaaGreat.Rk
namespace Go.Proofs.YtdpdjcopkehdjaaGreat.Rk
open Go.Eng Go.RowKit
theorem rowI_n {B:Nat} {w:World} {A:Option Addr} {n c:Nat} {l:List Int} (ho:RowI B w (.slice A n c) l):n = l.length:=by
 obtain ⟨A',c',e,_⟩:=NewL.hl ho
 cases e; rfl
set_option maxRecDepth 100000 in
set_option maxHeartbeats 1000000 in
theorem swapRange_spec {B:Nat} {w:World} {A:Option Addr} {n c gd a b k:Nat} {cb:Array Value} {P X Y Z S:List Int} (ho:RowI B w (.slice A n c) (P ++ (X ++ (Y ++ (Z ++ S))))) (hn:n <= 2 ^ 30) (ha:a = P.length) (hb:b = P.length + X.length + Y.length) (hk:k = X.length) (hZ:Z.length = X.length) :
  CallsV C.P 300 #[.slice A n c,.int .i64 (a:Nat),.int .i64 (b:Nat),.int .i64 (k:Nat),.func (.func gd) #[] cb] w fun _ w' => RowI B w' (.slice A n c) (P ++ (Z ++ (Y ++ (X ++ S)))) ∧ Below B w w':=by
 have hln:=rowI_n ho
 simp only [List.length_append] at hln
 refine callsV_of C_ok (args:=[_,_,_,_,_]) (plans:=plans300) Tryz.func300 rfl Tryz.ntmps300 (by kernel_rfl) (Nat.le_of_ble_eq_true rfl) ?_
 refine loopE C_ok (fun (i:Nat) => [(0,.slice A n c),(1,.int .i64 (a:Nat)),(2,.int .i64 (b:Nat)),(3,.int .i64 (k:Nat)),(10,.int .i64 (i:Nat))])
  (fun i w' => i <= k ∧ RowI B w' (.slice A n c) (P ++ (Z.take i ++ (X.drop i ++ (Y ++ (X.take i ++ (Z.drop i ++ S)))))) ∧ Below B w w') (fun i => k - i) 0 ⟨rfl,rfl,rfl,rfl,rfl,trivial⟩
  ⟨Nat.zero_le _,ho,Below.refl _ _⟩ ?_
 rintro i w1 ⟨hi,ho1,b1⟩
 refine brE_dec (fun hlt => ?_) (fun hge => ?_)
 ·have hlt:i < k:=by have:(i:Int) < (k:Nat):=hlt; omega
  have hx:i < X.length:=by omega
  have hz:i < Z.length:=by omega
  obtain ⟨x,hxe⟩:∃ x,x = X[i]:=⟨_,rfl⟩
  obtain ⟨z,hze⟩:∃ z,z = Z[i]:=⟨_,rfl⟩
  have hXd:X.drop i = x :: X.drop (i + 1):=by rw [hxe]; exact List.drop_eq_getElem_cons hx
  have hZd:Z.drop i = z :: Z.drop (i + 1):=by rw [hze]; exact List.drop_eq_getElem_cons hz
  have hXt:X.take (i + 1) = X.take i ++ [x]:=by rw [hxe]; exact List.take_succ_eq_append_getElem hx
  have hZt:Z.take (i + 1) = Z.take i ++ [z]:=by rw [hze]; exact List.take_succ_eq_append_getElem hz
  obtain ⟨P1,hP1⟩:∃ P1,P1 = P ++ Z.take i:=⟨_,rfl⟩
  obtain ⟨Y1,hY1⟩:∃ Y1,Y1 = X.drop (i + 1) ++ (Y ++ X.take i):=⟨_,rfl⟩
  obtain ⟨S1,hS1⟩:∃ S1,S1 = Z.drop (i + 1) ++ S:=⟨_,rfl⟩
  have e1:P ++ (Z.take i ++ (X.drop i ++ (Y ++ (X.take i ++ (Z.drop i ++ S))))) = P1 ++ x :: (Y1 ++ z :: S1):=by rw [hXd,hZd,hP1,hY1,hS1]; simp
  have e2:P1 ++ z :: (Y1 ++ x :: S1) = P ++ (Z.take (i + 1) ++ (X.drop (i + 1) ++ (Y ++ (X.take (i + 1) ++ (Z.drop (i + 1) ++ S))))):=by rw [hXt,hZt,hP1,hY1,hS1]; simp
  rw [e1] at ho1
  have hP1l:P1.length = a + i:=by rw [hP1,List.length_append,List.length_take]; omega
  have hY1l:P1.length + 1 + Y1.length = b + i:=by rw [hP1l,hY1,List.length_append,List.length_append,List.length_take,List.length_drop]; omega
  have hl1:=rowI_n ho1
  have hi0:P1.length < (P1 ++ x :: (Y1 ++ z :: S1)).length:=by simp only [List.length_append,List.length_cons]; omega
  have hi1:P1.length + 1 + Y1.length < (P1 ++ x :: (Y1 ++ z :: S1)).length:=by simp only [List.length_append,List.length_cons]; omega
  have hbi:b + i < n:=by omega
  have hai:a + i < n:=by omega
  have ad0:IntKind.i64.wrap (((a:Nat):Int) + (i:Nat)) = ((a + i:Nat):Int):=fit ⟨by omega,by omega⟩
  have ad1:IntKind.i64.wrap (((b:Nat):Int) + (i:Nat)) = ((b + i:Nat):Int):=fit ⟨by omega,by omega⟩
  obtain ⟨g1,hA1,_,hr1,_⟩:=rowI_at ho1 hi1
  obtain ⟨g0,hA0,_,hr0,_⟩:=rowI_at ho1 hi0
  rw [get_mid2 rfl hi1,hY1l] at hr1
  rw [get_mid hi0,hP1l] at hr0
  obtain ⟨g,cur,hA,hg,hb1,hput⟩:=rowI_swap ho1 hi0 hi1
  rw [get_mid2 rfl hi1,get_mid hi0,swap_split,hY1l,hP1l] at hput
  rw [hP1l] at hb1
  refine ⟨((a + i:Nat):Int),ad0,?_⟩
  refine ⟨((b + i:Nat):Int),ad1,?_⟩
  refine ⟨((b + i:Nat):Int),ad1,?_⟩
  refine ⟨b + i,g1,0,rfl,hbi,hA1,?_⟩
  refine ⟨_,hr1 0 _ rfl,?_⟩
  refine ⟨((a + i:Nat):Int),ad0,?_⟩
  refine ⟨a + i,g0,0,rfl,hai,hA0,?_⟩
  refine ⟨_,hr0 0 _ rfl,?_⟩
  refine ⟨a + i,g,0,rfl,hai,hA,?_⟩
  refine ⟨rfl,_,_,hg,hb1,rfl,?_⟩
  intro w2 h2
  obtain ⟨cur1,hg1,hb2,hput2⟩:=hput w2 h2
  refine ⟨b + i,g,0,rfl,hbi,hA,?_⟩
  refine ⟨rfl,_,_,hg1,hb2,rfl,?_⟩
  intro w3 h3
  obtain ⟨ho3,b3⟩:=hput2 w3 h3
  rw [e2] at ho3
  refine ⟨((i + 1:Nat):Int),by (try dsimp only); exact fit ⟨by omega,by omega⟩,?_⟩
  exact ⟨i + 1,⟨rfl,rfl,rfl,rfl,rfl,trivial⟩,⟨hlt,ho3,b1.trans b3⟩,by show k - (i + 1) < k - i; omega⟩
 ·have hik:i = k:=by have:¬ (i:Int) < (k:Nat):=hge; omega
  have hX:X.take i = X:=List.take_of_length_le (by omega)
  have hXd:X.drop i = []:=List.drop_eq_nil_of_le (by omega)
  have hZt:Z.take i = Z:=List.take_of_length_le (by omega)
  have hZd:Z.drop i = []:=List.drop_eq_nil_of_le (by omega)
  rw [hX,hXd,hZt,hZd,List.nil_append,List.nil_append] at ho1
  exact ⟨ho1,b1⟩
set_option maxRecDepth 100000 in
set_option maxHeartbeats 1000000 in
theorem rotate_spec {B:Nat} {w:World} {A:Option Addr} {n c gd a m b:Nat} {cb:Array Value} {P U V S:List Int} (ho:RowI B w (.slice A n c) (P ++ (U ++ (V ++ S)))) (hn:n <= 2 ^ 30) (ha:a = P.length) (hm:m = a + U.length) (hb:b = m + V.length) (hU:0 < U.length) (hV:0 < V.length) :
  CallsV C.P 293 #[.slice A n c,.int .i64 (a:Nat),.int .i64 (m:Nat),.int .i64 (b:Nat),.func (.func gd) #[] cb] w fun _ w' => RowI B w' (.slice A n c) (P ++ (V ++ (U ++ S))) ∧ Below B w w':=by
 have hln:=rowI_n ho
 simp only [List.length_append] at hln
 refine callsV_of C_ok (args:=[_,_,_,_,_]) (plans:=[]) Tryz.func293 rfl Tryz.ntmps293 (by kernel_rfl) (Nat.le_of_ble_eq_true rfl) ?_
 refine ⟨((U.length:Nat):Int),by (try dsimp only); rw [fit ⟨by omega,by omega⟩]; omega,?_⟩
 refine ⟨((V.length:Nat):Int),by (try dsimp only); rw [fit ⟨by omega,by omega⟩]; omega,?_⟩
 refine loopE C_ok (fun (p:List Int × List Int × List Int × List Int) => [(0,.slice A n c),(2,.int .i64 (m:Nat)),(4,.func (.func gd) #[] cb),(10,.int .i64 (p.2.1.length:Nat)),(11,.int .i64 (p.2.2.1.length:Nat))])
  (fun p w' => 0 < p.2.1.length ∧ 0 < p.2.2.1.length ∧ p.1.length + p.2.1.length = m ∧ p.1 ++ (p.2.2.1 ++ (p.2.1 ++ p.2.2.2)) = P ++ (V ++ (U ++ S)) ∧ RowI B w' (.slice A n c) (p.1 ++ (p.2.1 ++ (p.2.2.1 ++ p.2.2.2))) ∧ Below B w w') (fun p => p.2.1.length + p.2.2.1.length) (P,U,V,S) ⟨rfl,rfl,rfl,rfl,rfl,trivial⟩
  ⟨hU,hV,by show P.length + U.length = m; omega,rfl,ho,Below.refl _ _⟩ ?_
 rintro ⟨P1,U1,V1,S1⟩ w1 ⟨hu',hv',hl',he',ho',b1⟩
 have hu:0 < U1.length:=hu'
 have hv:0 < V1.length:=hv'
 have hl:P1.length + U1.length = m:=hl'
 have he:P1 ++ (V1 ++ (U1 ++ S1)) = P ++ (V ++ (U ++ S)):=he'
 have ho1:RowI B w1 (.slice A n c) (P1 ++ (U1 ++ (V1 ++ S1))):=ho'
 clear hu' hv' hl' he' ho'
 have hln1:=rowI_n ho1
 simp only [List.length_append] at hln1
 have mi:IntKind.i64.wrap (((m:Nat):Int) - (U1.length:Nat)) = ((P1.length:Nat):Int):=by (try dsimp only); rw [fit ⟨by omega,by omega⟩]; omega
 refine brE_ndec (fun hne => ?_) (fun heq => ?_)
 ·have hne:¬ ((U1.length:Nat):Int) = (V1.length:Nat):=hne
  refine brE_dec (fun hgt => ?_) (fun hle => ?_)
  ·have hgt:V1.length < U1.length:=by have:((U1.length:Nat):Int) > (V1.length:Nat):=hgt; omega
   obtain ⟨Ua,hUa⟩:∃ Ua,Ua = U1.take V1.length:=⟨_,rfl⟩
   obtain ⟨Ub,hUb⟩:∃ Ub,Ub = U1.drop V1.length:=⟨_,rfl⟩
   have hUU:U1 = Ua ++ Ub:=by rw [hUa,hUb,List.take_append_drop]
   have hal:Ua.length = V1.length:=by rw [hUa,List.length_take]; omega
   have hbl:Ub.length = U1.length - V1.length:=by rw [hUb,List.length_drop]
   refine ⟨((P1.length:Nat):Int),mi,?_⟩
   have ho2:RowI B w1 (.slice A n c) (P1 ++ (Ua ++ (Ub ++ (V1 ++ S1)))):=by
    have:P1 ++ (Ua ++ (Ub ++ (V1 ++ S1))) = P1 ++ (U1 ++ (V1 ++ S1)):=by rw [hUU]; simp
    rw [this]; exact ho1
   refine (swapRange_spec (a:=P1.length) (b:=m) (k:=V1.length) ho2 hn rfl (by omega) hal.symm hal.symm).mono ?_
   rintro v w2 ⟨ho3,b2⟩
   refine ⟨((Ub.length:Nat):Int),by (try dsimp only); rw [fit ⟨by omega,by omega⟩]; omega,?_⟩
   refine ⟨(P1 ++ V1,Ub,Ua,S1),⟨rfl,rfl,rfl,rfl,by show some (Value.int IntKind.i64 (V1.length:Nat)) = some (Value.int IntKind.i64 (Ua.length:Nat)); rw [hal],trivial⟩,⟨by show 0 < Ub.length; omega,by show 0 < Ua.length; omega,?_,?_,?_,b1.trans b2⟩,by show Ub.length + Ua.length < U1.length + V1.length; omega⟩
   ·show (P1 ++ V1).length + Ub.length = m
    rw [List.length_append]; omega
   ·show (P1 ++ V1) ++ (Ua ++ (Ub ++ S1)) = _
    rw [<-he,hUU]; simp
   ·show RowI B w2 (.slice A n c) ((P1 ++ V1) ++ (Ub ++ (Ua ++ S1)))
    rw [List.append_assoc]; exact ho3
  ·have hlt:U1.length < V1.length:=by have:¬ ((U1.length:Nat):Int) > (V1.length:Nat):=hle; omega
   obtain ⟨Va,hVa⟩:∃ Va,Va = V1.take (V1.length - U1.length):=⟨_,rfl⟩
   obtain ⟨Vb,hVb⟩:∃ Vb,Vb = V1.drop (V1.length - U1.length):=⟨_,rfl⟩
   have hVV:V1 = Va ++ Vb:=by rw [hVa,hVb,List.take_append_drop]
   have hal:Va.length = V1.length - U1.length:=by rw [hVa,List.length_take]; omega
   have hbl:Vb.length = U1.length:=by rw [hVb,List.length_drop]; omega
   refine ⟨((P1.length:Nat):Int),mi,?_⟩
   refine ⟨((m + V1.length:Nat):Int),by (try dsimp only); exact fit ⟨by omega,by omega⟩,?_⟩
   refine ⟨((m + V1.length - U1.length:Nat):Int),by (try dsimp only); rw [fit ⟨by omega,by omega⟩]; omega,?_⟩
   have ho2:RowI B w1 (.slice A n c) (P1 ++ (U1 ++ (Va ++ (Vb ++ S1)))):=by
    have:P1 ++ (U1 ++ (Va ++ (Vb ++ S1))) = P1 ++ (U1 ++ (V1 ++ S1)):=by rw [hVV]; simp
    rw [this]; exact ho1
   refine (swapRange_spec (a:=P1.length) (b:=m + V1.length - U1.length) (k:=U1.length) ho2 hn rfl (by omega) rfl hbl).mono ?_
   rintro v w2 ⟨ho3,b2⟩
   refine ⟨((Va.length:Nat):Int),by (try dsimp only); rw [fit ⟨by omega,by omega⟩]; omega,?_⟩
   refine ⟨(P1,Vb,Va,U1 ++ S1),⟨rfl,rfl,rfl,by show some (Value.int IntKind.i64 (U1.length:Nat)) = some (Value.int IntKind.i64 (Vb.length:Nat)); rw [hbl],rfl,trivial⟩,⟨by show 0 < Vb.length; omega,by show 0 < Va.length; omega,?_,?_,?_,b1.trans b2⟩,by show Vb.length + Va.length < U1.length + V1.length; omega⟩
   ·show P1.length + Vb.length = m
    omega
   ·show P1 ++ (Va ++ (Vb ++ (U1 ++ S1))) = _
    rw [<-he,hVV]; simp
   ·show RowI B w2 (.slice A n c) (P1 ++ (Vb ++ (Va ++ (U1 ++ S1))))
    exact ho3
 ·have heq:U1.length = V1.length:=by have:((U1.length:Nat):Int) = (V1.length:Nat):=heq; omega
  refine ⟨((P1.length:Nat):Int),mi,?_⟩
  have ho2:RowI B w1 (.slice A n c) (P1 ++ (U1 ++ ([] ++ (V1 ++ S1)))):=ho1
  refine (swapRange_spec (a:=P1.length) (b:=m) (k:=U1.length) ho2 hn rfl (by simp; omega) rfl heq.symm).mono ?_
  rintro v w2 ⟨ho3,b2⟩
  rw [<-he]
  exact ⟨ho3,b1.trans b2⟩
end Go.Proofs.YtdpdjcopkehdjaaGreat.Rk
namespace Go.Proofs.YtdpdjcopkehdjaaGreat.Rk
open Go.Eng Go.RowKit
theorem get_app0 {α:Type} {P Q R:List α} {t:Nat} (ht:t < Q.length) {k:Nat} (hk:k = P.length + t) (h:k < (P ++ (Q ++ R)).length):(P ++ (Q ++ R))[k] = Q[t]:=by
 subst hk
 rw [List.getElem_append_right (by omega)]
 simp only [show P.length + t - P.length = t by omega]
 rw [List.getElem_append_left ht]
theorem get_app1 {α:Type} {P Q R S:List α} {t:Nat} (ht:t < R.length) {k:Nat} (hk:k = P.length + Q.length + t) (h:k < (P ++ (Q ++ (R ++ S))).length):(P ++ (Q ++ (R ++ S)))[k] = R[t]:=by
 have e:P ++ (Q ++ (R ++ S)) = (P ++ Q) ++ (R ++ S):=by simp
 have h2:k < ((P ++ Q) ++ (R ++ S)).length:=by rw [<-e]; exact h
 have:(P ++ (Q ++ (R ++ S)))[k] = ((P ++ Q) ++ (R ++ S))[k]:=by congr 1
 rw [this]
 exact get_app0 ht (by rw [List.length_append]; exact hk) h2
theorem swap_adj' {α:Type} {P S:List α} {x y:α}:((P ++ x :: y :: S).set P.length y).set (P.length + 1) x = P ++ y :: x :: S:=swap_split (Y:=[])
theorem half_sum {m p q:Nat}:(m + p + (m + q)) / 2 = m + (p + q) / 2:=by omega
set_option maxRecDepth 100000 in
set_option maxHeartbeats 8000000 in
theorem symMerge_spec {B:Nat} {A:Option Addr} {n c gd:Nat} {cb:Array Value} {lt:Int -> Int -> Bool} {ok:Int -> Int -> Prop} (hn:n <= 2 ^ 30) (hgd:C.can gd = true) (O:OrdB lt):∀ (k:Nat) {w:World} {a m b:Nat} {P M1 M2 S:List Int},
  M1.length + M2.length <= k -> RowI B w (.slice A n c) (P ++ (M1 ++ (M2 ++ S))) -> B <= w.heap.size -> a = P.length -> m = a + M1.length -> b = m + M2.length -> 0 < M1.length -> 0 < M2.length -> SortedB lt M1 -> SortedB lt M2 -> CmpW B w gd cb ok lt -> (∀ y ∈ M1,∀ x ∈ M2,ok x y) →
  CallsV C.P 251 #[.slice A n c,.int .i64 (a:Nat),.int .i64 (m:Nat),.int .i64 (b:Nat),.func (.func gd) #[] cb] w fun _ w' => ∃ M',M'.Perm (M1 ++ M2) ∧ SortedB lt M' ∧ RowI B w' (.slice A n c) (P ++ (M' ++ S)) ∧ Below B w w':=by
 intro k
 induction k with
 | zero => intro w a m b P M1 M2 S hk _ _ _ _ _ h1; omega
 | succ k ih =>
 intro w a m b P M1 M2 S hk ho hB ha hm hb h1 h2 s1 s2 hcmp hok
 have hln:=rowI_n ho
 simp only [List.length_append] at hln
 obtain ⟨la,hla⟩:∃ la,la = M1.length:=⟨_,rfl⟩
 obtain ⟨lb,hlb⟩:∃ lb,lb = M2.length:=⟨_,rfl⟩
 refine callsV_ofS (args:=[_,_,_,_,_]) Tryz.func251 rfl Tryz.ntmps251 C_ok (Nat.le_of_ble_eq_true rfl) ?_
 refine Snd.go C_ok plans251 (by kernel_rfl) ?_
 refine ⟨((la:Nat):Int),by (try dsimp only); rw [fit ⟨by omega,by omega⟩]; omega,?_⟩
 refine brE_dec (fun c1 => ?_) (fun c1 => ?_)
 ·-- one element on the left
  have c1:M1.length = 1:=by have:((la:Nat):Int) = 1:=c1; omega
  obtain ⟨x,rfl⟩:∃ x,M1 = [x]:=List.length_eq_one_iff.1 c1
  have ix:a < n:=by omega
  refine loopE C_ok (fun (p:Nat × Nat) => [(0,.slice A n c),(1,.int .i64 (a:Nat)),(2,.int .i64 (m:Nat)),(3,.int .i64 (b:Nat)),(4,.func (.func gd) #[] cb),(10,.int .i64 ((m + p.1:Nat):Int)),(11,.int .i64 ((m + p.2:Nat):Int))])
   (fun p w' => p.1 <= p.2 ∧ p.2 <= M2.length ∧ (∀ t (ht:t < M2.length),t < p.1 -> lt M2[t] x = true) ∧ (∀ t (ht:t < M2.length),p.2 <= t -> lt M2[t] x = false) ∧ RowI B w' (.slice A n c) (P ++ ([x] ++ (M2 ++ S))) ∧ Below B w w') (fun p => p.2 - p.1) (0,M2.length)
   ⟨rfl,rfl,rfl,rfl,rfl,rfl,congrArg (fun q:Nat => some (Value.int IntKind.i64 ((q:Nat):Int))) hb,trivial⟩
   ⟨Nat.zero_le _,Nat.le_refl _,(fun t _ h => absurd h (Nat.not_lt_zero _)),(fun t ht h => absurd ht (Nat.not_lt.2 h)),ho,Below.refl _ _⟩ ?_
  rintro ⟨p,q⟩ w1 ⟨hpq',hq',hy',hno',ho',b1⟩
  have hpq:p <= q:=hpq'
  have hq:q <= M2.length:=hq'
  have hy:∀ t (ht:t < M2.length),t < p -> lt M2[t] x = true:=hy'
  have hno:∀ t (ht:t < M2.length),q <= t -> lt M2[t] x = false:=hno'
  have ho1:RowI B w1 (.slice A n c) (P ++ ([x] ++ (M2 ++ S))):=ho'
  clear hpq' hq' hy' hno' ho'
  refine brE_dec (fun hlt => ?_) (fun hge => ?_)
  ·have hlt:p < q:=by have:((m + p:Nat):Int) < (m + q:Nat):=hlt; omega
   obtain ⟨h,hh⟩:∃ h,h = (p + q) / 2:=⟨_,rfl⟩
   have hhl:h < M2.length:=by omega
   have eh:(m + p + (m + q)) / 2 = m + h:=by rw [hh]; exact half_sum
   have ih1:m + h < n:=by omega
   obtain ⟨g1,hA1,_,hr1,_⟩:=rowI_at ho1 (i:=m + h) (by rw [<-rowI_n ho1]; exact ih1)
   obtain ⟨g0,hA0,_,hr0,_⟩:=rowI_at ho1 (i:=a) (by rw [<-rowI_n ho1]; exact ix)
   rw [get_app1 hhl (by rw [c1]; omega)] at hr1
   rw [get_app0 (t:=0) (by simp) (by omega)] at hr0
   refine ⟨((m + p + (m + q):Nat):Int),by (try dsimp only); rw [fit ⟨by omega,by omega⟩]; omega,?_⟩
   refine ⟨((m + p + (m + q):Nat):Int),IntWalk.u64_in _ ⟨by omega,by omega⟩,?_⟩
   refine ⟨.int .u64 (((m + p + (m + q)) / 2:Nat):Int),fun w => ?_,⟨by decide,by decide⟩,?_⟩
   ·rw [binOp_shr,shift_shr_u64 _ _ _ (by decide) (by decide)]; simp
   rw [eh]
   refine ⟨((m + h:Nat):Int),by (try dsimp only); exact fit ⟨by omega,by omega⟩,?_⟩
   refine ⟨m + h,g1,0,rfl,ih1,hA1,?_⟩
   refine ⟨_,hr1 0 _ rfl,?_⟩
   refine ⟨a,g0,0,rfl,ix,hA0,?_⟩
   refine ⟨_,hr0 0 _ rfl,?_⟩
   refine brE_true hgd ?_
   refine (hcmp M2[h] x w1 b1 (hok x (by simp) _ (List.getElem_mem _))).mono ?_
   rintro v w2 ⟨⟨z,rfl,hz⟩,e2⟩
   have ho2:=ho1.ext e2
   have b2:Below B w w2:=b1.trans (e2.mono (Nat.le_trans hB b1.size))
   refine brE_dec (fun hc => ?_) (fun hc => ?_)
   ·have hc:z < 0:=hc
    have hl:=hz.1 hc
    refine ⟨((m + (h + 1):Nat):Int),by (try dsimp only); rw [fit ⟨by omega,by omega⟩]; omega,?_⟩
    exact ⟨(h + 1,q),⟨rfl,rfl,rfl,rfl,rfl,rfl,rfl,trivial⟩,⟨by show h + 1 <= q; omega,hq,fun t ht htl => search_yes O s2 hhl hl (by have:t < h + 1:=htl; omega),hno,ho2,b2⟩,by show q - (h + 1) < q - p; omega⟩
   ·have hc:¬ z < 0:=hc
    have hl:lt M2[h] x = false:=by
     cases e:lt M2[h] x with
     | false => rfl
     | true => exact absurd (hz.2 e) hc
    exact ⟨(p,h),⟨rfl,rfl,rfl,rfl,rfl,rfl,rfl,trivial⟩,⟨by show p <= h; omega,by show h <= M2.length; omega,hy,fun t ht htl => search_no O s2 hhl hl htl ht,ho2,b2⟩,by show h - p < q - p; omega⟩
  ·have hpe:p = q:=by have:¬ ((m + p:Nat):Int) < (m + q:Nat):=hge; omega
   subst hpe
   refine loopE C_ok (fun (r:Nat) => [(0,.slice A n c),(10,.int .i64 ((m + p:Nat):Int)),(13,.int .i64 ((a + r:Nat):Int))])
    (fun r w' => r <= p ∧ RowI B w' (.slice A n c) (P ++ (M2.take r ++ x :: (M2.drop r ++ S))) ∧ Below B w w') (fun r => p - r) 0 ⟨rfl,rfl,rfl,trivial⟩
    ⟨Nat.zero_le _,ho1,b1⟩ ?_
   rintro r w2 ⟨hr,ho2,b2⟩
   refine ⟨((a + p:Nat):Int),by (try dsimp only); rw [fit ⟨by omega,by omega⟩]; omega,?_⟩
   refine brE_dec (fun hlt => ?_) (fun hge => ?_)
   ·have hlt:r < p:=by have:((a + r:Nat):Int) < (a + p:Nat):=hlt; omega
    have hrl:r < M2.length:=by omega
    obtain ⟨y,hye⟩:∃ y,y = M2[r]:=⟨_,rfl⟩
    have hd:M2.drop r = y :: M2.drop (r + 1):=by rw [hye]; exact List.drop_eq_getElem_cons hrl
    have ht:M2.take (r + 1) = M2.take r ++ [y]:=by rw [hye]; exact List.take_succ_eq_append_getElem hrl
    obtain ⟨P1,hP1⟩:∃ P1,P1 = P ++ M2.take r:=⟨_,rfl⟩
    obtain ⟨S1,hS1⟩:∃ S1,S1 = M2.drop (r + 1) ++ S:=⟨_,rfl⟩
    have e1:P ++ (M2.take r ++ x :: (M2.drop r ++ S)) = P1 ++ x :: y :: S1:=by rw [hd,hP1,hS1]; simp
    have e2:P1 ++ y :: x :: S1 = P ++ (M2.take (r + 1) ++ x :: (M2.drop (r + 1) ++ S)):=by rw [ht,hP1,hS1]; simp
    rw [e1] at ho2
    have hPl:P1.length = a + r:=by rw [hP1,List.length_append,List.length_take]; omega
    have hi0:P1.length < (P1 ++ x :: y :: S1).length:=by simp only [List.length_append,List.length_cons]; omega
    have hi1:P1.length + 1 < (P1 ++ x :: y :: S1).length:=by simp only [List.length_append,List.length_cons]; omega
    have l0:a + r < n:=by omega
    have l1:a + r + 1 < n:=by omega
    obtain ⟨g1,hA1,_,hr1,_⟩:=rowI_at ho2 hi1
    obtain ⟨g0,hA0,_,hr0,_⟩:=rowI_at ho2 hi0
    rw [get_adj1 hi1,hPl] at hr1
    rw [get_adj0 hi0,hPl] at hr0
    obtain ⟨g,cur,hA,hg,hb1,hput⟩:=rowI_swap ho2 hi0 hi1
    rw [get_adj1 hi1,get_adj0 hi0,swap_adj',hPl] at hput
    rw [hPl] at hb1
    have ad:IntKind.i64.wrap (((a + r:Nat):Int) + 1) = ((a + r + 1:Nat):Int):=by (try dsimp only); rw [fit ⟨by omega,by omega⟩]; omega
    refine ⟨((a + r + 1:Nat):Int),ad,?_⟩
    refine ⟨((a + r + 1:Nat):Int),ad,?_⟩
    refine ⟨a + r + 1,g1,0,rfl,l1,hA1,?_⟩
    refine ⟨_,hr1 0 _ rfl,?_⟩
    refine ⟨a + r,g0,0,rfl,l0,hA0,?_⟩
    refine ⟨_,hr0 0 _ rfl,?_⟩
    refine ⟨a + r,g,0,rfl,l0,hA,?_⟩
    refine ⟨rfl,_,_,hg,hb1,rfl,?_⟩
    intro w3 h3
    obtain ⟨cur1,hg1,hb2,hput2⟩:=hput w3 h3
    refine ⟨a + r + 1,g,0,rfl,l1,hA,?_⟩
    refine ⟨rfl,_,_,hg1,hb2,rfl,?_⟩
    intro w4 h4
    obtain ⟨ho4,b4⟩:=hput2 w4 h4
    rw [e2] at ho4
    refine ⟨((a + (r + 1):Nat):Int),by (try dsimp only); rw [fit ⟨by omega,by omega⟩]; omega,?_⟩
    exact ⟨r + 1,⟨rfl,rfl,rfl,trivial⟩,⟨hlt,ho4,b2.trans b4⟩,by show p - (r + 1) < p - r; omega⟩
   ·have hrp:r = p:=by have:¬ ((a + r:Nat):Int) < (a + p:Nat):=hge; omega
    subst hrp
    refine ⟨M2.take r ++ x :: M2.drop r,?_,merge_one O s2 hy hno,?_,b2⟩
    ·refine List.perm_middle.trans ?_
     rw [List.take_append_drop]
     exact List.Perm.refl _
    ·have:(M2.take r ++ x :: M2.drop r) ++ S = M2.take r ++ x :: (M2.drop r ++ S):=by simp
     rw [this]; exact ho2
 have c1:¬ la = 1:=by have:¬ ((la:Nat):Int) = 1:=c1; omega
 refine ⟨Snd.go C_ok plans251 (by kernel_rfl) ?_⟩
 refine ⟨((lb:Nat):Int),by (try dsimp only); rw [fit ⟨by omega,by omega⟩]; omega,?_⟩
 refine brE_dec (fun c2 => ?_) (fun c2 => ?_)
 ·-- one element on the right
  have c2:M2.length = 1:=by have:((lb:Nat):Int) = 1:=c2; omega
  obtain ⟨y,rfl⟩:∃ y,M2 = [y]:=List.length_eq_one_iff.1 c2
  have iy:m < n:=by omega
  refine loopE C_ok (fun (p:Nat × Nat) => [(0,.slice A n c),(1,.int .i64 (a:Nat)),(2,.int .i64 (m:Nat)),(3,.int .i64 (b:Nat)),(4,.func (.func gd) #[] cb),(14,.int .i64 ((a + p.1:Nat):Int)),(15,.int .i64 ((a + p.2:Nat):Int))])
   (fun p w' => p.1 <= p.2 ∧ p.2 <= M1.length ∧ (∀ t (ht:t < M1.length),t < p.1 -> lt y M1[t] = false) ∧ (∀ t (ht:t < M1.length),p.2 <= t -> lt y M1[t] = true) ∧ RowI B w' (.slice A n c) (P ++ (M1 ++ ([y] ++ S))) ∧ Below B w w') (fun p => p.2 - p.1) (0,M1.length)
   ⟨rfl,rfl,rfl,rfl,rfl,rfl,congrArg (fun q:Nat => some (Value.int IntKind.i64 ((q:Nat):Int))) hm,trivial⟩
   ⟨Nat.zero_le _,Nat.le_refl _,(fun t _ h => absurd h (Nat.not_lt_zero _)),(fun t ht h => absurd ht (Nat.not_lt.2 h)),ho,Below.refl _ _⟩ ?_
  rintro ⟨p,q⟩ w1 ⟨hpq',hq',hy',hno',ho',b1⟩
  have hpq:p <= q:=hpq'
  have hq:q <= M1.length:=hq'
  have hy:∀ t (ht:t < M1.length),t < p -> lt y M1[t] = false:=hy'
  have hno:∀ t (ht:t < M1.length),q <= t -> lt y M1[t] = true:=hno'
  have ho1:RowI B w1 (.slice A n c) (P ++ (M1 ++ ([y] ++ S))):=ho'
  clear hpq' hq' hy' hno' ho'
  refine brE_dec (fun hlt => ?_) (fun hge => ?_)
  ·have hlt:p < q:=by have:((a + p:Nat):Int) < (a + q:Nat):=hlt; omega
   obtain ⟨h,hh⟩:∃ h,h = (p + q) / 2:=⟨_,rfl⟩
   have hhl:h < M1.length:=by omega
   have eh:(a + p + (a + q)) / 2 = a + h:=by rw [hh]; exact half_sum
   have ih1:a + h < n:=by omega
   obtain ⟨g1,hA1,_,hr1,_⟩:=rowI_at ho1 (i:=m) (by rw [<-rowI_n ho1]; exact iy)
   obtain ⟨g0,hA0,_,hr0,_⟩:=rowI_at ho1 (i:=a + h) (by rw [<-rowI_n ho1]; exact ih1)
   rw [get_app1 (t:=0) (by simp) (by omega)] at hr1
   rw [get_app0 hhl (by omega)] at hr0
   refine ⟨((a + p + (a + q):Nat):Int),by (try dsimp only); rw [fit ⟨by omega,by omega⟩]; omega,?_⟩
   refine ⟨((a + p + (a + q):Nat):Int),IntWalk.u64_in _ ⟨by omega,by omega⟩,?_⟩
   refine ⟨.int .u64 (((a + p + (a + q)) / 2:Nat):Int),fun w => ?_,⟨by decide,by decide⟩,?_⟩
   ·rw [binOp_shr,shift_shr_u64 _ _ _ (by decide) (by decide)]; simp
   rw [eh]
   refine ⟨((a + h:Nat):Int),by (try dsimp only); exact fit ⟨by omega,by omega⟩,?_⟩
   refine ⟨m,g1,0,rfl,iy,hA1,?_⟩
   refine ⟨_,hr1 0 _ rfl,?_⟩
   refine ⟨a + h,g0,0,rfl,ih1,hA0,?_⟩
   refine ⟨_,hr0 0 _ rfl,?_⟩
   refine brE_true hgd ?_
   refine (hcmp y M1[h] w1 b1 (hok _ (List.getElem_mem _) y (by simp))).mono ?_
   rintro v w2 ⟨⟨z,rfl,hz⟩,e2⟩
   have ho2:=ho1.ext e2
   have b2:Below B w w2:=b1.trans (e2.mono (Nat.le_trans hB b1.size))
   refine brE_ndec (fun hc => ?_) (fun hc => ?_)
   ·have hc:¬ z < 0:=hc
    have hl:lt y M1[h] = false:=by
     cases e:lt y M1[h] with
     | false => rfl
     | true => exact absurd (hz.2 e) hc
    refine ⟨((a + (h + 1):Nat):Int),by (try dsimp only); rw [fit ⟨by omega,by omega⟩]; omega,?_⟩
    exact ⟨(h + 1,q),⟨rfl,rfl,rfl,rfl,rfl,rfl,rfl,trivial⟩,⟨by show h + 1 <= q; omega,hq,fun t ht htl => search_yes' O s1 hhl hl (by have:t < h + 1:=htl; omega),hno,ho2,b2⟩,by show q - (h + 1) < q - p; omega⟩
   ·have hc:z < 0:=hc
    have hl:=hz.1 hc
    exact ⟨(p,h),⟨rfl,rfl,rfl,rfl,rfl,rfl,rfl,trivial⟩,⟨by show p <= h; omega,by show h <= M1.length; omega,hy,fun t ht htl => search_no' O s1 hhl hl htl ht,ho2,b2⟩,by show h - p < q - p; omega⟩
  ·have hpe:p = q:=by have:¬ ((a + p:Nat):Int) < (a + q:Nat):=hge; omega
   subst hpe
   refine loopE C_ok (fun (r:Nat) => [(0,.slice A n c),(14,.int .i64 ((a + p:Nat):Int)),(17,.int .i64 ((a + r:Nat):Int))])
    (fun r w' => p <= r ∧ r <= M1.length ∧ RowI B w' (.slice A n c) (P ++ (M1.take r ++ y :: (M1.drop r ++ S))) ∧ Below B w w') (fun r => r) M1.length ⟨rfl,rfl,congrArg (fun q:Nat => some (Value.int IntKind.i64 ((q:Nat):Int))) hm,trivial⟩
    ⟨hq,Nat.le_refl _,by rw [List.take_length,List.drop_length]; exact ho1,b1⟩ ?_
   rintro r w2 ⟨hpr,hr,ho2,b2⟩
   refine brE_dec (fun hlt => ?_) (fun hge => ?_)
   ·have hlt:p < r:=by have:((a + r:Nat):Int) > (a + p:Nat):=hlt; omega
    obtain ⟨r,rfl⟩:∃ r',r = r' + 1:=⟨r - 1,by omega⟩
    have hrl:r < M1.length:=by omega
    obtain ⟨x,hxe⟩:∃ x,x = M1[r]:=⟨_,rfl⟩
    have hd:M1.drop r = x :: M1.drop (r + 1):=by rw [hxe]; exact List.drop_eq_getElem_cons hrl
    have ht:M1.take (r + 1) = M1.take r ++ [x]:=by rw [hxe]; exact List.take_succ_eq_append_getElem hrl
    obtain ⟨P1,hP1⟩:∃ P1,P1 = P ++ M1.take r:=⟨_,rfl⟩
    obtain ⟨S1,hS1⟩:∃ S1,S1 = M1.drop (r + 1) ++ S:=⟨_,rfl⟩
    have e1:P ++ (M1.take (r + 1) ++ y :: (M1.drop (r + 1) ++ S)) = P1 ++ x :: y :: S1:=by rw [ht,hP1,hS1]; simp
    have e2:P1 ++ y :: x :: S1 = P ++ (M1.take r ++ y :: (M1.drop r ++ S)):=by rw [hd,hP1,hS1]; simp
    rw [e1] at ho2
    have hPl:P1.length = a + r:=by rw [hP1,List.length_append,List.length_take]; omega
    have hi0:P1.length < (P1 ++ x :: y :: S1).length:=by simp only [List.length_append,List.length_cons]; omega
    have hi1:P1.length + 1 < (P1 ++ x :: y :: S1).length:=by simp only [List.length_append,List.length_cons]; omega
    have l0:a + r < n:=by omega
    have l1:a + (r + 1) < n:=by omega
    have hPl1:P1.length + 1 = a + (r + 1):=by omega
    obtain ⟨g1,hA1,_,hr1,_⟩:=rowI_at ho2 hi1
    obtain ⟨g0,hA0,_,hr0,_⟩:=rowI_at ho2 hi0
    rw [get_adj1 hi1,hPl1] at hr1
    rw [get_adj0 hi0,hPl] at hr0
    obtain ⟨g,cur,hA,hg,hb1,hput⟩:=rowI_swap ho2 hi1 hi0
    rw [get_adj1 hi1,get_adj0 hi0,swap_adj,hPl1,hPl] at hput
    rw [hPl1] at hb1
    have ad:IntKind.i64.wrap (((a + (r + 1):Nat):Int) - 1) = ((a + r:Nat):Int):=by (try dsimp only); rw [fit ⟨by omega,by omega⟩]; omega
    refine ⟨((a + r:Nat):Int),ad,?_⟩
    refine ⟨((a + r:Nat):Int),ad,?_⟩
    refine ⟨a + r,g0,0,rfl,l0,hA0,?_⟩
    refine ⟨_,hr0 0 _ rfl,?_⟩
    refine ⟨a + (r + 1),g1,0,rfl,l1,hA1,?_⟩
    refine ⟨_,hr1 0 _ rfl,?_⟩
    refine ⟨a + (r + 1),g,0,rfl,l1,hA,?_⟩
    refine ⟨rfl,_,_,hg,hb1,rfl,?_⟩
    intro w3 h3
    obtain ⟨cur1,hg1,hb2,hput2⟩:=hput w3 h3
    refine ⟨a + r,g,0,rfl,l0,hA,?_⟩
    refine ⟨rfl,_,_,hg1,hb2,rfl,?_⟩
    intro w4 h4
    obtain ⟨ho4,b4⟩:=hput2 w4 h4
    rw [e2] at ho4
    refine ⟨((a + r:Nat):Int),ad,?_⟩
    exact ⟨r,⟨rfl,rfl,rfl,trivial⟩,⟨by omega,by omega,ho4,b2.trans b4⟩,Nat.lt_succ_self r⟩
   ·have hrp:r = p:=by have:¬ ((a + r:Nat):Int) > (a + p:Nat):=hge; omega
    subst hrp
    refine ⟨M1.take r ++ y :: M1.drop r,?_,merge_one' O s1 hy hno,?_,b2⟩
    ·refine List.perm_middle.trans ?_
     rw [List.take_append_drop]
     exact (List.perm_append_singleton y M1).symm
    ·have:(M1.take r ++ y :: M1.drop r) ++ S = M1.take r ++ y :: (M1.drop r ++ S):=by simp
     rw [this]; exact ho2
 have c2:¬ lb = 1:=by have:¬ ((lb:Nat):Int) = 1:=c2; omega
 obtain ⟨H,hH⟩:∃ H,H = (la + lb) / 2:=⟨_,rfl⟩
 have emid:(a + b) / 2 = a + H:=by omega
 refine ⟨Snd.go C_ok plans251 (by kernel_rfl) ?_⟩
 refine ⟨((a + b:Nat):Int),by (try dsimp only); rw [fit ⟨by omega,by omega⟩]; omega,?_⟩
 refine ⟨((a + b:Nat):Int),IntWalk.u64_in _ ⟨by omega,by omega⟩,?_⟩
 refine ⟨.int .u64 (((a + b) / 2:Nat):Int),fun w => ?_,⟨by decide,by decide⟩,?_⟩
 ·rw [binOp_shr,shift_shr_u64 _ _ _ (by decide) (by decide)]; simp
 rw [emid]
 refine ⟨((a + H:Nat):Int),by (try dsimp only); exact fit ⟨by omega,by omega⟩,?_⟩
 refine ⟨Snd.go C_ok plans251 (by kernel_rfl) ?_⟩
 refine ⟨((a + H + m:Nat):Int),by (try dsimp only); rw [fit ⟨by omega,by omega⟩]; omega,?_⟩
 refine ⟨Snd.go C_ok plans251 (by kernel_rfl) ?_⟩
 refine ⟨Snd.join C_ok plans251 (fun (p:Nat × Nat) => [(0,.slice A n c),(1,.int .i64 (a:Nat)),(2,.int .i64 (m:Nat)),(3,.int .i64 (b:Nat)),(4,.func (.func gd) #[] cb),(18,.int .i64 ((a + H:Nat):Int)),(19,.int .i64 ((a + H + m:Nat):Int)),(20,.int .i64 ((a + p.1:Nat):Int)),(21,.int .i64 ((a + p.2:Nat):Int))])
  (fun p w' => w' = w ∧ p.1 <= p.2 ∧ p.2 <= la ∧ p.2 <= H ∧ H <= p.1 + lb ∧ (p.1 = 0 ∨ p.1 + lb = H) ∧ (p.2 = la ∨ p.2 = H)) (by kernel_rfl) ?_ ?_⟩
 ·refine brE_dec (fun c3 => ?_) (fun c3 => ?_)
  ·have c3:H < la:=by have:((m:Nat):Int) > (a + H:Nat):=c3; omega
   refine ⟨((a + (H - lb):Nat):Int),by (try dsimp only); rw [fit ⟨by omega,by omega⟩]; omega,?_⟩
   exact ⟨(H - lb,H),⟨rfl,rfl,rfl,rfl,rfl,rfl,rfl,rfl,rfl,trivial⟩,rfl,by show H - lb <= H; omega,by show H <= la; omega,Nat.le_refl _,by show H <= H - lb + lb; omega,.inr (by show H - lb + lb = H; omega),.inr rfl⟩
  ·have c3:la <= H:=by have:¬ ((m:Nat):Int) > (a + H:Nat):=c3; omega
   exact ⟨(0,la),⟨rfl,rfl,rfl,rfl,rfl,rfl,rfl,rfl,congrArg (fun q:Nat => some (Value.int IntKind.i64 ((q:Nat):Int))) (by show m = a + la; omega),trivial⟩,rfl,Nat.zero_le _,Nat.le_refl _,c3,by show H <= 0 + lb; omega,.inl rfl,.inl rfl⟩
 rintro ⟨lo,hi⟩ w0 ⟨rfl,f1',f2',f3',f4',f5',f6'⟩
 have f1:lo <= hi:=f1'
 have f2:hi <= la:=f2'
 have f3:hi <= H:=f3'
 have f4:H <= lo + lb:=f4'
 have f5:lo = 0 ∨ lo + lb = H:=f5'
 have f6:hi = la ∨ hi = H:=f6'
 clear f1' f2' f3' f4' f5' f6'
 refine Snd.go C_ok plans251 (by kernel_rfl) ?_
 refine ⟨((a + H + m - 1:Nat):Int),by (try dsimp only); rw [fit ⟨by omega,by omega⟩]; omega,?_⟩
 refine ⟨Snd.go C_ok plans251 (by kernel_rfl) ?_⟩
 refine loopE C_ok (fun (p:Nat × Nat) => [(0,.slice A n c),(1,.int .i64 (a:Nat)),(2,.int .i64 (m:Nat)),(3,.int .i64 (b:Nat)),(4,.func (.func gd) #[] cb),(18,.int .i64 ((a + H:Nat):Int)),(19,.int .i64 ((a + H + m:Nat):Int)),(20,.int .i64 ((a + p.1:Nat):Int)),(21,.int .i64 ((a + p.2:Nat):Int)),(22,.int .i64 ((a + H + m - 1:Nat):Int))])
  (fun p w' => lo <= p.1 ∧ p.1 <= p.2 ∧ p.2 <= hi ∧ (p.1 = lo ∨ ∀ (h1:p.1 - 1 < M1.length) (h2:H - p.1 < M2.length),lt M2[H - p.1] M1[p.1 - 1] = false) ∧ (p.2 = hi ∨ ∀ (h1:p.2 < M1.length) (h2:H - 1 - p.2 < M2.length),lt M2[H - 1 - p.2] M1[p.2] = true) ∧ RowI B w' (.slice A n c) (P ++ (M1 ++ (M2 ++ S))) ∧ Below B w0 w') (fun p => p.2 - p.1) (lo,hi)
  ⟨rfl,rfl,rfl,rfl,rfl,rfl,rfl,rfl,rfl,rfl,trivial⟩ ⟨Nat.le_refl _,f1,Nat.le_refl _,.inl rfl,.inl rfl,ho,Below.refl _ _⟩ ?_
 rintro ⟨u,v⟩ w1 ⟨g1',g2',g3',g4',g5',ho',b1⟩
 have q1:lo <= u:=g1'
 have q2:u <= v:=g2'
 have q3:v <= hi:=g3'
 have q4:u = lo ∨ ∀ (h1:u - 1 < M1.length) (h2:H - u < M2.length),lt M2[H - u] M1[u - 1] = false:=g4'
 have q5:v = hi ∨ ∀ (h1:v < M1.length) (h2:H - 1 - v < M2.length),lt M2[H - 1 - v] M1[v] = true:=g5'
 have ho1:RowI B w1 (.slice A n c) (P ++ (M1 ++ (M2 ++ S))):=ho'
 clear g1' g2' g3' g4' g5' ho'
 refine brE_dec (fun hlt => ?_) (fun hge => ?_)
 ·have hlt:u < v:=by have:((a + u:Nat):Int) < (a + v:Nat):=hlt; omega
  obtain ⟨h,hh⟩:∃ h,h = (u + v) / 2:=⟨_,rfl⟩
  have eh:(a + u + (a + v)) / 2 = a + h:=by rw [hh]; exact half_sum
  have hh1:h < M1.length:=by omega
  have hh2:H - 1 - h < M2.length:=by omega
  have i1:m + (H - 1 - h) < n:=by omega
  have i0:a + h < n:=by omega
  obtain ⟨g1,hA1,_,hr1,_⟩:=rowI_at ho1 (i:=m + (H - 1 - h)) (by rw [<-rowI_n ho1]; exact i1)
  obtain ⟨g0,hA0,_,hr0,_⟩:=rowI_at ho1 (i:=a + h) (by rw [<-rowI_n ho1]; exact i0)
  rw [get_app1 hh2 (by omega)] at hr1
  rw [get_app0 hh1 (by omega)] at hr0
  refine ⟨((a + u + (a + v):Nat):Int),by (try dsimp only); rw [fit ⟨by omega,by omega⟩]; omega,?_⟩
  refine ⟨((a + u + (a + v):Nat):Int),IntWalk.u64_in _ ⟨by omega,by omega⟩,?_⟩
  refine ⟨.int .u64 (((a + u + (a + v)) / 2:Nat):Int),fun w => ?_,⟨by decide,by decide⟩,?_⟩
  ·rw [binOp_shr,shift_shr_u64 _ _ _ (by decide) (by decide)]; simp
  rw [eh]
  refine ⟨((a + h:Nat):Int),by (try dsimp only); exact fit ⟨by omega,by omega⟩,?_⟩
  refine ⟨((m + (H - 1 - h):Nat):Int),by (try dsimp only); rw [fit ⟨by omega,by omega⟩]; omega,?_⟩
  refine ⟨m + (H - 1 - h),g1,0,rfl,i1,hA1,?_⟩
  refine ⟨_,hr1 0 _ rfl,?_⟩
  refine ⟨a + h,g0,0,rfl,i0,hA0,?_⟩
  refine ⟨_,hr0 0 _ rfl,?_⟩
  refine brE_true hgd ?_
  refine (hcmp M2[H - 1 - h] M1[h] w1 b1 (hok _ (List.getElem_mem _) _ (List.getElem_mem _))).mono ?_
  rintro v' w2 ⟨⟨z,rfl,hz⟩,e2⟩
  have ho2:=ho1.ext e2
  have b2:Below B w0 w2:=b1.trans (e2.mono (Nat.le_trans hB b1.size))
  refine brE_ndec (fun hc => ?_) (fun hc => ?_)
  ·have hc:¬ z < 0:=hc
   have hl:lt M2[H - 1 - h] M1[h] = false:=by
    cases e:lt M2[H - 1 - h] M1[h] with
    | false => rfl
    | true => exact absurd (hz.2 e) hc
   refine ⟨((a + (h + 1):Nat):Int),by (try dsimp only); rw [fit ⟨by omega,by omega⟩]; omega,?_⟩
   refine ⟨(h + 1,v),⟨rfl,rfl,rfl,rfl,rfl,rfl,rfl,rfl,rfl,rfl,trivial⟩,⟨by show lo <= h + 1; omega,by show h + 1 <= v; omega,q3,.inr ?_,q5,ho2,b2⟩,by show v - (h + 1) < v - u; omega⟩
   show ∀ (h1:h + 1 - 1 < M1.length) (h2:H - (h + 1) < M2.length),lt M2[H - (h + 1)] M1[h + 1 - 1] = false
   intro _ _
   have ee:H - (h + 1) = H - 1 - h:=by omega
   simp only [ee,Nat.add_sub_cancel]
   exact hl
  ·have hc:z < 0:=hc
   have hl:=hz.1 hc
   exact ⟨(u,h),⟨rfl,rfl,rfl,rfl,rfl,rfl,rfl,rfl,rfl,rfl,trivial⟩,⟨q1,by show u <= h; omega,by show h <= hi; omega,q4,.inr fun _ _ => hl,ho2,b2⟩,by show h - u < v - u; omega⟩
 have huv:u = v:=by have:¬ ((a + u:Nat):Int) < (a + v:Nat):=hge; omega
 subst huv
 clear hge
 obtain ⟨A1,hA1⟩:∃ A1,A1 = M1.take u:=⟨_,rfl⟩
 obtain ⟨A2,hA2⟩:∃ A2,A2 = M1.drop u:=⟨_,rfl⟩
 obtain ⟨B1,hB1⟩:∃ B1,B1 = M2.take (H - u):=⟨_,rfl⟩
 obtain ⟨B2,hB2⟩:∃ B2,B2 = M2.drop (H - u):=⟨_,rfl⟩
 have hMA:M1 = A1 ++ A2:=by rw [hA1,hA2,List.take_append_drop]
 have hMB:M2 = B1 ++ B2:=by rw [hB1,hB2,List.take_append_drop]
 have lA1:A1.length = u:=by rw [hA1,List.length_take]; omega
 have lA2:A2.length = la - u:=by rw [hA2,List.length_drop,hla]
 have lB1:B1.length = H - u:=by rw [hB1,List.length_take]; omega
 have lB2:B2.length = lb - (H - u):=by rw [hB2,List.length_drop,hlb]
 have sA:=s1
 rw [hMA] at sA
 have sB:=s2
 rw [hMB] at sB
 obtain ⟨sA1,sA2,_⟩:=List.pairwise_append.1 sA
 obtain ⟨sB1,sB2,_⟩:=List.pairwise_append.1 sB
 have hle:∀ x ∈ A1,∀ y ∈ B2,lt y x = false:=by
  intro x hx y hy
  rw [hA1] at hx
  rw [hB2] at hy
  obtain ⟨t,ht,htu,rfl⟩:=mem_take_at hx
  obtain ⟨r,hr,hru,rfl⟩:=mem_drop_at hy
  rcases q4 with e | q4
  ·rcases f5 with f5 | f5 <;> omega
  ·have h1:=q4 (by omega) (by omega)
   have h3:=sorted_le O s1 ht (by omega:u - 1 < M1.length) (by omega)
   have h4:=sorted_le O s2 (by omega:H - u < M2.length) hr hru
   exact O.ntr _ _ _ (O.ntr _ _ _ h3 h1) h4
 have hgt:∀ x ∈ B1,∀ y ∈ A2,lt y x = false:=by
  intro x hx y hy
  rw [hB1] at hx
  rw [hA2] at hy
  obtain ⟨t,ht,htu,rfl⟩:=mem_take_at hx
  obtain ⟨r,hr,hru,rfl⟩:=mem_drop_at hy
  rcases q5 with e | q5
  ·rcases f6 with f6 | f6 <;> omega
  ·have h1:=O.asym _ _ (q5 (by omega) (by omega))
   have h3:=sorted_le O s2 ht (by omega:H - 1 - u < M2.length) (by omega)
   have h4:=sorted_le O s1 (by omega:u < M1.length) hr hru
   exact O.ntr _ _ _ (O.ntr _ _ _ h3 h1) h4
 have e1:P ++ (M1 ++ (M2 ++ S)) = (P ++ A1) ++ (A2 ++ (B1 ++ (B2 ++ S))):=by rw [hMA,hMB]; simp
 have e2:(P ++ A1) ++ (B1 ++ (A2 ++ (B2 ++ S))) = P ++ (A1 ++ (B1 ++ (A2 ++ (B2 ++ S)))):=by simp
 rw [e1] at ho1
 refine ⟨Snd.go C_ok plans251 (by kernel_rfl) ?_⟩
 refine ⟨((m + (H - u):Nat):Int),by (try dsimp only); rw [fit ⟨by omega,by omega⟩]; omega,?_⟩
 refine ⟨Snd.join C_ok plans251 (fun (_:Unit) => [(0,.slice A n c),(1,.int .i64 (a:Nat)),(3,.int .i64 (b:Nat)),(4,.func (.func gd) #[] cb),(18,.int .i64 ((a + H:Nat):Int)),(20,.int .i64 ((a + u:Nat):Int)),(24,.int .i64 ((m + (H - u):Nat):Int))])
  (fun _ w' => RowI B w' (.slice A n c) (P ++ (A1 ++ (B1 ++ (A2 ++ (B2 ++ S))))) ∧ Below B w0 w') (by kernel_rfl) ?_ ?_⟩
 ·refine brE_dec (fun d1 => ?_) (fun d1 => ?_)
  ·have d1:u < la:=by have:((a + u:Nat):Int) < (m:Nat):=d1; omega
   refine brE_dec (fun d2 => ?_) (fun d2 => ?_)
   ·have d2:0 < H - u:=by have:((m:Nat):Int) < (m + (H - u):Nat):=d2; omega
    refine (rotate_spec (a:=a + u) (m:=m) (b:=m + (H - u)) ho1 hn (by rw [List.length_append]; omega) (by omega) (by omega) (by omega) (by omega)).mono ?_
    rintro _ w2 ⟨ho2,b2⟩
    rw [e2] at ho2
    exact ⟨(),⟨rfl,rfl,rfl,rfl,rfl,rfl,rfl,trivial⟩,ho2,b1.trans b2⟩
   ·have d2:B1 = []:=List.length_eq_zero_iff.1 (by have:¬ ((m:Nat):Int) < (m + (H - u):Nat):=d2; omega)
    refine ⟨(),⟨rfl,rfl,rfl,rfl,rfl,rfl,rfl,trivial⟩,?_,b1⟩
    rw [<-e2]
    rw [d2] at ho1 ⊢
    exact ho1
  ·have d1:A2 = []:=List.length_eq_zero_iff.1 (by have:¬ ((a + u:Nat):Int) < (m:Nat):=d1; omega)
   refine ⟨(),⟨rfl,rfl,rfl,rfl,rfl,rfl,rfl,trivial⟩,?_,b1⟩
   rw [<-e2]
   rw [d1] at ho1 ⊢
   exact ho1
 rintro _ w2 ⟨ho2,b2⟩
 refine Snd.join C_ok plans251 (fun (_:List Int) => [(0,.slice A n c),(3,.int .i64 (b:Nat)),(4,.func (.func gd) #[] cb),(18,.int .i64 ((a + H:Nat):Int)),(24,.int .i64 ((m + (H - u):Nat):Int))])
  (fun X w' => X.Perm (A1 ++ B1) ∧ SortedB lt X ∧ RowI B w' (.slice A n c) (P ++ (X ++ (A2 ++ (B2 ++ S)))) ∧ Below B w0 w') (by kernel_rfl) ?_ ?_
 ·refine brE_dec (fun d1 => ?_) (fun d1 => ?_)
  ·have d1:0 < u:=by have:((a:Nat):Int) < (a + u:Nat):=d1; omega
   refine brE_dec (fun d2 => ?_) (fun d2 => ?_)
   ·have d2:u < H:=by have:((a + u:Nat):Int) < (a + H:Nat):=d2; omega
    refine (ih (a:=a) (m:=a + u) (b:=a + H) (P:=P) (M1:=A1) (M2:=B1) (S:=A2 ++ (B2 ++ S)) (by omega) ho2 (Nat.le_trans hB b2.size) ha (by omega) (by omega) (by omega) (by omega) sA1 sB1 (hcmp.later b2) (fun y hy x hx => hok y (by rw [hMA]; exact List.mem_append_left _ hy) x (by rw [hMB]; exact List.mem_append_left _ hx))).mono ?_
    rintro _ w3 ⟨X,hp,hs,ho3,b3⟩
    exact ⟨X,⟨rfl,rfl,rfl,rfl,rfl,trivial⟩,hp,hs,ho3,b2.trans b3⟩
   ·have d2:B1 = []:=List.length_eq_zero_iff.1 (by have:¬ ((a + u:Nat):Int) < (a + H:Nat):=d2; omega)
    refine ⟨A1,⟨rfl,rfl,rfl,rfl,rfl,trivial⟩,by rw [d2,List.append_nil],sA1,?_,b2⟩
    rw [d2] at ho2
    exact ho2
  ·have d1:A1 = []:=List.length_eq_zero_iff.1 (by have:¬ ((a:Nat):Int) < (a + u:Nat):=d1; omega)
   refine ⟨B1,⟨rfl,rfl,rfl,rfl,rfl,trivial⟩,by rw [d1]; exact List.Perm.refl _,sB1,?_,b2⟩
   rw [d1] at ho2
   exact ho2
 rintro X w3 ⟨hXp,hXs,ho3,b3⟩
 have lX:X.length = H:=by rw [hXp.length_eq,List.length_append]; omega
 have fin:∀ (Y:List Int) (w4:World),Y.Perm (A2 ++ B2) -> SortedB lt Y -> RowI B w4 (.slice A n c) ((P ++ X) ++ (Y ++ S)) -> Below B w0 w4 -> ∃ M',M'.Perm (M1 ++ M2) ∧ SortedB lt M' ∧ RowI B w4 (.slice A n c) (P ++ (M' ++ S)) ∧ Below B w0 w4:=by
  intro Y w4 hYp hYs ho4 b4
  obtain ⟨r1,r2⟩:=merge_halves (lt:=lt) hle hgt sA sB hXs hXp hYs hYp
  refine ⟨X ++ Y,by rw [hMA,hMB]; exact r2,r1,?_,b4⟩
  have:P ++ ((X ++ Y) ++ S) = (P ++ X) ++ (Y ++ S):=by simp
  rw [this]; exact ho4
 have e3:P ++ (X ++ (A2 ++ (B2 ++ S))) = (P ++ X) ++ (A2 ++ (B2 ++ S)):=by simp
 rw [e3] at ho3
 refine Snd.fin C_ok (plans:=plans251) (by kernel_rfl) ?_
 refine brE_dec (fun d1 => ?_) (fun d1 => ?_)
 ·have d1:u < la:=by have:((a + H:Nat):Int) < (m + (H - u):Nat):=d1; omega
  refine brE_dec (fun d2 => ?_) (fun d2 => ?_)
  ·have d2:0 < B2.length:=by have:((m + (H - u):Nat):Int) < (b:Nat):=d2; omega
   refine (ih (a:=a + H) (m:=m + (H - u)) (b:=b) (P:=P ++ X) (M1:=A2) (M2:=B2) (S:=S) (by omega) ho3 (Nat.le_trans hB b3.size) (by rw [List.length_append]; omega) (by omega) (by omega) (by omega) d2 sA2 sB2 (hcmp.later b3) (fun y hy x hx => hok y (by rw [hMA]; exact List.mem_append_right _ hy) x (by rw [hMB]; exact List.mem_append_right _ hx))).mono ?_
   rintro _ w4 ⟨Y,hp,hs,ho4,b4⟩
   exact fin Y w4 hp hs ho4 (b3.trans b4)
  ·have d2:B2 = []:=List.length_eq_zero_iff.1 (by have:¬ ((m + (H - u):Nat):Int) < (b:Nat):=d2; omega)
   refine fin A2 w3 (by rw [d2,List.append_nil]) sA2 ?_ b3
   rw [d2] at ho3
   exact ho3
 ·have d1:A2 = []:=List.length_eq_zero_iff.1 (by have:¬ ((a + H:Nat):Int) < (m + (H - u):Nat):=d1; omega)
  refine fin B2 w3 (by rw [d1]; exact List.Perm.refl _) sB2 ?_ b3
  rw [d1] at ho3
  exact ho3
end Go.Proofs.YtdpdjcopkehdjaaGreat.Rk
