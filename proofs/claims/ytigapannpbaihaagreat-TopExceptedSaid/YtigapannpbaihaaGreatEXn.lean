/- a part of the proof: steps, walks and plain laws that the law below stands on; no condition. -/
import Derived.Test.YtigapannpbaihaaGreatEXa
import Derived.Test.YtigapannpbaihaaGreatEXb
import Derived.Test.YtigapannpbaihaaGreatEXc
import Derived.Test.YtigapannpbaihaaGreatEXd
import Derived.Test.YtigapannpbaihaaGreatEXe
import Derived.Test.YtigapannpbaihaaGreatEXf
import Derived.Test.YtigapannpbaihaaGreatEXg
import Derived.Test.YtigapannpbaihaaGreatEXh
import Derived.Test.YtigapannpbaihaaGreatEXj
import Derived.Test.YtigapannpbaihaaGreatEXk
import Derived.Test.YtigapannpbaihaaGreatEXl
import Derived.Test.YtigapannpbaihaaGreatEXm
import Derived.Shelf.Strings.OnBuilder
import Derived.Shelf.Strconv.AtoiAll
import Derived.Shelf.Strconv.Itoa3
import Derived.Shelf.Strings.Search2
import Derived.KernelRfl
import Derived.Test.YtigapannpbaihaaGreatProg
import Derived.WideLaws
set_option linter.unusedVariables false
set_option linter.unusedSimpArgs false
set_option linter.unnecessarySimpa false
set_option linter.unusedSectionVars false
namespace Go.Proofs.YtigapannpbaihaaGreat
open Go.Eng Go.RowKit
def entryOf (K:List Fact) (lang s:Int):NmEntry:=⟨s,!decide (nameL K s lang = ⟨#[]⟩),nameL K s lang⟩
theorem entryOf_ok (K:List Fact) (lang s:Int):(entryOf K lang s).Ok:=rfl
theorem entries_order {K:List Fact} {lang:Int} {l':List NmEntry} (hp:l'.Perm ((statesL K).map (entryOf K lang))) (hs:l'.Pairwise fun a b => ltE b a = false):l'.map NmEntry.state = orderL K lang:=by
 have hmem:∀ e ∈ l',e = entryOf K lang e.state:=fun e he => by
  obtain ⟨s,_,rfl⟩:=List.mem_map.1 (hp.mem_iff.1 he)
  rfl
 refine order_eq ?_ ?_
 ·have:=hp.map NmEntry.state
  rw [List.map_map] at this
  have e:(NmEntry.state ∘ entryOf K lang) = id:=rfl
  rw [e,List.map_id] at this
  exact this
 ·rw [List.pairwise_map]
  refine (List.pairwise_iff_getElem.2 fun i j hi hj hij => ?_)
  have h:=(List.pairwise_iff_getElem.1 hs) i j hi hj hij
  have e1:=hmem _ (List.getElem_mem hi)
  have e2:=hmem _ (List.getElem_mem hj)
  rw [e1,e2,ltE_eq (entryOf_ok _ _ _) (entryOf_ok _ _ _)] at h
  exact h
theorem from_eq (lot:Int) {n:Nat} (hn:0 < n):(lot.tmod n + n).tmod n = ((lot.emod n).toNat:Int) ∧ -(n:Int) < lot.tmod n ∧ lot.tmod n < n:=by
 have hn':(0:Int) < n:=by omega
 have h1:lot.tmod n < n:=Int.tmod_lt_of_pos lot hn'
 have h2:-(n:Int) < lot.tmod n:=by
  have:=Int.lt_tmod_of_pos lot hn'
  exact this
 have h3:=Int.mul_tdiv_add_tmod lot n
 have h4:0 <= lot.emod n:=Int.emod_nonneg lot (by omega)
 refine ⟨?_,h2,h1⟩
 rw [Int.toNat_of_nonneg h4,Int.tmod_eq_emod_of_nonneg (by omega)]
 have h5:lot % (n:Int) = lot.tmod n % n:=by
  conv => lhs; rw [<-h3]
  rw [Int.add_comm,Int.add_mul_emod_self_left]
 show (lot.tmod n + n) % (n:Int) = lot % n
 rw [h5,Int.add_emod_right]
theorem Reads.entry {w:World} {A:Option Addr} {l:List NmEntry} (h:Reads w A (entries l)) {i:Nat} (hi:i < l.length):∃ b o,A = some ⟨b,o,none⟩ ∧ Rd w b (o + i * 3) l[i].cells:=Reads.elem NmEntry.len (by omega) h hi
theorem entries_append (a b:List NmEntry):entries (a ++ b) = entries a ++ entries b:=by simp [entries]
theorem entries_one (x:NmEntry):entries [x] = x.cells:=by simp [entries]
set_option maxRecDepth 100000 in
theorem Alphabet_spec {w:World} {A:Option Addr} {l:List Fact} {c:Nat} (h:HF w A l c) (hl:l.length <= 2 ^ 20) (k day lang lot:Int) :
  CallsV C.P 140 #[.slice A l.length c,.int .i64 k,.int .i64 day,.int .i64 lang,.int .i64 lot] w fun v w' => NewInts w.heap.size w' v (alphaL (atL k day l) lang lot) ∧ Ext w w':=by
 refine callsV_of C_ok (args:=[_,_,_,_,_]) (plans:=[]) Tryz.func140 rfl Tryz.ntmps140 (by kernel_rfl) (Nat.le_of_ble_eq_true rfl) ?_
 refine (look_spec h hl k day).mono ?_
 rintro v w1 ⟨hK,e1⟩
 refine (States_spec (h.ext e1) hl k day).mono ?_
 rintro v2 w2 ⟨hS,e2⟩
 have hkl:=atL_length k day l
 generalize atL k day l = K at *
 have hsl:(statesL K).length <= K.length:=by
  refine Nat.le_trans (sortD_length _) ?_
  unfold whos
  rw [List.length_map]
  exact List.length_filter_le _ _
 obtain ⟨AK,cK,rfl,hrK,_⟩:=hK.slice
 have hrK2:=hrK.ext e2
 have e02:=e1.trans e2
 have hperm:=fun (l':List NmEntry) => entries_order (K:=K) (lang:=lang) (l':=l')
 unfold alphaL
 generalize hSe:statesL K = S at *
 obtain ⟨AS,cS,rfl,hrS,_⟩:=hS.slice
 refine loopE C_ok (fun (t:Nat × Value) => [(3,.int .i64 lang),(4,.int .i64 lot),(11,.slice AK K.length cK),(12,t.2),(28,.slice AS S.length cS),(29,.int .i64 S.length),(30,.int .i64 t.1)])
  (fun t w' => t.1 <= S.length ∧ Ext w2 w' ∧ w'.ownsRow w2.heap.size 327 3 t.2 ((S.take t.1).map (entryOf K lang)).length (entries ((S.take t.1).map (entryOf K lang)))) (fun t => S.length - t.1) (0,.slice none 0 0)
  ⟨rfl,rfl,rfl,rfl,rfl,rfl,rfl,trivial⟩ ⟨Nat.zero_le _,Ext.refl _,World.ownsRow_nil _ _ _ _⟩ ?_
 rintro ⟨i,v⟩ w3 ⟨hi',e3,ho'⟩
 have hi:i <= S.length:=hi'
 have ho:w3.ownsRow w2.heap.size 327 3 v ((S.take i).map (entryOf K lang)).length (entries ((S.take i).map (entryOf K lang))):=ho'
 clear hi' ho'
 refine brE_dec (fun hlt => ?_) (fun hge => ?_)
 ·have hlt:i < S.length:=by have:(i:Int) < (S.length:Nat):=hlt; omega
  have next:IntKind.i64.wrap ((i:Int) + 1) = ((i + 1:Nat):Int):=fit ⟨by omega,by omega⟩
  have hlen:((S.take i).map (entryOf K lang)).length <= S.length:=by rw [List.length_map,List.length_take]; omega
  have step:(S.take (i + 1)).map (entryOf K lang) = (S.take i).map (entryOf K lang) ++ [entryOf K lang S[i]]:=by
   rw [List.take_succ_eq_append_getElem hlt,List.map_append]; rfl
  obtain ⟨b,o,hA,hc⟩:=Reads.int (hrS.ext e3) hlt
  refine ⟨i,b,o,rfl,hlt,hA,?_⟩
  refine ⟨_,by simpa using hc,?_⟩
  refine (named_spec (hrK2.ext e3) (by omega) S[i] lang).mono ?_
  rintro v4 w4 ⟨rfl,e4⟩
  have hent:entryOf K lang S[i] = ⟨S[i],!decide (((lastP (isNm S[i] lang) K).getD factZ).name = ⟨#[]⟩),((lastP (isNm S[i] lang) K).getD factZ).name⟩:=rfl
  generalize (lastP (isNm S[i] lang) K).getD factZ = y at *
  intro g w5 h5
  refine ⟨rfl,_,_,h5.here,Nat.le_of_ble_eq_true rfl,rfl,?_⟩
  intro w6 h6
  have h6:Put w5 g (.cells y.cells.toArray 180 (0,0)) w6:=h6
  have e46:Ext w4 w6:=h6.ext_of h5.ext (by rw [h5.new]; exact Nat.le_refl _)
  have e36:=e4.trans e46
  refine ⟨_,cell_of_block h6.here rfl,?_⟩
  refine ⟨_,neqStr _ _ y.name ⟨#[]⟩,?_⟩
  refine ⟨_,cell_of_block h6.here rfl,?_⟩
  intro g7 w7 h7
  have ho7:w7.ownsRow w2.heap.size 327 3 v _ _:=ownsRow_ext ho (e36.trans h7.ext)
  have e7:=(e3.trans e36).trans h7.ext
  refine ⟨rfl,rfl,rfl,w2.heap.size,_,_,NmEntry.cells ⟨S[i],!decide (y.name = ⟨#[]⟩),y.name⟩,ho7,e7.size,Nat.le_of_ble_eq_true rfl,rfl,rfl,.inr ⟨g7,0,rfl,Rd.of_block h7.here⟩,rfl,rfl,by omega,by simp only [maxLen]; omega,?_⟩
  intro v8 w8 ho8 hg8 _
  refine ⟨_,next,?_⟩
  refine ⟨(i + 1,v8),⟨rfl,rfl,rfl,rfl,rfl,rfl,rfl,trivial⟩,⟨hlt,app_ext e7 ho7 hg8,?_⟩,by show S.length - (i + 1) < S.length - i; omega⟩
  show w8.ownsRow w2.heap.size 327 3 v8 ((S.take (i + 1)).map (entryOf K lang)).length (entries ((S.take (i + 1)).map (entryOf K lang)))
  rw [step,entries_append,entries_one,List.length_append,hent]
  exact ho8
 have:i = S.length:=by have:¬ (i:Int) < (S.length:Nat):=hge; omega
 subst this
 rw [List.take_length] at ho
 have hml:(S.map (entryOf K lang)).length = S.length:=List.length_map ..
 refine (SortE_spec ho (by omega)).mono ?_
 rintro r w4 ⟨rfl,l',hp,hs,ho4,hg4,_⟩
 have hord:=hperm l' hp hs
 have hll:l'.length = S.length:=by rw [hp.length_eq,hml]
 have hol:(orderL K lang).length = l'.length:=by rw [<-hord,List.length_map]
 have e24:Ext w2 w4:=app_ext e3 ho hg4
 have e04:=e02.trans e24
 rw [<-hord]
 clear hord hperm hp hs hol
 simp only [List.length_map]
 obtain ⟨A4,c4,rfl,hr4,_⟩:=reads_of_owns ho4
 refine brE_dec (fun h0 => ?_) (fun h0 => ?_)
 ·have h0:(l'.length:Int) = 0:=h0
  have:l' = []:=List.length_eq_zero_iff.1 (by omega)
  subst this
  exact ⟨newInts_nil _ _,e04⟩
 have h0:¬ (l'.length:Int) = 0:=h0
 have hn:0 < l'.length:=by omega
 obtain ⟨f1,f2,f3⟩:=from_eq lot hn
 refine ⟨h0,_,rfl,?_⟩
 refine ⟨_,fit ⟨by omega,by omega⟩,?_⟩
 refine ⟨h0,_,f1,?_⟩
 have hfr:(lot.emod l'.length).toNat < l'.length:=by
  have:=Int.emod_lt_of_pos lot (show (0:Int) < l'.length by omega)
  have h':lot.emod l'.length < l'.length:=this
  have h'':0 <= lot.emod l'.length:=Int.emod_nonneg lot (by omega)
  omega
 generalize (lot.emod l'.length).toNat = fr at *
 refine loopE C_ok (fun (t:Nat × Value) => [(12,.slice A4 l'.length c4),(17,.int .i64 l'.length),(18,.int .i64 fr),(19,t.2),(65,.int .i64 l'.length),(66,.int .i64 t.1)])
  (fun t w' => t.1 <= l'.length ∧ Ext w4 w' ∧ NewInts w4.heap.size w' t.2 ((List.range t.1).map fun i => (l'.map NmEntry.state).getD ((fr + i) % l'.length) 0)) (fun t => l'.length - t.1) (0,.slice none 0 0)
  ⟨rfl,rfl,rfl,rfl,rfl,rfl,trivial⟩ ⟨Nat.zero_le _,Ext.refl _,newInts_nil _ _⟩ ?_
 rintro ⟨i,v⟩ w5 ⟨hi',e5,ho'⟩
 have hi:i <= l'.length:=hi'
 have ho5:NewInts w4.heap.size w5 v ((List.range i).map fun i => (l'.map NmEntry.state).getD ((fr + i) % l'.length) 0):=ho'
 clear hi' ho'
 refine brE_dec (fun hlt => ?_) (fun hge => ?_)
 ·have hlt:i < l'.length:=by have:(i:Int) < (l'.length:Nat):=hlt; omega
  have next:IntKind.i64.wrap ((i:Int) + 1) = ((i + 1:Nat):Int):=fit ⟨by omega,by omega⟩
  have hj:(fr + i) % l'.length < l'.length:=Nat.mod_lt _ hn
  have hlen:((List.range i).map fun i => (l'.map NmEntry.state).getD ((fr + i) % l'.length) 0).length <= l'.length:=by rw [List.length_map,List.length_range]; omega
  have hget:(l'.map NmEntry.state).getD ((fr + i) % l'.length) 0 = l'[(fr + i) % l'.length].state:=by
   rw [List.getD_eq_getElem?_getD,List.getElem?_map,List.getElem?_eq_getElem hj]; rfl
  refine ⟨((fr + i:Nat):Int),by rw [fit ⟨by omega,by omega⟩]; omega,?_⟩
  refine ⟨h0,(((fr + i) % l'.length:Nat):Int),by rw [Int.tmod_eq_emod_of_nonneg (by omega)]; omega,?_⟩
  obtain ⟨b,o,hA,hc⟩:=Reads.entry (hr4.ext e5) hj
  refine ⟨(fr + i) % l'.length,b,o,rfl,hj,hA,?_⟩
  refine ⟨_,hc 0 _ rfl,?_⟩
  intro g7 w7 h7
  have ho7:w7.ownsRow w4.heap.size 3 1 v _ _:=ownsRow_ext ho5 h7.ext
  have e7:=e5.trans h7.ext
  refine ⟨rfl,rfl,rfl,w4.heap.size,_,_,[.int .i64 l'[(fr + i) % l'.length].state],ho7,e7.size,Nat.le_of_ble_eq_true rfl,rfl,rfl,.inr ⟨g7,0,rfl,Rd.of_block h7.here⟩,rfl,rfl,by omega,by simp only [maxLen]; omega,?_⟩
  intro v8 w8 ho8 hg8 _
  refine ⟨_,next,?_⟩
  refine ⟨(i + 1,v8),⟨rfl,rfl,rfl,rfl,rfl,rfl,trivial⟩,⟨hlt,app_ext e7 ho7 hg8,?_⟩,by show l'.length - (i + 1) < l'.length - i; omega⟩
  show NewInts w4.heap.size w8 v8 ((List.range (i + 1)).map fun i => (l'.map NmEntry.state).getD ((fr + i) % l'.length) 0)
  rw [List.range_succ,List.map_append]
  unfold NewInts
  rw [ints_append,List.length_append,List.map_cons,List.map_nil,hget]
  exact ho8
 ·have:i = l'.length:=by have:¬ (i:Int) < (l'.length:Nat):=hge; omega
  subst this
  exact ⟨NewInts.base ho5 e04.size,e04.trans e5⟩
theorem IndexI_spec {w:World} {A:Option Addr} {xs:List Int} {c:Nat} (hr:Reads w A (ints xs)) (hl:xs.length <= 2 ^ 40) (n:Int) :
  CallsV C.P 164 #[.slice A xs.length c,.int .i64 n] w fun v w' => (v = .int .i64 (match xs.findIdx? (fun x => decide (x = n)) with | some i => (i:Int) | none => -1)) ∧ w' = w:=by
 refine callsV_of C_ok (args:=[_,_]) (plans:=[]) Tryz.func164 rfl Tryz.ntmps164 (by kernel_rfl) (Nat.le_of_ble_eq_true rfl) ?_
 refine loopE C_ok (fun (i:Nat) => [(0,.slice A xs.length c),(1,.int .i64 n),(7,.int .i64 xs.length),(8,.int .i64 i)])
  (fun i w' => w' = w ∧ i <= xs.length ∧ ∀ j (h:j < xs.length),j < i -> xs[j] ≠ n) (fun i => xs.length - i) 0 ⟨rfl,rfl,rfl,rfl,trivial⟩ ⟨rfl,Nat.zero_le _,fun _ _ h => absurd h (Nat.not_lt_zero _)⟩ ?_
 rintro i w1 ⟨rfl,hi,hall⟩
 refine brE_dec (fun hlt => ?_) (fun hge => ?_)
 ·have hlt:i < xs.length:=by have:(i:Int) < (xs.length:Nat):=hlt; omega
  obtain ⟨b,o,hA,hc⟩:=Reads.int hr hlt
  refine ⟨i,b,o,rfl,hlt,hA,?_⟩
  refine ⟨_,by simpa using hc,?_⟩
  refine brE_dec (fun h2 => ?_) (fun h2 => ?_)
  ·have h2:n = xs[i]:=h2
   have:xs.findIdx? (fun x => decide (x = n)) = some i:=by
    rw [List.findIdx?_eq_some_iff_getElem]
    exact ⟨hlt,decide_eq_true h2.symm,fun j hj => by simpa using hall j (by omega) hj⟩
   exact ⟨by rw [this],rfl⟩
  ·have h2:¬ n = xs[i]:=h2
   refine ⟨((i + 1:Nat):Int),fit ⟨by omega,by omega⟩,?_⟩
   refine ⟨i + 1,⟨rfl,rfl,rfl,rfl,trivial⟩,⟨rfl,hlt,fun j hj hji => ?_⟩,by omega⟩
   rcases Nat.lt_or_ge j i with h | h
   ·exact hall j hj h
   ·obtain rfl:j = i:=by omega
    exact fun e => h2 e.symm
 ·have:i = xs.length:=by have:¬ (i:Int) < (xs.length:Nat):=hge; omega
  subst this
  have:xs.findIdx? (fun x => decide (x = n)) = none:=by
   rw [List.findIdx?_eq_none_iff]
   intro x hx
   obtain ⟨j,hj,rfl⟩:=List.getElem_of_mem hx
   exact decide_eq_false (hall j hj hj)
  exact ⟨by rw [this],rfl⟩
theorem ContainsI_spec {w:World} {A:Option Addr} {xs:List Int} {c:Nat} (hr:Reads w A (ints xs)) (hl:xs.length <= 2 ^ 40) (n:Int) :
  CallsV C.P 117 #[.slice A xs.length c,.int .i64 n] w fun v w' => v = .bool (decide (n ∈ xs)) ∧ w' = w:=by
 refine callsV_of C_ok (args:=[_,_]) (plans:=[]) Tryz.func117 rfl Tryz.ntmps117 (by kernel_rfl) (Nat.le_of_ble_eq_true rfl) ?_
 refine (IndexI_spec hr hl n).mono ?_
 rintro v w1 ⟨rfl,rfl⟩
 refine ⟨congrArg Value.bool ?_,rfl⟩
 cases hf:xs.findIdx? (fun x => decide (x = n)) with
 | some i =>
  obtain ⟨hi,he,_⟩:=List.findIdx?_eq_some_iff_getElem.1 hf
  have he:=of_decide_eq_true he
  show decide ((i:Int) >= 0) = _
  rw [decide_eq_true (by omega),decide_eq_true (he ▸ List.getElem_mem hi)]
 | none =>
  rw [List.findIdx?_eq_none_iff] at hf
  show decide ((-1:Int) >= 0) = _
  rw [decide_eq_false (by omega),decide_eq_false fun h => by have:=hf n h; simp at this]
theorem Letter_spec {w:World} {A:Option Addr} {l:List Fact} {c:Nat} (h:HF w A l c) (hl:l.length <= 2 ^ 20) (k day lang lot s:Int) :
  CallsV C.P 139 #[.slice A l.length c,.int .i64 k,.int .i64 day,.int .i64 lang,.int .i64 lot,.int .i64 s] w fun v w' => v = .tuple #[.int .i64 (letterL (atL k day l) lang lot s).1,.bool (letterL (atL k day l) lang lot s).2] ∧ Ext w w':=by
 refine callsV_of C_ok (args:=[_,_,_,_,_,_]) (plans:=[]) Tryz.func139 rfl Tryz.ntmps139 (by kernel_rfl) (Nat.le_of_ble_eq_true rfl) ?_
 refine (Alphabet_spec h hl k day lang lot).mono ?_
 rintro v w1 ⟨ho,e1⟩
 have hlen:(alphaL (atL k day l) lang lot).length <= l.length:=by
  unfold alphaL
  simp only [List.length_map,List.length_range]
  rw [(orderL_perm _ _).length_eq]
  refine Nat.le_trans (sortD_length _) ?_
  unfold whos
  rw [List.length_map]
  exact Nat.le_trans (List.length_filter_le _ _) (atL_length k day l)
 unfold letterL
 generalize alphaL (atL k day l) lang lot = a at *
 obtain ⟨Aa,ca,rfl,hra,_⟩:=ho.slice
 refine (IndexI_spec hra (by omega) s).mono ?_
 rintro v w2 ⟨hv,rfl⟩
 cases hf:a.findIdx? (fun x => decide (x = s)) with
 | some i =>
  rw [hf] at hv
  have hz:∃ z:Int,z = (i:Int):=⟨_,rfl⟩
  obtain ⟨z,hz⟩:=hz
  have hv:v = .int .i64 z:=by rw [hz]; exact hv
  subst hv
  refine brE_dec (fun hge => ?_) (fun hlt => ?_)
  ·rw [hz]; exact ⟨rfl,e1⟩
  ·exact absurd (show z >= 0 by omega) hlt
 | none =>
  rw [hf] at hv
  have hz:∃ z:Int,z = -1:=⟨_,rfl⟩
  obtain ⟨z,hz⟩:=hz
  have hv:v = .int .i64 z:=by rw [hz]; exact hv
  subst hv
  refine brE_dec (fun hge => ?_) (fun hlt => ?_)
  ·exact absurd (show z >= 0 from hge) (by omega)
  ·exact ⟨rfl,e1⟩
end Go.Proofs.YtigapannpbaihaaGreat
namespace Go.Proofs.YtigapannpbaihaaGreat
open Go.Eng Go.RowKit
theorem IndexFuncI_spec {w:World} {A:Option Addr} {l:List Int} {c gd:Nat} {cb:Array Value} {p:Int -> Bool} (hr:Reads w A (ints l)) (hl:l.length <= 2 ^ 40) (hgd:C.can gd = true)
  (hdel:∀ (x:Int) (w':World),Ext w w' -> CallsV C.P gd (#[] ++ [.int .i64 x].toArray ++ cb) w' fun v w'' => v = .bool (p x) ∧ Ext w' w'') :
  CallsV C.P 163 #[.slice A l.length c,.func (.func gd) #[] cb] w fun v w' => ((v = .int .i64 (-1) ∧ ∀ x ∈ l,p x = false) ∨ ∃ i:Nat,v = .int .i64 (i:Nat) ∧ ∃ h:i < l.length,p l[i] = true ∧ ∀ j (hj:j < l.length),j < i -> p l[j] = false) ∧ Ext w w':=by
 refine callsV_of C_ok (args:=[_,_]) (plans:=[]) Tryz.func163 rfl Tryz.ntmps163 (by kernel_rfl) (Nat.le_of_ble_eq_true rfl) ?_
 refine loopE C_ok (fun (i:Nat) => [(0,.slice A l.length c),(1,.func (.func gd) #[] cb),(7,.int .i64 l.length),(8,.int .i64 i)])
  (fun i w' => Ext w w' ∧ i <= l.length ∧ ∀ j (hj:j < l.length),j < i -> p l[j] = false) (fun i => l.length - i) 0 ⟨rfl,rfl,rfl,rfl,trivial⟩
  ⟨Ext.refl _,Nat.zero_le _,fun j _ hj => absurd hj (Nat.not_lt_zero _)⟩ ?_
 rintro i w1 ⟨e1,hi,hall⟩
 refine brE_dec (fun hlt => ?_) (fun hge => ?_)
 ·have hlt:i < l.length:=by have:(i:Int) < (l.length:Nat):=hlt; omega
  obtain ⟨b,o,hA,hc⟩:=Reads.int (hr.ext e1) hlt
  refine ⟨i,b,o,rfl,hlt,hA,?_⟩
  refine ⟨_,by simpa using hc,?_⟩
  refine brE_true hgd ?_
  refine (hdel l[i] w1 e1).mono ?_
  rintro v w2 ⟨rfl,e2⟩
  refine brE_mk (fun h2 => ?_) (fun h2 => ?_)
  ·exact ⟨.inr ⟨i,rfl,hlt,h2,hall⟩,e1.trans e2⟩
  ·refine ⟨((i + 1:Nat):Int),fit ⟨by omega,by omega⟩,?_⟩
   refine ⟨i + 1,⟨rfl,rfl,rfl,rfl,trivial⟩,⟨e1.trans e2,hlt,fun j hj hji => ?_⟩,by omega⟩
   rcases Nat.lt_or_ge j i with h | h
   ·exact hall j hj h
   ·obtain rfl:j = i:=by omega
    exact h2
 ·have:i = l.length:=by have:¬ (i:Int) < (l.length:Nat):=hge; omega
  subst this
  refine ⟨.inl ⟨rfl,fun x hx => ?_⟩,e1⟩
  obtain ⟨j,hj,rfl⟩:=List.getElem_of_mem hx
  exact hall j hj hj
set_option maxRecDepth 100000 in
theorem DeleteFuncI_spec {B:Nat} {w:World} {v:Value} {l:List Int} {gd:Nat} {cb:Array Value} {p:Int -> Bool} (ho:NewInts B w v l) (hB:B <= w.heap.size) (hl:l.length <= 2 ^ 40) (hgd:C.can gd = true)
  (hdel:∀ (x:Int) (w':World),Below B w w' -> CallsV C.P gd (#[] ++ [.int .i64 x].toArray ++ cb) w' fun v w'' => v = .bool (p x) ∧ Ext w' w'') :
  CallsV C.P 232 #[v,.func (.func gd) #[] cb] w fun v' w' => NewInts B w' v' (l.filter fun x => !p x) ∧ Below B w w':=by
 obtain ⟨A,cap,rfl,hR,hlc⟩:=ho.slice
 refine callsV_of C_ok (args:=[_,_]) (plans:=[]) Tryz.func232 rfl Tryz.ntmps232 (by kernel_rfl) (Nat.le_of_ble_eq_true rfl) ?_
 refine (IndexFuncI_spec hR hl hgd fun x w' e => hdel x w' (e.mono hB)).mono ?_
 rintro v w1 ⟨hi | ⟨i0,rfl,hi0,hsm,hfirst⟩,e1⟩
 ·obtain ⟨rfl,hall⟩:=hi
  have e:(l.filter fun x => !p x) = l:=List.filter_eq_self.2 fun x hx => by rw [hall x hx]; rfl
  rw [e]
  exact ⟨ho.ext e1,e1.mono hB⟩
 refine ⟨((i0 + 1:Nat):Int),fit ⟨by omega,by omega⟩,?_⟩
 have hA:∃ g,A = some ⟨g,0,none⟩:=by
  obtain ⟨_,⟨hv,h0⟩ | ⟨g,cap',cur,hv,_⟩⟩:=ho
  ·omega
  ·simp at hv; exact ⟨g,hv.1⟩
 obtain ⟨g,rfl⟩:=hA
 have kp0:=keep_first hi0 hsm hfirst
 have ho1:w1.ownsRow B 3 1 (.slice (some ⟨g,0,none⟩) l.length cap) l.length (ints l):=ho.ext e1
 refine loopE C_ok (fun (s:Nat × Nat × List Int) => [(0,.slice (some ⟨g,0,none⟩) l.length cap),(1,.func (.func gd) #[] cb),(5,.int .i64 s.2.1),(6,.int .i64 s.1)])
  (fun s w' => s.2.1 = ((l.take s.1).filter fun x => !p x).length ∧ s.2.1 < s.1 ∧ s.1 <= l.length ∧ s.2.2.length = l.length ∧ w'.ownsRow B 3 1 (.slice (some ⟨g,0,none⟩) l.length cap) l.length (ints s.2.2) ∧ s.2.2.take s.2.1 = ((l.take s.1).filter fun x => !p x) ∧ (∀ k,s.1 <= k -> s.2.2[k]? = l[k]?) ∧ Below B w w')
  (fun s => l.length - s.1) (i0 + 1,i0,l) ⟨rfl,rfl,rfl,rfl,trivial⟩
  ⟨by show i0 = _; rw [kp0,List.length_take]; omega,Nat.lt_succ_self _,hi0,rfl,ho1,kp0.symm,fun _ _ => rfl,e1.mono hB⟩ ?_
 rintro ⟨j,i,R⟩ w2 ⟨hi',hij',hj',hRl',ho2',htake',hrest',b2⟩
 have hi:i = ((l.take j).filter fun x => !p x).length:=hi'
 have hij:i < j:=hij'
 have hj:j <= l.length:=hj'
 have hRl:R.length = l.length:=hRl'
 have ho2:w2.ownsRow B 3 1 (.slice (some ⟨g,0,none⟩) l.length cap) l.length (ints R):=ho2'
 have htake:R.take i = ((l.take j).filter fun x => !p x):=htake'
 have hrest:∀ k,j <= k -> R[k]? = l[k]?:=hrest'
 clear hRl' hi' hij' hj' ho2' hrest' htake'
 refine brE_dec (fun hlt => ?_) (fun hge => ?_)
 ·have hlt:j < l.length:=by have:(j:Int) < (l.length:Nat):=hlt; omega
  have next:IntKind.i64.wrap ((j:Int) + 1) = ((j + 1:Nat):Int):=fit ⟨by omega,by omega⟩
  have hRj:R[j]'(by omega) = l[j]:=by
   have:=hrest j (Nat.le_refl _)
   rw [List.getElem?_eq_getElem hlt,List.getElem?_eq_getElem (by omega)] at this
   exact Option.some.inj this
  have hreads:Reads w2 (some ⟨g,0,none⟩) (ints R):=by
   obtain ⟨A',c',e,h,_⟩:=reads_of_owns ho2
   cases e; exact h
  obtain ⟨b1,o1,hA1,hc1⟩:=Reads.int hreads (i:=j) (by omega)
  cases hA1
  rw [hRj] at hc1
  refine ⟨j,g,0,rfl,hlt,rfl,?_⟩
  refine ⟨_,by simpa using hc1,?_⟩
  refine brE_true hgd ?_
  refine (hdel l[j] w2 b2).mono ?_
  rintro v w5 ⟨rfl,e25⟩
  have hBw2:B <= w2.heap.size:=Nat.le_trans hB b2.size
  have b5:Below B w w5:=b2.trans (e25.mono hBw2)
  have ho5:=ownsRow_ext ho2 e25
  have hk:=keep_at (p:=p) hlt
  refine brE_mk (fun h2 => ?_) (fun h2 => ?_)
  ·have h2:p l[j] = false:=by simpa using h2
   rw [h2,if_neg (by decide)] at hk
   obtain ⟨cur,hg,hgB,hcl,hccap,hncap,hdl,hct,hput⟩:=ownsRow_open ho5
   refine ⟨i,g,0,rfl,(by omega:i < l.length),rfl,?_⟩
   refine ⟨rfl,_,_,hg,by show 0 + i * 1 + 1 <= cur.length; omega,rfl,?_⟩
   intro w6 h6
   have h6:Put w5 g (.cells (splice cur (0 + i * 1) (enc1 l[j])).toArray 3 (0,0)) w6:=h6
   have ho6:=hput (0 + i * 1) (enc1 l[j]) w6 (by show 0 + i * 1 + 1 <= _; omega) h6
   have hset:splice (ints R) (i * 1) (enc1 l[j]) = ints (R.set i l[j]):=by
    rw [<-ints_flat,<-ints_flat]
    exact flat_set (enc:=enc1) (k:=1) (fun _ => rfl) (by omega) _
   rw [show 0 + i * 1 = i * 1 by omega,hset] at ho6
   have nexti:IntKind.i64.wrap ((i:Int) + 1) = ((i + 1:Nat):Int):=fit ⟨by omega,by omega⟩
   refine ⟨_,nexti,?_⟩
   refine ⟨_,next,?_⟩
   refine ⟨(j + 1,i + 1,R.set i l[j]),⟨rfl,rfl,rfl,rfl,trivial⟩,⟨?_,by show i + 1 < j + 1; omega,hlt,by show (R.set i l[j]).length = _; rw [List.length_set,hRl],ho6,?_,?_,below_put b5 h6 hgB⟩,by show l.length - (j + 1) < l.length - j; omega⟩
   ·show i + 1 = ((l.take (j + 1)).filter fun x => !p x).length
    rw [hk,List.length_append,<-hi]; rfl
   ·show (R.set i l[j]).take (i + 1) = ((l.take (j + 1)).filter fun x => !p x)
    have hil:i < (R.set i l[j]).length:=by rw [List.length_set]; omega
    rw [hk,List.take_succ_eq_append_getElem hil,List.take_set_of_le (Nat.le_refl _),htake]
    congr 1
    simp
   ·intro k hk1
    show (R.set i l[j])[k]? = l[k]?
    have hk1:j + 1 <= k:=hk1
    rw [List.getElem?_set_ne (by omega)]
    exact hrest k (by omega)
  ·have h2:p l[j] = true:=by simpa using h2
   rw [h2,if_pos rfl,List.append_nil] at hk
   refine ⟨_,next,?_⟩
   exact ⟨(j + 1,i,R),⟨rfl,rfl,rfl,rfl,trivial⟩,⟨by show i = ((l.take (j + 1)).filter fun x => !p x).length; rw [hk]; exact hi,by show i < j + 1; omega,hlt,hRl,ho5,by show R.take i = ((l.take (j + 1)).filter fun x => !p x); rw [hk]; exact htake,fun k hk1 => hrest k (by have:j + 1 <= k:=hk1; omega),b5⟩,by show l.length - (j + 1) < l.length - j; omega⟩
 ·have:j = l.length:=by have:¬ (j:Int) < (l.length:Nat):=hge; omega
  subst this
  rw [List.take_length] at hi htake
  obtain ⟨cur,hg,hgB,hcl,hccap,hncap,hdl,hct,hput⟩:=ownsRow_open ho2
  refine ⟨i,l.length,rfl,rfl,by omega,by omega,?_⟩
  have hA:(if cap = i then (some (⟨g,0,none⟩:Addr)) else (some (⟨g,0,none⟩:Addr)).map (·.add (i * 1))) = some ⟨g,0 + i * 1,none⟩:=by
   rw [if_neg (by omega)]
   simp [add_spot]
  refine clearRow (esz:=1) C_ok rfl rfl rfl rfl rfl rfl rfl (by decide) hA (by omega) hg (by omega) ?_
  intro zs w3 hzs h3
  have ho3:=hput (0 + i * 1) zs w3 (by rw [hzs]; omega) h3
  refine ⟨0,i,rfl,rfl,Nat.zero_le _,by omega,?_⟩
  have e:(if cap = 0 then (some ⟨g,0,none⟩:Option Addr) else (some (⟨g,0,none⟩:Addr)).map (·.add (0 * 1))) = some ⟨g,0,none⟩:=by
   split <;> rfl
  have hcut:=ownsRow_cut ho3 (k:=i) (by omega)
  have hft:(ints R).take (i * 1) = ints (R.take i):=by rw [Nat.mul_one,ints,ints,List.map_take]
  rw [show 0 + i * 1 = i * 1 by omega,splice_take_at (by rw [ints_length]; omega),hft,htake] at hcut
  refine ⟨?_,below_put b2 h3 hgB⟩
  show w3.ownsRow B 3 1 (.slice (if cap = 0 then (some ⟨g,0,none⟩:Option Addr) else (some (⟨g,0,none⟩:Addr)).map (·.add (0 * 1))) i cap) (l.filter fun x => !p x).length _
  rw [e,<-hi]
  exact hcut
theorem recognised1_spec {w:World} {A:Option Addr} {l:List Fact} {c g3 g4 g5:Nat} {host s:Int} (hr:Reads w A (fcells l)) (hl:l.length <= 2 ^ 20) (h3:w.heap[g3]? = some (.cells #[.slice A l.length c] 316 (0,0))) (h4:BoxI w g4 host) (h5:BoxI w g5 s) (x:Int) :
  CallsV C.P 233 (#[] ++ [.int .i64 x].toArray ++ #[.pointer (some ⟨g3,0,none⟩),.pointer (some ⟨g4,0,none⟩),.pointer (some ⟨g5,0,none⟩)]) w fun v w' => v = .bool (!l.any (recogB host s x)) ∧ Ext w w':=by
 refine callsV_of C_ok (args:=[_,_,_,_]) (plans:=[]) Tryz.func233 rfl Tryz.ntmps233 (by kernel_rfl) (Nat.le_of_ble_eq_true rfl) ?_
 intro g w1 h1
 refine ⟨_,cell_of_block (h1.ext.heap h3) rfl,?_⟩
 refine ⟨[],[.pointer (some ⟨g4,0,none⟩),.pointer (some ⟨g5,0,none⟩),.pointer (some ⟨g,0,none⟩)],rfl,rfl,?_⟩
 refine (some_spec (p:=recogB host s x) (hr.ext h1.ext) hl rfl fun y w' e => recognised11_spec y w' ((h4.ext h1.ext).ext e) ((h5.ext h1.ext).ext e) (e.heap h1.here)).mono ?_
 rintro v w2 ⟨rfl,e2⟩
 exact ⟨rfl,h1.ext.trans e2⟩
theorem livingL_length (c:List Fact) (k s cl:Int):(livingL c k s cl).length <= c.length:=Nat.le_trans (sortD_length _) (fm_length _ _ _)
set_option maxRecDepth 100000 in
theorem vrecognised_spec {w:World} {A:Option Addr} {l:List Fact} {c:Nat} (hr:Reads w A (fcells l)) (hl:l.length <= 2 ^ 20) (host s:Int) :
  CallsV C.P 198 #[.slice A l.length c,.int .i64 host,.int .i64 s] w fun v w' => v = .tuple #[.int .i64 (recogL l host s).1,.bool (recogL l host s).2] ∧ Ext w w':=by
 refine callsV_of C_ok (args:=[_,_,_]) (plans:=[]) Tryz.func198 rfl Tryz.ntmps198 (by kernel_rfl) (Nat.le_of_ble_eq_true rfl) ?_
 intro g3 w1 h1
 have M1:=(Mem.start w).alloc h1
 intro g4 w2 h2
 have M2:=M1.alloc h2
 intro g5 w3 h3
 have M3:=M2.alloc h3
 refine ⟨_,M3.cell 2 rfl rfl,?_⟩
 refine ⟨_,M3.cell 0 rfl rfl,?_⟩
 have hr3:=hr.ext M3.ext
 have c3:w3.heap[g3]? = some (.cells #[.slice A l.length c] 316 (0,0)):=M3.get 2 rfl
 have c4:BoxI w3 g4 host:=M3.get 1 rfl
 have c5:BoxI w3 g5 s:=M3.get 0 rfl
 refine (living_spec hr3 hl 2 s 1).mono ?_
 rintro v4 w4 ⟨ho4,e4⟩
 have hll:=livingL_length l 2 s 1
 have ex:=M3.ext
 obtain ⟨A4,k4,rfl,hr4,_⟩:=ho4.slice
 refine brE_dec (fun a1 => ?_) (fun a1 => ?_)
 case' refine_1 =>
  have a1:((livingL l 2 s 1).length:Int) > 1:=a1
  refine ⟨[],[.pointer (some ⟨g3,0,none⟩),.pointer (some ⟨g4,0,none⟩),.pointer (some ⟨g5,0,none⟩)],rfl,rfl,?_⟩
  have ee:∀ {w':World},Below w3.heap.size w4 w' -> Ext w3 w':=fun b => Below.trans e4 b
  refine (DeleteFuncI_spec (p:=fun x => !l.any (recogB host s x)) ho4 e4.size (by omega) rfl fun x w' b => recognised1_spec (hr3.ext (ee b)) hl ((ee b).heap c3) (c4.ext (ee b)) (c5.ext (ee b)) x).mono ?_
  rintro v5 w5 ⟨ho5,b5⟩
  have hch:(livingL l 2 s 1).filter (fun x => !!l.any (recogB host s x)) = chosenL l host s:=by
   unfold chosenL
   rw [if_pos (by omega)]
   congr 1
   funext x
   rw [Bool.not_not]
  rw [hch] at ho5
  have e5:Ext w3 w5:=Below.trans e4 b5
 case' refine_2 =>
  have a1:¬ ((livingL l 2 s 1).length:Int) > 1:=a1
  have hch:livingL l 2 s 1 = chosenL l host s:=by
   unfold chosenL
   rw [if_neg (by omega)]
  have ho5:=ho4
  rw [hch] at ho5 ⊢
  have e5:=e4
 all_goals
  unfold recogL
  generalize chosenL l host s = ch at *
  obtain ⟨A5,k5,hv5,hr5,_⟩:=ho5.slice
  first
  | subst hv5
  | (injection hv5 with hA5 _ hk5; subst hA5; subst hk5)
  refine brE_ndec (fun a2 => ?_) (fun a2 => ?_)
  ·have a2:¬ (ch.length:Int) = 1:=a2
   match ch,a2 with
   | [],_ => exact ⟨rfl,ex.trans e5⟩
   | [p],h => exact absurd rfl h
   | p :: q :: r,_ => exact ⟨rfl,ex.trans e5⟩
  ·have a2:(ch.length:Int) = 1:=a2
   obtain ⟨p,rfl⟩:∃ p,ch = [p]:=List.length_eq_one_iff.1 (by omega)
   obtain ⟨b,o,hA,hc⟩:=Reads.int hr5 (i:=0) (by simp)
   refine ⟨0,b,o,rfl,Nat.zero_lt_one,hA,?_⟩
   refine ⟨_,by simpa using hc,?_⟩
   exact ⟨rfl,ex.trans e5⟩
end Go.Proofs.YtigapannpbaihaaGreat
namespace Go.Proofs.YtigapannpbaihaaGreat
open Go.Eng Go.RowKit
theorem recog_mem {c:List Fact} {host s p:Int} (h:recogL c host s = (p,true)):p ∈ livingL c 2 s 1:=by
 have hsub:∀ q ∈ chosenL c host s,q ∈ livingL c 2 s 1:=by
  intro q hq
  unfold chosenL at hq
  split at hq
  ·exact (List.mem_filter.1 hq).1
  ·exact hq
 unfold recogL at h
 split at h
 ·rename_i q hq
  injection h with h _
  subst h
  exact hsub q (by rw [hq]; simp)
 ·injection h with _ h; cases h
theorem heldB_one {c:List Fact} {host p s:Int} (h:p ∉ livingL c 2 s 1):heldB c host p s 1 = false:=by
 unfold heldB
 rw [if_pos rfl,decide_eq_false fun e => h (recog_mem e)]
abbrev classes:List Int:=[1,2,3,4]
theorem classes_drop {n:Nat} (h:n < 4):classes.drop n = ((n + 1:Nat):Int) :: classes.drop (n + 1):=by
 have:n = 0 ∨ n = 1 ∨ n = 2 ∨ n = 3:=by omega
 rcases this with rfl | rfl | rfl | rfl <;> rfl
set_option maxRecDepth 100000 in
theorem Class_spec {w : World} {A : Option Addr} {l : List Fact} {c : Nat} (h : HF w A l c) (hl : l.length ≤ 2 ^ 20) (k day host p s : Int) :
    CallsV C.P 135 #[.slice A l.length c, .int .i64 k, .int .i64 day, .int .i64 host, .int .i64 p, .int .i64 s] w fun v w' => v = .tuple #[.int .i64 (classL (atL k day l) host p s).1, .bool (classL (atL k day l) host p s).2] ∧ Ext w w' := by
  refine callsV_of C_ok (args := [_, _, _, _, _, _]) (plans := []) Tryz.func135 rfl Tryz.ntmps135 (by kernel_rfl) (Nat.le_of_ble_eq_true rfl) ?_
  refine (look_spec h hl k day).mono ?_
  rintro v w1 ⟨hK, e1⟩
  have hkl := atL_length k day l
  generalize atL k day l = K at *
  obtain ⟨AK, cK, rfl, hrK, _⟩ := hK.slice
  have hKl : K.length ≤ 2 ^ 20 := by omega
  unfold classL
  refine loopE C_ok (fun (t : Nat × Int × Bool) => [(3, .int .i64 host), (4, .int .i64 p), (5, .int .i64 s), (14, .slice AK K.length cK), (15, .int .i64 t.2.1), (16, .bool t.2.2), (17, .int .i64 t.1)])
    (fun t w' => t.1 ≤ 4 ∧ Ext w1 w' ∧ (t.2.1, t.2.2) = classAt K host p s (classes.drop t.1)) (fun t => t.1) (4, 5, false)
    ⟨rfl, rfl, rfl, rfl, rfl, rfl, rfl, trivial⟩ ⟨Nat.le_refl _, Ext.refl _, rfl⟩ ?_
  rintro ⟨n, a, b⟩ w2 ⟨hn', e2, hc'⟩
  have hn : n ≤ 4 := hn'
  have hc : (a, b) = classAt K host p s (classes.drop n) := hc'
  clear hn' hc'
  refine brE_dec (fun hge => ?_) (fun hlt => ?_)
  case' refine_2 =>
    have : n = 0 := by have : ¬ (n : Int) ≥ 1 := hlt; omega
    subst this
    have hc : (a, b) = classAt K host p s classes := hc
    exact ⟨by rw [← hc], e1.trans e2⟩
  have hge : (n : Int) ≥ 1 := hge
  obtain ⟨m, rfl⟩ : ∃ m, n = m + 1 := ⟨n - 1, by omega⟩
  have next : IntKind.i64.wrap (((m + 1 : Nat) : Int) - 1) = (m : Int) := by rw [fit ⟨by omega, by omega⟩]; omega
  have hd : classAt K host p s (classes.drop m) = if (heldB K host p s ((m + 1 : Nat) : Int) || actsB K p s ((m + 1 : Nat) : Int)) = true then (((m + 1 : Nat) : Int), !heldB K host p s ((m + 1 : Nat) : Int)) else (a, b) := by
    rw [classes_drop (by omega), classAt, hc]
  have hr2 := hrK.ext e2
  refine (living_spec hr2 hKl 2 s ((m + 1 : Nat) : Int)).mono ?_
  rintro v w3 ⟨ho3, e3⟩
  have hl3 := livingL_length K 2 s ((m + 1 : Nat) : Int)
  obtain ⟨A3, k3, rfl, hr3, _⟩ := ho3.slice
  refine (ContainsI_spec hr3 (by omega) p).mono ?_
  rintro v w4 ⟨rfl, rfl⟩
  have e23 := e2.trans e3
  refine brE_dec (fun a1 => ?_) (fun a1 => ?_)
  case' refine_1 =>
    have a1 : ((m + 1 : Nat) : Int) = 1 := a1
    refine brE_mk (fun a2 => ?Y) (fun a2 => ?N1)
    case' Y =>
      refine (vrecognised_spec (hrK.ext e23) hKl host s).mono ?_
      rintro v w5 ⟨rfl, e5⟩
      have e25 := e23.trans e5
      have hh : heldB K host p s ((m + 1 : Nat) : Int) = decide (recogL K host s = (p, true)) := by unfold heldB; rw [if_pos a1]
      refine brE_mk (fun a3 => ?Y1) (fun a3 => ?N2)
      case' Y1 =>
        have hb : heldB K host p s ((m + 1 : Nat) : Int) = decide ((recogL K host s).1 = p) := by
          rw [hh, Bool.eq_iff_iff, decide_eq_true_eq, decide_eq_true_eq]
          constructor
          · intro h; rw [h]
          · intro h; rw [← h, ← a3]
      case' N2 =>
        have hb : heldB K host p s ((m + 1 : Nat) : Int) = false := by
          rw [hh, decide_eq_false]
          intro h; rw [h] at a3; cases a3
    case' N1 =>
      have e25 := e23
      have hb : heldB K host p s ((m + 1 : Nat) : Int) = decide (p ∈ livingL K 2 s ((m + 1 : Nat) : Int)) := by
        rw [a2, a1]
        refine heldB_one ?_
        rw [a1] at a2
        exact of_decide_eq_false a2
  case' refine_2 =>
    have a1 : ¬ ((m + 1 : Nat) : Int) = 1 := a1
    have e25 := e23
    have hb : heldB K host p s ((m + 1 : Nat) : Int) = decide (p ∈ livingL K 2 s ((m + 1 : Nat) : Int)) := by unfold heldB; rw [if_neg a1]
  all_goals
    rw [hb] at hd
    first
    | (refine brE_mk (fun t => ?_) (fun t => ?_)
       · rw [t, Bool.true_or, if_pos rfl] at hd
         refine ⟨_, next, ?_⟩
         refine ⟨(m, ((m + 1 : Nat) : Int), _), ⟨rfl, rfl, rfl, rfl, rfl, rfl, rfl, trivial⟩, ⟨by show m ≤ 4; omega, e25, ?_⟩, by show m < m + 1; omega⟩
         show (((m + 1 : Nat) : Int), !_) = _
         rw [hd, t]
       · rw [t, Bool.false_or] at hd
         refine (living_spec (hrK.ext e25) hKl 3 s ((m + 1 : Nat) : Int)).mono ?_
         rintro v w6 ⟨ho6, e6⟩
         have hl6 := livingL_length K 3 s ((m + 1 : Nat) : Int)
         obtain ⟨A6, k6, rfl, hr6, _⟩ := ho6.slice
         refine (ContainsI_spec hr6 (by omega) p).mono ?_
         rintro v w7 ⟨rfl, rfl⟩
         refine brE_mk (fun u => ?_) (fun u => ?_)
         · rw [show actsB K p s ((m + 1 : Nat) : Int) = true from u, if_pos rfl] at hd
           refine ⟨_, next, ?_⟩
           refine ⟨(m, ((m + 1 : Nat) : Int), _), ⟨rfl, rfl, rfl, rfl, rfl, rfl, rfl, trivial⟩, ⟨by show m ≤ 4; omega, e25.trans e6, ?_⟩, by show m < m + 1; omega⟩
           show (((m + 1 : Nat) : Int), !_) = _
           rw [hd, t]
         · rw [show actsB K p s ((m + 1 : Nat) : Int) = false from u, if_neg (by decide)] at hd
           refine ⟨_, next, ?_⟩
           refine ⟨(m, a, b), ⟨rfl, rfl, rfl, rfl, rfl, rfl, rfl, trivial⟩, ⟨by show m ≤ 4; omega, e25.trans e6, ?_⟩, by show m < m + 1; omega⟩
           show (a, b) = _
           rw [hd])
    | (rw [Bool.false_or] at hd
       refine (living_spec (hrK.ext e25) hKl 3 s ((m + 1 : Nat) : Int)).mono ?_
       rintro v w6 ⟨ho6, e6⟩
       have hl6 := livingL_length K 3 s ((m + 1 : Nat) : Int)
       obtain ⟨A6, k6, rfl, hr6, _⟩ := ho6.slice
       refine (ContainsI_spec hr6 (by omega) p).mono ?_
       rintro v w7 ⟨rfl, rfl⟩
       refine brE_mk (fun u => ?_) (fun u => ?_)
       · rw [show actsB K p s ((m + 1 : Nat) : Int) = true from u, if_pos rfl] at hd
         refine ⟨_, next, ?_⟩
         refine ⟨(m, ((m + 1 : Nat) : Int), _), ⟨rfl, rfl, rfl, rfl, rfl, rfl, rfl, trivial⟩, ⟨by show m ≤ 4; omega, e25.trans e6, ?_⟩, by show m < m + 1; omega⟩
         exact hd.symm
       · rw [show actsB K p s ((m + 1 : Nat) : Int) = false from u, if_neg (by decide)] at hd
         refine ⟨_, next, ?_⟩
         refine ⟨(m, a, b), ⟨rfl, rfl, rfl, rfl, rfl, rfl, rfl, trivial⟩, ⟨by show m ≤ 4; omega, e25.trans e6, ?_⟩, by show m < m + 1; omega⟩
         show (a, b) = _
         rw [hd])
theorem HoldsClass_spec {w:World} {A:Option Addr} {l:List Fact} {c:Nat} (h:HF w A l c) (hl:l.length <= 2 ^ 20) (k day p s:Int) :
  CallsV C.P 243 #[.slice A l.length c,.int .i64 k,.int .i64 day,.int .i64 p,.int .i64 s] w fun v w' => v = .int .i64 (leastL (atL k day l) p s) ∧ Ext w w':=by
 refine callsV_of C_ok (args:=[_,_,_,_,_]) (plans:=[]) Tryz.func243 rfl Tryz.ntmps243 (by kernel_rfl) (Nat.le_of_ble_eq_true rfl) ?_
 refine (look_spec h hl k day).mono ?_
 rintro v w1 ⟨hK,e1⟩
 have hkl:=atL_length k day l
 generalize atL k day l = K at *
 obtain ⟨AK,cK,rfl,hrK,_⟩:=hK.slice
 have hKl:K.length <= 2 ^ 20:=by omega
 unfold leastL
 refine loopE C_ok (fun (n:Nat) => [(3,.int .i64 p),(4,.int .i64 s),(11,.slice AK K.length cK),(12,.int .i64 ((n + 1:Nat):Int))])
  (fun n w' => n <= 4 ∧ Ext w1 w' ∧ leastAt K p s classes = leastAt K p s (classes.drop n)) (fun n => 4 - n) 0
  ⟨rfl,rfl,rfl,rfl,trivial⟩ ⟨Nat.zero_le _,Ext.refl _,rfl⟩ ?_
 rintro n w2 ⟨hn,e2,hc⟩
 refine brE_dec (fun hlt => ?_) (fun hge => ?_)
 case' refine_2 =>
  have:n = 4:=by have:¬ ((n + 1:Nat):Int) < 5:=hge; omega
  subst this
  exact ⟨by rw [hc]; rfl,e1.trans e2⟩
 have hlt:n < 4:=by have:((n + 1:Nat):Int) < 5:=hlt; omega
 have next:IntKind.i64.wrap (((n + 1:Nat):Int) + 1) = ((n + 1 + 1:Nat):Int):=by rw [fit ⟨by omega,by omega⟩]; omega
 have hd:leastAt K p s (classes.drop n) = if (decide (p ∈ livingL K 2 s ((n + 1:Nat):Int)) || actsB K p s ((n + 1:Nat):Int)) = true then ((n + 1:Nat):Int) else leastAt K p s (classes.drop (n + 1)):=by
  rw [classes_drop hlt]; rfl
 rw [hd] at hc
 refine (living_spec (hrK.ext e2) hKl 2 s ((n + 1:Nat):Int)).mono ?_
 rintro v w3 ⟨ho3,e3⟩
 have hl3:=livingL_length K 2 s ((n + 1:Nat):Int)
 obtain ⟨A3,k3,rfl,hr3,_⟩:=ho3.slice
 refine (ContainsI_spec hr3 (by omega) p).mono ?_
 rintro v w4 ⟨rfl,rfl⟩
 have e23:=e2.trans e3
 refine brE_mk (fun t => ?_) (fun t => ?_)
 ·rw [t,Bool.true_or,if_pos rfl] at hc
  exact ⟨by rw [hc],e1.trans e23⟩
 rw [t,Bool.false_or] at hc
 refine (living_spec (hrK.ext e23) hKl 3 s ((n + 1:Nat):Int)).mono ?_
 rintro v w6 ⟨ho6,e6⟩
 have hl6:=livingL_length K 3 s ((n + 1:Nat):Int)
 obtain ⟨A6,k6,rfl,hr6,_⟩:=ho6.slice
 refine (ContainsI_spec hr6 (by omega) p).mono ?_
 rintro v w7 ⟨rfl,rfl⟩
 refine brE_mk (fun u => ?_) (fun u => ?_)
 ·rw [show actsB K p s ((n + 1:Nat):Int) = true from u,if_pos rfl] at hc
  exact ⟨by rw [hc],(e1.trans e23).trans e6⟩
 ·rw [show actsB K p s ((n + 1:Nat):Int) = false from u,if_neg (by decide)] at hc
  refine ⟨_,next,?_⟩
  exact ⟨n + 1,⟨rfl,rfl,rfl,rfl,trivial⟩,⟨hlt,e23.trans e6,hc⟩,by omega⟩
end Go.Proofs.YtigapannpbaihaaGreat
namespace Go.Proofs.YtigapannpbaihaaGreat.Rk
open Go.Eng Go.RowKit
def guestCells (g:Int × Int):List Value:=[.int .i64 g.1,.int .i64 g.2]
def whoOf (a:List Fact) (g:Int × Int):Int:=if (princL a g.1).2 = true then (princL a g.1).1 else g.1
def clsOf (a:List Fact) (host who st:Int):Int:=if (classL a host who st).1 = 5 ∧ (spouseL a who).2 = true then (classL a host (spouseL a who).1 st).1 else (classL a host who st).1
def letOf (a:List Fact) (lang lot st:Int):Int:=if (letterL a lang lot st).2 = true then (letterL a lang lot st).1 else (((alphaL a lang lot).length:Nat):Int)
def profAt (a:List Fact) (s:Scn) (g:Int × Int):Prof:=⟨clsOf a s.host (whoOf a g) g.2,visitL a (whoOf a g) s.host,decide (g.2 = s.host),(princL a g.1).2,a.any (mournB g.2),credL a (whoOf a g) s.host,letOf a s.lang s.lot g.2⟩
def profOf (l:List Fact) (s:Scn) (g:Int × Int):Prof:=profAt (atL s.known s.day l) s g
set_option maxRecDepth 100000 in
set_option maxHeartbeats 4000000 in
theorem profile_spec {w:World} {A:Option Addr} {l:List Fact} {c:Nat} (hf:HF w A l c) (hl:l.length <= 2 ^ 20) (s:Scn) {g:Int × Int} (hg:In64 g.1) :
  CallsV C.P 82 #[.slice A l.length c,s.val,prVal g] w fun v w' => v = (profOf l s g).val ∧ Ext w w':=by
 obtain ⟨a,ha⟩:∃ a,a = atL s.known s.day l:=⟨_,rfl⟩
 have hfin:profOf l s g = profAt a s g:=by rw [ha]; rfl
 rw [hfin]
 have pP:=fun w' (e:Ext w w') => Principal_spec (hf.ext e) hl s.known s.day g.1 hg
 have pM:=fun w' (e:Ext w w') => Mourns_spec (hf.ext e) hl s.known s.day g.2
 have pC:=fun w' (e:Ext w w') x => Class_spec (hf.ext e) hl s.known s.day s.host x g.2
 have pS:=fun w' (e:Ext w w') x => Spouse_spec (hf.ext e) hl s.known s.day x
 have pV:=fun w' (e:Ext w w') x => Visit_spec (hf.ext e) hl s.known s.day x s.host
 have pK:=fun w' (e:Ext w w') x => Credentials_spec (hf.ext e) hl s.known s.day x s.host
 have pL:=fun w' (e:Ext w w') => Letter_spec (hf.ext e) hl s.known s.day s.lang s.lot g.2
 have pA:=fun w' (e:Ext w w') => Alphabet_spec (hf.ext e) hl s.known s.day s.lang s.lot
 rw [<-ha] at pP pM pC pS pV pK pL pA
 refine callsV_ofS (args:=[_,_,_]) Tryz.func82 rfl Tryz.ntmps82 C_ok (Nat.le_of_ble_eq_true rfl) ?_
 refine Snd.go C_ok plans82 (by kernel_rfl) ?_
 intro g4 w1 h1
 have M:Mem w w1 [(g4,.cells s.cells.toArray 27 (0,0))]:=(Mem.start w).alloc h1
 intro g5 w2 h2
 have M:Mem w w2 [(g5,.cells (guestCells g).toArray 63 (0,0)),(g4,.cells s.cells.toArray 27 (0,0))]:=M.alloc h2
 intro g6 w3 h3
 have M:Mem w w3 [(g6,.cells profZ.cells.toArray 194 (0,0)),(g5,.cells (guestCells g).toArray 63 (0,0)),(g4,.cells s.cells.toArray 27 (0,0))]:=M.alloc h3
 refine ⟨Snd.go C_ok plans82 (by kernel_rfl) ?_⟩
 refine ⟨_,M.cell 2 rfl rfl,?_⟩
 refine ⟨_,M.cell 2 rfl rfl,?_⟩
 refine ⟨_,M.cell 1 rfl rfl,?_⟩
 refine (pP w3 M.ext).mono ?_
 rintro v w4 ⟨rfl,e4⟩
 have M:=M.grow e4
 obtain ⟨who,hwho⟩:∃ who,who = whoOf a g:=⟨_,rfl⟩
 obtain ⟨q,hq⟩:∃ q,q = princL a g.1:=⟨_,rfl⟩
 have hw2:who = if q.2 = true then q.1 else g.1:=by rw [hwho,hq]; rfl
 have hpf:profAt a s g = ⟨clsOf a s.host who g.2,visitL a who s.host,decide (g.2 = s.host),q.2,a.any (mournB g.2),credL a who s.host,letOf a s.lang s.lot g.2⟩:=by rw [hwho,hq]; rfl
 rw [<-hq,hpf]
 refine ⟨Snd.join C_ok plans82 (fun _:Unit => [(0,.slice A l.length c),(4,.pointer (some ⟨g4,0,none⟩)),(5,.pointer (some ⟨g5,0,none⟩)),(6,.pointer (some ⟨g6,0,none⟩)),(7,.int .i64 who),(8,.bool q.2)]) (fun _ w' => w' = w4) (by kernel_rfl) ?_ ?_⟩
 ·refine brE_mk (fun b => ?_) (fun b => ?_)
  ·have b:q.2 = false:=by simpa using b
   refine ⟨_,M.cell 1 rfl rfl,?_⟩
   have hx:g.1 = who:=by rw [hw2,if_neg (by rw [b]; decide)]
   exact ⟨(),⟨rfl,rfl,rfl,rfl,congrArg (fun x => some (Value.int IntKind.i64 x)) hx,rfl,trivial⟩,rfl⟩
  ·have b:q.2 = true:=by simpa using b
   have hx:q.1 = who:=by rw [hw2,if_pos b]
   exact ⟨(),⟨rfl,rfl,rfl,rfl,congrArg (fun x => some (Value.int IntKind.i64 x)) hx,rfl,trivial⟩,rfl⟩
 rintro _ w4' rfl
 obtain ⟨mo,hmo⟩:∃ mo,mo = a.any (mournB g.2):=⟨_,rfl⟩
 rw [<-hmo]
 rw [<-hmo] at pM
 refine Snd.join C_ok plans82 (fun g9:Nat => [(0,.slice A l.length c),(4,.pointer (some ⟨g4,0,none⟩)),(5,.pointer (some ⟨g5,0,none⟩)),(6,.pointer (some ⟨g6,0,none⟩)),(7,.int .i64 who),(9,.pointer (some ⟨g9,0,none⟩))])
  (fun g9 w' => Mem w w' [(g9,.cells (Prof.mk 0 0 (decide (g.2 = s.host)) q.2 mo 0 0).cells.toArray 194 (0,0)),(g6,.cells profZ.cells.toArray 194 (0,0)),(g5,.cells (guestCells g).toArray 63 (0,0)),(g4,.cells s.cells.toArray 27 (0,0))]) (by kernel_rfl) ?_ ?_
 ·refine ⟨_,M.cell 1 rfl rfl,?_⟩
  refine ⟨_,M.cell 2 rfl rfl,?_⟩
  refine ⟨_,M.cell 2 rfl rfl,?_⟩
  refine ⟨_,M.cell 2 rfl rfl,?_⟩
  refine ⟨_,M.cell 1 rfl rfl,?_⟩
  refine ⟨?A,?B⟩
  case A =>
   refine (pM _ M.ext).mono ?_
   rintro v w5 ⟨rfl,e5⟩
   refine ⟨e5,?_⟩
   intro g9 w6 h6
   refine ⟨h6.ext,?_⟩
   have M:=(M.grow e5).alloc h6
   refine ⟨rfl,_,_,M.get 0 rfl,Nat.le_of_ble_eq_true rfl,rfl,?_⟩
   intro w7 h7
   exact ⟨g9,⟨rfl,rfl,rfl,rfl,rfl,rfl,trivial⟩,M.put 0 rfl h7⟩
  case B =>
   intro g9 w6 h6
   refine ⟨h6.ext,?_⟩
   refine (pM _ (M.ext.trans h6.ext)).mono ?_
   rintro v w5 ⟨rfl,e5⟩
   refine ⟨e5,?_⟩
   have M:=(M.alloc h6).grow e5
   refine ⟨rfl,_,_,M.get 0 rfl,Nat.le_of_ble_eq_true rfl,rfl,?_⟩
   intro w7 h7
   exact ⟨g9,⟨rfl,rfl,rfl,rfl,rfl,rfl,trivial⟩,M.put 0 rfl h7⟩
 rintro g9 w7 M
 refine Snd.go C_ok plans82 (by kernel_rfl) ?_
 refine ⟨_,M.cell 3 rfl rfl,?_⟩
 refine ⟨_,M.cell 3 rfl rfl,?_⟩
 refine ⟨_,M.cell 3 rfl rfl,?_⟩
 refine ⟨_,M.cell 2 rfl rfl,?_⟩
 refine (pC _ M.ext who).mono ?_
 rintro v w8 ⟨rfl,e8⟩
 have M:=M.grow e8
 refine ⟨rfl,_,_,M.get 0 rfl,Nat.le_of_ble_eq_true rfl,rfl,?_⟩
 intro w9 h9
 obtain ⟨c0,hc0⟩:∃ c0,c0 = (classL a s.host who g.2).1:=⟨_,rfl⟩
 have M:Mem w w9 [(g9,.cells (Prof.mk c0 0 (decide (g.2 = s.host)) q.2 mo 0 0).cells.toArray 194 (0,0)),(g6,.cells profZ.cells.toArray 194 (0,0)),(g5,.cells (guestCells g).toArray 63 (0,0)),(g4,.cells s.cells.toArray 27 (0,0))]:=by rw [hc0]; exact M.put 0 rfl h9
 obtain ⟨sp,hsp⟩:∃ sp,sp = spouseL a who:=⟨_,rfl⟩
 obtain ⟨c1,hc1⟩:∃ c1,c1 = clsOf a s.host who g.2:=⟨_,rfl⟩
 have hc2:c1 = if c0 = 5 ∧ sp.2 = true then (classL a s.host sp.1 g.2).1 else c0:=by rw [hc1,hc0,hsp]; rfl
 rw [<-hc1]
 refine ⟨Snd.join C_ok plans82 (fun _:Unit => [(0,.slice A l.length c),(4,.pointer (some ⟨g4,0,none⟩)),(5,.pointer (some ⟨g5,0,none⟩)),(6,.pointer (some ⟨g6,0,none⟩)),(7,.int .i64 who),(9,.pointer (some ⟨g9,0,none⟩))])
  (fun _ w' => Mem w w' [(g9,.cells (Prof.mk c1 0 (decide (g.2 = s.host)) q.2 mo 0 0).cells.toArray 194 (0,0)),(g6,.cells profZ.cells.toArray 194 (0,0)),(g5,.cells (guestCells g).toArray 63 (0,0)),(g4,.cells s.cells.toArray 27 (0,0))]) (by kernel_rfl) ?_ ?_⟩
 ·refine ⟨_,M.cell 3 rfl rfl,?_⟩
  refine ⟨_,M.cell 3 rfl rfl,?_⟩
  have X:=pS _ M.ext who
  rw [<-hsp] at X
  refine X.mono ?_
  rintro v w10 ⟨rfl,e10⟩
  have M:=M.grow e10
  refine ⟨_,M.cell 0 rfl rfl,?_⟩
  refine brE_dec (fun b1 => ?_) (fun b1 => ?_)
  ·have b1:c0 = 5:=b1
   refine brE_mk (fun b2 => ?_) (fun b2 => ?_)
   ·have b2:sp.2 = true:=b2
    refine ⟨_,M.cell 3 rfl rfl,?_⟩
    refine ⟨_,M.cell 3 rfl rfl,?_⟩
    refine ⟨_,M.cell 3 rfl rfl,?_⟩
    refine ⟨_,M.cell 2 rfl rfl,?_⟩
    refine (pC _ M.ext sp.1).mono ?_
    rintro v w11 ⟨rfl,e11⟩
    have M:=M.grow e11
    refine ⟨rfl,_,_,M.get 0 rfl,Nat.le_of_ble_eq_true rfl,rfl,?_⟩
    intro w12 h12
    refine ⟨(),⟨rfl,rfl,rfl,rfl,rfl,rfl,trivial⟩,?_⟩
    rw [hc2,if_pos ⟨b1,b2⟩]
    exact M.put 0 rfl h12
   ·have b2:sp.2 = false:=b2
    refine ⟨(),⟨rfl,rfl,rfl,rfl,rfl,rfl,trivial⟩,?_⟩
    rw [hc2,if_neg (fun e => by rw [b2] at e; cases e.2)]
    exact M
  ·have b1:¬ c0 = 5:=b1
   refine ⟨(),⟨rfl,rfl,rfl,rfl,rfl,rfl,trivial⟩,?_⟩
   rw [hc2,if_neg (fun e => b1 e.1)]
   exact M
 rintro _ w13 M
 refine Snd.go C_ok plans82 (by kernel_rfl) ?_
 refine ⟨_,M.cell 3 rfl rfl,?_⟩
 refine ⟨_,M.cell 3 rfl rfl,?_⟩
 refine ⟨_,M.cell 3 rfl rfl,?_⟩
 refine (pV _ M.ext who).mono ?_
 rintro v w14 ⟨rfl,e14⟩
 have M:=M.grow e14
 refine ⟨rfl,_,_,M.get 0 rfl,Nat.le_of_ble_eq_true rfl,rfl,?_⟩
 intro w15 h15
 obtain ⟨vi,hvi⟩:∃ vi,vi = visitL a who s.host:=⟨_,rfl⟩
 rw [<-hvi] at h15 ⊢
 have M:Mem w w15 [(g9,.cells (Prof.mk c1 vi (decide (g.2 = s.host)) q.2 mo 0 0).cells.toArray 194 (0,0)),(g6,.cells profZ.cells.toArray 194 (0,0)),(g5,.cells (guestCells g).toArray 63 (0,0)),(g4,.cells s.cells.toArray 27 (0,0))]:=M.put 0 rfl h15
 refine ⟨Snd.go C_ok plans82 (by kernel_rfl) ?_⟩
 refine ⟨_,M.cell 3 rfl rfl,?_⟩
 refine ⟨_,M.cell 3 rfl rfl,?_⟩
 refine ⟨_,M.cell 3 rfl rfl,?_⟩
 refine (pK _ M.ext who).mono ?_
 rintro v w16 ⟨rfl,e16⟩
 have M:=M.grow e16
 refine ⟨rfl,_,_,M.get 0 rfl,Nat.le_of_ble_eq_true rfl,rfl,?_⟩
 intro w17 h17
 obtain ⟨cr,hcr⟩:∃ cr,cr = credL a who s.host:=⟨_,rfl⟩
 rw [<-hcr] at h17 ⊢
 have M:Mem w w17 [(g9,.cells (Prof.mk c1 vi (decide (g.2 = s.host)) q.2 mo cr 0).cells.toArray 194 (0,0)),(g6,.cells profZ.cells.toArray 194 (0,0)),(g5,.cells (guestCells g).toArray 63 (0,0)),(g4,.cells s.cells.toArray 27 (0,0))]:=M.put 0 rfl h17
 refine ⟨Snd.go C_ok plans82 (by kernel_rfl) ?_⟩
 refine ⟨_,M.cell 3 rfl rfl,?_⟩
 refine ⟨_,M.cell 3 rfl rfl,?_⟩
 refine ⟨_,M.cell 3 rfl rfl,?_⟩
 refine ⟨_,M.cell 3 rfl rfl,?_⟩
 refine ⟨_,M.cell 2 rfl rfl,?_⟩
 obtain ⟨lt,hlt⟩:∃ lt,lt = letterL a s.lang s.lot g.2:=⟨_,rfl⟩
 obtain ⟨le,hle⟩:∃ le,le = letOf a s.lang s.lot g.2:=⟨_,rfl⟩
 have hl2:le = if lt.2 = true then lt.1 else (((alphaL a s.lang s.lot).length:Nat):Int):=by rw [hle,hlt]; rfl
 have X:=pL _ M.ext
 rw [<-hlt] at X
 rw [<-hle]
 refine X.mono ?_
 rintro v w18 ⟨rfl,e18⟩
 have M:=M.grow e18
 refine ⟨Snd.join C_ok plans82 (fun _:Unit => [(6,.pointer (some ⟨g6,0,none⟩)),(9,.pointer (some ⟨g9,0,none⟩)),(12,.int .i64 le)])
  (fun _ w' => Mem w w' [(g9,.cells (Prof.mk c1 vi (decide (g.2 = s.host)) q.2 mo cr 0).cells.toArray 194 (0,0)),(g6,.cells profZ.cells.toArray 194 (0,0)),(g5,.cells (guestCells g).toArray 63 (0,0)),(g4,.cells s.cells.toArray 27 (0,0))]) (by kernel_rfl) ?_ ?_⟩
 ·refine brE_mk (fun b => ?_) (fun b => ?_)
  ·have b:lt.2 = false:=by simpa using b
   refine ⟨_,M.cell 3 rfl rfl,?_⟩
   refine ⟨_,M.cell 3 rfl rfl,?_⟩
   refine ⟨_,M.cell 3 rfl rfl,?_⟩
   refine ⟨_,M.cell 3 rfl rfl,?_⟩
   refine (pA _ M.ext).mono ?_
   rintro v w19 ⟨hv,e19⟩
   obtain ⟨Aa,ca,rfl,_,_⟩:=reads_of_owns hv
   have M:=M.grow e19
   have hx:(((alphaL a s.lang s.lot).length:Nat):Int) = le:=by rw [hl2,if_neg (by rw [b]; decide)]
   exact ⟨(),⟨rfl,rfl,congrArg (fun x => some (Value.int IntKind.i64 x)) hx,trivial⟩,M⟩
  ·have b:lt.2 = true:=by simpa using b
   have hx:lt.1 = le:=by rw [hl2,if_pos b]
   exact ⟨(),⟨rfl,rfl,congrArg (fun x => some (Value.int IntKind.i64 x)) hx,trivial⟩,M⟩
 rintro _ w20 M
 refine Snd.fin C_ok (plans:=plans82) (by kernel_rfl) ?_
 refine ⟨rfl,_,_,M.get 0 rfl,Nat.le_of_ble_eq_true rfl,rfl,?_⟩
 intro w21 h21
 have M:Mem w w21 [(g9,.cells (Prof.mk c1 vi (decide (g.2 = s.host)) q.2 mo cr le).cells.toArray 194 (0,0)),(g6,.cells profZ.cells.toArray 194 (0,0)),(g5,.cells (guestCells g).toArray 63 (0,0)),(g4,.cells s.cells.toArray 27 (0,0))]:=M.put 0 rfl h21
 refine ⟨(Prof.mk c1 vi (decide (g.2 = s.host)) q.2 mo cr le).cells,rfl,M.rd 0 rfl,?_⟩
 refine ⟨rfl,_,_,M.get 1 rfl,Nat.le_of_ble_eq_true rfl,rfl,?_⟩
 intro w22 h22
 have M:=M.put 1 rfl h22
 refine ⟨(Prof.mk c1 vi (decide (g.2 = s.host)) q.2 mo cr le).cells,rfl,M.rd 1 rfl,?_⟩
 exact ⟨rfl,M.ext⟩
end Go.Proofs.YtigapannpbaihaaGreat.Rk
namespace Go.Proofs.YtigapannpbaihaaGreat
open Go.Eng Go.RowKit
theorem whos_snoc (l:List Fact) (x:Fact):whos (l ++ [x]) = whos l ++ if x.kind = 1 then [x.who] else []:=by
 unfold whos
 rw [List.filter_append,List.map_append,List.filter_cons,List.filter_nil]
 congr 1
 by_cases h:x.kind = 1
 ·rw [if_pos (decide_eq_true h),if_pos h]; rfl
 ·rw [if_neg (by simpa using h),if_neg h]; rfl
theorem lastKnown_snoc (l:List Fact) (x:Fact):lastKnown (l ++ [x]) = x.known:=by simp [lastKnown]
set_option maxRecDepth 100000 in
theorem Check_spec {w:World} {A:Option Addr} {l:List Fact} {c:Nat} (h:HF w A l c) (hl:l.length <= 2 ^ 20) :
  CallsV C.P 72 #[.slice A l.length c] w fun v w' => v = .tuple #[.int .i64 ((chkF l).1:Nat),.int .i64 (chkF l).2] ∧ Ext w w':=by
 refine callsV_of C_ok (args:=[_]) (plans:=plans72) Tryz.func72 rfl Tryz.ntmps72 (by kernel_rfl) (Nat.le_of_ble_eq_true rfl) ?_
 intro gi w1 h1
 intro gs w2 h2
 intro g w3 h3
 have hgi:w.heap.size <= gi:=by rw [h1.new]; exact Nat.le_refl _
 have hgs:w.heap.size <= gs:=by rw [h2.new,h1.size]; omega
 have hg:w.heap.size <= g:=by rw [h3.new,h2.size,h1.size]; omega
 have n1:gi ≠ gs:=by rw [h1.new,h2.new,h1.size]; omega
 have n2:gi ≠ g:=by rw [h1.new,h3.new,h2.size,h1.size]; omega
 have n3:gs ≠ g:=by rw [h2.new,h3.new,h2.size,h1.size]; omega
 have M3:Mem w w3 [(g,.cells #[.map (some gi),.map (some gs),.int .i64 (0:Nat),.int .i64 0] 251 (0,0))]:=((Mem.start w).grow (h1.ext.trans h2.ext)).alloc h3
 have si3:SetIs w3 gi []:=SetIs.empty ((h2.ext.trans h3.ext).heap h1.here)
 have ss3:SetIs w3 gs []:=SetIs.empty (h3.ext.heap h2.here)
 have hchk:chkF l = chkG (l.take 0) (l.drop 0):=rfl
 refine loopE C_ok (fun (i:Nat) => [(4,.pointer (some ⟨g,0,none⟩)),(12,.slice A l.length c),(13,.int .i64 l.length),(14,.int .i64 i)])
  (fun i w' => i <= l.length ∧ Mem w w' [(g,.cells #[.map (some gi),.map (some gs),.int .i64 (i:Nat),.int .i64 (lastKnown (l.take i))] 251 (0,0))] ∧ SetIs w' gi ((l.take i).map Fact.id) ∧ SetIs w' gs (whos (l.take i)) ∧ chkF l = chkG (l.take i) (l.drop i)) (fun i => l.length - i) 0
  ⟨rfl,rfl,rfl,rfl,trivial⟩ ⟨Nat.zero_le _,M3,si3,ss3,hchk⟩ ?_
 rintro i w4 ⟨hi,M4,si4,ss4,hc⟩
 refine brE_dec (fun hlt => ?_) (fun hge => ?_)
 case' refine_2 =>
  have:i = l.length:=by have:¬ (i:Int) < (l.length:Nat):=hge; omega
  subst this
  rw [List.drop_length] at hc
  exact ⟨by rw [hc]; rfl,M4.ext⟩
 have hlt:i < l.length:=by have:(i:Int) < (l.length:Nat):=hlt; omega
 have hx:=h.nums _ (List.getElem_mem hlt)
 have hti:(l.take i).length = i:=by rw [List.length_take]; omega
 have htk:l.take (i + 1) = l.take i ++ [l[i]]:=List.take_succ_eq_append_getElem hlt
 rw [chkG_at hlt] at hc
 obtain ⟨b,o,hA,hcc⟩:=Reads.fact (h.reads.ext M4.ext) hlt
 refine ⟨i,b,o,rfl,hlt,hA,?_⟩
 refine ⟨l[i].cells,rfl,hcc,?_⟩
 intro g6 w5 h5
 refine ⟨rfl,_,_,h5.here,Nat.le_of_ble_eq_true rfl,rfl,?_⟩
 intro w6 h6
 have h6:Put w5 g6 (.cells l[i].cells.toArray 180 (0,0)) w6:=h6
 have e46:Ext w4 w6:=h6.ext_of h5.ext (by rw [h5.new]; exact Nat.le_refl _)
 have M6:Mem w w6 [(g6,.cells l[i].cells.toArray 180 (0,0)),(g,.cells #[.map (some gi),.map (some gs),.int .i64 (i:Nat),.int .i64 (lastKnown (l.take i))] 251 (0,0))]:=(M4.alloc h5).put 0 rfl h6
 have hgi6:gi ≠ g6:=fun e => by
  obtain ⟨es,clk,hb⟩:=(si4.ext e46).block
  rw [e,h6.here] at hb; cases hb
 have hgs6:gs ≠ g6:=fun e => by
  obtain ⟨es,clk,hb⟩:=(ss4.ext e46).block
  rw [e,h6.here] at hb; cases hb
 refine ⟨l[i].cells,rfl,M6.rd 0 rfl,?_⟩
 have reg6:RegIs w6 g gi gs (l.take i).length (lastKnown (l.take i)):=by rw [hti]; exact M6.get 1 rfl
 refine (refuses_spec hx (by omega) reg6 (si4.ext e46) (ss4.ext e46)).mono ?_
 rintro v w7 ⟨rfl,e7⟩
 have M7:=M6.grow e7
 have si7:=(si4.ext e46).ext e7
 have ss7:=(ss4.ext e46).ext e7
 refine brE_ndec (fun a1 => ?_) (fun a1 => ?_)
 ·have a1:¬ behindE (l.take i) l[i] = 0:=a1
  rw [if_pos a1] at hc
  exact ⟨by rw [hc],M7.ext⟩
 have a1:behindE (l.take i) l[i] = 0:=a1
 rw [if_neg (fun h => h a1)] at hc
 obtain ⟨fi,hfi,hfi2⟩:=si7
 refine ⟨_,M7.cell 1 rfl rfl,?_⟩
 refine ⟨_,M7.cell 0 rfl rfl,?_⟩
 refine mapPut C_ok rfl rfl (x:=.int .i64 l[i].id) rfl rfl rfl rfl intK (intKey hx.id) hfi ?_
 intro o8 w8 h8 hf8
 have si8:SetIs w8 gi ((l.take (i + 1)).map Fact.id):=by
  rw [htk,List.map_append]
  exact set_put hfi2 hf8
 have ss8:=ss7.other h8 (fun e => n1 e.symm)
 have M8:=M7.grown h8.grownBy (fun q hq => by cases hq; exact hgi) (fun p hp => by
  simp at hp
  rcases hp with rfl | rfl
  ·exact fun e => hgi6 (by injection e with e; exact e.symm)
  ·exact fun e => n2 (by injection e with e; exact e.symm))
 refine ⟨_,M8.cell 0 rfl rfl,?_⟩
 refine brE_dec (fun a2 => ?A) (fun a2 => ?B)
 case' A =>
  have a2:l[i].kind = 1:=a2
  obtain ⟨fs,hfs,hfs2⟩:=ss8
  refine ⟨_,M8.cell 1 rfl rfl,?_⟩
  refine ⟨_,M8.cell 0 rfl rfl,?_⟩
  refine mapPut C_ok rfl rfl (x:=.int .i64 l[i].who) rfl rfl rfl rfl intK (intKey hx.who) hfs ?_
  intro o9 w9 h9 hf9
  have ss9:SetIs w9 gs (whos (l.take (i + 1))):=by
   rw [htk,whos_snoc,if_pos a2]
   exact set_put hfs2 hf9
  have si9:=si8.other h9 n1
  have M9:=M8.grown h9.grownBy (fun q hq => by cases hq; exact hgs) (fun p hp => by
   simp at hp
   rcases hp with rfl | rfl
   ·exact fun e => hgs6 (by injection e with e; exact e.symm)
   ·exact fun e => n3 (by injection e with e; exact e.symm))
 case' B =>
  have a2:¬ l[i].kind = 1:=a2
  have ss9:SetIs w8 gs (whos (l.take (i + 1))):=by
   rw [htk,whos_snoc,if_neg a2,List.append_nil]
   exact ss8
  have si9:=si8
  have M9:=M8
 all_goals
  refine ⟨_,M9.cell 1 rfl rfl,?_⟩
  refine ⟨((i + 1:Nat):Int),fit ⟨by omega,by omega⟩,?_⟩
  refine ⟨rfl,_,_,M9.get 1 rfl,Nat.le_of_ble_eq_true rfl,rfl,?_⟩
  intro w10 h10
  have M10:=M9.put 1 rfl h10
  have si10:=si9.other h10 n2
  have ss10:=ss9.other h10 n3
  refine ⟨_,M10.cell 0 rfl rfl,?_⟩
  refine ⟨rfl,_,_,M10.get 1 rfl,Nat.le_of_ble_eq_true rfl,rfl,?_⟩
  intro w11 h11
  have M11:=M10.put 1 rfl h11
  have si11:=si10.other h11 n2
  have ss11:=ss10.other h11 n3
  refine ⟨((i + 1:Nat):Int),fit ⟨by omega,by omega⟩,?_⟩
  refine ⟨i + 1,⟨rfl,rfl,rfl,rfl,trivial⟩,⟨hlt,?_,si11,ss11,hc⟩,by omega⟩
  rw [htk,lastKnown_snoc]
  exact M11.tail
def appE (l:List Fact) (x:Fact):Int:=if (chkF l).2 ≠ 0 then (chkF l).2 else (chkF (l ++ [x])).2
end Go.Proofs.YtigapannpbaihaaGreat
namespace Go.Proofs.YtigapannpbaihaaGreat.Rk
open Go.Eng Go.RowKit
def firstE (e0 e1 e2 e3:Int):Int:=if e0 ≠ 0 then e0 else if e1 ≠ 0 then e1 else if e2 ≠ 0 then e2 else e3
theorem first_spec {w:World} {gF f0 f1 f2 f3:Nat} {c0 c1 c2 c3:Array Value} {e0 e1 e2 e3:Int} (hF:w.heap[gF]? = some (.cells #[.func (.func f0) #[] c0,.func (.func f1) #[] c1,.func (.func f2) #[] c2,.func (.func f3) #[] c3] 183 (0,0)))
  (g0:C.can f0 = true) (g1:C.can f1 = true) (g2:C.can f2 = true) (g3:C.can f3 = true)
  (k0:∀ w',Ext w w' -> CallsV C.P f0 (#[] ++ ([]:List Value).toArray ++ c0) w' fun v w'' => v = .int .i64 e0 ∧ Ext w' w'')
  (k1:∀ w',Ext w w' -> CallsV C.P f1 (#[] ++ ([]:List Value).toArray ++ c1) w' fun v w'' => v = .int .i64 e1 ∧ Ext w' w'')
  (k2:∀ w',Ext w w' -> CallsV C.P f2 (#[] ++ ([]:List Value).toArray ++ c2) w' fun v w'' => v = .int .i64 e2 ∧ Ext w' w'')
  (k3:∀ w',Ext w w' -> CallsV C.P f3 (#[] ++ ([]:List Value).toArray ++ c3) w' fun v w'' => v = .int .i64 e3 ∧ Ext w' w'') :
  CallsV C.P 70 #[.slice (some ⟨gF,0,none⟩) 4 4] w fun v w' => v = .int .i64 (firstE e0 e1 e2 e3) ∧ Ext w w':=by
 refine callsV_of C_ok (args:=[_]) (plans:=[]) Tryz.func70 rfl Tryz.ntmps70 (by kernel_rfl) (Nat.le_of_ble_eq_true rfl) ?_
 refine loopE C_ok (fun (i:Nat) => [(6,.slice (some ⟨gF,0,none⟩) 4 4),(7,.int .i64 4),(8,.int .i64 (i:Nat))])
  (fun i w' => i <= 4 ∧ Ext w w' ∧ (0 < i -> e0 = 0) ∧ (1 < i -> e1 = 0) ∧ (2 < i -> e2 = 0) ∧ (3 < i -> e3 = 0)) (fun i => 4 - i) 0 ⟨rfl,rfl,rfl,trivial⟩
  ⟨Nat.zero_le _,Ext.refl _,(fun h => absurd h (by omega)),(fun h => absurd h (by omega)),(fun h => absurd h (by omega)),(fun h => absurd h (by omega))⟩ ?_
 rintro i w1 ⟨hi,e,z0,z1,z2,z3⟩
 refine brE_dec (fun hlt => ?_) (fun hge => ?_)
 ·have hlt:i < 4:=by have:(i:Int) < 4:=hlt; omega
  have next:IntKind.i64.wrap ((i:Int) + 1) = ((i + 1:Nat):Int):=fit ⟨by omega,by omega⟩
  refine ⟨i,gF,0,rfl,hlt,rfl,?_⟩
  rcases (show i = 0 ∨ i = 1 ∨ i = 2 ∨ i = 3 by omega) with rfl | rfl | rfl | rfl
  ·refine ⟨_,cell_of_block (i:=0) (e.heap hF) rfl,?_⟩
   refine brE_true g0 ?_
   refine (k0 w1 e).mono ?_
   rintro v w2 ⟨rfl,e2'⟩
   refine brE_ndec (fun b => ?_) (fun b => ?_)
   ·have b:e0 ≠ 0:=b
    exact ⟨congrArg _ (by unfold firstE; rw [if_pos b]),e.trans e2'⟩
   ·have b:e0 = 0:=b
    refine ⟨_,next,?_⟩
    exact ⟨1,⟨rfl,rfl,rfl,trivial⟩,⟨by omega,e.trans e2',fun _ => b,(fun h => absurd h (by omega)),(fun h => absurd h (by omega)),(fun h => absurd h (by omega))⟩,by decide⟩
  ·refine ⟨_,cell_of_block (i:=1) (e.heap hF) rfl,?_⟩
   refine brE_true g1 ?_
   refine (k1 w1 e).mono ?_
   rintro v w2 ⟨rfl,e2'⟩
   have q0:=z0 (by omega)
   refine brE_ndec (fun b => ?_) (fun b => ?_)
   ·have b:e1 ≠ 0:=b
    exact ⟨congrArg _ (by unfold firstE; rw [if_neg (fun h => h q0),if_pos b]),e.trans e2'⟩
   ·have b:e1 = 0:=b
    refine ⟨_,next,?_⟩
    exact ⟨2,⟨rfl,rfl,rfl,trivial⟩,⟨by omega,e.trans e2',fun _ => q0,fun _ => b,(fun h => absurd h (by omega)),(fun h => absurd h (by omega))⟩,by decide⟩
  ·refine ⟨_,cell_of_block (i:=2) (e.heap hF) rfl,?_⟩
   refine brE_true g2 ?_
   refine (k2 w1 e).mono ?_
   rintro v w2 ⟨rfl,e2'⟩
   have q0:=z0 (by omega)
   have q1:=z1 (by omega)
   refine brE_ndec (fun b => ?_) (fun b => ?_)
   ·have b:e2 ≠ 0:=b
    exact ⟨congrArg _ (by unfold firstE; rw [if_neg (fun h => h q0),if_neg (fun h => h q1),if_pos b]),e.trans e2'⟩
   ·have b:e2 = 0:=b
    refine ⟨_,next,?_⟩
    exact ⟨3,⟨rfl,rfl,rfl,trivial⟩,⟨by omega,e.trans e2',fun _ => q0,fun _ => q1,fun _ => b,(fun h => absurd h (by omega))⟩,by decide⟩
  ·refine ⟨_,cell_of_block (i:=3) (e.heap hF) rfl,?_⟩
   refine brE_true g3 ?_
   refine (k3 w1 e).mono ?_
   rintro v w2 ⟨rfl,e2'⟩
   have q0:=z0 (by omega)
   have q1:=z1 (by omega)
   have q2:=z2 (by omega)
   refine brE_ndec (fun b => ?_) (fun b => ?_)
   ·have b:e3 ≠ 0:=b
    exact ⟨congrArg _ (by unfold firstE; rw [if_neg (fun h => h q0),if_neg (fun h => h q1),if_neg (fun h => h q2)]),e.trans e2'⟩
   ·have b:e3 = 0:=b
    refine ⟨_,next,?_⟩
    exact ⟨4,⟨rfl,rfl,rfl,trivial⟩,⟨by omega,e.trans e2',fun _ => q0,fun _ => q1,fun _ => q2,fun _ => b⟩,by decide⟩
 ·have hi4:i = 4:=by have:¬ (i:Int) < 4:=hge; omega
  have q0:=z0 (by omega)
  have q1:=z1 (by omega)
  have q2:=z2 (by omega)
  have q3:=z3 (by omega)
  exact ⟨congrArg _ (by unfold firstE; rw [if_neg (fun h => h q0),if_neg (fun h => h q1),if_neg (fun h => h q2),q3]),e⟩
def chkR (f:List Fact) (re:Int) (s:Scn) (gs:List (Int × Int)):Int:=firstE (chkF f).2 re (schk s) (gchk gs)
theorem check_spec {w:World} {A B:Option Addr} {f:List Fact} {c d:Nat} {gs:List (Int × Int)} {p:Option Addr} {re:Int} (hf:HF w A f c) (hl:f.length <= 2 ^ 20) (s:Scn) (hr:Reads w B (prCells gs))
  (hR:∀ w' g5,Ext w w' -> w'.heap[g5]? = some (.cells #[.pointer p] 96 (0,0)) -> CallsV C.P 73 (#[] ++ ([]:List Value).toArray ++ #[.pointer (some ⟨g5,0,none⟩)]) w' fun v w'' => v = .int .i64 re ∧ Ext w' w'') :
  CallsV C.P 24 #[.slice A f.length c,.pointer p,s.val,.slice B gs.length d] w fun v w' => v = .int .i64 (chkR f re s gs) ∧ Ext w w':=by
 refine callsV_of C_ok (args:=[_,_,_,_]) (plans:=[]) Tryz.func24 rfl Tryz.ntmps24 (by kernel_rfl) (Nat.le_of_ble_eq_true rfl) ?_
 intro g4 w1 h1
 have M1:Mem w w1 [(g4,.cells #[.slice A f.length c] 22 (0,0))]:=(Mem.start w).alloc h1
 intro g5 w2 h2
 have M2:Mem w w2 [(g5,.cells #[.pointer p] 96 (0,0)),(g4,.cells #[.slice A f.length c] 22 (0,0))]:=M1.alloc h2
 intro g6 w3 h3
 have M3:Mem w w3 [(g6,.cells s.cells.toArray 27 (0,0)),(g5,.cells #[.pointer p] 96 (0,0)),(g4,.cells #[.slice A f.length c] 22 (0,0))]:=M2.alloc h3
 intro g7 w4 h4
 have M4:Mem w w4 [(g7,.cells #[.slice B gs.length d] 28 (0,0)),(g6,.cells s.cells.toArray 27 (0,0)),(g5,.cells #[.pointer p] 96 (0,0)),(g4,.cells #[.slice A f.length c] 22 (0,0))]:=M3.alloc h4
 refine ⟨[],[.pointer (some ⟨g4,0,none⟩)],rfl,rfl,?_⟩
 refine ⟨[],[.pointer (some ⟨g5,0,none⟩)],rfl,rfl,?_⟩
 refine ⟨[],[.pointer (some ⟨g6,0,none⟩)],rfl,rfl,?_⟩
 refine ⟨[],[.pointer (some ⟨g7,0,none⟩)],rfl,rfl,?_⟩
 intro gF w5 h5
 have M5:=M4.alloc h5
 have hF:=h5.here
 refine (first_spec (e0:=(chkF f).2) (e1:=re) (e2:=schk s) (e3:=gchk gs) hF rfl rfl rfl rfl (fun w' e => ?_) (fun w' e => ?_) (fun w' e => ?_) (fun w' e => ?_)).mono ?_
 ·have M:=M5.grow e
  refine callsV_of C_ok (args:=[_]) (plans:=[]) Tryz.func71 rfl Tryz.ntmps71 (by kernel_rfl) (Nat.le_of_ble_eq_true rfl) ?_
  refine ⟨_,M.cell 4 rfl rfl,?_⟩
  refine (Go.Proofs.YtigapannpbaihaaGreat.Check_spec (hf.ext M.ext) hl).mono ?_
  rintro v w6 ⟨rfl,e6⟩
  exact ⟨rfl,e6⟩
 ·exact hR w' g5 (M5.grow e).ext ((M5.grow e).get 3 rfl)
 ·have M:=M5.grow e
  refine callsV_of C_ok (args:=[_]) (plans:=[]) Tryz.func75 rfl Tryz.ntmps75 (by kernel_rfl) (Nat.le_of_ble_eq_true rfl) ?_
  refine ⟨s.cells,rfl,M.rd 2 rfl,?_⟩
  exact (CheckScene_spec s w').mono fun v w'' h => h
 ·have M:=M5.grow e
  refine callsV_of C_ok (args:=[_]) (plans:=[]) Tryz.func77 rfl Tryz.ntmps77 (by kernel_rfl) (Nat.le_of_ble_eq_true rfl) ?_
  refine ⟨_,M.cell 1 rfl rfl,?_⟩
  exact (CheckGuests_spec (hr.ext M.ext)).mono fun v w'' h => h
 ·rintro v w6 ⟨rfl,e6⟩
  exact ⟨rfl,M5.ext.trans e6⟩
theorem underRp:Tryz.prog.underlying 96 = some (.pointer (Tryz.prog.pointee 96)):=by kernel_rfl
theorem eqNilR (x y:Operand) (p:Option Addr):EqIs C.P .eql 96 x y (.pointer p) (.pointer none) p.isNone:=by
 intro w
 have hu:C.P.underlying 96 = some (.pointer (C.P.pointee 96)):=underRp
 have h1:(eqGuard .eql 96 x y (.pointer p) (.pointer none)).run C.P w = .ok () w:=by simp [eqGuard]
 rw [Sem.run_bind,h1]
 simp only [Result.andThen_ok]
 exact run_eql_pointer_nil _ _ _ hu
def profsOf (f:List Fact) (s:Scn) (gs:List (Int × Int)):List Prof:=gs.map (profOf f s)
theorem prRd {w:World} {B:Option Addr} {gs:List (Int × Int)} (h:Reads w B (prCells gs)) {i:Nat} (hi:i < gs.length):∃ b o,B = some ⟨b,o,none⟩ ∧ Rd w b (o + i * 2) (guestCells gs[i]) :=
 Reads.elem (enc:=fun p:Int × Int => guestCells p) (k:=2) (fun _ => rfl) (by omega) h hi
set_option maxRecDepth 100000 in
theorem profiles_spec {w:World} {A B:Option Addr} {f:List Fact} {c d:Nat} {gs:List (Int × Int)} (hf:HF w A f c) (hl:f.length <= 2 ^ 20) (s:Scn) (hr:Reads w B (prCells gs)) (hg:∀ g ∈ gs,In64 g.1) (hgl:gs.length <= 2 ^ 20) :
  CallsV C.P 27 #[.slice A f.length c,s.val,.slice B gs.length d] w fun v w' => NewL Prof.cells 194 7 w.heap.size w' v (profsOf f s gs) ∧ Ext w w':=by
 refine callsV_of C_ok (args:=[_,_,_]) (plans:=[]) Tryz.func27 rfl Tryz.ntmps27 (by kernel_rfl) (Nat.le_of_ble_eq_true rfl) ?_
 intro g4 w1 h1
 have M1:Mem w w1 [(g4,.cells s.cells.toArray 27 (0,0))]:=(Mem.start w).alloc h1
 refine loopE C_ok (fun (p:Nat × Value) => [(0,.slice A f.length c),(4,.pointer (some ⟨g4,0,none⟩)),(7,p.2),(10,.slice B gs.length d),(11,.int .i64 gs.length),(12,.int .i64 (p.1:Nat))])
  (fun p w' => p.1 <= gs.length ∧ NewL Prof.cells 194 7 w1.heap.size w' p.2 (profsOf f s (gs.take p.1)) ∧ Ext w1 w') (fun p => gs.length - p.1) (0,.slice none 0 0) ⟨rfl,rfl,rfl,rfl,rfl,rfl,trivial⟩
  ⟨Nat.zero_le _,newL_nil,Ext.refl _⟩ ?_
 rintro ⟨i,v⟩ w2 ⟨hi',ho',e2⟩
 have hi:i <= gs.length:=hi'
 have ho:NewL Prof.cells 194 7 w1.heap.size w2 v (profsOf f s (gs.take i)):=ho'
 clear hi' ho'
 have hlen:(profsOf f s (gs.take i)).length <= i:=by unfold profsOf; rw [List.length_map,List.length_take]; omega
 refine brE_dec (fun hlt => ?_) (fun hge => ?_)
 ·have hlti:i < gs.length:=by have:(i:Int) < (gs.length:Nat):=hlt; omega
  have next:IntKind.i64.wrap ((i:Int) + 1) = ((i + 1:Nat):Int):=fit ⟨by omega,by omega⟩
  obtain ⟨g,hge⟩:∃ g,g = gs[i]:=⟨_,rfl⟩
  have hs:profsOf f s (gs.take (i + 1)) = profsOf f s (gs.take i) ++ [profOf f s g]:=by unfold profsOf; rw [List.take_succ_eq_append_getElem hlti,List.map_append,<-hge]; rfl
  have hg1:In64 g.1:=by rw [hge]; exact hg _ (List.getElem_mem hlti)
  have M2:=M1.grow e2
  obtain ⟨b,o,hB,hc⟩:=prRd (hr.ext M2.ext) hlti
  rw [<-hge] at hc
  refine ⟨i,b,o,rfl,hlti,hB,?_⟩
  refine ⟨guestCells g,rfl,hc,?_⟩
  intro g9 w3 h3
  refine ⟨rfl,_,_,h3.here,Nat.le_of_ble_eq_true rfl,rfl,?_⟩
  intro w4 h4
  have e24:Ext w2 w4:=h4.ext_of h3.ext (by rw [h3.new]; exact Nat.le_refl _)
  have M4:=M2.grow e24
  have h4:Put w3 g9 (.cells (guestCells g).toArray 63 (0,0)) w4:=h4
  refine ⟨s.cells,rfl,M4.rd 0 rfl,?_⟩
  refine ⟨guestCells g,rfl,Rd.of_block h4.here,?_⟩
  refine (profile_spec (hf.ext M4.ext) hl s hg1).mono ?_
  rintro v' w5 ⟨rfl,e5⟩
  intro g6 w6 h6
  have e26:=(e24.trans e5).trans h6.ext
  have ho6:=ho.ext e26
  refine ⟨rfl,rfl,rfl,w1.heap.size,_,_,(profOf f s g).cells,ho6,(e2.trans e26).size,Nat.le_of_ble_eq_true rfl,rfl,rfl,.inr ⟨g6,0,rfl,Rd.of_block h6.here⟩,rfl,rfl,by omega,by simp only [maxLen]; omega,?_⟩
  intro v7 w7 ho7 hg7 hpl
  refine ⟨_,next,?_⟩
  refine ⟨(i + 1,v7),⟨rfl,rfl,rfl,rfl,rfl,rfl,trivial⟩,⟨hlti,?_,app_ext (e2.trans e26) ho6 hg7⟩,by show gs.length - (i + 1) < gs.length - i; omega⟩
  show NewL _ _ _ _ _ _ (profsOf f s (gs.take (i + 1)))
  rw [hs]
  unfold NewL
  rw [List.length_append,List.flatMap_append]
  simpa using ho7
 ·have hie:i = gs.length:=by have:¬ (i:Int) < (gs.length:Nat):=hge; omega
  rw [hie,List.take_length] at ho
  exact ⟨ho.base M1.ext.size,M1.ext.trans e2⟩
theorem gchk_len {gs:List (Int × Int)} (h:gchk gs = 0):gs.length <= 24:=by
 unfold gchk at h
 split at h
 ·cases h
 ·omega
theorem chkR_zero {f:List Fact} {re:Int} {s:Scn} {gs:List (Int × Int)} (h:chkR f re s gs = 0):(chkF f).2 = 0 ∧ re = 0 ∧ schk s = 0 ∧ gchk gs = 0:=by
 unfold chkR firstE at h
 by_cases h0:(chkF f).2 = 0
 ·rw [if_neg (fun e => e h0)] at h
  by_cases h1:re = 0
  ·rw [if_neg (fun e => e h1)] at h
   by_cases h2:schk s = 0
   ·rw [if_neg (fun e => e h2)] at h
    exact ⟨h0,h1,h2,h⟩
   ·rw [if_pos h2] at h; exact absurd h h2
  ·rw [if_pos h1] at h; exact absurd h h1
 ·rw [if_pos h0] at h; exact absurd h h0
end Go.Proofs.YtigapannpbaihaaGreat.Rk
namespace Go.Proofs.YtigapannpbaihaaGreat.Rk
open Go.Eng Go.RowKit
theorem someRules {w:World} {g5 g6:Nat} {R:Option Addr} {l:List Rl} {c:Nat} (hR:HRs w R l c) (h6:w.heap[g6]? = some (.cells #[.slice R l.length c] 25 (0,0))) (h:w.heap[g5]? = some (.cells #[.pointer (some ⟨g6,0,none⟩)] 96 (0,0))) :
  CallsV C.P 73 (#[] ++ ([]:List Value).toArray ++ #[.pointer (some ⟨g5,0,none⟩)]) w fun v w' => v = .int .i64 (chkRl l) ∧ Ext w w':=by
 refine callsV_of C_ok (args:=[_]) (plans:=[]) Tryz.func73 rfl Tryz.ntmps73 (by kernel_rfl) (Nat.le_of_ble_eq_true rfl) ?_
 refine ⟨_,cell_of_block (i:=0) h rfl,?_⟩
 refine ⟨_,eqNilR _ _ _,?_⟩
 refine ⟨_,cell_of_block (i:=0) h rfl,?_⟩
 refine ⟨[.slice R l.length c],rfl,Rd.of_block h6,?_⟩
 exact (rulesCheck_spec hR).mono fun v w' h => h
theorem relL_mem {l:List Rl} {p:List Prof} {x:Arrow} (hx:x ∈ relL l p):∃ a b:Nat,a < p.length ∧ b < p.length ∧ a ≠ b ∧ x.fr = (a:Nat) ∧ x.to = (b:Nat) ∧ ∃ (n:Nat) (h:n < l.length),x.rule = (n:Nat) ∧ x.wt = l[n].weight ∧ ruledI l (p.getD a default) (p.getD b default) = (n:Nat):=by
 unfold relL at hx
 simp only [List.mem_flatMap,List.mem_range,mem_rwR] at hx
 obtain ⟨a,ha,b,hb,hab,hx⟩:=hx
 unfold arrF at hx
 split at hx
 ·rename_i h0
  have hlt:=ruledI_lt l (p.getD a default) (p.getD b default)
  obtain ⟨n,hn⟩:=Int.eq_ofNat_of_zero_le h0
  have hnl:n < l.length:=by omega
  rw [List.mem_singleton.1 hx]
  exact ⟨a,b,ha,hb,hab,rfl,rfl,n,hnl,hn,by show wtOf l _ = _; rw [hn,wtOf_nat hnl],hn⟩
 ·cases hx
theorem relL_len (l:List Rl) (p:List Prof) (hp:p.length <= 24):(relL l p).length <= 24 * 48:=by
 rw [<-(prog_perm l p).length_eq]
 have n3:=progTo_le l p p.length
 have n5:p.length * (2 * p.length) <= 24 * 48:=Nat.mul_le_mul hp (by omega)
 omega
theorem relL_nums {l:List Rl} {p:List Prof} (hp:p.length <= 24) (hl:l.length <= 24) (hw:∀ x ∈ l,In64 x.weight):∀ x ∈ relL l p,In64 x.fr ∧ In64 x.to ∧ In64 x.rule ∧ In64 x.wt:=by
 intro x hx
 obtain ⟨a,b,ha,hb,_,e1,e2,n,hn,e3,e4,_⟩:=relL_mem hx
 refine ⟨?_,?_,?_,?_⟩
 ·rw [e1]; exact ⟨by omega,by omega⟩
 ·rw [e2]; exact ⟨by omega,by omega⟩
 ·rw [e3]; exact ⟨by omega,by omega⟩
 ·rw [e4]; exact hw _ (List.getElem_mem hn)
set_option maxRecDepth 100000 in
set_option maxHeartbeats 4000000 in
theorem Relate_spec {w:World} {A R B Q:Option Addr} {f:List Fact} {l:List Rl} {c cl d e:Nat} {gs ps:List (Int × Int)} (hf:HF w A f c) (hl:f.length <= 2 ^ 20) (hR:HRs w R l cl) (s:Scn) (hr:Reads w B (prCells gs)) (hg:∀ g ∈ gs,In64 g.1) (hps:∀ p ∈ ps,In64 p.1 ∧ In64 p.2) (hrp:Reads w Q (prCells ps)) (hpl:ps.length <= 2 ^ 44) :
  CallsV C.P 8 #[.slice A f.length c,.agg #[.slice R l.length cl],s.val,.slice B gs.length d,.slice Q ps.length e] w fun v w' =>
   (∃ u,v = .tuple #[u,.int .i64 (chkR f (chkRl l) s gs)] ∧ NewRel w.heap.size w' u (if chkR f (chkRl l) s gs = 0 then ((gs.length:Nat):Int) else 0) (if chkR f (chkRl l) s gs = 0 then waiveL (relL l (profsOf f s gs)) ps else [])) ∧ Ext w w':=by
 obtain ⟨k,hk⟩:∃ k,k = chkR f (chkRl l) s gs:=⟨_,rfl⟩
 rw [<-hk]
 refine callsV_of C_ok (args:=[_,_,_,_,_]) (plans:=plans8) Tryz.func8 rfl Tryz.ntmps8 (by kernel_rfl) (Nat.le_of_ble_eq_true rfl) ?_
 intro g6 w1 h1
 have M:Mem w w1 [(g6,.cells #[.slice R l.length cl] 25 (0,0))]:=(Mem.start w).alloc h1
 intro g7 w2 h2
 have M:Mem w w2 [(g7,.cells s.cells.toArray 27 (0,0)),(g6,.cells #[.slice R l.length cl] 25 (0,0))]:=M.alloc h2
 intro g10 w3 h3
 have M:Mem w w3 [(g10,.cells #[.int .i64 0,.slice none 0 0] 36 (0,0)),(g7,.cells s.cells.toArray 27 (0,0)),(g6,.cells #[.slice R l.length cl] 25 (0,0))]:=M.alloc h3
 clear h1 h2 h3
 refine ⟨s.cells,rfl,M.rd 1 rfl,?_⟩
 have X:=check_spec (p:=some ⟨g6,0,none⟩) (re:=chkRl l) (c:=c) (d:=d) (hf.ext M.ext) hl s (hr.ext M.ext) (fun w' g5 e5 h5 => someRules ((hR.ext M.ext).ext e5) (e5.heap (M.get 2 rfl)) h5)
 rw [<-hk] at X
 refine X.mono ?_
 rintro v w4 ⟨rfl,e4⟩
 have M:=M.grow e4
 refine brE_ndec (fun c0 => ?_) (fun c0 => ?_)
 ·have c0:k ≠ 0:=c0
  refine ⟨rfl,_,_,M.get 0 rfl,Nat.le_of_ble_eq_true rfl,rfl,?_⟩
  intro w5 h5
  have M:=M.put 0 rfl h5
  refine ⟨[.int .i64 0,.slice none 0 0],rfl,M.rd 0 rfl,?_⟩
  refine ⟨⟨_,rfl,?_⟩,M.ext⟩
  rw [if_neg c0,if_neg c0]
  exact newRel_zero _ _
 have c0:k = 0:=c0
 obtain ⟨_,hz,_,hgz⟩:=chkR_zero (hk.symm.trans c0)
 have hgl:=gchk_len hgz
 obtain ⟨hl24,hgood⟩:=chkRl_zero hz
 have hpn:(profsOf f s gs).length = gs.length:=List.length_map _
 refine ⟨[.slice R l.length cl],rfl,M.rd 2 rfl,?_⟩
 refine ⟨s.cells,rfl,M.rd 1 rfl,?_⟩
 refine (profiles_spec (hf.ext M.ext) hl s (hr.ext M.ext) hg (by omega)).mono ?_
 rintro v w5 ⟨hp5,e5⟩
 refine ⟨e5,?_⟩
 have M:=M.grow e5
 obtain ⟨P,cp,rfl,hHL⟩:=hp5.hl
 refine (relate_spec (hR.ext M.ext) hHL (by omega)).mono ?_
 rintro v w6 ⟨hrel,e6⟩
 have M:=M.grow e6
 obtain ⟨N,hN⟩:∃ N:Int,N = ((profsOf f s gs).length:Nat):=⟨_,rfl⟩
 rw [<-hN] at hrel
 have hlen:=relL_len l (profsOf f s gs) (by omega)
 obtain ⟨A6,c6,rfl,hrel6⟩:=hrel.hrel ⟨by omega,by omega⟩ (relL_nums (by omega) hl24 fun x hx => (hR.each x hx).weight) (by omega)
 have hs6:w.heap.size <= w6.heap.size:=M.ext.size
 have b10:g10 < w6.heap.size:=M.lt List.mem_cons_self
 refine (waive_spec hrel6 (by omega) hps (hrp.ext M.ext) hpl).mono ?_
 rintro v w7 ⟨⟨A7,c7,rfl,ho7⟩,e7⟩
 have M:=M.grow e7
 obtain ⟨X7,hX7⟩:∃ X7,X7 = waiveL (relL l (profsOf f s gs)) ps:=⟨_,rfl⟩
 rw [<-hX7] at ho7 ⊢
 refine ⟨rfl,_,_,M.get 0 rfl,Nat.le_of_ble_eq_true rfl,rfl,?_⟩
 intro w8 h8
 have M8:=M.put 0 rfl h8
 refine ⟨[.int .i64 N,.slice A7 X7.length c7],rfl,M8.rd 0 rfl,?_⟩
 refine ⟨⟨_,by rw [c0],?_⟩,M8.ext⟩
 rw [if_pos c0,if_pos c0]
 refine ⟨A7,c7,?_,?_⟩
 ·rw [hN,hpn]; rfl
 ·exact ownsRow_base (ownsRow_put ho7 h8 (fun e => by have:=(ho7.lt g10 e).1; omega)) hs6
end Go.Proofs.YtigapannpbaihaaGreat.Rk
namespace Go.Proofs.YtigapannpbaihaaGreat
open Go.Eng Go.RowKit
theorem in_spec (n a b:Int) (w:World):CallsV C.P 210 #[.int .i64 n,.int .i64 a,.int .i64 b] w fun v w' => v = .bool (inB n a b) ∧ w' = w:=by
 refine callsV_of C_ok (args:=[_,_,_]) (plans:=[]) Tryz.func210 rfl Tryz.ntmps210 (by kernel_rfl) (Nat.le_of_ble_eq_true rfl) ?_
 refine brE_dec (fun h1 => ?_) (fun h1 => ?_)
 ·refine ⟨congrArg Value.bool ?_,rfl⟩
  have h1:a <= n:=h1
  rw [Bool.eq_iff_iff]; simp only [decide_eq_true_eq]; omega
 ·refine ⟨congrArg Value.bool ?_,rfl⟩
  have h1:¬ a <= n:=h1
  rw [inB,decide_eq_false]; omega
theorem isId_spec (n:Int) (w:World):CallsV C.P 211 #[.int .i64 n] w fun v w' => v = .bool (idB n) ∧ w' = w:=by
 refine callsV_of C_ok (args:=[_]) (plans:=[]) Tryz.func211 rfl Tryz.ntmps211 (by kernel_rfl) (Nat.le_of_ble_eq_true rfl) ?_
 refine (in_spec n 1 1000000 w).mono ?_
 rintro _ w' ⟨rfl,rfl⟩
 exact ⟨rfl,rfl⟩
def persB (n:Int):Bool:=decide (n = 0) || idB n
theorem pers_spec (n:Int) (w:World):CallsV C.P 242 (#[] ++ [.int .i64 n].toArray ++ #[]) w fun v w' => v = .bool (persB n) ∧ w' = w:=by
 refine callsV_of C_ok (args:=[_]) (plans:=[]) Tryz.func242 rfl Tryz.ntmps242 (by kernel_rfl) (Nat.le_of_ble_eq_true rfl) ?_
 refine brE_dec (fun h1 => ?_) (fun h1 => ?_)
 ·have h1:n = 0:=h1
  exact ⟨congrArg Value.bool (by unfold persB; rw [decide_eq_true h1]; rfl),rfl⟩
 ·have h1:¬ n = 0:=h1
  refine (isId_spec n w).mono ?_
  rintro _ w' ⟨rfl,rfl⟩
  exact ⟨congrArg Value.bool (by unfold persB; rw [decide_eq_false h1]; rfl),rfl⟩
def idsW (x:Waiv):Bool:=inB x.id 1 500 && idB x.signer && idB x.giver && idB x.taker && !decide (x.giver = x.taker)
def guestsW (x:Waiv):Bool:=persB x.under && persB x.over && (decide (x.under = 0) || !decide (x.under = x.over))
theorem rightW_parts (x:Waiv):rightW x = (idsW x && guestsW x && inB x.day 0 100000 && decide (x.day <= x.since) && decide (x.since < x.til) && decide (x.til <= 100000)):=by
 unfold rightW idsW guestsW persB
 simp only [Bool.and_assoc]
set_option maxRecDepth 100000 in
theorem rightW_spec (x:Waiv) (w:World):CallsV C.P 212 #[x.val] w fun v w' => v = .bool (rightW x) ∧ Ext w w':=by
 refine callsV_ofS (args:=[_]) Tryz.func212 rfl Tryz.ntmps212 C_ok (Nat.le_of_ble_eq_true rfl) ?_
 refine Snd.go C_ok [] (by kernel_rfl) ?_
 intro g1 w1 h1
 have M1:Mem w w1 [(g1,.cells x.cells.toArray 124 (0,0))]:=(Mem.start w).alloc h1
 refine ⟨Snd.go C_ok [] (by kernel_rfl) ?_⟩
 refine ⟨Snd.join C_ok [] (fun b:Bool => [(1,.pointer (some ⟨g1,0,none⟩)),(3,.func (.func 242) #[] #[]),(4,.bool b)]) (fun b w' => w' = w1 ∧ b = idsW x) (by kernel_rfl) ?_ ?_⟩
 ·have hE:idsW x = (inB x.id 1 500 && idB x.signer && idB x.giver && idB x.taker && !decide (x.giver = x.taker)):=rfl
  refine ⟨_,M1.cell 0 rfl rfl,?_⟩
  refine (in_spec x.id 1 500 _).mono ?_
  rintro _ w9 ⟨rfl,rfl⟩
  refine brE_mk (fun q => ?_) (fun q => ⟨false,⟨rfl,rfl,rfl,trivial⟩,rfl,by rw [hE,show inB x.id 1 500 = false from q]; simp only [Bool.and_false,Bool.false_and]⟩)
  have q0:inB x.id 1 500 = true:=q
  refine ⟨_,M1.cell 0 rfl rfl,?_⟩
  refine (isId_spec x.signer _).mono ?_
  rintro _ w9 ⟨rfl,rfl⟩
  refine brE_mk (fun q => ?_) (fun q => ⟨false,⟨rfl,rfl,rfl,trivial⟩,rfl,by rw [hE,show idB x.signer = false from q]; simp only [Bool.and_false,Bool.false_and]⟩)
  have q1:idB x.signer = true:=q
  refine ⟨_,M1.cell 0 rfl rfl,?_⟩
  refine (isId_spec x.giver _).mono ?_
  rintro _ w9 ⟨rfl,rfl⟩
  refine brE_mk (fun q => ?_) (fun q => ⟨false,⟨rfl,rfl,rfl,trivial⟩,rfl,by rw [hE,show idB x.giver = false from q]; simp only [Bool.and_false,Bool.false_and]⟩)
  have q2:idB x.giver = true:=q
  refine ⟨_,M1.cell 0 rfl rfl,?_⟩
  refine (isId_spec x.taker _).mono ?_
  rintro _ w9 ⟨rfl,rfl⟩
  refine brE_mk (fun q => ?_) (fun q => ⟨false,⟨rfl,rfl,rfl,trivial⟩,rfl,by rw [hE,show idB x.taker = false from q]; simp only [Bool.and_false,Bool.false_and]⟩)
  have q3:idB x.taker = true:=q
  refine ⟨_,M1.cell 0 rfl rfl,?_⟩
  refine ⟨_,M1.cell 0 rfl rfl,?_⟩
  exact ⟨!decide (x.giver = x.taker),⟨rfl,rfl,rfl,trivial⟩,rfl,by rw [hE]; simp only [q0,q1,q2,q3,Bool.true_and]⟩
 rintro b1 w1' ⟨rfl,hb1⟩
 refine Snd.join C_ok [] (fun b:Bool => [(1,.pointer (some ⟨g1,0,none⟩)),(4,.bool b1),(5,.bool b)]) (fun b w' => w' = w1' ∧ b = guestsW x) (by kernel_rfl) ?_ ?_
 ·have hE:guestsW x = (persB x.under && persB x.over && (decide (x.under = 0) || !decide (x.under = x.over))):=rfl
  refine ⟨_,M1.cell 0 rfl rfl,?_⟩
  refine (pers_spec x.under _).mono ?_
  rintro _ w9 ⟨rfl,rfl⟩
  refine brE_mk (fun q => ?_) (fun q => ⟨false,⟨rfl,rfl,rfl,trivial⟩,rfl,by rw [hE,show persB x.under = false from q]; simp only [Bool.and_false,Bool.false_and]⟩)
  have q0:persB x.under = true:=q
  refine ⟨_,M1.cell 0 rfl rfl,?_⟩
  refine (pers_spec x.over _).mono ?_
  rintro _ w9 ⟨rfl,rfl⟩
  refine brE_mk (fun q => ?_) (fun q => ⟨false,⟨rfl,rfl,rfl,trivial⟩,rfl,by rw [hE,show persB x.over = false from q]; simp only [Bool.and_false,Bool.false_and]⟩)
  have q1:persB x.over = true:=q
  refine ⟨_,M1.cell 0 rfl rfl,?_⟩
  refine brE_dec (fun q => ?_) (fun q => ?_)
  ·have q:x.under = 0:=q
   exact ⟨true,⟨rfl,rfl,rfl,trivial⟩,rfl,by rw [hE,q0,q1,decide_eq_true q]; rfl⟩
  ·have q:¬ x.under = 0:=q
   refine ⟨_,M1.cell 0 rfl rfl,?_⟩
   refine ⟨_,M1.cell 0 rfl rfl,?_⟩
   exact ⟨!decide (x.under = x.over),⟨rfl,rfl,rfl,trivial⟩,rfl,by rw [hE,q0,q1,decide_eq_false q]; rfl⟩
 rintro b2 w2 ⟨rfl,hb2⟩
 refine Snd.fin C_ok (plans:=[]) (by kernel_rfl) ?_
 rw [rightW_parts,<-hb1,<-hb2]
 refine brE_mk (fun q => ?_) (fun q => ⟨congrArg Value.bool (by rw [show b1 = false from q]; simp only [Bool.and_false,Bool.false_and]),M1.ext⟩)
 have q0:b1 = true:=q
 refine brE_mk (fun q => ?_) (fun q => ⟨congrArg Value.bool (by rw [show b2 = false from q]; simp only [Bool.and_false,Bool.false_and]),M1.ext⟩)
 have q1:b2 = true:=q
 refine ⟨_,M1.cell 0 rfl rfl,?_⟩
 refine (in_spec x.day 0 100000 _).mono ?_
 rintro _ w9 ⟨rfl,rfl⟩
 refine brE_mk (fun q => ?_) (fun q => ⟨congrArg Value.bool (by rw [show inB x.day 0 100000 = false from q]; simp only [Bool.and_false,Bool.false_and]),M1.ext⟩)
 have q2:inB x.day 0 100000 = true:=q
 refine ⟨_,M1.cell 0 rfl rfl,?_⟩
 refine ⟨_,M1.cell 0 rfl rfl,?_⟩
 refine brE_mk (fun q => ?_) (fun q => ⟨congrArg Value.bool (by rw [show decide (x.day <= x.since) = false from q]; simp only [Bool.and_false,Bool.false_and]),M1.ext⟩)
 have q3:decide (x.day <= x.since) = true:=q
 refine ⟨_,M1.cell 0 rfl rfl,?_⟩
 refine ⟨_,M1.cell 0 rfl rfl,?_⟩
 refine brE_mk (fun q => ?_) (fun q => ⟨congrArg Value.bool (by rw [show decide (x.since < x.til) = false from q]; simp only [Bool.and_false,Bool.false_and]),M1.ext⟩)
 have q4:decide (x.since < x.til) = true:=q
 refine ⟨_,M1.cell 0 rfl rfl,?_⟩
 exact ⟨congrArg Value.bool (by simp only [q0,q1,q2,q3,q4,Bool.true_and]),M1.ext⟩
structure Waiv.Nums (x:Waiv):Prop where
 id:In64 x.id
 day:In64 x.day
 signer:In64 x.signer
 giver:In64 x.giver
 taker:In64 x.taker
 under:In64 x.under
 over:In64 x.over
 since:In64 x.since
 til:In64 x.til
structure Gift.Nums (x:Gift):Prop where
 id:In64 x.id
 day:In64 x.day
 frm:In64 x.frm
 to:In64 x.to
 cur:0 <= x.cur ∧ x.cur <= 255
 n:In64 x.n
 worth:In64 x.worth
 state:0 <= x.state ∧ x.state <= 255
 answered:In64 x.answered
 returns:In64 x.returns
structure Entry.Nums (x:Entry):Prop where
 kind:0 <= x.kind ∧ x.kind <= 255
 day:In64 x.day
 w:x.w.Nums
 g:x.g.Nums
 a:In64 x.a
 b:In64 x.b
 n:In64 x.n
theorem Entry.w_part (x:Entry):∀ i v,x.w.cells[i]? = some v -> x.cells[2 + i]? = some v:=by
 intro i v h
 match i,h with
 | 0,h | 1,h | 2,h | 3,h | 4,h | 5,h | 6,h | 7,h | 8,h => exact h
 | n + 9,h => exact absurd (List.getElem?_eq_some_iff.1 h).1 (by rw [Waiv.len]; omega)
theorem Entry.g_part (x:Entry):∀ i v,x.g.cells[i]? = some v -> x.cells[11 + i]? = some v:=by
 intro i v h
 match i,h with
 | 0,h | 1,h | 2,h | 3,h | 4,h | 5,h | 6,h | 7,h | 8,h | 9,h => exact h
 | n + 10,h => exact absurd (List.getElem?_eq_some_iff.1 h).1 (by rw [Gift.len]; omega)
def idsG (x:Gift):Bool:=inB x.id 1 500 && idB x.frm && idB x.to && !decide (x.frm = x.to) && inB x.returns 0 500 && !decide (x.returns = x.id)
theorem rightG_day (x:Gift) (d:Int):(rightG x && decide (x.day = d)) = (idsG x && decide (x.day = d) && inB x.cur 1 2 && inB x.n 1 1000000):=by
 unfold rightG
 have e:(inB x.id 1 500 && idB x.frm && idB x.to && !decide (x.frm = x.to) && inB x.returns 0 500 && !decide (x.returns = x.id)) = idsG x:=rfl
 rw [e]
 generalize idsG x = a
 generalize decide (x.day = d) = b
 generalize inB x.cur 1 2 = c
 generalize inB x.n 1 1000000 = e
 cases a <;> cases b <;> cases c <;> cases e <;> rfl
set_option maxRecDepth 100000 in
set_option maxHeartbeats 2000000 in
theorem formed_spec (x:Entry) (hx:x.Nums) (w:World):CallsV C.P 150 #[x.val] w fun v w' => v = .bool (formX x) ∧ Ext w w':=by
 refine callsV_ofS (args:=[_]) Tryz.func150 rfl Tryz.ntmps150 C_ok (Nat.le_of_ble_eq_true rfl) ?_
 refine Snd.go C_ok plans150 (by kernel_rfl) ?_
 intro g1 w1 h1
 have M1:Mem w w1 [(g1,.cells x.cells.toArray 134 (0,0))]:=(Mem.start w).alloc h1
 refine ⟨Snd.go C_ok plans150 (by kernel_rfl) ?_⟩
 refine ⟨_,M1.cell 0 rfl rfl,?_⟩
 refine ⟨_,M1.cell 0 rfl rfl,?_⟩
 intro g3 w2 h2
 have M2:=M1.alloc h2
 refine ⟨rfl,_,_,M2.get 0 rfl,Nat.le_of_ble_eq_true rfl,rfl,?_⟩
 intro w3 h3
 have M3:Mem w w3 [(g3,.cells (⟨x.kind,x.day,waivZ,giftZ,0,0,0⟩:Entry).cells.toArray 134 (0,0)),(g1,.cells x.cells.toArray 134 (0,0))]:=M2.put 0 rfl h3
 have hne:g3 ≠ g1:=fun e => by
  have:=M3.nodup
  simp [e] at this
 clear M1 M2 h1 h2 h3
 refine ⟨Snd.go C_ok plans150 (by kernel_rfl) ?_⟩
 refine ⟨Snd.join C_ok plans150 (fun s:Entry × Bool => [(1,.pointer (some ⟨g1,0,none⟩)),(3,.pointer (some ⟨g3,0,none⟩)),(4,.bool s.2)]) (fun s w' => Mem w w' [(g3,.cells s.1.cells.toArray 134 (0,0)),(g1,.cells x.cells.toArray 134 (0,0))] ∧ s.1 = wantE x ∧ s.2 = okE x) (by kernel_rfl) ?_ ?_⟩
 ·refine ⟨_,M3.cell 1 rfl rfl,?_⟩
  refine brE_dec (fun k1 => ?_) (fun k1 => ?_)
  ·have k1:x.kind = 1:=k1
   have hE:okE x = (inB x.a 1 2 && inB x.n 1 1000000):=by unfold okE; rw [if_pos k1]
   have hW:(⟨x.kind,x.day,waivZ,giftZ,x.a,0,x.n⟩:Entry) = wantE x:=by unfold wantE; rw [if_pos (.inl k1)]
   refine ⟨fun q => q = g1,?_⟩
   refine ⟨_,M3.cell 1 rfl rfl,?_⟩
   refine ⟨.int .i64 x.n,fun u hu => ⟨_,hu.cell rfl (M3.cell 1 (i:=23) rfl rfl),rfl⟩,?_⟩
   refine ⟨rfl,_,_,M3.get 0 rfl,Nat.le_of_ble_eq_true rfl,rfl,?_⟩
   intro w4 h4
   have M4:=M3.put 0 rfl h4
   refine ⟨(Keep.refl _ w3).put h4 hne,?_⟩
   refine ⟨rfl,_,_,M4.get 0 rfl,Nat.le_of_ble_eq_true rfl,rfl,?_⟩
   intro w5 h5
   have M5:Mem w w5 [(g3,.cells (⟨x.kind,x.day,waivZ,giftZ,x.a,0,x.n⟩:Entry).cells.toArray 134 (0,0)),(g1,.cells x.cells.toArray 134 (0,0))]:=M4.put 0 rfl h5
   refine ⟨_,M5.cell 1 rfl rfl,?_⟩
   refine (in_spec x.a 1 2 _).mono ?_
   rintro _ w9 ⟨rfl,rfl⟩
   refine brE_mk (fun q => ?_) (fun q => ⟨(_,false),⟨rfl,rfl,rfl,trivial⟩,M5,hW,by rw [hE,show inB x.a 1 2 = false from q]; simp only [Bool.and_false,Bool.false_and]⟩)
   have q0:inB x.a 1 2 = true:=q
   refine ⟨_,M5.cell 1 rfl rfl,?_⟩
   refine (in_spec x.n 1 1000000 _).mono ?_
   rintro _ w9 ⟨rfl,rfl⟩
   exact ⟨(_,inB x.n 1 1000000),⟨rfl,rfl,rfl,trivial⟩,M5,hW,by rw [hE]; simp only [q0,Bool.true_and]⟩
  have k1:¬ x.kind = 1:=k1
  refine brE_dec (fun k2 => ?_) (fun k2 => ?_)
  ·have k2:x.kind = 2:=k2
   have hE:okE x = (idB x.a && inB x.n 1 1000000000000):=by unfold okE; rw [if_neg k1,if_pos k2]
   have hW:(⟨x.kind,x.day,waivZ,giftZ,x.a,0,x.n⟩:Entry) = wantE x:=by unfold wantE; rw [if_pos (.inr k2)]
   refine ⟨fun q => q = g1,?_⟩
   refine ⟨_,M3.cell 1 rfl rfl,?_⟩
   refine ⟨.int .i64 x.n,fun u hu => ⟨_,hu.cell rfl (M3.cell 1 (i:=23) rfl rfl),rfl⟩,?_⟩
   refine ⟨rfl,_,_,M3.get 0 rfl,Nat.le_of_ble_eq_true rfl,rfl,?_⟩
   intro w4 h4
   have M4:=M3.put 0 rfl h4
   refine ⟨(Keep.refl _ w3).put h4 hne,?_⟩
   refine ⟨rfl,_,_,M4.get 0 rfl,Nat.le_of_ble_eq_true rfl,rfl,?_⟩
   intro w5 h5
   have M5:Mem w w5 [(g3,.cells (⟨x.kind,x.day,waivZ,giftZ,x.a,0,x.n⟩:Entry).cells.toArray 134 (0,0)),(g1,.cells x.cells.toArray 134 (0,0))]:=M4.put 0 rfl h5
   refine ⟨_,M5.cell 1 rfl rfl,?_⟩
   refine (isId_spec x.a _).mono ?_
   rintro _ w9 ⟨rfl,rfl⟩
   refine brE_mk (fun q => ?_) (fun q => ⟨(_,false),⟨rfl,rfl,rfl,trivial⟩,M5,hW,by rw [hE,show idB x.a = false from q]; simp only [Bool.and_false,Bool.false_and]⟩)
   have q0:idB x.a = true:=q
   refine ⟨_,M5.cell 1 rfl rfl,?_⟩
   refine (in_spec x.n 1 1000000000000 _).mono ?_
   rintro _ w9 ⟨rfl,rfl⟩
   exact ⟨(_,inB x.n 1 1000000000000),⟨rfl,rfl,rfl,trivial⟩,M5,hW,by rw [hE]; simp only [q0,Bool.true_and]⟩
  have k2:¬ x.kind = 2:=k2
  refine brE_dec (fun k3 => ?_) (fun k3 => ?_)
  ·have k3:x.kind = 3:=k3
   have hE:okE x = (rightW x.w && decide (x.w.day = x.day)):=by unfold okE; rw [if_neg k1,if_neg k2,if_pos k3]
   have hW:(⟨x.kind,x.day,x.w,giftZ,0,0,0⟩:Entry) = wantE x:=by unfold wantE; rw [if_neg (fun e => e.elim k1 k2),if_pos k3]
   refine ⟨x.w.cells,rfl,(M3.rd 1 rfl).part x.w_part,?_⟩
   refine ⟨rfl,_,_,M3.get 0 rfl,Nat.le_of_ble_eq_true rfl,rfl,?_⟩
   intro w4 h4
   have M5:Mem w w4 [(g3,.cells (⟨x.kind,x.day,x.w,giftZ,0,0,0⟩:Entry).cells.toArray 134 (0,0)),(g1,.cells x.cells.toArray 134 (0,0))]:=M3.put 0 rfl h4
   refine ⟨x.w.cells,rfl,(M5.rd 1 rfl).part x.w_part,?_⟩
   refine (rightW_spec x.w _).mono ?_
   rintro _ w9 ⟨rfl,e9⟩
   have M6:=M5.grow e9
   refine brE_mk (fun q => ?_) (fun q => ⟨(_,false),⟨rfl,rfl,rfl,trivial⟩,M6,hW,by rw [hE,show rightW x.w = false from q]; simp only [Bool.and_false,Bool.false_and]⟩)
   have q0:rightW x.w = true:=q
   refine ⟨_,M6.cell 1 rfl rfl,?_⟩
   refine ⟨_,M6.cell 1 rfl rfl,?_⟩
   exact ⟨(_,decide (x.w.day = x.day)),⟨rfl,rfl,rfl,trivial⟩,M6,hW,by rw [hE]; simp only [q0,Bool.true_and]⟩
  have k3:¬ x.kind = 3:=k3
  refine brE_dec (fun k4 => ?_) (fun k4 => ?_)
  ·have k4:x.kind = 4:=k4
   have hE:okE x = (inB x.w.id 1 500):=by unfold okE; rw [if_neg k1,if_neg k2,if_neg k3,if_pos k4]
   have hW:(⟨x.kind,x.day,{ waivZ with id:=x.w.id },giftZ,0,0,0⟩:Entry) = wantE x:=by unfold wantE; rw [if_neg (fun e => e.elim k1 k2),if_neg k3,if_pos k4]
   refine ⟨_,M3.cell 1 rfl rfl,?_⟩
   refine ⟨rfl,_,_,M3.get 0 rfl,Nat.le_of_ble_eq_true rfl,rfl,?_⟩
   intro w4 h4
   have M5:Mem w w4 [(g3,.cells (⟨x.kind,x.day,{ waivZ with id:=x.w.id },giftZ,0,0,0⟩:Entry).cells.toArray 134 (0,0)),(g1,.cells x.cells.toArray 134 (0,0))]:=M3.put 0 rfl h4
   refine ⟨_,M5.cell 1 rfl rfl,?_⟩
   refine (in_spec x.w.id 1 500 _).mono ?_
   rintro _ w9 ⟨rfl,rfl⟩
   exact ⟨(_,inB x.w.id 1 500),⟨rfl,rfl,rfl,trivial⟩,M5,hW,by rw [hE]⟩
  have k4:¬ x.kind = 4:=k4
  refine brE_dec (fun k5 => ?_) (fun k5 => ?_)
  ·have k5:x.kind = 5:=k5
   have hE:okE x = (rightG x.g && decide (x.g.day = x.day)):=by unfold okE; rw [if_neg k1,if_neg k2,if_neg k3,if_neg k4,if_pos k5]
   have hW:(⟨x.kind,x.day,waivZ,plainG x.g,0,0,0⟩:Entry) = wantE x:=by unfold wantE; rw [if_neg (fun e => e.elim k1 k2),if_neg k3,if_neg k4,if_pos k5]
   rw [rightG_day] at hE
   refine ⟨x.g.cells,rfl,(M3.rd 1 rfl).part x.g_part,?_⟩
   intro g5 w4 h4
   have M4:=M3.alloc h4
   refine ⟨rfl,_,_,M4.get 0 rfl,Nat.le_of_ble_eq_true rfl,rfl,?_⟩
   intro w5 h5
   have M5:Mem w w5 [(g5,.cells x.g.cells.toArray 132 (0,0)),(g3,.cells (⟨x.kind,x.day,waivZ,giftZ,0,0,0⟩:Entry).cells.toArray 134 (0,0)),(g1,.cells x.cells.toArray 134 (0,0))]:=M4.put 0 rfl h5
   clear M4 h4 h5
   refine ⟨_,M5.cell 0 rfl rfl,?_⟩
   refine ⟨_,M5.cell 0 rfl rfl,?_⟩
   refine ⟨_,M5.cell 0 rfl rfl,?_⟩
   refine ⟨_,M5.cell 0 rfl rfl,?_⟩
   refine ⟨_,M5.cell 0 rfl rfl,?_⟩
   refine ⟨_,M5.cell 0 rfl rfl,?_⟩
   refine ⟨_,M5.cell 0 rfl rfl,?_⟩
   refine ⟨rfl,_,_,M5.get 1 rfl,Nat.le_of_ble_eq_true rfl,rfl,?_⟩
   intro w6 h6
   have M6:Mem w w6 [(g5,.cells x.g.cells.toArray 132 (0,0)),(g3,.cells (⟨x.kind,x.day,waivZ,plainG x.g,0,0,0⟩:Entry).cells.toArray 134 (0,0)),(g1,.cells x.cells.toArray 134 (0,0))]:=M5.put 1 rfl h6
   have M7:Mem w w6 [(g3,.cells (⟨x.kind,x.day,waivZ,plainG x.g,0,0,0⟩:Entry).cells.toArray 134 (0,0)),(g1,.cells x.cells.toArray 134 (0,0))]:=M6.tail
   have hI:idsG x.g = (inB x.g.id 1 500 && idB x.g.frm && idB x.g.to && !decide (x.g.frm = x.g.to) && inB x.g.returns 0 500 && !decide (x.g.returns = x.g.id)):=rfl
   rw [hI] at hE
   refine ⟨_,M6.cell 0 rfl rfl,?_⟩
   refine (in_spec x.g.id 1 500 _).mono ?_
   rintro _ w9 ⟨rfl,rfl⟩
   refine brE_mk (fun q => ?_) (fun q => ⟨(_,false),⟨rfl,rfl,rfl,trivial⟩,M7,hW,by rw [hE,show inB x.g.id 1 500 = false from q]; simp only [Bool.and_false,Bool.false_and]⟩)
   have q0:inB x.g.id 1 500 = true:=q
   refine ⟨_,M6.cell 0 rfl rfl,?_⟩
   refine (isId_spec x.g.frm _).mono ?_
   rintro _ w9 ⟨rfl,rfl⟩
   refine brE_mk (fun q => ?_) (fun q => ⟨(_,false),⟨rfl,rfl,rfl,trivial⟩,M7,hW,by rw [hE,show idB x.g.frm = false from q]; simp only [Bool.and_false,Bool.false_and]⟩)
   have q1:idB x.g.frm = true:=q
   refine ⟨_,M6.cell 0 rfl rfl,?_⟩
   refine (isId_spec x.g.to _).mono ?_
   rintro _ w9 ⟨rfl,rfl⟩
   refine brE_mk (fun q => ?_) (fun q => ⟨(_,false),⟨rfl,rfl,rfl,trivial⟩,M7,hW,by rw [hE,show idB x.g.to = false from q]; simp only [Bool.and_false,Bool.false_and]⟩)
   have q2:idB x.g.to = true:=q
   refine ⟨_,M6.cell 0 rfl rfl,?_⟩
   refine ⟨_,M6.cell 0 rfl rfl,?_⟩
   refine brE_mk (fun q => ?_) (fun q => ⟨(_,false),⟨rfl,rfl,rfl,trivial⟩,M7,hW,by rw [hE,show (!decide (x.g.frm = x.g.to)) = false from q]; simp only [Bool.and_false,Bool.false_and]⟩)
   have q3:(!decide (x.g.frm = x.g.to)) = true:=q
   refine ⟨_,M6.cell 0 rfl rfl,?_⟩
   refine (in_spec x.g.returns 0 500 _).mono ?_
   rintro _ w9 ⟨rfl,rfl⟩
   refine brE_mk (fun q => ?_) (fun q => ⟨(_,false),⟨rfl,rfl,rfl,trivial⟩,M7,hW,by rw [hE,show inB x.g.returns 0 500 = false from q]; simp only [Bool.and_false,Bool.false_and]⟩)
   have q4:inB x.g.returns 0 500 = true:=q
   refine ⟨_,M6.cell 0 rfl rfl,?_⟩
   refine ⟨_,M6.cell 0 rfl rfl,?_⟩
   refine brE_mk (fun q => ?_) (fun q => ⟨(_,false),⟨rfl,rfl,rfl,trivial⟩,M7,hW,by rw [hE,show (!decide (x.g.returns = x.g.id)) = false from q]; simp only [Bool.and_false,Bool.false_and]⟩)
   have q5:(!decide (x.g.returns = x.g.id)) = true:=q
   refine ⟨_,M6.cell 0 rfl rfl,?_⟩
   refine ⟨_,M6.cell 2 rfl rfl,?_⟩
   refine brE_mk (fun q => ?_) (fun q => ⟨(_,false),⟨rfl,rfl,rfl,trivial⟩,M7,hW,by rw [hE,show decide (x.g.day = x.day) = false from q]; simp only [Bool.and_false,Bool.false_and]⟩)
   have q6:decide (x.g.day = x.day) = true:=q
   refine ⟨_,M6.cell 0 rfl rfl,?_⟩
   refine ⟨_,fit ⟨by have:=hx.g.cur; omega,by have:=hx.g.cur; omega⟩,?_⟩
   refine (in_spec x.g.cur 1 2 _).mono ?_
   rintro _ w9 ⟨rfl,rfl⟩
   refine brE_mk (fun q => ?_) (fun q => ⟨(_,false),⟨rfl,rfl,rfl,trivial⟩,M7,hW,by rw [hE,show inB x.g.cur 1 2 = false from q]; simp only [Bool.and_false,Bool.false_and]⟩)
   have q7:inB x.g.cur 1 2 = true:=q
   refine ⟨_,M6.cell 0 rfl rfl,?_⟩
   refine (in_spec x.g.n 1 1000000 _).mono ?_
   rintro _ w9 ⟨rfl,rfl⟩
   exact ⟨(_,inB x.g.n 1 1000000),⟨rfl,rfl,rfl,trivial⟩,M7,hW,by rw [hE]; simp only [q0,q1,q2,q3,q4,q5,q6,q7,Bool.true_and]⟩
  have k5:¬ x.kind = 5:=k5
  refine brE_dec (fun k6 => ?K6) (fun k6 => ?N6)
  case' K6 =>
   have hk:x.kind = 6 ∨ x.kind = 7:=.inl k6
   refine brE_true (decide_eq_true k6) ?_
  case' N6 =>
   have k6:¬ x.kind = 6:=k6
   refine brE_dec (fun k7 => ?K7) (fun k7 => ?N7)
   case' K7 =>
    have hk:x.kind = 6 ∨ x.kind = 7:=.inr k7
   case' N7 =>
    have k7:¬ x.kind = 7:=k7
    exact ⟨(⟨x.kind,x.day,waivZ,giftZ,0,0,0⟩,false),⟨rfl,rfl,rfl,trivial⟩,M3,by unfold wantE; rw [if_neg (fun e => e.elim k1 k2),if_neg k3,if_neg k4,if_neg k5,if_neg (fun e => e.elim k6 k7)],by unfold okE; rw [if_neg k1,if_neg k2,if_neg k3,if_neg k4,if_neg k5,if_neg (fun e => e.elim k6 k7)]⟩
  all_goals
   have hW:(⟨x.kind,x.day,waivZ,{ giftZ with id:=x.g.id },0,0,0⟩:Entry) = wantE x:=by unfold wantE; rw [if_neg (fun e => e.elim k1 k2),if_neg k3,if_neg k4,if_neg k5,if_pos hk]
   refine ⟨_,M3.cell 1 rfl rfl,?_⟩
   refine ⟨rfl,_,_,M3.get 0 rfl,Nat.le_of_ble_eq_true rfl,rfl,?_⟩
   intro w4 h4
   have M5:Mem w w4 [(g3,.cells (⟨x.kind,x.day,waivZ,{ giftZ with id:=x.g.id },0,0,0⟩:Entry).cells.toArray 134 (0,0)),(g1,.cells x.cells.toArray 134 (0,0))]:=M3.put 0 rfl h4
   refine ⟨_,M5.cell 1 rfl rfl,?_⟩
   refine (in_spec x.g.id 1 500 _).mono ?_
   rintro _ w9 ⟨rfl,rfl⟩
   exact ⟨(_,inB x.g.id 1 500),⟨rfl,rfl,rfl,trivial⟩,M5,hW,by unfold okE; rw [if_neg k1,if_neg k2,if_neg k3,if_neg k4,if_neg k5,if_pos hk]⟩
 rintro ⟨y,ok⟩ w4 ⟨M4,hy,hok⟩
 have hy:y = wantE x:=hy
 have hok:ok = okE x:=hok
 refine Snd.fin C_ok (plans:=plans150) (by kernel_rfl) ?_
 have hE:formX x = (ok && decide (x = y) && inB x.day 0 100000):=by rw [hok,hy]; rfl
 refine brE_mk (fun q => ?_) (fun q => ⟨congrArg Value.bool (by rw [hE,show ok = false from q]; rfl),M4.ext⟩)
 have q0:ok = true:=q
 refine ⟨x.cells,rfl,M4.rd 1 rfl,?_⟩
 refine ⟨y.cells,rfl,M4.rd 0 rfl,?_⟩
 refine ⟨_,eqE _ _ x y,?_⟩
 refine brE_mk (fun q => ?_) (fun q => ⟨congrArg Value.bool (by rw [hE,show decide (x = y) = false from q]; simp only [Bool.and_false,Bool.false_and]),M4.ext⟩)
 have q1:decide (x = y) = true:=q
 refine ⟨_,M4.cell 1 rfl rfl,?_⟩
 refine (in_spec x.day 0 100000 _).mono ?_
 rintro _ w9 ⟨rfl,rfl⟩
 exact ⟨congrArg Value.bool (by rw [hE,q0,q1]; rfl),M4.ext⟩
end Go.Proofs.YtigapannpbaihaaGreat
namespace Go.Proofs.YtigapannpbaihaaGreat
open Go.Eng Go.RowKit
theorem okE_5 {x:Entry} (h5:x.kind = 5):okE x = (rightG x.g && decide (x.g.day = x.day)):=by
 unfold okE; rw [if_neg (by omega),if_neg (by omega),if_neg (by omega),if_neg (by omega),if_pos h5]
theorem whom_spec (n:Int) (g:Guest) (w:World):CallsV C.P 104 (#[] ++ [.int .i64 n,g.val].toArray ++ #[]) w fun v w' => v = .bool (decide (n = 0) || decide (n = g.person)) ∧ Ext w w':=by
 refine callsV_of C_ok (args:=[_,_]) (plans:=[]) Tryz.func104 rfl Tryz.ntmps104 (by kernel_rfl) (Nat.le_of_ble_eq_true rfl) ?_
 intro g1 w1 h1
 have M1:Mem w w1 [(g1,.cells g.cells.toArray 63 (0,0))]:=(Mem.start w).alloc h1
 refine brE_mk (fun q => ⟨congrArg Value.bool (by rw [show decide (n = 0) = true from q]; rfl),M1.ext⟩) (fun q => ?_)
 refine ⟨_,M1.cell 0 rfl rfl,?_⟩
 exact ⟨congrArg Value.bool (by rw [show decide (n = 0) = false from q]; rfl),M1.ext⟩
set_option maxRecDepth 100000 in
theorem covers_spec (x:Waiv) (u o:Guest) (w:World):CallsV C.P 45 #[x.val,u.val,o.val] w fun v w' => v = .bool (coversB x u o) ∧ Ext w w':=by
 have hE:coversB x u o = (decide (x.giver = u.state) && decide (x.taker = o.state) && (decide (x.under = 0) || decide (x.under = u.person)) && (decide (x.over = 0) || decide (x.over = o.person))):=by unfold coversB; simp only [Bool.and_assoc]
 refine callsV_of C_ok (args:=[_,_,_]) (plans:=[]) Tryz.func45 rfl Tryz.ntmps45 (by kernel_rfl) (Nat.le_of_ble_eq_true rfl) ?_
 intro g1 w1 h1
 have M1:=(Mem.start w).alloc h1
 intro g2 w2 h2
 have M2:=M1.alloc h2
 intro g3 w3 h3
 have M3:Mem w w3 [(g3,.cells o.cells.toArray 63 (0,0)),(g2,.cells u.cells.toArray 63 (0,0)),(g1,.cells x.cells.toArray 124 (0,0))]:=M2.alloc h3
 clear M1 M2 h1 h2 h3
 refine ⟨_,M3.cell 2 rfl rfl,?_⟩
 refine ⟨_,M3.cell 1 rfl rfl,?_⟩
 refine brE_mk (fun q => ?_) (fun q => ⟨congrArg Value.bool (by rw [hE,show decide (x.giver = u.state) = false from q]; simp only [Bool.false_and]),M3.ext⟩)
 have q0:decide (x.giver = u.state) = true:=q
 refine ⟨_,M3.cell 2 rfl rfl,?_⟩
 refine ⟨_,M3.cell 0 rfl rfl,?_⟩
 refine brE_mk (fun q => ?_) (fun q => ⟨congrArg Value.bool (by rw [hE,show decide (x.taker = o.state) = false from q]; simp only [Bool.and_false,Bool.false_and]),M3.ext⟩)
 have q1:decide (x.taker = o.state) = true:=q
 refine ⟨_,M3.cell 2 rfl rfl,?_⟩
 refine ⟨u.cells,rfl,M3.rd 1 rfl,?_⟩
 refine (whom_spec x.under u _).mono ?_
 rintro _ w4 ⟨rfl,e4⟩
 have M4:=M3.grow e4
 refine brE_mk (fun q => ?_) (fun q => ⟨congrArg Value.bool (by rw [hE,show (decide (x.under = 0) || decide (x.under = u.person)) = false from q]; simp only [Bool.and_false,Bool.false_and]),M4.ext⟩)
 have q2:(decide (x.under = 0) || decide (x.under = u.person)) = true:=q
 refine ⟨_,M4.cell 2 rfl rfl,?_⟩
 refine ⟨o.cells,rfl,M4.rd 0 rfl,?_⟩
 refine (whom_spec x.over o _).mono ?_
 rintro _ w5 ⟨rfl,e5⟩
 have M5:=M4.grow e5
 exact ⟨congrArg Value.bool (by rw [hE,q0,q1,q2]; simp only [Bool.true_and]),M5.ext⟩
end Go.Proofs.YtigapannpbaihaaGreat
