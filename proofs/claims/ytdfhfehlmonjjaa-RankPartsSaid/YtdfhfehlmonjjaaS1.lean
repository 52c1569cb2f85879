/- slices.SortFunc over arrows: the kit's contract, laid. -/
import Derived.Test.YtdfhfehlmonjjaaQ10
import Derived.Test.YtdfhfehlmonjjaaE9
import Derived.Ground.SlsfProg
namespace Go.Proofs.Ytdfhfehlmonjjaa
open Go.Eng Go.RowKit Go.Sort

def sortA_ren : Go.Shelf.Ren := ⟨fun | 6 => 78 | 15 => 91 | 14 => 90 | 28 => 103 | 29 => 104 | 20 => 95 | 21 => 96 | 22 => 97 | 23 => 98 | 24 => 99 | 25 => 100 | 26 => 101 | 27 => 102 | 46 => 105 | 47 => 106 | 48 => 107 | 49 => 108 | 50 => 109 | 57 => 110 | n => n, fun | 22 => 22 | 24 => 43 | 25 => 68 | 3 => 3 | 39 => 109 | 0 => 0 | 53 => 124 | 55 => 126 | 4 => 4 | 46 => 118 | 45 => 117 | 50 => 90 | 5 => 5 | 9 => 9 | 66 => 127 | 70 => 131 | 76 => 133 | 77 => 134 | n => n, fun | n => n⟩
theorem sortA : Go.Proofs.SlLaysF0.n6 Try.prog sortA_ren := {
  mixed := by kernel_rfl,
  f6 := ⟨Try.f78.name, by decide, Try.func78.trans (congrArg some (by kernel_rfl))⟩,
  f14 := ⟨Try.f90.name, by decide, Try.func90.trans (congrArg some (by kernel_rfl))⟩,
  f15 := Try.func91.trans (congrArg some (by kernel_rfl)),
  f20 := ⟨Try.f95.name, by decide, Try.func95.trans (congrArg some (by kernel_rfl))⟩,
  f21 := ⟨Try.f96.name, by decide, Try.func96.trans (congrArg some (by kernel_rfl))⟩,
  f22 := ⟨Try.f97.name, by decide, Try.func97.trans (congrArg some (by kernel_rfl))⟩,
  f23 := ⟨Try.f98.name, by decide, Try.func98.trans (congrArg some (by kernel_rfl))⟩,
  f24 := ⟨Try.f99.name, by decide, Try.func99.trans (congrArg some (by kernel_rfl))⟩,
  f25 := ⟨Try.f100.name, by decide, Try.func100.trans (congrArg some (by kernel_rfl))⟩,
  f26 := ⟨Try.f101.name, by decide, Try.func101.trans (congrArg some (by kernel_rfl))⟩,
  f27 := ⟨Try.f102.name, by decide, Try.func102.trans (congrArg some (by kernel_rfl))⟩,
  f28 := Try.func103.trans (congrArg some (by kernel_rfl)),
  f29 := Try.func104.trans (congrArg some (by kernel_rfl)),
  f46 := ⟨Try.f105.name, by decide, Try.func105.trans (congrArg some (by kernel_rfl))⟩,
  f47 := Try.func106.trans (congrArg some (by kernel_rfl)),
  f48 := Try.func107.trans (congrArg some (by kernel_rfl)),
  f49 := ⟨Try.f108.name, by decide, Try.func108.trans (congrArg some (by kernel_rfl))⟩,
  f50 := ⟨Try.f109.name, by decide, Try.func109.trans (congrArg some (by kernel_rfl))⟩,
  f57 := ⟨Try.f110.name, by decide, Try.func110.trans (congrArg some (by kernel_rfl))⟩,
  t0 := Try.underlying0,
  a0 := Try.isAgg0,
  z0 := Try.sizeOf0,
  v0 := Try.zeroValue0,
  t3 := Try.underlying3,
  a3 := Try.isAgg3,
  z3 := Try.sizeOf3,
  v3 := Try.zeroValue3,
  t4 := Try.underlying4,
  a4 := Try.isAgg4,
  z4 := Try.sizeOf4,
  v4 := Try.zeroValue4,
  t5 := Try.underlying5,
  a5 := Try.isAgg5,
  z5 := Try.sizeOf5,
  v5 := Try.zeroValue5,
  t9 := Try.underlying9,
  a9 := Try.isAgg9,
  z9 := Try.sizeOf9,
  v9 := Try.zeroValue9,
  t22 := Try.underlying22,
  a22 := Try.isAgg22,
  z22 := Try.sizeOf22,
  v22 := Try.zeroValue22,
  t25 := Try.underlying68,
  a25 := Try.isAgg68,
  z25 := Try.sizeOf68,
  v25 := Try.zeroValue68,
  t39 := Try.underlying109,
  a39 := Try.isAgg109,
  z39 := Try.sizeOf109,
  v39 := Try.zeroValue109,
  t45 := Try.underlying117,
  a45 := Try.isAgg117,
  z45 := Try.sizeOf117,
  v45 := Try.zeroValue117,
  t46 := Try.underlying118,
  a46 := Try.isAgg118,
  z46 := Try.sizeOf118,
  v46 := Try.zeroValue118,
  t50 := Try.underlying90,
  a50 := Try.isAgg90,
  z50 := Try.sizeOf90,
  v50 := Try.zeroValue90,
  t53 := Try.underlying124,
  a53 := Try.isAgg124,
  z53 := Try.sizeOf124,
  v53 := Try.zeroValue124,
  t55 := Try.underlying126,
  a55 := Try.isAgg126,
  z55 := Try.sizeOf126,
  v55 := Try.zeroValue126,
  t66 := Try.underlying127,
  a66 := Try.isAgg127,
  z66 := Try.sizeOf127,
  v66 := Try.zeroValue127,
  t70 := Try.underlying131,
  a70 := Try.isAgg131,
  z70 := Try.sizeOf131,
  v70 := Try.zeroValue131,
  t76 := Try.underlying133,
  a76 := Try.isAgg133,
  z76 := Try.sizeOf133,
  v76 := Try.zeroValue133,
  t77 := Try.underlying134,
  a77 := Try.isAgg134,
  z77 := Try.sizeOf134,
  v77 := Try.zeroValue134 }

instance inhArrowS : Inhabited Arrow := ⟨arrowZ⟩

theorem ltOf_cmpA (x y : Arrow) : ltOf cmpA x y = ltA x y := by
  unfold ltOf
  rw [Bool.eq_iff_iff, decide_eq_true_eq, cmpA_lt]

theorem swo_arrow : SWO (ltOf cmpA) where
  irrefl x := by rw [ltOf_cmpA]; simp [ltA]
  trans x y z h1 h2 := by rw [ltOf_cmpA] at *; exact ltA_trans h1 h2
  ntrans x y z h1 h2 := by rw [ltOf_cmpA] at *; simp [ltA] at *; omega

theorem cmp_arrow (x y : Arrow) (W : World) : CallsV C.P 56 (#[.agg x.cells.toArray, .agg y.cells.toArray] ++ #[]) W fun v w' => v = .int .i64 (cmpA x y) ∧ Ext W w' := compareArrows_spec x y W

theorem SortArrows_spec {w : World} {base : Nat} {v : Value} {l : List Arrow} (h : w.ownsRow base 43 4 v l.length (arrows l)) (hlen : l.length < 4611686018427387904) :
    CallsV C.P 78 #[v, .func (.func 56) #[] #[]] w fun r w' => r = .tuple #[] ∧ ∃ l' : List Arrow, l'.Perm l ∧ (l'.Pairwise fun a b => ltA b a = false) ∧ w'.ownsRow base 43 4 v l'.length (arrows l') ∧ w.grownBy w' v.ownBlock ∧ Only 43 w w' := by
  have eg : ∀ args w, (callFunc 56 args).run Try.prog w = .ok (.enter 56 args) w := enters_of Try.func56 (by kernel_rfl) rfl
  have hlt : ltOf cmpA = ltA := by funext x y; exact ltOf_cmpA x y
  refine (sortV (P := C.P) (f := 78) (g := 56) (cb := #[]) (enc := Arrow.cells) (k := 4) (fun _ => rfl) (lt := ltA) (fun W blk cap d hd hH hb => ?_) (fun A cap W => ?_) h hlen).mono ?_
  · have hcon := AnyQ.slices_SortFunc sortA 4 Try.isAgg43 Try.sizeOf43 Arrow.cells (fun _ => rfl) (fun x v hv => by simp [Arrow.cells] at hv; rcases hv with rfl | rfl | rfl | rfl <;> rfl) cmpA swo_arrow 56 #[] blk 0 cap d W eg (cmpLays_of cmp_arrow) hH hb hd
    rw [hlt] at hcon
    exact hcon
  · exact AnyF.slices_SortFunc_none sortA A cap _ W
  · exact fun _ _ h => h

end Go.Proofs.Ytdfhfehlmonjjaa
