/- a part of the proof: steps, walks and plain laws that the law below stands on; no condition. -/
import Derived.Test.YtcnbpfecgokhiaaGreatDoorDSa
import Derived.Test.YtcnbpfecgokhiaaGreatDoorDSb
import Derived.Test.YtcnbpfecgokhiaaGreatDoorDSc
import Derived.Test.YtcnbpfecgokhiaaGreatDoorDSd
import Derived.Test.YtcnbpfecgokhiaaGreatDoorDSe
import Derived.Test.YtcnbpfecgokhiaaGreatDoorDSf
import Derived.Test.YtcnbpfecgokhiaaGreatDoorDSg
import Derived.Scope
import Derived.Laws.StructEq
import Derived.Test.YtcnbpfecgokhiaaGreatDoorProg
import Derived.Shelf.SortM.Plain
import Derived.Shelf.SortM.SortNone
import Derived.KernelRfl
import Derived.Shelf.SlSortCmp.NoneTotal
import Derived.Sort.Walk0
import Derived.Ground.SlsfProg
set_option linter.unusedVariables false
set_option linter.unusedSimpArgs false
set_option linter.unnecessarySimpa false
set_option linter.unusedSectionVars false
namespace Go.Proofs.YtcnbpfecgokhiaaGreatDoor
open Go.Eng Go.RowKit
/-- A map that has these numbers, each with true. -/
def SetIs (w : World) (g : Nat) (l : List Int) : Prop := ∃ f, MapIs C.P 3 w g f ∧ ∀ x, (f x = some (.bool true) ∧ ∃ s ∈ l, x = .int .i64 s) ∨ (f x = none ∧ ∀ s ∈ l, x ≠ .int .i64 s)
theorem SetIs.ext {w w' : World} {g : Nat} {l : List Int} (h : SetIs w g l) (e : Ext w w') : SetIs w' g l := let ⟨f, h1, h2⟩ := h; ⟨f, h1.ext e, h2⟩
theorem SetIs.other {w w' : World} {g b : Nat} {o : Obj} {l : List Int} (h : SetIs w g l) (p : Put w b o w') (hne : g ≠ b) : SetIs w' g l := let ⟨f, h1, h2⟩ := h; ⟨f, h1.put p hne, h2⟩
theorem SetIs.empty {w : World} {g : Nat} (h : w.heap[g]? = some (.map #[] 0)) : SetIs w g [] := ⟨_, MapIs.empty h, fun _ => .inr ⟨rfl, fun _ h => by cases h⟩⟩
theorem SetIs.block {w : World} {g : Nat} {l : List Int} (h : SetIs w g l) : ∃ es clk, w.heap[g]? = some (.map es clk) := let ⟨_, ⟨es, clk, hb, _⟩, _⟩ := h; ⟨es, clk, hb⟩
theorem set_get {f : Value → Option Value} {l : List Int} (h : ∀ x, (f x = some (.bool true) ∧ ∃ s ∈ l, x = .int .i64 s) ∨ (f x = none ∧ ∀ s ∈ l, x ≠ .int .i64 s)) (q : Int) : (f (.int .i64 q)).getD (.bool false) = .bool (decide (q ∈ l)) := by
  rcases h (.int .i64 q) with ⟨h1, s, hs, e⟩ | ⟨h1, h2⟩
  · injection e with _ e
    subst e
    rw [h1, decide_eq_true hs]; rfl
  · rw [h1, decide_eq_false fun hq => h2 q hq rfl]; rfl
theorem set_put {w : World} {g : Nat} {f : Value → Option Value} {l : List Int} (h : ∀ x, (f x = some (.bool true) ∧ ∃ s ∈ l, x = .int .i64 s) ∨ (f x = none ∧ ∀ s ∈ l, x ≠ .int .i64 s)) {q : Int} (hM : MapIs C.P 3 w g (updV f (.int .i64 q) (.bool true))) : SetIs w g (l ++ [q]) := by
  refine ⟨_, hM, fun x => ?_⟩
  unfold updV
  by_cases e : x = .int .i64 q
  · rw [if_pos e]; exact .inl ⟨rfl, q, by simp, e⟩
  · rw [if_neg e]
    rcases h x with ⟨h1, s, hs, e'⟩ | ⟨h1, h2⟩
    · exact .inl ⟨h1, s, by simp [hs], e'⟩
    · refine .inr ⟨h1, fun s hs => ?_⟩
      rcases List.mem_append.1 hs with hs | hs
      · exact h2 s hs
      · rw [List.mem_singleton.1 hs]; exact e
theorem SetIs.size {w : World} {g : Nat} {l : List Int} (h : SetIs w g l) : ∃ es clk, w.heap[g]? = some (.map es clk) ∧ es.size = (sortD l).length := by
  obtain ⟨f, ⟨es, clk, hb, _, hnd, hval, hdom⟩, hf⟩ := h
  refine ⟨es, clk, hb, ?_⟩
  have hn : (ints (sortD l)).Nodup := by
    unfold ints
    rw [List.Nodup, List.pairwise_map]
    refine (sortD_asc l).imp fun h e => ?_
    injection e with _ e
    omega
  have hp : (es.toList.map MapEntry.key).Perm (ints (sortD l)) := by
    refine (List.perm_ext_iff_of_nodup hnd hn).2 fun x => ?_
    constructor
    · intro hx
      obtain ⟨e, he, rfl⟩ := List.mem_map.1 hx
      rcases hf e.key with ⟨_, s, hs, e'⟩ | ⟨h1, _⟩
      · rw [e']; exact List.mem_map.2 ⟨s, mem_sortD.2 hs, rfl⟩
      · rw [hval e he] at h1; cases h1
    · intro hx
      obtain ⟨s, hs, rfl⟩ := List.mem_map.1 hx
      rcases hf (.int .i64 s) with ⟨h1, _⟩ | ⟨_, h2⟩
      · obtain ⟨e, he, hk⟩ := hdom _ _ h1
        exact List.mem_map.2 ⟨e, he, hk⟩
      · exact absurd rfl (h2 s (mem_sortD.1 hs))
  have := hp.length_eq
  rw [List.length_map, ints_length] at this
  simpa using this
theorem idIn_eq (l : List Fact) (n : Int) : idIn l n = decide (n ∈ l.map Fact.id) := by
  unfold idIn
  rw [Bool.eq_iff_iff, List.any_eq_true, decide_eq_true_eq, List.mem_map]
  simp only [decide_eq_true_eq]
theorem namedIn_eq (l : List Fact) (n : Int) : namedIn l n = decide (n ∈ whos l) := by
  unfold namedIn whos
  rw [Bool.eq_iff_iff, List.any_eq_true, decide_eq_true_eq, List.mem_map]
  simp only [decide_eq_true_eq, List.mem_filter]
  constructor
  · rintro ⟨y, hy, h1, h2⟩; exact ⟨y, ⟨hy, h1⟩, h2⟩
  · rintro ⟨y, ⟨hy, h1⟩, h2⟩; exact ⟨y, hy, h1, h2⟩
/-- The register of what was seen. -/
abbrev RegIs (w : World) (g gi gs : Nat) (n : Nat) (kn : Int) : Prop := w.heap[g]? = some (.cells #[.map (some gi), .map (some gs), .int .i64 n, .int .i64 kn] 183 (0, 0))
def lastKnown (l : List Fact) : Int := (l.getLast?.map Fact.known).getD 0
theorem speaks_num {x : Fact} (hx : x.Nums) : ∀ s ∈ speaks x, In64 s := by
  intro s hs
  unfold speaks at hs
  split at hs
  · rw [List.mem_singleton.1 hs]; exact hx.what
  · split at hs
    · simp at hs
      rcases hs with rfl | rfl
      · exact hx.who
      · exact hx.what
    · split at hs
      · rw [List.mem_singleton.1 hs]; exact hx.who
      · cases hs
set_option maxRecDepth 100000 in
theorem refuses_spec {w : World} {g gi gs : Nat} {l : List Fact} {x : Fact} (hx : x.Nums) (hl : l.length ≤ 2 ^ 20) (hg : RegIs w g gi gs l.length (lastKnown l)) (hi : SetIs w gi (l.map Fact.id)) (hs : SetIs w gs (whos l)) :
    CallsV C.P 132 #[.pointer (some ⟨g, 0, none⟩), x.val] w fun v w' => v = .int .i64 (behindE l x) ∧ Ext w w' := by
  refine callsV_of C_ok (args := [_, _]) (plans := plans132) Tryz.func132 rfl Tryz.ntmps132 (by kernel_rfl) (Nat.le_of_ble_eq_true rfl) ?_
  intro g3 w1 h1
  have M1 : Mem w w1 [(g3, .cells x.cells.toArray 81 (0, 0))] := (Mem.start w).alloc h1
  refine ⟨x.cells, rfl, M1.rd 0 rfl, ?_⟩
  refine (formedF_spec x hx w1).mono ?_
  rintro v w2 ⟨rfl, e2⟩
  have M2 := M1.grow e2
  unfold behindE
  refine brE_ndec (fun a1 => ?_) (fun a1 => ?_)
  · have a1 : ¬ formE x = 0 := a1
    exact ⟨by rw [if_pos a1], M2.ext⟩
  have a1 : formE x = 0 := a1
  rw [if_neg (by omega)]
  have g2 := M2.ext.heap hg
  refine ⟨_, cell_of_block g2 rfl, ?_⟩
  refine brE_dec (fun a2 => ?_) (fun a2 => ?_)
  · have a2 : (l.length : Int) ≥ 300 := a2
    exact ⟨by rw [if_pos (by omega)], M2.ext⟩
  have a2 : ¬ (l.length : Int) ≥ 300 := a2
  rw [if_neg (by omega)]
  refine ⟨_, cell_of_block g2 rfl, ?_⟩
  have hi2 := hi.ext M2.ext
  have hs2 := hs.ext M2.ext
  have hlast : l.getLast?.any (fun y => decide (x.known < y.known)) = (decide ((l.length : Int) > 0) && decide (x.known < lastKnown l)) := by
    unfold lastKnown
    cases hll : l.getLast? with
    | none =>
      have := List.getLast?_eq_none_iff.1 hll
      subst this
      rfl
    | some y =>
      have hne : l ≠ [] := fun e => by subst e; cases hll
      have := List.length_pos_iff.2 hne
      rw [decide_eq_true (by omega : (l.length : Int) > 0)]
      rfl
  rw [hlast]
  clear hlast
  refine brE_dec (fun a3 => ?A) (fun a3 => ?B)
  case' A =>
    have a3 : (l.length : Int) > 0 := a3
    rw [decide_eq_true a3, Bool.true_and]
    refine ⟨_, M2.cell 0 rfl rfl, ?_⟩
    refine ⟨_, cell_of_block g2 rfl, ?_⟩
    refine brE_dec (fun a4 => ?A1) (fun a4 => ?A2)
    case' A1 =>
      have a4 : x.known < lastKnown l := a4
      exact ⟨by rw [if_pos (decide_eq_true a4)], M2.ext⟩
    have a4 : ¬ x.known < lastKnown l := a4
    rw [if_neg (by simpa using a4)]
  case' B =>
    have a3 : ¬ (l.length : Int) > 0 := a3
    rw [decide_eq_false a3, Bool.false_and, if_neg (by decide)]
  all_goals
    clear a3
    obtain ⟨fi, hfi, hfi2⟩ := hi2
    obtain ⟨fs, hfs, hfs2⟩ := hs2
    refine ⟨_, cell_of_block g2 rfl, ?_⟩
    refine ⟨_, M2.cell 0 rfl rfl, ?_⟩
    refine ⟨_, mapGet1 C_ok (te := ty4) (x := .int .i64 x.id) (intKey hx.id) hfi intK rfl rfl rfl rfl rfl rfl (set_get hfi2 _), ?_⟩
    rw [idIn_eq l x.id]
    refine brE_mk (fun a5 => ?_) (fun a5 => ?_)
    · exact ⟨by rw [if_pos a5], M2.ext⟩
    rw [if_neg (by rw [a5]; decide)]
    obtain ⟨hh, _, _, _⟩ := formE_zero a1
    obtain ⟨hk, _⟩ := headB_iff.1 hh
    obtain ⟨k, hkk⟩ := Int.eq_ofNat_of_zero_le (show 0 ≤ x.kind by omega)
    refine ⟨.int .u8 (k : Int), by rw [← hkk]; exact M2.cell 0 rfl rfl, ?_⟩
    refine (formOf_spec k w2).mono ?_
    rintro v w3 ⟨hv, e3⟩
    rw [if_pos ⟨by omega, by omega⟩] at hv
    obtain ⟨cs, rfl, hlen, hone, hform⟩ := hv
    obtain ⟨n1, n2, n3, c2, heq, r1, r2, r3, a1', a2', a3'⟩ := hform
    have hcs : cs = [.string (wordA k), .func (.func n1) #[] #[], .func (.func n2) #[] c2, .func (.func n3) #[] #[], .bool (Nat.beq k 1)] := by
      injection heq with h
      exact congrArg Array.toList h
    subst hcs
    have M3 := M2.grow e3
    intro g6 w4 h4
    have M4 := M3.alloc h4
    refine ⟨rfl, _, _, M4.get 0 rfl, Nat.le_of_ble_eq_true rfl, hone, ?_⟩
    intro w5 h5
    have h5 : Put w4 g6 (.cells #[.string (wordA k), .func (.func n1) #[] #[], .func (.func n2) #[] c2, .func (.func n3) #[] #[], .bool (Nat.beq k 1)] 203 (0, 0)) w5 := h5
    have M5 := M4.put 0 rfl h5
    have e35 : Ext w3 w5 := h5.ext_of h4.ext (by rw [h4.new]; exact Nat.le_refl _)
    refine ⟨_, M5.cell 0 rfl rfl, ?_⟩
    refine ⟨x.cells, rfl, M5.rd 1 rfl, ?_⟩
    refine brE_true r3 ?_
    refine (a3' x _ hkk e35).mono ?_
    rintro v w6 ⟨ho6, e6⟩
    have M6 := M5.grow e6
    have e26 := (e3.trans e35).trans e6
    have g6' := e26.heap g2
    have hfi6 := hfi.ext e26
    have hfs6 := hfs.ext e26
    have hsp := speaks_num hx
    have hspl : (speaks x).length ≤ 2 := by
      unfold speaks
      split
      · exact Nat.le_of_ble_eq_true rfl
      · split
        · exact Nat.le_of_ble_eq_true rfl
        · split <;> exact Nat.le_of_ble_eq_true rfl
    generalize speaks x = S at *
    obtain ⟨AS, cS, rfl, hrS, _⟩ := ho6.slice
    refine loopE C_ok (fun (i : Nat) => [(0, .pointer (some ⟨g, 0, none⟩)), (3, .pointer (some ⟨g3, 0, none⟩)), (53, .slice AS S.length cS), (54, .int .i64 S.length), (55, .int .i64 i)])
      (fun i w' => w' = w6 ∧ i ≤ S.length ∧ S.all (namedIn l) = (S.drop i).all (namedIn l)) (fun i => S.length - i) 0 ⟨rfl, rfl, rfl, rfl, rfl, trivial⟩ ⟨rfl, Nat.zero_le _, rfl⟩ ?_
    rintro i w7 ⟨rfl, hile, hall⟩
    refine brE_dec (fun hlt => ?_) (fun hge => ?_)
    · have hlt : i < S.length := by have : (i : Int) < (S.length : Nat) := hlt; omega
      rw [List.drop_eq_getElem_cons hlt, List.all_cons] at hall
      obtain ⟨b, o, hA, hc⟩ := Reads.int hrS hlt
      refine ⟨i, b, o, rfl, hlt, hA, ?_⟩
      refine ⟨_, by simpa using hc, ?_⟩
      refine ⟨_, cell_of_block g6' rfl, ?_⟩
      refine ⟨_, mapGet1 C_ok (te := ty4) (x := .int .i64 S[i]) (intKey (hsp _ (List.getElem_mem hlt))) hfs6 intK rfl rfl rfl rfl rfl rfl (set_get hfs2 _), ?_⟩
      refine brE_mk (fun b1 => ?_) (fun b1 => ?_)
      · have b1 : namedIn l S[i] = false := by rw [namedIn_eq]; simpa using b1
        rw [b1, Bool.false_and] at hall
        exact ⟨by rw [if_pos hall], M6.ext⟩
      · have b1 : namedIn l S[i] = true := by rw [namedIn_eq]; simpa using b1
        rw [b1, Bool.true_and] at hall
        refine ⟨((i + 1 : Nat) : Int), fit ⟨by omega, by omega⟩, ?_⟩
        exact ⟨i + 1, ⟨rfl, rfl, rfl, rfl, rfl, trivial⟩, ⟨rfl, hlt, hall⟩, by omega⟩
    have : i = S.length := by have : ¬ (i : Int) < (S.length : Nat) := hge; omega
    subst this
    rw [List.drop_length] at hall
    rw [if_neg (by rw [hall]; simp)]
    have hkc : (k : Int) = x.kind := hkk.symm
    refine ⟨.int .u8 (k : Int), by rw [hkc]; exact M6.cell 1 rfl rfl, ?_⟩
    refine brE_dec (fun c1 => ?_) (fun c1 => ?_)
    · have c1 : x.kind = 11 := by have : (k : Int) = 11 := c1; omega
      refine ⟨_, cell_of_block g6' rfl, ?_⟩
      refine ⟨_, M6.cell 1 rfl rfl, ?_⟩
      refine ⟨_, mapGet1 C_ok (te := ty4) (x := .int .i64 x.what) (intKey hx.what) hfi6 intK rfl rfl rfl rfl rfl rfl (set_get hfi2 _), ?_⟩
      rw [idIn_eq l x.what]
      refine brE_mk (fun b1 => ?_) (fun b1 => ?_)
      · have b1 : decide (x.what ∈ l.map Fact.id) = false := by simpa using b1
        exact ⟨by rw [if_pos ⟨c1, b1⟩], M6.ext⟩
      · have b1 : decide (x.what ∈ l.map Fact.id) = true := by simpa using b1
        rw [if_neg (fun h => by rw [b1] at h; cases h.2), if_neg (fun h => by omega)]
        refine ⟨.int .u8 (k : Int), by rw [hkc]; exact M6.cell 1 rfl rfl, ?_⟩
        refine brE_dec (fun c2 => ?_) (fun c2 => ?_)
        · have : (k : Int) = 1 := c2
          omega
        · exact ⟨rfl, M6.ext⟩
    · have c1 : ¬ x.kind = 11 := fun e => c1 (by show (k : Int) = 11; omega)
      rw [if_neg (fun h => c1 h.1)]
      refine ⟨.int .u8 (k : Int), by rw [hkc]; exact M6.cell 1 rfl rfl, ?_⟩
      refine brE_dec (fun c2 => ?_) (fun c2 => ?_)
      · have c2 : x.kind = 1 := by have : (k : Int) = 1 := c2; omega
        refine ⟨_, cell_of_block g6' rfl, ?_⟩
        refine ⟨_, M6.cell 1 rfl rfl, ?_⟩
        refine ⟨_, mapGet1 C_ok (te := ty4) (x := .int .i64 x.who) (intKey hx.who) hfs6 intK rfl rfl rfl rfl rfl rfl (set_get hfs2 _), ?_⟩
        rw [namedIn_eq l x.who]
        refine brE_mk (fun b1 => ?_) (fun b1 => ?_)
        · have b1 : decide (x.who ∈ whos l) = false := by simpa using b1
          refine ⟨_, cell_of_block g6' rfl, ?_⟩
          obtain ⟨es, clk, hes, hsz⟩ := SetIs.size ⟨fs, hfs6, hfs2⟩
          refine ⟨es, clk, hes, ?_⟩
          refine brE_dec (fun d1 => ?_) (fun d1 => ?_)
          · have d1 : (es.size : Int) ≥ 200 := d1
            exact ⟨by rw [if_pos ⟨c2, b1, by unfold statesN; omega⟩], M6.ext⟩
          · have d1 : ¬ (es.size : Int) ≥ 200 := d1
            exact ⟨by rw [if_neg (fun h => by have := h.2.2; unfold statesN at this; omega)], M6.ext⟩
        · have b1 : decide (x.who ∈ whos l) = true := by simpa using b1
          exact ⟨by rw [if_neg (fun h => by rw [b1] at h; cases h.2.1)], M6.ext⟩
      · have c2 : ¬ x.kind = 1 := fun e => c2 (by show (k : Int) = 1; omega)
        exact ⟨by rw [if_neg (fun h => c2 h.1)], M6.ext⟩
end Go.Proofs.YtcnbpfecgokhiaaGreatDoor
namespace Go.Proofs.YtcnbpfecgokhiaaGreatDoor
open Go.Eng Go.RowKit
theorem whos_snoc (l : List Fact) (x : Fact) : whos (l ++ [x]) = whos l ++ if x.kind = 1 then [x.who] else [] := by
  unfold whos
  rw [List.filter_append, List.map_append, List.filter_cons, List.filter_nil]
  congr 1
  by_cases h : x.kind = 1
  · rw [if_pos (decide_eq_true h), if_pos h]; rfl
  · rw [if_neg (by simpa using h), if_neg h]; rfl
theorem lastKnown_snoc (l : List Fact) (x : Fact) : lastKnown (l ++ [x]) = x.known := by simp [lastKnown]
set_option maxRecDepth 100000 in
theorem Check_spec {w : World} {A : Option Addr} {l : List Fact} {c : Nat} (h : HF w A l c) (hl : l.length ≤ 2 ^ 20) :
    CallsV C.P 92 #[.slice A l.length c] w fun v w' => v = .tuple #[.int .i64 ((chkF l).1 : Nat), .int .i64 (chkF l).2] ∧ Ext w w' := by
  refine callsV_of C_ok (args := [_]) (plans := plans92) Tryz.func92 rfl Tryz.ntmps92 (by kernel_rfl) (Nat.le_of_ble_eq_true rfl) ?_
  intro gi w1 h1
  intro gs w2 h2
  intro g w3 h3
  have hgi : w.heap.size ≤ gi := by rw [h1.new]; exact Nat.le_refl _
  have hgs : w.heap.size ≤ gs := by rw [h2.new, h1.size]; omega
  have hg : w.heap.size ≤ g := by rw [h3.new, h2.size, h1.size]; omega
  have n1 : gi ≠ gs := by rw [h1.new, h2.new, h1.size]; omega
  have n2 : gi ≠ g := by rw [h1.new, h3.new, h2.size, h1.size]; omega
  have n3 : gs ≠ g := by rw [h2.new, h3.new, h2.size, h1.size]; omega
  have M3 : Mem w w3 [(g, .cells #[.map (some gi), .map (some gs), .int .i64 (0 : Nat), .int .i64 0] 183 (0, 0))] := ((Mem.start w).grow (h1.ext.trans h2.ext)).alloc h3
  have si3 : SetIs w3 gi [] := SetIs.empty ((h2.ext.trans h3.ext).heap h1.here)
  have ss3 : SetIs w3 gs [] := SetIs.empty (h3.ext.heap h2.here)
  have hchk : chkF l = chkG (l.take 0) (l.drop 0) := rfl
  refine loopE C_ok (fun (i : Nat) => [(4, .pointer (some ⟨g, 0, none⟩)), (12, .slice A l.length c), (13, .int .i64 l.length), (14, .int .i64 i)])
    (fun i w' => i ≤ l.length ∧ Mem w w' [(g, .cells #[.map (some gi), .map (some gs), .int .i64 (i : Nat), .int .i64 (lastKnown (l.take i))] 183 (0, 0))] ∧ SetIs w' gi ((l.take i).map Fact.id) ∧ SetIs w' gs (whos (l.take i)) ∧ chkF l = chkG (l.take i) (l.drop i)) (fun i => l.length - i) 0
    ⟨rfl, rfl, rfl, rfl, trivial⟩ ⟨Nat.zero_le _, M3, si3, ss3, hchk⟩ ?_
  rintro i w4 ⟨hi, M4, si4, ss4, hc⟩
  refine brE_dec (fun hlt => ?_) (fun hge => ?_)
  case' refine_2 =>
    have : i = l.length := by have : ¬ (i : Int) < (l.length : Nat) := hge; omega
    subst this
    rw [List.drop_length] at hc
    exact ⟨by rw [hc]; rfl, M4.ext⟩
  have hlt : i < l.length := by have : (i : Int) < (l.length : Nat) := hlt; omega
  have hx := h.nums _ (List.getElem_mem hlt)
  have hti : (l.take i).length = i := by rw [List.length_take]; omega
  have htk : l.take (i + 1) = l.take i ++ [l[i]] := List.take_succ_eq_append_getElem hlt
  rw [chkG_at hlt] at hc
  obtain ⟨b, o, hA, hcc⟩ := Reads.fact (h.reads.ext M4.ext) hlt
  refine ⟨i, b, o, rfl, hlt, hA, ?_⟩
  refine ⟨l[i].cells, rfl, hcc, ?_⟩
  intro g6 w5 h5
  refine ⟨rfl, _, _, h5.here, Nat.le_of_ble_eq_true rfl, rfl, ?_⟩
  intro w6 h6
  have h6 : Put w5 g6 (.cells l[i].cells.toArray 81 (0, 0)) w6 := h6
  have e46 : Ext w4 w6 := h6.ext_of h5.ext (by rw [h5.new]; exact Nat.le_refl _)
  have M6 : Mem w w6 [(g6, .cells l[i].cells.toArray 81 (0, 0)), (g, .cells #[.map (some gi), .map (some gs), .int .i64 (i : Nat), .int .i64 (lastKnown (l.take i))] 183 (0, 0))] := (M4.alloc h5).put 0 rfl h6
  have hgi6 : gi ≠ g6 := fun e => by
    obtain ⟨es, clk, hb⟩ := (si4.ext e46).block
    rw [e, h6.here] at hb; cases hb
  have hgs6 : gs ≠ g6 := fun e => by
    obtain ⟨es, clk, hb⟩ := (ss4.ext e46).block
    rw [e, h6.here] at hb; cases hb
  refine ⟨l[i].cells, rfl, M6.rd 0 rfl, ?_⟩
  have reg6 : RegIs w6 g gi gs (l.take i).length (lastKnown (l.take i)) := by rw [hti]; exact M6.get 1 rfl
  refine (refuses_spec hx (by omega) reg6 (si4.ext e46) (ss4.ext e46)).mono ?_
  rintro v w7 ⟨rfl, e7⟩
  have M7 := M6.grow e7
  have si7 := (si4.ext e46).ext e7
  have ss7 := (ss4.ext e46).ext e7
  refine brE_ndec (fun a1 => ?_) (fun a1 => ?_)
  · have a1 : ¬ behindE (l.take i) l[i] = 0 := a1
    rw [if_pos a1] at hc
    exact ⟨by rw [hc], M7.ext⟩
  have a1 : behindE (l.take i) l[i] = 0 := a1
  rw [if_neg (fun h => h a1)] at hc
  obtain ⟨fi, hfi, hfi2⟩ := si7
  refine ⟨_, M7.cell 1 rfl rfl, ?_⟩
  refine ⟨_, M7.cell 0 rfl rfl, ?_⟩
  refine mapPut C_ok rfl rfl (x := .int .i64 l[i].id) rfl rfl rfl rfl intK (intKey hx.id) hfi ?_
  intro o8 w8 h8 hf8
  have si8 : SetIs w8 gi ((l.take (i + 1)).map Fact.id) := by
    rw [htk, List.map_append]
    exact set_put hfi2 hf8
  have ss8 := ss7.other h8 (fun e => n1 e.symm)
  have M8 := M7.grown h8.grownBy (fun q hq => by cases hq; exact hgi) (fun p hp => by
    simp at hp
    rcases hp with rfl | rfl
    · exact fun e => hgi6 (by injection e with e; exact e.symm)
    · exact fun e => n2 (by injection e with e; exact e.symm))
  refine ⟨_, M8.cell 0 rfl rfl, ?_⟩
  refine brE_dec (fun a2 => ?A) (fun a2 => ?B)
  case' A =>
    have a2 : l[i].kind = 1 := a2
    obtain ⟨fs, hfs, hfs2⟩ := ss8
    refine ⟨_, M8.cell 1 rfl rfl, ?_⟩
    refine ⟨_, M8.cell 0 rfl rfl, ?_⟩
    refine mapPut C_ok rfl rfl (x := .int .i64 l[i].who) rfl rfl rfl rfl intK (intKey hx.who) hfs ?_
    intro o9 w9 h9 hf9
    have ss9 : SetIs w9 gs (whos (l.take (i + 1))) := by
      rw [htk, whos_snoc, if_pos a2]
      exact set_put hfs2 hf9
    have si9 := si8.other h9 n1
    have M9 := M8.grown h9.grownBy (fun q hq => by cases hq; exact hgs) (fun p hp => by
      simp at hp
      rcases hp with rfl | rfl
      · exact fun e => hgs6 (by injection e with e; exact e.symm)
      · exact fun e => n3 (by injection e with e; exact e.symm))
  case' B =>
    have a2 : ¬ l[i].kind = 1 := a2
    have ss9 : SetIs w8 gs (whos (l.take (i + 1))) := by
      rw [htk, whos_snoc, if_neg a2, List.append_nil]
      exact ss8
    have si9 := si8
    have M9 := M8
  all_goals
    refine ⟨_, M9.cell 1 rfl rfl, ?_⟩
    refine ⟨((i + 1 : Nat) : Int), fit ⟨by omega, by omega⟩, ?_⟩
    refine ⟨rfl, _, _, M9.get 1 rfl, Nat.le_of_ble_eq_true rfl, rfl, ?_⟩
    intro w10 h10
    have M10 := M9.put 1 rfl h10
    have si10 := si9.other h10 n2
    have ss10 := ss9.other h10 n3
    refine ⟨_, M10.cell 0 rfl rfl, ?_⟩
    refine ⟨rfl, _, _, M10.get 1 rfl, Nat.le_of_ble_eq_true rfl, rfl, ?_⟩
    intro w11 h11
    have M11 := M10.put 1 rfl h11
    have si11 := si10.other h11 n2
    have ss11 := ss10.other h11 n3
    refine ⟨((i + 1 : Nat) : Int), fit ⟨by omega, by omega⟩, ?_⟩
    refine ⟨i + 1, ⟨rfl, rfl, rfl, rfl, trivial⟩, ⟨hlt, ?_, si11, ss11, hc⟩, by omega⟩
    rw [htk, lastKnown_snoc]
    exact M11.tail
/-- A list with one more fact, if both are right. -/
def appE (l : List Fact) (x : Fact) : Int := if (chkF l).2 ≠ 0 then (chkF l).2 else (chkF (l ++ [x])).2
end Go.Proofs.YtcnbpfecgokhiaaGreatDoor
namespace Go.Proofs.YtcnbpfecgokhiaaGreatDoor
open Go.Eng Go.RowKit
/-- A number in a box. -/
abbrev BoxI (w : World) (p : Nat) (n : Int) : Prop := w.heap[p]? = some (.cells #[.int .i64 n] 3 (0, 0))
theorem BoxI.ext {w w' : World} {p : Nat} {n : Int} (h : BoxI w p n) (e : Ext w w') : BoxI w' p n := e.heap h
theorem dead1_spec (x : Fact) {n : Int} {p0 : Nat} (w : World) (hp0 : BoxI w p0 n) :
    CallsV C.P 233 (#[] ++ [x.val].toArray ++ #[.pointer (some ⟨p0, 0, none⟩)]) w fun v w' => v = .bool (deathB n x) ∧ Ext w w' := by
  refine callsV_of C_ok (args := [_, _]) (plans := []) Tryz.func233 rfl Tryz.ntmps233 (by kernel_rfl) (Nat.le_of_ble_eq_true rfl) ?_
  intro g w1 h1
  have M1 := (Mem.start w).alloc h1
  unfold deathB
  refine ⟨_, M1.cell 0 rfl rfl, ?_⟩
  refine brE_dec (fun a0 => ?_) (fun a0 => ?_)
  case' refine_2 =>
    have a0 : ¬ x.kind = 10 := a0
    exact ⟨congrArg Value.bool (decide_eq_false fun h => a0 h.1).symm, M1.ext⟩
  have a0 : x.kind = 10 := a0
  refine ⟨_, M1.cell 0 rfl rfl, ?_⟩
  refine ⟨_, cell_of_block (h1.ext.heap hp0) rfl, ?_⟩
  refine ⟨congrArg Value.bool ?_, M1.ext⟩
  show decide (x.who = n) = _
  rw [Bool.eq_iff_iff, decide_eq_true_eq, decide_eq_true_eq]
  exact ⟨fun h => ⟨a0, h⟩, fun h => h.2⟩
abbrev TestV (w : World) (gd : Nat) (cb : Array Value) (p : Fact → Bool) : Prop := ∀ (x : Fact) (w' : World), Ext w w' → CallsV C.P gd (#[] ++ [x.val].toArray ++ cb) w' fun v w'' => v = .bool (p x) ∧ Ext w' w''
theorem IndexFuncV_spec {w : World} {A : Option Addr} {l : List Fact} {c gd : Nat} {cb : Array Value} {p : Fact → Bool} (hr : Reads w A (fcells l)) (hl : l.length ≤ 2 ^ 20) (hgd : C.can gd = true) (hp : TestV w gd cb p) :
    CallsV C.P 259 #[.slice A l.length c, .func (.func gd) #[] cb] w fun v w' => (∃ i : Int, v = .int .i64 i ∧ decide (i ≥ 0) = l.any p) ∧ Ext w w' := by
  refine callsV_of C_ok (args := [_, _]) (plans := []) Tryz.func259 rfl Tryz.ntmps259 (by kernel_rfl) (Nat.le_of_ble_eq_true rfl) ?_
  refine loopE C_ok (fun (i : Nat) => [(0, .slice A l.length c), (1, .func (.func gd) #[] cb), (7, .int .i64 l.length), (8, .int .i64 i)])
    (fun i w' => Ext w w' ∧ i ≤ l.length ∧ (l.take i).any p = false) (fun i => l.length - i) 0 ⟨rfl, rfl, rfl, rfl, trivial⟩
    ⟨Ext.refl _, Nat.zero_le _, rfl⟩ ?_
  rintro i w1 ⟨e1, hi, hall⟩
  refine brE_dec (fun hlt => ?_) (fun hge => ?_)
  · have hlt : i < l.length := by have : (i : Int) < (l.length : Nat) := hlt; omega
    obtain ⟨b, o, hA, hc⟩ := Reads.fact (hr.ext e1) hlt
    refine ⟨i, b, o, rfl, hlt, hA, ?_⟩
    refine ⟨l[i].cells, rfl, hc, ?_⟩
    refine brE_true hgd ?_
    refine (hp l[i] w1 e1).mono ?_
    rintro v w2 ⟨rfl, e2⟩
    refine brE_mk (fun h2 => ?_) (fun h2 => ?_)
    · refine ⟨⟨i, rfl, ?_⟩, e1.trans e2⟩
      rw [decide_eq_true (by omega), eq_comm, List.any_eq_true]
      exact ⟨_, List.getElem_mem hlt, h2⟩
    · refine ⟨((i + 1 : Nat) : Int), fit ⟨by omega, by omega⟩, ?_⟩
      refine ⟨i + 1, ⟨rfl, rfl, rfl, rfl, trivial⟩, ⟨e1.trans e2, hlt, ?_⟩, by omega⟩
      rw [List.take_succ_eq_append_getElem hlt, List.any_append, hall]
      simp [h2]
  · have : i = l.length := by have : ¬ (i : Int) < (l.length : Nat) := hge; omega
    subst this
    rw [List.take_length] at hall
    exact ⟨⟨-1, rfl, by rw [hall]; rfl⟩, e1⟩
theorem some_spec {w : World} {A : Option Addr} {l : List Fact} {c gd : Nat} {cb : Array Value} {p : Fact → Bool} (hr : Reads w A (fcells l)) (hl : l.length ≤ 2 ^ 20) (hgd : C.can gd = true) (hp : TestV w gd cb p) :
    CallsV C.P 232 #[.slice A l.length c, .func (.func gd) #[] cb] w fun v w' => v = .bool (l.any p) ∧ Ext w w' := by
  have inner : CallsV C.P 253 #[.slice A l.length c, .func (.func gd) #[] cb] w fun v w' => v = .bool (l.any p) ∧ Ext w w' := by
    refine callsV_of C_ok (args := [_, _]) (plans := []) Tryz.func253 rfl Tryz.ntmps253 (by kernel_rfl) (Nat.le_of_ble_eq_true rfl) ?_
    refine (IndexFuncV_spec hr hl hgd hp).mono ?_
    rintro v w1 ⟨⟨i, rfl, hi⟩, e1⟩
    exact ⟨congrArg Value.bool hi, e1⟩
  refine callsV_of C_ok (args := [_, _]) (plans := []) Tryz.func232 rfl Tryz.ntmps232 (by kernel_rfl) (Nat.le_of_ble_eq_true rfl) ?_
  refine inner.mono ?_
  rintro v w1 ⟨rfl, e1⟩
  exact ⟨rfl, e1⟩
theorem vdead_spec {w : World} {A : Option Addr} {l : List Fact} {c : Nat} (hr : Reads w A (fcells l)) (hl : l.length ≤ 2 ^ 20) (n : Int) :
    CallsV C.P 189 #[.slice A l.length c, .int .i64 n] w fun v w' => v = .bool (deadB l n) ∧ Ext w w' := by
  refine callsV_of C_ok (args := [_, _]) (plans := []) Tryz.func189 rfl Tryz.ntmps189 (by kernel_rfl) (Nat.le_of_ble_eq_true rfl) ?_
  intro g w1 h1
  refine ⟨[], [.pointer (some ⟨g, 0, none⟩)], rfl, rfl, ?_⟩
  refine (some_spec (p := deathB n) (hr.ext h1.ext) hl rfl fun x w' e => dead1_spec x w' (e.heap h1.here)).mono ?_
  rintro v w2 ⟨rfl, e2⟩
  exact ⟨rfl, h1.ext.trans e2⟩
theorem look_spec {w : World} {A : Option Addr} {l : List Fact} {c : Nat} (h : HF w A l c) (hl : l.length ≤ 2 ^ 20) (k day : Int) :
    CallsV C.P 164 #[.slice A l.length c, .int .i64 k, .int .i64 day] w fun v w' => NewF w.heap.size w' v (atL k day l) ∧ Ext w w' := by
  refine callsV_of C_ok (args := [_, _, _]) (plans := []) Tryz.func164 rfl Tryz.ntmps164 (by kernel_rfl) (Nat.le_of_ble_eq_true rfl) ?_
  refine (At_spec h hl k day).mono ?_
  rintro v w1 h1
  exact h1
end Go.Proofs.YtcnbpfecgokhiaaGreatDoor
namespace Go.Proofs.YtcnbpfecgokhiaaGreatDoor
open Go.Proofs
def sortI_ren : Go.Shelf.Ren := ⟨fun | 5 => 234 | 8 => 255 | 7 => 254 | 19 => 269 | 20 => 241 | 10 => 260 | 11 => 261 | 12 => 262 | 13 => 263 | 14 => 264 | 15 => 265 | 16 => 266 | 17 => 267 | 18 => 268 | 30 => 271 | 31 => 272 | 32 => 273 | 33 => 274 | 34 => 275 | 35 => 174 | 40 => 276 | n => n, fun | 23 => 153 | 25 => 3 | 3 => 3 | 32 => 243 | 22 => 153 | 0 => 0 | 44 => 259 | 46 => 236 | 4 => 4 | 36 => 281 | 35 => 280 | 41 => 134 | 5 => 5 | 9 => 9 | 53 => 289 | 57 => 167 | 63 => 294 | 64 => 295 | n => n, fun | n => n⟩
theorem sortI : Go.Proofs.SlLaysM.n5 Tryz.prog sortI_ren := {
  mixed := by kernel_rfl,
  f5 := ⟨Tryz.f234.name, by decide, Tryz.func234.trans (congrArg some (by kernel_rfl))⟩,
  f7 := ⟨Tryz.f254.name, by decide, Tryz.func254.trans (congrArg some (by kernel_rfl))⟩,
  f8 := Tryz.func255.trans (congrArg some (by kernel_rfl)),
  f10 := ⟨Tryz.f260.name, by decide, Tryz.func260.trans (congrArg some (by kernel_rfl))⟩,
  f11 := ⟨Tryz.f261.name, by decide, Tryz.func261.trans (congrArg some (by kernel_rfl))⟩,
  f12 := ⟨Tryz.f262.name, by decide, Tryz.func262.trans (congrArg some (by kernel_rfl))⟩,
  f13 := ⟨Tryz.f263.name, by decide, Tryz.func263.trans (congrArg some (by kernel_rfl))⟩,
  f14 := ⟨Tryz.f264.name, by decide, Tryz.func264.trans (congrArg some (by kernel_rfl))⟩,
  f15 := ⟨Tryz.f265.name, by decide, Tryz.func265.trans (congrArg some (by kernel_rfl))⟩,
  f16 := ⟨Tryz.f266.name, by decide, Tryz.func266.trans (congrArg some (by kernel_rfl))⟩,
  f17 := ⟨Tryz.f267.name, by decide, Tryz.func267.trans (congrArg some (by kernel_rfl))⟩,
  f18 := ⟨Tryz.f268.name, by decide, Tryz.func268.trans (congrArg some (by kernel_rfl))⟩,
  f19 := Tryz.func269.trans (congrArg some (by kernel_rfl)),
  f20 := Tryz.func241.trans (congrArg some (by kernel_rfl)),
  f30 := ⟨Tryz.f271.name, by decide, Tryz.func271.trans (congrArg some (by kernel_rfl))⟩,
  f31 := Tryz.func272.trans (congrArg some (by kernel_rfl)),
  f32 := Tryz.func273.trans (congrArg some (by kernel_rfl)),
  f33 := ⟨Tryz.f274.name, by decide, Tryz.func274.trans (congrArg some (by kernel_rfl))⟩,
  f34 := ⟨Tryz.f275.name, by decide, Tryz.func275.trans (congrArg some (by kernel_rfl))⟩,
  f35 := ⟨Tryz.f174.name, by decide, Tryz.func174.trans (congrArg some (by kernel_rfl))⟩,
  f40 := ⟨Tryz.f276.name, by decide, Tryz.func276.trans (congrArg some (by kernel_rfl))⟩,
  t0 := Tryz.underlying0,
  a0 := Tryz.isAgg0,
  z0 := Tryz.sizeOf0,
  v0 := Tryz.zeroValue0,
  t3 := Tryz.underlying3,
  a3 := Tryz.isAgg3,
  z3 := Tryz.sizeOf3,
  v3 := Tryz.zeroValue3,
  t4 := Tryz.underlying4,
  a4 := Tryz.isAgg4,
  z4 := Tryz.sizeOf4,
  v4 := Tryz.zeroValue4,
  t5 := Tryz.underlying5,
  a5 := Tryz.isAgg5,
  z5 := Tryz.sizeOf5,
  v5 := Tryz.zeroValue5,
  t9 := Tryz.underlying9,
  a9 := Tryz.isAgg9,
  z9 := Tryz.sizeOf9,
  v9 := Tryz.zeroValue9,
  t22 := Tryz.underlying153,
  a22 := Tryz.isAgg153,
  z22 := Tryz.sizeOf153,
  v22 := Tryz.zeroValue153,
  t23 := Tryz.underlying153,
  a23 := Tryz.isAgg153,
  z23 := Tryz.sizeOf153,
  v23 := Tryz.zeroValue153,
  t25 := Tryz.underlying3,
  a25 := Tryz.isAgg3,
  z25 := Tryz.sizeOf3,
  v25 := Tryz.zeroValue3,
  t32 := Tryz.underlying243,
  a32 := Tryz.isAgg243,
  z32 := Tryz.sizeOf243,
  v32 := Tryz.zeroValue243,
  t35 := Tryz.underlying280,
  a35 := Tryz.isAgg280,
  z35 := Tryz.sizeOf280,
  v35 := Tryz.zeroValue280,
  t36 := Tryz.underlying281,
  a36 := Tryz.isAgg281,
  z36 := Tryz.sizeOf281,
  v36 := Tryz.zeroValue281,
  t41 := Tryz.underlying134,
  a41 := Tryz.isAgg134,
  z41 := Tryz.sizeOf134,
  v41 := Tryz.zeroValue134,
  t44 := Tryz.underlying259,
  a44 := Tryz.isAgg259,
  z44 := Tryz.sizeOf259,
  v44 := Tryz.zeroValue259,
  t46 := Tryz.underlying236,
  a46 := Tryz.isAgg236,
  z46 := Tryz.sizeOf236,
  v46 := Tryz.zeroValue236,
  t53 := Tryz.underlying289,
  a53 := Tryz.isAgg289,
  z53 := Tryz.sizeOf289,
  v53 := Tryz.zeroValue289,
  t57 := Tryz.underlying167,
  a57 := Tryz.isAgg167,
  z57 := Tryz.sizeOf167,
  v57 := Tryz.zeroValue167,
  t63 := Tryz.underlying294,
  a63 := Tryz.isAgg294,
  z63 := Tryz.sizeOf294,
  v63 := Tryz.zeroValue294,
  t64 := Tryz.underlying295,
  a64 := Tryz.isAgg295,
  z64 := Tryz.sizeOf295,
  v64 := Tryz.zeroValue295 }
end Go.Proofs.YtcnbpfecgokhiaaGreatDoor
namespace Go.Eng
open Go.RowKit Go.Sort Go.Proofs
section
variable {α : Type} [Inhabited α]
theorem flatK_eq {enc : α → List Value} {k : Nat} (hk : ∀ x, (enc x).length = k) (d : Array α) : (flatK enc k d).toList = d.toList.flatMap enc := by
  apply List.ext_getElem?
  intro t
  by_cases ht : t < d.size * k
  · have k0 : 0 < k := by rcases Nat.eq_zero_or_pos k with h | h
                          · subst h; simp at ht
                          · exact h
    have hq : t / k < d.size := Nat.div_lt_of_lt_mul (by rwa [Nat.mul_comm] at ht)
    have hr : t % k < k := Nat.mod_lt _ k0
    have e : t / k * k + t % k = t := by rw [Nat.mul_comm]; exact Nat.div_add_mod t k
    have h1 := flat_get hk d.toList (t / k) (t % k) (by simpa using hq) hr
    rw [e] at h1
    rw [h1]
    have h2 := get_flatK enc k d t ht
    have hs : t < (flatK enc k d).size := by rw [size_flatK]; exact ht
    rw [getElem!_pos (flatK enc k d) t hs, getElem!_pos d (t / k) hq] at h2
    have hl : t % k < (enc d[t / k]).length := by rw [hk]; exact hr
    rw [getElem!_pos (enc d[t / k]) (t % k) hl] at h2
    have e1 : (flatK enc k d).toList[t]? = some ((enc d[t / k])[t % k]) := by
      rw [List.getElem?_eq_getElem (by simpa using hs), Array.getElem_toList, h2]
    have e2 : d.toList[t / k]'(by simpa using hq) = d[t / k] := Array.getElem_toList _
    rw [e1, e2, List.getElem?_eq_getElem hl]
  · rw [List.getElem?_eq_none (by simp; omega), List.getElem?_eq_none (by rw [flat_length hk]; simp; omega)]
/-- A row of one's own, as the sort wants it; what the sort leaves is one, too. -/
theorem sort_row {enc : α → List Value} {k : Nat} (hk : ∀ x, (enc x).length = k) {w : World} {base e cap g : Nat} {l : List α}
    (h : w.ownsRow base e k (.slice (some ⟨g, 0, none⟩) l.length cap) l.length (l.flatMap enc)) :
    HoldsK enc k w g 0 l.toArray ∧ g < w.heap.size ∧ base ≤ g ∧ ∀ (d' : Array α) (m : Nat) (os : Array Obj), d'.size = l.length →
      (sortWorldK enc k w g 0 m d' os).ownsRow base e k (.slice (some ⟨g, 0, none⟩) l.length cap) l.length (d'.toList.flatMap enc) ∧ w.grownBy (sortWorldK enc k w g 0 m d' os) (some g) ∧ Only e w (sortWorldK enc k w g 0 m d' os) := by
  have hlt := (h.lt g rfl)
  obtain ⟨cur, hg, hgB, hcl, hcc, hnc, hxl, htake, _⟩ := ownsRow_open h
  have hm : cap ≤ maxLen := by
    obtain ⟨_, ⟨hv, _⟩ | ⟨g', cap', cur', hv, _, _, _, h4, _⟩⟩ := h
    · cases hv
    · cases hv; exact h4
  have hold : ∀ (d' : Array α) (m : Nat) (os : Array Obj), (sortWorldK enc k w g 0 m d' os).heap = (w.heap.modify g (onCells (putCells id 0 (flatK enc k d')))) ++ os := fun d' m os => rfl
  have hblk : ∀ (d' : Array α) (m : Nat) (os : Array Obj), (sortWorldK enc k w g 0 m d' os).heap[g]? = some (.cells (putCells id 0 (flatK enc k d') cur.toArray) e (0, 0)) := fun d' m os => by
    rw [hold, Array.getElem?_append_left (by simpa using hlt.2), Array.getElem?_modify, if_pos rfl, hg]
    rfl
  have hoth : ∀ (d' : Array α) (m : Nat) (os : Array Obj) (q : Nat), q < w.heap.size → q ≠ g → (sortWorldK enc k w g 0 m d' os).heap[q]? = w.heap[q]? := fun d' m os q hq hne => by
    rw [hold, Array.getElem?_append_left (by simpa using hq), Array.getElem?_modify, if_neg (fun e => hne e.symm)]
  refine ⟨fun j hj => ?_, hlt.2, hgB, fun d' m os hs => ⟨⟨?_, .inr ⟨g, cap, _, rfl, hgB, hblk d' m os, hnc, hm, ?_, ?_⟩⟩, ⟨rfl, rfl, rfl, ?_, fun q hq hne => hoth d' m os q hq (fun e => hne (by rw [e]))⟩, fun q c t fr hq hne => ?_⟩⟩
  · rw [size_flatK] at hj
    have hj' : j < l.length * k := by simpa using hj
    have hc : cur[j]? = some ((flatK enc k l.toArray)[j]!) := by
      have h1 : (l.flatMap enc)[j]? = some ((flatK enc k l.toArray)[j]!) := by
        rw [← show (flatK enc k l.toArray).toList = l.flatMap enc by rw [flatK_eq hk]]
        have hs : j < (flatK enc k l.toArray).size := by rw [size_flatK]; exact hj
        rw [getElem!_pos _ j hs]
        simp
      rw [← h1, ← htake, List.getElem?_take, if_pos (by omega)]
    rw [Nat.zero_add]
    refine ⟨?_, ?_⟩
    · rw [cell_of_block hg (v := (flatK enc k l.toArray)[j]!) (by simpa using hc)]
      rfl
    · simp [World.frozen?, hg]
  · rw [flat_length hk]; simp [hs]
  · simp [putCells, hcc]
  · rw [← flatK_eq hk d']
    apply List.ext_getElem?
    intro t
    rw [List.getElem?_take]
    by_cases ht : t < l.length * k
    · rw [if_pos ht]
      have hsz : t < (flatK enc k d').size := by rw [size_flatK, hs]; exact ht
      have htc : t < cur.length := by omega
      simp only [putCells, Array.getElem?_toList, Array.getElem?_mapIdx, List.getElem?_toArray, List.getElem?_eq_getElem htc, Option.map_some, Nat.zero_le, true_and, Nat.zero_add, Nat.sub_zero, id]
      rw [if_pos hsz, getElem!_pos _ t hsz]
      simp
    · rw [if_neg ht, List.getElem?_eq_none]
      rw [Array.length_toList, size_flatK, hs]; omega
  · rw [hold]; simp
  · by_cases e' : q = g
    · subst e'
      have := hq.symm.trans hg
      simp at this
      exact absurd this.2.1 hne
    · rw [hoth d' m os q (lt_of_heap hq) e']; exact hq
end
end Go.Eng
namespace Go.Eng
open Go.RowKit Go.Sort
abbrev enc1 (n : Int) : List Value := [.int .i64 n]
theorem ints_flat : ∀ (xs : List Int), xs.flatMap enc1 = ints xs
  | [] => rfl
  | x :: r => by rw [List.flatMap_cons, ints_flat r]; rfl
theorem getI_flat (d : Array Int) {j : Nat} (h : j < d.size) : (flatK enc1 1 d)[j]! = .int .i64 d[j]! := by
  rw [get_flatK enc1 1 d j (by omega), Nat.div_one, Nat.mod_one]
  rfl
theorem putRow_one (w : World) (blk off : Nat) (d : Array Int) : putRow (Value.int .i64) w blk off d = putRowK enc1 1 w blk off d := by
  unfold putRowK putRow
  congr 1
  funext c
  apply Array.ext_getElem?
  intro k
  simp only [putCells, Array.getElem?_mapIdx, size_flatK, Nat.mul_one]
  cases c[k]? with
  | none => rfl
  | some y =>
    simp only [Option.map_some]
    by_cases h : off ≤ k ∧ k < off + d.size
    · rw [if_pos h, if_pos h, getI_flat d (by omega)]; rfl
    · rw [if_neg h, if_neg h]
theorem holdsI_one {w : World} {blk off : Nat} {d : Array Int} (h : HoldsK enc1 1 w blk off d) : Holds (Value.int .i64) w blk off d := by
  intro j hj
  have := h j (by rw [size_flatK]; omega)
  rw [getI_flat d hj] at this
  exact this
end Go.Eng
namespace Go.Proofs.YtcnbpfecgokhiaaGreatDoor
open Go.Eng Go.RowKit Go.Sort
theorem SortI_spec {w : World} {B : Nat} {v : Value} {l : List Int} (h : NewInts B w v l) (hl : l.length ≤ 2 ^ 40) :
    CallsV C.P 234 #[v] w fun r w' => r = .tuple #[] ∧ (∃ l', NewInts B w' v l' ∧ l'.Perm l ∧ l'.Pairwise (· ≤ ·)) ∧ w.grownBy w' v.ownBlock := by
  refine callsV_of_calls fun w₁ hs => ?_
  have h1 : w₁.ownsRow B 3 1 v l.length (ints l) := ownsRow_same hs h
  have turn : ∀ {w' : World} {row : Option Nat}, w₁.grownBy w' row → w.grownBy w' row := fun hg => ⟨hg.os.trans hs.os, hg.tape.trans hs.tape, hg.output.trans hs.output, by rw [← hs.heap]; exact hg.size, fun q hq hne => by rw [← hs.heap] at hq ⊢; exact hg.block q hq hne⟩
  by_cases h0 : l = []
  · subst h0
    obtain ⟨A, c, rfl, _, _⟩ := reads_of_owns h1
    refine (AnyM.slices_Sort_int_none sortI A c w₁).mono ?_
    rintro r w' ⟨rfl, rfl⟩
    exact ⟨_, rfl, ⟨rfl, ⟨[], h1, List.Perm.refl _, List.Pairwise.nil⟩, turn (grownBy_refl _ _)⟩, Nat.le_refl _⟩
  · have hpos : 0 < l.length := List.length_pos_iff.2 h0
    have hv : ∃ q cap, v = .slice (some ⟨q, 0, none⟩) l.length cap := by
      obtain ⟨_, ⟨hv, hn⟩ | ⟨q, cap, cur, hv, _⟩⟩ := h1
      · omega
      · exact ⟨q, cap, hv⟩
    obtain ⟨q, cap, rfl⟩ := hv
    rw [← ints_flat] at h1
    obtain ⟨hH, hlt, hB, hrow⟩ := sort_row (enc := enc1) (k := 1) (fun _ => rfl) h1
    refine (AnyM.slices_Sort_int sortI q 0 cap l w₁ (holdsI_one hH) hlt (by omega)).mono ?_
    rintro r w' ⟨rfl, n, os, rfl⟩
    have hperm := List.mergeSort_perm l fun x y => decide (x ≤ y)
    have hlen : (l.mergeSort fun x y => decide (x ≤ y)).length = l.length := hperm.length_eq
    obtain ⟨ho, hg, _⟩ := hrow (l.mergeSort fun x y => decide (x ≤ y)).toArray n os (by simpa using hlen)
    unfold sortWorldK at ho hg
    rw [← putRow_one] at ho hg
    refine ⟨_, rfl, ⟨rfl, ⟨_, ?_, hperm, ?_⟩, turn hg⟩, ?_⟩
    · show World.ownsRow _ B 3 1 _ (l.mergeSort fun x y => decide (x ≤ y)).length _
      rw [hlen, ← ints_flat]
      exact ho
    · refine (List.pairwise_mergeSort (le := fun x y => decide (x ≤ y)) (fun a b c h1 h2 => ?_) (fun a b => ?_) l).imp fun h => of_decide_eq_true h
      · rw [decide_eq_true_eq] at *; omega
      · rw [Bool.or_eq_true, decide_eq_true_eq, decide_eq_true_eq]; omega
    · show w₁.drawn ≤ w₁.drawn + n
      omega
def compF : Int → List Int → List Int
  | _, [] => []
  | p, x :: r => if x = p then compF p r else x :: compF x r
def compL : List Int → List Int
  | [] => []
  | x :: r => x :: compF x r
def lastOr : Int → List Int → Int
  | p, [] => p
  | _, x :: r => lastOr x r
theorem compF_snoc : ∀ (r : List Int) (p b : Int), compF p (r ++ [b]) = compF p r ++ if b = lastOr p r then [] else [b]
  | [], p, b => by
    show (if b = p then [] else [b]) = _
    rfl
  | x :: r, p, b => by
    rw [List.cons_append, compF, compF, lastOr]
    split
    · rename_i e; subst e; exact compF_snoc r x b
    · rw [compF_snoc r x b, List.cons_append]
theorem lastOr_get : ∀ (r : List Int) (p : Int), lastOr p r = (p :: r)[r.length]'(by simp)
  | [], p => rfl
  | x :: r, p => by
    rw [lastOr, lastOr_get r x]; rfl
theorem compL_take {l : List Int} {j : Nat} (h1 : 1 ≤ j) (hj : j < l.length) : compL (l.take (j + 1)) = compL (l.take j) ++ if l[j] = l[j - 1]'(by omega) then [] else [l[j]] := by
  rw [List.take_succ_eq_append_getElem hj]
  obtain ⟨m, rfl⟩ : ∃ m, j = m + 1 := ⟨j - 1, by omega⟩
  cases l with
  | nil => simp at hj
  | cons x r =>
    have hlen : (r.take m).length = m := by rw [List.length_take]; simp at hj; omega
    rw [List.take_succ_cons, List.cons_append, compL, compF_snoc, compL, List.cons_append]
    have : lastOr x (r.take m) = (x :: r)[m + 1 - 1] := by
      rw [lastOr_get]
      have : (x :: r.take m)[(r.take m).length]'(by simp) = (x :: r.take m)[m]'(by simp [hlen]) := by congr 1
      rw [this]
      have e : x :: r.take m = (x :: r).take (m + 1) := by rw [List.take_succ_cons]
      simp only [e, List.getElem_take, Nat.add_sub_cancel]
    rw [this]
theorem compL_short {l : List Int} (h : l.length < 2) : compL l = l := by
  match l, h with
  | [], _ => rfl
  | [x], _ => rfl
theorem compF_sorted : ∀ {r : List Int} {p : Int}, (p :: r).Pairwise (· ≤ ·) → (p :: compF p r).Pairwise (· < ·) ∧ ∀ x, x ∈ p :: compF p r ↔ x ∈ p :: r
  | [], p, _ => ⟨by simp [compF], fun x => by simp [compF]⟩
  | y :: r, p, h => by
    obtain ⟨h1, h2⟩ := List.pairwise_cons.1 h
    rw [compF]
    split
    · rename_i e
      subst e
      obtain ⟨a, b⟩ := compF_sorted h2
      refine ⟨a, fun x => (b x).trans ?_⟩
      simp
    · rename_i e
      obtain ⟨a, b⟩ := compF_sorted h2
      have hy := h1 y (by simp)
      refine ⟨List.pairwise_cons.2 ⟨fun x hx => ?_, a⟩, fun x => ?_⟩
      · have := (b x).1 hx
        have hyx : y ≤ x := by
          rcases List.mem_cons.1 this with rfl | h
          · exact Int.le_refl _
          · exact (List.pairwise_cons.1 h2).1 x h
        omega
      · rw [List.mem_cons, b x, List.mem_cons (a := x) (b := p)]
theorem comp_sorted {l l' : List Int} (hp : l'.Perm l) (hs : l'.Pairwise (· ≤ ·)) : compL l' = sortD l := by
  have key : (compL l').Pairwise (· < ·) ∧ ∀ x, x ∈ compL l' ↔ x ∈ l' := by
    cases l' with
    | nil => exact ⟨List.Pairwise.nil, fun x => Iff.rfl⟩
    | cons x r => exact compF_sorted hs
  exact sortD_eq key.1 fun x => (key.2 x).trans hp.mem_iff
set_option maxRecDepth 100000 in
theorem Compact_spec {B : Nat} {w : World} {v : Value} {l : List Int} (ho : NewInts B w v l) (hB : B ≤ w.heap.size) (hl : l.length ≤ 2 ^ 40) :
    CallsV C.P 235 #[v] w fun v' w' => NewInts B w' v' (compL l) ∧ Below B w w' := by
  obtain ⟨A, cap, rfl, hR, hlc⟩ := ho.slice
  refine callsV_of C_ok (args := [_]) (plans := plans235) Tryz.func235 rfl Tryz.ntmps235 (by kernel_rfl) (Nat.le_of_ble_eq_true rfl) ?_
  refine brE_dec (fun h2 => ?_) (fun h2 => ?_)
  · have h2 : (l.length : Int) < 2 := h2
    rw [compL_short (by omega)]
    exact ⟨ho, Below.refl _ _⟩
  have h2 : ¬ (l.length : Int) < 2 := h2
  have hA : ∃ g, A = some ⟨g, 0, none⟩ := by
    obtain ⟨_, ⟨hv, h0⟩ | ⟨g, cap', cur, hv, _⟩⟩ := ho
    · omega
    · simp at hv; exact ⟨g, hv.1⟩
  obtain ⟨g, rfl⟩ := hA
  have ho0 : w.ownsRow B 3 1 (.slice (some ⟨g, 0, none⟩) l.length cap) l.length (ints l) := ho
  refine loopE C_ok (fun (k : Nat) => [(0, .slice (some ⟨g, 0, none⟩) l.length cap), (3, .int .i64 k)])
    (fun k w' => w' = w ∧ 1 ≤ k ∧ k ≤ l.length ∧ compL (l.take k) = l.take k) (fun k => l.length - k) 1 ⟨rfl, rfl, trivial⟩ ⟨rfl, Nat.le_refl _, by omega, compL_short (by rw [List.length_take]; omega)⟩ ?_
  rintro k w1 ⟨rfl, hk1, hk, hck⟩
  refine brE_dec (fun hlt => ?_) (fun hge => ?_)
  case' refine_2 =>
    have : k = l.length := by have : ¬ (k : Int) < (l.length : Nat) := hge; omega
    subst this
    rw [List.take_length] at hck
    rw [hck]
    exact ⟨ho, Below.refl _ _⟩
  have hlt : k < l.length := by have : (k : Int) < (l.length : Nat) := hlt; omega
  have next : IntKind.i64.wrap ((k : Int) + 1) = ((k + 1 : Nat) : Int) := fit ⟨by omega, by omega⟩
  have hkp : k - 1 < l.length := by omega
  have hct := compL_take hk1 hlt
  obtain ⟨b1, o1, hA1, hc1⟩ := Reads.int hR hlt
  obtain ⟨b2, o2, hA2, hc2⟩ := Reads.int hR hkp
  refine ⟨k, b1, o1, rfl, hlt, hA1, ?_⟩
  refine ⟨_, by simpa using hc1, ?_⟩
  refine ⟨((k - 1 : Nat) : Int), by rw [fit ⟨by omega, by omega⟩]; omega, ?_⟩
  refine ⟨k - 1, b2, o2, rfl, hkp, hA2, ?_⟩
  refine ⟨_, by simpa using hc2, ?_⟩
  refine brE_dec (fun he => ?_) (fun hn => ?_)
  case' refine_2 =>
    have hn : ¬ l[k] = l[k - 1] := hn
    rw [if_neg hn, hck, ← List.take_succ_eq_append_getElem hlt] at hct
    refine ⟨_, next, ?_⟩
    exact ⟨k + 1, ⟨rfl, rfl, trivial⟩, ⟨rfl, by omega, hlt, hct⟩, by omega⟩
  have he : l[k] = l[k - 1] := he
  rw [if_pos he, hck, List.append_nil] at hct
  refine ⟨k, l.length, rfl, rfl, by omega, by omega, ?_⟩
  have hA2 : (if cap = k then (some (⟨g, 0, none⟩ : Addr)) else (some (⟨g, 0, none⟩ : Addr)).map (·.add (k * 1))) = some ⟨g, k, none⟩ := by
    rw [if_neg (by omega)]
    simp [add_spot]
  refine loopE C_ok (fun (s : Nat × Nat × List Int) => [(0, .slice (some ⟨g, 0, none⟩) l.length cap), (3, .int .i64 s.2.1), (4, .slice (if cap = k then (some (⟨g, 0, none⟩ : Addr)) else (some (⟨g, 0, none⟩ : Addr)).map (·.add (k * 1))) (l.length - k) (cap - k)), (5, .int .i64 s.1)])
    (fun s w' => 1 ≤ s.1 ∧ k + s.1 ≤ l.length ∧ s.2.1 = (compL (l.take (k + s.1))).length ∧ 1 ≤ s.2.1 ∧ s.2.1 < k + s.1 ∧ s.2.2.length = l.length ∧ w'.ownsRow B 3 1 (.slice (some ⟨g, 0, none⟩) l.length cap) l.length (ints s.2.2) ∧ s.2.2.take s.2.1 = compL (l.take (k + s.1)) ∧ (∀ j, k + s.1 ≤ j + 1 → s.2.2[j]? = l[j]?) ∧ Below B w1 w')
    (fun s => l.length - s.1) (1, k, l) ⟨rfl, rfl, rfl, rfl, trivial⟩
    ⟨Nat.le_refl _, hlt, by rw [hct, List.length_take]; show k = _; omega, hk1, Nat.lt_succ_self _, rfl, ho0, hct.symm, fun _ _ => rfl, Below.refl _ _⟩ ?_
  rintro ⟨j, i, R⟩ w2 ⟨hj1', hj', hi', hi1', hij', hRl', ho2', htake', hrest', b2⟩
  have hj1 : 1 ≤ j := hj1'
  have hj : k + j ≤ l.length := hj'
  have hi : i = (compL (l.take (k + j))).length := hi'
  have hi1 : 1 ≤ i := hi1'
  have hij : i < k + j := hij'
  have hRl : R.length = l.length := hRl'
  have ho2 : w2.ownsRow B 3 1 (.slice (some ⟨g, 0, none⟩) l.length cap) l.length (ints R) := ho2'
  have htake : R.take i = compL (l.take (k + j)) := htake'
  have hrest : ∀ q, k + j ≤ q + 1 → R[q]? = l[q]? := hrest'
  clear hj1' hj' hi' hi1' hij' hRl' ho2' htake' hrest'
  have at_ : ∀ {q : Nat} (hq : q < l.length), k + j ≤ q + 1 → ∀ o, o + 0 = q → w2.cell? ⟨g, o, none⟩ = some (.int .i64 l[q]) := fun {q} hq h o ho => by
    have hreads : Reads w2 (some ⟨g, 0, none⟩) (ints R) := by
      obtain ⟨A', c', e, h, _⟩ := reads_of_owns ho2
      cases e; exact h
    obtain ⟨b3, o3, hA3, hc3⟩ := Reads.int hreads (i := q) (by omega)
    cases hA3
    have e := hrest q h
    rw [List.getElem?_eq_getElem hq, List.getElem?_eq_getElem (by omega)] at e
    rw [Option.some.inj e] at hc3
    rw [show o = 0 + q by omega]; exact hc3
  refine brE_dec (fun hlt2 => ?_) (fun hge2 => ?_)
  · have hlt2 : k + j < l.length := by have : (j : Int) < ((l.length - k : Nat) : Int) := hlt2; omega
    have next2 : IntKind.i64.wrap ((j : Int) + 1) = ((j + 1 : Nat) : Int) := fit ⟨by omega, by omega⟩
    have hc := compL_take (l := l) (j := k + j) (by omega) hlt2
    have hp : k + j - 1 < l.length := by omega
    refine ⟨j, g, k, rfl, (by omega : j < l.length - k), hA2, ?_⟩
    refine ⟨_, at_ hlt2 (by omega) _ (by simp), ?_⟩
    refine ⟨((j - 1 : Nat) : Int), by rw [fit ⟨by omega, by omega⟩]; omega, ?_⟩
    refine ⟨j - 1, g, k, rfl, (by omega : j - 1 < l.length - k), hA2, ?_⟩
    refine ⟨_, at_ hp (by omega) _ (by simp; omega), ?_⟩
    refine brE_ndec (fun hn => ?_) (fun he2 => ?_)
    · have hn : ¬ l[k + j] = l[k + j - 1] := hn
      rw [if_neg hn] at hc
      refine ⟨j, g, k, rfl, (by omega : j < l.length - k), hA2, ?_⟩
      refine ⟨_, at_ hlt2 (by omega) _ (by simp), ?_⟩
      obtain ⟨cur, hg, hgB, hcl, hccap, hncap, hdl, hct2, hput⟩ := ownsRow_open ho2
      refine ⟨i, g, 0, rfl, (by omega : i < l.length), rfl, ?_⟩
      refine ⟨rfl, _, _, hg, by show 0 + i * 1 + 1 ≤ cur.length; omega, rfl, ?_⟩
      intro w6 h6
      have h6 : Put w2 g (.cells (splice cur (0 + i * 1) (enc1 l[k + j])).toArray 3 (0, 0)) w6 := h6
      have ho6 := hput (0 + i * 1) (enc1 l[k + j]) w6 (by show 0 + i * 1 + 1 ≤ _; omega) h6
      have hset : splice (ints R) (i * 1) (enc1 l[k + j]) = ints (R.set i l[k + j]) := by
        rw [← ints_flat, ← ints_flat]
        exact flat_set (enc := enc1) (k := 1) (fun _ => rfl) (by omega) _
      rw [show 0 + i * 1 = i * 1 by omega, hset] at ho6
      have nexti : IntKind.i64.wrap ((i : Int) + 1) = ((i + 1 : Nat) : Int) := fit ⟨by omega, by omega⟩
      refine ⟨_, nexti, ?_⟩
      refine ⟨_, next2, ?_⟩
      refine ⟨(j + 1, i + 1, R.set i l[k + j]), ⟨rfl, rfl, rfl, rfl, trivial⟩, ⟨by show 1 ≤ j + 1; omega, hlt2, ?_, by show 1 ≤ i + 1; omega, by show i + 1 < k + (j + 1); omega, by show (R.set i l[k + j]).length = _; rw [List.length_set, hRl], ho6, ?_, ?_, below_put b2 h6 hgB⟩, by show l.length - (j + 1) < l.length - j; omega⟩
      · show i + 1 = (compL (l.take (k + j + 1))).length
        rw [hc, List.length_append, ← hi]; rfl
      · show (R.set i l[k + j]).take (i + 1) = compL (l.take (k + j + 1))
        have hil : i < (R.set i l[k + j]).length := by rw [List.length_set]; omega
        rw [hc, List.take_succ_eq_append_getElem hil, List.take_set_of_le (Nat.le_refl _), htake]
        congr 1
        simp
      · intro q hq
        show (R.set i l[k + j])[q]? = l[q]?
        have hq : k + (j + 1) ≤ q + 1 := hq
        rw [List.getElem?_set_ne (by omega)]
        exact hrest q (by omega)
    · have he2 : l[k + j] = l[k + j - 1] := he2
      rw [if_pos he2, List.append_nil] at hc
      refine ⟨_, next2, ?_⟩
      exact ⟨(j + 1, i, R), ⟨rfl, rfl, rfl, rfl, trivial⟩, ⟨by show 1 ≤ j + 1; omega, hlt2, by show i = (compL (l.take (k + j + 1))).length; rw [hc]; exact hi, hi1, by show i < k + (j + 1); omega, hRl, ho2, by show R.take i = compL (l.take (k + j + 1)); rw [hc]; exact htake, fun q hq => hrest q (by have : k + (j + 1) ≤ q + 1 := hq; omega), b2⟩, by show l.length - (j + 1) < l.length - j; omega⟩
  · have hkj : k + j = l.length := by have : ¬ (j : Int) < ((l.length - k : Nat) : Int) := hge2; omega
    rw [hkj, List.take_length] at hi htake
    obtain ⟨cur, hg, hgB, hcl, hccap, hncap, hdl, hct2, hput⟩ := ownsRow_open ho2
    refine ⟨i, l.length, rfl, rfl, by omega, by omega, ?_⟩
    have hA3 : (if cap = i then (some (⟨g, 0, none⟩ : Addr)) else (some (⟨g, 0, none⟩ : Addr)).map (·.add (i * 1))) = some ⟨g, 0 + i * 1, none⟩ := by
      rw [if_neg (by omega)]
      simp [add_spot]
    refine clearRow (esz := 1) C_ok rfl rfl rfl rfl rfl rfl rfl (by decide) hA3 (by omega) hg (by omega) ?_
    intro zs w3 hzs h3
    have ho3 := hput (0 + i * 1) zs w3 (by rw [hzs]; omega) h3
    refine ⟨0, i, rfl, rfl, Nat.zero_le _, by omega, ?_⟩
    have e : (if cap = 0 then (some ⟨g, 0, none⟩ : Option Addr) else (some (⟨g, 0, none⟩ : Addr)).map (·.add (0 * 1))) = some ⟨g, 0, none⟩ := by
      split <;> rfl
    have hcut := ownsRow_cut ho3 (k := i) (by omega)
    have hft : (ints R).take (i * 1) = ints (R.take i) := by rw [Nat.mul_one, ints, ints, List.map_take]
    rw [show 0 + i * 1 = i * 1 by omega, splice_take_at (by rw [ints_length]; omega), hft, htake] at hcut
    refine ⟨?_, below_put b2 h3 hgB⟩
    show w3.ownsRow B 3 1 (.slice (if cap = 0 then (some ⟨g, 0, none⟩ : Option Addr) else (some (⟨g, 0, none⟩ : Addr)).map (·.add (0 * 1))) i cap) (compL l).length _
    rw [e, ← hi]
    exact hcut
theorem sorted_spec {B : Nat} {w : World} {v : Value} {l : List Int} (ho : NewInts B w v l) (hB : B ≤ w.heap.size) (hl : l.length ≤ 2 ^ 40) :
    CallsV C.P 190 #[v] w fun v' w' => NewInts B w' v' (sortD l) ∧ Below B w w' := by
  refine callsV_of C_ok (args := [_]) (plans := []) Tryz.func190 rfl Tryz.ntmps190 (by kernel_rfl) (Nat.le_of_ble_eq_true rfl) ?_
  refine (SortI_spec ho hl).mono ?_
  rintro r w1 ⟨rfl, ⟨l', ho1, hp, hs⟩, hg⟩
  have b1 : Below B w w1 := below_app (Below.refl _ _) ho hg hB
  refine (Compact_spec ho1 (Nat.le_trans hB b1.size) (by rw [hp.length_eq]; exact hl)).mono ?_
  rintro v' w2 ⟨ho2, b2⟩
  rw [comp_sorted hp hs] at ho2
  exact ⟨ho2, b1.trans b2⟩
end Go.Proofs.YtcnbpfecgokhiaaGreatDoor
namespace Go.Proofs.YtcnbpfecgokhiaaGreatDoor
open Go.Eng Go.RowKit
theorem fm_take {p : Fact → Bool} {f : Fact → Int} {l : List Fact} {i : Nat} (hi : i < l.length) : ((l.take (i + 1)).filter p).map f = ((l.take i).filter p).map f ++ if p l[i] = true then [f l[i]] else [] := by
  rw [List.take_succ_eq_append_getElem hi, List.filter_append, List.map_append, List.filter_cons, List.filter_nil]
  congr 1
  split <;> rfl
theorem fm_length (p : Fact → Bool) (f : Fact → Int) (l : List Fact) : ((l.filter p).map f).length ≤ l.length := by
  rw [List.length_map]; exact List.length_filter_le _ _
theorem fm_take_length (p : Fact → Bool) (f : Fact → Int) (l : List Fact) (i : Nat) : (((l.take i).filter p).map f).length ≤ l.length := Nat.le_trans (fm_length p f _) (by rw [List.length_take]; omega)
set_option maxRecDepth 100000 in
theorem living_spec {w : World} {A : Option Addr} {l : List Fact} {c : Nat} (hr : Reads w A (fcells l)) (hl : l.length ≤ 2 ^ 20) (k s cl : Int) :
    CallsV C.P 166 #[.slice A l.length c, .int .u8 k, .int .i64 s, .int .i64 cl] w fun v w' => NewInts w.heap.size w' v (livingL l k s cl) ∧ Ext w w' := by
  refine callsV_of C_ok (args := [_, _, _, _]) (plans := []) Tryz.func166 rfl Tryz.ntmps166 (by kernel_rfl) (Nat.le_of_ble_eq_true rfl) ?_
  refine loopE C_ok (fun (t : Nat × Value) => [(0, .slice A l.length c), (1, .int .u8 k), (2, .int .i64 s), (3, .int .i64 cl), (9, t.2), (12, .slice A l.length c), (13, .int .i64 l.length), (14, .int .i64 t.1)])
    (fun t w' => t.1 ≤ l.length ∧ Ext w w' ∧ NewInts w.heap.size w' t.2 (((l.take t.1).filter (livesB l k s cl)).map Fact.who)) (fun t => l.length - t.1) (0, .slice none 0 0)
    ⟨rfl, rfl, rfl, rfl, rfl, rfl, rfl, rfl, trivial⟩ ⟨Nat.zero_le _, Ext.refl _, newInts_nil _ _⟩ ?_
  rintro ⟨i, v⟩ w2 ⟨hi', e2, ho'⟩
  have hi : i ≤ l.length := hi'
  have ho : NewInts w.heap.size w2 v (((l.take i).filter (livesB l k s cl)).map Fact.who) := ho'
  clear hi' ho'
  refine brE_dec (fun hlt => ?_) (fun hge => ?_)
  · have hlt : i < l.length := by have : (i : Int) < (l.length : Nat) := hlt; omega
    have next : IntKind.i64.wrap ((i : Int) + 1) = ((i + 1 : Nat) : Int) := fit ⟨by omega, by omega⟩
    have hlen := fm_take_length (livesB l k s cl) Fact.who l i
    have step := fm_take (p := livesB l k s cl) (f := Fact.who) hlt
    obtain ⟨b, o, hA, hc⟩ := Reads.fact (hr.ext e2) hlt
    refine ⟨i, b, o, rfl, hlt, hA, ?_⟩
    refine ⟨l[i].cells, rfl, hc, ?_⟩
    intro g w3 h3
    refine ⟨rfl, _, _, h3.here, Nat.le_of_ble_eq_true rfl, rfl, ?_⟩
    intro w4 h4
    have h4 : Put w3 g (.cells l[i].cells.toArray 81 (0, 0)) w4 := h4
    have e24 : Ext w2 w4 := h4.ext_of h3.ext (by rw [h3.new]; exact Nat.le_refl _)
    have skip : ∀ {w' : World}, Ext w2 w' → livesB l k s cl l[i] = false → i + 1 ≤ l.length ∧ Ext w w' ∧ NewInts w.heap.size w' v (((l.take (i + 1)).filter (livesB l k s cl)).map Fact.who) := fun e h => by
      rw [step, h, if_neg (by decide), List.append_nil]
      exact ⟨hlt, e2.trans e, ho.ext e⟩
    refine ⟨_, cell_of_block h4.here rfl, ?_⟩
    refine brE_dec (fun a1 => ?_) (fun a1 => ?_)
    case' refine_2 =>
      have a1 : ¬ l[i].kind = k := a1
      refine ⟨_, next, ?_⟩
      exact ⟨(i + 1, v), ⟨rfl, rfl, rfl, rfl, rfl, rfl, rfl, rfl, trivial⟩, skip e24 (by unfold livesB; rw [decide_eq_false fun h => a1 h.1]; rfl), by show l.length - (i + 1) < l.length - i; omega⟩
    have a1 : l[i].kind = k := a1
    refine ⟨_, cell_of_block h4.here rfl, ?_⟩
    refine brE_dec (fun a2 => ?_) (fun a2 => ?_)
    case' refine_2 =>
      have a2 : ¬ l[i].what = s := a2
      refine ⟨_, next, ?_⟩
      exact ⟨(i + 1, v), ⟨rfl, rfl, rfl, rfl, rfl, rfl, rfl, rfl, trivial⟩, skip e24 (by unfold livesB; rw [decide_eq_false fun h => a2 h.2.1]; rfl), by show l.length - (i + 1) < l.length - i; omega⟩
    have a2 : l[i].what = s := a2
    refine ⟨_, cell_of_block h4.here rfl, ?_⟩
    refine brE_dec (fun a3 => ?_) (fun a3 => ?_)
    case' refine_2 =>
      have a3 : ¬ l[i].other = cl := a3
      refine ⟨_, next, ?_⟩
      exact ⟨(i + 1, v), ⟨rfl, rfl, rfl, rfl, rfl, rfl, rfl, rfl, trivial⟩, skip e24 (by unfold livesB; rw [decide_eq_false fun h => a3 h.2.2]; rfl), by show l.length - (i + 1) < l.length - i; omega⟩
    have a3 : l[i].other = cl := a3
    refine ⟨_, cell_of_block h4.here rfl, ?_⟩
    refine (vdead_spec (hr.ext (e2.trans e24)) hl l[i].who).mono ?_
    rintro v5 w5 ⟨rfl, e5⟩
    have e25 := e24.trans e5
    refine brE_mk (fun a4 => ?_) (fun a4 => ?_)
    · have hb : livesB l k s cl l[i] = true := by unfold livesB; rw [decide_eq_true ⟨a1, a2, a3⟩]; exact a4
      rw [hb, if_pos rfl] at step
      refine ⟨_, cell_of_block (e5.heap h4.here) rfl, ?_⟩
      intro g6 w6 h6
      have ho6 : w6.ownsRow w.heap.size 3 1 v _ _ := ownsRow_ext ho (e25.trans h6.ext)
      have e6 := (e2.trans e25).trans h6.ext
      refine ⟨rfl, rfl, rfl, w.heap.size, _, _, [.int .i64 l[i].who], ho6, e6.size, Nat.le_of_ble_eq_true rfl, rfl, rfl, .inr ⟨g6, 0, rfl, Rd.of_block h6.here⟩, rfl, rfl, by omega, by simp only [maxLen]; omega, ?_⟩
      intro v7 w7 ho7 hg7 _
      refine ⟨_, next, ?_⟩
      refine ⟨(i + 1, v7), ⟨rfl, rfl, rfl, rfl, rfl, rfl, rfl, rfl, trivial⟩, ⟨hlt, app_ext e6 ho6 hg7, ?_⟩, by show l.length - (i + 1) < l.length - i; omega⟩
      show NewInts w.heap.size w7 v7 (((l.take (i + 1)).filter (livesB l k s cl)).map Fact.who)
      rw [step]
      unfold NewInts
      rw [ints_append, List.length_append]
      exact ho7
    · refine ⟨_, next, ?_⟩
      exact ⟨(i + 1, v), ⟨rfl, rfl, rfl, rfl, rfl, rfl, rfl, rfl, trivial⟩, skip e25 (by unfold livesB; rw [a4, Bool.and_false]), by show l.length - (i + 1) < l.length - i; omega⟩
  · have : i = l.length := by have : ¬ (i : Int) < (l.length : Nat) := hge; omega
    subst this
    rw [List.take_length] at ho
    have hlen := fm_length (livesB l k s cl) Fact.who l
    refine (sorted_spec ho e2.size (by omega)).mono ?_
    rintro v3 w3 ⟨ho3, b3⟩
    exact ⟨ho3, Below.trans e2 b3⟩
end Go.Proofs.YtcnbpfecgokhiaaGreatDoor
namespace Go.Proofs.YtcnbpfecgokhiaaGreatDoor
open Go.Eng Go.RowKit
structure NmEntry where
  state : Int
  has : Bool
  name : ByteArray
def NmEntry.cells (e : NmEntry) : List Value := [.int .i64 e.state, .bool e.has, .string e.name]
def entries (l : List NmEntry) : List Value := l.flatMap NmEntry.cells
theorem NmEntry.len (x : NmEntry) : x.cells.length = 3 := rfl
instance : Inhabited NmEntry := ⟨⟨0, false, ⟨#[]⟩⟩⟩
/-- An entry tells whether its state has a name. -/
def NmEntry.Ok (e : NmEntry) : Prop := e.has = !decide (e.name = ⟨#[]⟩)
end Go.Proofs.YtcnbpfecgokhiaaGreatDoor
namespace Go.Proofs.YtcnbpfecgokhiaaGreatDoor
open Go.Eng Go.RowKit
theorem Reads.entry {w : World} {A : Option Addr} {l : List NmEntry} (h : Reads w A (entries l)) {i : Nat} (hi : i < l.length) : ∃ b o, A = some ⟨b, o, none⟩ ∧ Rd w b (o + i * 3) l[i].cells := Reads.elem NmEntry.len (by omega) h hi
theorem IndexI_spec {w : World} {A : Option Addr} {xs : List Int} {c : Nat} (hr : Reads w A (ints xs)) (hl : xs.length ≤ 2 ^ 40) (n : Int) :
    CallsV C.P 188 #[.slice A xs.length c, .int .i64 n] w fun v w' => (v = .int .i64 (match xs.findIdx? (fun x => decide (x = n)) with | some i => (i : Int) | none => -1)) ∧ w' = w := by
  refine callsV_of C_ok (args := [_, _]) (plans := []) Tryz.func188 rfl Tryz.ntmps188 (by kernel_rfl) (Nat.le_of_ble_eq_true rfl) ?_
  refine loopE C_ok (fun (i : Nat) => [(0, .slice A xs.length c), (1, .int .i64 n), (7, .int .i64 xs.length), (8, .int .i64 i)])
    (fun i w' => w' = w ∧ i ≤ xs.length ∧ ∀ j (h : j < xs.length), j < i → xs[j] ≠ n) (fun i => xs.length - i) 0 ⟨rfl, rfl, rfl, rfl, trivial⟩ ⟨rfl, Nat.zero_le _, fun _ _ h => absurd h (Nat.not_lt_zero _)⟩ ?_
  rintro i w1 ⟨rfl, hi, hall⟩
  refine brE_dec (fun hlt => ?_) (fun hge => ?_)
  · have hlt : i < xs.length := by have : (i : Int) < (xs.length : Nat) := hlt; omega
    obtain ⟨b, o, hA, hc⟩ := Reads.int hr hlt
    refine ⟨i, b, o, rfl, hlt, hA, ?_⟩
    refine ⟨_, by simpa using hc, ?_⟩
    refine brE_dec (fun h2 => ?_) (fun h2 => ?_)
    · have h2 : n = xs[i] := h2
      have : xs.findIdx? (fun x => decide (x = n)) = some i := by
        rw [List.findIdx?_eq_some_iff_getElem]
        exact ⟨hlt, decide_eq_true h2.symm, fun j hj => by simpa using hall j (by omega) hj⟩
      exact ⟨by rw [this], rfl⟩
    · have h2 : ¬ n = xs[i] := h2
      refine ⟨((i + 1 : Nat) : Int), fit ⟨by omega, by omega⟩, ?_⟩
      refine ⟨i + 1, ⟨rfl, rfl, rfl, rfl, trivial⟩, ⟨rfl, hlt, fun j hj hji => ?_⟩, by omega⟩
      rcases Nat.lt_or_ge j i with h | h
      · exact hall j hj h
      · obtain rfl : j = i := by omega
        exact fun e => h2 e.symm
  · have : i = xs.length := by have : ¬ (i : Int) < (xs.length : Nat) := hge; omega
    subst this
    have : xs.findIdx? (fun x => decide (x = n)) = none := by
      rw [List.findIdx?_eq_none_iff]
      intro x hx
      obtain ⟨j, hj, rfl⟩ := List.getElem_of_mem hx
      exact decide_eq_false (hall j hj hj)
    exact ⟨by rw [this], rfl⟩
theorem ContainsI_spec {w : World} {A : Option Addr} {xs : List Int} {c : Nat} (hr : Reads w A (ints xs)) (hl : xs.length ≤ 2 ^ 40) (n : Int) :
    CallsV C.P 165 #[.slice A xs.length c, .int .i64 n] w fun v w' => v = .bool (decide (n ∈ xs)) ∧ w' = w := by
  refine callsV_of C_ok (args := [_, _]) (plans := []) Tryz.func165 rfl Tryz.ntmps165 (by kernel_rfl) (Nat.le_of_ble_eq_true rfl) ?_
  refine (IndexI_spec hr hl n).mono ?_
  rintro v w1 ⟨rfl, rfl⟩
  refine ⟨congrArg Value.bool ?_, rfl⟩
  cases hf : xs.findIdx? (fun x => decide (x = n)) with
  | some i =>
    obtain ⟨hi, he, _⟩ := List.findIdx?_eq_some_iff_getElem.1 hf
    have he := of_decide_eq_true he
    show decide ((i : Int) ≥ 0) = _
    rw [decide_eq_true (by omega), decide_eq_true (he ▸ List.getElem_mem hi)]
  | none =>
    rw [List.findIdx?_eq_none_iff] at hf
    show decide ((-1 : Int) ≥ 0) = _
    rw [decide_eq_false (by omega), decide_eq_false fun h => by have := hf n h; simp at this]
end Go.Proofs.YtcnbpfecgokhiaaGreatDoor
namespace Go.Proofs.YtcnbpfecgokhiaaGreatDoor
open Go.Eng Go.RowKit
theorem livingL_length (c : List Fact) (k s cl : Int) : (livingL c k s cl).length ≤ c.length := Nat.le_trans (sortD_length _) (fm_length _ _ _)
end Go.Proofs.YtcnbpfecgokhiaaGreatDoor
namespace Go.Proofs.YtcnbpfecgokhiaaGreatDoor
open Go.Eng Go.RowKit
abbrev classes : List Int := [1, 2, 3, 4]
theorem classes_drop {n : Nat} (h : n < 4) : classes.drop n = ((n + 1 : Nat) : Int) :: classes.drop (n + 1) := by
  have : n = 0 ∨ n = 1 ∨ n = 2 ∨ n = 3 := by omega
  rcases this with rfl | rfl | rfl | rfl <;> rfl
theorem HoldsClass_spec {w : World} {A : Option Addr} {l : List Fact} {c : Nat} (h : HF w A l c) (hl : l.length ≤ 2 ^ 20) (k day p s : Int) :
    CallsV C.P 133 #[.slice A l.length c, .int .i64 k, .int .i64 day, .int .i64 p, .int .i64 s] w fun v w' => v = .int .i64 (leastL (atL k day l) p s) ∧ Ext w w' := by
  refine callsV_of C_ok (args := [_, _, _, _, _]) (plans := []) Tryz.func133 rfl Tryz.ntmps133 (by kernel_rfl) (Nat.le_of_ble_eq_true rfl) ?_
  refine (look_spec h hl k day).mono ?_
  rintro v w1 ⟨hK, e1⟩
  have hkl := atL_length k day l
  generalize atL k day l = K at *
  obtain ⟨AK, cK, rfl, hrK, _⟩ := hK.slice
  have hKl : K.length ≤ 2 ^ 20 := by omega
  unfold leastL
  refine loopE C_ok (fun (n : Nat) => [(3, .int .i64 p), (4, .int .i64 s), (11, .slice AK K.length cK), (12, .int .i64 ((n + 1 : Nat) : Int))])
    (fun n w' => n ≤ 4 ∧ Ext w1 w' ∧ leastAt K p s classes = leastAt K p s (classes.drop n)) (fun n => 4 - n) 0
    ⟨rfl, rfl, rfl, rfl, trivial⟩ ⟨Nat.zero_le _, Ext.refl _, rfl⟩ ?_
  rintro n w2 ⟨hn, e2, hc⟩
  refine brE_dec (fun hlt => ?_) (fun hge => ?_)
  case' refine_2 =>
    have : n = 4 := by have : ¬ ((n + 1 : Nat) : Int) < 5 := hge; omega
    subst this
    exact ⟨by rw [hc]; rfl, e1.trans e2⟩
  have hlt : n < 4 := by have : ((n + 1 : Nat) : Int) < 5 := hlt; omega
  have next : IntKind.i64.wrap (((n + 1 : Nat) : Int) + 1) = ((n + 1 + 1 : Nat) : Int) := by rw [fit ⟨by omega, by omega⟩]; omega
  have hd : leastAt K p s (classes.drop n) = if (decide (p ∈ livingL K 2 s ((n + 1 : Nat) : Int)) || actsB K p s ((n + 1 : Nat) : Int)) = true then ((n + 1 : Nat) : Int) else leastAt K p s (classes.drop (n + 1)) := by
    rw [classes_drop hlt]; rfl
  rw [hd] at hc
  refine (living_spec (hrK.ext e2) hKl 2 s ((n + 1 : Nat) : Int)).mono ?_
  rintro v w3 ⟨ho3, e3⟩
  have hl3 := livingL_length K 2 s ((n + 1 : Nat) : Int)
  obtain ⟨A3, k3, rfl, hr3, _⟩ := ho3.slice
  refine (ContainsI_spec hr3 (by omega) p).mono ?_
  rintro v w4 ⟨rfl, rfl⟩
  have e23 := e2.trans e3
  refine brE_mk (fun t => ?_) (fun t => ?_)
  · rw [t, Bool.true_or, if_pos rfl] at hc
    exact ⟨by rw [hc], e1.trans e23⟩
  rw [t, Bool.false_or] at hc
  refine (living_spec (hrK.ext e23) hKl 3 s ((n + 1 : Nat) : Int)).mono ?_
  rintro v w6 ⟨ho6, e6⟩
  have hl6 := livingL_length K 3 s ((n + 1 : Nat) : Int)
  obtain ⟨A6, k6, rfl, hr6, _⟩ := ho6.slice
  refine (ContainsI_spec hr6 (by omega) p).mono ?_
  rintro v w7 ⟨rfl, rfl⟩
  refine brE_mk (fun u => ?_) (fun u => ?_)
  · rw [show actsB K p s ((n + 1 : Nat) : Int) = true from u, if_pos rfl] at hc
    exact ⟨by rw [hc], (e1.trans e23).trans e6⟩
  · rw [show actsB K p s ((n + 1 : Nat) : Int) = false from u, if_neg (by decide)] at hc
    refine ⟨_, next, ?_⟩
    exact ⟨n + 1, ⟨rfl, rfl, rfl, rfl, trivial⟩, ⟨hlt, e23.trans e6, hc⟩, by omega⟩
end Go.Proofs.YtcnbpfecgokhiaaGreatDoor
namespace Go.Proofs.YtcnbpfecgokhiaaGreatDoor
open Go.Eng Go.RowKit
open Go.Maps (Keyed)
theorem signs_spec {w : World} {A : Option Addr} {f : List Fact} {c : Nat} (hf : HF w A f c) (hl : f.length ≤ 2 ^ 20) (x : Waiv) :
    CallsV C.P 93 #[.slice A f.length c, x.val] w fun v w' => v = .bool (decide (leastL (atL x.day x.day f) x.signer x.giver ≤ 2)) ∧ Ext w w' := by
  refine callsV_of C_ok (args := [_, _]) (plans := []) Tryz.func93 rfl Tryz.ntmps93 (by kernel_rfl) (Nat.le_of_ble_eq_true rfl) ?_
  intro g1 w1 h1
  have M1 : Mem w w1 [(g1, .cells x.cells.toArray 35 (0, 0))] := (Mem.start w).alloc h1
  refine ⟨_, M1.cell 0 rfl rfl, ?_⟩
  refine ⟨_, M1.cell 0 rfl rfl, ?_⟩
  refine ⟨_, M1.cell 0 rfl rfl, ?_⟩
  refine ⟨_, M1.cell 0 rfl rfl, ?_⟩
  refine (HoldsClass_spec (hf.ext M1.ext) hl _ _ _ _).mono ?_
  rintro v w2 ⟨rfl, e2⟩
  exact ⟨rfl, M1.ext.trans e2⟩
set_option maxRecDepth 100000 in
theorem granted_spec {w : World} {s : SV} {es : List Entry} (h : StateIs w s es) (hA : Acc es) {x : Waiv} (hx : x.Nums) {A : Option Addr} {f : List Fact} {c : Nat} (hf : HF w A f c) (hl : f.length ≤ 2 ^ 20) :
    CallsV C.P 152 #[.pointer (some ⟨s.gs, 0, none⟩), .slice A f.length c, x.val] w fun v w' => v = .int .i64 (grantedE (sgF f x) es x) ∧ Ext w w' := by
  obtain ⟨Aw, cw, hvw, _, _⟩ := reads_of_owns h.waivs
  have hwl := (acc_ok hA).wlen
  refine callsV_of C_ok (args := [_, _, _]) (plans := plans152) Tryz.func152 rfl Tryz.ntmps152 (by kernel_rfl) (Nat.le_of_ble_eq_true rfl) ?_
  intro g1 w1 h1
  have M1 : Mem w w1 [(g1, .cells x.cells.toArray 35 (0, 0))] := (Mem.start w).alloc h1
  have hs := h.ext M1.ext
  have hvc : w1.cell? ⟨s.gs, 2, none⟩ = some (.slice Aw (waivL es).length cw) := cell_of_block hs.block (by show some s.vW = _; rw [hvw])
  refine ⟨_, hvc, ?_⟩
  refine brE_dec (fun b1 => ?_) (fun b1 => ?_)
  · have b1 : (500 : Int) ≤ ((waivL es).length : Nat) := b1
    exact ⟨congrArg _ (by unfold grantedE; rw [if_pos (by omega)]), M1.ext⟩
  have b1 : ¬ (500 : Int) ≤ ((waivL es).length : Nat) := b1
  refine ⟨_, M1.cell 0 rfl rfl, ?_⟩
  refine ⟨_, hvc, ?_⟩
  refine ⟨(((waivL es).length + 1 : Nat) : Int), fit ⟨by omega, by omega⟩, ?_⟩
  refine brE_ndec (fun b2 => ?_) (fun b2 => ?_)
  · have b2 : ¬ x.id = (((waivL es).length + 1 : Nat) : Int) := b2
    exact ⟨congrArg _ (by unfold grantedE; rw [if_neg (by omega), if_pos (by omega)]), M1.ext⟩
  have b2 : x.id = (((waivL es).length + 1 : Nat) : Int) := b2
  refine (Check_spec (hf.ext M1.ext) hl).mono ?_
  rintro v w2 ⟨rfl, e2⟩
  have M2 := M1.grow e2
  refine brE_ndec (fun b3 => ?_) (fun b3 => ?_)
  · have b3 : ¬ (chkF f).2 = 0 := b3
    exact ⟨congrArg _ (by unfold grantedE sgF; rw [if_neg (by omega), if_neg (by omega), if_pos b3, if_pos b3]), M2.ext⟩
  have b3 : (chkF f).2 = 0 := b3
  refine ⟨x.cells, rfl, M2.rd 0 rfl, ?_⟩
  refine (signs_spec (hf.ext M2.ext) hl x).mono ?_
  rintro v w3 ⟨rfl, e3⟩
  have M3 := M2.grow e3
  have hs3 := h.ext M3.ext
  refine brE_mk (fun b4 => ?_) (fun b4 => ?_)
  · have b4 : ¬ leastL (atL x.day x.day f) x.signer x.giver ≤ 2 := by simpa using b4
    have hsg : sgF f x = 60 := by unfold sgF; rw [if_neg (fun h => h b3), if_neg b4]
    exact ⟨congrArg _ (by unfold grantedE; rw [if_neg (by omega), if_neg (by omega), hsg, if_pos (by decide)]), M3.ext⟩
  have b4 : leastL (atL x.day x.day f) x.signer x.giver ≤ 2 := by simpa using b4
  have hg : grantedE (sgF f x) es x = if owesB (dueL es) x.giver x.taker = true then 61 else 0 := by
    have hsg : sgF f x = 0 := by unfold sgF; rw [if_neg (fun h => h b3), if_pos b4]
    unfold grantedE
    rw [if_neg (by omega), if_neg (by omega), hsg, if_neg (by decide)]
  refine ⟨_, cell_of_block (i := 3) hs3.block rfl, ?_⟩
  refine ⟨_, M3.cell 0 rfl rfl, ?_⟩
  refine ⟨_, M3.cell 0 rfl rfl, ?_⟩
  by_cases ho : owesB (dueL es) x.giver x.taker = true
  · obtain ⟨d, hd1, hd2⟩ := owes_iff.1 ho
    refine ⟨.tuple #[.int .i64 d.waiver, .bool true], mapLGet C_ok (te := ty3) (x := sidesV x.giver x.taker) (sidesKey hx.giver hx.taker) hs3.dues sidesK rfl rfl rfl rfl rfl rfl (.inl ⟨rfl, dueP_mem.2 ⟨d, hd1, hd2.1, hd2.2, rfl⟩⟩), ?_⟩
    exact ⟨congrArg _ (by rw [hg, if_pos ho]), M3.ext⟩
  · have hno : ∀ u, (sidesV x.giver x.taker, u) ∉ (dueL es).map dueP := fun u hu => by
      obtain ⟨d, hd1, hd2, hd3, _⟩ := dueP_mem.1 hu
      exact ho (owes_iff.2 ⟨d, hd1, hd2, hd3⟩)
    refine ⟨.tuple #[.int .i64 0, .bool false], mapLGet C_ok (te := ty3) (x := sidesV x.giver x.taker) (sidesKey hx.giver hx.taker) hs3.dues sidesK rfl rfl rfl rfl rfl rfl (.inr ⟨rfl, rfl, hno⟩), ?_⟩
    exact ⟨congrArg _ (by rw [hg, if_neg ho]), M3.ext⟩
/-- The gifts, as they are read. -/
theorem StateIs.gift {w : World} {s : SV} {es : List Entry} (h : StateIs w s es) {k : Nat} (hk : k < (giftL es).length) : ∃ A c b o, s.vG = .slice A (giftL es).length c ∧ A = some ⟨b, o, none⟩ ∧ Rd w b (o + k * 10) (giftL es)[k].cells := by
  obtain ⟨A, c, hv, hr, _⟩ := reads_of_owns h.gifts
  obtain ⟨b, o, hA, hrd⟩ := Reads.elem Gift.len (by omega) hr hk
  exact ⟨A, c, b, o, hv, hA, hrd⟩
theorem StateIs.waiv {w : World} {s : SV} {es : List Entry} (h : StateIs w s es) {k : Nat} (hk : k < (waivL es).length) : ∃ A c b o, s.vW = .slice A (waivL es).length c ∧ A = some ⟨b, o, none⟩ ∧ Rd w b (o + k * 9) (waivL es)[k].cells := by
  obtain ⟨A, c, hv, hr, _⟩ := reads_of_owns h.waivs
  obtain ⟨b, o, hA, hrd⟩ := Reads.elem Waiv.len (by omega) hr hk
  exact ⟨A, c, b, o, hv, hA, hrd⟩
set_option maxRecDepth 100000 in
theorem offered_spec {w : World} {s : SV} {es : List Entry} (h : StateIs w s es) (hA : Acc es) {x : Gift} (hx : x.Nums) (hn : 1 ≤ x.n ∧ x.n ≤ 1000000) (hret : 0 ≤ x.returns) :
    CallsV C.P 153 #[.pointer (some ⟨s.gs, 0, none⟩), x.val] w fun v w' => v = .int .i64 (offeredE es x) ∧ Ext w w' := by
  obtain ⟨Ag, cg, hvg, _, _⟩ := reads_of_owns h.gifts
  have hgl := (acc_ok hA).gifts.len
  have hrate := (acc_ok hA).rate x.cur
  have hceil := (acc_ok hA).ceil x.to
  have hcur := hx.cur
  refine callsV_of C_ok (args := [_, _]) (plans := plans153) Tryz.func153 rfl Tryz.ntmps153 (by kernel_rfl) (Nat.le_of_ble_eq_true rfl) ?_
  intro g1 w1 h1
  have M1 : Mem w w1 [(g1, .cells x.cells.toArray 37 (0, 0))] := (Mem.start w).alloc h1
  have hs := h.ext M1.ext
  have hvc : w1.cell? ⟨s.gs, 4, none⟩ = some (.slice Ag (giftL es).length cg) := cell_of_block hs.block (by show some s.vG = _; rw [hvg])
  obtain ⟨fr, mr, hfr⟩ := hs.rates
  refine ⟨_, hvc, ?_⟩
  refine brE_dec (fun b1 => ?_) (fun b1 => ?_)
  · have b1 : (500 : Int) ≤ ((giftL es).length : Nat) := b1
    exact ⟨congrArg _ (by unfold offeredE; rw [if_pos (by omega)]), M1.ext⟩
  have b1 : ¬ (500 : Int) ≤ ((giftL es).length : Nat) := b1
  refine ⟨_, M1.cell 0 rfl rfl, ?_⟩
  refine ⟨_, hvc, ?_⟩
  refine ⟨(((giftL es).length + 1 : Nat) : Int), fit ⟨by omega, by omega⟩, ?_⟩
  refine brE_ndec (fun b2 => ?_) (fun b2 => ?_)
  · have b2 : ¬ x.id = (((giftL es).length + 1 : Nat) : Int) := b2
    exact ⟨congrArg _ (by unfold offeredE; rw [if_neg (by omega), if_pos (by omega)]), M1.ext⟩
  have b2 : x.id = (((giftL es).length + 1 : Nat) : Int) := b2
  refine ⟨_, cell_of_block (i := 0) hs.block rfl, ?_⟩
  refine ⟨_, M1.cell 0 rfl rfl, ?_⟩
  refine ⟨x.cur, fit ⟨by omega, by omega⟩, ?_⟩
  refine ⟨.int .i64 (rateL es x.cur), mapGet1 C_ok (te := ty3) (x := .int .i64 x.cur) (intKey ⟨by omega, by omega⟩) mr intK rfl rfl rfl rfl rfl rfl (by rw [hfr]; exact numV_getD _), ?_⟩
  refine brE_dec (fun b3 => ?_) (fun b3 => ?_)
  · have b3 : rateL es x.cur = 0 := b3
    exact ⟨congrArg _ (by unfold offeredE; rw [if_neg (by omega), if_neg (by omega), if_pos b3]), M1.ext⟩
  have b3 : ¬ rateL es x.cur = 0 := b3
  refine ⟨_, M1.cell 0 rfl rfl, ?_⟩
  refine ⟨_, hvc, ?_⟩
  refine brE_dec (fun b4 => ?_) (fun b4 => ?_)
  · have b4 : x.returns > ((giftL es).length : Nat) := b4
    exact ⟨congrArg _ (by unfold offeredE; rw [if_neg (by omega), if_neg (by omega), if_neg b3, if_pos (by omega)]), M1.ext⟩
  have b4 : ¬ x.returns > ((giftL es).length : Nat) := b4
  have hof : offeredE es x = if x.returns > 0 ∧ (let r := atN (giftL es) x.returns; ¬ (r.frm = x.to ∧ r.to = x.frm ∧ r.returns = 0 ∧ r.state = 2)) then 8 else if ceilL es x.to > 0 ∧ x.n * rateL es x.cur > ceilL es x.to then 2 else 0 := by
    unfold offeredE
    rw [if_neg (by omega), if_neg (by omega), if_neg b3, if_neg b4]
  refine ⟨_, M1.cell 0 rfl rfl, ?_⟩
  refine brE_dec (fun b5 => ?yes) (fun b5 => ?no)
  case' yes =>
    have b5 : x.returns > 0 := b5
    obtain ⟨j, hj, hje⟩ := num_of (n := (giftL es).length) (i := x.returns) (by omega) (by omega)
    obtain ⟨A, c, b, o, hv, hA', hrd⟩ := hs.gift hj
    have hat : atN (giftL es) x.returns = (giftL es)[j] := by rw [hje]; exact atN_get hj
    rw [hat] at hof
    refine ⟨.slice A (giftL es).length c, cell_of_block (i := 4) hs.block (by show some s.vG = _; rw [hv]), ?_⟩
    refine ⟨_, M1.cell 0 rfl rfl, ?_⟩
    refine ⟨(j : Int), by show IntKind.i64.wrap (x.returns - 1) = _; rw [hje, fit ⟨by omega, by omega⟩]; omega, ?_⟩
    refine ⟨j, b, o, rfl, hj, hA', ?_⟩
    refine ⟨(giftL es)[j].cells, rfl, hrd, ?_⟩
    intro g5 w2 h2
    refine ⟨h2.ext, ?_⟩
    have M2 := M1.alloc h2
    refine ⟨rfl, _, _, M2.get 0 rfl, Nat.le_of_ble_eq_true rfl, rfl, ?_⟩
    intro w3 h3
    have M3 : Mem w w3 [(g5, .cells (giftL es)[j].cells.toArray 37 (0, 0)), (g1, .cells x.cells.toArray 37 (0, 0))] := M2.put 0 rfl h3
    refine ⟨_, M3.cell 0 rfl rfl, ?_⟩
    refine ⟨_, M3.cell 1 rfl rfl, ?_⟩
    refine brE_ndec (fun c1 => ?_) (fun c1 => ?_)
    · have c1 : ¬ (giftL es)[j].frm = x.to := c1
      exact ⟨congrArg _ (by rw [hof, if_pos ⟨b5, fun e => c1 e.1⟩]), M3.ext⟩
    have c1 : (giftL es)[j].frm = x.to := c1
    refine ⟨_, M3.cell 0 rfl rfl, ?_⟩
    refine ⟨_, M3.cell 1 rfl rfl, ?_⟩
    refine brE_ndec (fun c2 => ?_) (fun c2 => ?_)
    · have c2 : ¬ (giftL es)[j].to = x.frm := c2
      exact ⟨congrArg _ (by rw [hof, if_pos ⟨b5, fun e => c2 e.2.1⟩]), M3.ext⟩
    have c2 : (giftL es)[j].to = x.frm := c2
    refine ⟨_, M3.cell 0 rfl rfl, ?_⟩
    refine brE_ndec (fun c3 => ?_) (fun c3 => ?_)
    · have c3 : ¬ (giftL es)[j].returns = 0 := c3
      exact ⟨congrArg _ (by rw [hof, if_pos ⟨b5, fun e => c3 e.2.2.1⟩]), M3.ext⟩
    have c3 : (giftL es)[j].returns = 0 := c3
    refine ⟨_, M3.cell 0 rfl rfl, ?_⟩
    refine brE_ndec (fun c4 => ?_) (fun c4 => ?_)
    · have c4 : ¬ (giftL es)[j].state = 2 := c4
      exact ⟨congrArg _ (by rw [hof, if_pos ⟨b5, fun e => c4 e.2.2.2⟩]), M3.ext⟩
    have c4 : (giftL es)[j].state = 2 := c4
    rw [if_neg (fun e => e.2 ⟨c1, c2, c3, c4⟩)] at hof
    have ez := M3.ext
    have gz := M3.get 1 rfl
  case' no =>
    have b5 : ¬ x.returns > 0 := b5
    rw [if_neg (fun e => b5 e.1)] at hof
    have ez := M1.ext
    have gz := M1.get 0 rfl
  all_goals
    have hz := h.ext ez
    obtain ⟨fc, mc, hfc⟩ := hz.ceils
    refine ⟨_, cell_of_block (i := 1) hz.block rfl, ?_⟩
    refine ⟨_, cell_of_block gz rfl, ?_⟩
    refine ⟨.tuple #[.int .i64 (ceilL es x.to), .bool (!decide (ceilL es x.to = 0))], mapGet2 C_ok (te := ty3) (x := .int .i64 x.to) (intKey hx.to) mc intK rfl rfl rfl rfl rfl rfl (by rw [hfc]; exact numV_getD _) (by rw [hfc]; exact numV_some _), ?_⟩
    refine brE_ndec (fun d1 => ?_) (fun d1 => ?_)
    · have d1 : ¬ ceilL es x.to = 0 := d1
      refine ⟨x.cells, rfl, Rd.of_block gz, ?_⟩
      refine (worth_spec hz hrate hn hcur).mono ?_
      rintro v w4 ⟨rfl, e4⟩
      refine brE_dec (fun d2 => ?_) (fun d2 => ?_)
      · have d2 : x.n * rateL es x.cur > ceilL es x.to := d2
        exact ⟨congrArg _ (by rw [hof, if_pos ⟨by omega, d2⟩]), ez.trans e4⟩
      · have d2 : ¬ x.n * rateL es x.cur > ceilL es x.to := d2
        exact ⟨congrArg _ (by rw [hof, if_neg (fun e => d2 e.2)]), ez.trans e4⟩
    · have d1 : ceilL es x.to = 0 := d1
      exact ⟨congrArg _ (by rw [hof, if_neg (fun e => by omega)]), ez⟩
theorem end_id {x : Entry} (hf : formX x = true) (hk : x.kind = 4) : 1 ≤ x.w.id ∧ x.w.id ≤ 500 := by
  obtain ⟨hok, _, _⟩ := form_okE hf
  unfold okE at hok
  rw [if_neg (by omega), if_neg (by omega), if_neg (by omega), if_pos hk, decide_eq_true_eq] at hok
  exact hok
theorem ans_id {x : Entry} (hf : formX x = true) (hk : x.kind = 6 ∨ x.kind = 7) : 1 ≤ x.g.id ∧ x.g.id ≤ 500 := by
  obtain ⟨hok, _, _⟩ := form_okE hf
  unfold okE at hok
  rw [if_neg (by omega), if_neg (by omega), if_neg (by omega), if_neg (by omega), if_neg (by omega), if_pos hk, decide_eq_true_eq] at hok
  exact hok
theorem offer_nums {x : Entry} (hf : formX x = true) (hk : x.kind = 5) : (1 ≤ x.g.n ∧ x.g.n ≤ 1000000) ∧ 0 ≤ x.g.returns := by
  obtain ⟨hok, _, _⟩ := form_okE hf
  rw [okE_5 hk] at hok
  unfold rightG at hok
  simp only [Bool.and_eq_true, decide_eq_true_eq] at hok
  exact ⟨hok.1.2, hok.1.1.1.1.2.1⟩
set_option maxRecDepth 100000 in
theorem refused_spec {w : World} {s : SV} {es : List Entry} (h : StateIs w s es) (hA : Acc es) {x : Entry} (hx : x.Nums) (hform : formX x = true) {A : Option Addr} {f : List Fact} {c : Nat} (hf : HF w A f c) (hl : f.length ≤ 2 ^ 20) :
    CallsV C.P 123 #[.pointer (some ⟨s.gs, 0, none⟩), .slice A f.length c, x.val] w fun v w' => v = .int .i64 (refusedE (sgF f x.w) es x) ∧ Ext w w' := by
  have hkind := ok_kind (form_okE hform).1
  have hwl := (acc_ok hA).wlen
  have hgl := (acc_ok hA).gifts.len
  refine callsV_of C_ok (args := [_, _, _]) (plans := plans123) Tryz.func123 rfl Tryz.ntmps123 (by kernel_rfl) (Nat.le_of_ble_eq_true rfl) ?_
  intro g1 w1 h1
  have M1 : Mem w w1 [(g1, .cells x.cells.toArray 39 (0, 0))] := (Mem.start w).alloc h1
  have hs := h.ext M1.ext
  refine ⟨_, M1.cell 0 rfl rfl, ?_⟩
  refine brE_dec (fun k3 => ?_) (fun k3 => ?_)
  · have k3 : x.kind = 3 := k3
    refine ⟨x.w.cells, rfl, (M1.rd 0 rfl).part x.w_part, ?_⟩
    refine (granted_spec hs hA hx.w (hf.ext M1.ext) hl).mono ?_
    rintro v w2 ⟨rfl, e2⟩
    exact ⟨congrArg _ (by unfold refusedE; rw [if_pos k3]), M1.ext.trans e2⟩
  have k3 : ¬ x.kind = 3 := k3
  refine brE_dec (fun k4 => ?_) (fun k4 => ?_)
  · have k4 : x.kind = 4 := k4
    have hid := end_id hform k4
    have hr : refusedE (sgF f x.w) es x = if x.w.id > (waivL es).length then 5 else if (atN (waivL es) x.w.id).til ≤ x.day then 8 else 0 := by
      unfold refusedE; rw [if_neg k3, if_pos k4]
    obtain ⟨Aw, cw, hvw, _, _⟩ := reads_of_owns h.waivs
    refine ⟨_, M1.cell 0 rfl rfl, ?_⟩
    refine ⟨.slice Aw (waivL es).length cw, cell_of_block (i := 2) hs.block (by show some s.vW = _; rw [hvw]), ?_⟩
    refine brE_dec (fun b1 => ?_) (fun b1 => ?_)
    · have b1 : x.w.id > ((waivL es).length : Nat) := b1
      exact ⟨congrArg _ (by rw [hr, if_pos b1]), M1.ext⟩
    have b1 : ¬ x.w.id > ((waivL es).length : Nat) := b1
    obtain ⟨j, hj, hje⟩ := num_of (n := (waivL es).length) (i := x.w.id) (by omega) (by omega)
    obtain ⟨A', c', b, o, hv, hA', hrd⟩ := hs.waiv hj
    have hat : atN (waivL es) x.w.id = (waivL es)[j] := by rw [hje]; exact atN_get hj
    rw [hat, if_neg b1] at hr
    refine ⟨.slice A' (waivL es).length c', cell_of_block (i := 2) hs.block (by show some s.vW = _; rw [hv]), ?_⟩
    refine ⟨_, M1.cell 0 rfl rfl, ?_⟩
    refine ⟨(j : Int), by show IntKind.i64.wrap (x.w.id - 1) = _; rw [hje, fit ⟨by omega, by omega⟩]; omega, ?_⟩
    refine ⟨j, b, o, rfl, hj, hA', ?_⟩
    refine ⟨_, hrd 8 _ rfl, ?_⟩
    refine ⟨_, M1.cell 0 rfl rfl, ?_⟩
    refine brE_dec (fun b2 => ?_) (fun b2 => ?_)
    · have b2 : (waivL es)[j].til ≤ x.day := b2
      exact ⟨congrArg _ (by rw [hr, if_pos b2]), M1.ext⟩
    · have b2 : ¬ (waivL es)[j].til ≤ x.day := b2
      exact ⟨congrArg _ (by rw [hr, if_neg b2]), M1.ext⟩
  have k4 : ¬ x.kind = 4 := k4
  refine brE_dec (fun k5 => ?_) (fun k5 => ?_)
  · have k5 : x.kind = 5 := k5
    obtain ⟨hn, hret⟩ := offer_nums hform k5
    refine ⟨x.g.cells, rfl, (M1.rd 0 rfl).part x.g_part, ?_⟩
    refine (offered_spec hs hA hx.g hn hret).mono ?_
    rintro v w2 ⟨rfl, e2⟩
    exact ⟨congrArg _ (by unfold refusedE; rw [if_neg k3, if_neg k4, if_pos k5]), M1.ext.trans e2⟩
  have k5 : ¬ x.kind = 5 := k5
  have ans : x.kind = 6 ∨ x.kind = 7 → refusedE (sgF f x.w) es x = if x.g.id > (giftL es).length then 5 else if ¬ (atN (giftL es) x.g.id).state = 1 then 8 else 0 := fun k => by
    unfold refusedE; rw [if_neg k3, if_neg k4, if_neg k5, if_pos k]
  obtain ⟨Ag, cg, hvg, _, _⟩ := reads_of_owns h.gifts
  refine brE_dec (fun k6 => ?k6) (fun k6 => ?no)
  case' no =>
    have k6 : ¬ x.kind = 6 := k6
    refine brE_dec (fun k7 => ?k7) (fun k7 => ?k8)
  case k8 =>
    have k7 : ¬ x.kind = 7 := k7
    exact ⟨congrArg _ (by unfold refusedE; rw [if_neg k3, if_neg k4, if_neg k5, if_neg (by omega)]), M1.ext⟩
  case' k6 =>
    have kk : x.kind = 6 ∨ x.kind = 7 := .inl k6
    refine brE_true (decide_eq_true k6) ?_
  case' k7 => have kk : x.kind = 6 ∨ x.kind = 7 := .inr k7
  all_goals
    have hid := ans_id hform kk
    have hr := ans kk
    refine ⟨_, M1.cell 0 rfl rfl, ?_⟩
    refine ⟨.slice Ag (giftL es).length cg, cell_of_block (i := 4) hs.block (by show some s.vG = _; rw [hvg]), ?_⟩
    refine brE_dec (fun b1 => ?_) (fun b1 => ?_)
    · have b1 : x.g.id > ((giftL es).length : Nat) := b1
      exact ⟨congrArg _ (by rw [hr, if_pos b1]), M1.ext⟩
    have b1 : ¬ x.g.id > ((giftL es).length : Nat) := b1
    obtain ⟨j, hj, hje⟩ := num_of (n := (giftL es).length) (i := x.g.id) (by omega) (by omega)
    obtain ⟨A', c', b, o, hv, hA', hrd⟩ := hs.gift hj
    have hat : atN (giftL es) x.g.id = (giftL es)[j] := by rw [hje]; exact atN_get hj
    rw [hat, if_neg b1] at hr
    refine ⟨.slice A' (giftL es).length c', cell_of_block (i := 4) hs.block (by show some s.vG = _; rw [hv]), ?_⟩
    refine ⟨_, M1.cell 0 rfl rfl, ?_⟩
    refine ⟨(j : Int), by show IntKind.i64.wrap (x.g.id - 1) = _; rw [hje, fit ⟨by omega, by omega⟩]; omega, ?_⟩
    refine ⟨j, b, o, rfl, hj, hA', ?_⟩
    refine ⟨_, hrd 7 _ rfl, ?_⟩
    refine brE_ndec (fun b2 => ?_) (fun b2 => ?_)
    · have b2 : ¬ (giftL es)[j].state = 1 := b2
      exact ⟨congrArg _ (by rw [hr, if_pos b2]), M1.ext⟩
    · have b2 : (giftL es)[j].state = 1 := b2
      exact ⟨congrArg _ (by rw [hr, if_neg (fun e => e b2)]), M1.ext⟩
end Go.Proofs.YtcnbpfecgokhiaaGreatDoor
namespace Go.Proofs.YtcnbpfecgokhiaaGreatDoor
open Go.Eng Go.RowKit
open Go.Maps (Keyed)
theorem underL : Tryz.prog.underlying 26 = some (.pointer (Tryz.prog.pointee 26)) := by kernel_rfl
theorem eqNilP (x y : Operand) (p : Option Addr) : EqIs C.P .eql 26 x y (.pointer p) (.pointer none) p.isNone := by
  intro w
  have hu : C.P.underlying 26 = some (.pointer (C.P.pointee 26)) := underL
  have h1 : (eqGuard .eql 26 x y (.pointer p) (.pointer none)).run C.P w = .ok () w := by simp [eqGuard]
  rw [Sem.run_bind, h1]
  simp only [Result.andThen_ok]
  exact run_eql_pointer_nil _ _ _ hu
theorem New_spec (w : World) : CallsV C.P 17 #[] w fun v w' => ∃ l : LV, v = l.ptr ∧ LdNew w w' l [] := by
  refine callsV_of C_ok (args := []) (plans := []) Tryz.func17 rfl Tryz.ntmps17 (by kernel_rfl) (Nat.le_of_ble_eq_true rfl) ?_
  refine (newState_spec w).mono ?_
  rintro v w1 ⟨⟨s, rfl, hs, hn⟩, e1⟩
  intro g w2 h2
  refine ⟨⟨g, .slice none 0 0, s⟩, rfl, ⟨h2.here, World.ownsRow_nil _ _ _ _, hs.ext h2.ext, .nil, fun x hx => by cases hx⟩, ?_, e1.trans h2.ext⟩
  rintro k (hk | hk | hk)
  · rw [hk]; show w.heap.size ≤ g; rw [h2.new]; exact e1.size
  · cases hk
  · exact hn k hk
theorem lastDay_get {es : List Entry} (h : 0 < es.length) : lastDay es = (es[es.length - 1]'(by omega)).day := by
  unfold lastDay
  rw [List.getLast?_eq_getElem?, List.getElem?_eq_getElem (by omega)]; rfl
theorem Day_spec {w : World} {l : LV} {es : List Entry} (h : LedgerIs w l es) (hl : es.length ≤ 2 ^ 20) : CallsV C.P 20 #[l.ptr] w fun v w' => v = .int .i64 (lastDay es) ∧ w' = w := by
  obtain ⟨A, c, hv, hr, _⟩ := reads_of_owns h.row
  refine callsV_of C_ok (args := [_]) (plans := plans20) Tryz.func20 rfl Tryz.ntmps20 (by kernel_rfl) (Nat.le_of_ble_eq_true rfl) ?_
  have hvc : w.cell? ⟨l.gl, 0, none⟩ = some (.slice A es.length c) := cell_of_block h.block (by show some l.vE = _; rw [hv])
  refine ⟨_, eqNilP _ _ _, ?_⟩
  refine ⟨_, hvc, ?_⟩
  refine brE_dec (fun b1 => ?_) (fun b1 => ?_)
  · have b1 : ((es.length : Nat) : Int) = 0 := b1
    have : es = [] := List.length_eq_zero_iff.1 (by omega)
    subst this
    exact ⟨rfl, rfl⟩
  have b1 : ¬ ((es.length : Nat) : Int) = 0 := b1
  refine ⟨_, hvc, ?_⟩
  refine ⟨_, hvc, ?_⟩
  refine ⟨((es.length - 1 : Nat) : Int), by show IntKind.i64.wrap (((es.length : Nat) : Int) - 1) = _; rw [fit ⟨by omega, by omega⟩]; omega, ?_⟩
  obtain ⟨b, o, hA, hrd⟩ := Reads.elem Entry.len (by omega) hr (i := es.length - 1) (by omega)
  refine ⟨es.length - 1, b, o, rfl, (by omega : es.length - 1 < es.length), hA, ?_⟩
  refine ⟨_, hrd 1 _ rfl, ?_⟩
  exact ⟨congrArg _ (lastDay_get (by omega)).symm, rfl⟩
theorem Entries_spec {w : World} {l : LV} {es : List Entry} (h : LedgerIs w l es) (hl : es.length ≤ 2 ^ 20) : CallsV C.P 23 #[l.ptr] w fun v w' => NewL Entry.cells 39 24 w.heap.size w' v es ∧ Ext w w' := by
  obtain ⟨A, c, hv, hr, _⟩ := reads_of_owns h.row
  refine callsV_of C_ok (args := [_]) (plans := []) Tryz.func23 rfl Tryz.ntmps23 (by kernel_rfl) (Nat.le_of_ble_eq_true rfl) ?_
  have hvc : w.cell? ⟨l.gl, 0, none⟩ = some (.slice A es.length c) := cell_of_block h.block (by show some l.vE = _; rw [hv])
  refine ⟨_, eqNilP _ _ _, ?_⟩
  refine ⟨_, hvc, ?_⟩
  refine (CloneE_spec hr hl).mono ?_
  rintro v w1 ⟨h1, e1⟩
  exact ⟨h1, e1⟩
/-- The first errors. -/
def beginE (es : List Entry) (x : Entry) : Int := if formX x = false then 1 else if x.day < lastDay es then 7 else 0
theorem begin_spec {w : World} {l : LV} {es : List Entry} (h : LedgerIs w l es) (hl : es.length ≤ 2 ^ 20) {x : Entry} (hx : x.Nums) : CallsV C.P 122 #[l.ptr, x.val] w fun v w' => v = .int .i64 (beginE es x) ∧ Ext w w' := by
  refine callsV_of C_ok (args := [_, _]) (plans := plans122) Tryz.func122 rfl Tryz.ntmps122 (by kernel_rfl) (Nat.le_of_ble_eq_true rfl) ?_
  intro g1 w1 h1
  have M1 : Mem w w1 [(g1, .cells x.cells.toArray 39 (0, 0))] := (Mem.start w).alloc h1
  refine ⟨_, eqNilP _ _ _, ?_⟩
  refine ⟨x.cells, rfl, M1.rd 0 rfl, ?_⟩
  refine (formed_spec x hx w1).mono ?_
  rintro v w2 ⟨rfl, e2⟩
  have M2 := M1.grow e2
  refine brE_mk (fun b1 => ?_) (fun b1 => ?_)
  · have b1 : formX x = false := by simpa using b1
    exact ⟨congrArg _ (by unfold beginE; rw [if_pos b1]), M2.ext⟩
  have b1 : formX x = true := by simpa using b1
  refine ⟨_, M2.cell 0 rfl rfl, ?_⟩
  refine (Day_spec (h.ext M2.ext) hl).mono ?_
  rintro v w3 ⟨rfl, rfl⟩
  refine ⟨Ext.refl _, ?_⟩
  refine brE_dec (fun b2 => ?_) (fun b2 => ?_)
  · have b2 : x.day < lastDay es := b2
    exact ⟨congrArg _ (by unfold beginE; rw [if_neg (by rw [b1]; decide), if_pos b2]), M2.ext⟩
  · have b2 : ¬ x.day < lastDay es := b2
    exact ⟨congrArg _ (by unfold beginE; rw [if_neg (by rw [b1]; decide), if_neg b2]), M2.ext⟩
set_option maxRecDepth 100000 in
theorem Do_spec {w : World} {l : LV} {es : List Entry} (h : LedgerIs w l es) (hl : es.length ≤ 2 ^ 16) {x : Entry} (hx : x.Nums) {A : Option Addr} {f : List Fact} {c : Nat} (hf : HF w A f c) (hfl : f.length ≤ 2 ^ 20) :
    CallsV C.P 71 #[l.ptr, .slice A f.length c, x.val] w fun v w' => v = .int .i64 (doF f es x) ∧ LdGo w l (addL (doF f es x) es x) w' := by
  refine callsV_of C_ok (args := [_, _, _]) (plans := plans71) Tryz.func71 rfl Tryz.ntmps71 (by kernel_rfl) (Nat.le_of_ble_eq_true rfl) ?_
  intro g1 w1 h1
  have M1 : Mem w w1 [(g1, .cells x.cells.toArray 39 (0, 0))] := (Mem.start w).alloc h1
  refine ⟨x.cells, rfl, M1.rd 0 rfl, ?_⟩
  refine (begin_spec (h.ext M1.ext) (by omega) hx).mono ?_
  rintro v w2 ⟨rfl, e2⟩
  have M2 := M1.grow e2
  refine brE_ndec (fun b1 => ?_) (fun b1 => ?_)
  · have b1 : ¬ beginE es x = 0 := b1
    have hd : doF f es x = beginE es x := by
      unfold doF doE beginE at *
      split
      · rfl
      · rename_i h1
        rw [if_neg h1] at b1
        split
        · rfl
        · rename_i h2; rw [if_neg h2] at b1; exact absurd rfl b1
    refine ⟨congrArg _ hd.symm, ?_⟩
    have : addL (doF f es x) es x = es := by unfold addL; rw [if_neg (by rw [hd]; exact b1)]
    rw [this]
    exact LdGo.ext h M2.ext
  have b1 : beginE es x = 0 := b1
  have hform : formX x = true := by
    unfold beginE at b1
    split at b1
    · cases b1
    · rename_i h1; simpa using h1
  have hday : ¬ x.day < lastDay es := by
    unfold beginE at b1
    rw [if_neg (by rw [hform]; decide)] at b1
    split at b1
    · cases b1
    · assumption
  have hd : doF f es x = refusedE (sgF f x.w) es x := by
    unfold doF doE
    rw [if_neg (by rw [hform]; decide), if_neg hday]
  have h2' := h.ext M2.ext
  refine ⟨_, cell_of_block (i := 1) h2'.block rfl, ?_⟩
  refine ⟨x.cells, rfl, M2.rd 0 rfl, ?_⟩
  refine (refused_spec h2'.st h.acc hx hform (hf.ext M2.ext) hfl).mono ?_
  rintro v w3 ⟨rfl, e3⟩
  have M3 := M2.grow e3
  rw [hd]
  refine brE_ndec (fun b2 => ?_) (fun b2 => ?_)
  · have b2 : ¬ refusedE (sgF f x.w) es x = 0 := b2
    refine ⟨rfl, ?_⟩
    have : addL (refusedE (sgF f x.w) es x) es x = es := by unfold addL; rw [if_neg b2]
    rw [this]
    exact LdGo.ext h M3.ext
  have b2 : refusedE (sgF f x.w) es x = 0 := b2
  have hdo : doE (sgF f x.w) es x = 0 := by rw [← b2, ← hd]; rfl
  have hadd : addL (refusedE (sgF f x.w) es x) es x = es ++ [x] := by unfold addL; rw [if_pos b2]
  have h3 := h.ext M3.ext
  refine ⟨_, cell_of_block (i := 1) h3.block rfl, ?_⟩
  refine ⟨x.cells, rfl, M3.rd 0 rfl, ?_⟩
  refine (do_spec h3.st h.acc hx hdo).mono ?_
  rintro v w4 ⟨s4, hgs4, hst4, hk4, hn4⟩
  -- the ledger's own blocks are as they were
  have keep4 : Keep (fun k => ¬ l.s.has k) w w4 := keep_trans (keep_ext M3.ext) hk4 fun _ hq _ => hq
  have hb4 : w4.heap[l.gl]? = some (.cells l.cells.toArray 112 (0, 0)) := hk4.heap h3.offS h3.block
  have hrow4 : w4.ownsRow 0 39 24 l.vE es.length (es.flatMap Entry.cells) := owns_same h3.row fun k hk => hk4.block k (h3.offE hk).1 (h3.lt (.inr (.inl hk)))
  have hg4 : w4.heap[g1]? = some (.cells x.cells.toArray 39 (0, 0)) := hk4.heap (fun hq => by have := h.st.lt hq; have := M3.new 0 rfl; omega) (M3.get 0 rfl)
  obtain ⟨A4, c4, hv4, _, _⟩ := reads_of_owns hrow4
  refine ⟨.slice A4 es.length c4, cell_of_block (i := 0) hb4 (by show some l.vE = _; rw [hv4]), ?_⟩
  refine ⟨x.cells, rfl, Rd.of_block hg4, ?_⟩
  intro g5 w5 h5
  refine ⟨h5.ext, ?_⟩
  have hrow5 := ownsRow_ext hrow4 h5.ext
  rw [hv4] at hrow5
  refine ⟨rfl, rfl, rfl, 0, _, _, x.cells, hrow5, Nat.zero_le _, Nat.le_of_ble_eq_true rfl, rfl, rfl, .inr ⟨g5, 0, rfl, Rd.of_block h5.here⟩, rfl, rfl, by omega, by simp only [maxLen]; omega, ?_⟩
  intro v6 w6 ho6 hg6 hpl
  have hb5 := h5.ext.heap hb4
  have offg : ∀ k, (Value.slice A4 es.length c4).ownBlock = some k → k ≠ l.gl := fun k hk => (h3.offE (by rw [hv4]; exact hk)).2
  have hb6 : w6.heap[l.gl]? = some (.cells l.cells.toArray 112 (0, 0)) := by
    rw [hg6.block _ (lt_of_heap hb5) (fun e => offg _ e.symm rfl)]; exact hb5
  obtain ⟨A6, c6, rfl, _, _⟩ := reads_of_owns ho6
  refine ⟨rfl, _, _, hb6, Nat.le_of_ble_eq_true rfl, rfl, ?_⟩
  intro w7 h7
  rw [hadd]
  refine ⟨congrArg _ b2.symm, ?_⟩
  -- the new state's blocks stay
  have st5 : StateIs w5 s4 (es ++ [x]) := hst4.ext h5.ext
  have offR : ∀ k, (Value.slice A4 es.length c4).ownBlock = some k → ¬ s4.has k := fun k hk hq => by
    obtain ⟨_, cur, e⟩ := owns_at hrow5 hk
    exact st5.off e (by decide) (by decide) (by decide) hq
  have offL : ¬ s4.has l.gl := st5.off hb5 (by decide) (by decide) (by decide)
  have st7 : StateIs w7 s4 (es ++ [x]) := st5.keep fun k hk => by
    rw [h7.there k (fun e => offL (e ▸ hk)), hg6.block k (st5.lt hk) (fun e => offR k e.symm hk)]
  generalize hl' : (LV.mk l.gl (.slice A6 (es.length + 1) c6) s4) = l'
  have hrow7 : w7.ownsRow 0 39 24 (.slice A6 (es.length + 1) c6) (es.length + 1) (es.flatMap Entry.cells ++ x.cells) := ownsRow_put ho6 h7 (fun e => by
    obtain ⟨_, cur, hc⟩ := owns_at ho6 e
    rw [hb6] at hc; simp at hc)
  refine ⟨l', by rw [← hl'], ⟨?_, ?_, ?_, .snoc _ h.acc hdo, ?_⟩, ?_, ?_⟩
  · have h7' : Put w6 l.gl (.cells #[.slice A6 (es.length + 1) c6, .pointer (some ⟨l.s.gs, 0, none⟩)] 112 (0, 0)) w7 := h7
    rw [← hl']
    show w7.heap[l.gl]? = some (.cells #[.slice A6 (es.length + 1) c6, .pointer (some ⟨s4.gs, 0, none⟩)] 112 (0, 0))
    rw [hgs4]
    exact h7'.here
  · rw [← hl', List.length_append, List.flatMap_append]
    have := hrow7
    simpa using this
  · rw [← hl']; exact st7
  · intro y hy
    rcases List.mem_append.1 hy with hy | hy
    · exact h.nums y hy
    · rw [List.mem_singleton.1 hy]; exact hx
  · have k4 : Keep (fun k => ¬ l.has k) w w4 := keep_trans (keep_ext M3.ext) hk4 fun q hq _ hs => hq (.inr (.inr hs))
    exact ((k4.ext h5.ext).grown hg6 (fun k hk hn => hn (.inr (.inl (by rw [hv4]; exact hk))))).put h7 (fun hn => hn (.inl rfl))
  · intro k hk
    rw [← hl'] at hk
    rcases hk with hk | hk | hk
    · exact .inl (.inl hk)
    · rcases hpl.2 k hk with h6 | h6
      · exact .inl (.inr (.inl (by rw [hv4]; exact h6)))
      · exact .inr (Nat.le_trans (Nat.le_trans keep4.size h5.ext.size) h6)
    · rcases hn4 k hk with h6 | h6
      · exact .inl (.inr (.inr h6))
      · exact .inr (Nat.le_trans M3.ext.size h6)
end Go.Proofs.YtcnbpfecgokhiaaGreatDoor
namespace Go.Proofs.YtcnbpfecgokhiaaGreatDoor
open Go.Eng Go.RowKit
set_option maxHeartbeats 8000000 in
set_option maxRecDepth 100000 in
theorem gifts_with {w : World} {b1 b2 b3 b4 b5 b6 t1 t4 : Nat} {day frm to cur n ret : Int} (h1 : w.heap[b1]? = some (.cells #[.int .i64 day] t1 (0, 0))) (h2 : w.heap[b2]? = some (.cells #[.int .i64 frm] t1 (0, 0))) (h3 : w.heap[b3]? = some (.cells #[.int .i64 to] t1 (0, 0)))
    (h4 : w.heap[b4]? = some (.cells #[.int .u8 cur] t4 (0, 0))) (h5 : w.heap[b5]? = some (.cells #[.int .i64 n] t1 (0, 0))) (h6 : w.heap[b6]? = some (.cells #[.int .i64 ret] t1 (0, 0))) (i : Int) :
    CallsV C.P 121 (#[] ++ [.int .i64 i].toArray ++ #[.pointer (some ⟨b1, 0, none⟩), .pointer (some ⟨b2, 0, none⟩), .pointer (some ⟨b3, 0, none⟩), .pointer (some ⟨b4, 0, none⟩), .pointer (some ⟨b5, 0, none⟩), .pointer (some ⟨b6, 0, none⟩)]) w
      fun v w' => v = (Entry.mk 5 day waivZ ⟨i, day, frm, to, cur, n, 0, 0, 0, ret⟩ 0 0 0).val ∧ Ext w w' := by
  refine callsV_of C_ok (args := [_, _, _, _, _, _, _]) (plans := []) Tryz.func121 rfl Tryz.ntmps121 (by kernel_rfl) (Nat.le_of_ble_eq_true rfl) ?_
  intro g3 w1 a1
  have M1 := (Mem.start w).alloc a1
  refine ⟨_, cell_of_block (M1.ext.heap h1) rfl, ?_⟩
  refine ⟨_, cell_of_block (M1.ext.heap h1) rfl, ?_⟩
  refine ⟨_, cell_of_block (M1.ext.heap h2) rfl, ?_⟩
  refine ⟨_, cell_of_block (M1.ext.heap h3) rfl, ?_⟩
  refine ⟨_, cell_of_block (M1.ext.heap h4) rfl, ?_⟩
  refine ⟨_, cell_of_block (M1.ext.heap h5) rfl, ?_⟩
  refine ⟨_, cell_of_block (M1.ext.heap h6) rfl, ?_⟩
  refine ⟨by kernel_rfl, _, _, M1.get 0 rfl, Nat.le_of_ble_eq_true (by kernel_rfl), by kernel_rfl, ?_⟩
  intro w2 a2
  have a2 := put_eq a2 (o' := .cells (Entry.mk 5 day waivZ ⟨i, day, frm, to, cur, n, 0, 0, 0, ret⟩ 0 0 0).cells.toArray 39 (0, 0)) (by kernel_rfl)
  have M2 : Mem w w2 [(g3, .cells (Entry.mk 5 day waivZ ⟨i, day, frm, to, cur, n, 0, 0, 0, ret⟩ 0 0 0).cells.toArray 39 (0, 0))] := M1.put 0 rfl a2
  refine ⟨(Entry.mk 5 day waivZ ⟨i, day, frm, to, cur, n, 0, 0, 0, ret⟩ 0 0 0).cells, rfl, M2.rd 0 rfl, ?_⟩
  exact ⟨rfl, M2.ext⟩
end Go.Proofs.YtcnbpfecgokhiaaGreatDoor
