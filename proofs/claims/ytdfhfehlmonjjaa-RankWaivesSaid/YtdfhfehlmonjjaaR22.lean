/- rank: Levels. -/
import Derived.Test.YtdfhfehlmonjjaaR21
namespace Go.Proofs.Ytdfhfehlmonjjaa
open Go.Eng Go.RowKit

/-- Two levels: the higher one. -/
theorem maxQ {o : Oper} {l : Env} {w : World} {x y : Operand} {ts : Array Nat} {a b : Int} (ho : o.op = .call ⟨.builtin .max, #[x, y], ts⟩) (hx : evo l x = some (.int .i64 a)) (hy : evo l y = some (.int .i64 b)) :
    QuietRun C o l w (.int .i64 (if b > a then b else a)) := by
  intro ρ hρ w' _
  unfold execOp
  rw [ho]
  simp [resolve, invoke, builtin, hρ _ _ hx, hρ _ _ hy, Builtin.max_, Builtin.max2]

/-- The level of a component whose first guest is 'z', given the levels so far. -/
def levTo (R : Nat → Nat → Bool) (f : Nat → Nat) (z : Nat) : Nat → Nat
  | 0 => 0
  | b + 1 => if standR R b z = 1 then max (levTo R f z b) (f b + 1) else levTo R f z b

def levF (n : Nat) (R : Nat → Nat → Bool) : List (List Int) → (Nat → Nat) → Nat → Nat
  | [], f => f
  | l :: L, f => levF n R L fun a => if (a : Int) ∈ l then levTo R f (l.headD 0).toNat n else f a

/-- The row of the first 'n' numbers of a function. -/
def natsN (n : Nat) (f : Nat → Nat) : List Int := (List.range n).map fun k => ((f k : Nat) : Int)
theorem natsN_length (n : Nat) (f : Nat → Nat) : (natsN n f).length = n := by simp [natsN]
theorem natsN_get {n i : Nat} (h : i < n) (f : Nat → Nat) : (ints (natsN n f))[i]? = some (.int .i64 (f i : Nat)) := by simp [ints, natsN, h]
theorem natsN_set {n i : Nat} (h : i < n) (f : Nat → Nat) (v : Nat) : splice (ints (natsN n f)) i [.int .i64 (v : Nat)] = ints (natsN n fun a => if a = i then v else f a) := by
  rw [splice_one (by rw [ints_length, natsN_length]; exact h)]
  apply List.ext_getElem?
  intro k
  rw [List.getElem?_set]
  by_cases hk : i = k
  · subst hk
    rw [if_pos rfl, natsN_get h, if_pos (by rw [ints_length, natsN_length]; exact h), if_pos rfl]
  · rw [if_neg hk]
    by_cases hkn : k < n
    · rw [natsN_get hkn, natsN_get hkn, if_neg (fun e => hk e.symm)]
    · rw [List.getElem?_eq_none (by rw [ints_length, natsN_length]; omega), List.getElem?_eq_none (by rw [ints_length, natsN_length]; omega)]

theorem levTo_le {R : Nat → Nat → Bool} {f : Nat → Nat} {z c : Nat} (h : ∀ b, f b ≤ c) : ∀ b, levTo R f z b ≤ c + 1
  | 0 => by simp [levTo]
  | b + 1 => by
    have h1 := levTo_le (R := R) (z := z) h b
    have h2 := h b
    rw [levTo]
    split <;> omega

theorem zeros_natsN (n : Nat) : List.replicate n (Value.int .i64 0) = ints (natsN n fun _ => 0) := by
  apply List.ext_getElem?
  intro i
  by_cases h : i < n
  · rw [natsN_get h, List.getElem?_replicate, if_pos h]; rfl
  · rw [List.getElem?_eq_none (by simp; omega), List.getElem?_eq_none (by rw [ints_length, natsN_length]; omega)]

/-- The guests of the first 'k' of a component have their level. -/
def setTo (l : List Int) (v : Nat) (f : Nat → Nat) (k : Nat) : Nat → Nat := fun a => if (a : Int) ∈ l.take k then v else f a

theorem setTo_succ {l : List Int} {v k y : Nat} {f : Nat → Nat} (hk : k < l.length) (hy : l[k] = (y : Int)) : (fun a => if a = y then v else setTo l v f k a) = setTo l v f (k + 1) := by
  funext a
  unfold setTo
  rw [List.take_succ_eq_append_getElem hk, hy]
  by_cases h : a = y
  · subst h; simp
  · simp only [List.mem_append, List.mem_singleton, if_neg h]
    have : ¬ (a : Int) = (y : Int) := by omega
    simp [this]

theorem setTo_all (l : List Int) (v : Nat) (f : Nat → Nat) : setTo l v f l.length = fun (a : Nat) => if (a : Int) ∈ l then v else f a := by
  funext a; unfold setTo; rw [List.take_length]
theorem setTo_zero (l : List Int) (v : Nat) (f : Nat → Nat) : setTo l v f 0 = f := by
  funext a; unfold setTo; simp

theorem levF_snoc (n : Nat) (R : Nat → Nat → Bool) (l : List Int) : ∀ (L : List (List Int)) (f : Nat → Nat), levF n R (L ++ [l]) f = fun (a : Nat) => if (a : Int) ∈ l then levTo R (levF n R L f) (l.headD 0).toNat n else levF n R L f a
  | [], f => rfl
  | k :: L, f => by rw [List.cons_append, levF, levF_snoc n R l L, levF]

theorem levF_le {n : Nat} {R : Nat → Nat → Bool} : ∀ (L : List (List Int)) (f : Nat → Nat) (c : Nat), (∀ b, f b ≤ c) → ∀ b, levF n R L f b ≤ c + L.length
  | [], f, c, h, b => by simpa [levF] using h b
  | l :: L, f, c, h, b => by
    rw [levF]
    have := levF_le (n := n) (R := R) L (fun a => if (a : Int) ∈ l then levTo R f (l.headD 0).toNat n else f a) (c + 1) (fun a => by
      have h1 := levTo_le (R := R) (z := (l.headD 0).toNat) h n
      have h2 := h a
      show (if _ then _ else _) ≤ _
      split <;> omega) b
    simp only [List.length_cons]
    omega

theorem maxQ' {o : Oper} {l : Env} {w : World} {x y : Operand} {ts : Array Nat} {a b c : Int} (hm : (if b > a then b else a) = c) (ho : o.op = .call ⟨.builtin .max, #[x, y], ts⟩) (hx : evo l x = some (.int .i64 a)) (hy : evo l y = some (.int .i64 b)) :
    QuietRun C o l w (.int .i64 c) := by
  rw [← hm]
  exact maxQ ho hx hy

theorem AllRows.put {w w' : World} {B g : Nat} {o : Obj} {us : List Value} {ls : List (List Int)} (h : AllRows w B us ls) (p : Put w g o w') (hg : g < B) : AllRows w' B us ls := by
  induction h with
  | nil => exact .nil
  | cons h _ ih => exact .cons (ownsRow_put h p (fun e => by have := (h.lt g e).1; omega)) ih
theorem Lists.put {w w' : World} {B g : Nat} {o : Obj} {v : Value} {L : List (List Int)} (h : Lists B w v L) (p : Put w g o w') (hg : g < B) : Lists B w' v L :=
  let ⟨us, h1, h2⟩ := h
  ⟨us, ownsRow_put h1 p (fun e => by have := (h1.lt g e).1; omega), h2.put p hg⟩

/-- What Levels says of a valid relation. -/
def levelsL (n : Nat) (R : Nat → Nat → Bool) : Nat → Nat := levF n R (compsL n R) fun _ => 0
noncomputable def levelsV (N : Int) (xs : List Arrow) : List Int := if chk N xs = 0 then natsN N.toNat (levelsL N.toNat (reach (toM xs))) else []

theorem Levels_spec {N : Int} {A : Option Addr} {xs : List Arrow} {c : Nat} {w : World} (h : HRel w N A xs c) :
    CallsV C.P 23 #[relVal N A xs.length c] w fun v w' => NewInts w w' v (levelsV N xs) ∧ Ext w w' := by
  refine callsV_of C_ok (args := [_]) (plans := []) Try.func23 rfl Try.ntmps23 (by kernel_rfl) (Nat.le_of_ble_eq_true rfl) ?_
  intro g1 w1 h1
  have M1 := (Mem.start w).alloc h1
  refine ⟨[.int .i64 N, .slice A xs.length c], rfl, M1.rd 0 rfl, ?_⟩
  by_cases hv : chk N xs = 0
  · have hok := valid_of_chk hv
    have hlo := hok.lo
    have hhi := hok.hi
    refine (open_yes (h.ext M1.ext) hok).mono ?_
    rintro v w2 ⟨g, rfl, hg, hw, he⟩
    have M2 := M1.grow he
    obtain ⟨n, rfl⟩ := Int.eq_ofNat_of_zero_le hlo
    have hn : n ≤ 24 := by omega
    refine ⟨_, hw.n, ?_⟩
    refine ⟨n, n, rfl, rfl, Nat.le_refl _, by omega, by omega, rfl, rfl, rfl, rfl, ?_⟩
    intro go w3 h3
    have h3 : Alloc w2 go (.cells (ints (natsN n fun _ => 0)).toArray 3 (0, 0)) w3 := by rw [← zeros_natsN]; exact h3
    have M3 := M2.alloc h3
    have hw3 := hw.ext h3.ext
    refine (components_spec hw3 hn).mono ?_
    rintro v w4 ⟨hl4, e4⟩
    obtain ⟨A4, c4, us, rfl, hr4⟩ := hl4.read
    have P := pre_reach hn hok.inside
    have M4 : Mem w w4 [(go, .cells (ints (natsN n fun _ => 0)).toArray 3 (0, 0))] := (M3.grow e4).sub (List.Sublist.cons_cons _ (List.nil_sublist _))
    have hlv : levelsV n xs = natsN n (levelsL n (reach (toM xs))) := by rw [levelsV, if_pos hv]; rfl
    rw [hlv]
    have hw4 : Web w4 g n (toM xs) (reach (toM xs)) := hw3.ext e4
    have hgo : go < w3.heap.size := by rw [h3.size, h3.new]; omega
    have hgne : g ≠ go := by
      intro e
      have := lt_of_heap hw
      rw [e, h3.new] at this
      exact Nat.lt_irrefl _ this
    generalize reach (toM xs) = R at *
    have hpr := compsL_props (R := R) hn
    unfold levelsL
    have hfrom : ∀ l ∈ compsL n R, ∃ a < n, l = members (compS n R a) := fun l hl => P.from_ hl
    generalize compsL n R = L at *
    refine loopE C_ok (fun (i : Nat) => [(3, .pointer (some ⟨g, 0, none⟩)), (5, .slice (some ⟨go, 0, none⟩) n n), (25, .slice A4 L.length c4), (26, .int .i64 L.length), (27, .int .i64 i)])
      (fun i w' => i ≤ L.length ∧ Lists w3.heap.size w' (.slice A4 L.length c4) L ∧ Web w' g n (toM xs) R ∧ Mem w w' [(go, .cells (ints (natsN n (levF n R (L.take i) fun _ => 0))).toArray 3 (0, 0))])
      (fun i => L.length - i) 0 ⟨rfl, rfl, rfl, rfl, rfl, trivial⟩ ⟨Nat.zero_le _, hl4, hw4, M4⟩ ?_
    rintro i w5 ⟨hi, hl5, hw5, M5⟩
    refine brE_dec (fun hlt => ?_) (fun hge => ?_)
    · have hlt : i < L.length := by omega
      obtain ⟨us5, ho5, hrows5⟩ := hl5
      obtain ⟨u, hu, hou⟩ := hrows5.at hlt
      obtain ⟨A6, c6, e6, hr6, _⟩ := reads_of_owns hou
      subst e6
      obtain ⟨A4', c4', e4', hr4', _⟩ := reads_of_owns ho5
      cases e4'
      rcases hr4' with h0 | ⟨b, o, hA, hrd⟩
      · rw [h0] at hu; simp at hu
      refine ⟨i, b, o, rfl, hlt, hA, ?_⟩
      refine ⟨_, by have := hrd i _ hu; simpa using this, ?_⟩
      refine ⟨_, hw5.n, ?_⟩
      obtain ⟨z0, hz0, el⟩ := hfrom L[i] (List.getElem_mem _)
      have hlen24 := hpr.2.1 L[i] (List.getElem_mem _)
      have hne := hpr.2.2 L[i] (List.getElem_mem _)
      have hfb := levF_le (n := n) (R := R) (L.take i) (fun _ => 0) 0 (fun _ => Nat.le_refl _)
      have hti : (L.take i).length ≤ 24 := by rw [List.length_take]; omega
      have hsn := levF_snoc n R L[i] (L.take i) fun _ => 0
      rw [← List.take_succ_eq_append_getElem hlt] at hsn
      generalize levF n R (L.take i) (fun _ => 0) = f at *
      generalize L[i] = l at *
      have hget : ∀ k (hk : k < l.length), ∃ y : Nat, l[k] = (y : Int) ∧ y < n := by
        intro k hk
        have hm : ∀ x ∈ l, x ∈ members (compS n R z0) := fun x hx => by rw [← el]; exact hx
        obtain ⟨y, hy, _, hc⟩ := mem_members.1 (hm _ (List.getElem_mem hk))
        exact ⟨y, hy, (compS_iff.1 hc).1⟩
      have hpos : 0 < l.length := List.length_pos_iff.2 hne
      obtain ⟨z, hz, hzn⟩ := hget 0 hpos
      have hhead : (l.headD 0).toNat = z := by
        cases l with
        | nil => simp at hpos
        | cons x l => simp at hz; simp [hz]
      rw [hhead] at hsn
      refine loopE C_ok (fun (b : Nat) => [(3, .pointer (some ⟨g, 0, none⟩)), (5, .slice (some ⟨go, 0, none⟩) n n), (7, .slice A6 l.length c6), (8, .int .i64 (levTo R f z b : Nat)), (25, .slice A4 L.length c4), (26, .int .i64 L.length), (27, .int .i64 i), (34, .int .i64 n), (35, .int .i64 b)])
        (fun b w' => b ≤ n ∧ w' = w5) (fun b => n - b) 0 ⟨rfl, rfl, rfl, rfl, rfl, rfl, rfl, rfl, rfl, trivial⟩ ⟨Nat.zero_le _, rfl⟩ ?_
      rintro b w6 ⟨hb, rfl⟩
      refine brE_dec (fun hlt2 => ?_) (fun hge2 => ?_)
      · have hlt2 : b < n := by omega
        obtain ⟨b1, o1, hA1, hc1⟩ := Reads.int hr6 hpos
        rw [hz] at hc1
        refine ⟨0, b1, o1, rfl, hpos, hA1, ?_⟩
        refine ⟨_, by simpa using hc1, ?_⟩
        refine (standing_spec hw5 (a := b) (b := z) (by omega) (by omega)).mono ?_
        rintro v w7 ⟨rfl, rfl⟩
        have next : IntKind.i64.wrap ((b : Int) + 1) = ((b + 1 : Nat) : Int) := fit ⟨by omega, by omega⟩
        refine brE_dec (fun hs => ?_) (fun hs => ?_)
        · have hf := hfb b
          refine ⟨b, go, 0, rfl, hlt2, rfl, ?_⟩
          refine ⟨.int .i64 (f b : Nat), by have := M5.rd 0 rfl b _ (natsN_get hlt2 f); simpa using this, ?_⟩
          refine ⟨((f b + 1 : Nat) : Int), fit ⟨by omega, by omega⟩, ?_⟩
          have hmx : (if ((f b + 1 : Nat) : Int) > ((levTo R f z b : Nat) : Int) then ((f b + 1 : Nat) : Int) else ((levTo R f z b : Nat) : Int)) = ((levTo R f z (b + 1) : Nat) : Int) := by
            rw [levTo, if_pos hs]
            split <;> omega
          refine ⟨_, maxQ' hmx rfl rfl rfl, ?_⟩
          refine ⟨_, next, ?_⟩
          exact ⟨b + 1, ⟨rfl, rfl, rfl, rfl, rfl, rfl, rfl, rfl, rfl, trivial⟩, ⟨hlt2, rfl⟩, by omega⟩
        · have hst : levTo R f z (b + 1) = levTo R f z b := by rw [levTo, if_neg hs]
          refine ⟨_, next, ?_⟩
          exact ⟨b + 1, ⟨rfl, rfl, rfl, by rw [hst]; rfl, rfl, rfl, rfl, rfl, rfl, trivial⟩, ⟨hlt2, rfl⟩, by omega⟩
      · have : b = n := by omega
        subst this
        have hlv0 : levTo R f z b ≤ 25 := by
          have := levTo_le (R := R) (z := z) (f := f) (c := 24) (fun k => by have := hfb k; omega) b
          omega
        generalize levTo R f z b = lv at *
        refine loopE C_ok (fun (k : Nat) => [(3, .pointer (some ⟨g, 0, none⟩)), (5, .slice (some ⟨go, 0, none⟩) b b), (8, .int .i64 lv), (25, .slice A4 L.length c4), (26, .int .i64 L.length), (27, .int .i64 i), (53, .slice A6 l.length c6), (54, .int .i64 l.length), (55, .int .i64 k)])
          (fun k w' => k ≤ l.length ∧ Lists w3.heap.size w' (.slice A4 L.length c4) L ∧ Web w' g b (toM xs) R ∧ w'.ownsRow w3.heap.size 3 1 (.slice A6 l.length c6) l.length (ints l) ∧ Mem w w' [(go, .cells (ints (natsN b (setTo l lv f k))).toArray 3 (0, 0))])
          (fun k => l.length - k) 0 ⟨rfl, rfl, rfl, rfl, rfl, rfl, rfl, rfl, rfl, trivial⟩ ⟨Nat.zero_le _, ⟨us5, ho5, hrows5⟩, hw5, hou, by rw [setTo_zero]; exact M5⟩ ?_
        rintro k w7 ⟨hk, hl7, hw7, ho7, M7⟩
        refine brE_dec (fun hlt3 => ?_) (fun hge3 => ?_)
        · have hlt3 : k < l.length := by omega
          obtain ⟨y, hy, hyn⟩ := hget k hlt3
          obtain ⟨A7, c7, e7, hr7, _⟩ := reads_of_owns ho7
          cases e7
          obtain ⟨b1, o1, hA1, hc1⟩ := Reads.int hr7 hlt3
          rw [hy] at hc1
          refine ⟨k, b1, o1, rfl, hlt3, hA1, ?_⟩
          refine ⟨_, by simpa using hc1, ?_⟩
          refine ⟨y, go, 0, rfl, hyn, rfl, ?_⟩
          refine ⟨rfl, _, _, M7.get 0 rfl, by rw [ints_length, natsN_length]; show 0 + y * 1 + 1 ≤ b; omega, rfl, ?_⟩
          intro w8 h8
          have e8 : splice (ints (natsN b (setTo l lv f k))) (0 + y * 1) [.int .i64 lv] = ints (natsN b (setTo l lv f (k + 1))) := by
            have := natsN_set hyn (setTo l lv f k) lv
            rw [setTo_succ hlt3 hy] at this
            simpa using this
          have h8 : Put w7 go (.cells (ints (natsN b (setTo l lv f (k + 1)))).toArray 3 (0, 0)) w8 := by rw [← e8]; exact h8
          refine ⟨((k + 1 : Nat) : Int), fit ⟨by omega, by omega⟩, ?_⟩
          exact ⟨k + 1, ⟨rfl, rfl, rfl, rfl, rfl, rfl, rfl, rfl, rfl, trivial⟩, ⟨hlt3, hl7.put h8 hgo, (h8.there g hgne).trans hw7, ownsRow_put ho7 h8 (fun e => by have := (ho7.lt go e).1; omega), M7.put 0 rfl h8⟩, by omega⟩
        · have : k = l.length := by omega
          subst this
          rw [setTo_all, ← hsn] at M7
          refine ⟨((i + 1 : Nat) : Int), fit ⟨by omega, by omega⟩, ?_⟩
          exact ⟨i + 1, ⟨rfl, rfl, rfl, rfl, rfl, trivial⟩, ⟨hlt, hl7, hw7, M7⟩, by omega⟩
    · have : i = L.length := by omega
      subst this
      rw [List.take_length] at M5
      refine ⟨?_, M5.ext⟩
      have := owns_block (e := 3) (base := w.heap.size) (size := 1) (n := n) (M5.get 0 rfl) (M5.new 0 rfl) (by rw [ints_length, natsN_length, Nat.mul_one]) (by simp only [maxLen]; omega)
      unfold NewInts
      rw [natsN_length]
      exact this
  · refine (open_no (h.ext M1.ext) hv).mono ?_
    rintro v w2 ⟨rfl, he⟩
    rw [levelsV, if_neg hv]
    exact ⟨World.ownsRow_nil _ _ _ _, (M1.grow he).ext⟩

end Go.Proofs.Ytdfhfehlmonjjaa
