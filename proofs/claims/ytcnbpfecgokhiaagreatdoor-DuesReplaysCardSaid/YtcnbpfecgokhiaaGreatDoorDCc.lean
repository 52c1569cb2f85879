/- a part of the proof: steps, walks and plain laws that the law below stands on; no condition. -/
import Derived.Test.YtcnbpfecgokhiaaGreatDoorDCb
import Derived.Test.YtcnbpfecgokhiaaGreatDoorDBb
import Derived.Test.YtcnbpfecgokhiaaGreatDoorDEd
import Derived.Ground.SlsfProg
set_option linter.unusedVariables false
set_option linter.unusedSimpArgs false
set_option linter.unnecessarySimpa false
set_option linter.unusedSectionVars false
namespace Go.Proofs.YtcnbpfecgokhiaaGreatDoor
open Go.Eng Go.RowKit

theorem ltStr (t : Nat) (a b : ByteArray) (w : World) : (binOp .lss t (.string a) (.string b)).run C.P w = .ok (.bool (Op.bytesLess a.data.toList b.data.toList)) w := by
  show (Op.stringOp .lss a b).run C.P w = _
  simp [Op.stringOp, ByteArray.toList_eq]
theorem gtStr (t : Nat) (a b : ByteArray) (w : World) : (binOp .gtr t (.string a) (.string b)).run C.P w = .ok (.bool (!(Op.bytesLess a.data.toList b.data.toList || decide (a = b)))) w := by
  show (pure (Value.bool !(Op.bytesLess a.toList b.toList || a.toList == b.toList)) : Sem Value).run C.P w = _
  rw [ba_beq, ByteArray.toList_eq, ByteArray.toList_eq, Sem.run_pure]

def cmpS (a b : ByteArray) : Int := if Op.bytesLess a.data.toList b.data.toList = true then -1 else if a = b then 0 else 1
def cmpI (a b : Int) : Int := if a < b then -1 else if a = b then 0 else 1

theorem isNaNI_spec (a : Int) (w : World) : CallsV C.P 174 #[.int .i64 a] w fun v w' => v = .bool false ∧ w' = w := by
  refine callsV_of C_ok (args := [_]) (plans := []) Tryz.func174 rfl Tryz.ntmps174 (by kernel_rfl) (Nat.le_of_ble_eq_true rfl) ?_
  exact ⟨by simp, rfl⟩
theorem CompareI_spec (a b : Int) (w : World) : CallsV C.P 143 #[.int .i64 a, .int .i64 b] w fun v w' => v = .int .i64 (cmpI a b) ∧ w' = w := by
  refine callsV_of C_ok (args := [_, _]) (plans := []) Tryz.func143 rfl Tryz.ntmps143 (by kernel_rfl) (Nat.le_of_ble_eq_true rfl) ?_
  refine (isNaNI_spec a w).mono ?_
  rintro v w1 ⟨rfl, rfl⟩
  refine (isNaNI_spec b w1).mono ?_
  rintro v w2 ⟨rfl, rfl⟩
  unfold cmpI
  refine brE_dec (fun h1 => ?_) (fun h1 => ?_)
  · have h1 : a < b := h1
    rw [if_pos h1]; exact ⟨rfl, rfl⟩
  have h1 : ¬ a < b := h1
  rw [if_neg h1]
  refine brE_dec (fun h2 => ?_) (fun h2 => ?_)
  · have h2 : a > b := h2
    rw [if_neg (by omega)]; exact ⟨rfl, rfl⟩
  · have h2 : ¬ a > b := h2
    rw [if_pos (by omega)]; exact ⟨rfl, rfl⟩

def orI : List Int → Int
  | [] => 0
  | x :: r => if x ≠ 0 then x else orI r
theorem orI_drop {xs : List Int} {i : Nat} (h : i < xs.length) : orI (xs.drop i) = if xs[i] ≠ 0 then xs[i] else orI (xs.drop (i + 1)) := by
  rw [List.drop_eq_getElem_cons h]; rfl
theorem Or_spec {w : World} {A : Option Addr} {xs : List Int} {c : Nat} (hr : Reads w A (ints xs)) (hl : xs.length ≤ 2 ^ 20) :
    CallsV C.P 142 #[.slice A xs.length c] w fun v w' => v = .int .i64 (orI xs) ∧ w' = w := by
  refine callsV_of C_ok (args := [_]) (plans := []) Tryz.func142 rfl Tryz.ntmps142 (by kernel_rfl) (Nat.le_of_ble_eq_true rfl) ?_
  refine loopE C_ok (fun (i : Nat) => [(3, .int .i64 0), (6, .slice A xs.length c), (7, .int .i64 xs.length), (8, .int .i64 i)])
    (fun i w' => w' = w ∧ i ≤ xs.length ∧ orI xs = orI (xs.drop i)) (fun i => xs.length - i) 0 ⟨rfl, rfl, rfl, rfl, trivial⟩ ⟨rfl, Nat.zero_le _, rfl⟩ ?_
  rintro i w1 ⟨rfl, hi, hor⟩
  refine brE_dec (fun hlt => ?_) (fun hge => ?_)
  · have hlt : i < xs.length := by have : (i : Int) < (xs.length : Nat) := hlt; omega
    obtain ⟨b, o, hA, hc⟩ := Reads.int hr hlt
    have hd := orI_drop hlt
    refine ⟨i, b, o, rfl, hlt, hA, ?_⟩
    refine ⟨_, by simpa using hc, ?_⟩
    refine brE_ndec (fun h2 => ?_) (fun h2 => ?_)
    · have h2 : ¬ xs[i] = 0 := h2
      rw [if_pos h2] at hd
      exact ⟨by rw [hor, hd], rfl⟩
    · have h2 : xs[i] = 0 := h2
      rw [if_neg (by simpa using h2)] at hd
      refine ⟨((i + 1 : Nat) : Int), fit ⟨by omega, by omega⟩, ?_⟩
      exact ⟨i + 1, ⟨rfl, rfl, rfl, rfl, trivial⟩, ⟨rfl, hlt, by rw [hor, hd]⟩, by omega⟩
  · have : i = xs.length := by have : ¬ (i : Int) < (xs.length : Nat) := hge; omega
    subst this
    rw [List.drop_length] at hor
    exact ⟨by rw [hor]; rfl, rfl⟩

structure NmEntry where
  state : Int
  has : Bool
  name : ByteArray
def NmEntry.cells (e : NmEntry) : List Value := [.int .i64 e.state, .bool e.has, .string e.name]
def entries (l : List NmEntry) : List Value := l.flatMap NmEntry.cells
theorem NmEntry.len (x : NmEntry) : x.cells.length = 3 := rfl
instance : Inhabited NmEntry := ⟨⟨0, false, ⟨#[]⟩⟩⟩
def cmpE (a b : NmEntry) : Int := if a.has ≠ b.has then (if a.has = true then -1 else 1) else orI [cmpS a.name b.name, cmpI a.state b.state]

theorem cmpS_cases (a b : ByteArray) : (cmpS a b = -1 ∧ Op.bytesLess a.data.toList b.data.toList = true) ∨ (cmpS a b = 0 ∧ a = b) ∨ (cmpS a b = 1 ∧ a ≠ b ∧ Op.bytesLess a.data.toList b.data.toList = false) := by
  unfold cmpS
  split
  · rename_i h; exact .inl ⟨rfl, h⟩
  · rename_i h
    split
    · rename_i e; exact .inr (.inl ⟨rfl, e⟩)
    · rename_i e; exact .inr (.inr ⟨rfl, e, by simpa using h⟩)
theorem cmpI_lt (a b : Int) : cmpI a b < 0 ↔ a < b := by
  unfold cmpI
  split
  · simp; assumption
  · split <;> simp <;> omega
theorem or_lt {x y : Int} : orI [x, y] < 0 ↔ x < 0 ∨ x = 0 ∧ y < 0 := by
  unfold orI
  by_cases h : x = 0
  · subst h
    simp only [ne_eq, not_true, if_false, Int.lt_irrefl, true_and, false_or]
    unfold orI
    by_cases h2 : y = 0
    · subst h2; simp [orI]
    · rw [if_pos h2]
  · rw [if_pos h]; omega
/-- Whom the comparison puts first. -/
theorem cmpE_lt (a b : NmEntry) : cmpE a b < 0 ↔ (a.has = true ∧ b.has = false) ∨ (a.has = b.has ∧ (Op.bytesLess a.name.data.toList b.name.data.toList = true ∨ a.name = b.name ∧ a.state < b.state)) := by
  unfold cmpE
  by_cases h : a.has = b.has
  · rw [if_neg (fun e => e h), or_lt, cmpI_lt]
    have hn : ¬ (a.has = true ∧ b.has = false) := fun e => by rw [e.1, e.2] at h; cases h
    simp only [hn, false_or, h, true_and]
    rcases cmpS_cases a.name b.name with ⟨h1, h2⟩ | ⟨h1, h2⟩ | ⟨h1, h2, h3⟩
    · rw [h1, h2]; simp
    · rw [h1, h2, bl_irrefl]; simp
    · rw [h1, h3]; simp [h2]
  · rw [if_pos h]
    cases ha : a.has <;> cases hb : b.has <;> simp [ha, hb] at h ⊢
theorem name_eq {a b : ByteArray} : a.data.toList = b.data.toList ↔ a = b := ⟨fun h => ByteArray.ext (Array.toList_inj.1 h), fun h => by rw [h]⟩
theorem bl_asymm {s t : List UInt8} (h1 : Op.bytesLess s t = true) (h2 : Op.bytesLess t s = true) : False := by
  have := bl_trans h1 h2
  rw [bl_irrefl] at this; cases this

def ltE (a b : NmEntry) : Bool := decide (cmpE a b < 0)
theorem ltE_iff (a b : NmEntry) : ltE a b = true ↔ (a.has = true ∧ b.has = false) ∨ (a.has = b.has ∧ (Op.bytesLess a.name.data.toList b.name.data.toList = true ∨ a.name = b.name ∧ a.state < b.state)) := by
  unfold ltE
  rw [decide_eq_true_eq, cmpE_lt]
theorem ltE_total (a b : NmEntry) : ltE a b = true ∨ (a.has = b.has ∧ a.name = b.name ∧ a.state = b.state) ∨ ltE b a = true := by
  rw [ltE_iff, ltE_iff]
  cases ha : a.has <;> cases hb : b.has <;> simp
  all_goals
    rcases bl_total a.name.data.toList b.name.data.toList with h | h | h
    · exact .inl (.inl h)
    · have e := name_eq.1 h
      rw [e, bl_irrefl]
      simp; omega
    · exact .inr (.inr (.inl h))
theorem ltE_trans {a b c : NmEntry} (h1 : ltE a b = true) (h2 : ltE b c = true) : ltE a c = true := by
  rw [ltE_iff] at *
  rcases h1 with ⟨p, q⟩ | ⟨e1, h1⟩
  · rcases h2 with ⟨p2, q2⟩ | ⟨e2, h2⟩
    · rw [q] at p2; cases p2
    · exact .inl ⟨p, by rw [← e2]; exact q⟩
  · rcases h2 with ⟨p2, q2⟩ | ⟨e2, h2⟩
    · exact .inl ⟨by rw [e1]; exact p2, q2⟩
    · refine .inr ⟨e1.trans e2, ?_⟩
      rcases h1 with h1 | ⟨n1, h1⟩
      · rcases h2 with h2 | ⟨n2, h2⟩
        · exact .inl (bl_trans h1 h2)
        · exact .inl (by rw [← n2]; exact h1)
      · rcases h2 with h2 | ⟨n2, h2⟩
        · exact .inl (by rw [n1]; exact h2)
        · exact .inr ⟨n1.trans n2, by omega⟩
theorem ltE_irrefl (a : NmEntry) : ltE a a = false := by
  cases h : ltE a a with
  | false => rfl
  | true =>
    rw [ltE_iff] at h
    rcases h with ⟨p, q⟩ | ⟨_, h | ⟨_, h⟩⟩
    · rw [p] at q; cases q
    · rw [bl_irrefl] at h; cases h
    · omega

/-- An entry tells whether its state has a name. -/
def NmEntry.Ok (e : NmEntry) : Prop := e.has = !decide (e.name = ⟨#[]⟩)
theorem nil_name {a : ByteArray} : a.data.toList = [] ↔ a = ⟨#[]⟩ := name_eq (b := ⟨#[]⟩)
theorem ltE_eq {a b : NmEntry} (ha : a.Ok) (hb : b.Ok) : ltE a b = aheadK a.name.data.toList a.state b.name.data.toList b.state := by
  rw [Bool.eq_iff_iff, ltE_iff, aheadK_iff]
  unfold NmEntry.Ok at ha hb
  rw [ha, hb, ← name_eq (a := a.name) (b := b.name)]
  by_cases hs : a.name.data.toList = [] <;> by_cases ht : b.name.data.toList = []
  · rw [decide_eq_true (nil_name.1 hs), decide_eq_true (nil_name.1 ht), hs, ht, bl_irrefl]
    simp
  · rw [decide_eq_true (nil_name.1 hs), decide_eq_false (fun e => ht (nil_name.2 e)), hs]
    simp [ht]
  · rw [decide_eq_false (fun e => hs (nil_name.2 e)), decide_eq_true (nil_name.1 ht), ht]
    simp [hs]
  · rw [decide_eq_false (fun e => hs (nil_name.2 e)), decide_eq_false (fun e => ht (nil_name.2 e))]
    simp only [hs, ht, ne_eq, not_false_eq_true, not_true, and_false, false_or, iff_self, true_and, Bool.not_false, Bool.true_eq_false]
    constructor
    · rintro (h | h)
      · exact .inr ⟨fun e => (by rw [e, bl_irrefl] at h; cases h), h⟩
      · exact .inl h
    · rintro (h | ⟨_, h⟩)
      · exact .inr h
      · exact .inl h

end Go.Proofs.YtcnbpfecgokhiaaGreatDoor

namespace Go.Proofs.YtcnbpfecgokhiaaGreatDoor
open Go.Eng Go.RowKit Go.Sort

theorem swo_entry : SWO (ltOf cmpE) where
  irrefl x := ltE_irrefl x
  trans x y z h1 h2 := ltE_trans h1 h2
  ntrans x y z h1 h2 := by
    have h1 : ltE x y = false := h1
    have h2 : ltE y z = false := h2
    show ltE x z = false
    cases h : ltE x z with
    | false => rfl
    | true =>
      rcases ltE_total x y with a | ⟨e1, e2, e3⟩ | a
      · rw [a] at h1; cases h1
      · have e : ltE x z = ltE y z := by
          rw [Bool.eq_iff_iff, ltE_iff, ltE_iff, e1, e2, e3]
        rw [e, h2] at h; cases h
      · have := ltE_trans a h
        rw [h2] at this; cases this

end Go.Proofs.YtcnbpfecgokhiaaGreatDoor

namespace Go.Proofs.YtcnbpfecgokhiaaGreatDoor
open Go.Eng Go.RowKit

def entryOf (K : List Fact) (lang s : Int) : NmEntry := ⟨s, !decide (nameL K s lang = ⟨#[]⟩), nameL K s lang⟩
theorem entryOf_ok (K : List Fact) (lang s : Int) : (entryOf K lang s).Ok := rfl
/-- The entries in the order of the alphabet. -/
theorem entries_order {K : List Fact} {lang : Int} {l' : List NmEntry} (hp : l'.Perm ((statesL K).map (entryOf K lang))) (hs : l'.Pairwise fun a b => ltE b a = false) : l'.map NmEntry.state = orderL K lang := by
  have hmem : ∀ e ∈ l', e = entryOf K lang e.state := fun e he => by
    obtain ⟨s, _, rfl⟩ := List.mem_map.1 (hp.mem_iff.1 he)
    rfl
  refine order_eq ?_ ?_
  · have := hp.map NmEntry.state
    rw [List.map_map] at this
    have e : (NmEntry.state ∘ entryOf K lang) = id := rfl
    rw [e, List.map_id] at this
    exact this
  · rw [List.pairwise_map]
    refine (List.pairwise_iff_getElem.2 fun i j hi hj hij => ?_)
    have h := (List.pairwise_iff_getElem.1 hs) i j hi hj hij
    have e1 := hmem _ (List.getElem_mem hi)
    have e2 := hmem _ (List.getElem_mem hj)
    rw [e1, e2, ltE_eq (entryOf_ok _ _ _) (entryOf_ok _ _ _)] at h
    exact h

theorem from_eq (lot : Int) {n : Nat} (hn : 0 < n) : (lot.tmod n + n).tmod n = ((lot.emod n).toNat : Int) ∧ -(n : Int) < lot.tmod n ∧ lot.tmod n < n := by
  have hn' : (0 : Int) < n := by omega
  have h1 : lot.tmod n < n := Int.tmod_lt_of_pos lot hn'
  have h2 : -(n : Int) < lot.tmod n := by
    have := Int.lt_tmod_of_pos lot hn'
    exact this
  have h3 := Int.mul_tdiv_add_tmod lot n
  have h4 : 0 ≤ lot.emod n := Int.emod_nonneg lot (by omega)
  refine ⟨?_, h2, h1⟩
  rw [Int.toNat_of_nonneg h4, Int.tmod_eq_emod_of_nonneg (by omega)]
  have h5 : lot % (n : Int) = lot.tmod n % n := by
    conv => lhs; rw [← h3]
    rw [Int.add_comm, Int.add_mul_emod_self_left]
  show (lot.tmod n + n) % (n : Int) = lot % n
  rw [h5, Int.add_emod_right]

theorem Reads.entry {w : World} {A : Option Addr} {l : List NmEntry} (h : Reads w A (entries l)) {i : Nat} (hi : i < l.length) : ∃ b o, A = some ⟨b, o, none⟩ ∧ Rd w b (o + i * 3) l[i].cells := Reads.elem NmEntry.len (by omega) h hi
theorem entries_append (a b : List NmEntry) : entries (a ++ b) = entries a ++ entries b := by simp [entries]
theorem entries_one (x : NmEntry) : entries [x] = x.cells := by simp [entries]

theorem IndexI_spec {w : World} {A : Option Addr} {xs : List Int} {c : Nat} (hr : Reads w A (ints xs)) (hl : xs.length ≤ 2 ^ 40) (n : Int) :
    CallsV C.P 188 #[.slice A xs.length c, .int .i64 n] w fun v w' => (v = .int .i64 (match xs.findIdx? (fun x => decide (x = n)) with | some i => (i : Int) | none => -1)) ∧ w' = w := by
  refine callsV_of C_ok (args := [_, _]) (plans := []) Tryz.func188 rfl Tryz.ntmps188 (by kernel_rfl) (Nat.le_of_ble_eq_true rfl) ?_
  refine loopE C_ok (fun (i : Nat) => [(0, .slice A xs.length c), (1, .int .i64 n), (7, .int .i64 xs.length), (8, .int .i64 i)])
    (fun i w' => w' = w ∧ i ≤ xs.length ∧ ∀ j (h : j < xs.length), j < i → xs[j] ≠ n) (fun i => xs.length - i) 0 ⟨rfl, rfl, rfl, rfl, trivial⟩ ⟨rfl, Nat.zero_le _, fun _ _ h => absurd h (Nat.not_lt_zero _)⟩ ?_
  rintro i w1 ⟨rfl, hi, hall⟩
  refine brE_dec (fun hlt => ?_) (fun hge => ?_)
  · have hlt : i < xs.length := by have : (i : Int) < (xs.length : Nat) := hlt; omega
    obtain ⟨b, o, hA, hc⟩ := Reads.int hr hlt
    refine ⟨i, b, o, rfl, hlt, hA, ?_⟩
    refine ⟨_, by simpa using hc, ?_⟩
    refine brE_dec (fun h2 => ?_) (fun h2 => ?_)
    · have h2 : n = xs[i] := h2
      have : xs.findIdx? (fun x => decide (x = n)) = some i := by
        rw [List.findIdx?_eq_some_iff_getElem]
        exact ⟨hlt, decide_eq_true h2.symm, fun j hj => by simpa using hall j (by omega) hj⟩
      exact ⟨by rw [this], rfl⟩
    · have h2 : ¬ n = xs[i] := h2
      refine ⟨((i + 1 : Nat) : Int), fit ⟨by omega, by omega⟩, ?_⟩
      refine ⟨i + 1, ⟨rfl, rfl, rfl, rfl, trivial⟩, ⟨rfl, hlt, fun j hj hji => ?_⟩, by omega⟩
      rcases Nat.lt_or_ge j i with h | h
      · exact hall j hj h
      · obtain rfl : j = i := by omega
        exact fun e => h2 e.symm
  · have : i = xs.length := by have : ¬ (i : Int) < (xs.length : Nat) := hge; omega
    subst this
    have : xs.findIdx? (fun x => decide (x = n)) = none := by
      rw [List.findIdx?_eq_none_iff]
      intro x hx
      obtain ⟨j, hj, rfl⟩ := List.getElem_of_mem hx
      exact decide_eq_false (hall j hj hj)
    exact ⟨by rw [this], rfl⟩
theorem ContainsI_spec {w : World} {A : Option Addr} {xs : List Int} {c : Nat} (hr : Reads w A (ints xs)) (hl : xs.length ≤ 2 ^ 40) (n : Int) :
    CallsV C.P 165 #[.slice A xs.length c, .int .i64 n] w fun v w' => v = .bool (decide (n ∈ xs)) ∧ w' = w := by
  refine callsV_of C_ok (args := [_, _]) (plans := []) Tryz.func165 rfl Tryz.ntmps165 (by kernel_rfl) (Nat.le_of_ble_eq_true rfl) ?_
  refine (IndexI_spec hr hl n).mono ?_
  rintro v w1 ⟨rfl, rfl⟩
  refine ⟨congrArg Value.bool ?_, rfl⟩
  cases hf : xs.findIdx? (fun x => decide (x = n)) with
  | some i =>
    obtain ⟨hi, he, _⟩ := List.findIdx?_eq_some_iff_getElem.1 hf
    have he := of_decide_eq_true he
    show decide ((i : Int) ≥ 0) = _
    rw [decide_eq_true (by omega), decide_eq_true (he ▸ List.getElem_mem hi)]
  | none =>
    rw [List.findIdx?_eq_none_iff] at hf
    show decide ((-1 : Int) ≥ 0) = _
    rw [decide_eq_false (by omega), decide_eq_false fun h => by have := hf n h; simp at this]

end Go.Proofs.YtcnbpfecgokhiaaGreatDoor
