/- Facts: alike (two lists with the same facts, up to order, Ids and the days from which they are known): the program. -/
import Derived.Test.YthpdkdmbfdmamaaGreatDoorGAb
import Derived.Test.YthpdkdmbfdmamaaGreatDoorGBd
import Derived.Test.YthpdkdmbfdmamaaGreatDoorGBc
import Derived.Test.YthpdkdmbfdmamaaGreatDoorGEe
set_option linter.unusedVariables false
set_option linter.unusedSimpArgs false
set_option linter.unnecessarySimpa false
set_option linter.unusedSectionVars false
namespace Go.Proofs.YthpdkdmbfdmamaaGreatDoor
open Go.Eng Go.RowKit

def bools (us : List Bool) : List Value := us.map (.bool ·)
theorem bools_length (us : List Bool) : (bools us).length = us.length := by simp [bools]
theorem bools_one (us : List Bool) : (bools us).all (·.oneCell') = true := by
  rw [List.all_eq_true]
  intro v hv
  obtain ⟨b, _, rfl⟩ := List.mem_map.1 hv
  rfl
theorem bools_get {us : List Bool} {j : Nat} (hj : j < us.length) : (bools us)[j]? = some (.bool us[j]) := by
  rw [bools, List.getElem?_map, List.getElem?_eq_getElem hj]; rfl
theorem bools_set {us : List Bool} {j : Nat} (hj : j < us.length) (b : Bool) : splice (bools us) j [.bool b] = bools (us.set j b) := by
  unfold splice bools
  rw [List.map_set, List.set_eq_take_append_cons_drop, if_pos (by simpa using hj)]
  simp

def withIds (x y : Fact) : Fact := { x with id := y.id, known := y.known }
theorem withIds_key (x y : Fact) : (withIds x y).key = x.key := rfl
theorem withIds_eq (x y : Fact) : withIds x y = y ↔ y.key = x.key := by
  unfold withIds Fact.key
  cases x; cases y
  simp only [Fact.mk.injEq, true_and]
  constructor <;> (rintro ⟨h1, h2, h3, h4, h5, h6, h7⟩; exact ⟨h1.symm, h2.symm, h3.symm, h4.symm, h5.symm, h6.symm, h7.symm⟩)

/-- How far one fact has been looked for. -/
structure Looked (b : List Fact) (us : List Bool) (k : Fact) (j : Nat) (found : Bool) (us' : List Bool) : Prop where
  no : found = false → us' = us ∧ ∀ q (hq : q < b.length), q < j → ¬ (us[q]? = some false ∧ b[q].key = k)
  yes : found = true → ∃ q, ∃ hq : q < b.length, us[q]? = some false ∧ b[q].key = k ∧ us' = us.set q true
theorem Looked.length {b : List Fact} {us us' : List Bool} {k : Fact} {j : Nat} {found : Bool} (h : Looked b us k j found us') : us'.length = us.length := by
  cases found with
  | false => rw [(h.no rfl).1]
  | true => obtain ⟨q, _, _, _, e⟩ := h.yes rfl; rw [e, List.length_set]

set_option maxRecDepth 100000 in
set_option maxHeartbeats 2000000 in
theorem alike_spec {w : World} {A B : Option Addr} {a b : List Fact} {c d : Nat} (ha : Reads w A (fcells a)) (hb : Reads w B (fcells b)) (la : a.length ≤ 2 ^ 20) (hp : (a.map Fact.key).Perm (b.map Fact.key)) :
    CallsV C.P 44 #[.slice A a.length c, .slice B b.length d] w fun v w' => v = .bool true ∧ Ext w w' := by
  have hlen : a.length = b.length := by have := hp.length_eq; simpa using this
  refine callsV_of C_ok (args := [_, _]) (plans := plans44) Tryz.func44 rfl Tryz.ntmps44 (by kernel_rfl) (Nat.le_of_ble_eq_true rfl) ?_
  refine brE_ndec (fun h0 => ?_) (fun _ => ?_)
  · exact absurd (by rw [hlen]) h0
  refine ⟨b.length, b.length, rfl, rfl, Nat.le_refl _, by omega, by omega, rfl, rfl, rfl, rfl, ?_⟩
  intro g5 w1 h1
  have M1 : Mem w w1 [(g5, .cells (bools (List.replicate b.length false)).toArray 4 (0, 0))] := by
    have := (Mem.start w).alloc h1
    have e : bools (List.replicate b.length false) = List.replicate b.length (Value.bool false) := by simp [bools]
    rw [e]; exact this
  clear h1
  refine loopE C_ok (fun (s : Nat × List Bool) => [(0, .slice A a.length c), (1, .slice B b.length d), (5, .slice (some ⟨g5, 0, none⟩) b.length b.length), (19, .slice A a.length c), (20, .int .i64 a.length), (21, .int .i64 s.1)])
    (fun s w' => s.1 ≤ a.length ∧ Mem w w' [(g5, .cells (bools s.2).toArray 4 (0, 0))] ∧ s.2.length = b.length ∧ ((a.drop s.1).map Fact.key).Perm ((leftL b s.2).map Fact.key)) (fun s => a.length - s.1) (0, List.replicate b.length false)
    ⟨rfl, rfl, rfl, rfl, rfl, rfl, trivial⟩ ⟨Nat.zero_le _, M1, by simp, by show (a.map Fact.key).Perm ((leftL b (List.replicate b.length false)).map Fact.key); rw [leftL_none]; exact hp⟩ ?_
  rintro ⟨i, us⟩ w2 ⟨hi', M2', hul', hpi'⟩
  have hi : i ≤ a.length := hi'
  have M2 : Mem w w2 [(g5, .cells (bools us).toArray 4 (0, 0))] := M2'
  have hul : us.length = b.length := hul'
  have hpi : ((a.drop i).map Fact.key).Perm ((leftL b us).map Fact.key) := hpi'
  clear hi' M2' hul' hpi' M1
  refine brE_dec (fun hlt2 => ?_) (fun hge => ?_)
  · have hlt : i < a.length := by have : (i : Int) < (a.length : Nat) := hlt2; omega
    clear hlt2
    obtain ⟨ba, oa, hA, hca⟩ := Reads.fact (ha.ext M2.ext) hlt
    refine ⟨i, ba, oa, rfl, hlt, hA, ?_⟩
    refine ⟨a[i].cells, rfl, hca, ?_⟩
    intro g7 w3 h3
    have M3 := M2.alloc h3
    refine ⟨rfl, _, _, M3.get 0 rfl, Nat.le_of_ble_eq_true rfl, rfl, ?_⟩
    intro w4 h4
    have M4 : Mem w w4 [(g7, .cells a[i].cells.toArray 29 (0, 0)), (g5, .cells (bools us).toArray 4 (0, 0))] := M3.put 0 rfl h4
    clear M3 h3 h4
    refine loopE C_ok (fun (s : Nat × Bool × Fact × List Bool) => [(0, .slice A a.length c), (1, .slice B b.length d), (5, .slice (some ⟨g5, 0, none⟩) b.length b.length), (7, .pointer (some ⟨g7, 0, none⟩)), (8, .bool s.2.1), (19, .slice A a.length c), (20, .int .i64 a.length), (21, .int .i64 i), (25, .slice B b.length d), (26, .int .i64 b.length), (27, .int .i64 s.1)])
      (fun s w' => s.1 ≤ b.length ∧ Mem w w' [(g7, .cells s.2.2.1.cells.toArray 29 (0, 0)), (g5, .cells (bools s.2.2.2).toArray 4 (0, 0))] ∧ s.2.2.1.key = a[i].key ∧ Looked b us a[i].key s.1 s.2.1 s.2.2.2) (fun s => b.length - s.1) (0, false, a[i], us)
      ⟨rfl, rfl, rfl, rfl, rfl, rfl, rfl, rfl, rfl, rfl, rfl, trivial⟩ ⟨Nat.zero_le _, M4, rfl, ⟨fun _ => ⟨rfl, fun q _ h => absurd h (Nat.not_lt_zero _)⟩, (fun h => by cases h)⟩⟩ ?_
    rintro ⟨j, fd, x, vs⟩ w5 ⟨hj', M5', hx', hL'⟩
    have hj : j ≤ b.length := hj'
    have M5 : Mem w w5 [(g7, .cells x.cells.toArray 29 (0, 0)), (g5, .cells (bools vs).toArray 4 (0, 0))] := M5'
    have hx : x.key = a[i].key := hx'
    have hL : Looked b us a[i].key j fd vs := hL'
    clear hj' M5' hx' hL'
    have hvl := hL.length
    refine brE_dec (fun hjl2 => ?_) (fun hge => ?_)
    · have hjl : j < b.length := by have : (j : Int) < (b.length : Nat) := hjl2; omega
      clear hjl2
      have hjv : j < vs.length := by omega
      have next : IntKind.i64.wrap ((j : Int) + 1) = ((j + 1 : Nat) : Int) := fit ⟨by omega, by omega⟩
      obtain ⟨bb, ob, hB, hcb⟩ := Reads.fact (hb.ext M5.ext) hjl
      refine ⟨j, bb, ob, rfl, hjl, hB, ?_⟩
      refine ⟨b[j].cells, rfl, hcb, ?_⟩
      intro g10 w6 h6
      have M6 := M5.alloc h6
      refine ⟨rfl, _, _, M6.get 0 rfl, Nat.le_of_ble_eq_true rfl, rfl, ?_⟩
      intro w7 h7
      have M7 : Mem w w7 [(g10, .cells b[j].cells.toArray 29 (0, 0)), (g7, .cells x.cells.toArray 29 (0, 0)), (g5, .cells (bools vs).toArray 4 (0, 0))] := M6.put 0 rfl h7
      have hne : g7 ≠ g10 := fun e => by
        have := M7.nodup
        simp [e] at this
      clear M6 h6 h7
      refine ⟨fun q => q = g10, ?_⟩
      refine ⟨_, M7.cell 0 rfl rfl, ?_⟩
      refine ⟨.int .i64 b[j].known, fun u hu => ⟨_, hu.cell rfl (M7.cell 0 (i := 1) rfl rfl), rfl⟩, ?_⟩
      refine ⟨rfl, _, _, M7.get 1 rfl, Nat.le_of_ble_eq_true rfl, rfl, ?_⟩
      intro w8 h8
      have M8 := M7.put 1 rfl h8
      refine ⟨(Keep.refl _ w7).put h8 hne, ?_⟩
      refine ⟨rfl, _, _, M8.get 1 rfl, Nat.le_of_ble_eq_true rfl, rfl, ?_⟩
      intro w9 h9
      have M9 : Mem w w9 [(g10, .cells b[j].cells.toArray 29 (0, 0)), (g7, .cells (withIds x b[j]).cells.toArray 29 (0, 0)), (g5, .cells (bools vs).toArray 4 (0, 0))] := M8.put 1 rfl h9
      clear M8 h8 h9
      have hxk : (withIds x b[j]).key = a[i].key := hx
      have hwe : withIds x b[j] = b[j] ↔ b[j].key = a[i].key := by rw [withIds_eq, hx]
      have N9 : Mem w w9 [(g7, .cells (withIds x b[j]).cells.toArray 29 (0, 0)), (g5, .cells (bools vs).toArray 4 (0, 0))] := M9.tail
      have skip : ∀ {fd' : Bool} {vs' : List Bool}, (¬ (fd = false ∧ us[j]? = some false ∧ b[j].key = a[i].key)) → Looked b us a[i].key (j + 1) fd vs := fun hn => ⟨fun hf => ⟨(hL.no hf).1, fun q hq hqj hh => by
        rcases Nat.lt_or_ge q j with h | h
        · exact (hL.no hf).2 q hq h hh
        · obtain rfl : q = j := by omega
          exact hn ⟨hf, hh⟩⟩, hL.yes⟩
      refine ⟨j, g5, 0, rfl, hjl, rfl, ?_⟩
      refine ⟨.bool vs[j], by have := M9.cell 2 (i := j) (v := .bool vs[j]) rfl (by simpa using bools_get hjv); simpa using this, ?_⟩
      have done : ∀ (hn : ¬ (fd = false ∧ us[j]? = some false ∧ b[j].key = a[i].key)), ∃ s' : Nat × Bool × Fact × List Bool, s' = (j + 1, fd, withIds x b[j], vs) ∧ (s'.1 ≤ b.length ∧ Mem w w9 [(g7, .cells s'.2.2.1.cells.toArray 29 (0, 0)), (g5, .cells (bools s'.2.2.2).toArray 4 (0, 0))] ∧ s'.2.2.1.key = a[i].key ∧ Looked b us a[i].key s'.1 s'.2.1 s'.2.2.2) ∧ b.length - s'.1 < b.length - j :=
        fun hn => ⟨_, rfl, ⟨hjl, N9, hxk, skip (fd' := fd) (vs' := vs) hn⟩, by show b.length - (j + 1) < b.length - j; omega⟩
      refine brE_mk (fun u1 => ?_) (fun u1 => ?_)
      · have u1 : vs[j] = false := by simpa using u1
        cases fd with
        | true =>
          refine ⟨_, next, ?_⟩
          obtain ⟨s', e, h1, h2⟩ := done (fun h => by cases h.1)
          subst e
          exact ⟨(j + 1, true, withIds x b[j], vs), ⟨rfl, rfl, rfl, rfl, rfl, rfl, rfl, rfl, rfl, rfl, rfl, trivial⟩, h1, h2⟩
        | false =>
          obtain ⟨hvu, hnone⟩ := hL.no rfl
          subst hvu
          refine ⟨(withIds x b[j]).cells, rfl, M9.rd 1 rfl, ?_⟩
          refine ⟨b[j].cells, rfl, M9.rd 0 rfl, ?_⟩
          refine ⟨_, eqF _ _ (withIds x b[j]) b[j], ?_⟩
          refine brE_dec (fun u2 => ?_) (fun u2 => ?_)
          · have u2 : b[j].key = a[i].key := hwe.1 u2
            have hus : vs[j]? = some false := by rw [List.getElem?_eq_getElem hjv, u1]
            refine ⟨j, g5, 0, rfl, hjl, rfl, ?_⟩
            refine ⟨rfl, _, _, M9.get 2 rfl, by rw [bools_length]; show 0 + j * 1 + 1 ≤ vs.length; omega, rfl, ?_⟩
            intro w10 h10
            have N10 : Mem w w10 [(g7, .cells (withIds x b[j]).cells.toArray 29 (0, 0)), (g5, .cells (bools (vs.set j true)).toArray 4 (0, 0))] := by
              have := N9.put 1 rfl (put_eq h10 (o' := .cells (bools (vs.set j true)).toArray 4 (0, 0)) (by
                rw [← bools_set hjv]
                show Obj.cells (splice (bools vs) (0 + j * 1) [.bool true]).toArray _ _ = _
                rw [Nat.zero_add, Nat.mul_one]))
              exact this
            refine ⟨_, next, ?_⟩
            exact ⟨(j + 1, true, withIds x b[j], vs.set j true), ⟨rfl, rfl, rfl, rfl, rfl, rfl, rfl, rfl, rfl, rfl, rfl, trivial⟩, ⟨hjl, N10, hxk, ⟨(fun h => by cases h), fun _ => ⟨j, hjl, hus, u2, rfl⟩⟩⟩, by show b.length - (j + 1) < b.length - j; omega⟩
          · have u2 : ¬ b[j].key = a[i].key := fun e => u2 (hwe.2 e)
            refine ⟨_, next, ?_⟩
            obtain ⟨s', e, h1, h2⟩ := done (fun h => u2 h.2.2)
            subst e
            exact ⟨(j + 1, false, withIds x b[j], vs), ⟨rfl, rfl, rfl, rfl, rfl, rfl, rfl, rfl, rfl, rfl, rfl, trivial⟩, h1, h2⟩
      · have u1 : vs[j] = true := by simpa using u1
        refine ⟨_, next, ?_⟩
        obtain ⟨s', e, h1, h2⟩ := done (fun h => by
          obtain ⟨hvu, _⟩ := hL.no h.1
          have h2 := h.2.1
          rw [← hvu, List.getElem?_eq_getElem hjv, u1] at h2
          cases h2)
        subst e
        exact ⟨(j + 1, fd, withIds x b[j], vs), ⟨rfl, rfl, rfl, rfl, rfl, rfl, rfl, rfl, rfl, rfl, rfl, trivial⟩, h1, h2⟩
    · have : j = b.length := by have : ¬ (j : Int) < (b.length : Nat) := hge; omega
      subst this
      clear hge hj
      obtain ⟨q, hq, q1, q2⟩ := left_some hlt hpi
      cases fd with
      | false => exact absurd ⟨q1, q2⟩ ((hL.no rfl).2 q hq hq)
      | true =>
        obtain ⟨q', hq', r1, r2, r3⟩ := hL.yes rfl
        subst r3
        have next : IntKind.i64.wrap ((i : Int) + 1) = ((i + 1 : Nat) : Int) := fit ⟨by omega, by omega⟩
        refine ⟨_, next, ?_⟩
        exact ⟨(i + 1, us.set q' true), ⟨rfl, rfl, rfl, rfl, rfl, rfl, trivial⟩, ⟨hlt, M5.tail, by simpa using hul, left_next hlt hq' r1 r2 hpi⟩, by show a.length - (i + 1) < a.length - i; omega⟩
  · exact ⟨rfl, M2.ext⟩

end Go.Proofs.YthpdkdmbfdmamaaGreatDoor
