/- Proved: for every list of facts, two days and question the law FactsMemory returns true, and its arguments read behind the call as they did before; what the library's variables hold is tied to the program's text. No further condition. -/
import Derived.Test.YthpdkdmbfdmamaaGreatDoorGDf
import Derived.Test.YthpdkdmbfdmamaaGreatDoorGDd
import Derived.Test.YthpdkdmbfdmamaaGreatDoorGDe
set_option linter.unusedVariables false
set_option linter.unusedSimpArgs false
set_option linter.unnecessarySimpa false
set_option linter.unusedSectionVars false
namespace Go.Proofs.YthpdkdmbfdmamaaGreatDoor
open Go.Eng Go.RowKit

/-- A row of one's own, whatever it holds. -/
def Room (B e size : Nat) (w : World) (v : Value) (n : Nat) : Prop := ∃ xs, w.ownsRow B e size v n xs
theorem Room.ext {B e size n : Nat} {w w' : World} {v : Value} (h : Room B e size w v n) (x : Ext w w') : Room B e size w' v n := by
  obtain ⟨xs, h⟩ := h; exact ⟨xs, ownsRow_ext h x⟩
theorem Room.slice {B e size n : Nat} {w : World} {v : Value} (h : Room B e size w v n) : (v = .slice none 0 0 ∧ n = 0) ∨ ∃ g cap, ∃ cs : List Value, v = .slice (some ⟨g, 0, none⟩) n cap ∧ B ≤ g ∧ w.heap[g]? = some (.cells cs.toArray e (0, 0)) ∧ n * size ≤ cs.length := by
  obtain ⟨xs, hl, h | ⟨g, cap, cur, h1, h2, h3, h4, h5, h6, h7⟩⟩ := h
  · exact .inl h
  · refine .inr ⟨g, cap, cur.toList, h1, h2, by simpa using h3, ?_⟩
    rw [Array.length_toList, h6]; exact Nat.mul_le_mul_right _ h4
theorem Room.put {B e size n g T : Nat} {w w' : World} {v : Value} {cs cs' : List Value} (h : Room B e size w v n) (hg : w.heap[g]? = some (.cells cs.toArray T (0, 0))) (hl : cs'.length = cs.length) (p : Put w g (.cells cs'.toArray T (0, 0)) w') : Room B e size w' v n := by
  obtain ⟨xs, hxs, h | ⟨g2, cap, cur, h1, h2, h3, h4, h5, h6, h7⟩⟩ := h
  · exact ⟨xs, hxs, .inl h⟩
  by_cases hgg : g2 = g
  · subst hgg
    rw [hg] at h3
    injection h3 with h3
    injection h3 with h3a h3b
    subst h3b h3a
    have hcl : cs.length = cap * size := by simpa using h6
    refine ⟨cs'.take (n * size), ?_, .inr ⟨g2, cap, cs'.toArray, h1, h2, p.here, h4, h5, by simpa [hl] using hcl, ?_⟩⟩
    · rw [List.length_take, hl, hcl, Nat.min_eq_left (Nat.mul_le_mul_right _ h4)]
    · rfl
  · exact ⟨xs, hxs, .inr ⟨g2, cap, cur, h1, h2, by rw [p.there _ hgg]; exact h3, h4, h5, h6, h7⟩⟩

/-- Rows of one's own, and the row of them. -/
def Rooms (B e size : Nat) (w : World) (rows : List (Value × Nat)) : Prop := ∀ p ∈ rows, Room B e size w p.1 p.2
theorem Rooms.ext {B e size : Nat} {w w' : World} {rows : List (Value × Nat)} (h : Rooms B e size w rows) (x : Ext w w') : Rooms B e size w' rows := fun p hp => (h p hp).ext x
theorem Rooms.put {B e size g T : Nat} {w w' : World} {rows : List (Value × Nat)} {cs cs' : List Value} (h : Rooms B e size w rows) (hg : w.heap[g]? = some (.cells cs.toArray T (0, 0))) (hl : cs'.length = cs.length) (p : Put w g (.cells cs'.toArray T (0, 0)) w') : Rooms B e size w' rows := fun q hq => (h q hq).put hg hl p
theorem room_of_newF {B B' : Nat} {w w' : World} {v : Value} {l : List Fact} (h : NewF B' w v l) (hb : B ≤ B') (e : Ext w w') : Room B 29 9 w' v l.length := ⟨_, (h.base hb).ext e⟩
theorem room_of_ints {B : Nat} {w : World} {v : Value} {l : List Int} (h : NewInts B w v l) : Room B 3 1 w v l.length := ⟨_, h⟩
theorem splice_length {cs : List Value} {k : Nat} {xs : List Value} (h : k + xs.length ≤ cs.length) : (splice cs k xs).length = cs.length := by
  unfold splice; simp; omega

set_option maxRecDepth 100000 in
set_option maxHeartbeats 2000000 in
theorem FactsMemory_spec {w : World} {A : Option Addr} {l : List Fact} {c : Nat} (h : HF w A l c) (T : Tabs w) (k day : Int) (q : Asked) (hq : In64 q.person) :
    CallsW C.P 19 #[.slice A l.length c, .int .i64 k, .int .i64 day, q.val] w fun v w' => v = .bool true ∧ Ext w w' := by
  refine callsV_of Cw_ok (args := [_, _, _, _]) (plans := plans19) Tryz.func19 rfl Tryz.ntmps19 (by kernel_rfl) (Nat.le_of_ble_eq_true rfl) ?_
  have hcap := h.cap
  intro g7 w1 h1
  have e1 := h1.ext
  refine brE_dec (fun ha => ?_) (fun ha => ?_)
  · refine (alive_spec w1 (T.ext e1)).mono ?_
    rintro v w2 ⟨rfl, e2⟩
    exact ⟨rfl, e1.trans e2⟩
  have ha : ¬ (l.length : Int) > 30 := ha
  have hl : l.length ≤ 2 ^ 20 := by omega
  intro g w2 h2
  have ho2 : w2.ownsRow w1.heap.size 29 9 (.slice (some ⟨g, 0, none⟩) 0 0) 0 [] := owns_block (cs := []) h2.here (by rw [h2.new]; exact Nat.le_refl _) rfl (Nat.zero_le _)
  have hrl := h.reads.ext (e1.trans h2.ext)
  refine ⟨rfl, rfl, rfl, w1.heap.size, 0, [], fcells l, ho2, h2.ext.size, Nat.le_of_ble_eq_true rfl, rfl, fcells_length l, hrl, someF hrl, oneF l, by omega, by simp only [maxLen]; omega, ?_⟩
  intro v3 w3 ho3 hg3 _
  have e13 := app_ext h2.ext ho2 hg3
  rw [Nat.zero_add, List.nil_append] at ho3
  obtain ⟨A3, c3, rfl, hr3, _⟩ := NewF.slice ho3
  have rQ3 : Rd w3 g7 0 q.cells := (Rd.of_block h1.here).ext e13
  have e03 := e1.trans e13
  refine ⟨q.cells, rfl, rQ3, ?_⟩
  refine (ask_spec (h.ext e03) hl k day q hq).weak.mono ?_
  rintro v w4 ⟨ha4, e4⟩
  obtain ⟨s1, s2, s3, s4, s5, rfl, n1, n2, n3, n4, n5⟩ := ha4
  obtain ⟨A1, c1, rfl, _, _⟩ := NewInts.slice n1
  obtain ⟨A2, c2, rfl, _, _⟩ := NewInts.slice n2
  obtain ⟨B3, d3, rfl, _, _⟩ := NewInts.slice n3
  obtain ⟨A4, c4, rfl, _, _⟩ := NewInts.slice n4
  obtain ⟨A5, c5, rfl, _, _⟩ := NewInts.slice n5
  intro g10 w5 h5
  refine ⟨rfl, _, _, h5.here, Nat.le_of_ble_eq_true rfl, rfl, ?_⟩
  intro wS h6
  have h6 := put_eq h6 (o' := .cells ((askL (atL k day l) q).cells (.slice A1 (askL (atL k day l) q).states.length c1) (.slice A2 (askL (atL k day l) q).alphabet.length c2) (.slice B3 (askL (atL k day l) q).holders.length d3) (.slice A4 (askL (atL k day l) q).acting.length c4) (.slice A5 (askL (atL k day l) q).contested.length c5)).toArray 69 (0, 0)) rfl
  have e4S : Ext w4 wS := h6.ext_of h5.ext (by rw [h5.new]; exact Nat.le_refl _)
  have rV : Rd wS g10 0 ((askL (atL k day l) q).cells (.slice A1 (askL (atL k day l) q).states.length c1) (.slice A2 (askL (atL k day l) q).alphabet.length c2) (.slice B3 (askL (atL k day l) q).holders.length d3) (.slice A4 (askL (atL k day l) q).acting.length c4) (.slice A5 (askL (atL k day l) q).contested.length c5)) := Rd.of_block h6.here
  have hsS : AnsIs w3.heap.size wS (.agg ((askL (atL k day l) q).cells (.slice A1 (askL (atL k day l) q).states.length c1) (.slice A2 (askL (atL k day l) q).alphabet.length c2) (.slice B3 (askL (atL k day l) q).holders.length d3) (.slice A4 (askL (atL k day l) q).acting.length c4) (.slice A5 (askL (atL k day l) q).contested.length c5)).toArray) (askL (atL k day l) q) :=
    ⟨_, _, _, _, _, rfl, n1.ext e4S, n2.ext e4S, n3.ext e4S, n4.ext e4S, n5.ext e4S⟩
  have hV1 : ((askL (atL k day l) q).cells (.slice A1 (askL (atL k day l) q).states.length c1) (.slice A2 (askL (atL k day l) q).alphabet.length c2) (.slice B3 (askL (atL k day l) q).holders.length d3) (.slice A4 (askL (atL k day l) q).acting.length c4) (.slice A5 (askL (atL k day l) q).contested.length c5)).length = 21 := rfl
  clear h6 n1 n2 n3 n4 n5
  generalize (askL (atL k day l) q).cells (.slice A1 (askL (atL k day l) q).states.length c1) (.slice A2 (askL (atL k day l) q).alphabet.length c2) (.slice B3 (askL (atL k day l) q).holders.length d3) (.slice A4 (askL (atL k day l) q).acting.length c4) (.slice A5 (askL (atL k day l) q).contested.length c5) = V at *
  have e3S := e4.trans e4S
  have e0S := e03.trans e3S
  have rQ : Rd wS g7 0 q.cells := rQ3.ext e3S
  have hwas : Reads wS A3 (fcells l) := hr3.ext e3S
  have hS := h.ext e0S
  clear h5 h2 h1 ho2 hg3 ho3 hrl hr3 rQ3 e4S e4 e13 e1 e3S
  refine (Known_spec hS hl k).weak.mono ?_
  rintro v wA ⟨oA, eA⟩
  refine (Counting_spec (hS.ext eA) hl k).weak.mono ?_
  rintro v wB ⟨oB, eB⟩
  refine (At_spec (hS.ext (eA.trans eB)) hl k day).weak.mono ?_
  rintro v wC ⟨oC, eC⟩
  have lA := knownL_length k l
  have lB := countL_length k l
  have lC := atL_length k day l
  obtain ⟨p1, m1, rfl, _, _⟩ := oA.slice
  obtain ⟨p2, m2, rfl, _, _⟩ := oB.slice
  obtain ⟨p3, m3, rfl, _, _⟩ := oC.slice
  intro gX wD hD
  have eSC := (eA.trans eB).trans eC
  have eSD := eSC.trans hD.ext
  have rm : Rooms wS.heap.size 29 9 wD [(.slice p1 (knownL k l).length m1, (knownL k l).length), (.slice p2 (countL k l).length m2, (countL k l).length), (.slice p3 (atL k day l).length m3, (atL k day l).length)] := fun p hp => by
    simp only [List.mem_cons, List.not_mem_nil, or_false] at hp
    rcases hp with rfl | rfl | rfl
    · exact room_of_newF oA (Nat.le_refl _) ((eB.trans eC).trans hD.ext)
    · exact room_of_newF oB eA.size (eC.trans hD.ext)
    · exact room_of_newF oC (eA.trans eB).size hD.ext
  have hX : wD.heap[gX]? = some (.cells (([(.slice p1 (knownL k l).length m1, (knownL k l).length), (.slice p2 (countL k l).length m2, (countL k l).length), (.slice p3 (atL k day l).length m3, (atL k day l).length)] : List (Value × Nat)).map Prod.fst).toArray 22 (0, 0)) := hD.here
  have hbnd : ∀ p ∈ ([(.slice p1 (knownL k l).length m1, (knownL k l).length), (.slice p2 (countL k l).length m2, (countL k l).length), (.slice p3 (atL k day l).length m3, (atL k day l).length)] : List (Value × Nat)), p.2 ≤ 2 ^ 20 := fun p hp => by
    simp only [List.mem_cons, List.not_mem_nil, or_false] at hp
    rcases hp with rfl | rfl | rfl
    · show (knownL k l).length ≤ _; omega
    · show (countL k l).length ≤ _; omega
    · show (atL k day l).length ≤ _; omega
  have h3l : ([(.slice p1 (knownL k l).length m1, (knownL k l).length), (.slice p2 (countL k l).length m2, (countL k l).length), (.slice p3 (atL k day l).length m3, (atL k day l).length)] : List (Value × Nat)).length = 3 := rfl
  clear oA oB oC hD
  generalize ([(.slice p1 (knownL k l).length m1, (knownL k l).length), (.slice p2 (countL k l).length m2, (countL k l).length), (.slice p3 (atL k day l).length m3, (atL k day l).length)] : List (Value × Nat)) = rows at *
  refine loopE Cw_ok (fun (i : Nat) => [(0, .slice A l.length c), (1, .int .i64 k), (2, .int .i64 day), (7, .pointer (some ⟨g7, 0, none⟩)), (9, .slice A3 l.length c3), (10, .pointer (some ⟨g10, 0, none⟩)), (40, .slice (some ⟨gX, 0, none⟩) 3 3), (41, .int .i64 3), (42, .int .i64 i)])
    (fun i w' => i ≤ 3 ∧ Ext wS w' ∧ Rooms wS.heap.size 29 9 w' rows ∧ w'.heap[gX]? = some (.cells (rows.map Prod.fst).toArray 22 (0, 0))) (fun i => 3 - i) 0
    ⟨rfl, rfl, rfl, rfl, rfl, rfl, rfl, rfl, rfl, trivial⟩ ⟨Nat.zero_le _, eSD, rm, hX⟩ ?_
  rintro i w6 ⟨hi, e6, rm6, hX6⟩
  refine brE_dec (fun hlt2 => ?_) (fun hge => ?_)
  · have hlt : i < 3 := by have : (i : Int) < 3 := hlt2; omega
    have hir : i < rows.length := by omega
    refine ⟨i, gX, 0, rfl, hlt, rfl, ?_⟩
    have hmem := List.getElem_mem hir
    have hcell : w6.cell? ⟨gX, 0 + i * 1, none⟩ = some rows[i].1 := cell_of_block hX6 (by simp [hir])
    refine ⟨rows[i].1, hcell, ?_⟩
    have hb := hbnd _ hmem
    have hroom := rm6 _ hmem
    generalize rows[i] = p at *
    obtain ⟨v, n⟩ := p
    have hb : n ≤ 2 ^ 20 := hb
    obtain ⟨A', c', rfl⟩ : ∃ A' c', v = .slice A' n c' := by
      rcases Room.slice hroom with ⟨h1, h2⟩ | ⟨g', cap, cs, h1, _⟩
      · exact ⟨none, 0, by have h1 : v = .slice none 0 0 := h1; have h2 : n = 0 := h2; rw [h1, h2]⟩
      · exact ⟨_, _, h1⟩
    refine loopE Cw_ok (fun (j : Nat) => [(0, .slice A l.length c), (1, .int .i64 k), (2, .int .i64 day), (7, .pointer (some ⟨g7, 0, none⟩)), (9, .slice A3 l.length c3), (10, .pointer (some ⟨g10, 0, none⟩)), (40, .slice (some ⟨gX, 0, none⟩) 3 3), (41, .int .i64 3), (42, .int .i64 i), (12, .slice A' n c'), (47, .int .i64 n), (48, .int .i64 j)])
      (fun j w' => j ≤ n ∧ Ext wS w' ∧ Rooms wS.heap.size 29 9 w' rows ∧ w'.heap[gX]? = some (.cells (rows.map Prod.fst).toArray 22 (0, 0))) (fun j => n - j) 0
      ⟨rfl, rfl, rfl, rfl, rfl, rfl, rfl, rfl, rfl, rfl, rfl, rfl, trivial⟩ ⟨Nat.zero_le _, e6, rm6, hX6⟩ ?_
    rintro j w7 ⟨hj, e7, rm7, hX7⟩
    refine brE_dec (fun hjl2 => ?_) (fun hjl => ?_)
    · have hjl : j < n := by have : (j : Int) < (n : Nat) := hjl2; omega
      rcases Room.slice (rm7 _ hmem) with ⟨h1, h2⟩ | ⟨g', cap, cs, h1, h2, h3, h4⟩
      · have h2 : n = 0 := h2
        omega
      have h1 : Value.slice A' n c' = .slice (some ⟨g', 0, none⟩) n cap := h1
      have h4 : n * 9 ≤ cs.length := h4
      injection h1 with h1a h1b h1c
      refine ⟨j, g', 0, rfl, hjl, h1a, ?_⟩
      refine ⟨rfl, cs, _, h3, by show 0 + j * 9 + 9 ≤ cs.length; omega, rfl, ?_⟩
      intro w8 h8
      refine ⟨((j + 1 : Nat) : Int), fit ⟨by omega, by omega⟩, ?_⟩
      refine ⟨j + 1, ⟨rfl, rfl, rfl, rfl, rfl, rfl, rfl, rfl, rfl, rfl, rfl, rfl, trivial⟩, ⟨hjl, Put.ext_of h8 e7 h2, rm7.put h3 (splice_length (by show 0 + j * 9 + 9 ≤ cs.length; omega)) h8, ?_⟩, by omega⟩
      rw [h8.there gX (fun e => by subst e; rw [hX7] at h3; injection h3 with h3; injection h3 with h3a h3b; cases h3b)]
      exact hX7
    · refine ⟨((i + 1 : Nat) : Int), fit ⟨by omega, by omega⟩, ?_⟩
      exact ⟨i + 1, ⟨rfl, rfl, rfl, rfl, rfl, rfl, rfl, rfl, rfl, trivial⟩, ⟨hlt, e7, rm7, hX7⟩, by omega⟩
  clear hge
  clear rm hX rm6 hX6
  have rQ6 := rQ.ext e6
  refine ⟨q.cells, rfl, rQ6, ?_⟩
  refine (ask_spec (hS.ext e6) hl k day q hq).weak.mono ?_
  rintro v w9 ⟨ha9, e9⟩
  obtain ⟨s1, s2, s3, s4, s5, rfl, n1, n2, n3, n4, n5⟩ := ha9
  obtain ⟨A1, c1, rfl, _, _⟩ := NewInts.slice n1
  obtain ⟨A2, c2, rfl, _, _⟩ := NewInts.slice n2
  obtain ⟨B3, d3, rfl, _, _⟩ := NewInts.slice n3
  obtain ⟨A4, c4, rfl, _, _⟩ := NewInts.slice n4
  obtain ⟨A5, c5, rfl, _, _⟩ := NewInts.slice n5
  intro g14 w10 h10
  refine ⟨rfl, _, _, h10.here, Nat.le_of_ble_eq_true rfl, rfl, ?_⟩
  intro w11 h11
  have h11 := put_eq h11 (o' := .cells ((askL (atL k day l) q).cells (.slice A1 (askL (atL k day l) q).states.length c1) (.slice A2 (askL (atL k day l) q).alphabet.length c2) (.slice B3 (askL (atL k day l) q).holders.length d3) (.slice A4 (askL (atL k day l) q).acting.length c4) (.slice A5 (askL (atL k day l) q).contested.length c5)).toArray 69 (0, 0)) rfl
  have h11' := h11
  have e9' : Ext w9 w11 := h11.ext_of h10.ext (by rw [h10.new]; exact Nat.le_refl _)
  have e11 := e6.trans (e9.trans e9')
  have b6 := e6.size
  have M := h11.here
  refine ⟨_, cell_of_block (i := 0) M rfl, ?_⟩
  refine ⟨_, cell_of_block (i := 1) M rfl, ?_⟩
  refine ⟨_, cell_of_block (i := 2) M rfl, ?_⟩
  refine ⟨_, cell_of_block (i := 3) M rfl, ?_⟩
  refine ⟨_, cell_of_block (i := 4) M rfl, ?_⟩
  refine (Turns_spec (hS.ext e11) hl k).weak.mono ?_
  rintro v w12 ⟨n6, e12⟩
  refine ⟨e12, ?_⟩
  obtain ⟨A6, c6, rfl, _, _⟩ := NewInts.slice n6
  refine (Learned_spec (hS.ext (e11.trans e12)) hl day).weak.mono ?_
  rintro v w13 ⟨n7, e13⟩
  refine ⟨e13, ?_⟩
  obtain ⟨A7, c7, rfl, _, _⟩ := NewInts.slice n7
  intro gY wE hE
  have eSE := ((e11.trans e12).trans e13).trans hE.ext
  have e9E := ((e12).trans e13).trans hE.ext
  have rm : Rooms wS.heap.size 3 1 wE [(.slice A1 (askL (atL k day l) q).states.length c1, (askL (atL k day l) q).states.length), (.slice A2 (askL (atL k day l) q).alphabet.length c2, (askL (atL k day l) q).alphabet.length), (.slice B3 (askL (atL k day l) q).holders.length d3, (askL (atL k day l) q).holders.length), (.slice A4 (askL (atL k day l) q).acting.length c4, (askL (atL k day l) q).acting.length), (.slice A5 (askL (atL k day l) q).contested.length c5, (askL (atL k day l) q).contested.length), (.slice A6 (turnsL k l).length c6, (turnsL k l).length), (.slice A7 (learnedL day l).length c7, (learnedL day l).length)] := fun p hp => by
    simp only [List.mem_cons, List.not_mem_nil, or_false] at hp
    rcases hp with rfl | rfl | rfl | rfl | rfl | rfl | rfl
    · exact (room_of_ints ((keepInts (h10.ext) h10.here h11' n1).base b6)).ext e9E
    · exact (room_of_ints ((keepInts (h10.ext) h10.here h11' n2).base b6)).ext e9E
    · exact (room_of_ints ((keepInts (h10.ext) h10.here h11' n3).base b6)).ext e9E
    · exact (room_of_ints ((keepInts (h10.ext) h10.here h11' n4).base b6)).ext e9E
    · exact (room_of_ints ((keepInts (h10.ext) h10.here h11' n5).base b6)).ext e9E
    · exact (room_of_ints (n6.base e11.size)).ext (e13.trans hE.ext)
    · exact (room_of_ints (n7.base (e11.trans e12).size)).ext hE.ext
  have hX : wE.heap[gY]? = some (.cells (([(.slice A1 (askL (atL k day l) q).states.length c1, (askL (atL k day l) q).states.length), (.slice A2 (askL (atL k day l) q).alphabet.length c2, (askL (atL k day l) q).alphabet.length), (.slice B3 (askL (atL k day l) q).holders.length d3, (askL (atL k day l) q).holders.length), (.slice A4 (askL (atL k day l) q).acting.length c4, (askL (atL k day l) q).acting.length), (.slice A5 (askL (atL k day l) q).contested.length c5, (askL (atL k day l) q).contested.length), (.slice A6 (turnsL k l).length c6, (turnsL k l).length), (.slice A7 (learnedL day l).length c7, (learnedL day l).length)] : List (Value × Nat)).map Prod.fst).toArray 46 (0, 0)) := hE.here
  have hbnd : ∀ p ∈ ([(.slice A1 (askL (atL k day l) q).states.length c1, (askL (atL k day l) q).states.length), (.slice A2 (askL (atL k day l) q).alphabet.length c2, (askL (atL k day l) q).alphabet.length), (.slice B3 (askL (atL k day l) q).holders.length d3, (askL (atL k day l) q).holders.length), (.slice A4 (askL (atL k day l) q).acting.length c4, (askL (atL k day l) q).acting.length), (.slice A5 (askL (atL k day l) q).contested.length c5, (askL (atL k day l) q).contested.length), (.slice A6 (turnsL k l).length c6, (turnsL k l).length), (.slice A7 (learnedL day l).length c7, (learnedL day l).length)] : List (Value × Nat)), p.2 ≤ maxLen := fun p hp => by
    have hh := rm p hp
    obtain ⟨xs, _, ⟨_, h1⟩ | ⟨_, cap, _, h1, _, _, h2, h3, _⟩⟩ := hh
    · omega
    · omega
  have h3l : ([(.slice A1 (askL (atL k day l) q).states.length c1, (askL (atL k day l) q).states.length), (.slice A2 (askL (atL k day l) q).alphabet.length c2, (askL (atL k day l) q).alphabet.length), (.slice B3 (askL (atL k day l) q).holders.length d3, (askL (atL k day l) q).holders.length), (.slice A4 (askL (atL k day l) q).acting.length c4, (askL (atL k day l) q).acting.length), (.slice A5 (askL (atL k day l) q).contested.length c5, (askL (atL k day l) q).contested.length), (.slice A6 (turnsL k l).length c6, (turnsL k l).length), (.slice A7 (learnedL day l).length c7, (learnedL day l).length)] : List (Value × Nat)).length = 7 := rfl
  clear hE n1 n2 n3 n4 n5 n6 n7 h11 h11' h10 M
  generalize ([(.slice A1 (askL (atL k day l) q).states.length c1, (askL (atL k day l) q).states.length), (.slice A2 (askL (atL k day l) q).alphabet.length c2, (askL (atL k day l) q).alphabet.length), (.slice B3 (askL (atL k day l) q).holders.length d3, (askL (atL k day l) q).holders.length), (.slice A4 (askL (atL k day l) q).acting.length c4, (askL (atL k day l) q).acting.length), (.slice A5 (askL (atL k day l) q).contested.length c5, (askL (atL k day l) q).contested.length), (.slice A6 (turnsL k l).length c6, (turnsL k l).length), (.slice A7 (learnedL day l).length c7, (learnedL day l).length)] : List (Value × Nat)) = rowz at *
  refine loopE Cw_ok (fun (i : Nat) => [(0, .slice A l.length c), (1, .int .i64 k), (2, .int .i64 day), (7, .pointer (some ⟨g7, 0, none⟩)), (9, .slice A3 l.length c3), (10, .pointer (some ⟨g10, 0, none⟩)), (78, .slice (some ⟨gY, 0, none⟩) 7 7), (79, .int .i64 7), (80, .int .i64 i)])
    (fun i w' => i ≤ 7 ∧ Ext wS w' ∧ Rooms wS.heap.size 3 1 w' rowz ∧ w'.heap[gY]? = some (.cells (rowz.map Prod.fst).toArray 46 (0, 0))) (fun i => 7 - i) 0
    ⟨rfl, rfl, rfl, rfl, rfl, rfl, rfl, rfl, rfl, trivial⟩ ⟨Nat.zero_le _, eSE, rm, hX⟩ ?_
  rintro i w6 ⟨hi, e6, rm6, hX6⟩
  refine brE_dec (fun hlt2 => ?_) (fun hge => ?_)
  · have hlt : i < 7 := by have : (i : Int) < 7 := hlt2; omega
    have hir : i < rowz.length := by omega
    refine ⟨i, gY, 0, rfl, hlt, rfl, ?_⟩
    have hmem := List.getElem_mem hir
    have hcell : w6.cell? ⟨gY, 0 + i * 1, none⟩ = some rowz[i].1 := cell_of_block hX6 (by simp [hir])
    refine ⟨rowz[i].1, hcell, ?_⟩
    have hb := hbnd _ hmem
    have hroom := rm6 _ hmem
    generalize rowz[i] = p at *
    obtain ⟨v, n⟩ := p
    have hb : n ≤ maxLen := hb
    simp only [maxLen] at hb
    obtain ⟨A', c', rfl⟩ : ∃ A' c', v = .slice A' n c' := by
      rcases Room.slice hroom with ⟨h1, h2⟩ | ⟨g', cap, cs, h1, _⟩
      · exact ⟨none, 0, by have h1 : v = .slice none 0 0 := h1; have h2 : n = 0 := h2; rw [h1, h2]⟩
      · exact ⟨_, _, h1⟩
    refine loopE Cw_ok (fun (j : Nat) => [(0, .slice A l.length c), (1, .int .i64 k), (2, .int .i64 day), (7, .pointer (some ⟨g7, 0, none⟩)), (9, .slice A3 l.length c3), (10, .pointer (some ⟨g10, 0, none⟩)), (78, .slice (some ⟨gY, 0, none⟩) 7 7), (79, .int .i64 7), (80, .int .i64 i), (16, .slice A' n c'), (85, .int .i64 n), (86, .int .i64 j)])
      (fun j w' => j ≤ n ∧ Ext wS w' ∧ Rooms wS.heap.size 3 1 w' rowz ∧ w'.heap[gY]? = some (.cells (rowz.map Prod.fst).toArray 46 (0, 0))) (fun j => n - j) 0
      ⟨rfl, rfl, rfl, rfl, rfl, rfl, rfl, rfl, rfl, rfl, rfl, rfl, trivial⟩ ⟨Nat.zero_le _, e6, rm6, hX6⟩ ?_
    rintro j w7 ⟨hj, e7, rm7, hX7⟩
    refine brE_dec (fun hjl2 => ?_) (fun hjl => ?_)
    · have hjl : j < n := by have : (j : Int) < (n : Nat) := hjl2; omega
      rcases Room.slice (rm7 _ hmem) with ⟨h1, h2⟩ | ⟨g', cap, cs, h1, h2, h3, h4⟩
      · have h2 : n = 0 := h2
        omega
      have h1 : Value.slice A' n c' = .slice (some ⟨g', 0, none⟩) n cap := h1
      have h4 : n * 1 ≤ cs.length := h4
      injection h1 with h1a h1b h1c
      refine ⟨j, g', 0, rfl, hjl, h1a, ?_⟩
      refine ⟨rfl, cs, _, h3, by show 0 + j * 1 + 1 ≤ cs.length; omega, rfl, ?_⟩
      intro w8 h8
      refine ⟨((j + 1 : Nat) : Int), fit ⟨by omega, by omega⟩, ?_⟩
      refine ⟨j + 1, ⟨rfl, rfl, rfl, rfl, rfl, rfl, rfl, rfl, rfl, rfl, rfl, rfl, trivial⟩, ⟨hjl, Put.ext_of h8 e7 h2, rm7.put h3 (splice_length (by show 0 + j * 1 + 1 ≤ cs.length; omega)) h8, ?_⟩, by omega⟩
      rw [h8.there gY (fun e => by subst e; rw [hX7] at h3; injection h3 with h3; injection h3 with h3a h3b; cases h3b)]
      exact hX7
    · refine ⟨((i + 1 : Nat) : Int), fit ⟨by omega, by omega⟩, ?_⟩
      exact ⟨i + 1, ⟨rfl, rfl, rfl, rfl, rfl, rfl, rfl, rfl, rfl, trivial⟩, ⟨hlt, e7, rm7, hX7⟩, by omega⟩
  refine (alive_spec w6 (T.ext (e0S.trans e6))).mono ?_
  rintro _ w12 ⟨rfl, e12⟩
  have e12 := e6.trans e12
  have s := SameFacts_spec (c := c) (d := c3) (hS.reads.ext e12) (hwas.ext e12) (by omega)
  rw [decide_eq_true rfl] at s
  refine s.weak.mono ?_
  rintro _ w13 ⟨rfl, rfl⟩
  refine ⟨V, hV1, rV.ext e12, ?_⟩
  refine ⟨q.cells, rfl, rQ.ext e12, ?_⟩
  refine (ask_spec (hS.ext e12) hl k day q hq).weak.mono ?_
  rintro v w14 ⟨ha14, e14⟩
  refine ⟨e14, ?_⟩
  refine (same_spec (hsS.ext (e12.trans e14)) ha14).weak.mono ?_
  rintro _ w15 ⟨rfl, e15⟩
  exact ⟨rfl, e0S.trans (e12.trans (e14.trans e15))⟩

end Go.Proofs.YthpdkdmbfdmamaaGreatDoor

namespace Go.Proofs.YthpdkdmbfdmamaaGreatDoor
open Go.Eng Go.RowKit Go.ChangeShapes Go.WideShapes Go.ChangeAt
open Go.ChangeMaps (open_string shut_string)

set_option maxRecDepth 100000 in
theorem factsMemory_lifted (os : Os) (started : os.Started) (H : Type) (enc : TypeId × Value → H) :
    ReturnsInHanded {} Tryz.checked os 19 .any (fun w args => (Rows.factsMemorySpec.pre enc Tryz.prog Tryz.f19 Rows.factsMemoryRow.domain false w args ∧ laidMet Tryz.prog laidL w) ∧ sizedMet enc Tryz.prog Tryz.f19 (OpenSpec.ofChange Rows.factsMemorySpec) false w args)
      (Rows.factsMemorySpec.post enc Tryz.prog Tryz.f19 false true false false) := by
  refine returnsInHanded_of_change_and (C := Tryz.checked) (X := fun w _ => laidMet Tryz.prog laidL w) (fun _ _ _ hh h => h.of_heap hh) own started (by kernel_rfl) Tryz.func19
    (ChangeSpec.witness_at (enc := enc) (C := Tryz.checked) (os := os) (X := fun w _ => laidMet Tryz.prog laidL w) false (laidWorld os) #[.slice none 0 0, .int .i64 0, .int .i64 0, .agg #[.int .i64 0, .int .i64 0, .int .i64 0, .int .i64 0, .int .i64 0, .int .i64 0]] 8 rfl (by kernel_rfl) (by kernel_rfl) (by kernel_rfl) (by kernel_rfl) (by kernel_rfl) (laidWorld_met os _)) ?_
  intro W base args ds gs before hval0 hW _ hsz0 hL _
  have T := tabs_of_laid hL
  have hval : ∀ (j : Nat) t v, Tryz.f19.params[j]? = some t → args[j]? = some v → Value.okWide Tryz.prog W .any base t v := hval0
  have hW' := hW
  obtain ⟨p, q, hA0, hV, rfl, hfz, hnd⟩ := hW
  have hA : DataW.TrodAll enc Tryz.prog W 0 (fun _ => true) true [22, 3, 3, 66] args.toList ds p := hA0
  obtain ⟨v0, v1, v2, v3, d0, d1, d2, d3, p0, p1, p2, p3, rfl, rfl, rfl, h0, h1, h2, h3⟩ := trodAll_four hA
  obtain ⟨rfl, rfl⟩ := trodVars_none hV
  obtain ⟨A0, l0, c0, rfl, hf0⟩ := open_facts (hval 0 22 v0 rfl rfl) h0
  obtain ⟨i1, rfl, _, _, wf1⟩ := open_int under3 (hval 1 3 v1 rfl rfl) h1
  obtain ⟨i2, rfl, _, _, wf2⟩ := open_int under3 (hval 2 3 v2 rfl rfl) h2
  obtain ⟨q3, rfl, hq3⟩ := open_asked (hval 3 66 v3 rfl rfl) h3
  refine (FactsMemory_spec hf0 T i1 i2 q3 hq3.1 W (Same.refl W)).mono ?_
  rintro e W' ⟨⟨v, w'', rfl, ⟨rfl, he⟩, hs⟩, _⟩
  have he' : Ext W W' := he.same_right hs
  refine ⟨_, rfl, ?_⟩
  refine ⟨[d0, d1, d2, d3], [], (p0 ++ p1 ++ p2 ++ p3) ++ [], [], p0 ++ (p1 ++ (p2 ++ (p3))), [], hW', ?_, ?_, rfl, Below.frame he' _, fun h => by cases h⟩
  · exact trodAll_mk1 (shut_bool under4 true)
  · exact trodAll_mk4 (Below.trod laidOut recFs rowFs h0 he' fun x hx => hW'.lt x (by simp [hx])) (Below.trod laidOut rec3 row3 h1 he' fun x hx => hW'.lt x (by simp [hx])) (Below.trod laidOut rec3 row3 h2 he' fun x hx => hW'.lt x (by simp [hx])) (Below.trod laidOut recQ rowQ h3 he' fun x hx => hW'.lt x (by simp [hx]))

set_option maxHeartbeats 4000000 in
theorem factsMemory_closed : joinedFacts Tryz.pinned.checked.prog 19 Tryz.f19 Rows.factsMemorySpec Rows.factsMemoryRow = true := by
  unfold joinedFacts
  iterate 31 refine Bool.and_eq_true_iff.2 ⟨?_, ?_⟩
  · as_aux_lemma => kernel_rfl
  · exact kLaid
  · exact kMaps
  · as_aux_lemma => kernel_rfl
  · as_aux_lemma => kernel_rfl
  · as_aux_lemma => kernel_rfl
  · exact kStops
  · as_aux_lemma => kernel_rfl
  · exact kKnobs
  · as_aux_lemma => kernel_rfl
  · as_aux_lemma => kernel_rfl
  · as_aux_lemma => kernel_rfl
  · as_aux_lemma => kernel_rfl
  · as_aux_lemma => kernel_rfl
  · as_aux_lemma => kernel_rfl
  · as_aux_lemma => kernel_rfl
  · as_aux_lemma => kernel_rfl
  · as_aux_lemma => kernel_rfl
  · as_aux_lemma => kernel_rfl
  · as_aux_lemma => kernel_rfl
  · as_aux_lemma => kernel_rfl
  · as_aux_lemma => kernel_rfl
  · exact beq_iff_eq.2 kPlain.symm
  · as_aux_lemma => kernel_rfl
  · exact kHeard
  · exact kEnter
  · exact beq_iff_eq.2 kLifts.symm
  · as_aux_lemma => kernel_rfl
  · as_aux_lemma => kernel_rfl
  · as_aux_lemma => kernel_rfl
  · as_aux_lemma => kernel_rfl
  · as_aux_lemma => kernel_rfl

theorem factsMemory_named : Tryz.pinned.checked.prog.funcNamed Rows.factsMemoryRow.func = some 19 := by kernel_rfl
theorem factsMemory_func : Tryz.pinned.checked.prog.funcs[19]? = some Tryz.f19 := Tryz.func19
theorem factsMemory_inst : Tryz.f19.isInstance Tryz.pinned.checked.prog Rows.factsMemoryRow.origin Rows.factsMemoryRow.targs := of_decide_eq_true (by kernel_rfl)
theorem factsMemory_wrap : Tryz.f19.isWrapper Tryz.pinned.checked.prog Rows.factsMemoryRow.wrapper Rows.factsMemoryRow.mainSum := by
  unfold Func.isWrapper; first | (rw [if_pos (by decide +kernel)]; kernel_rfl) | (rw [if_neg (by decide +kernel)]; exact ⟨rfl, rfl⟩)
theorem factsMemory_text : Rows.factsMemoryRow.wfByText (OpenSpec.ofChange Rows.factsMemorySpec) = true := by kernel_rfl
theorem factsMemory_main : Tryz.pinned.checked.prog.mainIs = some (Rows.factsMemoryCard.stood.harness.1, Rows.factsMemoryCard.stood.harness.2.toList) := by kernel_rfl
theorem factsMemory_looks : true = Tryz.pinned.checked.prog.looks [] := by kernel_rfl
theorem factsMemory_goes : false = Rows.factsMemoryRow.goesBy Tryz.pinned.checked.prog := by kernel_rfl
theorem factsMemory_stand : (Tryz.f19.params.toList.all fun t => !Tryz.pinned.checked.prog.wantsStandIn t) = true := by kernel_rfl

theorem factsMemory_holds : Rows.FactsMemorySaid :=
  OpenClaim.holds_of_wide 19 Tryz.f19 rfl rfl rfl rfl rfl rfl rfl ⟨rfl, rfl, rfl, rfl, rfl⟩ rfl rfl rfl rfl rfl factsMemory_named factsMemory_func factsMemory_closed factsMemory_inst factsMemory_wrap
    (fun os started H enc _ => factsMemory_lifted os started H enc)

theorem factsMemory : Rows.FactsMemoryCardSaid :=
  Claim7.holds_tied_plain_at .later [] [.data, .data, .data, .sentinel, .sentinel] true Rows.factsMemoryCard.stood.harness true
    factsMemory_holds (fun _ h => by cases h) factsMemory_text (fun _ h => by cases h) factsMemory_row_tie rfl ⟨rfl, rfl⟩ factsMemory_main rfl
    (fun f fn hf hfn => by
      obtain rfl : f = 19 := Option.some.inj (factsMemory_named.symm.trans hf) |>.symm
      obtain rfl : fn = Tryz.f19 := (Option.some.inj (factsMemory_func.symm.trans hfn)).symm
      refine ⟨factsMemory_looks, fun j t ht => ?_⟩
      have hm : t ∈ Tryz.f19.params.toList := by
        have := Array.mem_of_getElem? ht
        simpa using this
      exact Bool.not_eq_true' _ |>.mp (List.all_eq_true.1 factsMemory_stand t hm))
    factsMemory_goes

#print axioms factsMemory
end Go.Proofs.YthpdkdmbfdmamaaGreatDoor
