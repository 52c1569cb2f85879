/- The kit's sort of a row of one's own, turned. -/
import Derived.Test.YtcnbpfecgokhiaaGreatDoorDEc
import Derived.Shelf.SlSortCmp.NoneTotal
set_option linter.unusedVariables false
set_option linter.unusedSimpArgs false
set_option linter.unnecessarySimpa false
set_option linter.unusedSectionVars false
namespace Go.Eng
open Go.RowKit Go.Sort Go.Proofs

section
variable {α : Type} [Inhabited α]

theorem flatK_eq {enc : α → List Value} {k : Nat} (hk : ∀ x, (enc x).length = k) (d : Array α) : (flatK enc k d).toList = d.toList.flatMap enc := by
  apply List.ext_getElem?
  intro t
  by_cases ht : t < d.size * k
  · have k0 : 0 < k := by rcases Nat.eq_zero_or_pos k with h | h
                          · subst h; simp at ht
                          · exact h
    have hq : t / k < d.size := Nat.div_lt_of_lt_mul (by rwa [Nat.mul_comm] at ht)
    have hr : t % k < k := Nat.mod_lt _ k0
    have e : t / k * k + t % k = t := by rw [Nat.mul_comm]; exact Nat.div_add_mod t k
    have h1 := flat_get hk d.toList (t / k) (t % k) (by simpa using hq) hr
    rw [e] at h1
    rw [h1]
    have h2 := get_flatK enc k d t ht
    have hs : t < (flatK enc k d).size := by rw [size_flatK]; exact ht
    rw [getElem!_pos (flatK enc k d) t hs, getElem!_pos d (t / k) hq] at h2
    have hl : t % k < (enc d[t / k]).length := by rw [hk]; exact hr
    rw [getElem!_pos (enc d[t / k]) (t % k) hl] at h2
    have e1 : (flatK enc k d).toList[t]? = some ((enc d[t / k])[t % k]) := by
      rw [List.getElem?_eq_getElem (by simpa using hs), Array.getElem_toList, h2]
    have e2 : d.toList[t / k]'(by simpa using hq) = d[t / k] := Array.getElem_toList _
    rw [e1, e2, List.getElem?_eq_getElem hl]
  · rw [List.getElem?_eq_none (by simp; omega), List.getElem?_eq_none (by rw [flat_length hk]; simp; omega)]

/-- A row of one's own, as the sort wants it; what the sort leaves is one, too. -/
theorem sort_row {enc : α → List Value} {k : Nat} (hk : ∀ x, (enc x).length = k) {w : World} {base e cap g : Nat} {l : List α}
    (h : w.ownsRow base e k (.slice (some ⟨g, 0, none⟩) l.length cap) l.length (l.flatMap enc)) :
    HoldsK enc k w g 0 l.toArray ∧ g < w.heap.size ∧ base ≤ g ∧ ∀ (d' : Array α) (m : Nat) (os : Array Obj), d'.size = l.length →
      (sortWorldK enc k w g 0 m d' os).ownsRow base e k (.slice (some ⟨g, 0, none⟩) l.length cap) l.length (d'.toList.flatMap enc) ∧ w.grownBy (sortWorldK enc k w g 0 m d' os) (some g) ∧ Only e w (sortWorldK enc k w g 0 m d' os) := by
  have hlt := (h.lt g rfl)
  obtain ⟨cur, hg, hgB, hcl, hcc, hnc, hxl, htake, _⟩ := ownsRow_open h
  have hm : cap ≤ maxLen := by
    obtain ⟨_, ⟨hv, _⟩ | ⟨g', cap', cur', hv, _, _, _, h4, _⟩⟩ := h
    · cases hv
    · cases hv; exact h4
  have hold : ∀ (d' : Array α) (m : Nat) (os : Array Obj), (sortWorldK enc k w g 0 m d' os).heap = (w.heap.modify g (onCells (putCells id 0 (flatK enc k d')))) ++ os := fun d' m os => rfl
  have hblk : ∀ (d' : Array α) (m : Nat) (os : Array Obj), (sortWorldK enc k w g 0 m d' os).heap[g]? = some (.cells (putCells id 0 (flatK enc k d') cur.toArray) e (0, 0)) := fun d' m os => by
    rw [hold, Array.getElem?_append_left (by simpa using hlt.2), Array.getElem?_modify, if_pos rfl, hg]
    rfl
  have hoth : ∀ (d' : Array α) (m : Nat) (os : Array Obj) (q : Nat), q < w.heap.size → q ≠ g → (sortWorldK enc k w g 0 m d' os).heap[q]? = w.heap[q]? := fun d' m os q hq hne => by
    rw [hold, Array.getElem?_append_left (by simpa using hq), Array.getElem?_modify, if_neg (fun e => hne e.symm)]
  refine ⟨fun j hj => ?_, hlt.2, hgB, fun d' m os hs => ⟨⟨?_, .inr ⟨g, cap, _, rfl, hgB, hblk d' m os, hnc, hm, ?_, ?_⟩⟩, ⟨rfl, rfl, rfl, ?_, fun q hq hne => hoth d' m os q hq (fun e => hne (by rw [e]))⟩, fun q c t fr hq hne => ?_⟩⟩
  · rw [size_flatK] at hj
    have hj' : j < l.length * k := by simpa using hj
    have hc : cur[j]? = some ((flatK enc k l.toArray)[j]!) := by
      have h1 : (l.flatMap enc)[j]? = some ((flatK enc k l.toArray)[j]!) := by
        rw [← show (flatK enc k l.toArray).toList = l.flatMap enc by rw [flatK_eq hk]]
        have hs : j < (flatK enc k l.toArray).size := by rw [size_flatK]; exact hj
        rw [getElem!_pos _ j hs]
        simp
      rw [← h1, ← htake, List.getElem?_take, if_pos (by omega)]
    rw [Nat.zero_add]
    refine ⟨?_, ?_⟩
    · rw [cell_of_block hg (v := (flatK enc k l.toArray)[j]!) (by simpa using hc)]
      rfl
    · simp [World.frozen?, hg]
  · rw [flat_length hk]; simp [hs]
  · simp [putCells, hcc]
  · rw [← flatK_eq hk d']
    apply List.ext_getElem?
    intro t
    rw [List.getElem?_take]
    by_cases ht : t < l.length * k
    · rw [if_pos ht]
      have hsz : t < (flatK enc k d').size := by rw [size_flatK, hs]; exact ht
      have htc : t < cur.length := by omega
      simp only [putCells, Array.getElem?_toList, Array.getElem?_mapIdx, List.getElem?_toArray, List.getElem?_eq_getElem htc, Option.map_some, Nat.zero_le, true_and, Nat.zero_add, Nat.sub_zero, id]
      rw [if_pos hsz, getElem!_pos _ t hsz]
      simp
    · rw [if_neg ht, List.getElem?_eq_none]
      rw [Array.length_toList, size_flatK, hs]; omega
  · rw [hold]; simp
  · by_cases e' : q = g
    · subst e'
      have := hq.symm.trans hg
      simp at this
      exact absurd this.2.1 hne
    · rw [hoth d' m os q (lt_of_heap hq) e']; exact hq

/-- What a comparison owes the sort: its own contract. -/
theorem cmpLays_of {P : Program} {g : Nat} {cb : Array Value} {enc : α → List Value} {k : Nat} {cf : α → α → Int} {blk off size : Nat} {w : World}
    (h : ∀ (x y : α) (W : World), CallsV P g (#[.agg (enc x).toArray, .agg (enc y).toArray] ++ cb) W fun v w' => v = .int .i64 (cf x y) ∧ Ext W w') : CmpLays P g cb enc k cf blk off size w := by
  intro m os dk hs x y
  generalize sortWorldK enc k w blk off m dk os = W
  refine (h x y W W (Same.refl W)).mono ?_
  rintro e w' ⟨⟨v, w'', rfl, ⟨rfl, he⟩, hsame⟩, hd⟩
  have he' : Ext W w' := he.same_right hsame
  refine ⟨rfl, w'.drawn - W.drawn, w'.heap.extract W.heap.size w'.heap.size, ?_⟩
  obtain ⟨hp, tp, dr, os', op⟩ := w'
  have h1 : tp = W.tape := he'.tape
  have h2 : os' = W.os := he'.os
  have h3 : op = W.output := he'.output
  have h4 : dr = W.drawn + (dr - W.drawn) := by have : W.drawn ≤ dr := hd rfl; omega
  have h5 : hp = W.heap ++ hp.extract W.heap.size hp.size := by
    apply Array.ext_getElem?
    intro q
    have hsz : W.heap.size ≤ hp.size := he'.size
    by_cases hq : q < W.heap.size
    · rw [Array.getElem?_append_left hq]
      exact he'.block q hq
    · rw [Array.getElem?_append_right (by omega), Array.getElem?_extract]
      by_cases h2 : q < hp.size
      · rw [if_pos (by omega)]
        congr 1; omega
      · rw [if_neg (by omega), Array.getElem?_eq_none (by omega)]
  subst h1 h2 h3
  unfold grow World.drewN
  simp only
  rw [← h4, ← h5]

/-- **A sort of a row of one's own**, out of the kit's contract. -/
theorem sortV {P : Program} {f g : Nat} {cb : Array Value} {enc : α → List Value} {k : Nat} (hk : ∀ x, (enc x).length = k) {lt : α → α → Bool}
    (hsort : ∀ (W : World) (blk cap : Nat) (d : Array α), d.size < 4611686018427387904 → HoldsK enc k W blk 0 d → blk < W.heap.size → Calls P f #[.slice (some ⟨blk, 0, none⟩) d.size cap, .func (.func g) #[] cb] W fun e w' =>
      e = .returned (.tuple #[]) ∧ ∃ d' n os, PermIn 0 d.size d d' ∧ SortedIn lt 0 d.size d' ∧ w' = sortWorldK enc k W blk 0 n d' os)
    (hnone : ∀ (A : Option Addr) (cap : Nat) (W : World), Calls P f #[.slice A 0 cap, .func (.func g) #[] cb] W fun e w' => e = .returned (.tuple #[]) ∧ w' = W)
    {w : World} {base e : Nat} {v : Value} {l : List α} (h : w.ownsRow base e k v l.length (l.flatMap enc)) (hlen : l.length < 4611686018427387904) :
    CallsV P f #[v, .func (.func g) #[] cb] w fun r w' => r = .tuple #[] ∧ ∃ l' : List α, l'.Perm l ∧ (l'.Pairwise fun a b => lt b a = false) ∧ w'.ownsRow base e k v l'.length (l'.flatMap enc) ∧ w.grownBy w' v.ownBlock ∧ Only e w w' := by
  refine callsV_of_calls fun w₁ hs => ?_
  have h1 := ownsRow_same hs h
  have turn : ∀ {w' : World} {row : Option Nat}, w₁.grownBy w' row → w.grownBy w' row := fun hg => ⟨hg.os.trans hs.os, hg.tape.trans hs.tape, hg.output.trans hs.output, by rw [← hs.heap]; exact hg.size, fun q hq hne => by rw [← hs.heap] at hq ⊢; exact hg.block q hq hne⟩
  have turnO : ∀ {w' : World}, Only e w₁ w' → Only e w w' := fun ho q c t fr hq hne => ho q c t fr (by rw [hs.heap]; exact hq) hne
  by_cases h0 : l = []
  · subst h0
    obtain ⟨A, c, rfl, _, _⟩ := reads_of_owns h1
    refine (hnone A c w₁).mono ?_
    rintro r w' ⟨rfl, rfl⟩
    exact ⟨_, rfl, ⟨rfl, [], List.Perm.refl _, List.Pairwise.nil, h1, turn (grownBy_refl _ _), turnO (only_ext _ (Ext.refl _))⟩, Nat.le_refl _⟩
  · have hpos : 0 < l.length := List.length_pos_iff.2 h0
    have hv : ∃ q cap, v = .slice (some ⟨q, 0, none⟩) l.length cap := by
      obtain ⟨_, ⟨hv, hn⟩ | ⟨q, cap, cur, hv, _⟩⟩ := h1
      · omega
      · exact ⟨q, cap, hv⟩
    obtain ⟨q, cap, rfl⟩ := hv
    obtain ⟨hH, hlt, hB, hrow⟩ := sort_row hk h1
    have hcall := hsort w₁ q cap l.toArray (by simpa using hlen) hH hlt
    simp only [List.size_toArray] at hcall
    refine hcall.mono ?_
    rintro r w' ⟨rfl, d', n, os, hp, hso, rfl⟩
    have hsz : d'.size = l.length := by simpa using hp.1
    obtain ⟨ho, hg, hon⟩ := hrow d' n os hsz
    have hperm : d'.toList.Perm l := by
      have := hp.2.2
      have e1 : d'.extract 0 l.length = d' := by rw [← hsz]; exact Array.extract_size
      have e2 : l.toArray.extract 0 l.length = l.toArray := by simp
      rw [e1, e2] at this
      simpa using this
    refine ⟨_, rfl, ⟨rfl, d'.toList, hperm, ?_, ?_, turn hg, turnO hon⟩, ?_⟩
    · refine List.pairwise_iff_getElem.2 fun i j hi hj hij => ?_
      have hi' : i < d'.size := by simpa using hi
      have hj' : j < d'.size := by simpa using hj
      have := hso i j (Nat.zero_le _) hij (by omega)
      rw [getElem!_pos d' i hi', getElem!_pos d' j hj'] at this
      simpa using this
    · have e : d'.toList.length = l.length := by rw [Array.length_toList, hsz]
      rw [e]; simpa using ho
    · show w₁.drawn ≤ w₁.drawn + n
      omega
end
end Go.Eng
