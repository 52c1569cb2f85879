/- Facts, the reference: states, behind, Check, Append: the program. -/
import Derived.Test.YtcnbpfecgokhiaaGreatDoorDFd
import Derived.Test.YtcnbpfecgokhiaaGreatDoorDFe
import Derived.Test.YtcnbpfecgokhiaaGreatDoorDFa
import Derived.Test.YtcnbpfecgokhiaaGreatDoorDFb
set_option linter.unusedVariables false
set_option linter.unusedSimpArgs false
set_option linter.unnecessarySimpa false
set_option linter.unusedSectionVars false
namespace Go.Proofs.YtcnbpfecgokhiaaGreatDoor
open Go.Eng Go.RowKit

theorem insD_in {n : Int} : ∀ {l : List Int}, l.Pairwise (· < ·) → n ∈ l → insD n l = l
  | [], _, h => by cases h
  | x :: r, hp, h => by
    obtain ⟨h1, h2⟩ := List.pairwise_cons.1 hp
    unfold insD
    rcases List.mem_cons.1 h with rfl | h
    · rw [if_neg (Int.lt_irrefl _), if_pos rfl]
    · have := h1 n h
      rw [if_neg (by omega), if_neg (by omega), insD_in h2 h]
theorem insD_out {n : Int} : ∀ {l : List Int}, n ∉ l → (insD n l).length = l.length + 1
  | [], _ => rfl
  | x :: r, h => by
    unfold insD
    split
    · rfl
    · split
      · rename_i e; exact absurd (by rw [e]; simp) h
      · rw [List.length_cons, insD_out (fun e => h (by simp [e])), List.length_cons]
theorem statesN_snoc (l : List Fact) (x : Fact) : statesN (l ++ [x]) = statesN l + if x.kind = 1 ∧ namedIn l x.who = false then 1 else 0 := by
  unfold statesN
  rw [whos_snoc]
  by_cases hk : x.kind = 1
  · rw [if_pos hk, sortD_snoc, namedIn_eq]
    by_cases hm : x.who ∈ whos l
    · rw [insD_in (sortD_asc _) (mem_sortD.2 hm), if_neg (by simp [hm])]; rfl
    · rw [insD_out (fun e => hm (mem_sortD.1 e)), if_pos ⟨hk, decide_eq_false hm⟩]
  · rw [if_neg hk, List.append_nil, if_neg (fun e => hk e.1)]; rfl
theorem statesN_take {l : List Fact} {i : Nat} (hi : i < l.length) : statesN (l.take (i + 1)) = statesN (l.take i) + if l[i].kind = 1 ∧ namedIn (l.take i) l[i].who = false then 1 else 0 := by
  rw [List.take_succ_eq_append_getElem hi, statesN_snoc]
theorem statesN_le (l : List Fact) : statesN l ≤ l.length := by
  unfold statesN
  refine Nat.le_trans (sortD_length _) ?_
  unfold whos
  rw [List.length_map]
  exact List.length_filter_le _ _

set_option maxRecDepth 100000 in
theorem refstates_spec {w1 : World} {A : Option Addr} {l : List Fact} {c : Nat} (hr : Reads w1 A (fcells l)) (hl : l.length ≤ 2 ^ 20) (hc : l.length ≤ c) :
    CallsV C.P 170 #[.slice A l.length c] w1 fun v w' => v = .int .i64 (statesN l) ∧ w' = w1 := by
  refine callsV_of C_ok (args := [_]) (plans := plans170) Tryz.func170 rfl Tryz.ntmps170 (by kernel_rfl) (Nat.le_of_ble_eq_true rfl) ?_
  refine loopE C_ok (fun (i : Nat) => [(0, .slice A l.length c), (3, .int .i64 (statesN (l.take i))), (4, .int .i64 i)])
    (fun i w' => w' = w1 ∧ i ≤ l.length) (fun i => l.length - i) 0 ⟨rfl, rfl, rfl, trivial⟩ ⟨rfl, Nat.zero_le _⟩ ?_
  rintro i w2 ⟨rfl, hi⟩
  refine brE_dec (fun hlt => ?_) (fun hge => ?_)
  · have hlt : i < l.length := by have : (i : Int) < (l.length : Nat) := hlt; omega
    have next : IntKind.i64.wrap ((i : Int) + 1) = ((i + 1 : Nat) : Int) := fit ⟨by omega, by omega⟩
    have hlen : (l.take i).length = i := by rw [List.length_take]; omega
    have hsn := statesN_le (l.take i)
    have hst := statesN_take hlt
    obtain ⟨b, o, hA, hcl⟩ := Reads.fact hr hlt
    refine ⟨0, i, rfl, rfl, Nat.zero_le _, by omega, ?_⟩
    refine ⟨i, b, o, rfl, hlt, hA, ?_⟩
    refine ⟨.int .i64 l[i].who, hcl 3 _ rfl, ?_⟩
    have hn := refnamed_spec (cK := c - 0) (Reads.front (c := c) (i := i) hr) (by omega) l[i].who
    rw [hlen] at hn
    refine hn.mono ?_
    rintro _ w3 ⟨rfl, rfl⟩
    refine ⟨i, b, o, rfl, hlt, hA, ?_⟩
    refine ⟨.int .u8 l[i].kind, hcl 2 _ rfl, ?_⟩
    refine brE_dec (fun k1 => ?_) (fun k1 => ?_)
    · have k1 : l[i].kind = 1 := k1
      refine brE_mk (fun k2 => ?_) (fun k2 => ?_)
      · have k2 : namedIn (l.take i) l[i].who = false := by simpa using k2
        rw [if_pos ⟨k1, k2⟩] at hst
        refine ⟨((statesN (l.take i) + 1 : Nat) : Int), fit ⟨by omega, by omega⟩, ?_⟩
        refine ⟨_, next, ?_⟩
        exact ⟨i + 1, ⟨rfl, by show _ = some (Value.int .i64 (statesN (l.take (i + 1)))); rw [hst]; rfl, rfl, trivial⟩, ⟨rfl, hlt⟩, by omega⟩
      · have k2 : ¬ namedIn (l.take i) l[i].who = false := by simpa using k2
        rw [if_neg (fun e => k2 e.2)] at hst
        refine ⟨_, next, ?_⟩
        exact ⟨i + 1, ⟨rfl, by show _ = some (Value.int .i64 (statesN (l.take (i + 1)))); rw [hst]; rfl, rfl, trivial⟩, ⟨rfl, hlt⟩, by omega⟩
    · have k1 : ¬ l[i].kind = 1 := k1
      rw [if_neg (fun e => k1 e.1)] at hst
      refine ⟨_, next, ?_⟩
      exact ⟨i + 1, ⟨rfl, by show _ = some (Value.int .i64 (statesN (l.take (i + 1)))); rw [hst]; rfl, rfl, trivial⟩, ⟨rfl, hlt⟩, by omega⟩
  · have : i = l.length := by have : ¬ (i : Int) < (l.length : Nat) := hge; omega
    subst this
    exact ⟨by rw [List.take_length], rfl⟩

theorem last_fact {l : List Fact} (h : 0 < l.length) : l.getLast? = some (l[l.length - 1]'(by omega)) := List.getLast?_eq_getElem? ▸ List.getElem?_eq_getElem (by omega)

set_option maxRecDepth 100000 in
set_option maxHeartbeats 2000000 in
theorem refBehind_spec {w : World} {A : Option Addr} {l : List Fact} {c : Nat} (hr : Reads w A (fcells l)) (hl : l.length ≤ 2 ^ 20) (hc : l.length ≤ c) {x : Fact} (hx : x.Nums) :
    CallsV C.P 136 #[.slice A l.length c, x.val] w fun v w' => v = .int .i64 (behindE l x) ∧ Ext w w' := by
  refine callsV_ofS (args := [_, _]) Tryz.func136 rfl Tryz.ntmps136 C_ok (Nat.le_of_ble_eq_true rfl) ?_
  unfold behindE
  refine Snd.go C_ok plans136 (by kernel_rfl) ?_
  intro g1 w1 h1
  have M1 : Mem w w1 [(g1, .cells x.cells.toArray 81 (0, 0))] := (Mem.start w).alloc h1
  refine ⟨Snd.go C_ok plans136 (by kernel_rfl) ?_⟩
  refine ⟨x.cells, rfl, M1.rd 0 rfl, ?_⟩
  refine (refFormed_spec x hx w1).mono ?_
  rintro _ w2 ⟨rfl, e2⟩
  have M2 := M1.grow e2
  clear M1 h1
  refine ⟨Snd.go C_ok plans136 (by kernel_rfl) ?_⟩
  refine brE_ndec (fun a1 => ?_) (fun a1 => ?_)
  · have a1 : ¬ formE x = 0 := a1
    exact ⟨by rw [if_pos a1], M2.ext⟩
  have a1 : formE x = 0 := a1
  rw [if_neg (fun e => e a1)]
  refine ⟨Snd.go C_ok plans136 (by kernel_rfl) ?_⟩
  refine brE_dec (fun a2 => ?_) (fun a2 => ?_)
  · have a2 : 300 ≤ l.length := by have : (l.length : Int) ≥ 300 := a2; omega
    exact ⟨by rw [if_pos a2], M2.ext⟩
  have a2 : ¬ 300 ≤ l.length := by have : ¬ (l.length : Int) ≥ 300 := a2; omega
  rw [if_neg a2]
  have hrl := hr.ext M2.ext
  refine ⟨Snd.join C_ok plans136 (fun _ : Unit => [(0, .slice A l.length c), (3, .pointer (some ⟨g1, 0, none⟩))]) (fun _ w' => w' = w2 ∧ l.getLast?.any (fun y => decide (x.known < y.known)) = false) (by kernel_rfl) ?_ ?_⟩
  · refine brE_dec (fun a3 => ?_) (fun a3 => ?_)
    · have a3 : 0 < l.length := by have : (l.length : Int) > 0 := a3; omega
      refine ⟨_, M2.cell 0 rfl rfl, ?_⟩
      obtain ⟨b, o, hA, hcl⟩ := Reads.fact hrl (show l.length - 1 < l.length by omega)
      refine ⟨((l.length - 1 : Nat) : Int), by rw [fit ⟨by omega, by omega⟩]; omega, ?_⟩
      refine ⟨l.length - 1, b, o, rfl, by omega, hA, ?_⟩
      refine ⟨.int .i64 (l[l.length - 1]'(by omega)).known, hcl 1 _ rfl, ?_⟩
      refine brE_dec (fun a4 => ?_) (fun a4 => ?_)
      · have a4 : x.known < (l[l.length - 1]'(by omega)).known := a4
        exact ⟨by rw [if_pos (by rw [last_fact a3]; exact decide_eq_true a4)], M2.ext⟩
      · have a4 : ¬ x.known < (l[l.length - 1]'(by omega)).known := a4
        exact ⟨(), ⟨rfl, rfl, trivial⟩, rfl, by rw [last_fact a3]; exact decide_eq_false a4⟩
    · have a3 : l = [] := List.length_eq_zero_iff.1 (by have : ¬ (l.length : Int) > 0 := a3; omega)
      exact ⟨(), ⟨rfl, rfl, trivial⟩, rfl, by rw [a3]; rfl⟩
  rintro _ w2' ⟨rfl, a4⟩
  rw [if_neg (by rw [a4]; decide)]
  refine Snd.fin C_ok (plans := plans136) (by kernel_rfl) ?_
  refine ⟨_, M2.cell 0 rfl rfl, ?_⟩
  refine (numbered_spec hrl hl x.id).mono ?_
  rintro _ w3 ⟨rfl, rfl⟩
  refine brE_mk (fun a5 => ?_) (fun a5 => ?_)
  · exact ⟨by rw [if_pos a5], M2.ext⟩
  rw [if_neg (by rw [a5]; decide)]
  refine ⟨_, M2.cell 0 rfl rfl, ?_⟩
  refine (refnamed_spec hrl hl x.who).mono ?_
  rintro _ w3 ⟨rfl, rfl⟩
  refine ⟨_, M2.cell 0 rfl rfl, ?_⟩
  refine (refnamed_spec hrl hl x.what).mono ?_
  rintro _ w3 ⟨rfl, rfl⟩
  refine ⟨_, M2.cell 0 rfl rfl, ?_⟩
  refine brE_dec (fun k2 => ?K2) (fun k2 => ?N2)
  case' K2 =>
    have hk : x.kind = 2 ∨ x.kind = 3 ∨ x.kind = 5 ∨ x.kind = 8 := .inl k2
    refine brE_true (decide_eq_true k2) ?_
  case' N2 =>
    have k2 : ¬ x.kind = 2 := k2
    refine brE_dec (fun k3 => ?K3) (fun k3 => ?N3)
    case' K3 =>
      have hk : x.kind = 2 ∨ x.kind = 3 ∨ x.kind = 5 ∨ x.kind = 8 := .inr (.inl k3)
      refine brE_true (decide_eq_true k3) ?_
    case' N3 =>
      have k3 : ¬ x.kind = 3 := k3
      refine brE_dec (fun k5 => ?K5) (fun k5 => ?N5)
      case' K5 =>
        have hk : x.kind = 2 ∨ x.kind = 3 ∨ x.kind = 5 ∨ x.kind = 8 := .inr (.inr (.inl k5))
        refine brE_true (decide_eq_true k5) ?_
      case' N5 =>
        have k5 : ¬ x.kind = 5 := k5
        refine brE_dec (fun k8 => ?K8) (fun k8 => ?N8)
        case' K8 =>
          have hk : x.kind = 2 ∨ x.kind = 3 ∨ x.kind = 5 ∨ x.kind = 8 := .inr (.inr (.inr k8))
        case' N8 =>
          have k8 : ¬ x.kind = 8 := k8
          have hs0 : ¬ (x.kind = 2 ∨ x.kind = 3 ∨ x.kind = 5 ∨ x.kind = 8) := by omega
          refine brE_dec (fun k4 => ?_) (fun k4 => ?_)
          · have k4 : x.kind = 4 := k4
            have hs : (speaks x).all (namedIn l) = (namedIn l x.who && namedIn l x.what) := by unfold speaks; rw [if_neg hs0, if_pos k4]; simp
            rw [hs]
            refine brE_mk (fun b1 => ?_) (fun b1 => ?_)
            · have b1 : namedIn l x.who = false := by simpa using b1
              exact ⟨by rw [if_pos (by rw [b1]; rfl)], M2.ext⟩
            have b1 : namedIn l x.who = true := by simpa using b1
            refine brE_mk (fun b2 => ?_) (fun b2 => ?_)
            · have b2 : namedIn l x.what = false := by simpa using b2
              exact ⟨by rw [if_pos (by rw [b2, Bool.and_false])], M2.ext⟩
            · have b2 : namedIn l x.what = true := by simpa using b2
              exact ⟨by rw [if_neg (by rw [b1, b2]; decide), if_neg (fun e => by omega), if_neg (fun e => by omega)], M2.ext⟩
          have k4 : ¬ x.kind = 4 := k4
          refine brE_dec (fun k7 => ?_) (fun k7 => ?_)
          · have k7 : x.kind = 7 := k7
            have hs : (speaks x).all (namedIn l) = namedIn l x.who := by unfold speaks; rw [if_neg hs0, if_neg k4, if_pos k7]; simp
            rw [hs]
            refine brE_mk (fun b1 => ?_) (fun b1 => ?_)
            · have b1 : namedIn l x.who = false := by simpa using b1
              exact ⟨by rw [if_pos b1], M2.ext⟩
            · have b1 : namedIn l x.who = true := by simpa using b1
              exact ⟨by rw [if_neg (by rw [b1]; decide), if_neg (fun e => by omega), if_neg (fun e => by omega)], M2.ext⟩
          have k7 : ¬ x.kind = 7 := k7
          have hs : (speaks x).all (namedIn l) = true := by unfold speaks; rw [if_neg hs0, if_neg k4, if_neg k7]; rfl
          rw [if_neg (by rw [hs]; decide)]
          refine brE_dec (fun k11 => ?_) (fun k11 => ?_)
          · have k11 : x.kind = 11 := k11
            refine ⟨_, M2.cell 0 rfl rfl, ?_⟩
            refine (numbered_spec hrl hl x.what).mono ?_
            rintro _ w3 ⟨rfl, rfl⟩
            refine brE_mk (fun b1 => ?_) (fun b1 => ?_)
            · have b1 : idIn l x.what = false := by simpa using b1
              exact ⟨by rw [if_pos ⟨k11, b1⟩], M2.ext⟩
            · have b1 : ¬ idIn l x.what = false := by simpa using b1
              exact ⟨by rw [if_neg (fun e => b1 e.2), if_neg (fun e => by omega)], M2.ext⟩
          have k11 : ¬ x.kind = 11 := k11
          rw [if_neg (fun e => k11 e.1)]
          refine brE_dec (fun k1 => ?_) (fun k1 => ?_)
          · have k1 : x.kind = 1 := k1
            refine (refstates_spec hrl hl hc).mono ?_
            rintro _ w3 ⟨rfl, rfl⟩
            refine brE_mk (fun b1 => ?_) (fun b1 => ?_)
            · have b1 : namedIn l x.who = false := by simpa using b1
              refine brE_dec (fun b2 => ?_) (fun b2 => ?_)
              · have b2 : 200 ≤ statesN l := by have : (statesN l : Int) ≥ 200 := b2; omega
                exact ⟨by rw [if_pos ⟨k1, b1, b2⟩], M2.ext⟩
              · have b2 : ¬ 200 ≤ statesN l := by have : ¬ (statesN l : Int) ≥ 200 := b2; omega
                exact ⟨by rw [if_neg (fun e => b2 e.2.2)], M2.ext⟩
            · have b1 : ¬ namedIn l x.who = false := by simpa using b1
              exact ⟨by rw [if_neg (fun e => b1 e.2.1)], M2.ext⟩
          · have k1 : ¬ x.kind = 1 := k1
            exact ⟨by rw [if_neg (fun e => k1 e.1)], M2.ext⟩
  all_goals
    have hs : (speaks x).all (namedIn l) = namedIn l x.what := by unfold speaks; rw [if_pos hk]; simp
    rw [hs]
    refine brE_mk (fun b1 => ?_) (fun b1 => ?_)
    · have b1 : namedIn l x.what = false := by simpa using b1
      exact ⟨by rw [if_pos b1], M2.ext⟩
    · have b1 : namedIn l x.what = true := by simpa using b1
      exact ⟨by rw [if_neg (by rw [b1]; decide), if_neg (fun e => by omega), if_neg (fun e => by omega)], M2.ext⟩

set_option maxRecDepth 100000 in
theorem refCheck_spec {w : World} {A : Option Addr} {l : List Fact} {c : Nat} (h : HF w A l c) (hl : l.length ≤ 2 ^ 20) :
    CallsV C.P 95 #[.slice A l.length c] w fun v w' => v = .tuple #[.int .i64 ((chkF l).1 : Nat), .int .i64 (chkF l).2] ∧ Ext w w' := by
  have hcap := h.len
  refine callsV_of C_ok (args := [_]) (plans := plans95) Tryz.func95 rfl Tryz.ntmps95 (by kernel_rfl) (Nat.le_of_ble_eq_true rfl) ?_
  refine loopE C_ok (fun (i : Nat) => [(0, .slice A l.length c), (4, .int .i64 i)])
    (fun i w' => i ≤ l.length ∧ Ext w w' ∧ chkF l = chkG (l.take i) (l.drop i)) (fun i => l.length - i) 0 ⟨rfl, rfl, trivial⟩ ⟨Nat.zero_le _, Ext.refl _, rfl⟩ ?_
  rintro i w1 ⟨hi, e1, hch⟩
  refine brE_dec (fun hlt => ?_) (fun hge => ?_)
  · have hlt : i < l.length := by have : (i : Int) < (l.length : Nat) := hlt; omega
    have next : IntKind.i64.wrap ((i : Int) + 1) = ((i + 1 : Nat) : Int) := fit ⟨by omega, by omega⟩
    have hlen : (l.take i).length = i := by rw [List.length_take]; omega
    rw [chkG_at hlt] at hch
    obtain ⟨b, o, hA, hcl⟩ := Reads.fact (h.reads.ext e1) hlt
    refine ⟨0, i, rfl, rfl, Nat.zero_le _, by omega, ?_⟩
    refine ⟨i, b, o, rfl, hlt, hA, ?_⟩
    refine ⟨l[i].cells, rfl, hcl, ?_⟩
    have hn := refBehind_spec (c := c - 0) (Reads.front (c := c) (i := i) (h.reads.ext e1)) (by omega) (by omega) (h.nums _ (List.getElem_mem hlt))
    rw [hlen] at hn
    refine hn.mono ?_
    rintro _ w2 ⟨rfl, e2⟩
    refine brE_ndec (fun a1 => ?_) (fun a1 => ?_)
    · have a1 : ¬ behindE (l.take i) l[i] = 0 := a1
      rw [if_pos a1] at hch
      exact ⟨by rw [hch], e1.trans e2⟩
    · have a1 : behindE (l.take i) l[i] = 0 := a1
      rw [if_neg (fun e => e a1)] at hch
      refine ⟨_, next, ?_⟩
      exact ⟨i + 1, ⟨rfl, rfl, trivial⟩, ⟨hlt, e1.trans e2, hch⟩, by omega⟩
  · have : i = l.length := by have : ¬ (i : Int) < (l.length : Nat) := hge; omega
    subst this
    rw [List.drop_length] at hch
    exact ⟨by rw [hch]; rfl, e1⟩

end Go.Proofs.YtcnbpfecgokhiaaGreatDoor
