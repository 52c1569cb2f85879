/- The loud operations (they make memory, write, or call), and the order of a region. -/
import Derived.Test.YtdfhfehlmonjjaaE2
import Derived.Laws.AppendOwn
import Derived.IntWalk
namespace Go.Eng
open Go.RowKit

/-! ### Draws are counted up alone -/
theorem except_bind {ε α β : Type} {x : Except ε α} {f : α → Except ε β} {r : β} (h : (x >>= f) = .ok r) : ∃ a, x = .ok a ∧ f a = .ok r := by
  cases x with
  | ok a => exact ⟨a, rfl, h⟩
  | error e => cases h

theorem viewStore_drawn {p : Program} {w w' : World} {at_ : Addr} {u : TypeId} {k : Addr} {v : Value} {b : Bool} {l : List Addr} (h : w.viewStore p at_ u k v b = .ok (w', l)) : w'.drawn = w.drawn := by
  unfold World.viewStore at h
  by_cases h1 : (!tight p p.depth u) = true
  · rw [if_pos h1] at h
    obtain ⟨_, h2, _⟩ := except_bind h
    cases h2
  · rw [if_neg h1] at h
    obtain ⟨⟨c, e, fr, fi, like, cells⟩, _, h⟩ := except_bind h
    dsimp only at h
    cases hb : v.bytes? with
    | none => rw [hb] at h; cases h
    | some bytes =>
      rw [hb] at h
      dsimp only at h
      by_cases h2 : some bytes.length ≠ like.bytes?.map (·.length)
      · rw [if_pos h2] at h
        obtain ⟨_, h3, _⟩ := except_bind h
        cases h3
      · rw [if_neg h2] at h
        obtain ⟨c2, _, h⟩ := except_bind h
        injection h with h
        injection h with h1 h2
        rw [← h1]

theorem farStore_drawn {p : Program} {w w' : World} {a : Addr} {v : Value} {b : Bool} {l : List Addr} (h : w.farStore p a v b = .ok (w', l)) : w'.drawn = w.drawn := by
  unfold World.farStore at h
  split at h
  · split at h
    · rename_i r hr
      injection h with h
      subst h
      exact viewStore_drawn hr
    · cases h
  · cases h

theorem ask_drawn {α : Type} : ∀ (a : Ask α) (w : World), w.drawn ≤ (w.ask a).2.drawn
  | .done a, w => Nat.le_refl _
  | .ask what range k, w => by
    unfold World.ask
    simp only
    split
    · exact ask_drawn _ w
    · exact Nat.le_trans (Nat.le_succ _) (ask_drawn _ { w with drawn := w.drawn + 1 })

theorem sys_drawn (w : World) (c : Sys) : w.drawn ≤ (w.sys c).2.drawn := by
  have h := ask_drawn (Kernel.perform c w.os) w
  unfold World.sys
  split
  · exact Nat.le_refl _
  · rename_i r os w1 hq
    rw [hq] at h
    exact h

/-- Draws are counted up alone. -/
theorem run_drawn {α : Type} (p : Program) (e : Sem α) : ∀ {w w' : World} {v : α}, e.run p w = .ok v w' → w.drawn ≤ w'.drawn := by
  induction e with
  | pure a => intro w w' v h; simp only [Sem.run] at h; cases h; exact Nat.le_refl _
  | load m a k ih =>
    intro w w' v h
    simp only [Sem.run] at h
    split at h
    · exact ih _ h
    · split at h
      · exact ih _ h
      · cases h
  | store m a x k ih =>
    intro w w' v h
    have key : ∀ {r : Result α}, r = .ok v w' → (r = (match w.cell? a with
        | some _ => if w.frozen? a then .halt (.unsupported (.unsafePointer "a write to bytes that a string shares")) w else k.run p (w.setCell a x)
        | none => match w.farStore p a x (m == .atomic) with
          | .ok (w, _) => k.run p w
          | .error h => .halt h w)) → w.drawn ≤ w'.drawn := by
      intro r h1 h2
      rw [h1] at h2
      split at h2
      · split at h2
        · cases h2
        · have := ih h2.symm
          have e : (w.setCell a x).drawn = w.drawn := by unfold World.setCell; split <;> rfl
          omega
      · split at h2
        · rename_i w2 l hf
          have := ih h2.symm
          have := farStore_drawn hf
          omega
        · cases h2
    cases x <;> simp only [Sem.run] at h <;> first | (cases h; done) | exact key h rfl
  | new o k ih =>
    intro w w' v h
    simp only [Sem.run] at h
    exact ih w.heap.size (w := { w with heap := w.heap.push o }) h
  | shape r k ih => intro w w' v h; simp only [Sem.run] at h; exact ih _ h
  | freeze a n k ih =>
    intro w w' v h
    simp only [Sem.run] at h
    have := ih h
    have e : (w.freeze a n).drawn = w.drawn := by unfold World.freeze; split <;> rfl
    omega
  | frozen a k ih => intro w w' v h; simp only [Sem.run] at h; exact ih _ h
  | getObj r k ih =>
    intro w w' v h
    simp only [Sem.run] at h
    split at h
    · cases h
    · exact ih _ h
    · cases h
  | setObj r o k ih =>
    intro w w' v h
    simp only [Sem.run] at h
    split at h
    · cases h
    · exact ih (w := { w with heap := w.heap.setIfInBounds r o }) h
    · cases h
  | choose q k ih =>
    intro w w' v h
    simp only [Sem.run] at h
    split at h
    · exact ih _ h
    · exact Nat.le_trans (Nat.le_succ _) (ih _ h)
  | sys c k ih =>
    intro w w' v h
    simp only [Sem.run] at h
    exact Nat.le_trans (sys_drawn w c) (ih _ h)
  | program k ih => intro w w' v h; simp only [Sem.run] at h; exact ih _ h
  | mark m k ih => intro w w' v h; simp only [Sem.run] at h; exact ih h
  | halt x => intro w w' v h; simp only [Sem.run] at h; cases h

/-- A new block. -/
structure Alloc (w : World) (g : Nat) (o : Obj) (w' : World) : Prop where
  new : g = w.heap.size
  heap : w'.heap = w.heap.push o
  os : w'.os = w.os
  tape : w'.tape = w.tape
  output : w'.output = w.output

/-- One block holds something else. -/
structure Put (w : World) (g : Nat) (o : Obj) (w' : World) : Prop where
  size : w'.heap.size = w.heap.size
  here : w'.heap[g]? = some o
  there : ∀ k, k ≠ g → w'.heap[k]? = w.heap[k]?
  os : w'.os = w.os
  tape : w'.tape = w.tape
  output : w'.output = w.output

/-- A call: it returns a value, and leaves a world; draws are counted up. -/
def CallsV (P : Program) (f : Nat) (args : Array Value) (w : World) (K : Value → World → Prop) : Prop :=
  ∀ w₁, Same w w₁ → Calls P f args w₁ fun e w' => (∃ v w'', e = .returned v ∧ K v w'' ∧ Same w'' w') ∧ w₁.drawn ≤ w'.drawn

theorem CallsV.mono {P : Program} {f : Nat} {args : Array Value} {w : World} {K K' : Value → World → Prop} (h : CallsV P f args w K) (hk : ∀ v w', K v w' → K' v w') : CallsV P f args w K' :=
  fun w₁ hs => (h w₁ hs).mono fun _ _ ⟨⟨v, w'', he, hv, hw⟩, hd⟩ => ⟨⟨v, w'', he, hk v w'' hv, hw⟩, hd⟩

theorem CallsV.calls {P : Program} {f : Nat} {args : Array Value} {w : World} {K : Value → World → Prop} (h : CallsV P f args w K) :
    Calls P f args w fun e w' => ∃ v w'', e = .returned v ∧ K v w'' ∧ Same w'' w' := (h w (Same.refl w)).mono fun _ _ h => h.1

/-- A contract in Go's own words, turned. -/
theorem callsV_of_calls {P : Program} {f : Nat} {args : Array Value} {w : World} {K : Value → World → Prop} (h : ∀ w₁, Same w w₁ → Calls P f args w₁ fun e w' => ∃ v, e = .returned v ∧ K v w' ∧ w₁.drawn ≤ w'.drawn) : CallsV P f args w K :=
  fun w₁ hs => (h w₁ hs).mono fun _ w' ⟨v, he, hk, hd⟩ => ⟨⟨v, w', he, hk, Same.refl _⟩, hd⟩

/-- The parts of a literal, one behind the other: 'some' if they are numbered 0, 1, .. and have the same size. -/
def inRow (l : Env) (esz : Nat) : Nat → List (Nat × Operand) → Option (List Value)
  | _, [] => some []
  | k, (i, x) :: r => match Nat.beq i k, evo l x with
    | true, some v => match Nat.beq v.cells.size esz, inRow l esz (k + 1) r with
      | true, some cs => some (v.cells.toList ++ cs)
      | _, _ => none
    | _, _ => none

def argsOf (l : Env) : List Operand → Option (List Value)
  | [] => some []
  | x :: r => match evo l x, argsOf l r with
    | some v, some vs => some (v :: vs)
    | _, _ => none

/-- What else acts on the world: by the model's own word. -/
def LoudRun (C : Cfg) (o : Oper) (l : Env) (w : World) (K : Value → World → Prop) : Prop :=
  ∀ ρ : Operand → Value, (∀ x u, evo l x = some u → ρ x = u) → ∀ w₁, Same w w₁ →
    ∃ v w' w'', ((execOp ρ o).run C.P w₁ = .ok (.value v) w'' ∨ ((execOp ρ o).run C.P w₁ = .ok .skip w'' ∧ v = undef)) ∧ K v w' ∧ Same w' w''

def appE (C : Cfg) (t : Nat) (s x : Value) (w : World) (K : Value → World → Prop) : Prop := withO (C.ti t) fun ti => match ti.d, x with
  | .slice e esz eb, .slice A m _ => withO (C.ti e) fun te => ∃ (base n : Nat) (xs ys : List Value), w.ownsRow base e esz s n xs ∧ base ≤ w.heap.size ∧ 0 < esz ∧ te.zero.cells.size = esz ∧
      ys.length = m * esz ∧ (ys = [] ∨ ∃ b o, A = some ⟨b, o, none⟩ ∧ Rd w b o ys) ∧ A.isSome = true ∧ ys.all (·.oneCell') = true ∧ (n + m) * eb ≤ 140737488355328 ∧ n + m ≤ maxLen ∧
      ∀ v' w', w'.ownsRow base e esz v' (n + m) (xs ++ ys) → w.grownBy w' s.ownBlock → (v' = .slice none 0 0 ↔ s = .slice none 0 0 ∧ m = 0) → K v' w'
  | _, _ => False

/-- Are two types there, and the same? -/
def sameB : Option Nat → Option Nat → Bool
  | some a, some b => Nat.beq a b
  | _, _ => true

def opL (C : Cfg) (o : Oper) (l : Env) (w : World) (K : Value → World → Prop) : Prop := match o.op with
  | .alloc t => withO (C.ti t) fun ti => ∀ g w', Alloc w g (.cells ti.zero.cells t (0, 0)) w' → K (.pointer (some ⟨g, 0, none⟩)) w'
  | .box t x => withO (evo l x) fun v => ∀ g w', Alloc w g (.cells v.cells t (0, 0)) w' → K (.pointer (some ⟨g, 0, none⟩)) w'
  | .buildSlice t n parts => withO (C.ti t) fun ti => match ti.d with
    | .slice e esz _ => withO (C.ti e) fun te => match Nat.beq esz te.size && Nat.beq parts.size n && Nat.blt 0 esz && Nat.ble (n * esz) 16777216 with
      | true => withO (inRow l esz 0 parts.toList) fun cs => ∀ g w', Alloc w g (.cells cs.toArray e (0, 0)) w' → K (.slice (some ⟨g, 0, none⟩) n n) w'
      | false => False
    | _ => False
  | .makeSlice t ln cp => withO (C.ti t) fun ti => withO (evo l ln) fun nv => withO (evo l cp) fun cv => match ti.d, nv, cv with
    | .slice e esz eb, .int _ ni, .int _ ci => withO (C.ti e) fun te => ∃ n c : Nat, ni = (n : Int) ∧ ci = (c : Int) ∧ n ≤ c ∧ c * eb ≤ 2 ^ 47 ∧ c < 2 ^ 62 ∧ esz = 1 ∧ te.size = 1 ∧ te.d.agg = false ∧
        te.zero.cells = #[te.zero] ∧ ∀ g w', Alloc w g (.cells (List.replicate c te.zero).toArray e (0, 0)) w' → K (.slice (some ⟨g, 0, none⟩) n c) w'
    | _, _, _ => False
  | .store t x y => withO (evo l x) fun p => withO (evo l y) fun v => withO (C.ti t) fun ti => match p with
    | .pointer (some ⟨b, o, none⟩) => v.cells.size = ti.size ∧ ∃ (cs : List Value) (T : Nat), w.heap[b]? = some (.cells cs.toArray T (0, 0)) ∧ o + ti.size ≤ cs.length ∧ v.cells.toList.all (·.oneCell') = true ∧
        ∀ w', Put w b (.cells (splice cs o v.cells.toList).toArray T (0, 0)) w' → K undef w'
    | _ => False
  | .call ⟨.value f, args, _⟩ => withO (evo l f) fun fv => match fv with
    | .func (.func g) first captured => match Nat.ble C.lo g && Nat.blt g C.nf with
      | true => withO (argsOf l args.toList) fun vs => CallsV C.P g (first ++ vs.toArray ++ captured) w K
      | false => False
    | _ => False
  | .call ⟨.builtin .append, args, ts⟩ => match sameB ts.toList[0]? ts.toList[1]? with
    | true => withO args.toList[0]? fun s => withO args.toList[1]? fun x => withO ts.toList[0]? fun t => ts.toList[1]? = some t ∧ args.size = 2 ∧ ts.size = 2 ∧ withO (evo l s) fun sv => withO (evo l x) fun xv => appE C t sv xv w K
    | false => LoudRun C o l w K
  | .makeMap _ none => ∀ g w', Alloc w g (.map #[] 0) w' → K (.map (some g)) w'
  | _ => LoudRun C o l w K

section
variable {C : Cfg}

theorem argsOf_eval {l : Env} {ρ : Operand → Value} (hρ : ∀ x u, evo l x = some u → ρ x = u) : ∀ {xs : List Operand} {vs : List Value}, argsOf l xs = some vs → xs.map ρ = vs
  | [], vs, h => by simp [argsOf] at h; subst h; rfl
  | x :: r, vs, h => by
    unfold argsOf at h
    split at h
    · rename_i v us hv hus
      simp at h; subst h
      simp [hρ _ _ hv, argsOf_eval hρ hus]
    · simp at h

theorem Alloc.mk' (w : World) (o : Obj) : Alloc w w.heap.size o (w.alloc o) := ⟨rfl, rfl, rfl, rfl, rfl⟩

theorem Alloc.of_same {w w₁ : World} (h : Same w w₁) (o : Obj) : Alloc w w.heap.size o (w₁.alloc o) := ⟨rfl, by show w₁.heap.push o = _; rw [h.heap], h.os, h.tape, h.output⟩

theorem run_newRow (P : Program) (w : World) (e : Nat) (cs : Array Value) : (newRow e cs).run P w = .ok ⟨w.heap.size, 0, none⟩ (w.alloc (.cells cs e)) := by
  simp [newRow, newObj, Sem.run]

theorem ownsRow_same {w w₁ : World} (h : Same w w₁) {base e size n : Nat} {v : Value} {xs : List Value} (ho : w.ownsRow base e size v n xs) : w₁.ownsRow base e size v n xs := by
  unfold World.ownsRow at *
  rw [h.heap]; exact ho

theorem fill_row {place : Nat → Option (Nat × Nat)} {l : Env} {esz : Nat} (hp : ∀ i, place i = some (i * esz, esz)) {ρ : Operand → Value} (hρ : ∀ x u, evo l x = some u → ρ x = u) :
    ∀ (parts : List (Nat × Operand)) (k : Nat) (cs pre : List Value) (post : List Value), inRow l esz k parts = some cs → pre.length = k * esz → post.length = parts.length * esz →
      Instr.fill place (pre ++ post).toArray (parts.map fun (i, x) => (i, ρ x)) = some (pre ++ cs).toArray
  | [], k, cs, pre, post, h, _, hpost => by
    simp [inRow] at h; subst h
    have : post = [] := by simpa using hpost
    subst this
    simp [Instr.fill]
  | (i, x) :: r, k, cs, pre, post, h, hpre, hpost => by
    unfold inRow at h
    split at h
    · rename_i v hb hv
      split at h
      · rename_i cs' hsz hcs
        simp at h; subst h
        have hik := Nat.eq_of_beq_eq_true hb
        have hvs := Nat.eq_of_beq_eq_true hsz
        subst hik
        have hpl : post.length = esz + r.length * esz := by rw [hpost]; simp [Nat.add_mul, Nat.add_comm]
        simp only [List.map_cons, Instr.fill, hp, hρ _ _ hv, hvs]
        have hb2 : ¬ (i * esz + esz > (pre ++ post).length) := by rw [List.length_append, hpre, hpl]; omega
        have hfold : ∀ (vs : List Value) (j : Nat) (a b : List Value), a.length = i * esz + j → vs.length ≤ b.length →
            (vs.zipIdx j).foldl (fun cs (x : Value × Nat) => cs.setIfInBounds (i * esz + x.2) x.1) (a ++ b).toArray = (a ++ vs ++ b.drop vs.length).toArray := by
          intro vs
          induction vs with
          | nil => intro j a b _ _; simp
          | cons u us ih =>
            intro j a b ha hb
            cases b with
            | nil => simp at hb
            | cons b0 b =>
              simp only [List.zipIdx_cons, List.foldl_cons]
              have : (a ++ b0 :: b).toArray.setIfInBounds (i * esz + j) u = ((a ++ [u]) ++ b).toArray := by
                simp [← ha]
              rw [this, ih (j + 1) (a ++ [u]) b (by simp [ha]; omega) (by simpa using hb)]
              simp
        have hz : (v.cells.zipIdx.foldl (fun cs (x : Value × Nat) => cs.setIfInBounds (i * esz + x.2) x.1) (pre ++ post).toArray) = (pre ++ v.cells.toList ++ post.drop v.cells.size).toArray := by
          have h1 := hfold v.cells.toList 0 pre post (by simpa using hpre) (by simp [hvs, hpl])
          rw [← Array.foldl_toList]
          simpa using h1
        simp only [ne_eq, not_true_eq_false, decide_false, Bool.false_or, List.size_toArray, hb2, decide_false, Bool.false_eq_true, if_false]
        rw [hz]
        have ih := fill_row hp hρ r (i + 1) cs' (pre ++ v.cells.toList) (post.drop v.cells.size) hcs (by simp [hpre, hvs, Nat.add_mul]) (by simp [hpl, hvs])
        rw [ih]
        try simp
      · simp at h
    · simp at h

theorem inRow_length {l : Env} {esz : Nat} : ∀ {parts : List (Nat × Operand)} {k : Nat} {cs : List Value}, inRow l esz k parts = some cs → cs.length = parts.length * esz
  | [], _, cs, h => by simp [inRow] at h; subst h; simp
  | (i, x) :: r, k, cs, h => by
    unfold inRow at h
    split at h
    · split at h
      · rename_i cs' hsz hcs
        simp at h; subst h
        have := inRow_length hcs
        have h2 := Nat.eq_of_beq_eq_true hsz
        simp [this, h2, Nat.add_mul, Nat.add_comm]
      · simp at h
    · simp at h

theorem range_zero (z : Value) (c : Nat) : ((Array.range c).map fun i => (#[z] : Array Value)[i % 1]!) = (List.replicate c z).toArray := by
  apply Array.ext
  · simp
  · intro i h1 h2
    simp [Nat.mod_one]

theorem run_buildSlice {P : Program} {t e te_size eb n : Nat} {ti te : TI} (hT : TIok P t ti) (hd : ti.d = .slice e te_size eb) (hE : TIok P e te) {parts : Array (Nat × Operand)} (hn : parts.size = n) (hsmall : n * te_size ≤ 2 ^ 24)
    {l : Env} {cs : List Value} (hcs : inRow l te_size 0 parts.toList = some cs) {ρ : Operand → Value} (hρ : ∀ x u, evo l x = some u → ρ x = u) (w : World) :
    (Instr.buildSlice t n (parts.map fun (i, x) => (i, ρ x))).run P w = .ok (.slice (some ⟨w.heap.size, 0, none⟩) n n) (w.alloc (.cells cs.toArray e)) := by
  have hu := (hT.isSlice hd).1
  have hz := hT.elem_slice hd
  have hsm : ¬ (n * te_size > 2 ^ 24) := Nat.not_lt.2 hsmall
  have key : ∀ zc : Array Value, Instr.fill (fun i => some (i * te_size, te_size)) ((Array.range (n * te_size)).map (zc[· % zc.size]!)) (parts.map fun (i, x) => (i, ρ x)).toList = some cs.toArray := by
    intro zc
    have := fill_row (place := fun i => some (i * te_size, te_size)) (fun _ => rfl) hρ parts.toList 0 cs [] ((Array.range (n * te_size)).map (zc[· % zc.size]!)).toList hcs (by simp) (by simp [hn])
    rw [List.nil_append, Array.toArray_toList] at this
    rw [Array.toList_map]
    simpa using this
  unfold Instr.buildSlice
  simp only [Sem.run_bind, run_underlying hu, Result.andThen_ok, hz, hsm, if_false]
  by_cases h0 : n * te_size = 0
  · simp only [h0, if_true]
    have := key #[]
    rw [h0] at this
    simp only [this, Sem.run_bind, run_newRow, Result.andThen_ok, Sem.run_pure]
  · simp only [h0, if_false, Sem.run_bind, hE.run_zero, Result.andThen_ok, Sem.run_pure]
    have := key te.zero.cells
    simp only [this, Sem.run_bind, run_newRow, Result.andThen_ok, Sem.run_pure]

theorem wrap64_nat {n : Nat} (h : n < 2 ^ 62) : IntKind.i64.wrap (n : Int) = (n : Int) := by
  have := IntWalk.i64_in (n : Int) ⟨by omega, by omega⟩
  exact this

theorem run_makeSlice {P : Program} {t e eb n c : Nat} {ti te : TI} (hT : TIok P t ti) (hd : ti.d = .slice e 1 eb) (hE : TIok P e te) (hzc : te.zero.cells = #[te.zero]) (hnc : n ≤ c) (hb : c * eb ≤ 2 ^ 47) (hc : c < 2 ^ 62)
    (k k' : IntKind) (w : World) :
    (Instr.makeSlice t (.int k n) (.int k' c)).run P w = .ok (.slice (some ⟨w.heap.size, 0, none⟩) n c) (w.alloc (.cells (List.replicate c te.zero).toArray e)) := by
  obtain ⟨hu, i, hi, hs, hby⟩ := hT.isSlice hd
  have hz := hT.elem_slice hd
  have w1 := wrap64_nat (show n < 2 ^ 62 by omega)
  have w2 := wrap64_nat hc
  have h1 : ¬ ((eb : Int) * (c : Int) > 2 ^ 48) := by
    have : ((c * eb : Nat) : Int) ≤ 2 ^ 47 := by exact_mod_cast hb
    rw [Int.mul_comm]; push_cast at this; omega
  have h2 : ¬ (c * eb > roomBytes) := by unfold roomBytes; omega
  have h3 : ¬ ((c : Int) < 0) := by omega
  have h4 : ¬ ((n : Int) < 0) := by omega
  have h5 : ¬ ((n : Int) > (c : Int)) := by omega
  unfold Instr.makeSlice
  simp [run_underlying hu, asInt, asIntOf, typeInfo, hi, hby, w1, w2, h3, h4, h5, askRoom, hz, run_newRow, hE.run_zero, hzc]
  have h1n : ¬ (281474976710656 < (eb : Int) * (c : Int)) := by omega
  rw [if_neg h1n]
  by_cases h0 : c = 0
  · subst h0
    have e : (Array.map (fun _ => (default : Value)) (Array.range 0)) = #[] := by simp
    simp
    exact congrArg (fun z => w.alloc (Obj.cells z _)) e
  · rw [if_neg h0]
    have e : (Array.map (fun x => [te.zero][x % 1]?.getD default) (Array.range c)) = Array.replicate c te.zero := by
      apply Array.ext
      · simp
      · intro i _ _; simp [Nat.mod_one]
    rw [e]

theorem allOne {vs : List Value} (h : vs.all (·.oneCell') = true) : ∀ v ∈ vs, v.oneCell' = true := fun v hv => List.all_eq_true.1 h v hv

theorem run_storeVar {P : Program} {t : Nat} {ti : TI} (hT : TIok P t ti) {w : World} {b o T : Nat} {v : Value} {cs : List Value} (hsz : v.cells.size = ti.size) (hg : w.heap[b]? = some (.cells cs.toArray T (0, 0)))
    (ho : o + ti.size ≤ cs.length) (h1 : v.cells.toList.all (·.oneCell') = true) :
    (storeVar t ⟨b, o, none⟩ v).run P w = .ok () (w.setRow b (splice cs o v.cells.toList).toArray) := by
  have := run_storeCells_at (P := P) b o T v.cells.toList 0 cs.toArray w hg (by simp [hsz]; omega) (allOne h1)
  simp [storeVar, hT.run_size, hsz, splice] at this ⊢
  exact this

theorem put_setRow {w w₁ : World} (hs : Same w w₁) {b T : Nat} {cs cs' : Array Value} (hg : w.heap[b]? = some (.cells cs T (0, 0))) : Put w b (.cells cs' T (0, 0)) (w₁.setRow b cs') := by
  have hg' : w₁.heap[b]? = some (.cells cs T (0, 0)) := by rw [hs.heap]; exact hg
  exact ⟨by simp [hs.heap], setRow_heap w₁ b cs _ T _ hg', fun k hk => by rw [setRow_other w₁ b k _ hk, hs.heap], hs.os, hs.tape, hs.output⟩

theorem opL_sound (hC : C.Ok) {o : Oper} {l : Env} {w : World} {K : Value → World → Prop} (h : opL C o l w K) {a : Act} {w₁ : World} (hρ : ∀ x u, evo l x = some u → a.eval x = u) (hs : Same w w₁)
    {K' : Act → World → Prop} {Q : Exit → Act → World → Prop} (hK : ∀ v w' w'', K v w' → Same w' w'' → w₁.drawn ≤ w''.drawn → K' (a.put o.dst v) w'') : o.wp C.P a w₁ K' Q := by
  obtain ⟨dst, op, type, pos, after, guard⟩ := o
  unfold opL at h
  simp only at h hK
  have done : ∀ {v : Value} {w' w'' : World}, (execOp a.eval ⟨dst, op, type, pos, after, guard⟩).run C.P w₁ = .ok (.value v) w'' → K v w' → Same w' w'' → Oper.wp C.P ⟨dst, op, type, pos, after, guard⟩ a w₁ K' Q := by
    intro v w' w'' hr hk hw
    unfold Oper.wp
    rw [hr]
    exact hK v w' w'' hk hw (run_drawn _ _ hr)
  have doneu : ∀ {w' w'' : World}, (execOp a.eval ⟨dst, op, type, pos, after, guard⟩).run C.P w₁ = .ok .skip w'' → K undef w' → Same w' w'' → Oper.wp C.P ⟨dst, op, type, pos, after, guard⟩ a w₁ K' Q := by
    intro w' w'' hr hk hw
    unfold Oper.wp
    rw [hr]
    exact hK undef w' w'' hk hw (run_drawn _ _ hr)
  have hsz : w₁.heap.size = w.heap.size := by rw [hs.heap]
  split at h
  case h_1 => -- alloc
    replace h := withO_iff h; obtain ⟨ti, hti, h⟩ := h
    refine done ?_ (h w.heap.size _ (Alloc.of_same hs _)) (Same.refl _)
    simp [execOp, Instr.alloc, (hC.ti hti).run_zero, newVar, run_newRow, hsz]
  case h_2 => -- box
    replace h := withO_iff h; obtain ⟨v, hv, h⟩ := h
    refine done ?_ (h w.heap.size _ (Alloc.of_same hs _)) (Same.refl _)
    simp [execOp, Instr.box, hρ _ _ hv, newVar, run_newRow, hsz]
  case h_3 => -- buildSlice
    replace h := withO_iff h; obtain ⟨ti, hti, h⟩ := h
    split at h
    · rename_i hd
      replace h := withO_iff h; obtain ⟨te, hte, h⟩ := h
      split at h
      · rename_i hb
        simp only [Bool.and_eq_true] at hb
        obtain ⟨⟨⟨_, hn⟩, _⟩, hsmall⟩ := hb
        replace hn := Nat.eq_of_beq_eq_true hn
        replace hsmall := Nat.le_of_ble_eq_true hsmall
        replace h := withO_iff h; obtain ⟨cs, hcs, h⟩ := h
        refine done ?_ (h w.heap.size _ (Alloc.of_same hs _)) (Same.refl _)
        simp [execOp, run_buildSlice (hC.ti hti) hd (hC.ti hte) hn hsmall hcs hρ, hsz]
      · exact h.elim
    · exact h.elim
  case h_4 => -- makeSlice
    replace h := withO_iff h; obtain ⟨ti, hti, h⟩ := h
    replace h := withO_iff h; obtain ⟨nv, hnv, h⟩ := h
    replace h := withO_iff h; obtain ⟨cv, hcv, h⟩ := h
    split at h
    · rename_i hd
      replace h := withO_iff h; obtain ⟨te, hte, h⟩ := h
      obtain ⟨n, c, rfl, rfl, hnc, hb, hc, h1, _, _, hzc, h⟩ := h
      subst h1
      refine done ?_ (h w.heap.size _ (Alloc.of_same hs _)) (Same.refl _)
      simp [execOp, hρ _ _ hnv, hρ _ _ hcv, run_makeSlice (hC.ti hti) hd (hC.ti hte) hzc hnc hb hc, hsz]
    · exact h.elim
  case h_5 => -- store
    replace h := withO_iff h; obtain ⟨p, hp, h⟩ := h
    replace h := withO_iff h; obtain ⟨v, hv, h⟩ := h
    replace h := withO_iff h; obtain ⟨ti, hti, h⟩ := h
    split at h
    · obtain ⟨hsize, cs, T, hg, ho, h1, h⟩ := h
      refine doneu ?_ (h _ (put_setRow hs hg)) (Same.refl _)
      have hr := run_storeVar (w := w₁) (hC.ti hti) hsize (by rw [hs.heap]; exact hg) ho h1
      simp [execOp, hρ _ _ hp, hρ _ _ hv, Instr.storeAt, Instr.sureAddr, hr]
    · exact h.elim
  case h_6 => -- call
    rename_i f args ts
    replace h := withO_iff h; obtain ⟨fv, hf, h⟩ := h
    split at h
    · rename_i g first captured
      split at h
      · rename_i hlt
        replace h := withO_iff h; obtain ⟨vs, hvs, h⟩ := h
        have hc := hC.funcs g (Nat.le_of_ble_eq_true (Bool.and_eq_true_iff.1 hlt).1) (Eq.mp Nat.blt_eq (Bool.and_eq_true_iff.1 hlt).2)
        have hargs := argsOf_eval hρ hvs
        unfold callable at hc
        cases hfn : C.P.funcs[g]? with
        | none => simp [hfn] at hc
        | some fn =>
          simp [hfn] at hc
          have hb : fn.body.isNone = false := by
            cases hb : fn.body with
            | none => simp [hb] at hc
            | some c => rfl
          have hm : args.map a.eval = vs.toArray := by apply Array.ext'; simp [hargs]
          have hrun : (execOp a.eval ⟨dst, .call ⟨.value f, args, ts⟩, type, pos, after, guard⟩).run C.P w₁ = .ok (.enter g (first ++ vs.toArray ++ captured)) w₁ := by
            simp [execOp, resolve, hρ _ _ hf, Deferred.ofValue, invoke, callFunc, hfn, hc.1, hm]
            intro hn; simp [hn] at hb
          unfold Oper.wp
          rw [hrun]
          refine (h w₁ hs).mono ?_
          rintro e w' ⟨⟨v, w'', rfl, hk, hw⟩, hd⟩
          exact hK v w'' w' hk hw hd
      · exact h.elim
    · exact h.elim
  case h_7 => -- append
    rename_i args ts
    split at h
    case h_2 =>
      obtain ⟨v, w', w'', hr, hk, hw⟩ := h a.eval hρ w₁ hs
      rcases hr with hr | ⟨hr, rfl⟩
      · exact done hr hk hw
      · exact doneu hr hk hw
    case h_1 =>
      replace h := withO_iff h; obtain ⟨s, hs0, h⟩ := h
      replace h := withO_iff h; obtain ⟨x, hx0, h⟩ := h
      replace h := withO_iff h; obtain ⟨t, ht0, ht1, hn1, hn2, h⟩ := h
      replace h := withO_iff h; obtain ⟨sv, hsv, h⟩ := h
      replace h := withO_iff h; obtain ⟨xv, hxv, h⟩ := h
      have ea : args = #[s, x] := by
        apply Array.ext'
        have : args.toList.length = 2 := hn1
        match hl : args.toList with
        | [] => simp [hl] at this
        | [_] => simp [hl] at this
        | [p, q] => simp [hl] at hs0 hx0; simp [hs0, hx0]
        | _ :: _ :: _ :: _ => simp [hl] at this
      have et : ts = #[t, t] := by
        apply Array.ext'
        have : ts.toList.length = 2 := hn2
        match hl : ts.toList with
        | [] => simp [hl] at this
        | [_] => simp [hl] at this
        | [p, q] => simp [hl] at ht0 ht1; simp [ht0, ht1]
        | _ :: _ :: _ :: _ => simp [hl] at this
      subst ea et
      unfold appE at h
      replace h := withO_iff h; obtain ⟨ti, hti, h⟩ := h
      split at h
      · rename_i e esz eb A m c hd
        replace h := withO_iff h; obtain ⟨te, hte, h⟩ := h
        obtain ⟨base, n, xs, ys, hown, hbase, hpos, hzs, hl, hys, hA, h1, hbytes, hmax, h⟩ := h
        obtain ⟨hu, i, hi, hisz, hby⟩ := (hC.ti hti).isSlice hd
        obtain ⟨i', hi', hsz', hz'⟩ := (hC.ti hte).got
        have hii : i' = i := Option.some.inj (hi'.symm.trans hi)
        subst hii
        obtain ⟨ad, rfl⟩ := Option.isSome_iff_exists.1 hA
        have hnews : ∀ j u, ys[j]? = some u → w₁.cell? (ad.add j) = some u := by
          intro j u hj
          rcases hys with rfl | ⟨b, o, hb, hr⟩
          · simp at hj
          · simp at hb; subst hb
            rw [add_spot, hs.cell]; exact hr j u hj
        obtain ⟨v', w', hr, h2, h3, h4⟩ := run_append_own (P := C.P) w₁ base t type e i' te.zero esz eb hu hi hz' hisz hby hzs hpos sv n xs (ownsRow_same hs hown) ad m c ys hl hnews (allOne h1) hmax hbytes (by rw [hs.heap]; exact hbase)
        have hg : w.grownBy w' sv.ownBlock := ⟨h3.os.trans hs.os, h3.tape.trans hs.tape, h3.output.trans hs.output, by rw [← hs.heap]; exact h3.size, fun k hk hne => by rw [← hs.heap] at hk ⊢; exact h3.block k hk hne⟩
        refine done ?_ (h v' w' h2 hg h4) (Same.refl _)
        simp [execOp, resolve, invoke, builtin, hρ _ _ hsv, hρ _ _ hxv, hr]
      · exact h.elim
  case h_8 => -- makeMap
    refine done ?_ (h w.heap.size _ (Alloc.of_same hs _)) (Same.refl _)
    simp [execOp, Instr.makeMap, newObj, Sem.run, hsz]
  case h_9 =>
    obtain ⟨v, w', w'', hr, hk, hw⟩ := h a.eval hρ w₁ hs
    rcases hr with hr | ⟨hr, rfl⟩
    · exact done hr hk hw
    · exact doneu hr hk hw

end
end Go.Eng
