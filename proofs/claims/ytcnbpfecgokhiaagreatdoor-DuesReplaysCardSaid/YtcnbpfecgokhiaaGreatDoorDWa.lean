/- Dues: entries and what they hold as values: compared, opened, in lists (printed by tools/dueq.py). -/
import Derived.Test.YtcnbpfecgokhiaaGreatDoorDUc
import Derived.Test.YtcnbpfecgokhiaaGreatDoorDEc
set_option linter.unusedVariables false
set_option linter.unusedSimpArgs false
set_option linter.unnecessarySimpa false
set_option linter.unusedSectionVars false
namespace Go.Proofs.YtcnbpfecgokhiaaGreatDoor
open Go.Eng Go.RowKit

theorem part_agg {t : Nat} {ti : TI} (ht : C.ti t = some ti) (ha : ti.d.agg = true) (i : Nat) (cs : Array Value) (w : World) : (part t cs i).run C.P w = .ok (.agg (cs.extract i (i + ti.size))) w := by
  have h1 := (C_ok.ti ht).run_agg
  have h2 := (C_ok.ti ht).run_size
  simp [part, h1, h2, ha]

/-! ### Waiv -/
theorem Waiv.len (x : Waiv) : x.cells.length = 9 := rfl
theorem fieldsW : Tryz.prog.fieldsOf 35 = #[⟨ "Id", 3, 0, false, "", "", 0⟩, ⟨ "Day", 3, 1, false, "", "", 8⟩, ⟨ "Signer", 3, 2, false, "", "", 16⟩, ⟨ "Giver", 3, 3, false, "", "", 24⟩, ⟨ "Taker", 3, 4, false, "", "", 32⟩, ⟨ "Under", 3, 5, false, "", "", 40⟩, ⟨ "Over", 3, 6, false, "", "", 48⟩, ⟨ "Since", 3, 7, false, "", "", 56⟩, ⟨ "Until", 3, 8, false, "", "", 64⟩] := by kernel_rfl
theorem underW : Tryz.prog.underlying 35 = some (.struct #[⟨ "Id", 3, 0, false, "", "", 0⟩, ⟨ "Day", 3, 1, false, "", "", 8⟩, ⟨ "Signer", 3, 2, false, "", "", 16⟩, ⟨ "Giver", 3, 3, false, "", "", 24⟩, ⟨ "Taker", 3, 4, false, "", "", 32⟩, ⟨ "Under", 3, 5, false, "", "", 40⟩, ⟨ "Over", 3, 6, false, "", "", 48⟩, ⟨ "Since", 3, 7, false, "", "", 56⟩, ⟨ "Until", 3, 8, false, "", "", 64⟩]) := by kernel_rfl
def sameW (p q : Waiv) (o : Nat) : Bool := match o with
  | 0 => decide (p.id = q.id)
  | 1 => decide (p.day = q.day)
  | 2 => decide (p.signer = q.signer)
  | 3 => decide (p.giver = q.giver)
  | 4 => decide (p.taker = q.taker)
  | 5 => decide (p.under = q.under)
  | 6 => decide (p.over = q.over)
  | 7 => decide (p.since = q.since)
  | _ => decide (p.til = q.til)
set_option maxRecDepth 10000 in
theorem eqInW (d : Nat) (p q : Waiv) (w : World) : (Op.equalIn (d + 2) 35 p.val q.val).run C.P w = .ok (decide (p = q)) w := by
  have hs : C.P.stoodInHeld 35 = false := by kernel_rfl
  have hu : C.P.underlying 35 = some (.struct (C.P.fieldsOf 35)) := by show Tryz.prog.underlying _ = some (.struct (Tryz.prog.fieldsOf _)); rw [fieldsW]; exact underW
  have h3 : C.P.underlying 3 = some (.int .i64) := under3
  have h5 : C.P.underlying 5 = some (.int .u8) := under5
  have p3 := part_plain (t := 3) (ti := ty3) rfl rfl
  have p5 := part_plain (t := 5) (ti := ty5) rfl rfl
  rw [Waiv.val, Waiv.val, run_equalIn_struct w (d + 1) 35 _ _ hu hs]
  show ((Op.eqFields (d + 1) _ _ (Tryz.prog.fieldsOf 35).toList).run C.P w) = _
  rw [fieldsW]
  rw [eqFields_run (f := fun x => sameW p q x.offset)]
  · obtain ⟨a0, a1, a2, a3, a4, a5, a6, a7, a8⟩ := p
    obtain ⟨b0, b1, b2, b3, b4, b5, b6, b7, b8⟩ := q
    congr 1
    rw [Bool.eq_iff_iff]
    simp [sameW]
  · intro f hf
    simp only [List.mem_cons, List.not_mem_nil, or_false] at hf
    rcases hf with rfl | rfl | rfl | rfl | rfl | rfl | rfl | rfl | rfl
    · exact ⟨by decide, _, _, p3 0 _ (.int .i64 p.id) w rfl, p3 0 _ (.int .i64 q.id) w rfl, eqInt_run h3 w (d) .i64 p.id q.id⟩
    · exact ⟨by decide, _, _, p3 1 _ (.int .i64 p.day) w rfl, p3 1 _ (.int .i64 q.day) w rfl, eqInt_run h3 w (d) .i64 p.day q.day⟩
    · exact ⟨by decide, _, _, p3 2 _ (.int .i64 p.signer) w rfl, p3 2 _ (.int .i64 q.signer) w rfl, eqInt_run h3 w (d) .i64 p.signer q.signer⟩
    · exact ⟨by decide, _, _, p3 3 _ (.int .i64 p.giver) w rfl, p3 3 _ (.int .i64 q.giver) w rfl, eqInt_run h3 w (d) .i64 p.giver q.giver⟩
    · exact ⟨by decide, _, _, p3 4 _ (.int .i64 p.taker) w rfl, p3 4 _ (.int .i64 q.taker) w rfl, eqInt_run h3 w (d) .i64 p.taker q.taker⟩
    · exact ⟨by decide, _, _, p3 5 _ (.int .i64 p.under) w rfl, p3 5 _ (.int .i64 q.under) w rfl, eqInt_run h3 w (d) .i64 p.under q.under⟩
    · exact ⟨by decide, _, _, p3 6 _ (.int .i64 p.over) w rfl, p3 6 _ (.int .i64 q.over) w rfl, eqInt_run h3 w (d) .i64 p.over q.over⟩
    · exact ⟨by decide, _, _, p3 7 _ (.int .i64 p.since) w rfl, p3 7 _ (.int .i64 q.since) w rfl, eqInt_run h3 w (d) .i64 p.since q.since⟩
    · exact ⟨by decide, _, _, p3 8 _ (.int .i64 p.til) w rfl, p3 8 _ (.int .i64 q.til) w rfl, eqInt_run h3 w (d) .i64 p.til q.til⟩
theorem neqW (x y : Operand) (p q : Waiv) : EqIs C.P .neq 35 x y p.val q.val (!decide (p = q)) := by
  intro w
  have hm : C.P.eqGuardType C.P.depth 35 = false := by kernel_rfl
  rw [Sem.run_bind, Waiv.val, Waiv.val, run_eqGuard_agg w .neq 35 x y _ _ hm]
  simp only [Result.andThen_ok]
  rw [run_neq_struct]
  have := eqInW 9998 p q w
  rw [Waiv.val, Waiv.val] at this
  rw [this]
  rfl
theorem eqW (x y : Operand) (p q : Waiv) : EqIs C.P .eql 35 x y p.val q.val (decide (p = q)) := by
  intro w
  have hm : C.P.eqGuardType C.P.depth 35 = false := by kernel_rfl
  rw [Sem.run_bind, Waiv.val, Waiv.val, run_eqGuard_agg w .eql 35 x y _ _ hm]
  simp only [Result.andThen_ok]
  rw [run_eql_struct]
  have := eqInW 9998 p q w
  rw [Waiv.val, Waiv.val] at this
  rw [this]
  rfl

/-! ### Gift -/
theorem Gift.len (x : Gift) : x.cells.length = 10 := rfl
theorem fieldsG : Tryz.prog.fieldsOf 37 = #[⟨ "Id", 3, 0, false, "", "", 0⟩, ⟨ "Day", 3, 1, false, "", "", 8⟩, ⟨ "From", 3, 2, false, "", "", 16⟩, ⟨ "To", 3, 3, false, "", "", 24⟩, ⟨ "Currency", 5, 4, false, "", "", 32⟩, ⟨ "N", 3, 5, false, "", "", 40⟩, ⟨ "Worth", 3, 6, false, "", "", 48⟩, ⟨ "State", 5, 7, false, "", "", 56⟩, ⟨ "Answered", 3, 8, false, "", "", 64⟩, ⟨ "Returns", 3, 9, false, "", "", 72⟩] := by kernel_rfl
theorem underG : Tryz.prog.underlying 37 = some (.struct #[⟨ "Id", 3, 0, false, "", "", 0⟩, ⟨ "Day", 3, 1, false, "", "", 8⟩, ⟨ "From", 3, 2, false, "", "", 16⟩, ⟨ "To", 3, 3, false, "", "", 24⟩, ⟨ "Currency", 5, 4, false, "", "", 32⟩, ⟨ "N", 3, 5, false, "", "", 40⟩, ⟨ "Worth", 3, 6, false, "", "", 48⟩, ⟨ "State", 5, 7, false, "", "", 56⟩, ⟨ "Answered", 3, 8, false, "", "", 64⟩, ⟨ "Returns", 3, 9, false, "", "", 72⟩]) := by kernel_rfl
def sameG (p q : Gift) (o : Nat) : Bool := match o with
  | 0 => decide (p.id = q.id)
  | 1 => decide (p.day = q.day)
  | 2 => decide (p.frm = q.frm)
  | 3 => decide (p.to = q.to)
  | 4 => decide (p.cur = q.cur)
  | 5 => decide (p.n = q.n)
  | 6 => decide (p.worth = q.worth)
  | 7 => decide (p.state = q.state)
  | 8 => decide (p.answered = q.answered)
  | _ => decide (p.returns = q.returns)
set_option maxRecDepth 10000 in
theorem eqInG (d : Nat) (p q : Gift) (w : World) : (Op.equalIn (d + 2) 37 p.val q.val).run C.P w = .ok (decide (p = q)) w := by
  have hs : C.P.stoodInHeld 37 = false := by kernel_rfl
  have hu : C.P.underlying 37 = some (.struct (C.P.fieldsOf 37)) := by show Tryz.prog.underlying _ = some (.struct (Tryz.prog.fieldsOf _)); rw [fieldsG]; exact underG
  have h3 : C.P.underlying 3 = some (.int .i64) := under3
  have h5 : C.P.underlying 5 = some (.int .u8) := under5
  have p3 := part_plain (t := 3) (ti := ty3) rfl rfl
  have p5 := part_plain (t := 5) (ti := ty5) rfl rfl
  rw [Gift.val, Gift.val, run_equalIn_struct w (d + 1) 37 _ _ hu hs]
  show ((Op.eqFields (d + 1) _ _ (Tryz.prog.fieldsOf 37).toList).run C.P w) = _
  rw [fieldsG]
  rw [eqFields_run (f := fun x => sameG p q x.offset)]
  · obtain ⟨a0, a1, a2, a3, a4, a5, a6, a7, a8, a9⟩ := p
    obtain ⟨b0, b1, b2, b3, b4, b5, b6, b7, b8, b9⟩ := q
    congr 1
    rw [Bool.eq_iff_iff]
    simp [sameG]
  · intro f hf
    simp only [List.mem_cons, List.not_mem_nil, or_false] at hf
    rcases hf with rfl | rfl | rfl | rfl | rfl | rfl | rfl | rfl | rfl | rfl
    · exact ⟨by decide, _, _, p3 0 _ (.int .i64 p.id) w rfl, p3 0 _ (.int .i64 q.id) w rfl, eqInt_run h3 w (d) .i64 p.id q.id⟩
    · exact ⟨by decide, _, _, p3 1 _ (.int .i64 p.day) w rfl, p3 1 _ (.int .i64 q.day) w rfl, eqInt_run h3 w (d) .i64 p.day q.day⟩
    · exact ⟨by decide, _, _, p3 2 _ (.int .i64 p.frm) w rfl, p3 2 _ (.int .i64 q.frm) w rfl, eqInt_run h3 w (d) .i64 p.frm q.frm⟩
    · exact ⟨by decide, _, _, p3 3 _ (.int .i64 p.to) w rfl, p3 3 _ (.int .i64 q.to) w rfl, eqInt_run h3 w (d) .i64 p.to q.to⟩
    · exact ⟨by decide, _, _, p5 4 _ (.int .u8 p.cur) w rfl, p5 4 _ (.int .u8 q.cur) w rfl, eqInt_run h5 w (d) .u8 p.cur q.cur⟩
    · exact ⟨by decide, _, _, p3 5 _ (.int .i64 p.n) w rfl, p3 5 _ (.int .i64 q.n) w rfl, eqInt_run h3 w (d) .i64 p.n q.n⟩
    · exact ⟨by decide, _, _, p3 6 _ (.int .i64 p.worth) w rfl, p3 6 _ (.int .i64 q.worth) w rfl, eqInt_run h3 w (d) .i64 p.worth q.worth⟩
    · exact ⟨by decide, _, _, p5 7 _ (.int .u8 p.state) w rfl, p5 7 _ (.int .u8 q.state) w rfl, eqInt_run h5 w (d) .u8 p.state q.state⟩
    · exact ⟨by decide, _, _, p3 8 _ (.int .i64 p.answered) w rfl, p3 8 _ (.int .i64 q.answered) w rfl, eqInt_run h3 w (d) .i64 p.answered q.answered⟩
    · exact ⟨by decide, _, _, p3 9 _ (.int .i64 p.returns) w rfl, p3 9 _ (.int .i64 q.returns) w rfl, eqInt_run h3 w (d) .i64 p.returns q.returns⟩
theorem neqG (x y : Operand) (p q : Gift) : EqIs C.P .neq 37 x y p.val q.val (!decide (p = q)) := by
  intro w
  have hm : C.P.eqGuardType C.P.depth 37 = false := by kernel_rfl
  rw [Sem.run_bind, Gift.val, Gift.val, run_eqGuard_agg w .neq 37 x y _ _ hm]
  simp only [Result.andThen_ok]
  rw [run_neq_struct]
  have := eqInG 9998 p q w
  rw [Gift.val, Gift.val] at this
  rw [this]
  rfl
theorem eqG (x y : Operand) (p q : Gift) : EqIs C.P .eql 37 x y p.val q.val (decide (p = q)) := by
  intro w
  have hm : C.P.eqGuardType C.P.depth 37 = false := by kernel_rfl
  rw [Sem.run_bind, Gift.val, Gift.val, run_eqGuard_agg w .eql 37 x y _ _ hm]
  simp only [Result.andThen_ok]
  rw [run_eql_struct]
  have := eqInG 9998 p q w
  rw [Gift.val, Gift.val] at this
  rw [this]
  rfl

/-! ### Entry -/
theorem Entry.len (x : Entry) : x.cells.length = 24 := rfl
theorem fieldsE : Tryz.prog.fieldsOf 39 = #[⟨ "Kind", 5, 0, false, "", "", 0⟩, ⟨ "Day", 3, 1, false, "", "", 8⟩, ⟨ "Waiver", 35, 2, false, "", "", 16⟩, ⟨ "Gift", 37, 11, false, "", "", 88⟩, ⟨ "A", 3, 21, false, "", "", 168⟩, ⟨ "B", 3, 22, false, "", "", 176⟩, ⟨ "N", 3, 23, false, "", "", 184⟩] := by kernel_rfl
theorem underE : Tryz.prog.underlying 39 = some (.struct #[⟨ "Kind", 5, 0, false, "", "", 0⟩, ⟨ "Day", 3, 1, false, "", "", 8⟩, ⟨ "Waiver", 35, 2, false, "", "", 16⟩, ⟨ "Gift", 37, 11, false, "", "", 88⟩, ⟨ "A", 3, 21, false, "", "", 168⟩, ⟨ "B", 3, 22, false, "", "", 176⟩, ⟨ "N", 3, 23, false, "", "", 184⟩]) := by kernel_rfl
def sameE (p q : Entry) (o : Nat) : Bool := match o with
  | 0 => decide (p.kind = q.kind)
  | 1 => decide (p.day = q.day)
  | 2 => decide (p.w = q.w)
  | 11 => decide (p.g = q.g)
  | 21 => decide (p.a = q.a)
  | 22 => decide (p.b = q.b)
  | _ => decide (p.n = q.n)
set_option maxRecDepth 10000 in
theorem eqInE (d : Nat) (p q : Entry) (w : World) : (Op.equalIn (d + 3) 39 p.val q.val).run C.P w = .ok (decide (p = q)) w := by
  have hs : C.P.stoodInHeld 39 = false := by kernel_rfl
  have hu : C.P.underlying 39 = some (.struct (C.P.fieldsOf 39)) := by show Tryz.prog.underlying _ = some (.struct (Tryz.prog.fieldsOf _)); rw [fieldsE]; exact underE
  have h3 : C.P.underlying 3 = some (.int .i64) := under3
  have h5 : C.P.underlying 5 = some (.int .u8) := under5
  have p3 := part_plain (t := 3) (ti := ty3) rfl rfl
  have p5 := part_plain (t := 5) (ti := ty5) rfl rfl
  rw [Entry.val, Entry.val, run_equalIn_struct w (d + 2) 39 _ _ hu hs]
  show ((Op.eqFields (d + 2) _ _ (Tryz.prog.fieldsOf 39).toList).run C.P w) = _
  rw [fieldsE]
  rw [eqFields_run (f := fun x => sameE p q x.offset)]
  · obtain ⟨a0, a1, a2, a3, a4, a5, a6⟩ := p
    obtain ⟨b0, b1, b2, b3, b4, b5, b6⟩ := q
    congr 1
    rw [Bool.eq_iff_iff]
    simp [sameE]
  · intro f hf
    simp only [List.mem_cons, List.not_mem_nil, or_false] at hf
    rcases hf with rfl | rfl | rfl | rfl | rfl | rfl | rfl
    · exact ⟨by decide, _, _, p5 0 _ (.int .u8 p.kind) w rfl, p5 0 _ (.int .u8 q.kind) w rfl, eqInt_run h5 w (d + 1) .u8 p.kind q.kind⟩
    · exact ⟨by decide, _, _, p3 1 _ (.int .i64 p.day) w rfl, p3 1 _ (.int .i64 q.day) w rfl, eqInt_run h3 w (d + 1) .i64 p.day q.day⟩
    · exact ⟨by decide, p.w.val, q.w.val, part_agg (ti := ty35) rfl rfl 2 _ w, part_agg (ti := ty35) rfl rfl 2 _ w, eqInW d p.w q.w w⟩
    · exact ⟨by decide, p.g.val, q.g.val, part_agg (ti := ty37) rfl rfl 11 _ w, part_agg (ti := ty37) rfl rfl 11 _ w, eqInG d p.g q.g w⟩
    · exact ⟨by decide, _, _, p3 21 _ (.int .i64 p.a) w rfl, p3 21 _ (.int .i64 q.a) w rfl, eqInt_run h3 w (d + 1) .i64 p.a q.a⟩
    · exact ⟨by decide, _, _, p3 22 _ (.int .i64 p.b) w rfl, p3 22 _ (.int .i64 q.b) w rfl, eqInt_run h3 w (d + 1) .i64 p.b q.b⟩
    · exact ⟨by decide, _, _, p3 23 _ (.int .i64 p.n) w rfl, p3 23 _ (.int .i64 q.n) w rfl, eqInt_run h3 w (d + 1) .i64 p.n q.n⟩
theorem neqE (x y : Operand) (p q : Entry) : EqIs C.P .neq 39 x y p.val q.val (!decide (p = q)) := by
  intro w
  have hm : C.P.eqGuardType C.P.depth 39 = false := by kernel_rfl
  rw [Sem.run_bind, Entry.val, Entry.val, run_eqGuard_agg w .neq 39 x y _ _ hm]
  simp only [Result.andThen_ok]
  rw [run_neq_struct]
  have := eqInE 9997 p q w
  rw [Entry.val, Entry.val] at this
  rw [this]
  rfl
theorem eqE (x y : Operand) (p q : Entry) : EqIs C.P .eql 39 x y p.val q.val (decide (p = q)) := by
  intro w
  have hm : C.P.eqGuardType C.P.depth 39 = false := by kernel_rfl
  rw [Sem.run_bind, Entry.val, Entry.val, run_eqGuard_agg w .eql 39 x y _ _ hm]
  simp only [Result.andThen_ok]
  rw [run_eql_struct]
  have := eqInE 9997 p q w
  rw [Entry.val, Entry.val] at this
  rw [this]
  rfl

/-! ### Due -/
theorem Due.len (x : Due) : x.cells.length = 3 := rfl
theorem fieldsD : Tryz.prog.fieldsOf 74 = #[⟨ "Creditor", 3, 0, false, "", "", 0⟩, ⟨ "Debtor", 3, 1, false, "", "", 8⟩, ⟨ "Waiver", 3, 2, false, "", "", 16⟩] := by kernel_rfl
theorem underD : Tryz.prog.underlying 74 = some (.struct #[⟨ "Creditor", 3, 0, false, "", "", 0⟩, ⟨ "Debtor", 3, 1, false, "", "", 8⟩, ⟨ "Waiver", 3, 2, false, "", "", 16⟩]) := by kernel_rfl
def sameD (p q : Due) (o : Nat) : Bool := match o with
  | 0 => decide (p.cred = q.cred)
  | 1 => decide (p.debt = q.debt)
  | _ => decide (p.waiver = q.waiver)
set_option maxRecDepth 10000 in
theorem eqInD (d : Nat) (p q : Due) (w : World) : (Op.equalIn (d + 2) 74 p.val q.val).run C.P w = .ok (decide (p = q)) w := by
  have hs : C.P.stoodInHeld 74 = false := by kernel_rfl
  have hu : C.P.underlying 74 = some (.struct (C.P.fieldsOf 74)) := by show Tryz.prog.underlying _ = some (.struct (Tryz.prog.fieldsOf _)); rw [fieldsD]; exact underD
  have h3 : C.P.underlying 3 = some (.int .i64) := under3
  have h5 : C.P.underlying 5 = some (.int .u8) := under5
  have p3 := part_plain (t := 3) (ti := ty3) rfl rfl
  have p5 := part_plain (t := 5) (ti := ty5) rfl rfl
  rw [Due.val, Due.val, run_equalIn_struct w (d + 1) 74 _ _ hu hs]
  show ((Op.eqFields (d + 1) _ _ (Tryz.prog.fieldsOf 74).toList).run C.P w) = _
  rw [fieldsD]
  rw [eqFields_run (f := fun x => sameD p q x.offset)]
  · obtain ⟨a0, a1, a2⟩ := p
    obtain ⟨b0, b1, b2⟩ := q
    congr 1
    rw [Bool.eq_iff_iff]
    simp [sameD]
  · intro f hf
    simp only [List.mem_cons, List.not_mem_nil, or_false] at hf
    rcases hf with rfl | rfl | rfl
    · exact ⟨by decide, _, _, p3 0 _ (.int .i64 p.cred) w rfl, p3 0 _ (.int .i64 q.cred) w rfl, eqInt_run h3 w (d) .i64 p.cred q.cred⟩
    · exact ⟨by decide, _, _, p3 1 _ (.int .i64 p.debt) w rfl, p3 1 _ (.int .i64 q.debt) w rfl, eqInt_run h3 w (d) .i64 p.debt q.debt⟩
    · exact ⟨by decide, _, _, p3 2 _ (.int .i64 p.waiver) w rfl, p3 2 _ (.int .i64 q.waiver) w rfl, eqInt_run h3 w (d) .i64 p.waiver q.waiver⟩
theorem neqD (x y : Operand) (p q : Due) : EqIs C.P .neq 74 x y p.val q.val (!decide (p = q)) := by
  intro w
  have hm : C.P.eqGuardType C.P.depth 74 = false := by kernel_rfl
  rw [Sem.run_bind, Due.val, Due.val, run_eqGuard_agg w .neq 74 x y _ _ hm]
  simp only [Result.andThen_ok]
  rw [run_neq_struct]
  have := eqInD 9998 p q w
  rw [Due.val, Due.val] at this
  rw [this]
  rfl
theorem eqD (x y : Operand) (p q : Due) : EqIs C.P .eql 74 x y p.val q.val (decide (p = q)) := by
  intro w
  have hm : C.P.eqGuardType C.P.depth 74 = false := by kernel_rfl
  rw [Sem.run_bind, Due.val, Due.val, run_eqGuard_agg w .eql 74 x y _ _ hm]
  simp only [Result.andThen_ok]
  rw [run_eql_struct]
  have := eqInD 9998 p q w
  rw [Due.val, Due.val] at this
  rw [this]
  rfl

/-! ### IPair -/
theorem IPair.len (x : IPair) : x.cells.length = 2 := rfl
theorem fieldsP : Tryz.prog.fieldsOf 67 = #[⟨ "A", 3, 0, false, "", "", 0⟩, ⟨ "B", 3, 1, false, "", "", 8⟩] := by kernel_rfl
theorem underP : Tryz.prog.underlying 67 = some (.struct #[⟨ "A", 3, 0, false, "", "", 0⟩, ⟨ "B", 3, 1, false, "", "", 8⟩]) := by kernel_rfl
def sameP (p q : IPair) (o : Nat) : Bool := match o with
  | 0 => decide (p.a = q.a)
  | _ => decide (p.b = q.b)
set_option maxRecDepth 10000 in
theorem eqInP (d : Nat) (p q : IPair) (w : World) : (Op.equalIn (d + 2) 67 p.val q.val).run C.P w = .ok (decide (p = q)) w := by
  have hs : C.P.stoodInHeld 67 = false := by kernel_rfl
  have hu : C.P.underlying 67 = some (.struct (C.P.fieldsOf 67)) := by show Tryz.prog.underlying _ = some (.struct (Tryz.prog.fieldsOf _)); rw [fieldsP]; exact underP
  have h3 : C.P.underlying 3 = some (.int .i64) := under3
  have h5 : C.P.underlying 5 = some (.int .u8) := under5
  have p3 := part_plain (t := 3) (ti := ty3) rfl rfl
  have p5 := part_plain (t := 5) (ti := ty5) rfl rfl
  rw [IPair.val, IPair.val, run_equalIn_struct w (d + 1) 67 _ _ hu hs]
  show ((Op.eqFields (d + 1) _ _ (Tryz.prog.fieldsOf 67).toList).run C.P w) = _
  rw [fieldsP]
  rw [eqFields_run (f := fun x => sameP p q x.offset)]
  · obtain ⟨a0, a1⟩ := p
    obtain ⟨b0, b1⟩ := q
    congr 1
    rw [Bool.eq_iff_iff]
    simp [sameP]
  · intro f hf
    simp only [List.mem_cons, List.not_mem_nil, or_false] at hf
    rcases hf with rfl | rfl
    · exact ⟨by decide, _, _, p3 0 _ (.int .i64 p.a) w rfl, p3 0 _ (.int .i64 q.a) w rfl, eqInt_run h3 w (d) .i64 p.a q.a⟩
    · exact ⟨by decide, _, _, p3 1 _ (.int .i64 p.b) w rfl, p3 1 _ (.int .i64 q.b) w rfl, eqInt_run h3 w (d) .i64 p.b q.b⟩
theorem neqP (x y : Operand) (p q : IPair) : EqIs C.P .neq 67 x y p.val q.val (!decide (p = q)) := by
  intro w
  have hm : C.P.eqGuardType C.P.depth 67 = false := by kernel_rfl
  rw [Sem.run_bind, IPair.val, IPair.val, run_eqGuard_agg w .neq 67 x y _ _ hm]
  simp only [Result.andThen_ok]
  rw [run_neq_struct]
  have := eqInP 9998 p q w
  rw [IPair.val, IPair.val] at this
  rw [this]
  rfl
theorem eqP (x y : Operand) (p q : IPair) : EqIs C.P .eql 67 x y p.val q.val (decide (p = q)) := by
  intro w
  have hm : C.P.eqGuardType C.P.depth 67 = false := by kernel_rfl
  rw [Sem.run_bind, IPair.val, IPair.val, run_eqGuard_agg w .eql 67 x y _ _ hm]
  simp only [Result.andThen_ok]
  rw [run_eql_struct]
  have := eqInP 9998 p q w
  rw [IPair.val, IPair.val] at this
  rw [this]
  rfl

/-! ### Sight -/
theorem Sight.len (x : Sight) : x.cells.length = 6 := rfl
theorem fieldsS : Tryz.prog.fieldsOf 142 = #[⟨ "Entry", 3, 0, false, "", "", 0⟩, ⟨ "Kind", 5, 1, false, "", "", 8⟩, ⟨ "Day", 3, 2, false, "", "", 16⟩, ⟨ "A", 3, 3, false, "", "", 24⟩, ⟨ "B", 3, 4, false, "", "", 32⟩, ⟨ "N", 3, 5, false, "", "", 40⟩] := by kernel_rfl
theorem underS : Tryz.prog.underlying 142 = some (.struct #[⟨ "Entry", 3, 0, false, "", "", 0⟩, ⟨ "Kind", 5, 1, false, "", "", 8⟩, ⟨ "Day", 3, 2, false, "", "", 16⟩, ⟨ "A", 3, 3, false, "", "", 24⟩, ⟨ "B", 3, 4, false, "", "", 32⟩, ⟨ "N", 3, 5, false, "", "", 40⟩]) := by kernel_rfl
def sameS (p q : Sight) (o : Nat) : Bool := match o with
  | 0 => decide (p.entry = q.entry)
  | 1 => decide (p.kind = q.kind)
  | 2 => decide (p.day = q.day)
  | 3 => decide (p.a = q.a)
  | 4 => decide (p.b = q.b)
  | _ => decide (p.n = q.n)
set_option maxRecDepth 10000 in
theorem eqInS (d : Nat) (p q : Sight) (w : World) : (Op.equalIn (d + 2) 142 p.val q.val).run C.P w = .ok (decide (p = q)) w := by
  have hs : C.P.stoodInHeld 142 = false := by kernel_rfl
  have hu : C.P.underlying 142 = some (.struct (C.P.fieldsOf 142)) := by show Tryz.prog.underlying _ = some (.struct (Tryz.prog.fieldsOf _)); rw [fieldsS]; exact underS
  have h3 : C.P.underlying 3 = some (.int .i64) := under3
  have h5 : C.P.underlying 5 = some (.int .u8) := under5
  have p3 := part_plain (t := 3) (ti := ty3) rfl rfl
  have p5 := part_plain (t := 5) (ti := ty5) rfl rfl
  rw [Sight.val, Sight.val, run_equalIn_struct w (d + 1) 142 _ _ hu hs]
  show ((Op.eqFields (d + 1) _ _ (Tryz.prog.fieldsOf 142).toList).run C.P w) = _
  rw [fieldsS]
  rw [eqFields_run (f := fun x => sameS p q x.offset)]
  · obtain ⟨a0, a1, a2, a3, a4, a5⟩ := p
    obtain ⟨b0, b1, b2, b3, b4, b5⟩ := q
    congr 1
    rw [Bool.eq_iff_iff]
    simp [sameS]
  · intro f hf
    simp only [List.mem_cons, List.not_mem_nil, or_false] at hf
    rcases hf with rfl | rfl | rfl | rfl | rfl | rfl
    · exact ⟨by decide, _, _, p3 0 _ (.int .i64 p.entry) w rfl, p3 0 _ (.int .i64 q.entry) w rfl, eqInt_run h3 w (d) .i64 p.entry q.entry⟩
    · exact ⟨by decide, _, _, p5 1 _ (.int .u8 p.kind) w rfl, p5 1 _ (.int .u8 q.kind) w rfl, eqInt_run h5 w (d) .u8 p.kind q.kind⟩
    · exact ⟨by decide, _, _, p3 2 _ (.int .i64 p.day) w rfl, p3 2 _ (.int .i64 q.day) w rfl, eqInt_run h3 w (d) .i64 p.day q.day⟩
    · exact ⟨by decide, _, _, p3 3 _ (.int .i64 p.a) w rfl, p3 3 _ (.int .i64 q.a) w rfl, eqInt_run h3 w (d) .i64 p.a q.a⟩
    · exact ⟨by decide, _, _, p3 4 _ (.int .i64 p.b) w rfl, p3 4 _ (.int .i64 q.b) w rfl, eqInt_run h3 w (d) .i64 p.b q.b⟩
    · exact ⟨by decide, _, _, p3 5 _ (.int .i64 p.n) w rfl, p3 5 _ (.int .i64 q.n) w rfl, eqInt_run h3 w (d) .i64 p.n q.n⟩
theorem neqS (x y : Operand) (p q : Sight) : EqIs C.P .neq 142 x y p.val q.val (!decide (p = q)) := by
  intro w
  have hm : C.P.eqGuardType C.P.depth 142 = false := by kernel_rfl
  rw [Sem.run_bind, Sight.val, Sight.val, run_eqGuard_agg w .neq 142 x y _ _ hm]
  simp only [Result.andThen_ok]
  rw [run_neq_struct]
  have := eqInS 9998 p q w
  rw [Sight.val, Sight.val] at this
  rw [this]
  rfl
theorem eqS (x y : Operand) (p q : Sight) : EqIs C.P .eql 142 x y p.val q.val (decide (p = q)) := by
  intro w
  have hm : C.P.eqGuardType C.P.depth 142 = false := by kernel_rfl
  rw [Sem.run_bind, Sight.val, Sight.val, run_eqGuard_agg w .eql 142 x y _ _ hm]
  simp only [Result.andThen_ok]
  rw [run_eql_struct]
  have := eqInS 9998 p q w
  rw [Sight.val, Sight.val] at this
  rw [this]
  rfl

/-! ### lists -/
/-- A list in memory that came in or was made. -/
structure HL {α : Type} (enc : α → List Value) (w : World) (A : Option Addr) (l : List α) (c : Nat) : Prop where
  reads : Reads w A (l.flatMap enc)
  len : l.length ≤ c
  cap : l.length ≤ 9223372036854775807
theorem HL.ext {α : Type} {enc : α → List Value} {w w' : World} {A : Option Addr} {l : List α} {c : Nat} (h : HL enc w A l c) (e : Ext w w') : HL enc w' A l c := ⟨h.reads.ext e, h.len, h.cap⟩
/-- A list of one's own. -/
def NewL {α : Type} (enc : α → List Value) (T k : Nat) (B : Nat) (w : World) (v : Value) (l : List α) : Prop := w.ownsRow B T k v l.length (l.flatMap enc)
theorem NewL.base {α : Type} {enc : α → List Value} {T k B B' : Nat} {w : World} {v : Value} {l : List α} (h : NewL enc T k B' w v l) (hb : B ≤ B') : NewL enc T k B w v l := ownsRow_base h hb
theorem NewL.ext {α : Type} {enc : α → List Value} {T k B : Nat} {w w' : World} {v : Value} {l : List α} (h : NewL enc T k B w v l) (e : Ext w w') : NewL enc T k B w' v l := ownsRow_ext h e
theorem newL_nil {α : Type} {enc : α → List Value} {T k B : Nat} {w : World} : NewL enc T k B w (.slice none 0 0) ([] : List α) := World.ownsRow_nil _ _ _ _
theorem NewL.hl {α : Type} {enc : α → List Value} {T k B : Nat} {w : World} {v : Value} {l : List α} (h : NewL enc T k B w v l) : ∃ A c, v = .slice A l.length c ∧ HL enc w A l c := by
  obtain ⟨A, c, rfl, hr, hc⟩ := reads_of_owns h
  exact ⟨A, c, rfl, hr, hc, ownsRow_len h⟩
theorem HL.at {α : Type} {enc : α → List Value} {w : World} {A : Option Addr} {l : List α} {c k : Nat} (h : HL enc w A l c) (hk : ∀ x, (enc x).length = k) (k0 : 0 < k) {i : Nat} (hi : i < l.length) : ∃ b o, A = some ⟨b, o, none⟩ ∧ Rd w b (o + i * k) (enc l[i]) := Reads.elem hk k0 h.reads hi

end Go.Proofs.YtcnbpfecgokhiaaGreatDoor
