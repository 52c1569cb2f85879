/- a part of the proof: steps, walks and plain laws that the law below stands on; no condition. -/
import Derived.Test.YtahgjidcaeieaaaGreatDoorLAa
import Derived.Test.YtahgjidcaeieaaaGreatDoorLAb
import Derived.Test.YtahgjidcaeieaaaGreatDoorLAc
import Derived.Test.YtahgjidcaeieaaaGreatDoorLAd
import Derived.Scope
import Derived.Laws.StructEq
set_option linter.unusedVariables false
set_option linter.unusedSimpArgs false
set_option linter.unnecessarySimpa false
set_option linter.unusedSectionVars false
namespace Go.Proofs.YtahgjidcaeieaaaGreatDoor
open Go.Eng Go.RowKit
theorem part_agg {t : Nat} {ti : TI} (ht : C.ti t = some ti) (ha : ti.d.agg = true) (i : Nat) (cs : Array Value) (w : World) : (part t cs i).run C.P w = .ok (.agg (cs.extract i (i + ti.size))) w := by
  have h1 := (C_ok.ti ht).run_agg
  have h2 := (C_ok.ti ht).run_size
  simp [part, h1, h2, ha]
theorem Waiv.len (x : Waiv) : x.cells.length = 9 := rfl
theorem fieldsW : Tryz.prog.fieldsOf 23 = #[⟨ "Id", 3, 0, false, "", "", 0⟩, ⟨ "Day", 3, 1, false, "", "", 8⟩, ⟨ "Signer", 3, 2, false, "", "", 16⟩, ⟨ "Giver", 3, 3, false, "", "", 24⟩, ⟨ "Taker", 3, 4, false, "", "", 32⟩, ⟨ "Under", 3, 5, false, "", "", 40⟩, ⟨ "Over", 3, 6, false, "", "", 48⟩, ⟨ "Since", 3, 7, false, "", "", 56⟩, ⟨ "Until", 3, 8, false, "", "", 64⟩] := by kernel_rfl
theorem underW : Tryz.prog.underlying 23 = some (.struct #[⟨ "Id", 3, 0, false, "", "", 0⟩, ⟨ "Day", 3, 1, false, "", "", 8⟩, ⟨ "Signer", 3, 2, false, "", "", 16⟩, ⟨ "Giver", 3, 3, false, "", "", 24⟩, ⟨ "Taker", 3, 4, false, "", "", 32⟩, ⟨ "Under", 3, 5, false, "", "", 40⟩, ⟨ "Over", 3, 6, false, "", "", 48⟩, ⟨ "Since", 3, 7, false, "", "", 56⟩, ⟨ "Until", 3, 8, false, "", "", 64⟩]) := by kernel_rfl
def sameW (p q : Waiv) (o : Nat) : Bool := match o with
  | 0 => decide (p.id = q.id)
  | 1 => decide (p.day = q.day)
  | 2 => decide (p.signer = q.signer)
  | 3 => decide (p.giver = q.giver)
  | 4 => decide (p.taker = q.taker)
  | 5 => decide (p.under = q.under)
  | 6 => decide (p.over = q.over)
  | 7 => decide (p.since = q.since)
  | _ => decide (p.til = q.til)
set_option maxRecDepth 10000 in
theorem eqInW (d : Nat) (p q : Waiv) (w : World) : (Op.equalIn (d + 2) 23 p.val q.val).run C.P w = .ok (decide (p = q)) w := by
  have hs : C.P.stoodInHeld 23 = false := by kernel_rfl
  have hu : C.P.underlying 23 = some (.struct (C.P.fieldsOf 23)) := by show Tryz.prog.underlying _ = some (.struct (Tryz.prog.fieldsOf _)); rw [fieldsW]; exact underW
  have h3 : C.P.underlying 3 = some (.int .i64) := under3
  have h5 : C.P.underlying 5 = some (.int .u8) := under5
  have p3 := part_plain (t := 3) (ti := ty3) rfl rfl
  have p5 := part_plain (t := 5) (ti := ty5) rfl rfl
  rw [Waiv.val, Waiv.val, run_equalIn_struct w (d + 1) 23 _ _ hu hs]
  show ((Op.eqFields (d + 1) _ _ (Tryz.prog.fieldsOf 23).toList).run C.P w) = _
  rw [fieldsW]
  rw [eqFields_run (f := fun x => sameW p q x.offset)]
  · obtain ⟨a0, a1, a2, a3, a4, a5, a6, a7, a8⟩ := p
    obtain ⟨b0, b1, b2, b3, b4, b5, b6, b7, b8⟩ := q
    congr 1
    rw [Bool.eq_iff_iff]
    simp [sameW]
  · intro f hf
    simp only [List.mem_cons, List.not_mem_nil, or_false] at hf
    rcases hf with rfl | rfl | rfl | rfl | rfl | rfl | rfl | rfl | rfl
    · exact ⟨by decide, _, _, p3 0 _ (.int .i64 p.id) w rfl, p3 0 _ (.int .i64 q.id) w rfl, eqInt_run h3 w (d) .i64 p.id q.id⟩
    · exact ⟨by decide, _, _, p3 1 _ (.int .i64 p.day) w rfl, p3 1 _ (.int .i64 q.day) w rfl, eqInt_run h3 w (d) .i64 p.day q.day⟩
    · exact ⟨by decide, _, _, p3 2 _ (.int .i64 p.signer) w rfl, p3 2 _ (.int .i64 q.signer) w rfl, eqInt_run h3 w (d) .i64 p.signer q.signer⟩
    · exact ⟨by decide, _, _, p3 3 _ (.int .i64 p.giver) w rfl, p3 3 _ (.int .i64 q.giver) w rfl, eqInt_run h3 w (d) .i64 p.giver q.giver⟩
    · exact ⟨by decide, _, _, p3 4 _ (.int .i64 p.taker) w rfl, p3 4 _ (.int .i64 q.taker) w rfl, eqInt_run h3 w (d) .i64 p.taker q.taker⟩
    · exact ⟨by decide, _, _, p3 5 _ (.int .i64 p.under) w rfl, p3 5 _ (.int .i64 q.under) w rfl, eqInt_run h3 w (d) .i64 p.under q.under⟩
    · exact ⟨by decide, _, _, p3 6 _ (.int .i64 p.over) w rfl, p3 6 _ (.int .i64 q.over) w rfl, eqInt_run h3 w (d) .i64 p.over q.over⟩
    · exact ⟨by decide, _, _, p3 7 _ (.int .i64 p.since) w rfl, p3 7 _ (.int .i64 q.since) w rfl, eqInt_run h3 w (d) .i64 p.since q.since⟩
    · exact ⟨by decide, _, _, p3 8 _ (.int .i64 p.til) w rfl, p3 8 _ (.int .i64 q.til) w rfl, eqInt_run h3 w (d) .i64 p.til q.til⟩
theorem Gift.len (x : Gift) : x.cells.length = 10 := rfl
theorem fieldsG : Tryz.prog.fieldsOf 25 = #[⟨ "Id", 3, 0, false, "", "", 0⟩, ⟨ "Day", 3, 1, false, "", "", 8⟩, ⟨ "From", 3, 2, false, "", "", 16⟩, ⟨ "To", 3, 3, false, "", "", 24⟩, ⟨ "Currency", 5, 4, false, "", "", 32⟩, ⟨ "N", 3, 5, false, "", "", 40⟩, ⟨ "Worth", 3, 6, false, "", "", 48⟩, ⟨ "State", 5, 7, false, "", "", 56⟩, ⟨ "Answered", 3, 8, false, "", "", 64⟩, ⟨ "Returns", 3, 9, false, "", "", 72⟩] := by kernel_rfl
theorem underG : Tryz.prog.underlying 25 = some (.struct #[⟨ "Id", 3, 0, false, "", "", 0⟩, ⟨ "Day", 3, 1, false, "", "", 8⟩, ⟨ "From", 3, 2, false, "", "", 16⟩, ⟨ "To", 3, 3, false, "", "", 24⟩, ⟨ "Currency", 5, 4, false, "", "", 32⟩, ⟨ "N", 3, 5, false, "", "", 40⟩, ⟨ "Worth", 3, 6, false, "", "", 48⟩, ⟨ "State", 5, 7, false, "", "", 56⟩, ⟨ "Answered", 3, 8, false, "", "", 64⟩, ⟨ "Returns", 3, 9, false, "", "", 72⟩]) := by kernel_rfl
def sameG (p q : Gift) (o : Nat) : Bool := match o with
  | 0 => decide (p.id = q.id)
  | 1 => decide (p.day = q.day)
  | 2 => decide (p.frm = q.frm)
  | 3 => decide (p.to = q.to)
  | 4 => decide (p.cur = q.cur)
  | 5 => decide (p.n = q.n)
  | 6 => decide (p.worth = q.worth)
  | 7 => decide (p.state = q.state)
  | 8 => decide (p.answered = q.answered)
  | _ => decide (p.returns = q.returns)
set_option maxRecDepth 10000 in
theorem eqInG (d : Nat) (p q : Gift) (w : World) : (Op.equalIn (d + 2) 25 p.val q.val).run C.P w = .ok (decide (p = q)) w := by
  have hs : C.P.stoodInHeld 25 = false := by kernel_rfl
  have hu : C.P.underlying 25 = some (.struct (C.P.fieldsOf 25)) := by show Tryz.prog.underlying _ = some (.struct (Tryz.prog.fieldsOf _)); rw [fieldsG]; exact underG
  have h3 : C.P.underlying 3 = some (.int .i64) := under3
  have h5 : C.P.underlying 5 = some (.int .u8) := under5
  have p3 := part_plain (t := 3) (ti := ty3) rfl rfl
  have p5 := part_plain (t := 5) (ti := ty5) rfl rfl
  rw [Gift.val, Gift.val, run_equalIn_struct w (d + 1) 25 _ _ hu hs]
  show ((Op.eqFields (d + 1) _ _ (Tryz.prog.fieldsOf 25).toList).run C.P w) = _
  rw [fieldsG]
  rw [eqFields_run (f := fun x => sameG p q x.offset)]
  · obtain ⟨a0, a1, a2, a3, a4, a5, a6, a7, a8, a9⟩ := p
    obtain ⟨b0, b1, b2, b3, b4, b5, b6, b7, b8, b9⟩ := q
    congr 1
    rw [Bool.eq_iff_iff]
    simp [sameG]
  · intro f hf
    simp only [List.mem_cons, List.not_mem_nil, or_false] at hf
    rcases hf with rfl | rfl | rfl | rfl | rfl | rfl | rfl | rfl | rfl | rfl
    · exact ⟨by decide, _, _, p3 0 _ (.int .i64 p.id) w rfl, p3 0 _ (.int .i64 q.id) w rfl, eqInt_run h3 w (d) .i64 p.id q.id⟩
    · exact ⟨by decide, _, _, p3 1 _ (.int .i64 p.day) w rfl, p3 1 _ (.int .i64 q.day) w rfl, eqInt_run h3 w (d) .i64 p.day q.day⟩
    · exact ⟨by decide, _, _, p3 2 _ (.int .i64 p.frm) w rfl, p3 2 _ (.int .i64 q.frm) w rfl, eqInt_run h3 w (d) .i64 p.frm q.frm⟩
    · exact ⟨by decide, _, _, p3 3 _ (.int .i64 p.to) w rfl, p3 3 _ (.int .i64 q.to) w rfl, eqInt_run h3 w (d) .i64 p.to q.to⟩
    · exact ⟨by decide, _, _, p5 4 _ (.int .u8 p.cur) w rfl, p5 4 _ (.int .u8 q.cur) w rfl, eqInt_run h5 w (d) .u8 p.cur q.cur⟩
    · exact ⟨by decide, _, _, p3 5 _ (.int .i64 p.n) w rfl, p3 5 _ (.int .i64 q.n) w rfl, eqInt_run h3 w (d) .i64 p.n q.n⟩
    · exact ⟨by decide, _, _, p3 6 _ (.int .i64 p.worth) w rfl, p3 6 _ (.int .i64 q.worth) w rfl, eqInt_run h3 w (d) .i64 p.worth q.worth⟩
    · exact ⟨by decide, _, _, p5 7 _ (.int .u8 p.state) w rfl, p5 7 _ (.int .u8 q.state) w rfl, eqInt_run h5 w (d) .u8 p.state q.state⟩
    · exact ⟨by decide, _, _, p3 8 _ (.int .i64 p.answered) w rfl, p3 8 _ (.int .i64 q.answered) w rfl, eqInt_run h3 w (d) .i64 p.answered q.answered⟩
    · exact ⟨by decide, _, _, p3 9 _ (.int .i64 p.returns) w rfl, p3 9 _ (.int .i64 q.returns) w rfl, eqInt_run h3 w (d) .i64 p.returns q.returns⟩
theorem Entry.len (x : Entry) : x.cells.length = 24 := rfl
theorem fieldsE : Tryz.prog.fieldsOf 27 = #[⟨ "Kind", 5, 0, false, "", "", 0⟩, ⟨ "Day", 3, 1, false, "", "", 8⟩, ⟨ "Waiver", 23, 2, false, "", "", 16⟩, ⟨ "Gift", 25, 11, false, "", "", 88⟩, ⟨ "A", 3, 21, false, "", "", 168⟩, ⟨ "B", 3, 22, false, "", "", 176⟩, ⟨ "N", 3, 23, false, "", "", 184⟩] := by kernel_rfl
theorem underE : Tryz.prog.underlying 27 = some (.struct #[⟨ "Kind", 5, 0, false, "", "", 0⟩, ⟨ "Day", 3, 1, false, "", "", 8⟩, ⟨ "Waiver", 23, 2, false, "", "", 16⟩, ⟨ "Gift", 25, 11, false, "", "", 88⟩, ⟨ "A", 3, 21, false, "", "", 168⟩, ⟨ "B", 3, 22, false, "", "", 176⟩, ⟨ "N", 3, 23, false, "", "", 184⟩]) := by kernel_rfl
def sameE (p q : Entry) (o : Nat) : Bool := match o with
  | 0 => decide (p.kind = q.kind)
  | 1 => decide (p.day = q.day)
  | 2 => decide (p.w = q.w)
  | 11 => decide (p.g = q.g)
  | 21 => decide (p.a = q.a)
  | 22 => decide (p.b = q.b)
  | _ => decide (p.n = q.n)
set_option maxRecDepth 10000 in
theorem eqInE (d : Nat) (p q : Entry) (w : World) : (Op.equalIn (d + 3) 27 p.val q.val).run C.P w = .ok (decide (p = q)) w := by
  have hs : C.P.stoodInHeld 27 = false := by kernel_rfl
  have hu : C.P.underlying 27 = some (.struct (C.P.fieldsOf 27)) := by show Tryz.prog.underlying _ = some (.struct (Tryz.prog.fieldsOf _)); rw [fieldsE]; exact underE
  have h3 : C.P.underlying 3 = some (.int .i64) := under3
  have h5 : C.P.underlying 5 = some (.int .u8) := under5
  have p3 := part_plain (t := 3) (ti := ty3) rfl rfl
  have p5 := part_plain (t := 5) (ti := ty5) rfl rfl
  rw [Entry.val, Entry.val, run_equalIn_struct w (d + 2) 27 _ _ hu hs]
  show ((Op.eqFields (d + 2) _ _ (Tryz.prog.fieldsOf 27).toList).run C.P w) = _
  rw [fieldsE]
  rw [eqFields_run (f := fun x => sameE p q x.offset)]
  · obtain ⟨a0, a1, a2, a3, a4, a5, a6⟩ := p
    obtain ⟨b0, b1, b2, b3, b4, b5, b6⟩ := q
    congr 1
    rw [Bool.eq_iff_iff]
    simp [sameE]
  · intro f hf
    simp only [List.mem_cons, List.not_mem_nil, or_false] at hf
    rcases hf with rfl | rfl | rfl | rfl | rfl | rfl | rfl
    · exact ⟨by decide, _, _, p5 0 _ (.int .u8 p.kind) w rfl, p5 0 _ (.int .u8 q.kind) w rfl, eqInt_run h5 w (d + 1) .u8 p.kind q.kind⟩
    · exact ⟨by decide, _, _, p3 1 _ (.int .i64 p.day) w rfl, p3 1 _ (.int .i64 q.day) w rfl, eqInt_run h3 w (d + 1) .i64 p.day q.day⟩
    · exact ⟨by decide, p.w.val, q.w.val, part_agg (ti := ty23) rfl rfl 2 _ w, part_agg (ti := ty23) rfl rfl 2 _ w, eqInW d p.w q.w w⟩
    · exact ⟨by decide, p.g.val, q.g.val, part_agg (ti := ty25) rfl rfl 11 _ w, part_agg (ti := ty25) rfl rfl 11 _ w, eqInG d p.g q.g w⟩
    · exact ⟨by decide, _, _, p3 21 _ (.int .i64 p.a) w rfl, p3 21 _ (.int .i64 q.a) w rfl, eqInt_run h3 w (d + 1) .i64 p.a q.a⟩
    · exact ⟨by decide, _, _, p3 22 _ (.int .i64 p.b) w rfl, p3 22 _ (.int .i64 q.b) w rfl, eqInt_run h3 w (d + 1) .i64 p.b q.b⟩
    · exact ⟨by decide, _, _, p3 23 _ (.int .i64 p.n) w rfl, p3 23 _ (.int .i64 q.n) w rfl, eqInt_run h3 w (d + 1) .i64 p.n q.n⟩
theorem neqE (x y : Operand) (p q : Entry) : EqIs C.P .neq 27 x y p.val q.val (!decide (p = q)) := by
  intro w
  have hm : C.P.eqGuardType C.P.depth 27 = false := by kernel_rfl
  rw [Sem.run_bind, Entry.val, Entry.val, run_eqGuard_agg w .neq 27 x y _ _ hm]
  simp only [Result.andThen_ok]
  rw [run_neq_struct]
  have := eqInE 9997 p q w
  rw [Entry.val, Entry.val] at this
  rw [this]
  rfl
theorem eqE (x y : Operand) (p q : Entry) : EqIs C.P .eql 27 x y p.val q.val (decide (p = q)) := by
  intro w
  have hm : C.P.eqGuardType C.P.depth 27 = false := by kernel_rfl
  rw [Sem.run_bind, Entry.val, Entry.val, run_eqGuard_agg w .eql 27 x y _ _ hm]
  simp only [Result.andThen_ok]
  rw [run_eql_struct]
  have := eqInE 9997 p q w
  rw [Entry.val, Entry.val] at this
  rw [this]
  rfl
theorem Due.len (x : Due) : x.cells.length = 3 := rfl
theorem fieldsD : Tryz.prog.fieldsOf 49 = #[⟨ "Creditor", 3, 0, false, "", "", 0⟩, ⟨ "Debtor", 3, 1, false, "", "", 8⟩, ⟨ "Waiver", 3, 2, false, "", "", 16⟩] := by kernel_rfl
theorem underD : Tryz.prog.underlying 49 = some (.struct #[⟨ "Creditor", 3, 0, false, "", "", 0⟩, ⟨ "Debtor", 3, 1, false, "", "", 8⟩, ⟨ "Waiver", 3, 2, false, "", "", 16⟩]) := by kernel_rfl
def sameD (p q : Due) (o : Nat) : Bool := match o with
  | 0 => decide (p.cred = q.cred)
  | 1 => decide (p.debt = q.debt)
  | _ => decide (p.waiver = q.waiver)
set_option maxRecDepth 10000 in
theorem eqInD (d : Nat) (p q : Due) (w : World) : (Op.equalIn (d + 2) 49 p.val q.val).run C.P w = .ok (decide (p = q)) w := by
  have hs : C.P.stoodInHeld 49 = false := by kernel_rfl
  have hu : C.P.underlying 49 = some (.struct (C.P.fieldsOf 49)) := by show Tryz.prog.underlying _ = some (.struct (Tryz.prog.fieldsOf _)); rw [fieldsD]; exact underD
  have h3 : C.P.underlying 3 = some (.int .i64) := under3
  have h5 : C.P.underlying 5 = some (.int .u8) := under5
  have p3 := part_plain (t := 3) (ti := ty3) rfl rfl
  have p5 := part_plain (t := 5) (ti := ty5) rfl rfl
  rw [Due.val, Due.val, run_equalIn_struct w (d + 1) 49 _ _ hu hs]
  show ((Op.eqFields (d + 1) _ _ (Tryz.prog.fieldsOf 49).toList).run C.P w) = _
  rw [fieldsD]
  rw [eqFields_run (f := fun x => sameD p q x.offset)]
  · obtain ⟨a0, a1, a2⟩ := p
    obtain ⟨b0, b1, b2⟩ := q
    congr 1
    rw [Bool.eq_iff_iff]
    simp [sameD]
  · intro f hf
    simp only [List.mem_cons, List.not_mem_nil, or_false] at hf
    rcases hf with rfl | rfl | rfl
    · exact ⟨by decide, _, _, p3 0 _ (.int .i64 p.cred) w rfl, p3 0 _ (.int .i64 q.cred) w rfl, eqInt_run h3 w (d) .i64 p.cred q.cred⟩
    · exact ⟨by decide, _, _, p3 1 _ (.int .i64 p.debt) w rfl, p3 1 _ (.int .i64 q.debt) w rfl, eqInt_run h3 w (d) .i64 p.debt q.debt⟩
    · exact ⟨by decide, _, _, p3 2 _ (.int .i64 p.waiver) w rfl, p3 2 _ (.int .i64 q.waiver) w rfl, eqInt_run h3 w (d) .i64 p.waiver q.waiver⟩
theorem neqD (x y : Operand) (p q : Due) : EqIs C.P .neq 49 x y p.val q.val (!decide (p = q)) := by
  intro w
  have hm : C.P.eqGuardType C.P.depth 49 = false := by kernel_rfl
  rw [Sem.run_bind, Due.val, Due.val, run_eqGuard_agg w .neq 49 x y _ _ hm]
  simp only [Result.andThen_ok]
  rw [run_neq_struct]
  have := eqInD 9998 p q w
  rw [Due.val, Due.val] at this
  rw [this]
  rfl
theorem IPair.len (x : IPair) : x.cells.length = 2 := rfl
theorem fieldsP : Tryz.prog.fieldsOf 51 = #[⟨ "A", 3, 0, false, "", "", 0⟩, ⟨ "B", 3, 1, false, "", "", 8⟩] := by kernel_rfl
theorem underP : Tryz.prog.underlying 51 = some (.struct #[⟨ "A", 3, 0, false, "", "", 0⟩, ⟨ "B", 3, 1, false, "", "", 8⟩]) := by kernel_rfl
def sameP (p q : IPair) (o : Nat) : Bool := match o with
  | 0 => decide (p.a = q.a)
  | _ => decide (p.b = q.b)
set_option maxRecDepth 10000 in
theorem eqInP (d : Nat) (p q : IPair) (w : World) : (Op.equalIn (d + 2) 51 p.val q.val).run C.P w = .ok (decide (p = q)) w := by
  have hs : C.P.stoodInHeld 51 = false := by kernel_rfl
  have hu : C.P.underlying 51 = some (.struct (C.P.fieldsOf 51)) := by show Tryz.prog.underlying _ = some (.struct (Tryz.prog.fieldsOf _)); rw [fieldsP]; exact underP
  have h3 : C.P.underlying 3 = some (.int .i64) := under3
  have h5 : C.P.underlying 5 = some (.int .u8) := under5
  have p3 := part_plain (t := 3) (ti := ty3) rfl rfl
  have p5 := part_plain (t := 5) (ti := ty5) rfl rfl
  rw [IPair.val, IPair.val, run_equalIn_struct w (d + 1) 51 _ _ hu hs]
  show ((Op.eqFields (d + 1) _ _ (Tryz.prog.fieldsOf 51).toList).run C.P w) = _
  rw [fieldsP]
  rw [eqFields_run (f := fun x => sameP p q x.offset)]
  · obtain ⟨a0, a1⟩ := p
    obtain ⟨b0, b1⟩ := q
    congr 1
    rw [Bool.eq_iff_iff]
    simp [sameP]
  · intro f hf
    simp only [List.mem_cons, List.not_mem_nil, or_false] at hf
    rcases hf with rfl | rfl
    · exact ⟨by decide, _, _, p3 0 _ (.int .i64 p.a) w rfl, p3 0 _ (.int .i64 q.a) w rfl, eqInt_run h3 w (d) .i64 p.a q.a⟩
    · exact ⟨by decide, _, _, p3 1 _ (.int .i64 p.b) w rfl, p3 1 _ (.int .i64 q.b) w rfl, eqInt_run h3 w (d) .i64 p.b q.b⟩
theorem neqP (x y : Operand) (p q : IPair) : EqIs C.P .neq 51 x y p.val q.val (!decide (p = q)) := by
  intro w
  have hm : C.P.eqGuardType C.P.depth 51 = false := by kernel_rfl
  rw [Sem.run_bind, IPair.val, IPair.val, run_eqGuard_agg w .neq 51 x y _ _ hm]
  simp only [Result.andThen_ok]
  rw [run_neq_struct]
  have := eqInP 9998 p q w
  rw [IPair.val, IPair.val] at this
  rw [this]
  rfl
structure HL {α : Type} (enc : α → List Value) (w : World) (A : Option Addr) (l : List α) (c : Nat) : Prop where
  reads : Reads w A (l.flatMap enc)
  len : l.length ≤ c
  cap : l.length ≤ 9223372036854775807
theorem HL.ext {α : Type} {enc : α → List Value} {w w' : World} {A : Option Addr} {l : List α} {c : Nat} (h : HL enc w A l c) (e : Ext w w') : HL enc w' A l c := ⟨h.reads.ext e, h.len, h.cap⟩
def NewL {α : Type} (enc : α → List Value) (T k : Nat) (B : Nat) (w : World) (v : Value) (l : List α) : Prop := w.ownsRow B T k v l.length (l.flatMap enc)
theorem NewL.base {α : Type} {enc : α → List Value} {T k B B' : Nat} {w : World} {v : Value} {l : List α} (h : NewL enc T k B' w v l) (hb : B ≤ B') : NewL enc T k B w v l := ownsRow_base h hb
theorem NewL.ext {α : Type} {enc : α → List Value} {T k B : Nat} {w w' : World} {v : Value} {l : List α} (h : NewL enc T k B w v l) (e : Ext w w') : NewL enc T k B w' v l := ownsRow_ext h e
theorem newL_nil {α : Type} {enc : α → List Value} {T k B : Nat} {w : World} : NewL enc T k B w (.slice none 0 0) ([] : List α) := World.ownsRow_nil _ _ _ _
theorem NewL.hl {α : Type} {enc : α → List Value} {T k B : Nat} {w : World} {v : Value} {l : List α} (h : NewL enc T k B w v l) : ∃ A c, v = .slice A l.length c ∧ HL enc w A l c := by
  obtain ⟨A, c, rfl, hr, hc⟩ := reads_of_owns h
  exact ⟨A, c, rfl, hr, hc, ownsRow_len h⟩
theorem HL.at {α : Type} {enc : α → List Value} {w : World} {A : Option Addr} {l : List α} {c k : Nat} (h : HL enc w A l c) (hk : ∀ x, (enc x).length = k) (k0 : 0 < k) {i : Nat} (hi : i < l.length) : ∃ b o, A = some ⟨b, o, none⟩ ∧ Rd w b (o + i * k) (enc l[i]) := Reads.elem hk k0 h.reads hi
end Go.Proofs.YtahgjidcaeieaaaGreatDoor
namespace Go.Proofs.YtahgjidcaeieaaaGreatDoor
open Go.Eng Go.RowKit
theorem in_spec (n a b : Int) (w : World) : CallsV C.P 31 #[.int .i64 n, .int .i64 a, .int .i64 b] w fun v w' => v = .bool (inB n a b) ∧ w' = w := by
  refine callsV_of C_ok (args := [_, _, _]) (plans := []) Tryz.func31 rfl Tryz.ntmps31 (by kernel_rfl) (Nat.le_of_ble_eq_true rfl) ?_
  refine brE_dec (fun h1 => ?_) (fun h1 => ?_)
  · refine ⟨congrArg Value.bool ?_, rfl⟩
    have h1 : a ≤ n := h1
    rw [Bool.eq_iff_iff]; simp only [decide_eq_true_eq]; omega
  · refine ⟨congrArg Value.bool ?_, rfl⟩
    have h1 : ¬ a ≤ n := h1
    rw [inB, decide_eq_false]; omega
theorem within6_spec (n a b : Int) (w : World) : CallsV C.P 54 #[.int .i64 n, .int .i64 a, .int .i64 b] w fun v w' => v = .bool (inB n a b) ∧ w' = w := by
  refine callsV_of C_ok (args := [_, _, _]) (plans := []) Tryz.func54 rfl Tryz.ntmps54 (by kernel_rfl) (Nat.le_of_ble_eq_true rfl) ?_
  refine brE_dec (fun h1 => ?_) (fun h1 => ?_)
  · refine ⟨congrArg Value.bool ?_, rfl⟩
    have h1 : a ≤ n := h1
    rw [Bool.eq_iff_iff]; simp only [decide_eq_true_eq]; omega
  · refine ⟨congrArg Value.bool ?_, rfl⟩
    have h1 : ¬ a ≤ n := h1
    rw [inB, decide_eq_false]; omega
theorem isId_spec (n : Int) (w : World) : CallsV C.P 51 #[.int .i64 n] w fun v w' => v = .bool (idB n) ∧ w' = w := by
  refine callsV_of C_ok (args := [_]) (plans := []) Tryz.func51 rfl Tryz.ntmps51 (by kernel_rfl) (Nat.le_of_ble_eq_true rfl) ?_
  refine (in_spec n 1 1000000 w).mono ?_
  rintro _ w' ⟨rfl, rfl⟩
  exact ⟨rfl, rfl⟩
theorem id6_spec (n : Int) (w : World) : CallsV C.P 55 #[.int .i64 n] w fun v w' => v = .bool (idB n) ∧ w' = w := by
  refine callsV_of C_ok (args := [_]) (plans := []) Tryz.func55 rfl Tryz.ntmps55 (by kernel_rfl) (Nat.le_of_ble_eq_true rfl) ?_
  refine brE_dec (fun h1 => ?_) (fun h1 => ?_)
  · refine ⟨congrArg Value.bool ?_, rfl⟩
    have h1 : 1 ≤ n := h1
    rw [Bool.eq_iff_iff]; simp only [decide_eq_true_eq]; omega
  · refine ⟨congrArg Value.bool ?_, rfl⟩
    have h1 : ¬ 1 ≤ n := h1
    rw [idB, decide_eq_false]; omega
def persB (n : Int) : Bool := decide (n = 0) || idB n
theorem pers_spec (n : Int) (w : World) : CallsV C.P 76 (#[] ++ [.int .i64 n].toArray ++ #[]) w fun v w' => v = .bool (persB n) ∧ w' = w := by
  refine callsV_of C_ok (args := [_]) (plans := []) Tryz.func76 rfl Tryz.ntmps76 (by kernel_rfl) (Nat.le_of_ble_eq_true rfl) ?_
  refine brE_dec (fun h1 => ?_) (fun h1 => ?_)
  · have h1 : n = 0 := h1
    exact ⟨congrArg Value.bool (by unfold persB; rw [decide_eq_true h1]; rfl), rfl⟩
  · have h1 : ¬ n = 0 := h1
    refine (isId_spec n w).mono ?_
    rintro _ w' ⟨rfl, rfl⟩
    exact ⟨congrArg Value.bool (by unfold persB; rw [decide_eq_false h1]; rfl), rfl⟩
def idsW (x : Waiv) : Bool := inB x.id 1 500 && idB x.signer && idB x.giver && idB x.taker && !decide (x.giver = x.taker)
def guestsW (x : Waiv) : Bool := persB x.under && persB x.over && (decide (x.under = 0) || !decide (x.under = x.over))
theorem rightW_parts (x : Waiv) : rightW x = (idsW x && guestsW x && inB x.day 0 100000 && decide (x.day ≤ x.since) && decide (x.since < x.til) && decide (x.til ≤ 100000)) := by
  unfold rightW idsW guestsW persB
  simp only [Bool.and_assoc]
set_option maxRecDepth 100000 in
theorem rightW_spec (x : Waiv) (w : World) : CallsV C.P 52 #[x.val] w fun v w' => v = .bool (rightW x) ∧ Ext w w' := by
  refine callsV_ofS (args := [_]) Tryz.func52 rfl Tryz.ntmps52 C_ok (Nat.le_of_ble_eq_true rfl) ?_
  refine Snd.go C_ok [] (by kernel_rfl) ?_
  intro g1 w1 h1
  have M1 : Mem w w1 [(g1, .cells x.cells.toArray 23 (0, 0))] := (Mem.start w).alloc h1
  refine ⟨Snd.go C_ok [] (by kernel_rfl) ?_⟩
  refine ⟨Snd.join C_ok [] (fun b : Bool => [(1, .pointer (some ⟨g1, 0, none⟩)), (3, .func (.func 76) #[] #[]), (4, .bool b)]) (fun b w' => w' = w1 ∧ b = idsW x) (by kernel_rfl) ?_ ?_⟩
  · have hE : idsW x = (inB x.id 1 500 && idB x.signer && idB x.giver && idB x.taker && !decide (x.giver = x.taker)) := rfl
    refine ⟨_, M1.cell 0 rfl rfl, ?_⟩
    refine (in_spec x.id 1 500 _).mono ?_
    rintro _ w9 ⟨rfl, rfl⟩
    refine brE_mk (fun q => ?_) (fun q => ⟨false, ⟨rfl, rfl, rfl, trivial⟩, rfl, by rw [hE, show inB x.id 1 500 = false from q]; simp only [Bool.and_false, Bool.false_and]⟩)
    have q0 : inB x.id 1 500 = true := q
    refine ⟨_, M1.cell 0 rfl rfl, ?_⟩
    refine (isId_spec x.signer _).mono ?_
    rintro _ w9 ⟨rfl, rfl⟩
    refine brE_mk (fun q => ?_) (fun q => ⟨false, ⟨rfl, rfl, rfl, trivial⟩, rfl, by rw [hE, show idB x.signer = false from q]; simp only [Bool.and_false, Bool.false_and]⟩)
    have q1 : idB x.signer = true := q
    refine ⟨_, M1.cell 0 rfl rfl, ?_⟩
    refine (isId_spec x.giver _).mono ?_
    rintro _ w9 ⟨rfl, rfl⟩
    refine brE_mk (fun q => ?_) (fun q => ⟨false, ⟨rfl, rfl, rfl, trivial⟩, rfl, by rw [hE, show idB x.giver = false from q]; simp only [Bool.and_false, Bool.false_and]⟩)
    have q2 : idB x.giver = true := q
    refine ⟨_, M1.cell 0 rfl rfl, ?_⟩
    refine (isId_spec x.taker _).mono ?_
    rintro _ w9 ⟨rfl, rfl⟩
    refine brE_mk (fun q => ?_) (fun q => ⟨false, ⟨rfl, rfl, rfl, trivial⟩, rfl, by rw [hE, show idB x.taker = false from q]; simp only [Bool.and_false, Bool.false_and]⟩)
    have q3 : idB x.taker = true := q
    refine ⟨_, M1.cell 0 rfl rfl, ?_⟩
    refine ⟨_, M1.cell 0 rfl rfl, ?_⟩
    exact ⟨!decide (x.giver = x.taker), ⟨rfl, rfl, rfl, trivial⟩, rfl, by rw [hE]; simp only [q0, q1, q2, q3, Bool.true_and]⟩
  rintro b1 w1' ⟨rfl, hb1⟩
  refine Snd.join C_ok [] (fun b : Bool => [(1, .pointer (some ⟨g1, 0, none⟩)), (4, .bool b1), (5, .bool b)]) (fun b w' => w' = w1' ∧ b = guestsW x) (by kernel_rfl) ?_ ?_
  · have hE : guestsW x = (persB x.under && persB x.over && (decide (x.under = 0) || !decide (x.under = x.over))) := rfl
    refine ⟨_, M1.cell 0 rfl rfl, ?_⟩
    refine (pers_spec x.under _).mono ?_
    rintro _ w9 ⟨rfl, rfl⟩
    refine brE_mk (fun q => ?_) (fun q => ⟨false, ⟨rfl, rfl, rfl, trivial⟩, rfl, by rw [hE, show persB x.under = false from q]; simp only [Bool.and_false, Bool.false_and]⟩)
    have q0 : persB x.under = true := q
    refine ⟨_, M1.cell 0 rfl rfl, ?_⟩
    refine (pers_spec x.over _).mono ?_
    rintro _ w9 ⟨rfl, rfl⟩
    refine brE_mk (fun q => ?_) (fun q => ⟨false, ⟨rfl, rfl, rfl, trivial⟩, rfl, by rw [hE, show persB x.over = false from q]; simp only [Bool.and_false, Bool.false_and]⟩)
    have q1 : persB x.over = true := q
    refine ⟨_, M1.cell 0 rfl rfl, ?_⟩
    refine brE_dec (fun q => ?_) (fun q => ?_)
    · have q : x.under = 0 := q
      exact ⟨true, ⟨rfl, rfl, rfl, trivial⟩, rfl, by rw [hE, q0, q1, decide_eq_true q]; rfl⟩
    · have q : ¬ x.under = 0 := q
      refine ⟨_, M1.cell 0 rfl rfl, ?_⟩
      refine ⟨_, M1.cell 0 rfl rfl, ?_⟩
      exact ⟨!decide (x.under = x.over), ⟨rfl, rfl, rfl, trivial⟩, rfl, by rw [hE, q0, q1, decide_eq_false q]; rfl⟩
  rintro b2 w2 ⟨rfl, hb2⟩
  refine Snd.fin C_ok (plans := []) (by kernel_rfl) ?_
  rw [rightW_parts, ← hb1, ← hb2]
  refine brE_mk (fun q => ?_) (fun q => ⟨congrArg Value.bool (by rw [show b1 = false from q]; simp only [Bool.and_false, Bool.false_and]), M1.ext⟩)
  have q0 : b1 = true := q
  refine brE_mk (fun q => ?_) (fun q => ⟨congrArg Value.bool (by rw [show b2 = false from q]; simp only [Bool.and_false, Bool.false_and]), M1.ext⟩)
  have q1 : b2 = true := q
  refine ⟨_, M1.cell 0 rfl rfl, ?_⟩
  refine (in_spec x.day 0 100000 _).mono ?_
  rintro _ w9 ⟨rfl, rfl⟩
  refine brE_mk (fun q => ?_) (fun q => ⟨congrArg Value.bool (by rw [show inB x.day 0 100000 = false from q]; simp only [Bool.and_false, Bool.false_and]), M1.ext⟩)
  have q2 : inB x.day 0 100000 = true := q
  refine ⟨_, M1.cell 0 rfl rfl, ?_⟩
  refine ⟨_, M1.cell 0 rfl rfl, ?_⟩
  refine brE_mk (fun q => ?_) (fun q => ⟨congrArg Value.bool (by rw [show decide (x.day ≤ x.since) = false from q]; simp only [Bool.and_false, Bool.false_and]), M1.ext⟩)
  have q3 : decide (x.day ≤ x.since) = true := q
  refine ⟨_, M1.cell 0 rfl rfl, ?_⟩
  refine ⟨_, M1.cell 0 rfl rfl, ?_⟩
  refine brE_mk (fun q => ?_) (fun q => ⟨congrArg Value.bool (by rw [show decide (x.since < x.til) = false from q]; simp only [Bool.and_false, Bool.false_and]), M1.ext⟩)
  have q4 : decide (x.since < x.til) = true := q
  refine ⟨_, M1.cell 0 rfl rfl, ?_⟩
  exact ⟨congrArg Value.bool (by simp only [q0, q1, q2, q3, q4, Bool.true_and]), M1.ext⟩
structure Waiv.Nums (x : Waiv) : Prop where
  id : In64 x.id
  day : In64 x.day
  signer : In64 x.signer
  giver : In64 x.giver
  taker : In64 x.taker
  under : In64 x.under
  over : In64 x.over
  since : In64 x.since
  til : In64 x.til
structure Gift.Nums (x : Gift) : Prop where
  id : In64 x.id
  day : In64 x.day
  frm : In64 x.frm
  to : In64 x.to
  cur : 0 ≤ x.cur ∧ x.cur ≤ 255
  n : In64 x.n
  worth : In64 x.worth
  state : 0 ≤ x.state ∧ x.state ≤ 255
  answered : In64 x.answered
  returns : In64 x.returns
structure Entry.Nums (x : Entry) : Prop where
  kind : 0 ≤ x.kind ∧ x.kind ≤ 255
  day : In64 x.day
  w : x.w.Nums
  g : x.g.Nums
  a : In64 x.a
  b : In64 x.b
  n : In64 x.n
theorem Entry.w_part (x : Entry) : ∀ i v, x.w.cells[i]? = some v → x.cells[2 + i]? = some v := by
  intro i v h
  match i, h with
  | 0, h | 1, h | 2, h | 3, h | 4, h | 5, h | 6, h | 7, h | 8, h => exact h
  | n + 9, h => exact absurd (List.getElem?_eq_some_iff.1 h).1 (by rw [Waiv.len]; omega)
theorem Entry.g_part (x : Entry) : ∀ i v, x.g.cells[i]? = some v → x.cells[11 + i]? = some v := by
  intro i v h
  match i, h with
  | 0, h | 1, h | 2, h | 3, h | 4, h | 5, h | 6, h | 7, h | 8, h | 9, h => exact h
  | n + 10, h => exact absurd (List.getElem?_eq_some_iff.1 h).1 (by rw [Gift.len]; omega)
def idsG (x : Gift) : Bool := inB x.id 1 500 && idB x.frm && idB x.to && !decide (x.frm = x.to) && inB x.returns 0 500 && !decide (x.returns = x.id)
theorem rightG_day (x : Gift) (d : Int) : (rightG x && decide (x.day = d)) = (idsG x && decide (x.day = d) && inB x.cur 1 2 && inB x.n 1 1000000) := by
  unfold rightG
  have e : (inB x.id 1 500 && idB x.frm && idB x.to && !decide (x.frm = x.to) && inB x.returns 0 500 && !decide (x.returns = x.id)) = idsG x := rfl
  rw [e]
  generalize idsG x = a
  generalize decide (x.day = d) = b
  generalize inB x.cur 1 2 = c
  generalize inB x.n 1 1000000 = e
  cases a <;> cases b <;> cases c <;> cases e <;> rfl
set_option maxRecDepth 100000 in
set_option maxHeartbeats 2000000 in
theorem formed_spec (x : Entry) (hx : x.Nums) (w : World) : CallsV C.P 20 #[x.val] w fun v w' => v = .bool (formX x) ∧ Ext w w' := by
  refine callsV_ofS (args := [_]) Tryz.func20 rfl Tryz.ntmps20 C_ok (Nat.le_of_ble_eq_true rfl) ?_
  refine Snd.go C_ok plans20 (by kernel_rfl) ?_
  intro g1 w1 h1
  have M1 : Mem w w1 [(g1, .cells x.cells.toArray 27 (0, 0))] := (Mem.start w).alloc h1
  refine ⟨Snd.go C_ok plans20 (by kernel_rfl) ?_⟩
  refine ⟨_, M1.cell 0 rfl rfl, ?_⟩
  refine ⟨_, M1.cell 0 rfl rfl, ?_⟩
  intro g3 w2 h2
  have M2 := M1.alloc h2
  refine ⟨rfl, _, _, M2.get 0 rfl, Nat.le_of_ble_eq_true rfl, rfl, ?_⟩
  intro w3 h3
  have M3 : Mem w w3 [(g3, .cells (⟨x.kind, x.day, waivZ, giftZ, 0, 0, 0⟩ : Entry).cells.toArray 27 (0, 0)), (g1, .cells x.cells.toArray 27 (0, 0))] := M2.put 0 rfl h3
  have hne : g3 ≠ g1 := fun e => by
    have := M3.nodup
    simp [e] at this
  clear M1 M2 h1 h2 h3
  refine ⟨Snd.go C_ok plans20 (by kernel_rfl) ?_⟩
  refine ⟨Snd.join C_ok plans20 (fun s : Entry × Bool => [(1, .pointer (some ⟨g1, 0, none⟩)), (3, .pointer (some ⟨g3, 0, none⟩)), (4, .bool s.2)]) (fun s w' => Mem w w' [(g3, .cells s.1.cells.toArray 27 (0, 0)), (g1, .cells x.cells.toArray 27 (0, 0))] ∧ s.1 = wantE x ∧ s.2 = okE x) (by kernel_rfl) ?_ ?_⟩
  · refine ⟨_, M3.cell 1 rfl rfl, ?_⟩
    refine brE_dec (fun k1 => ?_) (fun k1 => ?_)
    · have k1 : x.kind = 1 := k1
      have hE : okE x = (inB x.a 1 2 && inB x.n 1 1000000) := by unfold okE; rw [if_pos k1]
      have hW : (⟨x.kind, x.day, waivZ, giftZ, x.a, 0, x.n⟩ : Entry) = wantE x := by unfold wantE; rw [if_pos (.inl k1)]
      refine ⟨fun q => q = g1, ?_⟩
      refine ⟨_, M3.cell 1 rfl rfl, ?_⟩
      refine ⟨.int .i64 x.n, fun u hu => ⟨_, hu.cell rfl (M3.cell 1 (i := 23) rfl rfl), rfl⟩, ?_⟩
      refine ⟨rfl, _, _, M3.get 0 rfl, Nat.le_of_ble_eq_true rfl, rfl, ?_⟩
      intro w4 h4
      have M4 := M3.put 0 rfl h4
      refine ⟨(Keep.refl _ w3).put h4 hne, ?_⟩
      refine ⟨rfl, _, _, M4.get 0 rfl, Nat.le_of_ble_eq_true rfl, rfl, ?_⟩
      intro w5 h5
      have M5 : Mem w w5 [(g3, .cells (⟨x.kind, x.day, waivZ, giftZ, x.a, 0, x.n⟩ : Entry).cells.toArray 27 (0, 0)), (g1, .cells x.cells.toArray 27 (0, 0))] := M4.put 0 rfl h5
      refine ⟨_, M5.cell 1 rfl rfl, ?_⟩
      refine (in_spec x.a 1 2 _).mono ?_
      rintro _ w9 ⟨rfl, rfl⟩
      refine brE_mk (fun q => ?_) (fun q => ⟨(_, false), ⟨rfl, rfl, rfl, trivial⟩, M5, hW, by rw [hE, show inB x.a 1 2 = false from q]; simp only [Bool.and_false, Bool.false_and]⟩)
      have q0 : inB x.a 1 2 = true := q
      refine ⟨_, M5.cell 1 rfl rfl, ?_⟩
      refine (in_spec x.n 1 1000000 _).mono ?_
      rintro _ w9 ⟨rfl, rfl⟩
      exact ⟨(_, inB x.n 1 1000000), ⟨rfl, rfl, rfl, trivial⟩, M5, hW, by rw [hE]; simp only [q0, Bool.true_and]⟩
    have k1 : ¬ x.kind = 1 := k1
    refine brE_dec (fun k2 => ?_) (fun k2 => ?_)
    · have k2 : x.kind = 2 := k2
      have hE : okE x = (idB x.a && inB x.n 1 1000000000000) := by unfold okE; rw [if_neg k1, if_pos k2]
      have hW : (⟨x.kind, x.day, waivZ, giftZ, x.a, 0, x.n⟩ : Entry) = wantE x := by unfold wantE; rw [if_pos (.inr k2)]
      refine ⟨fun q => q = g1, ?_⟩
      refine ⟨_, M3.cell 1 rfl rfl, ?_⟩
      refine ⟨.int .i64 x.n, fun u hu => ⟨_, hu.cell rfl (M3.cell 1 (i := 23) rfl rfl), rfl⟩, ?_⟩
      refine ⟨rfl, _, _, M3.get 0 rfl, Nat.le_of_ble_eq_true rfl, rfl, ?_⟩
      intro w4 h4
      have M4 := M3.put 0 rfl h4
      refine ⟨(Keep.refl _ w3).put h4 hne, ?_⟩
      refine ⟨rfl, _, _, M4.get 0 rfl, Nat.le_of_ble_eq_true rfl, rfl, ?_⟩
      intro w5 h5
      have M5 : Mem w w5 [(g3, .cells (⟨x.kind, x.day, waivZ, giftZ, x.a, 0, x.n⟩ : Entry).cells.toArray 27 (0, 0)), (g1, .cells x.cells.toArray 27 (0, 0))] := M4.put 0 rfl h5
      refine ⟨_, M5.cell 1 rfl rfl, ?_⟩
      refine (isId_spec x.a _).mono ?_
      rintro _ w9 ⟨rfl, rfl⟩
      refine brE_mk (fun q => ?_) (fun q => ⟨(_, false), ⟨rfl, rfl, rfl, trivial⟩, M5, hW, by rw [hE, show idB x.a = false from q]; simp only [Bool.and_false, Bool.false_and]⟩)
      have q0 : idB x.a = true := q
      refine ⟨_, M5.cell 1 rfl rfl, ?_⟩
      refine (in_spec x.n 1 1000000000000 _).mono ?_
      rintro _ w9 ⟨rfl, rfl⟩
      exact ⟨(_, inB x.n 1 1000000000000), ⟨rfl, rfl, rfl, trivial⟩, M5, hW, by rw [hE]; simp only [q0, Bool.true_and]⟩
    have k2 : ¬ x.kind = 2 := k2
    refine brE_dec (fun k3 => ?_) (fun k3 => ?_)
    · have k3 : x.kind = 3 := k3
      have hE : okE x = (rightW x.w && decide (x.w.day = x.day)) := by unfold okE; rw [if_neg k1, if_neg k2, if_pos k3]
      have hW : (⟨x.kind, x.day, x.w, giftZ, 0, 0, 0⟩ : Entry) = wantE x := by unfold wantE; rw [if_neg (fun e => e.elim k1 k2), if_pos k3]
      refine ⟨x.w.cells, rfl, (M3.rd 1 rfl).part x.w_part, ?_⟩
      refine ⟨rfl, _, _, M3.get 0 rfl, Nat.le_of_ble_eq_true rfl, rfl, ?_⟩
      intro w4 h4
      have M5 : Mem w w4 [(g3, .cells (⟨x.kind, x.day, x.w, giftZ, 0, 0, 0⟩ : Entry).cells.toArray 27 (0, 0)), (g1, .cells x.cells.toArray 27 (0, 0))] := M3.put 0 rfl h4
      refine ⟨x.w.cells, rfl, (M5.rd 1 rfl).part x.w_part, ?_⟩
      refine (rightW_spec x.w _).mono ?_
      rintro _ w9 ⟨rfl, e9⟩
      have M6 := M5.grow e9
      refine brE_mk (fun q => ?_) (fun q => ⟨(_, false), ⟨rfl, rfl, rfl, trivial⟩, M6, hW, by rw [hE, show rightW x.w = false from q]; simp only [Bool.and_false, Bool.false_and]⟩)
      have q0 : rightW x.w = true := q
      refine ⟨_, M6.cell 1 rfl rfl, ?_⟩
      refine ⟨_, M6.cell 1 rfl rfl, ?_⟩
      exact ⟨(_, decide (x.w.day = x.day)), ⟨rfl, rfl, rfl, trivial⟩, M6, hW, by rw [hE]; simp only [q0, Bool.true_and]⟩
    have k3 : ¬ x.kind = 3 := k3
    refine brE_dec (fun k4 => ?_) (fun k4 => ?_)
    · have k4 : x.kind = 4 := k4
      have hE : okE x = (inB x.w.id 1 500) := by unfold okE; rw [if_neg k1, if_neg k2, if_neg k3, if_pos k4]
      have hW : (⟨x.kind, x.day, { waivZ with id := x.w.id }, giftZ, 0, 0, 0⟩ : Entry) = wantE x := by unfold wantE; rw [if_neg (fun e => e.elim k1 k2), if_neg k3, if_pos k4]
      refine ⟨_, M3.cell 1 rfl rfl, ?_⟩
      refine ⟨rfl, _, _, M3.get 0 rfl, Nat.le_of_ble_eq_true rfl, rfl, ?_⟩
      intro w4 h4
      have M5 : Mem w w4 [(g3, .cells (⟨x.kind, x.day, { waivZ with id := x.w.id }, giftZ, 0, 0, 0⟩ : Entry).cells.toArray 27 (0, 0)), (g1, .cells x.cells.toArray 27 (0, 0))] := M3.put 0 rfl h4
      refine ⟨_, M5.cell 1 rfl rfl, ?_⟩
      refine (in_spec x.w.id 1 500 _).mono ?_
      rintro _ w9 ⟨rfl, rfl⟩
      exact ⟨(_, inB x.w.id 1 500), ⟨rfl, rfl, rfl, trivial⟩, M5, hW, by rw [hE]⟩
    have k4 : ¬ x.kind = 4 := k4
    refine brE_dec (fun k5 => ?_) (fun k5 => ?_)
    · have k5 : x.kind = 5 := k5
      have hE : okE x = (rightG x.g && decide (x.g.day = x.day)) := by unfold okE; rw [if_neg k1, if_neg k2, if_neg k3, if_neg k4, if_pos k5]
      have hW : (⟨x.kind, x.day, waivZ, plainG x.g, 0, 0, 0⟩ : Entry) = wantE x := by unfold wantE; rw [if_neg (fun e => e.elim k1 k2), if_neg k3, if_neg k4, if_pos k5]
      rw [rightG_day] at hE
      refine ⟨x.g.cells, rfl, (M3.rd 1 rfl).part x.g_part, ?_⟩
      intro g5 w4 h4
      have M4 := M3.alloc h4
      refine ⟨rfl, _, _, M4.get 0 rfl, Nat.le_of_ble_eq_true rfl, rfl, ?_⟩
      intro w5 h5
      have M5 : Mem w w5 [(g5, .cells x.g.cells.toArray 25 (0, 0)), (g3, .cells (⟨x.kind, x.day, waivZ, giftZ, 0, 0, 0⟩ : Entry).cells.toArray 27 (0, 0)), (g1, .cells x.cells.toArray 27 (0, 0))] := M4.put 0 rfl h5
      clear M4 h4 h5
      refine ⟨_, M5.cell 0 rfl rfl, ?_⟩
      refine ⟨_, M5.cell 0 rfl rfl, ?_⟩
      refine ⟨_, M5.cell 0 rfl rfl, ?_⟩
      refine ⟨_, M5.cell 0 rfl rfl, ?_⟩
      refine ⟨_, M5.cell 0 rfl rfl, ?_⟩
      refine ⟨_, M5.cell 0 rfl rfl, ?_⟩
      refine ⟨_, M5.cell 0 rfl rfl, ?_⟩
      refine ⟨rfl, _, _, M5.get 1 rfl, Nat.le_of_ble_eq_true rfl, rfl, ?_⟩
      intro w6 h6
      have M6 : Mem w w6 [(g5, .cells x.g.cells.toArray 25 (0, 0)), (g3, .cells (⟨x.kind, x.day, waivZ, plainG x.g, 0, 0, 0⟩ : Entry).cells.toArray 27 (0, 0)), (g1, .cells x.cells.toArray 27 (0, 0))] := M5.put 1 rfl h6
      have M7 : Mem w w6 [(g3, .cells (⟨x.kind, x.day, waivZ, plainG x.g, 0, 0, 0⟩ : Entry).cells.toArray 27 (0, 0)), (g1, .cells x.cells.toArray 27 (0, 0))] := M6.tail
      have hI : idsG x.g = (inB x.g.id 1 500 && idB x.g.frm && idB x.g.to && !decide (x.g.frm = x.g.to) && inB x.g.returns 0 500 && !decide (x.g.returns = x.g.id)) := rfl
      rw [hI] at hE
      refine ⟨_, M6.cell 0 rfl rfl, ?_⟩
      refine (in_spec x.g.id 1 500 _).mono ?_
      rintro _ w9 ⟨rfl, rfl⟩
      refine brE_mk (fun q => ?_) (fun q => ⟨(_, false), ⟨rfl, rfl, rfl, trivial⟩, M7, hW, by rw [hE, show inB x.g.id 1 500 = false from q]; simp only [Bool.and_false, Bool.false_and]⟩)
      have q0 : inB x.g.id 1 500 = true := q
      refine ⟨_, M6.cell 0 rfl rfl, ?_⟩
      refine (isId_spec x.g.frm _).mono ?_
      rintro _ w9 ⟨rfl, rfl⟩
      refine brE_mk (fun q => ?_) (fun q => ⟨(_, false), ⟨rfl, rfl, rfl, trivial⟩, M7, hW, by rw [hE, show idB x.g.frm = false from q]; simp only [Bool.and_false, Bool.false_and]⟩)
      have q1 : idB x.g.frm = true := q
      refine ⟨_, M6.cell 0 rfl rfl, ?_⟩
      refine (isId_spec x.g.to _).mono ?_
      rintro _ w9 ⟨rfl, rfl⟩
      refine brE_mk (fun q => ?_) (fun q => ⟨(_, false), ⟨rfl, rfl, rfl, trivial⟩, M7, hW, by rw [hE, show idB x.g.to = false from q]; simp only [Bool.and_false, Bool.false_and]⟩)
      have q2 : idB x.g.to = true := q
      refine ⟨_, M6.cell 0 rfl rfl, ?_⟩
      refine ⟨_, M6.cell 0 rfl rfl, ?_⟩
      refine brE_mk (fun q => ?_) (fun q => ⟨(_, false), ⟨rfl, rfl, rfl, trivial⟩, M7, hW, by rw [hE, show (!decide (x.g.frm = x.g.to)) = false from q]; simp only [Bool.and_false, Bool.false_and]⟩)
      have q3 : (!decide (x.g.frm = x.g.to)) = true := q
      refine ⟨_, M6.cell 0 rfl rfl, ?_⟩
      refine (in_spec x.g.returns 0 500 _).mono ?_
      rintro _ w9 ⟨rfl, rfl⟩
      refine brE_mk (fun q => ?_) (fun q => ⟨(_, false), ⟨rfl, rfl, rfl, trivial⟩, M7, hW, by rw [hE, show inB x.g.returns 0 500 = false from q]; simp only [Bool.and_false, Bool.false_and]⟩)
      have q4 : inB x.g.returns 0 500 = true := q
      refine ⟨_, M6.cell 0 rfl rfl, ?_⟩
      refine ⟨_, M6.cell 0 rfl rfl, ?_⟩
      refine brE_mk (fun q => ?_) (fun q => ⟨(_, false), ⟨rfl, rfl, rfl, trivial⟩, M7, hW, by rw [hE, show (!decide (x.g.returns = x.g.id)) = false from q]; simp only [Bool.and_false, Bool.false_and]⟩)
      have q5 : (!decide (x.g.returns = x.g.id)) = true := q
      refine ⟨_, M6.cell 0 rfl rfl, ?_⟩
      refine ⟨_, M6.cell 2 rfl rfl, ?_⟩
      refine brE_mk (fun q => ?_) (fun q => ⟨(_, false), ⟨rfl, rfl, rfl, trivial⟩, M7, hW, by rw [hE, show decide (x.g.day = x.day) = false from q]; simp only [Bool.and_false, Bool.false_and]⟩)
      have q6 : decide (x.g.day = x.day) = true := q
      refine ⟨_, M6.cell 0 rfl rfl, ?_⟩
      refine ⟨_, fit ⟨by have := hx.g.cur; omega, by have := hx.g.cur; omega⟩, ?_⟩
      refine (in_spec x.g.cur 1 2 _).mono ?_
      rintro _ w9 ⟨rfl, rfl⟩
      refine brE_mk (fun q => ?_) (fun q => ⟨(_, false), ⟨rfl, rfl, rfl, trivial⟩, M7, hW, by rw [hE, show inB x.g.cur 1 2 = false from q]; simp only [Bool.and_false, Bool.false_and]⟩)
      have q7 : inB x.g.cur 1 2 = true := q
      refine ⟨_, M6.cell 0 rfl rfl, ?_⟩
      refine (in_spec x.g.n 1 1000000 _).mono ?_
      rintro _ w9 ⟨rfl, rfl⟩
      exact ⟨(_, inB x.g.n 1 1000000), ⟨rfl, rfl, rfl, trivial⟩, M7, hW, by rw [hE]; simp only [q0, q1, q2, q3, q4, q5, q6, q7, Bool.true_and]⟩
    have k5 : ¬ x.kind = 5 := k5
    refine brE_dec (fun k6 => ?K6) (fun k6 => ?N6)
    case' K6 =>
      have hk : x.kind = 6 ∨ x.kind = 7 := .inl k6
      refine brE_true (decide_eq_true k6) ?_
    case' N6 =>
      have k6 : ¬ x.kind = 6 := k6
      refine brE_dec (fun k7 => ?K7) (fun k7 => ?N7)
      case' K7 =>
        have hk : x.kind = 6 ∨ x.kind = 7 := .inr k7
      case' N7 =>
        have k7 : ¬ x.kind = 7 := k7
        exact ⟨(⟨x.kind, x.day, waivZ, giftZ, 0, 0, 0⟩, false), ⟨rfl, rfl, rfl, trivial⟩, M3, by unfold wantE; rw [if_neg (fun e => e.elim k1 k2), if_neg k3, if_neg k4, if_neg k5, if_neg (fun e => e.elim k6 k7)], by unfold okE; rw [if_neg k1, if_neg k2, if_neg k3, if_neg k4, if_neg k5, if_neg (fun e => e.elim k6 k7)]⟩
    all_goals
      have hW : (⟨x.kind, x.day, waivZ, { giftZ with id := x.g.id }, 0, 0, 0⟩ : Entry) = wantE x := by unfold wantE; rw [if_neg (fun e => e.elim k1 k2), if_neg k3, if_neg k4, if_neg k5, if_pos hk]
      refine ⟨_, M3.cell 1 rfl rfl, ?_⟩
      refine ⟨rfl, _, _, M3.get 0 rfl, Nat.le_of_ble_eq_true rfl, rfl, ?_⟩
      intro w4 h4
      have M5 : Mem w w4 [(g3, .cells (⟨x.kind, x.day, waivZ, { giftZ with id := x.g.id }, 0, 0, 0⟩ : Entry).cells.toArray 27 (0, 0)), (g1, .cells x.cells.toArray 27 (0, 0))] := M3.put 0 rfl h4
      refine ⟨_, M5.cell 1 rfl rfl, ?_⟩
      refine (in_spec x.g.id 1 500 _).mono ?_
      rintro _ w9 ⟨rfl, rfl⟩
      exact ⟨(_, inB x.g.id 1 500), ⟨rfl, rfl, rfl, trivial⟩, M5, hW, by unfold okE; rw [if_neg k1, if_neg k2, if_neg k3, if_neg k4, if_neg k5, if_pos hk]⟩
  rintro ⟨y, ok⟩ w4 ⟨M4, hy, hok⟩
  have hy : y = wantE x := hy
  have hok : ok = okE x := hok
  refine Snd.fin C_ok (plans := plans20) (by kernel_rfl) ?_
  have hE : formX x = (ok && decide (x = y) && inB x.day 0 100000) := by rw [hok, hy]; rfl
  refine brE_mk (fun q => ?_) (fun q => ⟨congrArg Value.bool (by rw [hE, show ok = false from q]; rfl), M4.ext⟩)
  have q0 : ok = true := q
  refine ⟨x.cells, rfl, M4.rd 1 rfl, ?_⟩
  refine ⟨y.cells, rfl, M4.rd 0 rfl, ?_⟩
  refine ⟨_, eqE _ _ x y, ?_⟩
  refine brE_mk (fun q => ?_) (fun q => ⟨congrArg Value.bool (by rw [hE, show decide (x = y) = false from q]; simp only [Bool.and_false, Bool.false_and]), M4.ext⟩)
  have q1 : decide (x = y) = true := q
  refine ⟨_, M4.cell 1 rfl rfl, ?_⟩
  refine (in_spec x.day 0 100000 _).mono ?_
  rintro _ w9 ⟨rfl, rfl⟩
  exact ⟨congrArg Value.bool (by rw [hE, q0, q1]; rfl), M4.ext⟩
end Go.Proofs.YtahgjidcaeieaaaGreatDoor
namespace Go.Proofs.YtahgjidcaeieaaaGreatDoor
open Go.Eng Go.RowKit
theorem of_not_true {b : Bool} (h : (!b) = true) : b = false := by cases b with | true => cases h | false => rfl
theorem of_not_false {b : Bool} (h : (!b) = false) : b = true := by cases b with | true => rfl | false => cases h
set_option maxRecDepth 100000 in
theorem valid_spec (x : Waiv) (w : World) : CallsV C.P 56 #[x.val] w fun v w' => v = .bool (rightW x) ∧ Ext w w' := by
  have hids : ∀ {b : Bool}, b = idsW x → b = false → rightW x = false := fun h1 h2 => by rw [rightW_parts, ← h1, h2]; simp only [Bool.false_and]
  have hday : inB x.day 0 100000 = false → rightW x = false := fun h => by rw [rightW_parts, h]; simp only [Bool.and_false, Bool.false_and]
  have hgue : guestsW x = false → rightW x = false := fun h => by rw [rightW_parts, h]; simp only [Bool.and_false, Bool.false_and]
  have hI : idsW x = (inB x.id 1 500 && idB x.signer && idB x.giver && idB x.taker && !decide (x.giver = x.taker)) := rfl
  refine callsV_ofS (args := [_]) Tryz.func56 rfl Tryz.ntmps56 C_ok (Nat.le_of_ble_eq_true rfl) ?_
  refine Snd.go C_ok [] (by kernel_rfl) ?_
  intro g1 w1 h1
  have M1 : Mem w w1 [(g1, .cells x.cells.toArray 23 (0, 0))] := (Mem.start w).alloc h1
  refine ⟨Snd.go C_ok [] (by kernel_rfl) ?_⟩
  refine ⟨_, M1.cell 0 rfl rfl, ?_⟩
  refine (within6_spec x.id 1 500 _).mono ?_
  rintro _ w9 ⟨rfl, rfl⟩
  refine brE_mk (fun q => ⟨congrArg Value.bool (by have h : inB x.id 1 500 = false := of_not_true q; exact (hids (b := idsW x) rfl (by rw [hI, h]; simp only [Bool.and_false, Bool.false_and])).symm), M1.ext⟩) (fun q => ?_)
  have q0 : inB x.id 1 500 = true := of_not_false q
  refine ⟨_, M1.cell 0 rfl rfl, ?_⟩
  refine (within6_spec x.day 0 100000 _).mono ?_
  rintro _ w9 ⟨rfl, rfl⟩
  refine brE_mk (fun q => ⟨congrArg Value.bool (by have h : inB x.day 0 100000 = false := of_not_true q; exact (hday h).symm), M1.ext⟩) (fun q => ?_)
  have q1 : inB x.day 0 100000 = true := of_not_false q
  refine ⟨_, M1.cell 0 rfl rfl, ?_⟩
  refine (id6_spec x.signer _).mono ?_
  rintro _ w9 ⟨rfl, rfl⟩
  refine brE_mk (fun q => ⟨congrArg Value.bool (by have h : idB x.signer = false := of_not_true q; exact (hids (b := idsW x) rfl (by rw [hI, h]; simp only [Bool.and_false, Bool.false_and])).symm), M1.ext⟩) (fun q => ?_)
  have q2 : idB x.signer = true := of_not_false q
  refine ⟨_, M1.cell 0 rfl rfl, ?_⟩
  refine (id6_spec x.giver _).mono ?_
  rintro _ w9 ⟨rfl, rfl⟩
  refine brE_mk (fun q => ⟨congrArg Value.bool (by have h : idB x.giver = false := of_not_true q; exact (hids (b := idsW x) rfl (by rw [hI, h]; simp only [Bool.and_false, Bool.false_and])).symm), M1.ext⟩) (fun q => ?_)
  have q3 : idB x.giver = true := of_not_false q
  refine ⟨_, M1.cell 0 rfl rfl, ?_⟩
  refine (id6_spec x.taker _).mono ?_
  rintro _ w9 ⟨rfl, rfl⟩
  refine brE_mk (fun q => ⟨congrArg Value.bool (by have h : idB x.taker = false := of_not_true q; exact (hids (b := idsW x) rfl (by rw [hI, h]; simp only [Bool.and_false, Bool.false_and])).symm), M1.ext⟩) (fun q => ?_)
  have q4 : idB x.taker = true := of_not_false q
  refine ⟨_, M1.cell 0 rfl rfl, ?_⟩
  refine ⟨_, M1.cell 0 rfl rfl, ?_⟩
  refine brE_dec (fun q => ⟨congrArg Value.bool (by have h : decide (x.giver = x.taker) = true := decide_eq_true q; exact (hids (b := idsW x) rfl (by rw [hI, h]; simp only [Bool.not_true, Bool.and_false])).symm), M1.ext⟩) (fun q => ?_)
  have q5 : decide (x.giver = x.taker) = false := decide_eq_false q
  have hI1 : idsW x = true := by rw [hI, q0, q2, q3, q4, q5]; rfl
  refine ⟨Snd.join C_ok [] (fun _ : Unit => [(1, .pointer (some ⟨g1, 0, none⟩))]) (fun _ w' => w' = w9 ∧ guestsW x = true) (by kernel_rfl) ?_ ?_⟩
  · have hE : guestsW x = (persB x.under && persB x.over && (decide (x.under = 0) || !decide (x.under = x.over))) := rfl
    refine ⟨_, M1.cell 0 rfl rfl, ?_⟩
    have both : ∀ (u : Bool), decide (x.under = 0) = u → persB x.under = true → True := fun _ _ _ => trivial
    refine brE_ndec (fun u => ?_) (fun u => ?_)
    · have u : ¬ x.under = 0 := u
      refine ⟨_, M1.cell 0 rfl rfl, ?_⟩
      refine (id6_spec x.under _).mono ?_
      rintro _ w8 ⟨rfl, rfl⟩
      refine brE_mk (fun q => ⟨congrArg Value.bool (by have h : idB x.under = false := of_not_true q; exact (hgue (by rw [hE]; unfold persB; rw [h, decide_eq_false u]; simp only [Bool.or_false, Bool.and_false, Bool.false_and])).symm), M1.ext⟩) (fun q => ?_)
      have hu : persB x.under = true := by unfold persB; rw [show idB x.under = true from of_not_false q, Bool.or_true]
      refine ⟨_, M1.cell 0 rfl rfl, ?_⟩
      refine brE_ndec (fun o => ?_) (fun o => ?_)
      · have o : ¬ x.over = 0 := o
        refine ⟨_, M1.cell 0 rfl rfl, ?_⟩
        refine (id6_spec x.over _).mono ?_
        rintro _ w8 ⟨rfl, rfl⟩
        refine brE_mk (fun q => ⟨congrArg Value.bool (by have h : idB x.over = false := of_not_true q; exact (hgue (by rw [hE]; unfold persB; rw [h, decide_eq_false o]; simp only [Bool.or_false, Bool.and_false, Bool.false_and])).symm), M1.ext⟩) (fun q => ?_)
        have ho : persB x.over = true := by unfold persB; rw [show idB x.over = true from of_not_false q, Bool.or_true]
        refine ⟨_, M1.cell 0 rfl rfl, ?_⟩
        refine brE_ndec (fun u2 => ?_) (fun u2 => ?_)
        · have u2 : ¬ x.under = 0 := u2
          refine ⟨_, M1.cell 0 rfl rfl, ?_⟩
          refine ⟨_, M1.cell 0 rfl rfl, ?_⟩
          refine brE_dec (fun q => ⟨congrArg Value.bool (hgue (by rw [hE, decide_eq_true (show x.under = x.over from q), decide_eq_false u2]; simp only [Bool.not_true, Bool.or_false, Bool.and_false])).symm, M1.ext⟩) (fun q => ?_)
          exact ⟨(), ⟨rfl, trivial⟩, rfl, by rw [hE, hu, ho, decide_eq_false (show ¬ x.under = x.over from q), Bool.not_false, Bool.or_true]; rfl⟩
        · have u2 : x.under = 0 := u2
          exact ⟨(), ⟨rfl, trivial⟩, rfl, by rw [hE, hu, ho, decide_eq_true u2]; rfl⟩
      · have o : x.over = 0 := o
        have ho : persB x.over = true := by unfold persB; rw [decide_eq_true o]; rfl
        refine ⟨_, M1.cell 0 rfl rfl, ?_⟩
        refine brE_ndec (fun u2 => ?_) (fun u2 => ?_)
        · have u2 : ¬ x.under = 0 := u2
          refine ⟨_, M1.cell 0 rfl rfl, ?_⟩
          refine ⟨_, M1.cell 0 rfl rfl, ?_⟩
          refine brE_dec (fun q => ⟨congrArg Value.bool (hgue (by rw [hE, decide_eq_true (show x.under = x.over from q), decide_eq_false u2]; simp only [Bool.not_true, Bool.or_false, Bool.and_false])).symm, M1.ext⟩) (fun q => ?_)
          exact ⟨(), ⟨rfl, trivial⟩, rfl, by rw [hE, hu, ho, decide_eq_false (show ¬ x.under = x.over from q), Bool.not_false, Bool.or_true]; rfl⟩
        · have u2 : x.under = 0 := u2
          exact ⟨(), ⟨rfl, trivial⟩, rfl, by rw [hE, hu, ho, decide_eq_true u2]; rfl⟩
    · have u : x.under = 0 := u
      have hu : persB x.under = true := by unfold persB; rw [decide_eq_true u]; rfl
      refine ⟨_, M1.cell 0 rfl rfl, ?_⟩
      refine brE_ndec (fun o => ?_) (fun o => ?_)
      · have o : ¬ x.over = 0 := o
        refine ⟨_, M1.cell 0 rfl rfl, ?_⟩
        refine (id6_spec x.over _).mono ?_
        rintro _ w8 ⟨rfl, rfl⟩
        refine brE_mk (fun q => ⟨congrArg Value.bool (by have h : idB x.over = false := of_not_true q; exact (hgue (by rw [hE]; unfold persB; rw [h, decide_eq_false o]; simp only [Bool.or_false, Bool.and_false, Bool.false_and])).symm), M1.ext⟩) (fun q => ?_)
        have ho : persB x.over = true := by unfold persB; rw [show idB x.over = true from of_not_false q, Bool.or_true]
        refine ⟨_, M1.cell 0 rfl rfl, ?_⟩
        refine brE_ndec (fun u2 => ?_) (fun u2 => ?_)
        · have u2 : ¬ x.under = 0 := u2
          refine ⟨_, M1.cell 0 rfl rfl, ?_⟩
          refine ⟨_, M1.cell 0 rfl rfl, ?_⟩
          refine brE_dec (fun q => ⟨congrArg Value.bool (hgue (by rw [hE, decide_eq_true (show x.under = x.over from q), decide_eq_false u2]; simp only [Bool.not_true, Bool.or_false, Bool.and_false])).symm, M1.ext⟩) (fun q => ?_)
          exact ⟨(), ⟨rfl, trivial⟩, rfl, by rw [hE, hu, ho, decide_eq_false (show ¬ x.under = x.over from q), Bool.not_false, Bool.or_true]; rfl⟩
        · have u2 : x.under = 0 := u2
          exact ⟨(), ⟨rfl, trivial⟩, rfl, by rw [hE, hu, ho, decide_eq_true u2]; rfl⟩
      · have o : x.over = 0 := o
        have ho : persB x.over = true := by unfold persB; rw [decide_eq_true o]; rfl
        refine ⟨_, M1.cell 0 rfl rfl, ?_⟩
        refine brE_ndec (fun u2 => ?_) (fun u2 => ?_)
        · have u2 : ¬ x.under = 0 := u2
          refine ⟨_, M1.cell 0 rfl rfl, ?_⟩
          refine ⟨_, M1.cell 0 rfl rfl, ?_⟩
          refine brE_dec (fun q => ⟨congrArg Value.bool (hgue (by rw [hE, decide_eq_true (show x.under = x.over from q), decide_eq_false u2]; simp only [Bool.not_true, Bool.or_false, Bool.and_false])).symm, M1.ext⟩) (fun q => ?_)
          exact ⟨(), ⟨rfl, trivial⟩, rfl, by rw [hE, hu, ho, decide_eq_false (show ¬ x.under = x.over from q), Bool.not_false, Bool.or_true]; rfl⟩
        · have u2 : x.under = 0 := u2
          exact ⟨(), ⟨rfl, trivial⟩, rfl, by rw [hE, hu, ho, decide_eq_true u2]; rfl⟩
  rintro _ w8 ⟨rfl, hG⟩
  have hE : rightW x = (decide (x.day ≤ x.since) && decide (x.since < x.til) && decide (x.til ≤ 100000)) := by rw [rightW_parts, hI1, hG, q1]; simp only [Bool.true_and]
  refine Snd.fin C_ok (plans := []) (by kernel_rfl) ?_
  refine ⟨_, M1.cell 0 rfl rfl, ?_⟩
  refine ⟨_, M1.cell 0 rfl rfl, ?_⟩
  refine brE_mk (fun q => ?_) (fun q => ⟨congrArg Value.bool (by rw [hE, show decide (x.day ≤ x.since) = false from q]; simp only [Bool.and_false, Bool.false_and]), M1.ext⟩)
  have q0 : decide (x.day ≤ x.since) = true := q
  refine ⟨_, M1.cell 0 rfl rfl, ?_⟩
  refine ⟨_, M1.cell 0 rfl rfl, ?_⟩
  refine brE_mk (fun q => ?_) (fun q => ⟨congrArg Value.bool (by rw [hE, show decide (x.since < x.til) = false from q]; simp only [Bool.and_false, Bool.false_and]), M1.ext⟩)
  have q1 : decide (x.since < x.til) = true := q
  refine ⟨_, M1.cell 0 rfl rfl, ?_⟩
  exact ⟨congrArg Value.bool (by rw [hE]; simp only [q0, q1, Bool.true_and]), M1.ext⟩
theorem okE_5 {x : Entry} (h5 : x.kind = 5) : okE x = (rightG x.g && decide (x.g.day = x.day)) := by
  unfold okE; rw [if_neg (by omega), if_neg (by omega), if_neg (by omega), if_neg (by omega), if_pos h5]
theorem form_5 {x : Entry} (h5 : x.kind = 5) : (okE x && decide (x = wantE x)) = (decide (x = ⟨x.kind, x.day, waivZ, { plainG x.g with day := x.day }, 0, 0, 0⟩) && inB x.g.id 1 500 && idB x.g.frm && idB x.g.to && !decide (x.g.frm = x.g.to) && inB x.g.cur 1 2 && inB x.g.n 1 1000000 && inB x.g.returns 0 500 && !decide (x.g.returns = x.g.id)) := by
  have hW : wantE x = ⟨x.kind, x.day, waivZ, plainG x.g, 0, 0, 0⟩ := by unfold wantE; rw [if_neg (by omega), if_neg (by omega), if_neg (by omega), if_pos h5]
  rw [okE_5 h5, hW]
  have hd : decide (x = ⟨x.kind, x.day, waivZ, { plainG x.g with day := x.day }, 0, 0, 0⟩) = (decide (x.g.day = x.day) && decide (x = ⟨x.kind, x.day, waivZ, plainG x.g, 0, 0, 0⟩)) := by
    rw [Bool.eq_iff_iff, Bool.and_eq_true, decide_eq_true_eq, decide_eq_true_eq, decide_eq_true_eq]
    constructor
    · intro h
      have h1 : x.g.day = x.day := congrArg (fun e => e.g.day) h
      refine ⟨h1, ?_⟩
      have : plainG x.g = { plainG x.g with day := x.day } := by rw [← h1]; rfl
      rw [this]; exact h
    · rintro ⟨h1, h⟩
      have : plainG x.g = { plainG x.g with day := x.day } := by rw [← h1]; rfl
      rw [this] at h; exact h
  rw [hd]
  unfold rightG
  generalize decide (x.g.day = x.day) = a0
  generalize decide (x = ⟨x.kind, x.day, waivZ, plainG x.g, 0, 0, 0⟩) = a1
  generalize inB x.g.id 1 500 = a2
  generalize idB x.g.frm = a3
  generalize idB x.g.to = a4
  generalize (!decide (x.g.frm = x.g.to)) = a5
  generalize inB x.g.cur 1 2 = a6
  generalize inB x.g.n 1 1000000 = a7
  generalize inB x.g.returns 0 500 = a8
  generalize (!decide (x.g.returns = x.g.id)) = a9
  revert a0 a1 a2 a3 a4 a5 a6 a7 a8 a9
  decide
set_option maxRecDepth 100000 in
set_option maxHeartbeats 4000000 in
theorem formed6_spec (x : Entry) (hx : x.Nums) (w : World) : CallsV C.P 24 #[x.val] w fun v w' => v = .bool (formX x) ∧ Ext w w' := by
  refine callsV_ofS (args := [_]) Tryz.func24 rfl Tryz.ntmps24 C_ok (Nat.le_of_ble_eq_true rfl) ?_
  refine Snd.go C_ok [] (by kernel_rfl) ?_
  intro g1 w1 h1
  have M1 : Mem w w1 [(g1, .cells x.cells.toArray 27 (0, 0))] := (Mem.start w).alloc h1
  refine ⟨Snd.go C_ok [] (by kernel_rfl) ?_⟩
  refine ⟨_, M1.cell 0 rfl rfl, ?_⟩
  refine (within6_spec x.day 0 100000 _).mono ?_
  rintro _ w1' ⟨rfl, rfl⟩
  refine brE_mk (fun q => ⟨congrArg Value.bool (by have h : inB x.day 0 100000 = false := of_not_true q; unfold formX; rw [show dayB x.day = false from h]; simp only [Bool.and_false]), M1.ext⟩) (fun q => ?_)
  have hdy : dayB x.day = true := of_not_false q
  have hF : formX x = (okE x && decide (x = wantE x)) := by unfold formX; rw [hdy, Bool.and_true]
  refine ⟨Snd.go C_ok [] (by kernel_rfl) ?_⟩
  refine ⟨_, M1.cell 0 rfl rfl, ?_⟩
  refine ⟨_, M1.cell 0 rfl rfl, ?_⟩
  intro g3 w2 h2
  have M2 := M1.alloc h2
  refine ⟨rfl, _, _, M2.get 0 rfl, Nat.le_of_ble_eq_true rfl, rfl, ?_⟩
  intro w3 h3
  have M3 : Mem w w3 [(g3, .cells (⟨x.kind, x.day, waivZ, giftZ, 0, 0, 0⟩ : Entry).cells.toArray 27 (0, 0)), (g1, .cells x.cells.toArray 27 (0, 0))] := M2.put 0 rfl h3
  clear M1 M2 h1 h2 h3
  refine ⟨Snd.fin C_ok (plans := []) (by kernel_rfl) ?_⟩
  refine ⟨_, M3.cell 1 rfl rfl, ?_⟩
  refine brE_dec (fun k1 => ?_) (fun k1 => ?_)
  · have k1 : x.kind = 1 := k1
    have hW : wantE x = (⟨x.kind, x.day, waivZ, giftZ, x.a, 0, x.n⟩ : Entry) := by unfold wantE; rw [if_pos (.inl k1)]
    have hE : formX x = (decide (x = (⟨x.kind, x.day, waivZ, giftZ, x.a, 0, x.n⟩ : Entry)) && inB x.a 1 2 && inB x.n 1 1000000) := by rw [hF, hW]; unfold okE; rw [if_pos k1, Bool.and_comm]; simp only [Bool.and_assoc]
    refine ⟨_, M3.cell 1 rfl rfl, ?_⟩
    refine ⟨rfl, _, _, M3.get 0 rfl, Nat.le_of_ble_eq_true rfl, rfl, ?_⟩
    intro w4 h4
    have M4 := M3.put 0 rfl h4
    refine ⟨_, M4.cell 1 rfl rfl, ?_⟩
    refine ⟨rfl, _, _, M4.get 0 rfl, Nat.le_of_ble_eq_true rfl, rfl, ?_⟩
    intro w5 h5
    have M5 : Mem w w5 [(g3, .cells (⟨x.kind, x.day, waivZ, giftZ, x.a, 0, x.n⟩ : Entry).cells.toArray 27 (0, 0)), (g1, .cells x.cells.toArray 27 (0, 0))] := M4.put 0 rfl h5
    refine ⟨x.cells, rfl, M5.rd 1 rfl, ?_⟩
    refine ⟨(⟨x.kind, x.day, waivZ, giftZ, x.a, 0, x.n⟩ : Entry).cells, rfl, M5.rd 0 rfl, ?_⟩
    refine ⟨_, eqE _ _ x ⟨x.kind, x.day, waivZ, giftZ, x.a, 0, x.n⟩, ?_⟩
    refine brE_mk (fun q => ?_) (fun q => ⟨congrArg Value.bool (by rw [hE, show decide (x = (⟨x.kind, x.day, waivZ, giftZ, x.a, 0, x.n⟩ : Entry)) = false from q]; simp only [Bool.and_false, Bool.false_and]), M5.ext⟩)
    have q0 : decide (x = (⟨x.kind, x.day, waivZ, giftZ, x.a, 0, x.n⟩ : Entry)) = true := q
    refine ⟨_, M5.cell 1 rfl rfl, ?_⟩
    refine (within6_spec x.a 1 2 _).mono ?_
    rintro _ w9 ⟨rfl, rfl⟩
    refine brE_mk (fun q => ?_) (fun q => ⟨congrArg Value.bool (by rw [hE, show inB x.a 1 2 = false from q]; simp only [Bool.and_false, Bool.false_and]), M5.ext⟩)
    have q1 : inB x.a 1 2 = true := q
    refine ⟨_, M5.cell 1 rfl rfl, ?_⟩
    refine (within6_spec x.n 1 1000000 _).mono ?_
    rintro _ w9 ⟨rfl, rfl⟩
    exact ⟨congrArg Value.bool (by rw [hE]; simp only [q0, q1, Bool.true_and]), M5.ext⟩
  have k1 : ¬ x.kind = 1 := k1
  refine brE_dec (fun k2 => ?_) (fun k2 => ?_)
  · have k2 : x.kind = 2 := k2
    have hW : wantE x = (⟨x.kind, x.day, waivZ, giftZ, x.a, 0, x.n⟩ : Entry) := by unfold wantE; rw [if_pos (.inr k2)]
    have hE : formX x = (decide (x = (⟨x.kind, x.day, waivZ, giftZ, x.a, 0, x.n⟩ : Entry)) && idB x.a && inB x.n 1 1000000000000) := by rw [hF, hW]; unfold okE; rw [if_neg k1, if_pos k2, Bool.and_comm]; simp only [Bool.and_assoc]
    refine ⟨_, M3.cell 1 rfl rfl, ?_⟩
    refine ⟨rfl, _, _, M3.get 0 rfl, Nat.le_of_ble_eq_true rfl, rfl, ?_⟩
    intro w4 h4
    have M4 := M3.put 0 rfl h4
    refine ⟨_, M4.cell 1 rfl rfl, ?_⟩
    refine ⟨rfl, _, _, M4.get 0 rfl, Nat.le_of_ble_eq_true rfl, rfl, ?_⟩
    intro w5 h5
    have M5 : Mem w w5 [(g3, .cells (⟨x.kind, x.day, waivZ, giftZ, x.a, 0, x.n⟩ : Entry).cells.toArray 27 (0, 0)), (g1, .cells x.cells.toArray 27 (0, 0))] := M4.put 0 rfl h5
    refine ⟨x.cells, rfl, M5.rd 1 rfl, ?_⟩
    refine ⟨(⟨x.kind, x.day, waivZ, giftZ, x.a, 0, x.n⟩ : Entry).cells, rfl, M5.rd 0 rfl, ?_⟩
    refine ⟨_, eqE _ _ x ⟨x.kind, x.day, waivZ, giftZ, x.a, 0, x.n⟩, ?_⟩
    refine brE_mk (fun q => ?_) (fun q => ⟨congrArg Value.bool (by rw [hE, show decide (x = (⟨x.kind, x.day, waivZ, giftZ, x.a, 0, x.n⟩ : Entry)) = false from q]; simp only [Bool.and_false, Bool.false_and]), M5.ext⟩)
    have q0 : decide (x = (⟨x.kind, x.day, waivZ, giftZ, x.a, 0, x.n⟩ : Entry)) = true := q
    refine ⟨_, M5.cell 1 rfl rfl, ?_⟩
    refine (id6_spec x.a _).mono ?_
    rintro _ w9 ⟨rfl, rfl⟩
    refine brE_mk (fun q => ?_) (fun q => ⟨congrArg Value.bool (by rw [hE, show idB x.a = false from q]; simp only [Bool.and_false, Bool.false_and]), M5.ext⟩)
    have q1 : idB x.a = true := q
    refine ⟨_, M5.cell 1 rfl rfl, ?_⟩
    refine (within6_spec x.n 1 1000000000000 _).mono ?_
    rintro _ w9 ⟨rfl, rfl⟩
    exact ⟨congrArg Value.bool (by rw [hE]; simp only [q0, q1, Bool.true_and]), M5.ext⟩
  have k2 : ¬ x.kind = 2 := k2
  refine brE_dec (fun k3 => ?_) (fun k3 => ?_)
  · have k3 : x.kind = 3 := k3
    have hW : wantE x = (⟨x.kind, x.day, x.w, giftZ, 0, 0, 0⟩ : Entry) := by unfold wantE; rw [if_neg (fun e => e.elim k1 k2), if_pos k3]
    have hE : formX x = (decide (x = (⟨x.kind, x.day, x.w, giftZ, 0, 0, 0⟩ : Entry)) && rightW x.w && decide (x.w.day = x.day)) := by rw [hF, hW]; unfold okE; rw [if_neg k1, if_neg k2, if_pos k3, Bool.and_comm]; simp only [Bool.and_assoc]
    refine ⟨x.w.cells, rfl, (M3.rd 1 rfl).part x.w_part, ?_⟩
    refine ⟨rfl, _, _, M3.get 0 rfl, Nat.le_of_ble_eq_true rfl, rfl, ?_⟩
    intro w4 h4
    have M5 : Mem w w4 [(g3, .cells (⟨x.kind, x.day, x.w, giftZ, 0, 0, 0⟩ : Entry).cells.toArray 27 (0, 0)), (g1, .cells x.cells.toArray 27 (0, 0))] := M3.put 0 rfl h4
    refine ⟨x.cells, rfl, M5.rd 1 rfl, ?_⟩
    refine ⟨(⟨x.kind, x.day, x.w, giftZ, 0, 0, 0⟩ : Entry).cells, rfl, M5.rd 0 rfl, ?_⟩
    refine ⟨_, eqE _ _ x ⟨x.kind, x.day, x.w, giftZ, 0, 0, 0⟩, ?_⟩
    refine brE_mk (fun q => ?_) (fun q => ⟨congrArg Value.bool (by rw [hE, show decide (x = (⟨x.kind, x.day, x.w, giftZ, 0, 0, 0⟩ : Entry)) = false from q]; simp only [Bool.and_false, Bool.false_and]), M5.ext⟩)
    have q0 : decide (x = (⟨x.kind, x.day, x.w, giftZ, 0, 0, 0⟩ : Entry)) = true := q
    refine ⟨x.w.cells, rfl, (M5.rd 1 rfl).part x.w_part, ?_⟩
    refine (valid_spec x.w _).mono ?_
    rintro _ w9 ⟨rfl, e9⟩
    replace M5 := M5.grow e9
    refine brE_mk (fun q => ?_) (fun q => ⟨congrArg Value.bool (by rw [hE, show rightW x.w = false from q]; simp only [Bool.and_false, Bool.false_and]), M5.ext⟩)
    have q1 : rightW x.w = true := q
    refine ⟨_, M5.cell 1 rfl rfl, ?_⟩
    refine ⟨_, M5.cell 1 rfl rfl, ?_⟩
    exact ⟨congrArg Value.bool (by rw [hE]; simp only [q0, q1, Bool.true_and]), M5.ext⟩
  have k3 : ¬ x.kind = 3 := k3
  refine brE_dec (fun k4 => ?_) (fun k4 => ?_)
  · have k4 : x.kind = 4 := k4
    have hW : wantE x = (⟨x.kind, x.day, { waivZ with id := x.w.id }, giftZ, 0, 0, 0⟩ : Entry) := by unfold wantE; rw [if_neg (fun e => e.elim k1 k2), if_neg k3, if_pos k4]
    have hE : formX x = (decide (x = (⟨x.kind, x.day, { waivZ with id := x.w.id }, giftZ, 0, 0, 0⟩ : Entry)) && inB x.w.id 1 500) := by rw [hF, hW]; unfold okE; rw [if_neg k1, if_neg k2, if_neg k3, if_pos k4, Bool.and_comm]
    refine ⟨_, M3.cell 1 rfl rfl, ?_⟩
    refine ⟨rfl, _, _, M3.get 0 rfl, Nat.le_of_ble_eq_true rfl, rfl, ?_⟩
    intro w4 h4
    have M5 : Mem w w4 [(g3, .cells (⟨x.kind, x.day, { waivZ with id := x.w.id }, giftZ, 0, 0, 0⟩ : Entry).cells.toArray 27 (0, 0)), (g1, .cells x.cells.toArray 27 (0, 0))] := M3.put 0 rfl h4
    refine ⟨x.cells, rfl, M5.rd 1 rfl, ?_⟩
    refine ⟨(⟨x.kind, x.day, { waivZ with id := x.w.id }, giftZ, 0, 0, 0⟩ : Entry).cells, rfl, M5.rd 0 rfl, ?_⟩
    refine ⟨_, eqE _ _ x ⟨x.kind, x.day, { waivZ with id := x.w.id }, giftZ, 0, 0, 0⟩, ?_⟩
    refine brE_mk (fun q => ?_) (fun q => ⟨congrArg Value.bool (by rw [hE, show decide (x = (⟨x.kind, x.day, { waivZ with id := x.w.id }, giftZ, 0, 0, 0⟩ : Entry)) = false from q]; simp only [Bool.and_false, Bool.false_and]), M5.ext⟩)
    have q0 : decide (x = (⟨x.kind, x.day, { waivZ with id := x.w.id }, giftZ, 0, 0, 0⟩ : Entry)) = true := q
    refine ⟨_, M5.cell 1 rfl rfl, ?_⟩
    refine (within6_spec x.w.id 1 500 _).mono ?_
    rintro _ w9 ⟨rfl, rfl⟩
    exact ⟨congrArg Value.bool (by rw [hE]; simp only [q0, Bool.true_and]), M5.ext⟩
  have k4 : ¬ x.kind = 4 := k4
  refine brE_dec (fun k5 => ?_) (fun k5 => ?_)
  · have k5 : x.kind = 5 := k5
    have hE : formX x = (decide (x = (⟨x.kind, x.day, waivZ, { plainG x.g with day := x.day }, 0, 0, 0⟩ : Entry)) && inB x.g.id 1 500 && idB x.g.frm && idB x.g.to && (!decide (x.g.frm = x.g.to)) && inB x.g.cur 1 2 && inB x.g.n 1 1000000 && inB x.g.returns 0 500 && (!decide (x.g.returns = x.g.id))) := by rw [hF, form_5 k5]
    refine ⟨x.g.cells, rfl, (M3.rd 1 rfl).part x.g_part, ?_⟩
    intro g5 w4 h4
    have M4 := M3.alloc h4
    refine ⟨rfl, _, _, M4.get 0 rfl, Nat.le_of_ble_eq_true rfl, rfl, ?_⟩
    intro w5 h5
    have M5' : Mem w w5 [(g5, .cells x.g.cells.toArray 25 (0, 0)), (g3, .cells (⟨x.kind, x.day, waivZ, giftZ, 0, 0, 0⟩ : Entry).cells.toArray 27 (0, 0)), (g1, .cells x.cells.toArray 27 (0, 0))] := M4.put 0 rfl h5
    clear M4 h4 h5
    refine ⟨_, M5'.cell 0 rfl rfl, ?_⟩
    refine ⟨_, M5'.cell 2 rfl rfl, ?_⟩
    refine ⟨_, M5'.cell 0 rfl rfl, ?_⟩
    refine ⟨_, M5'.cell 0 rfl rfl, ?_⟩
    refine ⟨_, M5'.cell 0 rfl rfl, ?_⟩
    refine ⟨_, M5'.cell 0 rfl rfl, ?_⟩
    refine ⟨_, M5'.cell 0 rfl rfl, ?_⟩
    refine ⟨rfl, _, _, M5'.get 1 rfl, Nat.le_of_ble_eq_true rfl, rfl, ?_⟩
    intro w6 h6
    have M5 : Mem w w6 [(g5, .cells x.g.cells.toArray 25 (0, 0)), (g3, .cells (⟨x.kind, x.day, waivZ, { plainG x.g with day := x.day }, 0, 0, 0⟩ : Entry).cells.toArray 27 (0, 0)), (g1, .cells x.cells.toArray 27 (0, 0))] := M5'.put 1 rfl h6
    refine ⟨x.cells, rfl, M5.rd 2 rfl, ?_⟩
    refine ⟨(⟨x.kind, x.day, waivZ, { plainG x.g with day := x.day }, 0, 0, 0⟩ : Entry).cells, rfl, M5.rd 1 rfl, ?_⟩
    refine ⟨_, eqE _ _ x ⟨x.kind, x.day, waivZ, { plainG x.g with day := x.day }, 0, 0, 0⟩, ?_⟩
    refine brE_mk (fun q => ?_) (fun q => ⟨congrArg Value.bool (by rw [hE, show decide (x = (⟨x.kind, x.day, waivZ, { plainG x.g with day := x.day }, 0, 0, 0⟩ : Entry)) = false from q]; simp only [Bool.and_false, Bool.false_and]), M5.ext⟩)
    have q0 : decide (x = (⟨x.kind, x.day, waivZ, { plainG x.g with day := x.day }, 0, 0, 0⟩ : Entry)) = true := q
    refine ⟨_, M5.cell 0 rfl rfl, ?_⟩
    refine (within6_spec x.g.id 1 500 _).mono ?_
    rintro _ w9 ⟨rfl, rfl⟩
    refine brE_mk (fun q => ?_) (fun q => ⟨congrArg Value.bool (by rw [hE, show inB x.g.id 1 500 = false from q]; simp only [Bool.and_false, Bool.false_and]), M5.ext⟩)
    have q1 : inB x.g.id 1 500 = true := q
    refine ⟨_, M5.cell 0 rfl rfl, ?_⟩
    refine (id6_spec x.g.frm _).mono ?_
    rintro _ w9 ⟨rfl, rfl⟩
    refine brE_mk (fun q => ?_) (fun q => ⟨congrArg Value.bool (by rw [hE, show idB x.g.frm = false from q]; simp only [Bool.and_false, Bool.false_and]), M5.ext⟩)
    have q2 : idB x.g.frm = true := q
    refine ⟨_, M5.cell 0 rfl rfl, ?_⟩
    refine (id6_spec x.g.to _).mono ?_
    rintro _ w9 ⟨rfl, rfl⟩
    refine brE_mk (fun q => ?_) (fun q => ⟨congrArg Value.bool (by rw [hE, show idB x.g.to = false from q]; simp only [Bool.and_false, Bool.false_and]), M5.ext⟩)
    have q3 : idB x.g.to = true := q
    refine ⟨_, M5.cell 0 rfl rfl, ?_⟩
    refine ⟨_, M5.cell 0 rfl rfl, ?_⟩
    refine brE_mk (fun q => ?_) (fun q => ⟨congrArg Value.bool (by rw [hE, show (!decide (x.g.frm = x.g.to)) = false from q]; simp only [Bool.and_false, Bool.false_and]), M5.ext⟩)
    have q4 : (!decide (x.g.frm = x.g.to)) = true := q
    refine ⟨_, M5.cell 0 rfl rfl, ?_⟩
    refine ⟨_, fit ⟨by have := hx.g.cur; omega, by have := hx.g.cur; omega⟩, ?_⟩
    refine (within6_spec x.g.cur 1 2 _).mono ?_
    rintro _ w9 ⟨rfl, rfl⟩
    refine brE_mk (fun q => ?_) (fun q => ⟨congrArg Value.bool (by rw [hE, show inB x.g.cur 1 2 = false from q]; simp only [Bool.and_false, Bool.false_and]), M5.ext⟩)
    have q5 : inB x.g.cur 1 2 = true := q
    refine ⟨_, M5.cell 0 rfl rfl, ?_⟩
    refine (within6_spec x.g.n 1 1000000 _).mono ?_
    rintro _ w9 ⟨rfl, rfl⟩
    refine brE_mk (fun q => ?_) (fun q => ⟨congrArg Value.bool (by rw [hE, show inB x.g.n 1 1000000 = false from q]; simp only [Bool.and_false, Bool.false_and]), M5.ext⟩)
    have q6 : inB x.g.n 1 1000000 = true := q
    refine ⟨_, M5.cell 0 rfl rfl, ?_⟩
    refine (within6_spec x.g.returns 0 500 _).mono ?_
    rintro _ w9 ⟨rfl, rfl⟩
    refine brE_mk (fun q => ?_) (fun q => ⟨congrArg Value.bool (by rw [hE, show inB x.g.returns 0 500 = false from q]; simp only [Bool.and_false, Bool.false_and]), M5.ext⟩)
    have q7 : inB x.g.returns 0 500 = true := q
    refine ⟨_, M5.cell 0 rfl rfl, ?_⟩
    refine ⟨_, M5.cell 0 rfl rfl, ?_⟩
    exact ⟨congrArg Value.bool (by rw [hE]; simp only [q0, q1, q2, q3, q4, q5, q6, q7, Bool.true_and]), M5.ext⟩
  have k5 : ¬ x.kind = 5 := k5
  refine brE_dec (fun k6 => ?K6) (fun k6 => ?N6)
  case' K6 =>
    have hk : x.kind = 6 ∨ x.kind = 7 := .inl k6
    refine brE_true (decide_eq_true k6) ?_
  case' N6 =>
    have k6 : ¬ x.kind = 6 := k6
    refine brE_dec (fun k7 => ?K7) (fun k7 => ?N7)
    case' K7 =>
      have hk : x.kind = 6 ∨ x.kind = 7 := .inr k7
    case' N7 =>
      have k7 : ¬ x.kind = 7 := k7
      exact ⟨congrArg Value.bool (by rw [hF]; unfold okE; rw [if_neg k1, if_neg k2, if_neg k3, if_neg k4, if_neg k5, if_neg (fun e => e.elim k6 k7)]; rfl), M3.ext⟩
  all_goals
    have hW : wantE x = (⟨x.kind, x.day, waivZ, { giftZ with id := x.g.id }, 0, 0, 0⟩ : Entry) := by unfold wantE; rw [if_neg (fun e => e.elim k1 k2), if_neg k3, if_neg k4, if_neg k5, if_pos hk]
    have hE : formX x = (decide (x = (⟨x.kind, x.day, waivZ, { giftZ with id := x.g.id }, 0, 0, 0⟩ : Entry)) && inB x.g.id 1 500) := by rw [hF, hW]; unfold okE; rw [if_neg k1, if_neg k2, if_neg k3, if_neg k4, if_neg k5, if_pos hk, Bool.and_comm]
    refine ⟨_, M3.cell 1 rfl rfl, ?_⟩
    refine ⟨rfl, _, _, M3.get 0 rfl, Nat.le_of_ble_eq_true rfl, rfl, ?_⟩
    intro w4 h4
    have M5 : Mem w w4 [(g3, .cells (⟨x.kind, x.day, waivZ, { giftZ with id := x.g.id }, 0, 0, 0⟩ : Entry).cells.toArray 27 (0, 0)), (g1, .cells x.cells.toArray 27 (0, 0))] := M3.put 0 rfl h4
    refine ⟨x.cells, rfl, M5.rd 1 rfl, ?_⟩
    refine ⟨(⟨x.kind, x.day, waivZ, { giftZ with id := x.g.id }, 0, 0, 0⟩ : Entry).cells, rfl, M5.rd 0 rfl, ?_⟩
    refine ⟨_, eqE _ _ x ⟨x.kind, x.day, waivZ, { giftZ with id := x.g.id }, 0, 0, 0⟩, ?_⟩
    refine brE_mk (fun q => ?_) (fun q => ⟨congrArg Value.bool (by rw [hE, show decide (x = (⟨x.kind, x.day, waivZ, { giftZ with id := x.g.id }, 0, 0, 0⟩ : Entry)) = false from q]; rfl), M5.ext⟩)
    have q0 : decide (x = (⟨x.kind, x.day, waivZ, { giftZ with id := x.g.id }, 0, 0, 0⟩ : Entry)) = true := q
    refine ⟨_, M5.cell 1 rfl rfl, ?_⟩
    refine (within6_spec x.g.id 1 500 _).mono ?_
    rintro _ w9 ⟨rfl, rfl⟩
    exact ⟨congrArg Value.bool (by rw [hE, q0]; rfl), M5.ext⟩
theorem debt_spec (x : Gift) (w : World) : CallsV C.P 48 #[x.val] w fun v w' => v = .bool (debtB x) ∧ Ext w w' := by
  refine callsV_of C_ok (args := [_]) (plans := []) Tryz.func48 rfl Tryz.ntmps48 (by kernel_rfl) (Nat.le_of_ble_eq_true rfl) ?_
  intro g1 w1 h1
  have M1 : Mem w w1 [(g1, .cells x.cells.toArray 25 (0, 0))] := (Mem.start w).alloc h1
  refine ⟨_, M1.cell 0 rfl rfl, ?_⟩
  refine brE_mk (fun q => ?_) (fun q => ⟨congrArg Value.bool (by unfold debtB; rw [show decide (x.returns = 0) = false from q]; rfl), M1.ext⟩)
  refine ⟨_, M1.cell 0 rfl rfl, ?_⟩
  exact ⟨congrArg Value.bool (by unfold debtB; rw [show decide (x.returns = 0) = true from q]; rfl), M1.ext⟩
theorem whom_spec (n : Int) (g : Guest) (w : World) : CallsV C.P 72 (#[] ++ [.int .i64 n, g.val].toArray ++ #[]) w fun v w' => v = .bool (decide (n = 0) || decide (n = g.person)) ∧ Ext w w' := by
  refine callsV_of C_ok (args := [_, _]) (plans := []) Tryz.func72 rfl Tryz.ntmps72 (by kernel_rfl) (Nat.le_of_ble_eq_true rfl) ?_
  intro g1 w1 h1
  have M1 : Mem w w1 [(g1, .cells g.cells.toArray 46 (0, 0))] := (Mem.start w).alloc h1
  refine brE_mk (fun q => ⟨congrArg Value.bool (by rw [show decide (n = 0) = true from q]; rfl), M1.ext⟩) (fun q => ?_)
  refine ⟨_, M1.cell 0 rfl rfl, ?_⟩
  exact ⟨congrArg Value.bool (by rw [show decide (n = 0) = false from q]; rfl), M1.ext⟩
set_option maxRecDepth 100000 in
theorem covers_spec (x : Waiv) (u o : Guest) (w : World) : CallsV C.P 43 #[x.val, u.val, o.val] w fun v w' => v = .bool (coversB x u o) ∧ Ext w w' := by
  have hE : coversB x u o = (decide (x.giver = u.state) && decide (x.taker = o.state) && (decide (x.under = 0) || decide (x.under = u.person)) && (decide (x.over = 0) || decide (x.over = o.person))) := by unfold coversB; simp only [Bool.and_assoc]
  refine callsV_of C_ok (args := [_, _, _]) (plans := []) Tryz.func43 rfl Tryz.ntmps43 (by kernel_rfl) (Nat.le_of_ble_eq_true rfl) ?_
  intro g1 w1 h1
  have M1 := (Mem.start w).alloc h1
  intro g2 w2 h2
  have M2 := M1.alloc h2
  intro g3 w3 h3
  have M3 : Mem w w3 [(g3, .cells o.cells.toArray 46 (0, 0)), (g2, .cells u.cells.toArray 46 (0, 0)), (g1, .cells x.cells.toArray 23 (0, 0))] := M2.alloc h3
  clear M1 M2 h1 h2 h3
  refine ⟨_, M3.cell 2 rfl rfl, ?_⟩
  refine ⟨_, M3.cell 1 rfl rfl, ?_⟩
  refine brE_mk (fun q => ?_) (fun q => ⟨congrArg Value.bool (by rw [hE, show decide (x.giver = u.state) = false from q]; simp only [Bool.false_and]), M3.ext⟩)
  have q0 : decide (x.giver = u.state) = true := q
  refine ⟨_, M3.cell 2 rfl rfl, ?_⟩
  refine ⟨_, M3.cell 0 rfl rfl, ?_⟩
  refine brE_mk (fun q => ?_) (fun q => ⟨congrArg Value.bool (by rw [hE, show decide (x.taker = o.state) = false from q]; simp only [Bool.and_false, Bool.false_and]), M3.ext⟩)
  have q1 : decide (x.taker = o.state) = true := q
  refine ⟨_, M3.cell 2 rfl rfl, ?_⟩
  refine ⟨u.cells, rfl, M3.rd 1 rfl, ?_⟩
  refine (whom_spec x.under u _).mono ?_
  rintro _ w4 ⟨rfl, e4⟩
  have M4 := M3.grow e4
  refine brE_mk (fun q => ?_) (fun q => ⟨congrArg Value.bool (by rw [hE, show (decide (x.under = 0) || decide (x.under = u.person)) = false from q]; simp only [Bool.and_false, Bool.false_and]), M4.ext⟩)
  have q2 : (decide (x.under = 0) || decide (x.under = u.person)) = true := q
  refine ⟨_, M4.cell 2 rfl rfl, ?_⟩
  refine ⟨o.cells, rfl, M4.rd 0 rfl, ?_⟩
  refine (whom_spec x.over o _).mono ?_
  rintro _ w5 ⟨rfl, e5⟩
  have M5 := M4.grow e5
  exact ⟨congrArg Value.bool (by rw [hE, q0, q1, q2]; simp only [Bool.true_and]), M5.ext⟩
end Go.Proofs.YtahgjidcaeieaaaGreatDoor
namespace Go.Eng
open Go.RowKit
theorem splice_mid (a b c d : List Value) (h : d.length = b.length) : splice (a ++ (b ++ c)) a.length d = a ++ (d ++ c) := by
  unfold splice
  rw [List.take_append_of_le_length (Nat.le_refl _), List.take_length, List.append_assoc]
  congr 2
  rw [List.drop_append, List.drop_eq_nil_of_le (by omega), List.nil_append, h, Nat.add_sub_cancel_left, List.drop_append, List.drop_length, List.nil_append, Nat.sub_self, List.drop_zero]
theorem flat_set {α : Type} {enc : α → List Value} {k : Nat} (hk : ∀ x, (enc x).length = k) {l : List α} {i : Nat} (hi : i < l.length) (x : α) : splice (l.flatMap enc) (i * k) (enc x) = (l.set i x).flatMap enc := by
  have e1 : l.flatMap enc = (l.take i).flatMap enc ++ (enc l[i] ++ (l.drop (i + 1)).flatMap enc) := by
    conv => lhs; rw [← List.take_append_drop i l, List.drop_eq_getElem_cons hi]
    rw [List.flatMap_append, List.flatMap_cons]
  have e2 : (l.set i x).flatMap enc = (l.take i).flatMap enc ++ (enc x ++ (l.drop (i + 1)).flatMap enc) := by
    rw [List.set_eq_take_append_cons_drop, if_pos hi, List.flatMap_append, List.flatMap_cons]
  have hl : ((l.take i).flatMap enc).length = i * k := by rw [flat_length hk, List.length_take, Nat.min_eq_left (Nat.le_of_lt hi)]
  rw [e1, e2, ← hl]
  exact splice_mid _ _ _ _ (by rw [hk, hk])
theorem flat_take {α : Type} {enc : α → List Value} {k : Nat} (hk : ∀ x, (enc x).length = k) {l : List α} {i : Nat} (hi : i ≤ l.length) : (l.flatMap enc).take (i * k) = (l.take i).flatMap enc := by
  have e : l.flatMap enc = (l.take i).flatMap enc ++ (l.drop i).flatMap enc := by rw [← List.flatMap_append, List.take_append_drop]
  have hl : ((l.take i).flatMap enc).length = i * k := by rw [flat_length hk, List.length_take, Nat.min_eq_left hi]
  rw [e, List.take_append_of_le_length (by omega), ← hl, List.take_length]
theorem splice_take_at {cs vs : List Value} {i : Nat} (h : i ≤ cs.length) : (splice cs i vs).take i = cs.take i := by
  unfold splice
  rw [List.append_assoc, List.take_append_of_le_length (by simp; omega), List.take_take, Nat.min_self]
theorem put_below {B g : Nat} {o : Obj} {w w' : World} (h : Put w g o w') (hg : B ≤ g) : Below B w w' := below_put (Below.refl _ _) h hg
theorem keep_at {α : Type} {p : α → Bool} {l : List α} {j : Nat} (hj : j < l.length) : (l.take (j + 1)).filter (fun x => !p x) = (l.take j).filter (fun x => !p x) ++ if p l[j] = true then [] else [l[j]] := by
  rw [List.take_succ_eq_append_getElem hj, List.filter_append, List.filter_cons, List.filter_nil]
  cases p l[j] <;> rfl
theorem keep_first {α : Type} {p : α → Bool} {l : List α} {i : Nat} (hi : i < l.length) (hp : p l[i] = true) (h : ∀ j (hj : j < l.length), j < i → p l[j] = false) : (l.take (i + 1)).filter (fun x => !p x) = l.take i := by
  rw [keep_at hi, if_pos hp, List.append_nil]
  refine List.filter_eq_self.2 fun x hx => ?_
  obtain ⟨j, hj, rfl⟩ := List.getElem_of_mem hx
  rw [List.length_take] at hj
  rw [List.getElem_take, h j (by omega) (by omega)]
  rfl
end Go.Eng
namespace Go.Proofs.YtahgjidcaeieaaaGreatDoor
open Go.Eng Go.RowKit
theorem IndexFuncF_spec {w : World} {A : Option Addr} {l : List Fact} {c gd : Nat} {cb : Array Value} {p : Fact → Bool} (hr : Reads w A (fcells l)) (hl : l.length ≤ 2 ^ 20) (hgd : C.can gd = true)
    (hdel : ∀ (x : Fact) (w' : World), Ext w w' → CallsV C.P gd (#[] ++ [x.val].toArray ++ cb) w' fun v w'' => v = .bool (p x) ∧ Ext w' w'') :
    CallsV C.P 167 #[.slice A l.length c, .func (.func gd) #[] cb] w fun v w' => ((v = .int .i64 (-1) ∧ ∀ x ∈ l, p x = false) ∨ ∃ i : Nat, v = .int .i64 (i : Nat) ∧ ∃ h : i < l.length, p l[i] = true ∧ ∀ j (hj : j < l.length), j < i → p l[j] = false) ∧ Ext w w' := by
  refine callsV_of C_ok (args := [_, _]) (plans := []) Tryz.func167 rfl Tryz.ntmps167 (by kernel_rfl) (Nat.le_of_ble_eq_true rfl) ?_
  refine loopE C_ok (fun (i : Nat) => [(0, .slice A l.length c), (1, .func (.func gd) #[] cb), (7, .int .i64 l.length), (8, .int .i64 i)])
    (fun i w' => Ext w w' ∧ i ≤ l.length ∧ ∀ j (hj : j < l.length), j < i → p l[j] = false) (fun i => l.length - i) 0 ⟨rfl, rfl, rfl, rfl, trivial⟩
    ⟨Ext.refl _, Nat.zero_le _, fun j _ hj => absurd hj (Nat.not_lt_zero _)⟩ ?_
  rintro i w1 ⟨e1, hi, hall⟩
  refine brE_dec (fun hlt => ?_) (fun hge => ?_)
  · have hlt : i < l.length := by have : (i : Int) < (l.length : Nat) := hlt; omega
    obtain ⟨b, o, hA, hc⟩ := Reads.fact (hr.ext e1) hlt
    refine ⟨i, b, o, rfl, hlt, hA, ?_⟩
    refine ⟨l[i].cells, rfl, hc, ?_⟩
    refine brE_true hgd ?_
    refine (hdel l[i] w1 e1).mono ?_
    rintro v w2 ⟨rfl, e2⟩
    refine brE_mk (fun h2 => ?_) (fun h2 => ?_)
    · exact ⟨.inr ⟨i, rfl, hlt, h2, hall⟩, e1.trans e2⟩
    · refine ⟨((i + 1 : Nat) : Int), fit ⟨by omega, by omega⟩, ?_⟩
      refine ⟨i + 1, ⟨rfl, rfl, rfl, rfl, trivial⟩, ⟨e1.trans e2, hlt, fun j hj hji => ?_⟩, by omega⟩
      rcases Nat.lt_or_ge j i with h | h
      · exact hall j hj h
      · obtain rfl : j = i := by omega
        exact h2
  · have : i = l.length := by have : ¬ (i : Int) < (l.length : Nat) := hge; omega
    subst this
    refine ⟨.inl ⟨rfl, fun x hx => ?_⟩, e1⟩
    obtain ⟨j, hj, rfl⟩ := List.getElem_of_mem hx
    exact hall j hj hj
set_option maxRecDepth 100000 in
theorem DeleteFuncF_spec {B : Nat} {w : World} {v : Value} {l : List Fact} {gd : Nat} {cb : Array Value} {p : Fact → Bool} (ho : NewF B w v l) (hB : B ≤ w.heap.size) (hl : l.length ≤ 2 ^ 20) (hgd : C.can gd = true)
    (hdel : ∀ (x : Fact) (w' : World), Below B w w' → CallsV C.P gd (#[] ++ [x.val].toArray ++ cb) w' fun v w'' => v = .bool (p x) ∧ Ext w' w'') :
    CallsV C.P 159 #[v, .func (.func gd) #[] cb] w fun v' w' => NewF B w' v' (l.filter fun x => !p x) ∧ Below B w w' := by
  obtain ⟨A, cap, rfl, hR, hlc⟩ := ho.slice
  refine callsV_of C_ok (args := [_, _]) (plans := []) Tryz.func159 rfl Tryz.ntmps159 (by kernel_rfl) (Nat.le_of_ble_eq_true rfl) ?_
  refine (IndexFuncF_spec hR hl hgd fun x w' e => hdel x w' (e.mono hB)).mono ?_
  rintro v w1 ⟨hi | ⟨i0, rfl, hi0, hsm, hfirst⟩, e1⟩
  · obtain ⟨rfl, hall⟩ := hi
    have e : (l.filter fun x => !p x) = l := List.filter_eq_self.2 fun x hx => by rw [hall x hx]; rfl
    rw [e]
    exact ⟨ho.ext e1, e1.mono hB⟩
  refine ⟨((i0 + 1 : Nat) : Int), fit ⟨by omega, by omega⟩, ?_⟩
  have hA : ∃ g, A = some ⟨g, 0, none⟩ := by
    obtain ⟨_, ⟨hv, h0⟩ | ⟨g, cap', cur, hv, _⟩⟩ := ho
    · omega
    · simp at hv; exact ⟨g, hv.1⟩
  obtain ⟨g, rfl⟩ := hA
  have kp0 := keep_first hi0 hsm hfirst
  have ho1 : w1.ownsRow B 90 9 (.slice (some ⟨g, 0, none⟩) l.length cap) l.length (fcells l) := ho.ext e1
  refine loopE C_ok (fun (s : Nat × Nat × List Fact) => [(0, .slice (some ⟨g, 0, none⟩) l.length cap), (1, .func (.func gd) #[] cb), (5, .int .i64 s.2.1), (6, .int .i64 s.1)])
    (fun s w' => s.2.1 = ((l.take s.1).filter fun x => !p x).length ∧ s.2.1 < s.1 ∧ s.1 ≤ l.length ∧ s.2.2.length = l.length ∧ w'.ownsRow B 90 9 (.slice (some ⟨g, 0, none⟩) l.length cap) l.length (fcells s.2.2) ∧ s.2.2.take s.2.1 = ((l.take s.1).filter fun x => !p x) ∧ (∀ k, s.1 ≤ k → s.2.2[k]? = l[k]?) ∧ Below B w w')
    (fun s => l.length - s.1) (i0 + 1, i0, l) ⟨rfl, rfl, rfl, rfl, trivial⟩
    ⟨by show i0 = _; rw [kp0, List.length_take]; omega, Nat.lt_succ_self _, hi0, rfl, ho1, kp0.symm, fun _ _ => rfl, e1.mono hB⟩ ?_
  rintro ⟨j, i, R⟩ w2 ⟨hi', hij', hj', hRl', ho2', htake', hrest', b2⟩
  have hi : i = ((l.take j).filter fun x => !p x).length := hi'
  have hij : i < j := hij'
  have hj : j ≤ l.length := hj'
  have hRl : R.length = l.length := hRl'
  have ho2 : w2.ownsRow B 90 9 (.slice (some ⟨g, 0, none⟩) l.length cap) l.length (fcells R) := ho2'
  have htake : R.take i = ((l.take j).filter fun x => !p x) := htake'
  have hrest : ∀ k, j ≤ k → R[k]? = l[k]? := hrest'
  clear hRl' hi' hij' hj' ho2' hrest' htake'
  refine brE_dec (fun hlt => ?_) (fun hge => ?_)
  · have hlt : j < l.length := by have : (j : Int) < (l.length : Nat) := hlt; omega
    have next : IntKind.i64.wrap ((j : Int) + 1) = ((j + 1 : Nat) : Int) := fit ⟨by omega, by omega⟩
    have hRj : R[j]'(by omega) = l[j] := by
      have := hrest j (Nat.le_refl _)
      rw [List.getElem?_eq_getElem hlt, List.getElem?_eq_getElem (by omega)] at this
      exact Option.some.inj this
    have hreads : Reads w2 (some ⟨g, 0, none⟩) (fcells R) := by
      obtain ⟨A', c', e, h, _⟩ := reads_of_owns ho2
      cases e; exact h
    obtain ⟨b1, o1, hA1, hc1⟩ := Reads.fact hreads (i := j) (by omega)
    cases hA1
    rw [hRj] at hc1
    refine ⟨j, g, 0, rfl, hlt, rfl, ?_⟩
    refine ⟨l[j].cells, rfl, hc1, ?_⟩
    intro g7 w3 h3
    refine ⟨rfl, _, _, h3.here, Nat.le_of_ble_eq_true rfl, rfl, ?_⟩
    intro w4 h4
    have h4 : Put w3 g7 (.cells l[j].cells.toArray 90 (0, 0)) w4 := h4
    have e24 : Ext w2 w4 := h4.ext_of h3.ext (by rw [h3.new]; exact Nat.le_refl _)
    have hBw2 : B ≤ w2.heap.size := Nat.le_trans hB b2.size
    have b4 : Below B w w4 := b2.trans (e24.mono hBw2)
    refine ⟨l[j].cells, rfl, Rd.of_block h4.here, ?_⟩
    refine brE_true hgd ?_
    refine (hdel l[j] w4 b4).mono ?_
    rintro v w5 ⟨rfl, e5⟩
    have e25 := e24.trans e5
    have b5 : Below B w w5 := b2.trans (e25.mono hBw2)
    have ho5 := ownsRow_ext ho2 e25
    have hk := keep_at (p := p) hlt
    refine brE_mk (fun h2 => ?_) (fun h2 => ?_)
    · have h2 : p l[j] = false := by simpa using h2
      rw [h2, if_neg (by decide)] at hk
      obtain ⟨cur, hg, hgB, hcl, hccap, hncap, hdl, hct, hput⟩ := ownsRow_open ho5
      refine ⟨l[j].cells, rfl, Rd.of_block (e5.heap h4.here), ?_⟩
      refine ⟨i, g, 0, rfl, (by omega : i < l.length), rfl, ?_⟩
      refine ⟨rfl, _, _, hg, by show 0 + i * 9 + 9 ≤ cur.length; omega, rfl, ?_⟩
      intro w6 h6
      have h6 : Put w5 g (.cells (splice cur (0 + i * 9) l[j].cells).toArray 90 (0, 0)) w6 := h6
      have ho6 := hput (0 + i * 9) l[j].cells w6 (by show 0 + i * 9 + 9 ≤ _; omega) h6
      have e0 : 0 + i * 9 = i * 9 := by omega
      rw [e0] at ho6
      have hset : splice (fcells R) (i * 9) l[j].cells = fcells (R.set i l[j]) := flat_set Fact.len (by omega) _
      rw [hset] at ho6
      have nexti : IntKind.i64.wrap ((i : Int) + 1) = ((i + 1 : Nat) : Int) := fit ⟨by omega, by omega⟩
      refine ⟨_, nexti, ?_⟩
      refine ⟨_, next, ?_⟩
      refine ⟨(j + 1, i + 1, R.set i l[j]), ⟨rfl, rfl, rfl, rfl, trivial⟩, ⟨?_, by show i + 1 < j + 1; omega, hlt, by show (R.set i l[j]).length = _; rw [List.length_set, hRl], ho6, ?_, ?_, below_put b5 h6 hgB⟩, by show l.length - (j + 1) < l.length - j; omega⟩
      · show i + 1 = ((l.take (j + 1)).filter fun x => !p x).length
        rw [hk, List.length_append, ← hi]; rfl
      · show (R.set i l[j]).take (i + 1) = ((l.take (j + 1)).filter fun x => !p x)
        have hil : i < (R.set i l[j]).length := by rw [List.length_set]; omega
        rw [hk, List.take_succ_eq_append_getElem hil, List.take_set_of_le (Nat.le_refl _), htake]
        congr 1
        simp
      · intro k hk1
        show (R.set i l[j])[k]? = l[k]?
        have hk1 : j + 1 ≤ k := hk1
        rw [List.getElem?_set_ne (by omega)]
        exact hrest k (by omega)
    · have h2 : p l[j] = true := by simpa using h2
      rw [h2, if_pos rfl, List.append_nil] at hk
      refine ⟨_, next, ?_⟩
      exact ⟨(j + 1, i, R), ⟨rfl, rfl, rfl, rfl, trivial⟩, ⟨by show i = ((l.take (j + 1)).filter fun x => !p x).length; rw [hk]; exact hi, by show i < j + 1; omega, hlt, hRl, ho5, by show R.take i = ((l.take (j + 1)).filter fun x => !p x); rw [hk]; exact htake, fun k hk1 => hrest k (by have : j + 1 ≤ k := hk1; omega), b5⟩, by show l.length - (j + 1) < l.length - j; omega⟩
  · have : j = l.length := by have : ¬ (j : Int) < (l.length : Nat) := hge; omega
    subst this
    rw [List.take_length] at hi htake
    obtain ⟨cur, hg, hgB, hcl, hccap, hncap, hdl, hct, hput⟩ := ownsRow_open ho2
    refine ⟨i, l.length, rfl, rfl, by omega, by omega, ?_⟩
    have hA : (if cap = i then (some (⟨g, 0, none⟩ : Addr)) else (some (⟨g, 0, none⟩ : Addr)).map (·.add (i * 9))) = some ⟨g, 0 + i * 9, none⟩ := by
      rw [if_neg (by omega)]
      simp [add_spot]
    refine clearRow (esz := 9) C_ok rfl rfl rfl rfl rfl rfl rfl (by decide) hA (by omega) hg (by omega) ?_
    intro zs w3 hzs h3
    have ho3 := hput (0 + i * 9) zs w3 (by rw [hzs]; omega) h3
    refine ⟨0, i, rfl, rfl, Nat.zero_le _, by omega, ?_⟩
    have e : (if cap = 0 then (some ⟨g, 0, none⟩ : Option Addr) else (some (⟨g, 0, none⟩ : Addr)).map (·.add (0 * 9))) = some ⟨g, 0, none⟩ := by
      split <;> rfl
    have hcut := ownsRow_cut ho3 (k := i) (by omega)
    have e0 : 0 + i * 9 = i * 9 := by omega
    have hft : (fcells R).take (i * 9) = fcells (R.take i) := flat_take Fact.len (by omega)
    rw [e0, splice_take_at (by rw [fcells_length]; omega), hft, htake] at hcut
    refine ⟨?_, below_put b2 h3 hgB⟩
    show w3.ownsRow B 90 9 (.slice (if cap = 0 then (some ⟨g, 0, none⟩ : Option Addr) else (some (⟨g, 0, none⟩ : Addr)).map (·.add (0 * 9))) i cap) (l.filter fun x => !p x).length _
    rw [e, ← hi]
    exact hcut
end Go.Proofs.YtahgjidcaeieaaaGreatDoor
