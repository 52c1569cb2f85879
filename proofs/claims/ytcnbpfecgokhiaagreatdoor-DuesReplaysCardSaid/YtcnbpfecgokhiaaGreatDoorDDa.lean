/- a part of the proof: steps, walks and plain laws that the law below stands on; no condition. -/
import Derived.Shelf.Strings.OnBuilder
import Derived.Shelf.Strconv.AtoiAll
import Derived.Shelf.Strconv.Itoa3
import Derived.Shelf.Strings.Search2
import Derived.KernelRfl
import Derived.Test.YtcnbpfecgokhiaaGreatDoorProg
import Derived.Test.YtcnbpfecgokhiaaGreatDoorDBe
import Derived.WideLaws
set_option linter.unusedVariables false
set_option linter.unusedSimpArgs false
set_option linter.unnecessarySimpa false
set_option linter.unusedSectionVars false
namespace Go.Proofs.YtcnbpfecgokhiaaGreatDoor
open Go.Proofs Go.Shelf

def laysM171_ren : Go.Shelf.Ren := ⟨fun | 171 => 108 | 243 => 147 | 246 => 176 | 283 => 199 | 284 => 200 | 285 => 201 | 286 => 202 | 129 => 241 | 317 => 240 | 318 => 242 | 319 => 243 | 320 => 244 | 337 => 257 | 338 => 258 | n => n, fun | 3 => 3 | 9 => 9 | 2 => 2 | 4 => 4 | 171 => 235 | 0 => 0 | 53 => 236 | 37 => 216 | 5 => 5 | 173 => 239 | 212 => 258 | 51 => 259 | 20 => 20 | 213 => 260 | 46 => 243 | 232 => 287 | 233 => 288 | n => n, fun | 17 => 3 | 18 => 4 | 19 => 5 | n => n⟩
theorem laysM171 : Go.Proofs.LaysM.n171 Tryz.prog laysM171_ren := {
  mixed := by kernel_rfl
  f129 := Tryz.func241.trans (congrArg some (by kernel_rfl))
  f171 := Tryz.func108.trans (congrArg some (by kernel_rfl))
  f243 := Tryz.func147.trans (congrArg some (by kernel_rfl))
  f246 := Tryz.func176.trans (congrArg some (by kernel_rfl))
  f283 := Tryz.func199.trans (congrArg some (by kernel_rfl))
  f284 := Tryz.func200.trans (congrArg some (by kernel_rfl))
  f285 := Tryz.func201.trans (congrArg some (by kernel_rfl))
  f286 := Tryz.func202.trans (congrArg some (by kernel_rfl))
  f317 := Tryz.func240.trans (congrArg some (by kernel_rfl))
  f318 := Tryz.func242.trans (congrArg some (by kernel_rfl))
  f319 := Tryz.func243.trans (congrArg some (by kernel_rfl))
  f320 := Tryz.func244.trans (congrArg some (by kernel_rfl))
  f337 := Tryz.func257.trans (congrArg some (by kernel_rfl))
  f338 := Tryz.func258.trans (congrArg some (by kernel_rfl))
  t0 := Tryz.underlying0
  a0 := Tryz.isAgg0
  z0 := Tryz.sizeOf0
  v0 := Tryz.zeroValue0
  t2 := Tryz.underlying2
  a2 := Tryz.isAgg2
  z2 := Tryz.sizeOf2
  v2 := Tryz.zeroValue2
  t3 := Tryz.underlying3
  a3 := Tryz.isAgg3
  z3 := Tryz.sizeOf3
  v3 := Tryz.zeroValue3
  t4 := Tryz.underlying4
  a4 := Tryz.isAgg4
  z4 := Tryz.sizeOf4
  v4 := Tryz.zeroValue4
  t5 := Tryz.underlying5
  a5 := Tryz.isAgg5
  z5 := Tryz.sizeOf5
  v5 := Tryz.zeroValue5
  t9 := Tryz.underlying9
  a9 := Tryz.isAgg9
  z9 := Tryz.sizeOf9
  v9 := Tryz.zeroValue9
  t20 := Tryz.underlying20
  a20 := Tryz.isAgg20
  z20 := Tryz.sizeOf20
  v20 := Tryz.zeroValue20
  t37 := Tryz.underlying216
  a37 := Tryz.isAgg216
  z37 := Tryz.sizeOf216
  v37 := Tryz.zeroValue216
  t46 := Tryz.underlying243
  a46 := Tryz.isAgg243
  z46 := Tryz.sizeOf243
  v46 := Tryz.zeroValue243
  t51 := Tryz.underlying259
  a51 := Tryz.isAgg259
  z51 := Tryz.sizeOf259
  v51 := Tryz.zeroValue259
  t53 := Tryz.underlying236
  a53 := Tryz.isAgg236
  z53 := Tryz.sizeOf236
  v53 := Tryz.zeroValue236
  t171 := Tryz.underlying235
  a171 := Tryz.isAgg235
  z171 := Tryz.sizeOf235
  v171 := Tryz.zeroValue235
  t173 := Tryz.underlying239
  a173 := Tryz.isAgg239
  z173 := Tryz.sizeOf239
  v173 := Tryz.zeroValue239
  t212 := Tryz.underlying258
  a212 := Tryz.isAgg258
  z212 := Tryz.sizeOf258
  v212 := Tryz.zeroValue258
  t213 := Tryz.underlying260
  a213 := Tryz.isAgg260
  z213 := Tryz.sizeOf260
  t232 := Tryz.underlying287
  a232 := Tryz.isAgg287
  z232 := Tryz.sizeOf287
  v232 := Tryz.zeroValue287
  t233 := Tryz.underlying288
  a233 := Tryz.isAgg288
  z233 := Tryz.sizeOf288
  v233 := Tryz.zeroValue288
  g17 := by kernel_rfl
  g18 := by kernel_rfl
  g19 := by kernel_rfl
  i0 := by kernel_rfl
  i2 := by kernel_rfl
  i3 := by kernel_rfl
  i4 := by kernel_rfl
  i5 := by kernel_rfl
  i9 := by kernel_rfl
  i20 := by kernel_rfl
  i37 := by kernel_rfl
  i46 := by kernel_rfl
  i51 := by kernel_rfl
  i53 := by kernel_rfl
  i171 := by kernel_rfl
  i173 := by kernel_rfl
  i212 := by kernel_rfl
  i232 := by kernel_rfl
  i233 := by kernel_rfl
  m17 := by kernel_rfl
  m18 := by kernel_rfl
  m19 := by kernel_rfl }
def lays219_ren : Go.Shelf.Ren := ⟨fun | 219 => 177 | 217 => 203 | 225 => 204 | 224 => 205 | 267 => 206 | 266 => 245 | 314 => 246 | n => n, fun | 9 => 9 | 3 => 3 | 4 => 4 | 5 => 5 | 46 => 243 | 146 => 262 | 51 => 259 | n => n, fun | 1 => 0 | n => n⟩
theorem lays219 : Go.Proofs.Lays.n219 Tryz.prog lays219_ren := {
  mixed := by kernel_rfl
  f217 := Tryz.func203.trans (congrArg some (by kernel_rfl))
  f219 := Tryz.func177.trans (congrArg some (by kernel_rfl))
  f224 := Tryz.func205.trans (congrArg some (by kernel_rfl))
  f225 := Tryz.func204.trans (congrArg some (by kernel_rfl))
  f266 := Tryz.func245.trans (congrArg some (by kernel_rfl))
  f267 := Tryz.func206.trans (congrArg some (by kernel_rfl))
  f314 := Tryz.func246.trans (congrArg some (by kernel_rfl))
  t3 := Tryz.underlying3
  a3 := Tryz.isAgg3
  z3 := Tryz.sizeOf3
  v3 := Tryz.zeroValue3
  t4 := Tryz.underlying4
  a4 := Tryz.isAgg4
  z4 := Tryz.sizeOf4
  v4 := Tryz.zeroValue4
  t5 := Tryz.underlying5
  a5 := Tryz.isAgg5
  z5 := Tryz.sizeOf5
  v5 := Tryz.zeroValue5
  t9 := Tryz.underlying9
  a9 := Tryz.isAgg9
  z9 := Tryz.sizeOf9
  v9 := Tryz.zeroValue9
  t46 := Tryz.underlying243
  a46 := Tryz.isAgg243
  z46 := Tryz.sizeOf243
  v46 := Tryz.zeroValue243
  t51 := Tryz.underlying259
  a51 := Tryz.isAgg259
  z51 := Tryz.sizeOf259
  v51 := Tryz.zeroValue259
  t146 := Tryz.underlying262
  a146 := Tryz.isAgg262
  z146 := Tryz.sizeOf262
  v146 := Tryz.zeroValue262
  g1 := by kernel_rfl }
def laysC172_ren : Go.Shelf.Ren := ⟨fun | 172 => 116 | 244 => 150 | 245 => 151 | 247 => 178 | 279 => 179 | 280 => 180 | 281 => 181 | 282 => 182 | 287 => 207 | 316 => 208 | 171 => 108 | 205 => 209 | 321 => 247 | 322 => 248 | 243 => 147 | 246 => 176 | 283 => 199 | 284 => 200 | 285 => 201 | 286 => 202 | 129 => 241 | 317 => 240 | 318 => 242 | 319 => 243 | 320 => 244 | 337 => 257 | 338 => 258 | n => n, fun | 9 => 9 | 3 => 3 | 75 => 163 | 76 => 164 | 4 => 4 | 5 => 5 | 167 => 218 | 37 => 216 | 0 => 0 | 85 => 219 | 2 => 2 | 168 => 221 | 53 => 236 | 175 => 244 | 46 => 243 | 210 => 248 | 127 => 265 | 145 => 268 | 143 => 266 | 21 => 21 | 171 => 235 | 173 => 239 | 212 => 258 | 51 => 259 | 20 => 20 | 213 => 260 | 232 => 287 | 233 => 288 | 80 => 161 | n => n, fun | 15 => 1 | 16 => 2 | 17 => 3 | 18 => 4 | 19 => 5 | n => n⟩
theorem laysC172 : Go.Proofs.LaysC.n172 Tryz.prog laysC172_ren := {
  mixed := by kernel_rfl
  f129 := Tryz.func241.trans (congrArg some (by kernel_rfl))
  f171 := Tryz.func108.trans (congrArg some (by kernel_rfl))
  f172 := Tryz.func116.trans (congrArg some (by kernel_rfl))
  f205 := Tryz.func209.trans (congrArg some (by kernel_rfl))
  f243 := Tryz.func147.trans (congrArg some (by kernel_rfl))
  f244 := Tryz.func150.trans (congrArg some (by kernel_rfl))
  f245 := Tryz.func151.trans (congrArg some (by kernel_rfl))
  f246 := Tryz.func176.trans (congrArg some (by kernel_rfl))
  f247 := Tryz.func178.trans (congrArg some (by kernel_rfl))
  f279 := Tryz.func179.trans (congrArg some (by kernel_rfl))
  f280 := Tryz.func180.trans (congrArg some (by kernel_rfl))
  f281 := Tryz.func181.trans (congrArg some (by kernel_rfl))
  f282 := Tryz.func182.trans (congrArg some (by kernel_rfl))
  f283 := Tryz.func199.trans (congrArg some (by kernel_rfl))
  f284 := Tryz.func200.trans (congrArg some (by kernel_rfl))
  f285 := Tryz.func201.trans (congrArg some (by kernel_rfl))
  f286 := Tryz.func202.trans (congrArg some (by kernel_rfl))
  f287 := Tryz.func207.trans (congrArg some (by kernel_rfl))
  f316 := Tryz.func208.trans (congrArg some (by kernel_rfl))
  f317 := Tryz.func240.trans (congrArg some (by kernel_rfl))
  f318 := Tryz.func242.trans (congrArg some (by kernel_rfl))
  f319 := Tryz.func243.trans (congrArg some (by kernel_rfl))
  f320 := Tryz.func244.trans (congrArg some (by kernel_rfl))
  f321 := Tryz.func247.trans (congrArg some (by kernel_rfl))
  f322 := Tryz.func248.trans (congrArg some (by kernel_rfl))
  f337 := Tryz.func257.trans (congrArg some (by kernel_rfl))
  f338 := Tryz.func258.trans (congrArg some (by kernel_rfl))
  t0 := Tryz.underlying0
  a0 := Tryz.isAgg0
  z0 := Tryz.sizeOf0
  v0 := Tryz.zeroValue0
  t2 := Tryz.underlying2
  a2 := Tryz.isAgg2
  z2 := Tryz.sizeOf2
  v2 := Tryz.zeroValue2
  t3 := Tryz.underlying3
  a3 := Tryz.isAgg3
  z3 := Tryz.sizeOf3
  v3 := Tryz.zeroValue3
  t4 := Tryz.underlying4
  a4 := Tryz.isAgg4
  z4 := Tryz.sizeOf4
  v4 := Tryz.zeroValue4
  t5 := Tryz.underlying5
  a5 := Tryz.isAgg5
  z5 := Tryz.sizeOf5
  v5 := Tryz.zeroValue5
  t9 := Tryz.underlying9
  a9 := Tryz.isAgg9
  z9 := Tryz.sizeOf9
  v9 := Tryz.zeroValue9
  t20 := Tryz.underlying20
  a20 := Tryz.isAgg20
  z20 := Tryz.sizeOf20
  v20 := Tryz.zeroValue20
  t21 := Tryz.underlying21
  a21 := Tryz.isAgg21
  z21 := Tryz.sizeOf21
  v21 := Tryz.zeroValue21
  t37 := Tryz.underlying216
  a37 := Tryz.isAgg216
  z37 := Tryz.sizeOf216
  v37 := Tryz.zeroValue216
  t46 := Tryz.underlying243
  a46 := Tryz.isAgg243
  z46 := Tryz.sizeOf243
  v46 := Tryz.zeroValue243
  t51 := Tryz.underlying259
  a51 := Tryz.isAgg259
  z51 := Tryz.sizeOf259
  v51 := Tryz.zeroValue259
  t53 := Tryz.underlying236
  a53 := Tryz.isAgg236
  z53 := Tryz.sizeOf236
  v53 := Tryz.zeroValue236
  t75 := Tryz.underlying163
  a75 := Tryz.isAgg163
  z75 := Tryz.sizeOf163
  v75 := Tryz.zeroValue163
  t76 := Tryz.underlying164
  a76 := Tryz.isAgg164
  z76 := Tryz.sizeOf164
  v76 := Tryz.zeroValue164
  t85 := Tryz.underlying219
  a85 := Tryz.isAgg219
  z85 := Tryz.sizeOf219
  v85 := Tryz.zeroValue219
  t127 := Tryz.underlying265
  a127 := Tryz.isAgg265
  z127 := Tryz.sizeOf265
  v127 := Tryz.zeroValue265
  t143 := Tryz.underlying266
  a143 := Tryz.isAgg266
  z143 := Tryz.sizeOf266
  v143 := Tryz.zeroValue266
  t145 := Tryz.underlying268
  a145 := Tryz.isAgg268
  z145 := Tryz.sizeOf268
  v145 := Tryz.zeroValue268
  t167 := Tryz.underlying218
  a167 := Tryz.isAgg218
  z167 := Tryz.sizeOf218
  v167 := Tryz.zeroValue218
  t168 := Tryz.underlying221
  a168 := Tryz.isAgg221
  z168 := Tryz.sizeOf221
  v168 := Tryz.zeroValue221
  t171 := Tryz.underlying235
  a171 := Tryz.isAgg235
  z171 := Tryz.sizeOf235
  v171 := Tryz.zeroValue235
  t173 := Tryz.underlying239
  a173 := Tryz.isAgg239
  z173 := Tryz.sizeOf239
  v173 := Tryz.zeroValue239
  t175 := Tryz.underlying244
  a175 := Tryz.isAgg244
  z175 := Tryz.sizeOf244
  v175 := Tryz.zeroValue244
  t210 := Tryz.underlying248
  a210 := Tryz.isAgg248
  z210 := Tryz.sizeOf248
  v210 := Tryz.zeroValue248
  t212 := Tryz.underlying258
  a212 := Tryz.isAgg258
  z212 := Tryz.sizeOf258
  v212 := Tryz.zeroValue258
  t213 := Tryz.underlying260
  a213 := Tryz.isAgg260
  z213 := Tryz.sizeOf260
  t232 := Tryz.underlying287
  a232 := Tryz.isAgg287
  z232 := Tryz.sizeOf287
  v232 := Tryz.zeroValue287
  t233 := Tryz.underlying288
  a233 := Tryz.isAgg288
  z233 := Tryz.sizeOf288
  v233 := Tryz.zeroValue288
  g15 := by kernel_rfl
  g16 := by kernel_rfl
  g17 := by kernel_rfl
  g18 := by kernel_rfl
  g19 := by kernel_rfl
  t80 := Tryz.underlying161
  a80 := Tryz.isAgg161
  z80 := Tryz.sizeOf161
  v80 := Tryz.zeroValue161
  i0 := by kernel_rfl
  i2 := by kernel_rfl
  i3 := by kernel_rfl
  i4 := by kernel_rfl
  i5 := by kernel_rfl
  i9 := by kernel_rfl
  i20 := by kernel_rfl
  i21 := by kernel_rfl
  i37 := by kernel_rfl
  i46 := by kernel_rfl
  i51 := by kernel_rfl
  i53 := by kernel_rfl
  i75 := by kernel_rfl
  i76 := by kernel_rfl
  i80 := by kernel_rfl
  i85 := by kernel_rfl
  i127 := by kernel_rfl
  i143 := by kernel_rfl
  i145 := by kernel_rfl
  i167 := by kernel_rfl
  i168 := by kernel_rfl
  i171 := by kernel_rfl
  i173 := by kernel_rfl
  i175 := by kernel_rfl
  i210 := by kernel_rfl
  i212 := by kernel_rfl
  i232 := by kernel_rfl
  i233 := by kernel_rfl
  m15 := by kernel_rfl
  m16 := by kernel_rfl
  m17 := by kernel_rfl
  m18 := by kernel_rfl
  m19 := by kernel_rfl
  c0 := by kernel_rfl
  c2 := by kernel_rfl
  c3 := by kernel_rfl
  c4 := by kernel_rfl
  c5 := by kernel_rfl
  c9 := by kernel_rfl
  c20 := by kernel_rfl
  c21 := by kernel_rfl
  c37 := by kernel_rfl
  c46 := by kernel_rfl
  c51 := by kernel_rfl
  c53 := by kernel_rfl
  c75 := by kernel_rfl
  c76 := by kernel_rfl
  c80 := by kernel_rfl
  c85 := by kernel_rfl
  c127 := by kernel_rfl
  c143 := by kernel_rfl
  c145 := by kernel_rfl
  c167 := by kernel_rfl
  c168 := by kernel_rfl
  c171 := by kernel_rfl
  c173 := by kernel_rfl
  c175 := by kernel_rfl
  c210 := by kernel_rfl
  c212 := by kernel_rfl
  c213 := by kernel_rfl
  c232 := by kernel_rfl
  c233 := by kernel_rfl }

end Go.Proofs.YtcnbpfecgokhiaaGreatDoor

namespace Go.Eng
open Go.RowKit

theorem var_ext {P : Program} {w w' : World} {n : String} {cs : Array Value} (h : w.var? P n = some cs) (e : Ext w w') : w'.var? P n = some cs := by
  unfold World.var? at h ⊢
  cases hg : P.globalNamed n with
  | none => simp [hg] at h
  | some g =>
    simp only [hg, Option.bind_some] at h ⊢
    cases hb : w.heap[g]? with
    | none => rw [hb] at h; cases h
    | some o => rw [e.heap hb]; rw [hb] at h; exact h
theorem var_same {P : Program} {w w' : World} {n : String} {cs : Array Value} (h : w.var? P n = some cs) (e : Same w w') : w'.var? P n = some cs := by
  unfold World.var? at h ⊢
  rw [e.heap]; exact h
theorem ext_bytesWorld (w : World) (e : Nat) (s : ByteArray) : Ext w (Lib.bytesWorld w e s) ∧ w.drawn ≤ (Lib.bytesWorld w e s).drawn := by
  have hd : (Lib.bytesWorld w e s).drawn = w.drawn + 1 := by unfold Lib.bytesWorld World.freeze; split <;> rfl
  have ho : (Lib.bytesWorld w e s).os = w.os := by unfold Lib.bytesWorld World.freeze; split <;> rfl
  have ht : (Lib.bytesWorld w e s).tape = w.tape := by unfold Lib.bytesWorld World.freeze; split <;> rfl
  have hp : (Lib.bytesWorld w e s).output = w.output := by unfold Lib.bytesWorld World.freeze; split <;> rfl
  refine ⟨⟨ho, ht, hp, by rw [Lib.bytesWorld_size]; omega, fun k hk => Lib.bytesWorld_at_old w e s k hk⟩, by omega⟩
theorem ext_grow (w : World) (n : Nat) (os : Array Obj) : Ext w (Go.Sort.grow (w.drewN n) os) := by
  refine ⟨rfl, rfl, rfl, ?_, fun k hk => ?_⟩
  · show w.heap.size ≤ (w.heap ++ os).size
    simp
  · show (w.heap ++ os)[k]? = w.heap[k]?
    exact Array.getElem?_append_left hk

end Go.Eng

namespace Go.Proofs.YtcnbpfecgokhiaaGreatDoor
open Go.Eng Go.RowKit

/-- The tables of the library lie where they belong. -/
structure Tabs (w : World) : Prop where
  pow : Lib.TabIs Tryz.prog w "internal/strconv.uint64pow10" .u64 Lib.pow10Tab
  syn : ∃ te pe, w.cell? ⟨1, 0, none⟩ = some (.iface te pe)
  rng : ∃ te pe, w.cell? ⟨2, 0, none⟩ = some (.iface te pe)
theorem Tabs.ext {w w' : World} (h : Tabs w) (e : Ext w w') : Tabs w' := ⟨var_ext h.pow e, let ⟨te, pe, hc⟩ := h.syn; ⟨te, pe, e.cell hc⟩, let ⟨te, pe, hc⟩ := h.rng; ⟨te, pe, e.cell hc⟩⟩
theorem Tabs.same {w w' : World} (h : Tabs w) (e : Same w w') : Tabs w' := h.ext e.ext

theorem Itoa_spec (n : Int) (hn : In64 n) (w : World) (T : Tabs w) : CallsV C.P 108 #[.int .i64 n] w fun v w' => v = .string ⟨(Lib.itoa n).toArray⟩ ∧ Ext w w' := by
  refine callsV_of_calls fun w₁ hs => ?_
  refine (Any.strconv_Itoa laysM171 n hn.1 hn.2 w₁ (T.same hs).pow).mono ?_
  rintro e w' ⟨rfl, k, os, rfl⟩
  exact ⟨_, rfl, ⟨rfl, (ext_grow w₁ k os).same_left hs.symm⟩, Nat.le_add_right _ _⟩

/-- A row of strings. -/
def strs (xs : List ByteArray) : List Value := xs.map (.string ·)
theorem strs_append (xs ys : List ByteArray) : strs (xs ++ ys) = strs xs ++ strs ys := by simp [strs]
theorem strs_length (xs : List ByteArray) : (strs xs).length = xs.length := by simp [strs]
theorem Reads.str {w : World} {A : Option Addr} {xs : List ByteArray} (h : Reads w A (strs xs)) {i : Nat} (hi : i < xs.length) : ∃ b o, A = some ⟨b, o, none⟩ ∧ w.cell? ⟨b, o + i, none⟩ = some (.string xs[i]) := by
  rcases h with h | ⟨b, o, hA, hr⟩
  · have : xs.length = 0 := by have := congrArg List.length h; simpa [strs] using this
    omega
  · exact ⟨b, o, hA, hr i _ (by simp [strs, hi])⟩

theorem underErr : C.P.underlying 163 = some (.interface (C.P.methodsAt 163)) := by kernel_rfl
theorem eqErr (x y : Operand) (t : Nat) (p : Value) : EqIs C.P .eql 163 x y (.iface t p) .nilIface false := by
  intro w
  have h1 : (eqGuard .eql 163 x y (.iface t p) .nilIface).run C.P w = .ok () w := by simp [eqGuard]
  rw [Sem.run_bind, h1]
  simp only [Result.andThen_ok]
  exact run_eql_held_nil w _ _ _ underErr
theorem eqErr0 (x : Operand) : EqIs C.P .eql 163 x (.const .nilIface) .nilIface .nilIface true := by
  intro w
  have h1 : (eqGuard .eql 163 x (.const .nilIface) .nilIface .nilIface).run C.P w = .ok () w := by simp [eqGuard]
  rw [Sem.run_bind, h1]
  simp only [Result.andThen_ok]
  exact run_eql_nil_nil w _ underErr

theorem Atoi_spec (s : ByteArray) (hs : s.size ≤ 281474976710656) (w : World) (T : Tabs w) :
    CallsW C.P 116 #[.string s] w fun v w' => (∃ err, v = .tuple #[.int .i64 (numW s.data.toList).1, err] ∧ ((numW s.data.toList).2 = true ∧ err = .nilIface ∨ (numW s.data.toList).2 = false ∧ ∃ t p, err = .iface t p)) ∧ Ext w w' := by
  refine callsW_of_calls fun w₁ hsm => ?_
  have T₁ := T.same hsm
  unfold numW
  cases ha : Lib.atoiAll s.data.toList with
  | ok v =>
    refine (Any.strconv_Atoi_ok laysC172 s (by omega) v ha w₁).mono ?_
    rintro e w' ⟨rfl, hw⟩
    refine ⟨_, rfl, ⟨_, rfl, .inl ⟨rfl, rfl⟩⟩, ?_⟩
    rcases hw with rfl | ⟨t, rfl⟩
    · exact hsm.ext
    · exact (ext_bytesWorld w₁ _ t).1.same_left hsm.symm
  | «syntax» =>
    obtain ⟨te, pe, hc⟩ := T₁.syn
    refine (Any.strconv_Atoi_syntax laysC172 s hs ha (.iface te pe) w₁ hc (.inr ⟨te, pe, rfl⟩)).mono ?_
    rintro e w' ⟨N, rfl, _, _, hw⟩
    have hw' : Ext w₁ w' := hw
    exact ⟨_, rfl, ⟨_, rfl, .inr ⟨rfl, _, _, rfl⟩⟩, hw'.same_left hsm.symm⟩
  | range =>
    obtain ⟨te, pe, hc⟩ := T₁.rng
    refine (Any.strconv_Atoi_range laysC172 s hs ha (.iface te pe) w₁ hc (.inr ⟨te, pe, rfl⟩)).mono ?_
    rintro e w' ⟨N, rfl, _, _, hw⟩
    have hw' : Ext w₁ w' := hw
    exact ⟨_, rfl, ⟨_, rfl, .inr ⟨rfl, _, _, rfl⟩⟩, hw'.same_left hsm.symm⟩

/-! ### strings.Cut at a blank -/
theorem cut_index : ∀ (l : List UInt8), (Lib.indexByte l 32 = -1 ∧ cutW l = (l, [])) ∨ ∃ i : Nat, Lib.indexByte l 32 = i ∧ i < l.length ∧ cutW l = (l.take i, l.drop (i + 1))
  | [] => .inl ⟨rfl, rfl⟩
  | c :: r => by
    unfold Lib.indexByte cutW
    by_cases h : c = 32
    · subst h
      exact .inr ⟨0, by simp, by simp, by simp⟩
    · rcases cut_index r with ⟨h1, h2⟩ | ⟨i, h1, h2, h3⟩
      · exact .inl ⟨by simp [h, h1], by rw [if_neg h, h2]⟩
      · refine .inr ⟨i + 1, ?_, by simp; omega, ?_⟩
        · simp [h, h1]
        · rw [if_neg h, h3]; rfl
theorem extract_list (s : ByteArray) (i j : Nat) (h : j ≤ s.size) : s.extract i j = ⟨((s.data.toList.take j).drop i).toArray⟩ := by
  apply ByteArray.ext
  rw [ByteArray.data_extract]
  apply Array.ext'
  rw [Array.toList_extract, List.extract_eq_take_drop, List.drop_take]

theorem Index1_spec (s : ByteArray) (w : World) : CallsV C.P 177 #[.string s, .string ⟨#[32]⟩] w fun v w' => v = .int .i64 (Lib.indexByte s.data.toList 32) ∧ w' = w := by
  refine fun w₁ hs => (Any.stringslite_Index_one lays219 s 32 w₁).mono ?_
  rintro e w' ⟨rfl, rfl⟩
  exact ⟨⟨_, w, rfl, ⟨rfl, rfl⟩, hs⟩, fun _ => Nat.le_refl _⟩

theorem Cut_spec (s : ByteArray) (hs : s.size ≤ 9223372036854775807) (w : World) : CallsV C.P 114 #[.string s, .string ⟨#[32]⟩] w fun v w' => (∃ b, v = .tuple #[.string ⟨(cutW s.data.toList).1.toArray⟩, .string ⟨(cutW s.data.toList).2.toArray⟩, .bool b]) ∧ w' = w := by
  have inner : CallsV C.P 149 #[.string s, .string ⟨#[32]⟩] w fun v w' => (∃ b, v = .tuple #[.string ⟨(cutW s.data.toList).1.toArray⟩, .string ⟨(cutW s.data.toList).2.toArray⟩, .bool b]) ∧ w' = w := by
    refine callsV_of C_ok (args := [_, _]) (plans := plans149) Tryz.func149 rfl Tryz.ntmps149 (by kernel_rfl) (Nat.le_of_ble_eq_true rfl) ?_
    refine (Index1_spec s w).mono ?_
    rintro v w1 ⟨rfl, rfl⟩
    have hsz := ba_size s
    have hci := cut_index s.data.toList
    generalize Lib.indexByte s.data.toList 32 = z at *
    refine brE_dec (fun h => ?_) (fun h => ?_)
    · have h : z ≥ 0 := h
      rcases hci with ⟨h1, h2⟩ | ⟨i, h1, hi, h2⟩
      · omega
      rw [h2]
      refine ⟨0, i, rfl, h1, Nat.zero_le _, by omega, ?_⟩
      refine ⟨((i + 1 : Nat) : Int), by show IntKind.i64.wrap (z + 1) = _; rw [h1]; exact fit ⟨by omega, by omega⟩, ?_⟩
      refine ⟨i + 1, s.size, rfl, rfl, by omega, Nat.le_refl _, ?_⟩
      refine ⟨⟨true, ?_⟩, rfl⟩
      rw [extract_list s 0 i (by omega), extract_list s (i + 1) s.size (Nat.le_refl _), hsz, List.take_length]
      rfl
    · have h : ¬ z ≥ 0 := h
      rcases hci with ⟨h1, h2⟩ | ⟨i, h1, hi, h2⟩
      · rw [h2]
        exact ⟨⟨_, by rw [ba_mk]⟩, rfl⟩
      · omega
  refine callsV_of C_ok (args := [_, _]) (plans := []) Tryz.func114 rfl Tryz.ntmps114 (by kernel_rfl) (Nat.le_of_ble_eq_true rfl) ?_
  refine inner.mono ?_
  rintro v w1 ⟨⟨b, rfl⟩, rfl⟩
  exact ⟨⟨b, rfl⟩, rfl⟩

end Go.Proofs.YtcnbpfecgokhiaaGreatDoor
