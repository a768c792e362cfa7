import Derived.Test.YtnoadopmeoohmaaGreatDoorZ06
import Derived.Lib.ItoaNum
import Derived.Shelf.LaysM
import Derived.Shelf.LaysC
import Derived.Shelf.Strconv.Itoa3
import Derived.Shelf.Strconv.AtoiAll
import Derived.Shelf.Strconv.Clone
import Derived.Shelf.Strings.Prefix
import Derived.Shelf.Strings.Replace
import Derived.Lib.Bytealg
import Derived.Laws.Externs
import Derived.WideLaws
import Derived.Test.YtnoadopmeoohmaaGreatDoorZ08
import Derived.Laws.IdiomStrings
/-
  The library's contracts that formulas need (the shelf's, laid at this program, written by the kit's lay-shelf and lay-plain), and what they say in the layer. Printed by genK2f.py.
-/
namespace Go.Proofs.YtnoadopmeoohmaaGreatDoor
open Go
set_option linter.unusedVariables false
set_option linter.unusedSimpArgs false
section
open Go.Shelf
def laysM171_ren : Go.Shelf.Ren := ⟨fun | 171 => 63 | 243 => 107 | 246 => 144 | 283 => 165 | 284 => 166 | 285 => 167 | 286 => 168 | 129 => 179 | 317 => 195 | 318 => 196 | 319 => 197 | 320 => 198 | 337 => 214 | 338 => 215 | n => n, fun | 3 => 3 | 9 => 9 | 2 => 2 | 4 => 4 | 171 => 175 | 0 => 0 | 53 => 176 | 37 => 83 | 5 => 5 | 173 => 179 | 212 => 201 | 51 => 189 | 20 => 20 | 213 => 202 | 46 => 150 | 232 => 228 | 233 => 229 | n => n, fun | 17 => 0 | 18 => 6 | 19 => 7 | n => n⟩
theorem laysM171 : Go.Proofs.LaysM.n171 Tryz.prog laysM171_ren := {
  mixed := by kernel_rfl
  f129 := Tryz.func179.trans (congrArg some (by kernel_rfl))
  f171 := Tryz.func63.trans (congrArg some (by kernel_rfl))
  f243 := Tryz.func107.trans (congrArg some (by kernel_rfl))
  f246 := Tryz.func144.trans (congrArg some (by kernel_rfl))
  f283 := Tryz.func165.trans (congrArg some (by kernel_rfl))
  f284 := Tryz.func166.trans (congrArg some (by kernel_rfl))
  f285 := Tryz.func167.trans (congrArg some (by kernel_rfl))
  f286 := Tryz.func168.trans (congrArg some (by kernel_rfl))
  f317 := Tryz.func195.trans (congrArg some (by kernel_rfl))
  f318 := Tryz.func196.trans (congrArg some (by kernel_rfl))
  f319 := Tryz.func197.trans (congrArg some (by kernel_rfl))
  f320 := Tryz.func198.trans (congrArg some (by kernel_rfl))
  f337 := Tryz.func214.trans (congrArg some (by kernel_rfl))
  f338 := Tryz.func215.trans (congrArg some (by kernel_rfl))
  t0 := Tryz.underlying0
  a0 := Tryz.isAgg0
  z0 := Tryz.sizeOf0
  v0 := Tryz.zeroValue0
  t2 := Tryz.underlying2
  a2 := Tryz.isAgg2
  z2 := Tryz.sizeOf2
  v2 := Tryz.zeroValue2
  t3 := Tryz.underlying3
  a3 := Tryz.isAgg3
  z3 := Tryz.sizeOf3
  v3 := Tryz.zeroValue3
  t4 := Tryz.underlying4
  a4 := Tryz.isAgg4
  z4 := Tryz.sizeOf4
  v4 := Tryz.zeroValue4
  t5 := Tryz.underlying5
  a5 := Tryz.isAgg5
  z5 := Tryz.sizeOf5
  v5 := Tryz.zeroValue5
  t9 := Tryz.underlying9
  a9 := Tryz.isAgg9
  z9 := Tryz.sizeOf9
  v9 := Tryz.zeroValue9
  t20 := Tryz.underlying20
  a20 := Tryz.isAgg20
  z20 := Tryz.sizeOf20
  v20 := Tryz.zeroValue20
  t37 := Tryz.underlying83
  a37 := Tryz.isAgg83
  z37 := Tryz.sizeOf83
  v37 := Tryz.zeroValue83
  t46 := Tryz.underlying150
  a46 := Tryz.isAgg150
  z46 := Tryz.sizeOf150
  v46 := Tryz.zeroValue150
  t51 := Tryz.underlying189
  a51 := Tryz.isAgg189
  z51 := Tryz.sizeOf189
  v51 := Tryz.zeroValue189
  t53 := Tryz.underlying176
  a53 := Tryz.isAgg176
  z53 := Tryz.sizeOf176
  v53 := Tryz.zeroValue176
  t171 := Tryz.underlying175
  a171 := Tryz.isAgg175
  z171 := Tryz.sizeOf175
  v171 := Tryz.zeroValue175
  t173 := Tryz.underlying179
  a173 := Tryz.isAgg179
  z173 := Tryz.sizeOf179
  v173 := Tryz.zeroValue179
  t212 := Tryz.underlying201
  a212 := Tryz.isAgg201
  z212 := Tryz.sizeOf201
  v212 := Tryz.zeroValue201
  t213 := Tryz.underlying202
  a213 := Tryz.isAgg202
  z213 := Tryz.sizeOf202
  t232 := Tryz.underlying228
  a232 := Tryz.isAgg228
  z232 := Tryz.sizeOf228
  v232 := Tryz.zeroValue228
  t233 := Tryz.underlying229
  a233 := Tryz.isAgg229
  z233 := Tryz.sizeOf229
  v233 := Tryz.zeroValue229
  g17 := by kernel_rfl
  g18 := by kernel_rfl
  g19 := by kernel_rfl
  i0 := by kernel_rfl
  i2 := by kernel_rfl
  i3 := by kernel_rfl
  i4 := by kernel_rfl
  i5 := by kernel_rfl
  i9 := by kernel_rfl
  i20 := by kernel_rfl
  i37 := by kernel_rfl
  i46 := by kernel_rfl
  i51 := by kernel_rfl
  i53 := by kernel_rfl
  i171 := by kernel_rfl
  i173 := by kernel_rfl
  i212 := by kernel_rfl
  i232 := by kernel_rfl
  i233 := by kernel_rfl
  m17 := by kernel_rfl
  m18 := by kernel_rfl
  m19 := by kernel_rfl }
open Go.RowKit Go.Sort Go.Lib in
theorem strconv_Itoa (n : Int) (h0 : -9223372036854775808 ≤ n) (h1 : n ≤ 9223372036854775807) (w : World) (htab : Lib.TabIs Tryz.prog w "internal/strconv.uint64pow10" .u64 Lib.pow10Tab) :
    Calls Tryz.prog 63 #[.int .i64 n] w fun e w' => e = .returned (.string ⟨(Lib.itoa n).toArray⟩) ∧ ∃ k os, w' = grow (w.drewN k) os := Any.strconv_Itoa laysM171 n h0 h1 w htab
def laysM316_ren : Go.Shelf.Ren := ⟨fun | 316 => 80 | n => n, fun | 9 => 9 | 3 => 3 | 4 => 4 | 37 => 83 | 0 => 0 | 127 => 129 | 5 => 5 | n => n, fun | n => n⟩
theorem laysM316 : Go.Proofs.LaysM.n316 Tryz.prog laysM316_ren := {
  mixed := by kernel_rfl
  f316 := Tryz.func80.trans (congrArg some (by kernel_rfl))
  t0 := Tryz.underlying0
  a0 := Tryz.isAgg0
  z0 := Tryz.sizeOf0
  v0 := Tryz.zeroValue0
  t3 := Tryz.underlying3
  a3 := Tryz.isAgg3
  z3 := Tryz.sizeOf3
  v3 := Tryz.zeroValue3
  t4 := Tryz.underlying4
  a4 := Tryz.isAgg4
  z4 := Tryz.sizeOf4
  v4 := Tryz.zeroValue4
  t9 := Tryz.underlying9
  a9 := Tryz.isAgg9
  z9 := Tryz.sizeOf9
  v9 := Tryz.zeroValue9
  t37 := Tryz.underlying83
  a37 := Tryz.isAgg83
  z37 := Tryz.sizeOf83
  v37 := Tryz.zeroValue83
  t127 := Tryz.underlying129
  a127 := Tryz.isAgg129
  z127 := Tryz.sizeOf129
  v127 := Tryz.zeroValue129
  t5 := Tryz.underlying5
  a5 := Tryz.isAgg5
  z5 := Tryz.sizeOf5
  v5 := Tryz.zeroValue5
  i0 := by kernel_rfl
  i3 := by kernel_rfl
  i4 := by kernel_rfl
  i5 := by kernel_rfl
  i9 := by kernel_rfl
  i37 := by kernel_rfl
  i127 := by kernel_rfl }
open Go.RowKit in
theorem stringslite_Clone (s : ByteArray) (w : World) (hlim : s.size ≤ 281474976710656) :
    Calls Tryz.prog 80 #[.string s] w fun e w' => e = .returned (.string s) ∧ Below w.heap.size w w' := Any.stringslite_Clone laysM316 s w hlim
def laysC172_ren : Go.Shelf.Ren := ⟨fun | 172 => 143 | 244 => 163 | 245 => 164 | 247 => 190 | 279 => 191 | 280 => 192 | 281 => 193 | 282 => 194 | 287 => 212 | 316 => 80 | 171 => 63 | 205 => 213 | 321 => 220 | 322 => 221 | 243 => 107 | 246 => 144 | 283 => 165 | 284 => 166 | 285 => 167 | 286 => 168 | 129 => 179 | 317 => 195 | 318 => 196 | 319 => 197 | 320 => 198 | 337 => 214 | 338 => 215 | n => n, fun | 9 => 9 | 3 => 3 | 75 => 124 | 76 => 126 | 4 => 4 | 5 => 5 | 167 => 194 | 37 => 83 | 0 => 0 | 85 => 195 | 2 => 2 | 168 => 197 | 53 => 176 | 175 => 214 | 46 => 150 | 210 => 217 | 127 => 129 | 145 => 227 | 143 => 225 | 21 => 21 | 171 => 175 | 173 => 179 | 212 => 201 | 51 => 189 | 20 => 20 | 213 => 202 | 232 => 228 | 233 => 229 | 80 => 88 | n => n, fun | 15 => 4 | 16 => 5 | 17 => 0 | 18 => 6 | 19 => 7 | n => n⟩
theorem laysC172 : Go.Proofs.LaysC.n172 Tryz.prog laysC172_ren := {
  mixed := by kernel_rfl
  f129 := Tryz.func179.trans (congrArg some (by kernel_rfl))
  f171 := Tryz.func63.trans (congrArg some (by kernel_rfl))
  f172 := Tryz.func143.trans (congrArg some (by kernel_rfl))
  f205 := Tryz.func213.trans (congrArg some (by kernel_rfl))
  f243 := Tryz.func107.trans (congrArg some (by kernel_rfl))
  f244 := Tryz.func163.trans (congrArg some (by kernel_rfl))
  f245 := Tryz.func164.trans (congrArg some (by kernel_rfl))
  f246 := Tryz.func144.trans (congrArg some (by kernel_rfl))
  f247 := Tryz.func190.trans (congrArg some (by kernel_rfl))
  f279 := Tryz.func191.trans (congrArg some (by kernel_rfl))
  f280 := Tryz.func192.trans (congrArg some (by kernel_rfl))
  f281 := Tryz.func193.trans (congrArg some (by kernel_rfl))
  f282 := Tryz.func194.trans (congrArg some (by kernel_rfl))
  f283 := Tryz.func165.trans (congrArg some (by kernel_rfl))
  f284 := Tryz.func166.trans (congrArg some (by kernel_rfl))
  f285 := Tryz.func167.trans (congrArg some (by kernel_rfl))
  f286 := Tryz.func168.trans (congrArg some (by kernel_rfl))
  f287 := Tryz.func212.trans (congrArg some (by kernel_rfl))
  f316 := Tryz.func80.trans (congrArg some (by kernel_rfl))
  f317 := Tryz.func195.trans (congrArg some (by kernel_rfl))
  f318 := Tryz.func196.trans (congrArg some (by kernel_rfl))
  f319 := Tryz.func197.trans (congrArg some (by kernel_rfl))
  f320 := Tryz.func198.trans (congrArg some (by kernel_rfl))
  f321 := Tryz.func220.trans (congrArg some (by kernel_rfl))
  f322 := Tryz.func221.trans (congrArg some (by kernel_rfl))
  f337 := Tryz.func214.trans (congrArg some (by kernel_rfl))
  f338 := Tryz.func215.trans (congrArg some (by kernel_rfl))
  t0 := Tryz.underlying0
  a0 := Tryz.isAgg0
  z0 := Tryz.sizeOf0
  v0 := Tryz.zeroValue0
  t2 := Tryz.underlying2
  a2 := Tryz.isAgg2
  z2 := Tryz.sizeOf2
  v2 := Tryz.zeroValue2
  t3 := Tryz.underlying3
  a3 := Tryz.isAgg3
  z3 := Tryz.sizeOf3
  v3 := Tryz.zeroValue3
  t4 := Tryz.underlying4
  a4 := Tryz.isAgg4
  z4 := Tryz.sizeOf4
  v4 := Tryz.zeroValue4
  t5 := Tryz.underlying5
  a5 := Tryz.isAgg5
  z5 := Tryz.sizeOf5
  v5 := Tryz.zeroValue5
  t9 := Tryz.underlying9
  a9 := Tryz.isAgg9
  z9 := Tryz.sizeOf9
  v9 := Tryz.zeroValue9
  t20 := Tryz.underlying20
  a20 := Tryz.isAgg20
  z20 := Tryz.sizeOf20
  v20 := Tryz.zeroValue20
  t21 := Tryz.underlying21
  a21 := Tryz.isAgg21
  z21 := Tryz.sizeOf21
  v21 := Tryz.zeroValue21
  t37 := Tryz.underlying83
  a37 := Tryz.isAgg83
  z37 := Tryz.sizeOf83
  v37 := Tryz.zeroValue83
  t46 := Tryz.underlying150
  a46 := Tryz.isAgg150
  z46 := Tryz.sizeOf150
  v46 := Tryz.zeroValue150
  t51 := Tryz.underlying189
  a51 := Tryz.isAgg189
  z51 := Tryz.sizeOf189
  v51 := Tryz.zeroValue189
  t53 := Tryz.underlying176
  a53 := Tryz.isAgg176
  z53 := Tryz.sizeOf176
  v53 := Tryz.zeroValue176
  t75 := Tryz.underlying124
  a75 := Tryz.isAgg124
  z75 := Tryz.sizeOf124
  v75 := Tryz.zeroValue124
  t76 := Tryz.underlying126
  a76 := Tryz.isAgg126
  z76 := Tryz.sizeOf126
  v76 := Tryz.zeroValue126
  t85 := Tryz.underlying195
  a85 := Tryz.isAgg195
  z85 := Tryz.sizeOf195
  v85 := Tryz.zeroValue195
  t127 := Tryz.underlying129
  a127 := Tryz.isAgg129
  z127 := Tryz.sizeOf129
  v127 := Tryz.zeroValue129
  t143 := Tryz.underlying225
  a143 := Tryz.isAgg225
  z143 := Tryz.sizeOf225
  v143 := Tryz.zeroValue225
  t145 := Tryz.underlying227
  a145 := Tryz.isAgg227
  z145 := Tryz.sizeOf227
  v145 := Tryz.zeroValue227
  t167 := Tryz.underlying194
  a167 := Tryz.isAgg194
  z167 := Tryz.sizeOf194
  v167 := Tryz.zeroValue194
  t168 := Tryz.underlying197
  a168 := Tryz.isAgg197
  z168 := Tryz.sizeOf197
  v168 := Tryz.zeroValue197
  t171 := Tryz.underlying175
  a171 := Tryz.isAgg175
  z171 := Tryz.sizeOf175
  v171 := Tryz.zeroValue175
  t173 := Tryz.underlying179
  a173 := Tryz.isAgg179
  z173 := Tryz.sizeOf179
  v173 := Tryz.zeroValue179
  t175 := Tryz.underlying214
  a175 := Tryz.isAgg214
  z175 := Tryz.sizeOf214
  v175 := Tryz.zeroValue214
  t210 := Tryz.underlying217
  a210 := Tryz.isAgg217
  z210 := Tryz.sizeOf217
  v210 := Tryz.zeroValue217
  t212 := Tryz.underlying201
  a212 := Tryz.isAgg201
  z212 := Tryz.sizeOf201
  v212 := Tryz.zeroValue201
  t213 := Tryz.underlying202
  a213 := Tryz.isAgg202
  z213 := Tryz.sizeOf202
  t232 := Tryz.underlying228
  a232 := Tryz.isAgg228
  z232 := Tryz.sizeOf228
  v232 := Tryz.zeroValue228
  t233 := Tryz.underlying229
  a233 := Tryz.isAgg229
  z233 := Tryz.sizeOf229
  v233 := Tryz.zeroValue229
  g15 := by kernel_rfl
  g16 := by kernel_rfl
  g17 := by kernel_rfl
  g18 := by kernel_rfl
  g19 := by kernel_rfl
  t80 := Tryz.underlying88
  a80 := Tryz.isAgg88
  z80 := Tryz.sizeOf88
  v80 := Tryz.zeroValue88
  i0 := by kernel_rfl
  i2 := by kernel_rfl
  i3 := by kernel_rfl
  i4 := by kernel_rfl
  i5 := by kernel_rfl
  i9 := by kernel_rfl
  i20 := by kernel_rfl
  i21 := by kernel_rfl
  i37 := by kernel_rfl
  i46 := by kernel_rfl
  i51 := by kernel_rfl
  i53 := by kernel_rfl
  i75 := by kernel_rfl
  i76 := by kernel_rfl
  i80 := by kernel_rfl
  i85 := by kernel_rfl
  i127 := by kernel_rfl
  i143 := by kernel_rfl
  i145 := by kernel_rfl
  i167 := by kernel_rfl
  i168 := by kernel_rfl
  i171 := by kernel_rfl
  i173 := by kernel_rfl
  i175 := by kernel_rfl
  i210 := by kernel_rfl
  i212 := by kernel_rfl
  i232 := by kernel_rfl
  i233 := by kernel_rfl
  m15 := by kernel_rfl
  m16 := by kernel_rfl
  m17 := by kernel_rfl
  m18 := by kernel_rfl
  m19 := by kernel_rfl
  c0 := by kernel_rfl
  c2 := by kernel_rfl
  c3 := by kernel_rfl
  c4 := by kernel_rfl
  c5 := by kernel_rfl
  c9 := by kernel_rfl
  c20 := by kernel_rfl
  c21 := by kernel_rfl
  c37 := by kernel_rfl
  c46 := by kernel_rfl
  c51 := by kernel_rfl
  c53 := by kernel_rfl
  c75 := by kernel_rfl
  c76 := by kernel_rfl
  c80 := by kernel_rfl
  c85 := by kernel_rfl
  c127 := by kernel_rfl
  c143 := by kernel_rfl
  c145 := by kernel_rfl
  c167 := by kernel_rfl
  c168 := by kernel_rfl
  c171 := by kernel_rfl
  c173 := by kernel_rfl
  c175 := by kernel_rfl
  c210 := by kernel_rfl
  c212 := by kernel_rfl
  c213 := by kernel_rfl
  c232 := by kernel_rfl
  c233 := by kernel_rfl }
open Go.RowKit in
theorem strconv_Atoi_ok (s : ByteArray) (hmax : s.size ≤ 9223372036854775806) (v : Int) (h : Lib.atoiAll s.data.toList = .ok v) (w : World) :
    Calls Tryz.prog 143 #[.string s] w fun e w' => e = .returned (.tuple #[.int .i64 v, .nilIface]) ∧ (w' = w ∨ ∃ t, w' = Lib.bytesWorld w 5 t) := Any.strconv_Atoi_ok laysC172 s hmax v h w
open Go.RowKit in
theorem strconv_Atoi_range (s : ByteArray) (hlim : s.size ≤ 281474976710656) (h : Lib.atoiAll s.data.toList = .range) (ev : Value) (w : World) (hv : w.cell? ⟨5, 0, none⟩ = some ev) (hev : ev = .nilIface ∨ ∃ te pe, ev = .iface te pe) :
    Calls Tryz.prog 143 #[.string s] w fun e w' => ∃ N, e = .returned (.tuple #[.int .i64 (Lib.atoiSat s.data.toList), .iface 197 (.pointer (some ⟨N, 0, none⟩))]) ∧ w.heap.size ≤ N ∧ w'.heap[N]? = some (.cells #[.string ⟨#[65, 116, 111, 105]⟩, .string s, ev] 217 (0, 0)) ∧ Below w.heap.size w w' := Any.strconv_Atoi_range laysC172 s hlim h ev w hv hev
def lays99_ren : Go.Shelf.Ren := ⟨fun | 99 => 131 | 206 => 152 | n => n, fun | 9 => 9 | 4 => 4 | 3 => 3 | n => n, fun | n => n⟩
theorem lays99 : Go.Proofs.Lays.n99 Tryz.prog lays99_ren := {
  mixed := by kernel_rfl
  f99 := Tryz.func131.trans (congrArg some (by kernel_rfl))
  f206 := Tryz.func152.trans (congrArg some (by kernel_rfl))
  t3 := Tryz.underlying3
  a3 := Tryz.isAgg3
  z3 := Tryz.sizeOf3
  v3 := Tryz.zeroValue3
  t4 := Tryz.underlying4
  a4 := Tryz.isAgg4
  z4 := Tryz.sizeOf4
  v4 := Tryz.zeroValue4
  t9 := Tryz.underlying9
  a9 := Tryz.isAgg9
  z9 := Tryz.sizeOf9
  v9 := Tryz.zeroValue9 }
open Go.RowKit Go.Lib in
theorem strings_HasPrefix (s p : ByteArray) (w : World) :
    Calls Tryz.prog 131 #[.string s, .string p] w fun e w' => e = .returned (.bool (Lib.hasPrefix s.data.toList p.data.toList)) ∧ w' = w := Any.strings_HasPrefix lays99 s p w
def lays101_ren : Go.Shelf.Ren := ⟨fun | 101 => 104 | 208 => 141 | 206 => 152 | n => n, fun | 9 => 9 | 4 => 4 | 3 => 3 | n => n, fun | n => n⟩
theorem lays101 : Go.Proofs.Lays.n101 Tryz.prog lays101_ren := {
  mixed := by kernel_rfl
  f101 := Tryz.func104.trans (congrArg some (by kernel_rfl))
  f206 := Tryz.func152.trans (congrArg some (by kernel_rfl))
  f208 := Tryz.func141.trans (congrArg some (by kernel_rfl))
  t3 := Tryz.underlying3
  a3 := Tryz.isAgg3
  z3 := Tryz.sizeOf3
  v3 := Tryz.zeroValue3
  t4 := Tryz.underlying4
  a4 := Tryz.isAgg4
  z4 := Tryz.sizeOf4
  v4 := Tryz.zeroValue4
  t9 := Tryz.underlying9
  a9 := Tryz.isAgg9
  z9 := Tryz.sizeOf9
  v9 := Tryz.zeroValue9 }
open Go.RowKit Go.Lib in
theorem strings_TrimPrefix (s p : ByteArray) (w : World) :
    Calls Tryz.prog 104 #[.string s, .string p] w fun e w' => e = .returned (.string ⟨(Lib.trimPrefix s.data.toList p.data.toList).toArray⟩) ∧ w' = w := Any.strings_TrimPrefix lays101 s p w
def lays155_ren : Go.Shelf.Ren := ⟨fun | 155 => 92 | 154 => 136 | 138 => 156 | 165 => 157 | 143 => 158 | 166 => 91 | 197 => 159 | 169 => 49 | 195 => 183 | 218 => 184 | 240 => 135 | 241 => 185 | 219 => 186 | 260 => 187 | 276 => 155 | 277 => 206 | 217 => 207 | 225 => 208 | 224 => 209 | 267 => 210 | 266 => 218 | 314 => 219 | n => n, fun | 9 => 9 | 3 => 3 | 4 => 4 | 72 => 85 | 0 => 0 | 76 => 126 | 105 => 170 | 21 => 21 | 5 => 5 | 70 => 82 | 20 => 20 | 37 => 83 | 75 => 124 | 127 => 129 | 164 => 166 | 46 => 150 | 119 => 210 | 139 => 213 | 138 => 212 | 146 => 222 | 51 => 189 | 80 => 88 | n => n, fun | 1 => 1 | 3 => 2 | 4 => 3 | n => n⟩
theorem lays155 : Go.Proofs.Lays.n155 Tryz.prog lays155_ren := {
  mixed := by kernel_rfl
  f138 := Tryz.func156.trans (congrArg some (by kernel_rfl))
  f143 := Tryz.func158.trans (congrArg some (by kernel_rfl))
  f154 := Tryz.func136.trans (congrArg some (by kernel_rfl))
  f155 := Tryz.func92.trans (congrArg some (by kernel_rfl))
  f165 := Tryz.func157.trans (congrArg some (by kernel_rfl))
  f166 := Tryz.func91.trans (congrArg some (by kernel_rfl))
  f169 := Tryz.func49.trans (congrArg some (by kernel_rfl))
  f195 := Tryz.func183.trans (congrArg some (by kernel_rfl))
  f197 := Tryz.func159.trans (congrArg some (by kernel_rfl))
  f217 := Tryz.func207.trans (congrArg some (by kernel_rfl))
  f218 := Tryz.func184.trans (congrArg some (by kernel_rfl))
  f219 := Tryz.func186.trans (congrArg some (by kernel_rfl))
  f224 := Tryz.func209.trans (congrArg some (by kernel_rfl))
  f225 := Tryz.func208.trans (congrArg some (by kernel_rfl))
  f240 := Tryz.func135.trans (congrArg some (by kernel_rfl))
  f241 := Tryz.func185.trans (congrArg some (by kernel_rfl))
  f260 := Tryz.func187.trans (congrArg some (by kernel_rfl))
  f266 := Tryz.func218.trans (congrArg some (by kernel_rfl))
  f267 := Tryz.func210.trans (congrArg some (by kernel_rfl))
  f276 := Tryz.func155.trans (congrArg some (by kernel_rfl))
  f277 := Tryz.func206.trans (congrArg some (by kernel_rfl))
  f314 := Tryz.func219.trans (congrArg some (by kernel_rfl))
  t0 := Tryz.underlying0
  a0 := Tryz.isAgg0
  z0 := Tryz.sizeOf0
  v0 := Tryz.zeroValue0
  t3 := Tryz.underlying3
  a3 := Tryz.isAgg3
  z3 := Tryz.sizeOf3
  v3 := Tryz.zeroValue3
  t4 := Tryz.underlying4
  a4 := Tryz.isAgg4
  z4 := Tryz.sizeOf4
  v4 := Tryz.zeroValue4
  t5 := Tryz.underlying5
  a5 := Tryz.isAgg5
  z5 := Tryz.sizeOf5
  v5 := Tryz.zeroValue5
  t9 := Tryz.underlying9
  a9 := Tryz.isAgg9
  z9 := Tryz.sizeOf9
  v9 := Tryz.zeroValue9
  t20 := Tryz.underlying20
  a20 := Tryz.isAgg20
  z20 := Tryz.sizeOf20
  v20 := Tryz.zeroValue20
  t21 := Tryz.underlying21
  a21 := Tryz.isAgg21
  z21 := Tryz.sizeOf21
  v21 := Tryz.zeroValue21
  t37 := Tryz.underlying83
  a37 := Tryz.isAgg83
  z37 := Tryz.sizeOf83
  v37 := Tryz.zeroValue83
  t46 := Tryz.underlying150
  a46 := Tryz.isAgg150
  z46 := Tryz.sizeOf150
  v46 := Tryz.zeroValue150
  t51 := Tryz.underlying189
  a51 := Tryz.isAgg189
  z51 := Tryz.sizeOf189
  v51 := Tryz.zeroValue189
  t70 := Tryz.underlying82
  a70 := Tryz.isAgg82
  z70 := Tryz.sizeOf82
  v70 := Tryz.zeroValue82
  t72 := Tryz.underlying85
  a72 := Tryz.isAgg85
  z72 := Tryz.sizeOf85
  v72 := Tryz.zeroValue85
  t75 := Tryz.underlying124
  a75 := Tryz.isAgg124
  z75 := Tryz.sizeOf124
  v75 := Tryz.zeroValue124
  t76 := Tryz.underlying126
  a76 := Tryz.isAgg126
  z76 := Tryz.sizeOf126
  v76 := Tryz.zeroValue126
  t105 := Tryz.underlying170
  a105 := Tryz.isAgg170
  z105 := Tryz.sizeOf170
  v105 := Tryz.zeroValue170
  t119 := Tryz.underlying210
  a119 := Tryz.isAgg210
  z119 := Tryz.sizeOf210
  t127 := Tryz.underlying129
  a127 := Tryz.isAgg129
  z127 := Tryz.sizeOf129
  v127 := Tryz.zeroValue129
  t138 := Tryz.underlying212
  a138 := Tryz.isAgg212
  z138 := Tryz.sizeOf212
  v138 := Tryz.zeroValue212
  t139 := Tryz.underlying213
  a139 := Tryz.isAgg213
  z139 := Tryz.sizeOf213
  v139 := Tryz.zeroValue213
  t146 := Tryz.underlying222
  a146 := Tryz.isAgg222
  z146 := Tryz.sizeOf222
  v146 := Tryz.zeroValue222
  t164 := Tryz.underlying166
  a164 := Tryz.isAgg166
  z164 := Tryz.sizeOf166
  v164 := Tryz.zeroValue166
  g1 := by kernel_rfl
  g3 := by kernel_rfl
  g4 := by kernel_rfl }
theorem Builder_Extra_155 : Builder.Extra Tryz.prog lays155_ren := {
  sizeBuilder := by kernel_rfl
  liesBuilder := by kernel_rfl
  t5 := Tryz.underlying5
  a5 := Tryz.isAgg5
  z5 := Tryz.sizeOf5
  v5 := Tryz.zeroValue5
  infoByte := by kernel_rfl
  cellsByte := by kernel_rfl
  sizeByte := by kernel_rfl
  neB5 := by decide }
open Go.RowKit Go.Lib in
theorem strings_ReplaceAll (s old new : ByteArray) (m : Int) (w : World) (hs : s.size < 4294967281) (hm : w.cell? ⟨1, 0, none⟩ = some (.int .i64 m)) (h1 : 1 ≤ old.size) (hlen : s.size + Lib.countB s old * new.size ≤ 140737488355328) :
    Calls Tryz.prog 92 #[.string s, .string old, .string new] w fun e w' =>
      e = .returned (.string ⟨(Lib.replaceAll s.data.toList old.data.toList new.data.toList).toArray⟩) ∧ Below w.heap.size w w' := Any.strings_ReplaceAll lays155 Builder_Extra_155 s old new m w hs hm h1 hlen
end
open Go.RowKit Go.Lib
theorem below_grew (w : World) (k : Nat) (os : Array Obj) : Below w.heap.size w (Go.Sort.grow (w.drewN k) os) :=
  ⟨rfl, rfl, rfl, by simp only [Go.Sort.grow, Array.size_append]; exact Nat.le_add_right _ _, fun j hj => by simp only [Go.Sort.grow]; exact Array.getElem?_append_left hj⟩
/-- a call that leaves alone what was there -/
theorem FnQ_of {P : Program} {f : FuncId} {args : List Value} {H : Hp} {Q : Value → Prop} (h : ∀ w, Mem H w → Glob w → Calls P f args.toArray w fun e w' => ∃ v, e = .returned v ∧ Q v ∧ Below w.heap.size w w') : Fn P f args H [] fun v H' I => Q v ∧ H' = H ∧ I = [] := by
  intro w hw
  refine (h w hw.mem hw.glob).mono ?_
  rintro e w' ⟨v, rfl, hq, hb⟩
  refine ⟨v, H, [], rfl, ?_, hq, rfl, rfl⟩
  exact Holds.frameH (I := []) (I' := []) (R := []) hw ⟨hb.os, hb.tape, hb.output, hb.size, fun k hk _ => hb.block k hk⟩ (Own.ok_nil _) Own.sep_nil (fun b hb => by cases hb)
theorem FnP_of {P : Program} {f : FuncId} {args : List Value} {H : Hp} {v : Value} (h : ∀ w, Mem H w → Glob w → Calls P f args.toArray w fun e w' => e = .returned v ∧ Below w.heap.size w w') : FnP P f args H v :=
  FnQ_of (Q := fun u => u = v) fun w h1 h2 => (h w h1 h2).mono fun e w' ⟨h3, h4⟩ => ⟨v, h3, rfl, h4⟩
theorem mk_toList (l : List UInt8) : (⟨l.toArray⟩ : ByteArray).data.toList = l := by simp
abbrev I64 (n : Int) : Prop := -9223372036854775808 ≤ n ∧ n < 9223372036854775808
theorem ItoaI_fn {H : Hp} {n : Int} (hn : I64 n) : FnP Tryz.prog 63 [.int .i64 n] H (sv (itoa n)) := FnP_of fun w _ hg => by
  refine (strconv_Itoa n (by omega) (by omega) w hg.tab).mono ?_
  rintro e w' ⟨rfl, k, os, rfl⟩
  exact ⟨rfl, below_grew w k os⟩
theorem HasPrefix_fn {H : Hp} {l p : List UInt8} : FnP Tryz.prog 131 [sv l, sv p] H (.bool (p.isPrefixOf l)) := FnP_of fun w _ _ => by
  refine (strings_HasPrefix ⟨l.toArray⟩ ⟨p.toArray⟩ w).mono ?_
  rintro e w' ⟨rfl, hb⟩
  subst hb
  refine ⟨?_, Below.refl _ _⟩
  rw [mk_toList, mk_toList]; rfl
theorem TrimPrefix_fn {H : Hp} {l p : List UInt8} : FnP Tryz.prog 104 [sv l, sv p] H (sv (Lib.trimPrefix l p)) := FnP_of fun w _ _ => by
  refine (strings_TrimPrefix ⟨l.toArray⟩ ⟨p.toArray⟩ w).mono ?_
  rintro e w' ⟨rfl, hb⟩
  subst hb
  refine ⟨?_, Below.refl _ _⟩
  rw [mk_toList, mk_toList]
theorem sliteClone_fn {H : Hp} {l : List UInt8} (hl : l.length ≤ 281474976710656) : FnP Tryz.prog 80 [sv l] H (sv l) := FnP_of fun w _ _ => by
  refine (stringslite_Clone ⟨l.toArray⟩ w (by rw [bs_size]; omega)).mono ?_
  rintro e w' ⟨rfl, hb⟩
  exact ⟨rfl, hb⟩
/-- what package-level variables hold: the one that bounds short searches a number, that of an error an interface -/
def VarsH (H : Hp) : Prop := (∃ m : Int, H 1 0 = some (.int .i64 m)) ∧ ∃ ev : Value, H 5 0 = some ev ∧ (ev = .nilIface ∨ ∃ te pe, ev = .iface te pe)
theorem VarsH.mono {H H' : Hp} (h : VarsH H) (hl : HLe H H') : VarsH H' := let ⟨⟨m, hm⟩, ev, he, hv⟩ := h; ⟨⟨m, hl _ _ _ hm⟩, ev, hl _ _ _ he, hv⟩
theorem ReplaceAll_fn {H : Hp} {l old new : List UInt8} (hl : l.length ≤ 1000000000) (ho : 1 ≤ old.length) (hn : new.length ≤ 2) (hV : VarsH H) : FnP Tryz.prog 92 [sv l, sv old, sv new] H (sv (Lib.replaceAll l old new)) := FnP_of fun w hm _ => by
  obtain ⟨⟨m, hc⟩, -⟩ := hV
  refine (strings_ReplaceAll ⟨l.toArray⟩ ⟨old.toArray⟩ ⟨new.toArray⟩ m w (by rw [bs_size]; omega) (hm _ _ _ hc).1 (by rw [bs_size]; exact ho) ?_).mono ?_
  · have h1 := countB_mul_le ⟨old.toArray⟩ (by rw [bs_size]; exact ho) l.length ⟨l.toArray⟩ (by rw [bs_size]; exact Nat.le_refl _)
    rw [bs_size, bs_size] at h1
    have h2 : countB ⟨l.toArray⟩ ⟨old.toArray⟩ * 1 ≤ countB ⟨l.toArray⟩ ⟨old.toArray⟩ * old.length := Nat.mul_le_mul_left _ ho
    have h3 : countB ⟨l.toArray⟩ ⟨old.toArray⟩ * new.length ≤ countB ⟨l.toArray⟩ ⟨old.toArray⟩ * 2 := Nat.mul_le_mul_left _ hn
    rw [bs_size, bs_size]
    omega
  · rintro e w' ⟨rfl, hb⟩
    refine ⟨?_, hb⟩
    rw [mk_toList, mk_toList, mk_toList]
theorem Atoi_fn {H : Hp} {l : List UInt8} (hl : l.length ≤ 1000000000) (hV : VarsH H) (h : Lib.atoiAll l ≠ .«syntax») :
    Fn Tryz.prog 143 [sv l] H [] fun v H' I => ((∃ k : Int, Lib.atoiAll l = .ok k ∧ v = .tuple [.int .i64 k, .nilIface].toArray) ∨ (Lib.atoiAll l = .range ∧ ∃ (k : Int) (te : TypeId) (pe : Value), v = .tuple [.int .i64 k, .iface te pe].toArray)) ∧ H' = H ∧ I = [] := FnQ_of fun w hm _ => by
  obtain ⟨-, ev, hc, hv⟩ := hV
  cases hk : Lib.atoiAll l with
  | «syntax» => exact absurd hk h
  | ok k =>
    refine (strconv_Atoi_ok ⟨l.toArray⟩ (by rw [bs_size]; omega) k (by rw [mk_toList]; exact hk) w).mono ?_
    rintro e w' ⟨rfl, hb⟩
    refine ⟨_, rfl, .inl ⟨k, rfl, rfl⟩, ?_⟩
    rcases hb with rfl | ⟨t, rfl⟩
    · exact Below.refl _ _
    · exact Lib.bytesWorld_below _ _ _
  | range =>
    refine (strconv_Atoi_range ⟨l.toArray⟩ (by rw [bs_size]; omega) (by rw [mk_toList]; exact hk) ev w (hm _ _ _ hc).1 hv).mono ?_
    rintro e w' ⟨N, rfl, h1, h2, h3⟩
    exact ⟨_, rfl, .inr ⟨rfl, _, _, _, rfl⟩, h3⟩
/-- the entry that compares strings -/
theorem Ev_cmpstr {e : Env} {H : Hp} {R : Own} {dst : Option Tmp} {ty : TypeId} {pos : String} {after : Array Edge} {g : Option (Nat × Bool)} {x y : Operand} {a b : List UInt8} {at_ : Array TypeId} (hx : e.eval x = some (sv a)) (hy : e.eval y = some (sv b)) :
    Ev Tryz.prog ⟨dst, .call { callee := .value (.func 211), args := #[x, y], argTypes := at_ }, ty, pos, after, g⟩ e H R (.int .i64 (compareBytes a b)) := fun ac w he _ _ => by
  have hf : ∀ args w, (callFunc 211 args).run Tryz.prog w = ((Extern.BytealgCompare.compare args).run Tryz.prog w).andThen fun v w' => .ok (.value v) w' := fun args w => by
    rw [run_callFunc_extern Tryz.func211 (by kernel_rfl) (by kernel_rfl) (by kernel_rfl) (e := Extern.BytealgCompare.compare) (by kernel_rfl)]
  have h1 := hf #[sv a, sv b] w
  rw [run_compareString, mk_toList, mk_toList] at h1
  have hm : (#[x, y] : Array Operand).map ac.eval = #[sv a, sv b] := by simp [he.eval hx, he.eval hy]
  simp only [execOp, resolve, hm, Act.eval, Deferred.ofValue, Sem.run_bind, Sem.run_pure, Result.andThen_ok, invoke, List.append_toArray, List.nil_append, List.append_nil, Array.empty_append, h1]
/-- an error against nil -/
theorem Ev_neI {P : Program} {e : Env} {H : Hp} {R : Own} {dst : Option Tmp} {ty : TypeId} {pos : String} {after : Array Edge} {g : Option (Nat × Bool)} {x : Operand} {t t2 u : TypeId} {v : Value} (ht : P.underlying t = some (.interface (P.methodsAt t))) (hx : e.eval x = some (.iface u v)) :
    Ev P ⟨dst, .binOp .neq t x (.const .nilIface) t2, ty, pos, after, g⟩ e H R (.bool true) := fun a w he _ _ => by
  have h1 := run_neq_held_nil (P := P) w t u v ht
  have hc : a.eval (.const .nilIface) = .nilIface := rfl
  simp [execOp, he.eval hx, hc, eqGuard_at_iface, h1]
theorem Ev_neN {P : Program} {e : Env} {H : Hp} {R : Own} {dst : Option Tmp} {ty : TypeId} {pos : String} {after : Array Edge} {g : Option (Nat × Bool)} {x : Operand} {t t2 : TypeId} (ht : P.underlying t = some (.interface (P.methodsAt t))) (hx : e.eval x = some .nilIface) :
    Ev P ⟨dst, .binOp .neq t x (.const .nilIface) t2, ty, pos, after, g⟩ e H R (.bool false) := fun a w he _ _ => by
  have h1 := run_neq_nil_nil (P := P) w t ht
  have hc : a.eval (.const .nilIface) = .nilIface := rfl
  simp [execOp, he.eval hx, hc, eqGuard_nil_constR, h1]
end Go.Proofs.YtnoadopmeoohmaaGreatDoor
/-
  Operations that numerals need: strings to bytes and back, arrays as values, maps written out.
-/
namespace Go.Proofs.YtnoadopmeoohmaaGreatDoor
open Go
set_option linter.unusedVariables false
set_option linter.unusedSimpArgs false
section
variable {F : Fence} {P : Program} {c : Ctx} {ops : List Oper} {K : SP} {X : List (Nat × SP)} {R : SP}
end
section
variable {P : Program} {e : Env} {H : Hp} {R : Own} {dst : Option Tmp} {ty : TypeId} {pos : String} {after : Array Edge} {g : Option (Nat × Bool)} {x y z : Operand} {v : Value} {t t2 : TypeId} {k b o : Nat}
/-- a slice of one byte, as a string -/
theorem Ev_conv1 {i el : Nat} {m : Int} {cp : Nat} [hs : UndC P t (.slice el)] [he : UndC P el (.int .u8)] [hd : UndC P t2 .string] (hx : e.eval x = some (.slice (some ⟨b, 0, none⟩) 1 cp)) (hR : oget R i = some (.row (.slice (some ⟨b, 0, none⟩) 1 cp) 1 [[.int .u8 m]])) (hm : 0 ≤ m ∧ m < 256) :
    Ev P ⟨dst, .convert t t2 x, ty, pos, after, g⟩ e H R (sv [UInt8.ofNat m.toNat]) := fun a w hev _ hr => by
  have hrow : RowOk w (.slice (some ⟨b, 0, none⟩) 1 cp) 1 [[.int .u8 m]] := hr _ (oget_mem hR)
  rcases hrow with ⟨h, _⟩ | ⟨b', cap, rest, T, h, _, _, hb, _⟩
  · cases h
  · cases h
    have h1 := run_convert_bytes_back (P := P) w t t2 el ⟨b, 0, none⟩ cp [UInt8.ofNat m.toNat] hs.und he.und hd.und (fun j hj => by
      simp at hj
      subst hj
      have : w.cell? ⟨b, 0, none⟩ = some (.int .u8 m) := by
        simp [World.cell?, hb]
      simp only [List.getElem_cons_zero]
      have e1 : ((UInt8.ofNat m.toNat).toNat : Int) = m := by simp; omega
      rw [e1]
      simpa [Addr.add] using this)
    simp only [List.length_singleton] at h1
    simp [execOp, hev.eval hx, h1]
/-- a string's bytes: the block bears the run-time's mark -/
def sobj (l : List UInt8) (rest : List Value) (T : TypeId) : Obj := .cells (bcells l ++ rest).toArray T (l.length + rest.length, l.length + rest.length + 1)
theorem sobj_cell {w : World} {l : List UInt8} {rest : List Value} {T : TypeId} (hb : w.heap[b]? = some (sobj l rest T)) {i : Nat} (hi : i < l.length) : w.cell? ⟨b, i, none⟩ = some (.int .u8 (l.getD i 0).toNat) := by
  simp [World.cell?, hb, sobj, Lib.byteCells, List.getElem?_append_left, hi, List.getD]
theorem Ev_loadS [hT : TyC P t false 1] {i : Nat} {l : List UInt8} {rest : List Value} {T : TypeId} (hx : e.eval x = some (.pointer (some ⟨b, o, none⟩))) (hR : oget R i = some (.obj b (sobj l rest T))) (ho : o < l.length) :
    Ev P ⟨dst, .load t x, ty, pos, after, g⟩ e H R (.int .u8 (bat l o)) := fun a w he _ hr => by
  have hb : w.heap[b]? = some (sobj l rest T) := hr _ (oget_mem hR)
  have h1 := run_load_one (P := P) (t := t) (w := w) (b := b) (o := o) (sobj_cell hb ho)
  simp [execOp, he.eval hx, h1, bat]
theorem Ev_convS {i el n cp : Nat} {l : List UInt8} {rest : List Value} {T : TypeId} [hs : UndC P t (.slice el)] [he : UndC P el (.int .u8)] [hd : UndC P t2 .string] (hx : e.eval x = some (.slice (some ⟨b, 0, none⟩) n cp)) (hR : oget R i = some (.obj b (sobj l rest T))) (hn : l.length = n) :
    Ev P ⟨dst, .convert t t2 x, ty, pos, after, g⟩ e H R (sv l) := fun a w hev _ hr => by
  have hb : w.heap[b]? = some (sobj l rest T) := hr _ (oget_mem hR)
  subst hn
  have h1 := run_convert_bytes_back (P := P) w t t2 el ⟨b, 0, none⟩ cp l hs.und he.und hd.und (fun j hj => by
    have := sobj_cell hb hj
    rw [show (l.getD j 0) = l[j] by simp [List.getD, hj]] at this
    rw [Addr.add_lit]
    simpa using this)
  simp [execOp, hev.eval hx, h1]
end
section
variable {F : Fence} {P : Program} {c : Ctx} {K : SP} {n : Nat} {e : Env} {H : Hp} {M L : Own} {D : List Deferred} {x y z : Operand} {d : Tmp} {ty t t2 : TypeId} {pos : String} {after : Array Edge} {g : Option (Nat × Bool)} {v : Value} {b off : Nat}
theorem Ef_strBytes (hF : WideF F) {el : Nat} {l : List UInt8} [hs : UndC P t .string] [hd : UndC P t2 (.slice el)] [he : UndC P el (.int .u8)] (hx : e.eval x = some (sv l)) (hn : Nat.blt d n = true)
    (kk : ∀ b cp rest, l.length + rest.length = cp → K ⟨n, (d, .slice (some ⟨b, 0, none⟩) l.length cp) :: e, H, .obj b (sobj l rest el) :: M, L, D⟩) :
    Ef F P c ⟨some d, .convert t t2 x, ty, pos, after, g⟩ ⟨n, e, H, M, L, D⟩ K := Ef_of_run hF fun a w hst => by
  have h1 := run_bytes_of_string (P := P) w t t2 el ⟨l.toArray⟩ hs.und hd.und he.und
  rw [bs_size] at h1
  have hcap := grownCap_ge w l.length 0 el
  have e1 : (Obj.cells (bytesRow ⟨l.toArray⟩ (grownCap w l.length 0 el)) el ((bytesRow ⟨l.toArray⟩ (grownCap w l.length 0 el)).size, (bytesRow ⟨l.toArray⟩ (grownCap w l.length 0 el)).size + 1)) = sobj l (List.replicate (grownCap w l.length 0 el - l.length) (Value.int .u8 0)) el := by
    have e2 : bytesRow ⟨l.toArray⟩ (grownCap w l.length 0 el) = (bcells l ++ List.replicate (grownCap w l.length 0 el - l.length) (Value.int .u8 0)).toArray := by
      unfold bytesRow
      rw [bs_size]
      apply Array.ext'
      simp [Lib.byteCells]
    unfold sobj
    rw [e2]
    simp [Lib.byteCells]
  rw [e1] at h1
  refine ⟨_, w.drew.alloc (sobj l (List.replicate (grownCap w l.length 0 el - l.length) (Value.int .u8 0)) el), ?_, _, ok_put hst hn (hst.holds.drew.allocO _), kk _ (grownCap w l.length 0 el) _ (by simp; omega)⟩
  simp [execOp, hst.env.eval hx, h1]
theorem Ef_storeS (hF : WideF F) {l : List UInt8} {rest : List Value} {T : TypeId} {u : UInt8} {m : Int} [hT : TyC P t false 1] (hx : e.eval x = some (.pointer (some ⟨b, off, none⟩))) (hy : e.eval y = some (.int .u8 m)) (hm : m = (u.toNat : Int)) (hl : off < l.length)
    (k : K ⟨n, e, H, .obj b (sobj (l.set off u) rest T) :: M, L, D⟩) : Ef F P c ⟨none, .store t x y, ty, pos, after, g⟩ ⟨n, e, H, .obj b (sobj l rest T) :: M, L, D⟩ K := Ef_of_skip hF (by simp) fun a w hs => by
  have hb : w.heap[b]? = some (sobj l rest T) := hs.holds.own (.obj b (sobj l rest T)) (by simp)
  subst hm
  have hcell := sobj_cell hb hl
  have hfr : w.frozen? ⟨b, off, none⟩ = false := by
    simp only [World.frozen?, hb, sobj]
    simp; omega
  have h1 := run_store P w ⟨b, off, none⟩ (.int .u8 (u.toNat : Int)) .plain rfl
  rw [hcell, hfr] at h1
  simp only [Bool.false_eq_true, if_false] at h1
  have hput : w.setCell ⟨b, off, none⟩ (.int .u8 (u.toNat : Int)) = w.putObj b (sobj (l.set off u) rest T) := by
    have hlt : b < w.heap.size := by
      rcases Nat.lt_or_ge b w.heap.size with h' | h'
      · exact h'
      · simp [Array.getElem?_eq_none h'] at hb
    unfold World.setCell World.putObj
    congr 1
    apply Array.ext_getElem?
    intro j
    rw [Array.getElem?_modify, Array.getElem?_setIfInBounds]
    by_cases hj : b = j
    · subst hj
      simp only [if_true]
      rw [hb]
      simp [sobj, hlt, Lib.byteCells, List.set_append, hl]
    · simp [hj]
  rw [hput] at h1
  refine ⟨w.putObj b (sobj (l.set off u) rest T), ?_, ⟨n, e, H, .obj b (sobj (l.set off u) rest T) :: M, L, D⟩, ⟨hs.defers, hs.size, hs.env, hs.holds.putObj _⟩, k⟩
  have hc : (Value.int .u8 (u.toNat : Int)).cells.toList = [.int .u8 (u.toNat : Int)] := rfl
  have hz : (Value.int .u8 (u.toNat : Int)).cells.size = 1 := rfl
  have h2 : (storeCells ⟨b, off, none⟩ [Value.int .u8 (u.toNat : Int)]).run P w = .ok () (w.putObj b (sobj (l.set off u) rest T)) := by
    simp [storeCells, h1, Addr.add]
  simp [execOp, hs.env.eval hx, hs.env.eval hy, Instr.storeAt, Instr.sureAddr, storeVar, hT.sizeOf, hz, hc, h2]
end
end Go.Proofs.YtnoadopmeoohmaaGreatDoor
