/-
  The library's contracts that numerals need (the shelf's, laid at this program, written by the kit's lay-shelf and lay-plain), and what they say in the layer.
-/
import Derived.Test.YtaneeaojlkenmaaGreatDoorK1
import Derived.Test.YtaneeaojlkenmaaGreatDoorA16
import Derived.Shelf.Strings.OnBuilder
import Derived.Shelf.LaysM
import Derived.Shelf.Strconv.Itoa3
import Derived.Shelf.Strings.Prefix
import Derived.Shelf.Strings.Repeat
import Derived.Shelf.Strings.Replace
import Derived.Shelf.Strings.CaseAny
namespace Go.Proofs.YtaneeaojlkenmaaGreatDoor
open Go
set_option linter.unusedVariables false
set_option linter.unusedSimpArgs false
section
open Go.Shelf
def lays158_ren : Go.Shelf.Ren := ⟨fun | 158 => 112 | 165 => 121 | 166 => 45 | 167 => 59 | 169 => 47 | 230 => 131 | 203 => 132 | 240 => 63 | 241 => 138 | 197 => 123 | 118 => 146 | 168 => 147 | 270 => 148 | 262 => 149 | 276 => 81 | 277 => 152 | 260 => 140 | 242 => 161 | 313 => 162 | 278 => 169 | 274 => 170 | 275 => 171 | n => n, fun | 9 => 9 | 4 => 4 | 3 => 3 | 5 => 5 | 72 => 74 | 0 => 0 | 76 => 86 | 75 => 85 | 107 => 165 | 70 => 72 | 20 => 20 | 37 => 53 | 127 => 109 | 21 => 21 | 105 => 155 | 164 => 125 | 162 => 193 | 203 => 191 | 119 => 183 | 46 => 119 | 139 => 186 | 138 => 185 | 51 => 51 | 160 => 199 | 208 => 207 | 206 => 205 | 80 => 89 | n => n, fun | 13 => 5 | 3 => 2 | 4 => 3 | n => n⟩
theorem lays158 : Go.Proofs.Lays.n158 Tryz.prog lays158_ren := {
  mixed := by kernel_rfl
  f118 := Tryz.func146.trans (congrArg some (by kernel_rfl))
  f158 := Tryz.func112.trans (congrArg some (by kernel_rfl))
  f165 := Tryz.func121.trans (congrArg some (by kernel_rfl))
  f166 := Tryz.func45.trans (congrArg some (by kernel_rfl))
  f167 := Tryz.func59.trans (congrArg some (by kernel_rfl))
  f168 := Tryz.func147.trans (congrArg some (by kernel_rfl))
  f169 := Tryz.func47.trans (congrArg some (by kernel_rfl))
  f197 := Tryz.func123.trans (congrArg some (by kernel_rfl))
  f203 := Tryz.func132.trans (congrArg some (by kernel_rfl))
  f230 := Tryz.func131.trans (congrArg some (by kernel_rfl))
  f240 := Tryz.func63.trans (congrArg some (by kernel_rfl))
  f241 := Tryz.func138.trans (congrArg some (by kernel_rfl))
  f242 := Tryz.func161.trans (congrArg some (by kernel_rfl))
  f260 := Tryz.func140.trans (congrArg some (by kernel_rfl))
  f262 := Tryz.func149.trans (congrArg some (by kernel_rfl))
  f270 := Tryz.func148.trans (congrArg some (by kernel_rfl))
  f274 := Tryz.func170.trans (congrArg some (by kernel_rfl))
  f275 := Tryz.func171.trans (congrArg some (by kernel_rfl))
  f276 := Tryz.func81.trans (congrArg some (by kernel_rfl))
  f277 := Tryz.func152.trans (congrArg some (by kernel_rfl))
  f278 := Tryz.func169.trans (congrArg some (by kernel_rfl))
  f313 := Tryz.func162.trans (congrArg some (by kernel_rfl))
  t0 := Tryz.underlying0
  a0 := Tryz.isAgg0
  z0 := Tryz.sizeOf0
  v0 := Tryz.zeroValue0
  t3 := Tryz.underlying3
  a3 := Tryz.isAgg3
  z3 := Tryz.sizeOf3
  v3 := Tryz.zeroValue3
  t4 := Tryz.underlying4
  a4 := Tryz.isAgg4
  z4 := Tryz.sizeOf4
  v4 := Tryz.zeroValue4
  t5 := Tryz.underlying5
  a5 := Tryz.isAgg5
  z5 := Tryz.sizeOf5
  v5 := Tryz.zeroValue5
  t9 := Tryz.underlying9
  a9 := Tryz.isAgg9
  z9 := Tryz.sizeOf9
  v9 := Tryz.zeroValue9
  t20 := Tryz.underlying20
  a20 := Tryz.isAgg20
  z20 := Tryz.sizeOf20
  v20 := Tryz.zeroValue20
  t21 := Tryz.underlying21
  a21 := Tryz.isAgg21
  z21 := Tryz.sizeOf21
  v21 := Tryz.zeroValue21
  t37 := Tryz.underlying53
  a37 := Tryz.isAgg53
  z37 := Tryz.sizeOf53
  v37 := Tryz.zeroValue53
  t46 := Tryz.underlying119
  a46 := Tryz.isAgg119
  z46 := Tryz.sizeOf119
  v46 := Tryz.zeroValue119
  t51 := Tryz.underlying51
  a51 := Tryz.isAgg51
  z51 := Tryz.sizeOf51
  v51 := Tryz.zeroValue51
  t70 := Tryz.underlying72
  a70 := Tryz.isAgg72
  z70 := Tryz.sizeOf72
  v70 := Tryz.zeroValue72
  t72 := Tryz.underlying74
  a72 := Tryz.isAgg74
  z72 := Tryz.sizeOf74
  v72 := Tryz.zeroValue74
  t75 := Tryz.underlying85
  a75 := Tryz.isAgg85
  z75 := Tryz.sizeOf85
  v75 := Tryz.zeroValue85
  t76 := Tryz.underlying86
  a76 := Tryz.isAgg86
  z76 := Tryz.sizeOf86
  v76 := Tryz.zeroValue86
  t105 := Tryz.underlying155
  a105 := Tryz.isAgg155
  z105 := Tryz.sizeOf155
  v105 := Tryz.zeroValue155
  t107 := Tryz.underlying165
  a107 := Tryz.isAgg165
  z107 := Tryz.sizeOf165
  v107 := Tryz.zeroValue165
  t119 := Tryz.underlying183
  a119 := Tryz.isAgg183
  z119 := Tryz.sizeOf183
  t127 := Tryz.underlying109
  a127 := Tryz.isAgg109
  z127 := Tryz.sizeOf109
  v127 := Tryz.zeroValue109
  t138 := Tryz.underlying185
  a138 := Tryz.isAgg185
  z138 := Tryz.sizeOf185
  v138 := Tryz.zeroValue185
  t139 := Tryz.underlying186
  a139 := Tryz.isAgg186
  z139 := Tryz.sizeOf186
  v139 := Tryz.zeroValue186
  t160 := Tryz.underlying199
  a160 := Tryz.isAgg199
  z160 := Tryz.sizeOf199
  v160 := Tryz.zeroValue199
  t162 := Tryz.underlying193
  a162 := Tryz.isAgg193
  z162 := Tryz.sizeOf193
  v162 := Tryz.zeroValue193
  t164 := Tryz.underlying125
  a164 := Tryz.isAgg125
  z164 := Tryz.sizeOf125
  v164 := Tryz.zeroValue125
  t203 := Tryz.underlying191
  a203 := Tryz.isAgg191
  z203 := Tryz.sizeOf191
  v203 := Tryz.zeroValue191
  t206 := Tryz.underlying205
  a206 := Tryz.isAgg205
  z206 := Tryz.sizeOf205
  v206 := Tryz.zeroValue205
  t208 := Tryz.underlying207
  a208 := Tryz.isAgg207
  z208 := Tryz.sizeOf207
  v208 := Tryz.zeroValue207
  g3 := by kernel_rfl
  g4 := by kernel_rfl
  g13 := by kernel_rfl }
theorem Builder_Extra_158 : Builder.Extra Tryz.prog lays158_ren := {
  sizeBuilder := by kernel_rfl
  liesBuilder := by kernel_rfl
  t5 := Tryz.underlying5
  a5 := Tryz.isAgg5
  z5 := Tryz.sizeOf5
  v5 := Tryz.zeroValue5
  infoByte := by kernel_rfl
  cellsByte := by kernel_rfl
  sizeByte := by kernel_rfl
  neB5 := by decide }
open Go.RowKit in
theorem strings_ToUpper_ascii (s : ByteArray) (w : World) (hs : s.size ≤ 140737488355328) (hascii : ∀ (j : Nat) (b : UInt8), s.data.toList[j]? = some b → b.toNat < 128) :
    Calls Tryz.prog 112 #[.string s] w fun e w' => e = .returned (.string ⟨(Lib.toUpperA s.data.toList).toArray⟩) ∧ Below w.heap.size w w' := Any.strings_ToUpper_ascii lays158 Builder_Extra_158 s w hs hascii
def lays159_ren : Go.Shelf.Ren := ⟨fun | 159 => 134 | 165 => 121 | 166 => 45 | 167 => 59 | 169 => 47 | 230 => 131 | 204 => 151 | 240 => 63 | 241 => 138 | 197 => 123 | 118 => 146 | 168 => 147 | 270 => 148 | 262 => 149 | 276 => 81 | 277 => 152 | 260 => 140 | 242 => 161 | 313 => 162 | 278 => 169 | 274 => 170 | 275 => 171 | n => n, fun | 9 => 9 | 4 => 4 | 3 => 3 | 5 => 5 | 72 => 74 | 0 => 0 | 76 => 86 | 75 => 85 | 107 => 165 | 70 => 72 | 20 => 20 | 37 => 53 | 127 => 109 | 21 => 21 | 105 => 155 | 164 => 125 | 162 => 193 | 203 => 191 | 119 => 183 | 46 => 119 | 139 => 186 | 138 => 185 | 51 => 51 | 160 => 199 | 208 => 207 | 206 => 205 | 80 => 89 | n => n, fun | 13 => 5 | 3 => 2 | 4 => 3 | n => n⟩
theorem lays159 : Go.Proofs.Lays.n159 Tryz.prog lays159_ren := {
  mixed := by kernel_rfl
  f118 := Tryz.func146.trans (congrArg some (by kernel_rfl))
  f159 := Tryz.func134.trans (congrArg some (by kernel_rfl))
  f165 := Tryz.func121.trans (congrArg some (by kernel_rfl))
  f166 := Tryz.func45.trans (congrArg some (by kernel_rfl))
  f167 := Tryz.func59.trans (congrArg some (by kernel_rfl))
  f168 := Tryz.func147.trans (congrArg some (by kernel_rfl))
  f169 := Tryz.func47.trans (congrArg some (by kernel_rfl))
  f197 := Tryz.func123.trans (congrArg some (by kernel_rfl))
  f204 := Tryz.func151.trans (congrArg some (by kernel_rfl))
  f230 := Tryz.func131.trans (congrArg some (by kernel_rfl))
  f240 := Tryz.func63.trans (congrArg some (by kernel_rfl))
  f241 := Tryz.func138.trans (congrArg some (by kernel_rfl))
  f242 := Tryz.func161.trans (congrArg some (by kernel_rfl))
  f260 := Tryz.func140.trans (congrArg some (by kernel_rfl))
  f262 := Tryz.func149.trans (congrArg some (by kernel_rfl))
  f270 := Tryz.func148.trans (congrArg some (by kernel_rfl))
  f274 := Tryz.func170.trans (congrArg some (by kernel_rfl))
  f275 := Tryz.func171.trans (congrArg some (by kernel_rfl))
  f276 := Tryz.func81.trans (congrArg some (by kernel_rfl))
  f277 := Tryz.func152.trans (congrArg some (by kernel_rfl))
  f278 := Tryz.func169.trans (congrArg some (by kernel_rfl))
  f313 := Tryz.func162.trans (congrArg some (by kernel_rfl))
  t0 := Tryz.underlying0
  a0 := Tryz.isAgg0
  z0 := Tryz.sizeOf0
  v0 := Tryz.zeroValue0
  t3 := Tryz.underlying3
  a3 := Tryz.isAgg3
  z3 := Tryz.sizeOf3
  v3 := Tryz.zeroValue3
  t4 := Tryz.underlying4
  a4 := Tryz.isAgg4
  z4 := Tryz.sizeOf4
  v4 := Tryz.zeroValue4
  t5 := Tryz.underlying5
  a5 := Tryz.isAgg5
  z5 := Tryz.sizeOf5
  v5 := Tryz.zeroValue5
  t9 := Tryz.underlying9
  a9 := Tryz.isAgg9
  z9 := Tryz.sizeOf9
  v9 := Tryz.zeroValue9
  t20 := Tryz.underlying20
  a20 := Tryz.isAgg20
  z20 := Tryz.sizeOf20
  v20 := Tryz.zeroValue20
  t21 := Tryz.underlying21
  a21 := Tryz.isAgg21
  z21 := Tryz.sizeOf21
  v21 := Tryz.zeroValue21
  t37 := Tryz.underlying53
  a37 := Tryz.isAgg53
  z37 := Tryz.sizeOf53
  v37 := Tryz.zeroValue53
  t46 := Tryz.underlying119
  a46 := Tryz.isAgg119
  z46 := Tryz.sizeOf119
  v46 := Tryz.zeroValue119
  t51 := Tryz.underlying51
  a51 := Tryz.isAgg51
  z51 := Tryz.sizeOf51
  v51 := Tryz.zeroValue51
  t70 := Tryz.underlying72
  a70 := Tryz.isAgg72
  z70 := Tryz.sizeOf72
  v70 := Tryz.zeroValue72
  t72 := Tryz.underlying74
  a72 := Tryz.isAgg74
  z72 := Tryz.sizeOf74
  v72 := Tryz.zeroValue74
  t75 := Tryz.underlying85
  a75 := Tryz.isAgg85
  z75 := Tryz.sizeOf85
  v75 := Tryz.zeroValue85
  t76 := Tryz.underlying86
  a76 := Tryz.isAgg86
  z76 := Tryz.sizeOf86
  v76 := Tryz.zeroValue86
  t105 := Tryz.underlying155
  a105 := Tryz.isAgg155
  z105 := Tryz.sizeOf155
  v105 := Tryz.zeroValue155
  t107 := Tryz.underlying165
  a107 := Tryz.isAgg165
  z107 := Tryz.sizeOf165
  v107 := Tryz.zeroValue165
  t119 := Tryz.underlying183
  a119 := Tryz.isAgg183
  z119 := Tryz.sizeOf183
  t127 := Tryz.underlying109
  a127 := Tryz.isAgg109
  z127 := Tryz.sizeOf109
  v127 := Tryz.zeroValue109
  t138 := Tryz.underlying185
  a138 := Tryz.isAgg185
  z138 := Tryz.sizeOf185
  v138 := Tryz.zeroValue185
  t139 := Tryz.underlying186
  a139 := Tryz.isAgg186
  z139 := Tryz.sizeOf186
  v139 := Tryz.zeroValue186
  t160 := Tryz.underlying199
  a160 := Tryz.isAgg199
  z160 := Tryz.sizeOf199
  v160 := Tryz.zeroValue199
  t162 := Tryz.underlying193
  a162 := Tryz.isAgg193
  z162 := Tryz.sizeOf193
  v162 := Tryz.zeroValue193
  t164 := Tryz.underlying125
  a164 := Tryz.isAgg125
  z164 := Tryz.sizeOf125
  v164 := Tryz.zeroValue125
  t203 := Tryz.underlying191
  a203 := Tryz.isAgg191
  z203 := Tryz.sizeOf191
  v203 := Tryz.zeroValue191
  t206 := Tryz.underlying205
  a206 := Tryz.isAgg205
  z206 := Tryz.sizeOf205
  v206 := Tryz.zeroValue205
  t208 := Tryz.underlying207
  a208 := Tryz.isAgg207
  z208 := Tryz.sizeOf207
  v208 := Tryz.zeroValue207
  g3 := by kernel_rfl
  g4 := by kernel_rfl
  g13 := by kernel_rfl }
theorem Builder_Extra_159 : Builder.Extra Tryz.prog lays159_ren := {
  sizeBuilder := by kernel_rfl
  liesBuilder := by kernel_rfl
  t5 := Tryz.underlying5
  a5 := Tryz.isAgg5
  z5 := Tryz.sizeOf5
  v5 := Tryz.zeroValue5
  infoByte := by kernel_rfl
  cellsByte := by kernel_rfl
  sizeByte := by kernel_rfl
  neB5 := by decide }
def laysM171_ren : Go.Shelf.Ren := ⟨fun | 171 => 71 | 243 => 96 | 246 => 124 | 283 => 141 | 284 => 142 | 285 => 143 | 286 => 144 | 129 => 107 | 317 => 157 | 318 => 158 | 319 => 159 | 320 => 160 | 337 => 167 | 338 => 168 | n => n, fun | 3 => 3 | 9 => 9 | 2 => 2 | 4 => 4 | 171 => 171 | 0 => 0 | 53 => 146 | 37 => 53 | 5 => 5 | 173 => 173 | 212 => 188 | 51 => 51 | 20 => 20 | 213 => 189 | 46 => 119 | 232 => 202 | 233 => 203 | n => n, fun | 17 => 4 | 18 => 6 | 19 => 7 | n => n⟩
theorem laysM171 : Go.Proofs.LaysM.n171 Tryz.prog laysM171_ren := {
  mixed := by kernel_rfl
  f129 := Tryz.func107.trans (congrArg some (by kernel_rfl))
  f171 := Tryz.func71.trans (congrArg some (by kernel_rfl))
  f243 := Tryz.func96.trans (congrArg some (by kernel_rfl))
  f246 := Tryz.func124.trans (congrArg some (by kernel_rfl))
  f283 := Tryz.func141.trans (congrArg some (by kernel_rfl))
  f284 := Tryz.func142.trans (congrArg some (by kernel_rfl))
  f285 := Tryz.func143.trans (congrArg some (by kernel_rfl))
  f286 := Tryz.func144.trans (congrArg some (by kernel_rfl))
  f317 := Tryz.func157.trans (congrArg some (by kernel_rfl))
  f318 := Tryz.func158.trans (congrArg some (by kernel_rfl))
  f319 := Tryz.func159.trans (congrArg some (by kernel_rfl))
  f320 := Tryz.func160.trans (congrArg some (by kernel_rfl))
  f337 := Tryz.func167.trans (congrArg some (by kernel_rfl))
  f338 := Tryz.func168.trans (congrArg some (by kernel_rfl))
  t0 := Tryz.underlying0
  a0 := Tryz.isAgg0
  z0 := Tryz.sizeOf0
  v0 := Tryz.zeroValue0
  t2 := Tryz.underlying2
  a2 := Tryz.isAgg2
  z2 := Tryz.sizeOf2
  v2 := Tryz.zeroValue2
  t3 := Tryz.underlying3
  a3 := Tryz.isAgg3
  z3 := Tryz.sizeOf3
  v3 := Tryz.zeroValue3
  t4 := Tryz.underlying4
  a4 := Tryz.isAgg4
  z4 := Tryz.sizeOf4
  v4 := Tryz.zeroValue4
  t5 := Tryz.underlying5
  a5 := Tryz.isAgg5
  z5 := Tryz.sizeOf5
  v5 := Tryz.zeroValue5
  t9 := Tryz.underlying9
  a9 := Tryz.isAgg9
  z9 := Tryz.sizeOf9
  v9 := Tryz.zeroValue9
  t20 := Tryz.underlying20
  a20 := Tryz.isAgg20
  z20 := Tryz.sizeOf20
  v20 := Tryz.zeroValue20
  t37 := Tryz.underlying53
  a37 := Tryz.isAgg53
  z37 := Tryz.sizeOf53
  v37 := Tryz.zeroValue53
  t46 := Tryz.underlying119
  a46 := Tryz.isAgg119
  z46 := Tryz.sizeOf119
  v46 := Tryz.zeroValue119
  t51 := Tryz.underlying51
  a51 := Tryz.isAgg51
  z51 := Tryz.sizeOf51
  v51 := Tryz.zeroValue51
  t53 := Tryz.underlying146
  a53 := Tryz.isAgg146
  z53 := Tryz.sizeOf146
  v53 := Tryz.zeroValue146
  t171 := Tryz.underlying171
  a171 := Tryz.isAgg171
  z171 := Tryz.sizeOf171
  v171 := Tryz.zeroValue171
  t173 := Tryz.underlying173
  a173 := Tryz.isAgg173
  z173 := Tryz.sizeOf173
  v173 := Tryz.zeroValue173
  t212 := Tryz.underlying188
  a212 := Tryz.isAgg188
  z212 := Tryz.sizeOf188
  v212 := Tryz.zeroValue188
  t213 := Tryz.underlying189
  a213 := Tryz.isAgg189
  z213 := Tryz.sizeOf189
  t232 := Tryz.underlying202
  a232 := Tryz.isAgg202
  z232 := Tryz.sizeOf202
  v232 := Tryz.zeroValue202
  t233 := Tryz.underlying203
  a233 := Tryz.isAgg203
  z233 := Tryz.sizeOf203
  v233 := Tryz.zeroValue203
  g17 := by kernel_rfl
  g18 := by kernel_rfl
  g19 := by kernel_rfl
  i0 := by kernel_rfl
  i2 := by kernel_rfl
  i3 := by kernel_rfl
  i4 := by kernel_rfl
  i5 := by kernel_rfl
  i9 := by kernel_rfl
  i20 := by kernel_rfl
  i37 := by kernel_rfl
  i46 := by kernel_rfl
  i51 := by kernel_rfl
  i53 := by kernel_rfl
  i171 := by kernel_rfl
  i173 := by kernel_rfl
  i212 := by kernel_rfl
  i232 := by kernel_rfl
  i233 := by kernel_rfl
  m17 := by kernel_rfl
  m18 := by kernel_rfl
  m19 := by kernel_rfl }
open Go.RowKit Go.Sort Go.Lib in
theorem strconv_Itoa (n : Int) (h0 : -9223372036854775808 ≤ n) (h1 : n ≤ 9223372036854775807) (w : World) (htab : Lib.TabIs Tryz.prog w "internal/strconv.uint64pow10" .u64 Lib.pow10Tab) :
    Calls Tryz.prog 71 #[.int .i64 n] w fun e w' => e = .returned (.string ⟨(Lib.itoa n).toArray⟩) ∧ ∃ k os, w' = grow (w.drewN k) os := Any.strconv_Itoa laysM171 n h0 h1 w htab
def lays99_ren : Go.Shelf.Ren := ⟨fun | 99 => 66 | 206 => 90 | n => n, fun | 9 => 9 | 4 => 4 | 3 => 3 | n => n, fun | n => n⟩
theorem lays99 : Go.Proofs.Lays.n99 Tryz.prog lays99_ren := {
  mixed := by kernel_rfl
  f99 := Tryz.func66.trans (congrArg some (by kernel_rfl))
  f206 := Tryz.func90.trans (congrArg some (by kernel_rfl))
  t3 := Tryz.underlying3
  a3 := Tryz.isAgg3
  z3 := Tryz.sizeOf3
  v3 := Tryz.zeroValue3
  t4 := Tryz.underlying4
  a4 := Tryz.isAgg4
  z4 := Tryz.sizeOf4
  v4 := Tryz.zeroValue4
  t9 := Tryz.underlying9
  a9 := Tryz.isAgg9
  z9 := Tryz.sizeOf9
  v9 := Tryz.zeroValue9 }
open Go.RowKit Go.Lib in
theorem strings_HasPrefix (s p : ByteArray) (w : World) :
    Calls Tryz.prog 66 #[.string s, .string p] w fun e w' => e = .returned (.bool (Lib.hasPrefix s.data.toList p.data.toList)) ∧ w' = w := Any.strings_HasPrefix lays99 s p w
def lays155_ren : Go.Shelf.Ren := ⟨fun | 155 => 70 | 154 => 95 | 138 => 120 | 165 => 121 | 143 => 122 | 166 => 45 | 197 => 123 | 169 => 47 | 195 => 136 | 218 => 137 | 240 => 63 | 241 => 138 | 219 => 139 | 260 => 140 | 276 => 81 | 277 => 152 | 217 => 153 | 225 => 154 | 224 => 155 | 267 => 156 | 266 => 165 | 314 => 166 | n => n, fun | 9 => 9 | 3 => 3 | 4 => 4 | 72 => 74 | 0 => 0 | 76 => 86 | 105 => 155 | 21 => 21 | 5 => 5 | 70 => 72 | 20 => 20 | 37 => 53 | 75 => 85 | 127 => 109 | 164 => 125 | 46 => 119 | 119 => 183 | 139 => 186 | 138 => 185 | 146 => 194 | 51 => 51 | 80 => 89 | n => n, fun | 1 => 1 | 3 => 2 | 4 => 3 | n => n⟩
theorem lays155 : Go.Proofs.Lays.n155 Tryz.prog lays155_ren := {
  mixed := by kernel_rfl
  f138 := Tryz.func120.trans (congrArg some (by kernel_rfl))
  f143 := Tryz.func122.trans (congrArg some (by kernel_rfl))
  f154 := Tryz.func95.trans (congrArg some (by kernel_rfl))
  f155 := Tryz.func70.trans (congrArg some (by kernel_rfl))
  f165 := Tryz.func121.trans (congrArg some (by kernel_rfl))
  f166 := Tryz.func45.trans (congrArg some (by kernel_rfl))
  f169 := Tryz.func47.trans (congrArg some (by kernel_rfl))
  f195 := Tryz.func136.trans (congrArg some (by kernel_rfl))
  f197 := Tryz.func123.trans (congrArg some (by kernel_rfl))
  f217 := Tryz.func153.trans (congrArg some (by kernel_rfl))
  f218 := Tryz.func137.trans (congrArg some (by kernel_rfl))
  f219 := Tryz.func139.trans (congrArg some (by kernel_rfl))
  f224 := Tryz.func155.trans (congrArg some (by kernel_rfl))
  f225 := Tryz.func154.trans (congrArg some (by kernel_rfl))
  f240 := Tryz.func63.trans (congrArg some (by kernel_rfl))
  f241 := Tryz.func138.trans (congrArg some (by kernel_rfl))
  f260 := Tryz.func140.trans (congrArg some (by kernel_rfl))
  f266 := Tryz.func165.trans (congrArg some (by kernel_rfl))
  f267 := Tryz.func156.trans (congrArg some (by kernel_rfl))
  f276 := Tryz.func81.trans (congrArg some (by kernel_rfl))
  f277 := Tryz.func152.trans (congrArg some (by kernel_rfl))
  f314 := Tryz.func166.trans (congrArg some (by kernel_rfl))
  t0 := Tryz.underlying0
  a0 := Tryz.isAgg0
  z0 := Tryz.sizeOf0
  v0 := Tryz.zeroValue0
  t3 := Tryz.underlying3
  a3 := Tryz.isAgg3
  z3 := Tryz.sizeOf3
  v3 := Tryz.zeroValue3
  t4 := Tryz.underlying4
  a4 := Tryz.isAgg4
  z4 := Tryz.sizeOf4
  v4 := Tryz.zeroValue4
  t5 := Tryz.underlying5
  a5 := Tryz.isAgg5
  z5 := Tryz.sizeOf5
  v5 := Tryz.zeroValue5
  t9 := Tryz.underlying9
  a9 := Tryz.isAgg9
  z9 := Tryz.sizeOf9
  v9 := Tryz.zeroValue9
  t20 := Tryz.underlying20
  a20 := Tryz.isAgg20
  z20 := Tryz.sizeOf20
  v20 := Tryz.zeroValue20
  t21 := Tryz.underlying21
  a21 := Tryz.isAgg21
  z21 := Tryz.sizeOf21
  v21 := Tryz.zeroValue21
  t37 := Tryz.underlying53
  a37 := Tryz.isAgg53
  z37 := Tryz.sizeOf53
  v37 := Tryz.zeroValue53
  t46 := Tryz.underlying119
  a46 := Tryz.isAgg119
  z46 := Tryz.sizeOf119
  v46 := Tryz.zeroValue119
  t51 := Tryz.underlying51
  a51 := Tryz.isAgg51
  z51 := Tryz.sizeOf51
  v51 := Tryz.zeroValue51
  t70 := Tryz.underlying72
  a70 := Tryz.isAgg72
  z70 := Tryz.sizeOf72
  v70 := Tryz.zeroValue72
  t72 := Tryz.underlying74
  a72 := Tryz.isAgg74
  z72 := Tryz.sizeOf74
  v72 := Tryz.zeroValue74
  t75 := Tryz.underlying85
  a75 := Tryz.isAgg85
  z75 := Tryz.sizeOf85
  v75 := Tryz.zeroValue85
  t76 := Tryz.underlying86
  a76 := Tryz.isAgg86
  z76 := Tryz.sizeOf86
  v76 := Tryz.zeroValue86
  t105 := Tryz.underlying155
  a105 := Tryz.isAgg155
  z105 := Tryz.sizeOf155
  v105 := Tryz.zeroValue155
  t119 := Tryz.underlying183
  a119 := Tryz.isAgg183
  z119 := Tryz.sizeOf183
  t127 := Tryz.underlying109
  a127 := Tryz.isAgg109
  z127 := Tryz.sizeOf109
  v127 := Tryz.zeroValue109
  t138 := Tryz.underlying185
  a138 := Tryz.isAgg185
  z138 := Tryz.sizeOf185
  v138 := Tryz.zeroValue185
  t139 := Tryz.underlying186
  a139 := Tryz.isAgg186
  z139 := Tryz.sizeOf186
  v139 := Tryz.zeroValue186
  t146 := Tryz.underlying194
  a146 := Tryz.isAgg194
  z146 := Tryz.sizeOf194
  v146 := Tryz.zeroValue194
  t164 := Tryz.underlying125
  a164 := Tryz.isAgg125
  z164 := Tryz.sizeOf125
  v164 := Tryz.zeroValue125
  g1 := by kernel_rfl
  g3 := by kernel_rfl
  g4 := by kernel_rfl }
theorem Builder_Extra_155 : Builder.Extra Tryz.prog lays155_ren := {
  sizeBuilder := by kernel_rfl
  liesBuilder := by kernel_rfl
  t5 := Tryz.underlying5
  a5 := Tryz.isAgg5
  z5 := Tryz.sizeOf5
  v5 := Tryz.zeroValue5
  infoByte := by kernel_rfl
  cellsByte := by kernel_rfl
  sizeByte := by kernel_rfl
  neB5 := by decide }
open Go.RowKit Go.Lib in
theorem strings_ReplaceAll (s old new : ByteArray) (m : Int) (w : World) (hs : s.size < 4294967281) (hm : w.cell? ⟨1, 0, none⟩ = some (.int .i64 m)) (h1 : 1 ≤ old.size) (hlen : s.size + Lib.countB s old * new.size ≤ 140737488355328) :
    Calls Tryz.prog 70 #[.string s, .string old, .string new] w fun e w' =>
      e = .returned (.string ⟨(Lib.replaceAll s.data.toList old.data.toList new.data.toList).toArray⟩) ∧ Below w.heap.size w w' := Any.strings_ReplaceAll lays155 Builder_Extra_155 s old new m w hs hm h1 hlen
def lays105_ren : Go.Shelf.Ren := ⟨fun | 105 => 133 | 212 => 150 | 99 => 66 | 165 => 121 | 166 => 45 | 170 => 77 | 169 => 47 | 263 => 163 | 264 => 164 | 206 => 90 | 240 => 63 | 241 => 138 | 276 => 81 | 277 => 152 | n => n, fun | 9 => 9 | 3 => 3 | 4 => 4 | 20 => 20 | 0 => 0 | 46 => 119 | 109 => 180 | 5 => 5 | 72 => 74 | 76 => 86 | 51 => 51 | 146 => 194 | 53 => 146 | 148 => 196 | 70 => 72 | 37 => 53 | 75 => 85 | 127 => 109 | 164 => 125 | 80 => 89 | n => n, fun | n => n⟩
theorem lays105 : Go.Proofs.Lays.n105 Tryz.prog lays105_ren := {
  mixed := by kernel_rfl
  f99 := Tryz.func66.trans (congrArg some (by kernel_rfl))
  f105 := Tryz.func133.trans (congrArg some (by kernel_rfl))
  f165 := Tryz.func121.trans (congrArg some (by kernel_rfl))
  f166 := Tryz.func45.trans (congrArg some (by kernel_rfl))
  f169 := Tryz.func47.trans (congrArg some (by kernel_rfl))
  f170 := Tryz.func77.trans (congrArg some (by kernel_rfl))
  f206 := Tryz.func90.trans (congrArg some (by kernel_rfl))
  f212 := Tryz.func150.trans (congrArg some (by kernel_rfl))
  f240 := Tryz.func63.trans (congrArg some (by kernel_rfl))
  f241 := Tryz.func138.trans (congrArg some (by kernel_rfl))
  f263 := Tryz.func163.trans (congrArg some (by kernel_rfl))
  f264 := Tryz.func164.trans (congrArg some (by kernel_rfl))
  f276 := Tryz.func81.trans (congrArg some (by kernel_rfl))
  f277 := Tryz.func152.trans (congrArg some (by kernel_rfl))
  t0 := Tryz.underlying0
  a0 := Tryz.isAgg0
  z0 := Tryz.sizeOf0
  v0 := Tryz.zeroValue0
  t3 := Tryz.underlying3
  a3 := Tryz.isAgg3
  z3 := Tryz.sizeOf3
  v3 := Tryz.zeroValue3
  t4 := Tryz.underlying4
  a4 := Tryz.isAgg4
  z4 := Tryz.sizeOf4
  v4 := Tryz.zeroValue4
  t5 := Tryz.underlying5
  a5 := Tryz.isAgg5
  z5 := Tryz.sizeOf5
  v5 := Tryz.zeroValue5
  t9 := Tryz.underlying9
  a9 := Tryz.isAgg9
  z9 := Tryz.sizeOf9
  v9 := Tryz.zeroValue9
  t20 := Tryz.underlying20
  a20 := Tryz.isAgg20
  z20 := Tryz.sizeOf20
  v20 := Tryz.zeroValue20
  t37 := Tryz.underlying53
  a37 := Tryz.isAgg53
  z37 := Tryz.sizeOf53
  v37 := Tryz.zeroValue53
  t46 := Tryz.underlying119
  a46 := Tryz.isAgg119
  z46 := Tryz.sizeOf119
  v46 := Tryz.zeroValue119
  t51 := Tryz.underlying51
  a51 := Tryz.isAgg51
  z51 := Tryz.sizeOf51
  v51 := Tryz.zeroValue51
  t53 := Tryz.underlying146
  a53 := Tryz.isAgg146
  z53 := Tryz.sizeOf146
  v53 := Tryz.zeroValue146
  t70 := Tryz.underlying72
  a70 := Tryz.isAgg72
  z70 := Tryz.sizeOf72
  v70 := Tryz.zeroValue72
  t72 := Tryz.underlying74
  a72 := Tryz.isAgg74
  z72 := Tryz.sizeOf74
  v72 := Tryz.zeroValue74
  t75 := Tryz.underlying85
  a75 := Tryz.isAgg85
  z75 := Tryz.sizeOf85
  v75 := Tryz.zeroValue85
  t76 := Tryz.underlying86
  a76 := Tryz.isAgg86
  z76 := Tryz.sizeOf86
  v76 := Tryz.zeroValue86
  t109 := Tryz.underlying180
  a109 := Tryz.isAgg180
  z109 := Tryz.sizeOf180
  v109 := Tryz.zeroValue180
  t127 := Tryz.underlying109
  a127 := Tryz.isAgg109
  z127 := Tryz.sizeOf109
  v127 := Tryz.zeroValue109
  t146 := Tryz.underlying194
  a146 := Tryz.isAgg194
  z146 := Tryz.sizeOf194
  v146 := Tryz.zeroValue194
  t148 := Tryz.underlying196
  a148 := Tryz.isAgg196
  z148 := Tryz.sizeOf196
  v148 := Tryz.zeroValue196
  t164 := Tryz.underlying125
  a164 := Tryz.isAgg125
  z164 := Tryz.sizeOf125
  v164 := Tryz.zeroValue125 }
theorem Builder_Extra_105 : Builder.Extra Tryz.prog lays105_ren := {
  sizeBuilder := by kernel_rfl
  liesBuilder := by kernel_rfl
  t5 := Tryz.underlying5
  a5 := Tryz.isAgg5
  z5 := Tryz.sizeOf5
  v5 := Tryz.zeroValue5
  infoByte := by kernel_rfl
  cellsByte := by kernel_rfl
  sizeByte := by kernel_rfl
  neB5 := by decide }
open Go.RowKit Go.Lib in
theorem strings_Repeat (s : ByteArray) (c : Nat) (w : World) (hc : c ≤ 9223372036854775807) (hlen : s.size * c ≤ 140737488355328) :
    Calls Tryz.prog 133 #[.string s, .int .i64 c] w fun e w' => e = .returned (.string ⟨(Lib.repeatL s.data.toList c).toArray⟩) ∧ Below w.heap.size w w' := Any.strings_Repeat lays105 Builder_Extra_105 s c w hc hlen
open Go.RowKit Go.Lib in
theorem strings_ToLower_any (s : ByteArray) (w : World) (hs : s.size < 35184372088832) (hV : CaseVar 5 caseA w) (hT : Lib.Utf8Tabs 2 3 w) :
    Calls Tryz.prog 134 #[.string s] w fun e w' => e = .returned (.string ⟨(Lib.toLowerD s.data.toList).toArray⟩) ∧ Below w.heap.size w w' := Any.strings_ToLower_any lays159 Builder_Extra_159 s w hs hV hT
end
open Go.RowKit Go.Lib
theorem below_grew (w : World) (k : Nat) (os : Array Obj) : Below w.heap.size w (Go.Sort.grow (w.drewN k) os) :=
  ⟨rfl, rfl, rfl, by simp only [Go.Sort.grow, Array.size_append]; exact Nat.le_add_right _ _, fun j hj => by simp only [Go.Sort.grow]; exact Array.getElem?_append_left hj⟩
/-- a call that leaves alone what was there -/
theorem FnP_of {P : Program} {f : FuncId} {args : List Value} {H : Hp} {v : Value} (h : ∀ w, Mem H w → Glob w → Calls P f args.toArray w fun e w' => e = .returned v ∧ Below w.heap.size w w') : FnP P f args H v := by
  intro w hw
  refine (h w hw.mem hw.glob).mono ?_
  rintro e w' ⟨rfl, hb⟩
  refine ⟨v, H, [], rfl, ?_, rfl, rfl, rfl⟩
  exact Holds.frameH (I := []) (I' := []) (R := []) hw ⟨hb.os, hb.tape, hb.output, hb.size, fun k hk _ => hb.block k hk⟩ (Own.ok_nil _) Own.sep_nil (fun b hb => by cases hb)
/-- the library's tables lie in the persistent facts -/
def TabsH (H : Hp) : Prop := ∀ w, Mem H w → CaseVar 5 caseA w ∧ Lib.Utf8Tabs 2 3 w
theorem TabsH.mono {H H' : Hp} (h : TabsH H) (hl : HLe H H') : TabsH H' := fun w hw => h w fun b o v hv => hw b o v (hl b o v hv)
theorem mk_toList (l : List UInt8) : (⟨l.toArray⟩ : ByteArray).data.toList = l := by simp
theorem Itoa_fn {H : Hp} {n : Nat} (hn : n ≤ 9223372036854775807) : FnP Tryz.prog 71 [.int .i64 n] H (sv (decDigits n)) := FnP_of fun w _ hg => by
  refine (strconv_Itoa (n : Int) (by omega) (by omega) w hg.tab).mono ?_
  rintro e w' ⟨rfl, k, os, rfl⟩
  refine ⟨?_, below_grew w k os⟩
  have : itoa (n : Int) = decDigits n := by unfold itoa; rw [if_neg (by omega)]; simp
  rw [this]
theorem ToUpper_fn {H : Hp} {l : List UInt8} (hl : l.length ≤ 1000) (ha : ∀ b ∈ l, b.toNat < 128) : FnP Tryz.prog 112 [sv l] H (sv (upper l)) := FnP_of fun w _ _ => by
  refine (strings_ToUpper_ascii ⟨l.toArray⟩ w (by rw [bs_size]; omega) (fun j b hb => ha b (by rw [mk_toList] at hb; exact List.mem_of_getElem? hb))).mono ?_
  rintro e w' ⟨rfl, hb⟩
  refine ⟨?_, hb⟩
  rw [mk_toList]; rfl
theorem ToLower_fn {H : Hp} {l : List UInt8} (hl : l.length ≤ 1000) (ht : TabsH H) : FnP Tryz.prog 134 [sv l] H (sv (toLowerD l)) := FnP_of fun w hm _ => by
  refine (strings_ToLower_any ⟨l.toArray⟩ w (by rw [bs_size]; omega) (ht w hm).1 (ht w hm).2).mono ?_
  rintro e w' ⟨rfl, hb⟩
  refine ⟨?_, hb⟩
  rw [mk_toList]
theorem HasPrefix_fn {H : Hp} {l p : List UInt8} : FnP Tryz.prog 66 [sv l, sv p] H (.bool (p.isPrefixOf l)) := FnP_of fun w _ _ => by
  refine (strings_HasPrefix ⟨l.toArray⟩ ⟨p.toArray⟩ w).mono ?_
  rintro e w' ⟨rfl, hb⟩
  subst hb
  refine ⟨?_, Below.refl _ _⟩
  rw [mk_toList, mk_toList]; rfl
theorem Repeat_fn {H : Hp} {l : List UInt8} {c : Nat} (hc : c ≤ 1000000) (hl : l.length ≤ 1000) : FnP Tryz.prog 133 [sv l, .int .i64 c] H (sv (repeatL l c)) := FnP_of fun w _ _ => by
  refine (strings_Repeat ⟨l.toArray⟩ c w (by omega) (by rw [bs_size]; have := Nat.mul_le_mul hl hc; omega)).mono ?_
  rintro e w' ⟨rfl, hb⟩
  refine ⟨?_, hb⟩
  rw [mk_toList]
end Go.Proofs.YtaneeaojlkenmaaGreatDoor
