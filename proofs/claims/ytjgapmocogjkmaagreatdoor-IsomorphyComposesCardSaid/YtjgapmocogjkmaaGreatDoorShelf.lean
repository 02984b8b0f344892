/-
  DERIVED: THE SHELF's CONTRACTS AT THIS DUMP, IN PLAIN WORDS (tools/lay-plain.mjs out of 'TryzShelf.lean', which tools/lay-shelf.mjs wrote): THE SAME DECLARATIONS UNDER THE SAME NAMES: 'import', 'namespace', 'open', 'def', 'theorem' AND NOTHING ELSE: no command of the shelf's: FOR A HAND-IN. Each laying: the table of numbers ('.._ren') and one theorem, a field a fact of the dump's own or the kernel's comparison; each contract: ONE APPLICATION.
-/
import Derived.Shelf.Small.Wraps
import Derived.Shelf.Strconv.Atoi
import Derived.Shelf.Strconv.Itoa0
import Derived.Shelf.Strconv.Itoa1
import Derived.Shelf.LaysM
import Derived.Shelf.Strconv.Itoa2
import Derived.Shelf.Strconv.Itoa3
import Derived.Shelf.Strconv.AtoiErrFast
import Derived.Shelf.Strconv.ParseIntEmpty
import Derived.Shelf.Strconv.AtoiFail
import Derived.Shelf.Strconv.Clone
import Derived.Shelf.Strconv.SyntaxError
import Derived.Shelf.LaysC
import Derived.Shelf.Strconv.ToError
import Derived.Shelf.Strconv.Lower
import Derived.Shelf.Strconv.ParseUint10
import Derived.Shelf.Strconv.ParseUint10Empty
import Derived.Shelf.Strconv.ParseUint10Any
import Derived.Shelf.Strconv.ParseInt10
import Derived.Shelf.Strconv.AtoiLong
import Derived.Shelf.Strconv.AtoiInnerAll
import Derived.Shelf.Strconv.RangeError
import Derived.Shelf.Strconv.ToErrorRange
import Derived.Shelf.Strconv.AtoiAll
import Derived.Shelf.Strconv.ParseUintEmpty
import Derived.Shelf.Strconv.ParseUint10b64
import Derived.Shelf.Strconv.ParseUint10b32
import Derived.Shelf.Strconv.ParseUint10b16
import Derived.Shelf.Strconv.ParseUint10b8
import Derived.Shelf.Strconv.ParseUint10At
import Derived.Shelf.Strconv.ParseInt10At64
import Derived.Shelf.Strconv.ParseInt10At32
import Derived.Shelf.Strconv.ParseInt10At16
import Derived.Shelf.Strconv.ParseInt10At8
import Derived.Shelf.Strconv.ParseInt10All
import Derived.Shelf.Strconv.ParseIntPublic10
import Derived.Shelf.Bits.Mul64
import Derived.Test.YtjgapmocogjkmaaGreatDoorProg
namespace Go.Proofs
open Go.Shelf
def Tryz.lays215_ren : Go.Shelf.Ren := ⟨fun | 215 => 98 | n => n, fun | 3 => 3 | 4 => 4 | n => n, fun | n => n⟩
theorem Tryz.lays215 : Go.Proofs.Lays.n215 Tryz.prog Tryz.lays215_ren := {
  mixed := by kernel_rfl
  f215 := Tryz.func98.trans (congrArg some (by kernel_rfl))
  t3 := Tryz.underlying3
  a3 := Tryz.isAgg3
  z3 := Tryz.sizeOf3
  v3 := Tryz.zeroValue3
  t4 := Tryz.underlying4
  a4 := Tryz.isAgg4
  z4 := Tryz.sizeOf4
  v4 := Tryz.zeroValue4 }
open Go.RowKit in
/-- cmp.isNaN at int: 'x != x': false. (LAID: no walk: one application.) -/
theorem Tryz.cmp_isNaN_int (x : Int) (w : World) :
    Calls Tryz.prog 98 #[.int .i64 x] w fun e w' => e = .returned (.bool false) ∧ w' = w := Any.cmp_isNaN_int Tryz.lays215 x w
def Tryz.lays122_ren : Go.Shelf.Ren := ⟨fun | 122 => 74 | 215 => 98 | n => n, fun | 3 => 3 | 4 => 4 | n => n, fun | n => n⟩
theorem Tryz.lays122 : Go.Proofs.Lays.n122 Tryz.prog Tryz.lays122_ren := {
  mixed := by kernel_rfl
  f122 := Tryz.func74.trans (congrArg some (by kernel_rfl))
  f215 := Tryz.func98.trans (congrArg some (by kernel_rfl))
  t3 := Tryz.underlying3
  a3 := Tryz.isAgg3
  z3 := Tryz.sizeOf3
  v3 := Tryz.zeroValue3
  t4 := Tryz.underlying4
  a4 := Tryz.isAgg4
  z4 := Tryz.sizeOf4
  v4 := Tryz.zeroValue4 }
open Go.RowKit in
/-- cmp.Compare at int: "Compare returns -1 if x is less than y, 0 if x equals y, +1 if x is greater than y.": IT RETURNS 'Lib.compareInt x y'; the world is as it was. (LAID: no walk: one application.) -/
theorem Tryz.cmp_Compare_int (x y : Int) (w : World) :
    Calls Tryz.prog 74 #[.int .i64 x, .int .i64 y] w fun e w' => e = .returned (.int .i64 (Lib.compareInt x y)) ∧ w' = w := Any.cmp_Compare_int Tryz.lays122 x y w
def Tryz.lays244_ren : Go.Shelf.Ren := ⟨fun | 244 => 184 | 247 => 170 | 287 => 193 | 321 => 208 | 322 => 209 | n => n, fun | 9 => 9 | 3 => 3 | 75 => 192 | 4 => 4 | 5 => 5 | 167 => 267 | 37 => 187 | 0 => 0 | 85 => 213 | 2 => 2 | 53 => 162 | 175 => 268 | 46 => 125 | 21 => 21 | 80 => 195 | n => n, fun | n => n⟩
theorem Tryz.lays244 : Go.Proofs.Lays.n244 Tryz.prog Tryz.lays244_ren := {
  mixed := by kernel_rfl
  f244 := Tryz.func184.trans (congrArg some (by kernel_rfl))
  f247 := Tryz.func170.trans (congrArg some (by kernel_rfl))
  f287 := Tryz.func193.trans (congrArg some (by kernel_rfl))
  f321 := Tryz.func208.trans (congrArg some (by kernel_rfl))
  f322 := Tryz.func209.trans (congrArg some (by kernel_rfl))
  t0 := Tryz.underlying0
  a0 := Tryz.isAgg0
  z0 := Tryz.sizeOf0
  v0 := Tryz.zeroValue0
  t2 := Tryz.underlying2
  a2 := Tryz.isAgg2
  z2 := Tryz.sizeOf2
  v2 := Tryz.zeroValue2
  t3 := Tryz.underlying3
  a3 := Tryz.isAgg3
  z3 := Tryz.sizeOf3
  v3 := Tryz.zeroValue3
  t4 := Tryz.underlying4
  a4 := Tryz.isAgg4
  z4 := Tryz.sizeOf4
  v4 := Tryz.zeroValue4
  t5 := Tryz.underlying5
  a5 := Tryz.isAgg5
  z5 := Tryz.sizeOf5
  v5 := Tryz.zeroValue5
  t9 := Tryz.underlying9
  a9 := Tryz.isAgg9
  z9 := Tryz.sizeOf9
  v9 := Tryz.zeroValue9
  t21 := Tryz.underlying21
  a21 := Tryz.isAgg21
  z21 := Tryz.sizeOf21
  v21 := Tryz.zeroValue21
  t37 := Tryz.underlying187
  a37 := Tryz.isAgg187
  z37 := Tryz.sizeOf187
  v37 := Tryz.zeroValue187
  t46 := Tryz.underlying125
  a46 := Tryz.isAgg125
  z46 := Tryz.sizeOf125
  v46 := Tryz.zeroValue125
  t53 := Tryz.underlying162
  a53 := Tryz.isAgg162
  z53 := Tryz.sizeOf162
  v53 := Tryz.zeroValue162
  t75 := Tryz.underlying192
  a75 := Tryz.isAgg192
  z75 := Tryz.sizeOf192
  v75 := Tryz.zeroValue192
  t85 := Tryz.underlying213
  a85 := Tryz.isAgg213
  z85 := Tryz.sizeOf213
  v85 := Tryz.zeroValue213
  t167 := Tryz.underlying267
  a167 := Tryz.isAgg267
  z167 := Tryz.sizeOf267
  v167 := Tryz.zeroValue267
  t175 := Tryz.underlying268
  a175 := Tryz.isAgg268
  z175 := Tryz.sizeOf268
  v175 := Tryz.zeroValue268 }
open Go.RowKit in
/-- internal/strconv.Atoi, at a decimal numeral of at most 18 bytes: ITS VALUE, AND NO ERROR. The world behind the call: the one new row that '[]byte(s)' lays. (LAID: no walk: one application.) -/
theorem Tryz.internal_strconv_Atoi (s : ByteArray) (n : Int) (hl : s.size ≤ 18) (h : Lib.atoi s.data.toList = some n) (w : World) :
    Calls Tryz.prog 184 #[.string s] w fun e w' => e = .returned (.tuple #[.int .i64 n, .nilIface]) ∧ ∃ t, w' = Lib.bytesWorld w 5 t := Any.internal_strconv_Atoi Tryz.lays244 s n hl h w
def Tryz.lays172_ren : Go.Shelf.Ren := ⟨fun | 172 => 154 | 244 => 184 | 245 => 171 | 247 => 170 | 279 => 194 | 280 => 195 | 281 => 196 | 282 => 197 | 287 => 193 | 316 => 210 | 171 => 86 | 205 => 211 | 321 => 208 | 322 => 209 | 243 => 121 | 246 => 150 | 283 => 178 | 284 => 179 | 285 => 180 | 286 => 181 | 129 => 97 | 317 => 200 | 318 => 201 | 319 => 202 | 320 => 203 | 337 => 214 | 338 => 215 | n => n, fun | 9 => 9 | 3 => 3 | 75 => 192 | 76 => 193 | 4 => 4 | 5 => 5 | 167 => 267 | 37 => 187 | 0 => 0 | 85 => 213 | 2 => 2 | 168 => 270 | 53 => 162 | 175 => 268 | 46 => 125 | 210 => 282 | 127 => 222 | 145 => 286 | 143 => 284 | 21 => 21 | 171 => 252 | 173 => 254 | 212 => 275 | 51 => 160 | 20 => 20 | 213 => 276 | 232 => 287 | 233 => 288 | 80 => 195 | n => n, fun | 15 => 2 | 16 => 3 | 17 => 0 | 18 => 4 | 19 => 5 | n => n⟩
theorem Tryz.lays172 : Go.Proofs.Lays.n172 Tryz.prog Tryz.lays172_ren := {
  mixed := by kernel_rfl
  f129 := Tryz.func97.trans (congrArg some (by kernel_rfl))
  f171 := Tryz.func86.trans (congrArg some (by kernel_rfl))
  f172 := Tryz.func154.trans (congrArg some (by kernel_rfl))
  f205 := Tryz.func211.trans (congrArg some (by kernel_rfl))
  f243 := Tryz.func121.trans (congrArg some (by kernel_rfl))
  f244 := Tryz.func184.trans (congrArg some (by kernel_rfl))
  f245 := Tryz.func171.trans (congrArg some (by kernel_rfl))
  f246 := Tryz.func150.trans (congrArg some (by kernel_rfl))
  f247 := Tryz.func170.trans (congrArg some (by kernel_rfl))
  f279 := Tryz.func194.trans (congrArg some (by kernel_rfl))
  f280 := Tryz.func195.trans (congrArg some (by kernel_rfl))
  f281 := Tryz.func196.trans (congrArg some (by kernel_rfl))
  f282 := Tryz.func197.trans (congrArg some (by kernel_rfl))
  f283 := Tryz.func178.trans (congrArg some (by kernel_rfl))
  f284 := Tryz.func179.trans (congrArg some (by kernel_rfl))
  f285 := Tryz.func180.trans (congrArg some (by kernel_rfl))
  f286 := Tryz.func181.trans (congrArg some (by kernel_rfl))
  f287 := Tryz.func193.trans (congrArg some (by kernel_rfl))
  f316 := Tryz.func210.trans (congrArg some (by kernel_rfl))
  f317 := Tryz.func200.trans (congrArg some (by kernel_rfl))
  f318 := Tryz.func201.trans (congrArg some (by kernel_rfl))
  f319 := Tryz.func202.trans (congrArg some (by kernel_rfl))
  f320 := Tryz.func203.trans (congrArg some (by kernel_rfl))
  f321 := Tryz.func208.trans (congrArg some (by kernel_rfl))
  f322 := Tryz.func209.trans (congrArg some (by kernel_rfl))
  f337 := Tryz.func214.trans (congrArg some (by kernel_rfl))
  f338 := Tryz.func215.trans (congrArg some (by kernel_rfl))
  t0 := Tryz.underlying0
  a0 := Tryz.isAgg0
  z0 := Tryz.sizeOf0
  v0 := Tryz.zeroValue0
  t2 := Tryz.underlying2
  a2 := Tryz.isAgg2
  z2 := Tryz.sizeOf2
  v2 := Tryz.zeroValue2
  t3 := Tryz.underlying3
  a3 := Tryz.isAgg3
  z3 := Tryz.sizeOf3
  v3 := Tryz.zeroValue3
  t4 := Tryz.underlying4
  a4 := Tryz.isAgg4
  z4 := Tryz.sizeOf4
  v4 := Tryz.zeroValue4
  t5 := Tryz.underlying5
  a5 := Tryz.isAgg5
  z5 := Tryz.sizeOf5
  v5 := Tryz.zeroValue5
  t9 := Tryz.underlying9
  a9 := Tryz.isAgg9
  z9 := Tryz.sizeOf9
  v9 := Tryz.zeroValue9
  t20 := Tryz.underlying20
  a20 := Tryz.isAgg20
  z20 := Tryz.sizeOf20
  v20 := Tryz.zeroValue20
  t21 := Tryz.underlying21
  a21 := Tryz.isAgg21
  z21 := Tryz.sizeOf21
  v21 := Tryz.zeroValue21
  t37 := Tryz.underlying187
  a37 := Tryz.isAgg187
  z37 := Tryz.sizeOf187
  v37 := Tryz.zeroValue187
  t46 := Tryz.underlying125
  a46 := Tryz.isAgg125
  z46 := Tryz.sizeOf125
  v46 := Tryz.zeroValue125
  t51 := Tryz.underlying160
  a51 := Tryz.isAgg160
  z51 := Tryz.sizeOf160
  v51 := Tryz.zeroValue160
  t53 := Tryz.underlying162
  a53 := Tryz.isAgg162
  z53 := Tryz.sizeOf162
  v53 := Tryz.zeroValue162
  t75 := Tryz.underlying192
  a75 := Tryz.isAgg192
  z75 := Tryz.sizeOf192
  v75 := Tryz.zeroValue192
  t76 := Tryz.underlying193
  a76 := Tryz.isAgg193
  z76 := Tryz.sizeOf193
  v76 := Tryz.zeroValue193
  t85 := Tryz.underlying213
  a85 := Tryz.isAgg213
  z85 := Tryz.sizeOf213
  v85 := Tryz.zeroValue213
  t127 := Tryz.underlying222
  a127 := Tryz.isAgg222
  z127 := Tryz.sizeOf222
  v127 := Tryz.zeroValue222
  t143 := Tryz.underlying284
  a143 := Tryz.isAgg284
  z143 := Tryz.sizeOf284
  v143 := Tryz.zeroValue284
  t145 := Tryz.underlying286
  a145 := Tryz.isAgg286
  z145 := Tryz.sizeOf286
  v145 := Tryz.zeroValue286
  t167 := Tryz.underlying267
  a167 := Tryz.isAgg267
  z167 := Tryz.sizeOf267
  v167 := Tryz.zeroValue267
  t168 := Tryz.underlying270
  a168 := Tryz.isAgg270
  z168 := Tryz.sizeOf270
  v168 := Tryz.zeroValue270
  t171 := Tryz.underlying252
  a171 := Tryz.isAgg252
  z171 := Tryz.sizeOf252
  v171 := Tryz.zeroValue252
  t173 := Tryz.underlying254
  a173 := Tryz.isAgg254
  z173 := Tryz.sizeOf254
  v173 := Tryz.zeroValue254
  t175 := Tryz.underlying268
  a175 := Tryz.isAgg268
  z175 := Tryz.sizeOf268
  v175 := Tryz.zeroValue268
  t210 := Tryz.underlying282
  a210 := Tryz.isAgg282
  z210 := Tryz.sizeOf282
  v210 := Tryz.zeroValue282
  t212 := Tryz.underlying275
  a212 := Tryz.isAgg275
  z212 := Tryz.sizeOf275
  v212 := Tryz.zeroValue275
  t213 := Tryz.underlying276
  a213 := Tryz.isAgg276
  z213 := Tryz.sizeOf276
  t232 := Tryz.underlying287
  a232 := Tryz.isAgg287
  z232 := Tryz.sizeOf287
  v232 := Tryz.zeroValue287
  t233 := Tryz.underlying288
  a233 := Tryz.isAgg288
  z233 := Tryz.sizeOf288
  v233 := Tryz.zeroValue288
  g15 := by kernel_rfl
  g16 := by kernel_rfl
  g17 := by kernel_rfl
  g18 := by kernel_rfl
  g19 := by kernel_rfl }
open Go.RowKit in
/-- strconv.Atoi: "Atoi is equivalent to ParseInt(s, 10, 0), converted to type int.": AT A DECIMAL NUMERAL OF AT MOST 18 BYTES: its value, and a nil error. The world behind the call: the one new row that the library's '[]byte(s)' lays. (LAID: no walk: one application.) -/
theorem Tryz.strconv_Atoi (s : ByteArray) (n : Int) (hl : s.size ≤ 18) (h : Lib.atoi s.data.toList = some n) (w : World) :
    Calls Tryz.prog 154 #[.string s] w fun e w' => e = .returned (.tuple #[.int .i64 n, .nilIface]) ∧ ∃ t, w' = Lib.bytesWorld w 5 t := Any.strconv_Atoi Tryz.lays172 s n hl h w
def Tryz.lays129_ren : Go.Shelf.Ren := ⟨fun | 129 => 97 | n => n, fun | 53 => 162 | 3 => 3 | 4 => 4 | 46 => 125 | 5 => 5 | 9 => 9 | n => n, fun | n => n⟩
theorem Tryz.lays129 : Go.Proofs.Lays.n129 Tryz.prog Tryz.lays129_ren := {
  mixed := by kernel_rfl
  f129 := Tryz.func97.trans (congrArg some (by kernel_rfl))
  t3 := Tryz.underlying3
  a3 := Tryz.isAgg3
  z3 := Tryz.sizeOf3
  v3 := Tryz.zeroValue3
  t4 := Tryz.underlying4
  a4 := Tryz.isAgg4
  z4 := Tryz.sizeOf4
  v4 := Tryz.zeroValue4
  t5 := Tryz.underlying5
  a5 := Tryz.isAgg5
  z5 := Tryz.sizeOf5
  v5 := Tryz.zeroValue5
  t9 := Tryz.underlying9
  a9 := Tryz.isAgg9
  z9 := Tryz.sizeOf9
  v9 := Tryz.zeroValue9
  t46 := Tryz.underlying125
  a46 := Tryz.isAgg125
  z46 := Tryz.sizeOf125
  v46 := Tryz.zeroValue125
  t53 := Tryz.underlying162
  a53 := Tryz.isAgg162
  z53 := Tryz.sizeOf162
  v53 := Tryz.zeroValue162 }
/-- bits.Len64: "Len64 returns the minimum number of bits required to represent x; the result is 0 for x == 0.": IT RETURNS 'Lib.bitLen x'; the world is as it was. ('h0', 'h1': x is a uint64.) (LAID: no walk: one application.) -/
theorem Tryz.bits_Len64 (x : Int) (w : World) (h0 : 0 ≤ x) (h1 : x ≤ 18446744073709551615) :
    Calls Tryz.prog 97 #[.int .u64 x] w fun e w' => e = .returned (.int .i64 (Lib.bitLen x.toNat)) ∧ w' = w := Any.bits_Len64 Tryz.lays129 x w h0 h1
def Tryz.lays317_ren : Go.Shelf.Ren := ⟨fun | 317 => 200 | n => n, fun | 3 => 3 | 46 => 125 | n => n, fun | n => n⟩
theorem Tryz.lays317 : Go.Proofs.Lays.n317 Tryz.prog Tryz.lays317_ren := {
  mixed := by kernel_rfl
  f317 := Tryz.func200.trans (congrArg some (by kernel_rfl))
  t3 := Tryz.underlying3
  a3 := Tryz.isAgg3
  z3 := Tryz.sizeOf3
  v3 := Tryz.zeroValue3
  t46 := Tryz.underlying125
  a46 := Tryz.isAgg125
  z46 := Tryz.sizeOf125
  v46 := Tryz.zeroValue125 }
open Go.Lib in
/-- internal/strconv.log10Pow2: "log10Pow2(x) returns ⌊log₁₀ 2**x⌋ = ⌊x * log₁₀ 2⌋.": '(x * 78913) >> 18', at an x up to 64 (a length in bits). The world is as it was. (LAID: no walk: one application.) -/
theorem Tryz.internal_strconv_log10Pow2 (x : Nat) (h : x ≤ 64) (w : World) :
    Calls Tryz.prog 200 #[.int .i64 x] w fun e w' => e = .returned (.int .i64 (Lib.l10 x)) ∧ w' = w := Any.internal_strconv_log10Pow2 Tryz.lays317 x h w
def Tryz.lays318_ren : Go.Shelf.Ren := ⟨fun | 318 => 201 | n => n, fun | 3 => 3 | 4 => 4 | n => n, fun | n => n⟩
theorem Tryz.lays318 : Go.Proofs.Lays.n318 Tryz.prog Tryz.lays318_ren := {
  mixed := by kernel_rfl
  f318 := Tryz.func201.trans (congrArg some (by kernel_rfl))
  t3 := Tryz.underlying3
  a3 := Tryz.isAgg3
  z3 := Tryz.sizeOf3
  v3 := Tryz.zeroValue3
  t4 := Tryz.underlying4
  a4 := Tryz.isAgg4
  z4 := Tryz.sizeOf4
  v4 := Tryz.zeroValue4 }
open Go.Lib in
/-- internal/strconv.bool2: "bool2 converts b to an integer: 1 for true, 0 for false." The world is as it was. (LAID: no walk: one application.) -/
theorem Tryz.internal_strconv_bool2_int (b : Bool) (w : World) :
    Calls Tryz.prog 201 #[.bool b] w fun e w' => e = .returned (.int .i64 (if b then 1 else 0)) ∧ w' = w := Any.internal_strconv_bool2_int Tryz.lays318 b w
def Tryz.lays283_ren : Go.Shelf.Ren := ⟨fun | 283 => 178 | n => n, fun | 3 => 3 | 9 => 9 | 4 => 4 | n => n, fun | n => n⟩
theorem Tryz.lays283 : Go.Proofs.Lays.n283 Tryz.prog Tryz.lays283_ren := {
  mixed := by kernel_rfl
  f283 := Tryz.func178.trans (congrArg some (by kernel_rfl))
  t3 := Tryz.underlying3
  a3 := Tryz.isAgg3
  z3 := Tryz.sizeOf3
  v3 := Tryz.zeroValue3
  t4 := Tryz.underlying4
  a4 := Tryz.isAgg4
  z4 := Tryz.sizeOf4
  v4 := Tryz.zeroValue4
  t9 := Tryz.underlying9
  a9 := Tryz.isAgg9
  z9 := Tryz.sizeOf9
  v9 := Tryz.zeroValue9 }
open Go.Lib in
/-- internal/strconv.small: "small returns the string for an i with 0 <= i < nSmalls.": i's decimal numeral. The world is as it was. (LAID: no walk: one application.) -/
theorem Tryz.internal_strconv_small (i : Nat) (h : i < 100) (w : World) :
    Calls Tryz.prog 178 #[.int .i64 i] w fun e w' => e = .returned (.string ⟨(Lib.decDigits i).toArray⟩) ∧ w' = w := Any.internal_strconv_small Tryz.lays283 i h w
def Tryz.laysM284_ren : Go.Shelf.Ren := ⟨fun | 284 => 179 | 129 => 97 | 317 => 200 | 318 => 201 | n => n, fun | 53 => 162 | 3 => 3 | 212 => 275 | 0 => 0 | 4 => 4 | 46 => 125 | 5 => 5 | 9 => 9 | n => n, fun | 17 => 0 | n => n⟩
theorem Tryz.laysM284 : Go.Proofs.LaysM.n284 Tryz.prog Tryz.laysM284_ren := {
  mixed := by kernel_rfl
  f129 := Tryz.func97.trans (congrArg some (by kernel_rfl))
  f284 := Tryz.func179.trans (congrArg some (by kernel_rfl))
  f317 := Tryz.func200.trans (congrArg some (by kernel_rfl))
  f318 := Tryz.func201.trans (congrArg some (by kernel_rfl))
  t0 := Tryz.underlying0
  a0 := Tryz.isAgg0
  z0 := Tryz.sizeOf0
  v0 := Tryz.zeroValue0
  t3 := Tryz.underlying3
  a3 := Tryz.isAgg3
  z3 := Tryz.sizeOf3
  v3 := Tryz.zeroValue3
  t4 := Tryz.underlying4
  a4 := Tryz.isAgg4
  z4 := Tryz.sizeOf4
  v4 := Tryz.zeroValue4
  t5 := Tryz.underlying5
  a5 := Tryz.isAgg5
  z5 := Tryz.sizeOf5
  v5 := Tryz.zeroValue5
  t9 := Tryz.underlying9
  a9 := Tryz.isAgg9
  z9 := Tryz.sizeOf9
  v9 := Tryz.zeroValue9
  t46 := Tryz.underlying125
  a46 := Tryz.isAgg125
  z46 := Tryz.sizeOf125
  v46 := Tryz.zeroValue125
  t53 := Tryz.underlying162
  a53 := Tryz.isAgg162
  z53 := Tryz.sizeOf162
  v53 := Tryz.zeroValue162
  t212 := Tryz.underlying275
  a212 := Tryz.isAgg275
  z212 := Tryz.sizeOf275
  v212 := Tryz.zeroValue275
  g17 := by kernel_rfl
  i0 := by kernel_rfl
  i3 := by kernel_rfl
  i4 := by kernel_rfl
  i5 := by kernel_rfl
  i9 := by kernel_rfl
  i46 := by kernel_rfl
  i53 := by kernel_rfl
  i212 := by kernel_rfl
  m17 := by kernel_rfl }
open Go.Lib in
/-- internal/strconv.numDigits, at a d that is not 0: THE NUMBER OF d's DECIMAL DIGITS. The world is as it was. (LAID: no walk: one application.) -/
theorem Tryz.internal_strconv_numDigits (u : Nat) (h1 : 1 ≤ u) (h2 : u < 18446744073709551616) (w : World) (htab : Lib.TabIs Tryz.prog w "internal/strconv.uint64pow10" .u64 Lib.pow10Tab) :
    Calls Tryz.prog 179 #[.int .u64 u] w fun e w' => e = .returned (.int .i64 (Lib.nDigits u)) ∧ w' = w := Any.internal_strconv_numDigits Tryz.laysM284 u h1 h2 w htab
def Tryz.lays285_ren : Go.Shelf.Ren := ⟨fun | 285 => 180 | n => n, fun | 37 => 187 | 53 => 162 | 3 => 3 | 4 => 4 | 51 => 160 | 9 => 9 | 5 => 5 | 0 => 0 | n => n, fun | n => n⟩
theorem Tryz.lays285 : Go.Proofs.Lays.n285 Tryz.prog Tryz.lays285_ren := {
  mixed := by kernel_rfl
  f285 := Tryz.func180.trans (congrArg some (by kernel_rfl))
  t0 := Tryz.underlying0
  a0 := Tryz.isAgg0
  z0 := Tryz.sizeOf0
  v0 := Tryz.zeroValue0
  t3 := Tryz.underlying3
  a3 := Tryz.isAgg3
  z3 := Tryz.sizeOf3
  v3 := Tryz.zeroValue3
  t4 := Tryz.underlying4
  a4 := Tryz.isAgg4
  z4 := Tryz.sizeOf4
  v4 := Tryz.zeroValue4
  t5 := Tryz.underlying5
  a5 := Tryz.isAgg5
  z5 := Tryz.sizeOf5
  v5 := Tryz.zeroValue5
  t9 := Tryz.underlying9
  a9 := Tryz.isAgg9
  z9 := Tryz.sizeOf9
  v9 := Tryz.zeroValue9
  t37 := Tryz.underlying187
  a37 := Tryz.isAgg187
  z37 := Tryz.sizeOf187
  v37 := Tryz.zeroValue187
  t51 := Tryz.underlying160
  a51 := Tryz.isAgg160
  z51 := Tryz.sizeOf160
  v51 := Tryz.zeroValue160
  t53 := Tryz.underlying162
  a53 := Tryz.isAgg162
  z53 := Tryz.sizeOf162
  v53 := Tryz.zeroValue162 }
open Go.RowKit Go.Sort Go.Lib in
/-- internal/strconv.formatBase10: "formatBase10 formats the decimal representation of u into a. The caller is responsible for ensuring that a is big enough to hold u. If a is too big, leading zeros will be filled in as needed.": THE ROW HOLDS u's DIGITS ('FmtInv .. 0 ..': every place t holds 'dg u (len - 1 - t)'); all else is as it was but for the count of draws. (LAID: no walk: one application.) -/
theorem Tryz.internal_strconv_formatBase10 (blk off cap : Nat) (u : Nat) (d : Array UInt8) (w : World) (hH : Holds (fun (b : UInt8) => Value.int .u8 (b.toNat : Int)) w blk off d) (hu : u < 10 ^ d.size) (hu64 : u < 18446744073709551616) (hsz : d.size < 4611686018427387904) :
    Calls Tryz.prog 180 #[.slice (some ⟨blk, off, none⟩) d.size cap, .int .u64 u] w fun e w' =>
      e = .returned (.tuple #[]) ∧ ∃ (n v' : Nat) (dk : Array UInt8), w' = (putRow (fun (b : UInt8) => Value.int .u8 (b.toNat : Int)) w blk off dk).drewN n ∧ FmtInv d.size u 0 v' dk := Any.internal_strconv_formatBase10 Tryz.lays285 blk off cap u d w hH hu hu64 hsz
def Tryz.laysM246_ren : Go.Shelf.Ren := ⟨fun | 246 => 150 | 283 => 178 | 284 => 179 | 285 => 180 | 286 => 181 | 129 => 97 | 317 => 200 | 318 => 201 | 319 => 202 | 320 => 203 | 337 => 214 | 338 => 215 | n => n, fun | 2 => 2 | 3 => 3 | 9 => 9 | 4 => 4 | 171 => 252 | 0 => 0 | 53 => 162 | 37 => 187 | 5 => 5 | 173 => 254 | 212 => 275 | 51 => 160 | 20 => 20 | 213 => 276 | 46 => 125 | 232 => 287 | 233 => 288 | n => n, fun | 17 => 0 | 18 => 4 | 19 => 5 | n => n⟩
theorem Tryz.laysM246 : Go.Proofs.LaysM.n246 Tryz.prog Tryz.laysM246_ren := {
  mixed := by kernel_rfl
  f129 := Tryz.func97.trans (congrArg some (by kernel_rfl))
  f246 := Tryz.func150.trans (congrArg some (by kernel_rfl))
  f283 := Tryz.func178.trans (congrArg some (by kernel_rfl))
  f284 := Tryz.func179.trans (congrArg some (by kernel_rfl))
  f285 := Tryz.func180.trans (congrArg some (by kernel_rfl))
  f286 := Tryz.func181.trans (congrArg some (by kernel_rfl))
  f317 := Tryz.func200.trans (congrArg some (by kernel_rfl))
  f318 := Tryz.func201.trans (congrArg some (by kernel_rfl))
  f319 := Tryz.func202.trans (congrArg some (by kernel_rfl))
  f320 := Tryz.func203.trans (congrArg some (by kernel_rfl))
  f337 := Tryz.func214.trans (congrArg some (by kernel_rfl))
  f338 := Tryz.func215.trans (congrArg some (by kernel_rfl))
  t0 := Tryz.underlying0
  a0 := Tryz.isAgg0
  z0 := Tryz.sizeOf0
  v0 := Tryz.zeroValue0
  t2 := Tryz.underlying2
  a2 := Tryz.isAgg2
  z2 := Tryz.sizeOf2
  v2 := Tryz.zeroValue2
  t3 := Tryz.underlying3
  a3 := Tryz.isAgg3
  z3 := Tryz.sizeOf3
  v3 := Tryz.zeroValue3
  t4 := Tryz.underlying4
  a4 := Tryz.isAgg4
  z4 := Tryz.sizeOf4
  v4 := Tryz.zeroValue4
  t5 := Tryz.underlying5
  a5 := Tryz.isAgg5
  z5 := Tryz.sizeOf5
  v5 := Tryz.zeroValue5
  t9 := Tryz.underlying9
  a9 := Tryz.isAgg9
  z9 := Tryz.sizeOf9
  v9 := Tryz.zeroValue9
  t20 := Tryz.underlying20
  a20 := Tryz.isAgg20
  z20 := Tryz.sizeOf20
  v20 := Tryz.zeroValue20
  t37 := Tryz.underlying187
  a37 := Tryz.isAgg187
  z37 := Tryz.sizeOf187
  v37 := Tryz.zeroValue187
  t46 := Tryz.underlying125
  a46 := Tryz.isAgg125
  z46 := Tryz.sizeOf125
  v46 := Tryz.zeroValue125
  t51 := Tryz.underlying160
  a51 := Tryz.isAgg160
  z51 := Tryz.sizeOf160
  v51 := Tryz.zeroValue160
  t53 := Tryz.underlying162
  a53 := Tryz.isAgg162
  z53 := Tryz.sizeOf162
  v53 := Tryz.zeroValue162
  t171 := Tryz.underlying252
  a171 := Tryz.isAgg252
  z171 := Tryz.sizeOf252
  v171 := Tryz.zeroValue252
  t173 := Tryz.underlying254
  a173 := Tryz.isAgg254
  z173 := Tryz.sizeOf254
  v173 := Tryz.zeroValue254
  t212 := Tryz.underlying275
  a212 := Tryz.isAgg275
  z212 := Tryz.sizeOf275
  v212 := Tryz.zeroValue275
  t213 := Tryz.underlying276
  a213 := Tryz.isAgg276
  z213 := Tryz.sizeOf276
  t232 := Tryz.underlying287
  a232 := Tryz.isAgg287
  z232 := Tryz.sizeOf287
  v232 := Tryz.zeroValue287
  t233 := Tryz.underlying288
  a233 := Tryz.isAgg288
  z233 := Tryz.sizeOf288
  v233 := Tryz.zeroValue288
  g17 := by kernel_rfl
  g18 := by kernel_rfl
  g19 := by kernel_rfl
  i0 := by kernel_rfl
  i2 := by kernel_rfl
  i3 := by kernel_rfl
  i4 := by kernel_rfl
  i5 := by kernel_rfl
  i9 := by kernel_rfl
  i20 := by kernel_rfl
  i37 := by kernel_rfl
  i46 := by kernel_rfl
  i51 := by kernel_rfl
  i53 := by kernel_rfl
  i171 := by kernel_rfl
  i173 := by kernel_rfl
  i212 := by kernel_rfl
  i232 := by kernel_rfl
  i233 := by kernel_rfl
  m17 := by kernel_rfl
  m18 := by kernel_rfl
  m19 := by kernel_rfl }
open Go.RowKit Go.Sort Go.Lib in
/-- internal/strconv.FormatInt: "FormatInt returns the string representation of i in the given base": AT BASE 10: i's decimal numeral, for every int64. The world behind the call: the world before it, new blocks behind the heap, draws. (LAID: no walk: one application.) -/
theorem Tryz.internal_strconv_FormatInt_10 (n : Int) (h0 : -9223372036854775808 ≤ n) (h1 : n ≤ 9223372036854775807) (w : World) (htab : Lib.TabIs Tryz.prog w "internal/strconv.uint64pow10" .u64 Lib.pow10Tab) :
    Calls Tryz.prog 150 #[.int .i64 n, .int .i64 10] w fun e w' => e = .returned (.string ⟨(Lib.itoa n).toArray⟩) ∧ ∃ k os, w' = grow (w.drewN k) os := Any.internal_strconv_FormatInt_10 Tryz.laysM246 n h0 h1 w htab
def Tryz.lays246_ren : Go.Shelf.Ren := ⟨fun | 246 => 150 | 283 => 178 | 284 => 179 | 285 => 180 | 286 => 181 | 129 => 97 | 317 => 200 | 318 => 201 | 319 => 202 | 320 => 203 | 337 => 214 | 338 => 215 | n => n, fun | 2 => 2 | 3 => 3 | 9 => 9 | 4 => 4 | 171 => 252 | 0 => 0 | 53 => 162 | 37 => 187 | 5 => 5 | 173 => 254 | 212 => 275 | 51 => 160 | 20 => 20 | 213 => 276 | 46 => 125 | 232 => 287 | 233 => 288 | n => n, fun | 17 => 0 | 18 => 4 | 19 => 5 | n => n⟩
theorem Tryz.lays246 : Go.Proofs.Lays.n246 Tryz.prog Tryz.lays246_ren := {
  mixed := by kernel_rfl
  f129 := Tryz.func97.trans (congrArg some (by kernel_rfl))
  f246 := Tryz.func150.trans (congrArg some (by kernel_rfl))
  f283 := Tryz.func178.trans (congrArg some (by kernel_rfl))
  f284 := Tryz.func179.trans (congrArg some (by kernel_rfl))
  f285 := Tryz.func180.trans (congrArg some (by kernel_rfl))
  f286 := Tryz.func181.trans (congrArg some (by kernel_rfl))
  f317 := Tryz.func200.trans (congrArg some (by kernel_rfl))
  f318 := Tryz.func201.trans (congrArg some (by kernel_rfl))
  f319 := Tryz.func202.trans (congrArg some (by kernel_rfl))
  f320 := Tryz.func203.trans (congrArg some (by kernel_rfl))
  f337 := Tryz.func214.trans (congrArg some (by kernel_rfl))
  f338 := Tryz.func215.trans (congrArg some (by kernel_rfl))
  t0 := Tryz.underlying0
  a0 := Tryz.isAgg0
  z0 := Tryz.sizeOf0
  v0 := Tryz.zeroValue0
  t2 := Tryz.underlying2
  a2 := Tryz.isAgg2
  z2 := Tryz.sizeOf2
  v2 := Tryz.zeroValue2
  t3 := Tryz.underlying3
  a3 := Tryz.isAgg3
  z3 := Tryz.sizeOf3
  v3 := Tryz.zeroValue3
  t4 := Tryz.underlying4
  a4 := Tryz.isAgg4
  z4 := Tryz.sizeOf4
  v4 := Tryz.zeroValue4
  t5 := Tryz.underlying5
  a5 := Tryz.isAgg5
  z5 := Tryz.sizeOf5
  v5 := Tryz.zeroValue5
  t9 := Tryz.underlying9
  a9 := Tryz.isAgg9
  z9 := Tryz.sizeOf9
  v9 := Tryz.zeroValue9
  t20 := Tryz.underlying20
  a20 := Tryz.isAgg20
  z20 := Tryz.sizeOf20
  v20 := Tryz.zeroValue20
  t37 := Tryz.underlying187
  a37 := Tryz.isAgg187
  z37 := Tryz.sizeOf187
  v37 := Tryz.zeroValue187
  t46 := Tryz.underlying125
  a46 := Tryz.isAgg125
  z46 := Tryz.sizeOf125
  v46 := Tryz.zeroValue125
  t51 := Tryz.underlying160
  a51 := Tryz.isAgg160
  z51 := Tryz.sizeOf160
  v51 := Tryz.zeroValue160
  t53 := Tryz.underlying162
  a53 := Tryz.isAgg162
  z53 := Tryz.sizeOf162
  v53 := Tryz.zeroValue162
  t171 := Tryz.underlying252
  a171 := Tryz.isAgg252
  z171 := Tryz.sizeOf252
  v171 := Tryz.zeroValue252
  t173 := Tryz.underlying254
  a173 := Tryz.isAgg254
  z173 := Tryz.sizeOf254
  v173 := Tryz.zeroValue254
  t212 := Tryz.underlying275
  a212 := Tryz.isAgg275
  z212 := Tryz.sizeOf275
  v212 := Tryz.zeroValue275
  t213 := Tryz.underlying276
  a213 := Tryz.isAgg276
  z213 := Tryz.sizeOf276
  t232 := Tryz.underlying287
  a232 := Tryz.isAgg287
  z232 := Tryz.sizeOf287
  v232 := Tryz.zeroValue287
  t233 := Tryz.underlying288
  a233 := Tryz.isAgg288
  z233 := Tryz.sizeOf288
  v233 := Tryz.zeroValue288
  g17 := by kernel_rfl
  g18 := by kernel_rfl
  g19 := by kernel_rfl }
open Go.RowKit Go.Sort Go.Lib in
/-- THE ROAD WITHOUT THE TABLE: 0 <= i < 100: two constants are read, nothing is laid: no premise on the world, and the world is as it was. (LAID: no walk: one application.) -/
theorem Tryz.internal_strconv_FormatInt_10_small (i : Nat) (hi : i < 100) (w : World) :
    Calls Tryz.prog 150 #[.int .i64 i, .int .i64 10] w fun e w' => e = .returned (.string ⟨(Lib.decDigits i).toArray⟩) ∧ w' = w := Any.internal_strconv_FormatInt_10_small Tryz.lays246 i hi w
def Tryz.laysM243_ren : Go.Shelf.Ren := ⟨fun | 243 => 121 | 246 => 150 | 283 => 178 | 284 => 179 | 285 => 180 | 286 => 181 | 129 => 97 | 317 => 200 | 318 => 201 | 319 => 202 | 320 => 203 | 337 => 214 | 338 => 215 | n => n, fun | 3 => 3 | 9 => 9 | 2 => 2 | 4 => 4 | 171 => 252 | 0 => 0 | 53 => 162 | 37 => 187 | 5 => 5 | 173 => 254 | 212 => 275 | 51 => 160 | 20 => 20 | 213 => 276 | 46 => 125 | 232 => 287 | 233 => 288 | n => n, fun | 17 => 0 | 18 => 4 | 19 => 5 | n => n⟩
theorem Tryz.laysM243 : Go.Proofs.LaysM.n243 Tryz.prog Tryz.laysM243_ren := {
  mixed := by kernel_rfl
  f129 := Tryz.func97.trans (congrArg some (by kernel_rfl))
  f243 := Tryz.func121.trans (congrArg some (by kernel_rfl))
  f246 := Tryz.func150.trans (congrArg some (by kernel_rfl))
  f283 := Tryz.func178.trans (congrArg some (by kernel_rfl))
  f284 := Tryz.func179.trans (congrArg some (by kernel_rfl))
  f285 := Tryz.func180.trans (congrArg some (by kernel_rfl))
  f286 := Tryz.func181.trans (congrArg some (by kernel_rfl))
  f317 := Tryz.func200.trans (congrArg some (by kernel_rfl))
  f318 := Tryz.func201.trans (congrArg some (by kernel_rfl))
  f319 := Tryz.func202.trans (congrArg some (by kernel_rfl))
  f320 := Tryz.func203.trans (congrArg some (by kernel_rfl))
  f337 := Tryz.func214.trans (congrArg some (by kernel_rfl))
  f338 := Tryz.func215.trans (congrArg some (by kernel_rfl))
  t0 := Tryz.underlying0
  a0 := Tryz.isAgg0
  z0 := Tryz.sizeOf0
  v0 := Tryz.zeroValue0
  t2 := Tryz.underlying2
  a2 := Tryz.isAgg2
  z2 := Tryz.sizeOf2
  v2 := Tryz.zeroValue2
  t3 := Tryz.underlying3
  a3 := Tryz.isAgg3
  z3 := Tryz.sizeOf3
  v3 := Tryz.zeroValue3
  t4 := Tryz.underlying4
  a4 := Tryz.isAgg4
  z4 := Tryz.sizeOf4
  v4 := Tryz.zeroValue4
  t5 := Tryz.underlying5
  a5 := Tryz.isAgg5
  z5 := Tryz.sizeOf5
  v5 := Tryz.zeroValue5
  t9 := Tryz.underlying9
  a9 := Tryz.isAgg9
  z9 := Tryz.sizeOf9
  v9 := Tryz.zeroValue9
  t20 := Tryz.underlying20
  a20 := Tryz.isAgg20
  z20 := Tryz.sizeOf20
  v20 := Tryz.zeroValue20
  t37 := Tryz.underlying187
  a37 := Tryz.isAgg187
  z37 := Tryz.sizeOf187
  v37 := Tryz.zeroValue187
  t46 := Tryz.underlying125
  a46 := Tryz.isAgg125
  z46 := Tryz.sizeOf125
  v46 := Tryz.zeroValue125
  t51 := Tryz.underlying160
  a51 := Tryz.isAgg160
  z51 := Tryz.sizeOf160
  v51 := Tryz.zeroValue160
  t53 := Tryz.underlying162
  a53 := Tryz.isAgg162
  z53 := Tryz.sizeOf162
  v53 := Tryz.zeroValue162
  t171 := Tryz.underlying252
  a171 := Tryz.isAgg252
  z171 := Tryz.sizeOf252
  v171 := Tryz.zeroValue252
  t173 := Tryz.underlying254
  a173 := Tryz.isAgg254
  z173 := Tryz.sizeOf254
  v173 := Tryz.zeroValue254
  t212 := Tryz.underlying275
  a212 := Tryz.isAgg275
  z212 := Tryz.sizeOf275
  v212 := Tryz.zeroValue275
  t213 := Tryz.underlying276
  a213 := Tryz.isAgg276
  z213 := Tryz.sizeOf276
  t232 := Tryz.underlying287
  a232 := Tryz.isAgg287
  z232 := Tryz.sizeOf287
  v232 := Tryz.zeroValue287
  t233 := Tryz.underlying288
  a233 := Tryz.isAgg288
  z233 := Tryz.sizeOf288
  v233 := Tryz.zeroValue288
  g17 := by kernel_rfl
  g18 := by kernel_rfl
  g19 := by kernel_rfl
  i0 := by kernel_rfl
  i2 := by kernel_rfl
  i3 := by kernel_rfl
  i4 := by kernel_rfl
  i5 := by kernel_rfl
  i9 := by kernel_rfl
  i20 := by kernel_rfl
  i37 := by kernel_rfl
  i46 := by kernel_rfl
  i51 := by kernel_rfl
  i53 := by kernel_rfl
  i171 := by kernel_rfl
  i173 := by kernel_rfl
  i212 := by kernel_rfl
  i232 := by kernel_rfl
  i233 := by kernel_rfl
  m17 := by kernel_rfl
  m18 := by kernel_rfl
  m19 := by kernel_rfl }
open Go.RowKit Go.Sort Go.Lib in
/-- internal/strconv.Itoa: "Itoa is equivalent to FormatInt(int64(i), 10).": i's decimal numeral, for every int. (LAID: no walk: one application.) -/
theorem Tryz.internal_strconv_Itoa (n : Int) (h0 : -9223372036854775808 ≤ n) (h1 : n ≤ 9223372036854775807) (w : World) (htab : Lib.TabIs Tryz.prog w "internal/strconv.uint64pow10" .u64 Lib.pow10Tab) :
    Calls Tryz.prog 121 #[.int .i64 n] w fun e w' => e = .returned (.string ⟨(Lib.itoa n).toArray⟩) ∧ ∃ k os, w' = grow (w.drewN k) os := Any.internal_strconv_Itoa Tryz.laysM243 n h0 h1 w htab
def Tryz.lays243_ren : Go.Shelf.Ren := ⟨fun | 243 => 121 | 246 => 150 | 283 => 178 | 284 => 179 | 285 => 180 | 286 => 181 | 129 => 97 | 317 => 200 | 318 => 201 | 319 => 202 | 320 => 203 | 337 => 214 | 338 => 215 | n => n, fun | 3 => 3 | 9 => 9 | 2 => 2 | 4 => 4 | 171 => 252 | 0 => 0 | 53 => 162 | 37 => 187 | 5 => 5 | 173 => 254 | 212 => 275 | 51 => 160 | 20 => 20 | 213 => 276 | 46 => 125 | 232 => 287 | 233 => 288 | n => n, fun | 17 => 0 | 18 => 4 | 19 => 5 | n => n⟩
theorem Tryz.lays243 : Go.Proofs.Lays.n243 Tryz.prog Tryz.lays243_ren := {
  mixed := by kernel_rfl
  f129 := Tryz.func97.trans (congrArg some (by kernel_rfl))
  f243 := Tryz.func121.trans (congrArg some (by kernel_rfl))
  f246 := Tryz.func150.trans (congrArg some (by kernel_rfl))
  f283 := Tryz.func178.trans (congrArg some (by kernel_rfl))
  f284 := Tryz.func179.trans (congrArg some (by kernel_rfl))
  f285 := Tryz.func180.trans (congrArg some (by kernel_rfl))
  f286 := Tryz.func181.trans (congrArg some (by kernel_rfl))
  f317 := Tryz.func200.trans (congrArg some (by kernel_rfl))
  f318 := Tryz.func201.trans (congrArg some (by kernel_rfl))
  f319 := Tryz.func202.trans (congrArg some (by kernel_rfl))
  f320 := Tryz.func203.trans (congrArg some (by kernel_rfl))
  f337 := Tryz.func214.trans (congrArg some (by kernel_rfl))
  f338 := Tryz.func215.trans (congrArg some (by kernel_rfl))
  t0 := Tryz.underlying0
  a0 := Tryz.isAgg0
  z0 := Tryz.sizeOf0
  v0 := Tryz.zeroValue0
  t2 := Tryz.underlying2
  a2 := Tryz.isAgg2
  z2 := Tryz.sizeOf2
  v2 := Tryz.zeroValue2
  t3 := Tryz.underlying3
  a3 := Tryz.isAgg3
  z3 := Tryz.sizeOf3
  v3 := Tryz.zeroValue3
  t4 := Tryz.underlying4
  a4 := Tryz.isAgg4
  z4 := Tryz.sizeOf4
  v4 := Tryz.zeroValue4
  t5 := Tryz.underlying5
  a5 := Tryz.isAgg5
  z5 := Tryz.sizeOf5
  v5 := Tryz.zeroValue5
  t9 := Tryz.underlying9
  a9 := Tryz.isAgg9
  z9 := Tryz.sizeOf9
  v9 := Tryz.zeroValue9
  t20 := Tryz.underlying20
  a20 := Tryz.isAgg20
  z20 := Tryz.sizeOf20
  v20 := Tryz.zeroValue20
  t37 := Tryz.underlying187
  a37 := Tryz.isAgg187
  z37 := Tryz.sizeOf187
  v37 := Tryz.zeroValue187
  t46 := Tryz.underlying125
  a46 := Tryz.isAgg125
  z46 := Tryz.sizeOf125
  v46 := Tryz.zeroValue125
  t51 := Tryz.underlying160
  a51 := Tryz.isAgg160
  z51 := Tryz.sizeOf160
  v51 := Tryz.zeroValue160
  t53 := Tryz.underlying162
  a53 := Tryz.isAgg162
  z53 := Tryz.sizeOf162
  v53 := Tryz.zeroValue162
  t171 := Tryz.underlying252
  a171 := Tryz.isAgg252
  z171 := Tryz.sizeOf252
  v171 := Tryz.zeroValue252
  t173 := Tryz.underlying254
  a173 := Tryz.isAgg254
  z173 := Tryz.sizeOf254
  v173 := Tryz.zeroValue254
  t212 := Tryz.underlying275
  a212 := Tryz.isAgg275
  z212 := Tryz.sizeOf275
  v212 := Tryz.zeroValue275
  t213 := Tryz.underlying276
  a213 := Tryz.isAgg276
  z213 := Tryz.sizeOf276
  t232 := Tryz.underlying287
  a232 := Tryz.isAgg287
  z232 := Tryz.sizeOf287
  v232 := Tryz.zeroValue287
  t233 := Tryz.underlying288
  a233 := Tryz.isAgg288
  z233 := Tryz.sizeOf288
  v233 := Tryz.zeroValue288
  g17 := by kernel_rfl
  g18 := by kernel_rfl
  g19 := by kernel_rfl }
open Go.RowKit Go.Sort Go.Lib in
/-- THE ROAD WITHOUT THE TABLE: 0 <= i < 100. (LAID: no walk: one application.) -/
theorem Tryz.internal_strconv_Itoa_small (i : Nat) (hi : i < 100) (w : World) :
    Calls Tryz.prog 121 #[.int .i64 i] w fun e w' => e = .returned (.string ⟨(Lib.decDigits i).toArray⟩) ∧ w' = w := Any.internal_strconv_Itoa_small Tryz.lays243 i hi w
def Tryz.laysM171_ren : Go.Shelf.Ren := ⟨fun | 171 => 86 | 243 => 121 | 246 => 150 | 283 => 178 | 284 => 179 | 285 => 180 | 286 => 181 | 129 => 97 | 317 => 200 | 318 => 201 | 319 => 202 | 320 => 203 | 337 => 214 | 338 => 215 | n => n, fun | 3 => 3 | 9 => 9 | 2 => 2 | 4 => 4 | 171 => 252 | 0 => 0 | 53 => 162 | 37 => 187 | 5 => 5 | 173 => 254 | 212 => 275 | 51 => 160 | 20 => 20 | 213 => 276 | 46 => 125 | 232 => 287 | 233 => 288 | n => n, fun | 17 => 0 | 18 => 4 | 19 => 5 | n => n⟩
theorem Tryz.laysM171 : Go.Proofs.LaysM.n171 Tryz.prog Tryz.laysM171_ren := {
  mixed := by kernel_rfl
  f129 := Tryz.func97.trans (congrArg some (by kernel_rfl))
  f171 := Tryz.func86.trans (congrArg some (by kernel_rfl))
  f243 := Tryz.func121.trans (congrArg some (by kernel_rfl))
  f246 := Tryz.func150.trans (congrArg some (by kernel_rfl))
  f283 := Tryz.func178.trans (congrArg some (by kernel_rfl))
  f284 := Tryz.func179.trans (congrArg some (by kernel_rfl))
  f285 := Tryz.func180.trans (congrArg some (by kernel_rfl))
  f286 := Tryz.func181.trans (congrArg some (by kernel_rfl))
  f317 := Tryz.func200.trans (congrArg some (by kernel_rfl))
  f318 := Tryz.func201.trans (congrArg some (by kernel_rfl))
  f319 := Tryz.func202.trans (congrArg some (by kernel_rfl))
  f320 := Tryz.func203.trans (congrArg some (by kernel_rfl))
  f337 := Tryz.func214.trans (congrArg some (by kernel_rfl))
  f338 := Tryz.func215.trans (congrArg some (by kernel_rfl))
  t0 := Tryz.underlying0
  a0 := Tryz.isAgg0
  z0 := Tryz.sizeOf0
  v0 := Tryz.zeroValue0
  t2 := Tryz.underlying2
  a2 := Tryz.isAgg2
  z2 := Tryz.sizeOf2
  v2 := Tryz.zeroValue2
  t3 := Tryz.underlying3
  a3 := Tryz.isAgg3
  z3 := Tryz.sizeOf3
  v3 := Tryz.zeroValue3
  t4 := Tryz.underlying4
  a4 := Tryz.isAgg4
  z4 := Tryz.sizeOf4
  v4 := Tryz.zeroValue4
  t5 := Tryz.underlying5
  a5 := Tryz.isAgg5
  z5 := Tryz.sizeOf5
  v5 := Tryz.zeroValue5
  t9 := Tryz.underlying9
  a9 := Tryz.isAgg9
  z9 := Tryz.sizeOf9
  v9 := Tryz.zeroValue9
  t20 := Tryz.underlying20
  a20 := Tryz.isAgg20
  z20 := Tryz.sizeOf20
  v20 := Tryz.zeroValue20
  t37 := Tryz.underlying187
  a37 := Tryz.isAgg187
  z37 := Tryz.sizeOf187
  v37 := Tryz.zeroValue187
  t46 := Tryz.underlying125
  a46 := Tryz.isAgg125
  z46 := Tryz.sizeOf125
  v46 := Tryz.zeroValue125
  t51 := Tryz.underlying160
  a51 := Tryz.isAgg160
  z51 := Tryz.sizeOf160
  v51 := Tryz.zeroValue160
  t53 := Tryz.underlying162
  a53 := Tryz.isAgg162
  z53 := Tryz.sizeOf162
  v53 := Tryz.zeroValue162
  t171 := Tryz.underlying252
  a171 := Tryz.isAgg252
  z171 := Tryz.sizeOf252
  v171 := Tryz.zeroValue252
  t173 := Tryz.underlying254
  a173 := Tryz.isAgg254
  z173 := Tryz.sizeOf254
  v173 := Tryz.zeroValue254
  t212 := Tryz.underlying275
  a212 := Tryz.isAgg275
  z212 := Tryz.sizeOf275
  v212 := Tryz.zeroValue275
  t213 := Tryz.underlying276
  a213 := Tryz.isAgg276
  z213 := Tryz.sizeOf276
  t232 := Tryz.underlying287
  a232 := Tryz.isAgg287
  z232 := Tryz.sizeOf287
  v232 := Tryz.zeroValue287
  t233 := Tryz.underlying288
  a233 := Tryz.isAgg288
  z233 := Tryz.sizeOf288
  v233 := Tryz.zeroValue288
  g17 := by kernel_rfl
  g18 := by kernel_rfl
  g19 := by kernel_rfl
  i0 := by kernel_rfl
  i2 := by kernel_rfl
  i3 := by kernel_rfl
  i4 := by kernel_rfl
  i5 := by kernel_rfl
  i9 := by kernel_rfl
  i20 := by kernel_rfl
  i37 := by kernel_rfl
  i46 := by kernel_rfl
  i51 := by kernel_rfl
  i53 := by kernel_rfl
  i171 := by kernel_rfl
  i173 := by kernel_rfl
  i212 := by kernel_rfl
  i232 := by kernel_rfl
  i233 := by kernel_rfl
  m17 := by kernel_rfl
  m18 := by kernel_rfl
  m19 := by kernel_rfl }
open Go.RowKit Go.Sort Go.Lib in
/-- strconv.Itoa: "Itoa is equivalent to FormatInt(int64(i), 10).": i's DECIMAL NUMERAL ('Lib.itoa': a '-' where i is negative, then the digits), FOR EVERY int. The world behind the call: the world before it, new blocks behind the heap (the library's 'var a [24]byte'), draws. (LAID: no walk: one application.) -/
theorem Tryz.strconv_Itoa (n : Int) (h0 : -9223372036854775808 ≤ n) (h1 : n ≤ 9223372036854775807) (w : World) (htab : Lib.TabIs Tryz.prog w "internal/strconv.uint64pow10" .u64 Lib.pow10Tab) :
    Calls Tryz.prog 86 #[.int .i64 n] w fun e w' => e = .returned (.string ⟨(Lib.itoa n).toArray⟩) ∧ ∃ k os, w' = grow (w.drewN k) os := Any.strconv_Itoa Tryz.laysM171 n h0 h1 w htab
def Tryz.lays171_ren : Go.Shelf.Ren := ⟨fun | 171 => 86 | 243 => 121 | 246 => 150 | 283 => 178 | 284 => 179 | 285 => 180 | 286 => 181 | 129 => 97 | 317 => 200 | 318 => 201 | 319 => 202 | 320 => 203 | 337 => 214 | 338 => 215 | n => n, fun | 3 => 3 | 9 => 9 | 2 => 2 | 4 => 4 | 171 => 252 | 0 => 0 | 53 => 162 | 37 => 187 | 5 => 5 | 173 => 254 | 212 => 275 | 51 => 160 | 20 => 20 | 213 => 276 | 46 => 125 | 232 => 287 | 233 => 288 | n => n, fun | 17 => 0 | 18 => 4 | 19 => 5 | n => n⟩
theorem Tryz.lays171 : Go.Proofs.Lays.n171 Tryz.prog Tryz.lays171_ren := {
  mixed := by kernel_rfl
  f129 := Tryz.func97.trans (congrArg some (by kernel_rfl))
  f171 := Tryz.func86.trans (congrArg some (by kernel_rfl))
  f243 := Tryz.func121.trans (congrArg some (by kernel_rfl))
  f246 := Tryz.func150.trans (congrArg some (by kernel_rfl))
  f283 := Tryz.func178.trans (congrArg some (by kernel_rfl))
  f284 := Tryz.func179.trans (congrArg some (by kernel_rfl))
  f285 := Tryz.func180.trans (congrArg some (by kernel_rfl))
  f286 := Tryz.func181.trans (congrArg some (by kernel_rfl))
  f317 := Tryz.func200.trans (congrArg some (by kernel_rfl))
  f318 := Tryz.func201.trans (congrArg some (by kernel_rfl))
  f319 := Tryz.func202.trans (congrArg some (by kernel_rfl))
  f320 := Tryz.func203.trans (congrArg some (by kernel_rfl))
  f337 := Tryz.func214.trans (congrArg some (by kernel_rfl))
  f338 := Tryz.func215.trans (congrArg some (by kernel_rfl))
  t0 := Tryz.underlying0
  a0 := Tryz.isAgg0
  z0 := Tryz.sizeOf0
  v0 := Tryz.zeroValue0
  t2 := Tryz.underlying2
  a2 := Tryz.isAgg2
  z2 := Tryz.sizeOf2
  v2 := Tryz.zeroValue2
  t3 := Tryz.underlying3
  a3 := Tryz.isAgg3
  z3 := Tryz.sizeOf3
  v3 := Tryz.zeroValue3
  t4 := Tryz.underlying4
  a4 := Tryz.isAgg4
  z4 := Tryz.sizeOf4
  v4 := Tryz.zeroValue4
  t5 := Tryz.underlying5
  a5 := Tryz.isAgg5
  z5 := Tryz.sizeOf5
  v5 := Tryz.zeroValue5
  t9 := Tryz.underlying9
  a9 := Tryz.isAgg9
  z9 := Tryz.sizeOf9
  v9 := Tryz.zeroValue9
  t20 := Tryz.underlying20
  a20 := Tryz.isAgg20
  z20 := Tryz.sizeOf20
  v20 := Tryz.zeroValue20
  t37 := Tryz.underlying187
  a37 := Tryz.isAgg187
  z37 := Tryz.sizeOf187
  v37 := Tryz.zeroValue187
  t46 := Tryz.underlying125
  a46 := Tryz.isAgg125
  z46 := Tryz.sizeOf125
  v46 := Tryz.zeroValue125
  t51 := Tryz.underlying160
  a51 := Tryz.isAgg160
  z51 := Tryz.sizeOf160
  v51 := Tryz.zeroValue160
  t53 := Tryz.underlying162
  a53 := Tryz.isAgg162
  z53 := Tryz.sizeOf162
  v53 := Tryz.zeroValue162
  t171 := Tryz.underlying252
  a171 := Tryz.isAgg252
  z171 := Tryz.sizeOf252
  v171 := Tryz.zeroValue252
  t173 := Tryz.underlying254
  a173 := Tryz.isAgg254
  z173 := Tryz.sizeOf254
  v173 := Tryz.zeroValue254
  t212 := Tryz.underlying275
  a212 := Tryz.isAgg275
  z212 := Tryz.sizeOf275
  v212 := Tryz.zeroValue275
  t213 := Tryz.underlying276
  a213 := Tryz.isAgg276
  z213 := Tryz.sizeOf276
  t232 := Tryz.underlying287
  a232 := Tryz.isAgg287
  z232 := Tryz.sizeOf287
  v232 := Tryz.zeroValue287
  t233 := Tryz.underlying288
  a233 := Tryz.isAgg288
  z233 := Tryz.sizeOf288
  v233 := Tryz.zeroValue288
  g17 := by kernel_rfl
  g18 := by kernel_rfl
  g19 := by kernel_rfl }
open Go.RowKit Go.Sort Go.Lib in
/-- THE ROAD WITHOUT THE TABLE: 0 <= i < 100: NO PREMISE ON THE WORLD, AND THE WORLD IS AS IT WAS: a row that keeps its argument in that range need list no table ('laid = []'). (LAID: no walk: one application.) -/
theorem Tryz.strconv_Itoa_small (i : Nat) (hi : i < 100) (w : World) :
    Calls Tryz.prog 86 #[.int .i64 i] w fun e w' => e = .returned (.string ⟨(Lib.decDigits i).toArray⟩) ∧ w' = w := Any.strconv_Itoa_small Tryz.lays171 i hi w
open Go.RowKit in
/-- internal/strconv.Atoi, at a string of 1 to 18 bytes THAT IS NO DECIMAL NUMERAL: 0, AND ErrSyntax (the package's own error number 2). The world behind the call: as it was, or with the one new row that '[]byte(s)' lays. (LAID: no walk: one application.) -/
theorem Tryz.internal_strconv_Atoi_err (s : ByteArray) (hl0 : 1 ≤ s.size) (hl : s.size ≤ 18) (h : Lib.atoi s.data.toList = none) (w : World) :
    Calls Tryz.prog 184 #[.string s] w fun e w' => e = .returned (.tuple #[.int .i64 0, (.iface 267 (.int .i64 2))]) ∧ (w' = w ∨ ∃ t, w' = Lib.bytesWorld w 5 t) := Any.internal_strconv_Atoi_err Tryz.lays244 s hl0 hl h w
def Tryz.lays247_ren : Go.Shelf.Ren := ⟨fun | 247 => 170 | 287 => 193 | 321 => 208 | 322 => 209 | n => n, fun | 9 => 9 | 3 => 3 | 2 => 2 | 75 => 192 | 4 => 4 | 167 => 267 | 5 => 5 | 53 => 162 | 175 => 268 | 46 => 125 | 37 => 187 | 0 => 0 | 21 => 21 | 80 => 195 | n => n, fun | n => n⟩
theorem Tryz.lays247 : Go.Proofs.Lays.n247 Tryz.prog Tryz.lays247_ren := {
  mixed := by kernel_rfl
  f247 := Tryz.func170.trans (congrArg some (by kernel_rfl))
  f287 := Tryz.func193.trans (congrArg some (by kernel_rfl))
  f321 := Tryz.func208.trans (congrArg some (by kernel_rfl))
  f322 := Tryz.func209.trans (congrArg some (by kernel_rfl))
  t0 := Tryz.underlying0
  a0 := Tryz.isAgg0
  z0 := Tryz.sizeOf0
  v0 := Tryz.zeroValue0
  t2 := Tryz.underlying2
  a2 := Tryz.isAgg2
  z2 := Tryz.sizeOf2
  v2 := Tryz.zeroValue2
  t3 := Tryz.underlying3
  a3 := Tryz.isAgg3
  z3 := Tryz.sizeOf3
  v3 := Tryz.zeroValue3
  t4 := Tryz.underlying4
  a4 := Tryz.isAgg4
  z4 := Tryz.sizeOf4
  v4 := Tryz.zeroValue4
  t5 := Tryz.underlying5
  a5 := Tryz.isAgg5
  z5 := Tryz.sizeOf5
  v5 := Tryz.zeroValue5
  t9 := Tryz.underlying9
  a9 := Tryz.isAgg9
  z9 := Tryz.sizeOf9
  v9 := Tryz.zeroValue9
  t21 := Tryz.underlying21
  a21 := Tryz.isAgg21
  z21 := Tryz.sizeOf21
  v21 := Tryz.zeroValue21
  t37 := Tryz.underlying187
  a37 := Tryz.isAgg187
  z37 := Tryz.sizeOf187
  v37 := Tryz.zeroValue187
  t46 := Tryz.underlying125
  a46 := Tryz.isAgg125
  z46 := Tryz.sizeOf125
  v46 := Tryz.zeroValue125
  t53 := Tryz.underlying162
  a53 := Tryz.isAgg162
  z53 := Tryz.sizeOf162
  v53 := Tryz.zeroValue162
  t75 := Tryz.underlying192
  a75 := Tryz.isAgg192
  z75 := Tryz.sizeOf192
  v75 := Tryz.zeroValue192
  t167 := Tryz.underlying267
  a167 := Tryz.isAgg267
  z167 := Tryz.sizeOf267
  v167 := Tryz.zeroValue267
  t175 := Tryz.underlying268
  a175 := Tryz.isAgg268
  z175 := Tryz.sizeOf268
  v175 := Tryz.zeroValue268 }
open Go.RowKit in
/-- internal/strconv.ParseInt at "": 'if s == "" { return 0, ErrSyntax }'. The world is as it was. (LAID: no walk: one application.) -/
theorem Tryz.internal_strconv_ParseInt_empty (base bits : Int) (w : World) :
    Calls Tryz.prog 170 #[.string ⟨#[]⟩, .int .i64 base, .int .i64 bits] w fun e w' => e = .returned (.tuple #[.int .i64 0, (.iface 267 (.int .i64 2))]) ∧ w' = w := Any.internal_strconv_ParseInt_empty Tryz.lays247 base bits w
open Go.RowKit in
/-- internal/strconv.Atoi at "". (LAID: no walk: one application.) -/
theorem Tryz.internal_strconv_Atoi_empty (w : World) :
    Calls Tryz.prog 184 #[.string ⟨#[]⟩] w fun e w' => e = .returned (.tuple #[.int .i64 0, (.iface 267 (.int .i64 2))]) ∧ w' = w := Any.internal_strconv_Atoi_empty Tryz.lays244 w
open Go.RowKit in
/-- internal/strconv.Atoi, AT EVERY STRING OF AT MOST 18 BYTES THAT IS NO DECIMAL NUMERAL: 0, and ErrSyntax. (LAID: no walk: one application.) -/
theorem Tryz.internal_strconv_Atoi_fail (s : ByteArray) (hl : s.size ≤ 18) (h : Lib.atoi s.data.toList = none) (w : World) :
    Calls Tryz.prog 184 #[.string s] w fun e w' => e = .returned (.tuple #[.int .i64 0, (.iface 267 (.int .i64 2))]) ∧ (w' = w ∨ ∃ t, w' = Lib.bytesWorld w 5 t) := Any.internal_strconv_Atoi_fail Tryz.lays244 s hl h w
def Tryz.laysM316_ren : Go.Shelf.Ren := ⟨fun | 316 => 210 | n => n, fun | 9 => 9 | 3 => 3 | 4 => 4 | 37 => 187 | 0 => 0 | 127 => 222 | 5 => 5 | n => n, fun | n => n⟩
theorem Tryz.laysM316 : Go.Proofs.LaysM.n316 Tryz.prog Tryz.laysM316_ren := {
  mixed := by kernel_rfl
  f316 := Tryz.func210.trans (congrArg some (by kernel_rfl))
  t0 := Tryz.underlying0
  a0 := Tryz.isAgg0
  z0 := Tryz.sizeOf0
  v0 := Tryz.zeroValue0
  t3 := Tryz.underlying3
  a3 := Tryz.isAgg3
  z3 := Tryz.sizeOf3
  v3 := Tryz.zeroValue3
  t4 := Tryz.underlying4
  a4 := Tryz.isAgg4
  z4 := Tryz.sizeOf4
  v4 := Tryz.zeroValue4
  t9 := Tryz.underlying9
  a9 := Tryz.isAgg9
  z9 := Tryz.sizeOf9
  v9 := Tryz.zeroValue9
  t37 := Tryz.underlying187
  a37 := Tryz.isAgg187
  z37 := Tryz.sizeOf187
  v37 := Tryz.zeroValue187
  t127 := Tryz.underlying222
  a127 := Tryz.isAgg222
  z127 := Tryz.sizeOf222
  v127 := Tryz.zeroValue222
  t5 := Tryz.underlying5
  a5 := Tryz.isAgg5
  z5 := Tryz.sizeOf5
  v5 := Tryz.zeroValue5
  i0 := by kernel_rfl
  i3 := by kernel_rfl
  i4 := by kernel_rfl
  i5 := by kernel_rfl
  i9 := by kernel_rfl
  i37 := by kernel_rfl
  i127 := by kernel_rfl }
open Go.RowKit in
/-- internal/stringslite.Clone (what strings.Clone calls): "Clone returns a fresh copy of s.": THE SAME BYTES. Of what was there nothing has turned (a new row is laid, and frozen, where s is not empty). (LAID: no walk: one application.) -/
theorem Tryz.stringslite_Clone (s : ByteArray) (w : World) (hlim : s.size ≤ 281474976710656) :
    Calls Tryz.prog 210 #[.string s] w fun e w' => e = .returned (.string s) ∧ Below w.heap.size w w' := Any.stringslite_Clone Tryz.laysM316 s w hlim
def Tryz.laysM279_ren : Go.Shelf.Ren := ⟨fun | 279 => 194 | 316 => 210 | n => n, fun | 9 => 9 | 168 => 270 | 75 => 192 | 210 => 282 | 3 => 3 | 4 => 4 | 37 => 187 | 0 => 0 | 127 => 222 | 80 => 195 | 5 => 5 | n => n, fun | 15 => 2 | n => n⟩
theorem Tryz.laysM279 : Go.Proofs.LaysM.n279 Tryz.prog Tryz.laysM279_ren := {
  mixed := by kernel_rfl
  f279 := Tryz.func194.trans (congrArg some (by kernel_rfl))
  f316 := Tryz.func210.trans (congrArg some (by kernel_rfl))
  t0 := Tryz.underlying0
  a0 := Tryz.isAgg0
  z0 := Tryz.sizeOf0
  v0 := Tryz.zeroValue0
  t3 := Tryz.underlying3
  a3 := Tryz.isAgg3
  z3 := Tryz.sizeOf3
  v3 := Tryz.zeroValue3
  t4 := Tryz.underlying4
  a4 := Tryz.isAgg4
  z4 := Tryz.sizeOf4
  v4 := Tryz.zeroValue4
  t9 := Tryz.underlying9
  a9 := Tryz.isAgg9
  z9 := Tryz.sizeOf9
  v9 := Tryz.zeroValue9
  t37 := Tryz.underlying187
  a37 := Tryz.isAgg187
  z37 := Tryz.sizeOf187
  v37 := Tryz.zeroValue187
  t75 := Tryz.underlying192
  a75 := Tryz.isAgg192
  z75 := Tryz.sizeOf192
  v75 := Tryz.zeroValue192
  t127 := Tryz.underlying222
  a127 := Tryz.isAgg222
  z127 := Tryz.sizeOf222
  v127 := Tryz.zeroValue222
  t168 := Tryz.underlying270
  a168 := Tryz.isAgg270
  z168 := Tryz.sizeOf270
  v168 := Tryz.zeroValue270
  t210 := Tryz.underlying282
  a210 := Tryz.isAgg282
  z210 := Tryz.sizeOf282
  v210 := Tryz.zeroValue282
  g15 := by kernel_rfl
  t5 := Tryz.underlying5
  a5 := Tryz.isAgg5
  z5 := Tryz.sizeOf5
  v5 := Tryz.zeroValue5
  t80 := Tryz.underlying195
  a80 := Tryz.isAgg195
  z80 := Tryz.sizeOf195
  v80 := Tryz.zeroValue195
  i0 := by kernel_rfl
  i3 := by kernel_rfl
  i4 := by kernel_rfl
  i5 := by kernel_rfl
  i9 := by kernel_rfl
  i37 := by kernel_rfl
  i75 := by kernel_rfl
  i80 := by kernel_rfl
  i127 := by kernel_rfl
  i168 := by kernel_rfl
  i210 := by kernel_rfl
  m15 := by kernel_rfl }
open Go.RowKit in
/-- strconv.syntaxError: '&NumError{fn, stringslite.Clone(str), ErrSyntax}': A POINTER TO A NEW BLOCK that holds fn, str's bytes, and what the variable ErrSyntax holds. Of what was there nothing has turned. (LAID: no walk: one application.) -/
theorem Tryz.strconv_syntaxError (fn s : ByteArray) (ev : Value) (w : World) (hlim : s.size ≤ 281474976710656) (hv : w.cell? ⟨2, 0, none⟩ = some ev) (hev : ev = .nilIface ∨ ∃ te pe, ev = .iface te pe) :
    Calls Tryz.prog 194 #[.string fn, .string s] w fun e w' => ∃ N, e = .returned (.pointer (some ⟨N, 0, none⟩)) ∧ w.heap.size ≤ N ∧ w'.heap[N]? = some (.cells #[.string fn, .string s, ev] 282 (0, 0)) ∧ Below w.heap.size w w' := Any.strconv_syntaxError Tryz.laysM279 fn s ev w hlim hv hev
def Tryz.laysC245_ren : Go.Shelf.Ren := ⟨fun | 245 => 171 | 279 => 194 | 280 => 195 | 281 => 196 | 282 => 197 | 316 => 210 | 171 => 86 | 205 => 211 | 243 => 121 | 246 => 150 | 283 => 178 | 284 => 179 | 285 => 180 | 286 => 181 | 129 => 97 | 317 => 200 | 318 => 201 | 319 => 202 | 320 => 203 | 337 => 214 | 338 => 215 | n => n, fun | 9 => 9 | 3 => 3 | 75 => 192 | 167 => 267 | 4 => 4 | 168 => 270 | 210 => 282 | 37 => 187 | 0 => 0 | 127 => 222 | 145 => 286 | 143 => 284 | 2 => 2 | 171 => 252 | 53 => 162 | 5 => 5 | 173 => 254 | 212 => 275 | 51 => 160 | 20 => 20 | 213 => 276 | 46 => 125 | 232 => 287 | 233 => 288 | 80 => 195 | n => n, fun | 15 => 2 | 16 => 3 | 17 => 0 | 18 => 4 | 19 => 5 | n => n⟩
theorem Tryz.laysC245 : Go.Proofs.LaysC.n245 Tryz.prog Tryz.laysC245_ren := {
  mixed := by kernel_rfl
  f129 := Tryz.func97.trans (congrArg some (by kernel_rfl))
  f171 := Tryz.func86.trans (congrArg some (by kernel_rfl))
  f205 := Tryz.func211.trans (congrArg some (by kernel_rfl))
  f243 := Tryz.func121.trans (congrArg some (by kernel_rfl))
  f245 := Tryz.func171.trans (congrArg some (by kernel_rfl))
  f246 := Tryz.func150.trans (congrArg some (by kernel_rfl))
  f279 := Tryz.func194.trans (congrArg some (by kernel_rfl))
  f280 := Tryz.func195.trans (congrArg some (by kernel_rfl))
  f281 := Tryz.func196.trans (congrArg some (by kernel_rfl))
  f282 := Tryz.func197.trans (congrArg some (by kernel_rfl))
  f283 := Tryz.func178.trans (congrArg some (by kernel_rfl))
  f284 := Tryz.func179.trans (congrArg some (by kernel_rfl))
  f285 := Tryz.func180.trans (congrArg some (by kernel_rfl))
  f286 := Tryz.func181.trans (congrArg some (by kernel_rfl))
  f316 := Tryz.func210.trans (congrArg some (by kernel_rfl))
  f317 := Tryz.func200.trans (congrArg some (by kernel_rfl))
  f318 := Tryz.func201.trans (congrArg some (by kernel_rfl))
  f319 := Tryz.func202.trans (congrArg some (by kernel_rfl))
  f320 := Tryz.func203.trans (congrArg some (by kernel_rfl))
  f337 := Tryz.func214.trans (congrArg some (by kernel_rfl))
  f338 := Tryz.func215.trans (congrArg some (by kernel_rfl))
  t0 := Tryz.underlying0
  a0 := Tryz.isAgg0
  z0 := Tryz.sizeOf0
  v0 := Tryz.zeroValue0
  t2 := Tryz.underlying2
  a2 := Tryz.isAgg2
  z2 := Tryz.sizeOf2
  v2 := Tryz.zeroValue2
  t3 := Tryz.underlying3
  a3 := Tryz.isAgg3
  z3 := Tryz.sizeOf3
  v3 := Tryz.zeroValue3
  t4 := Tryz.underlying4
  a4 := Tryz.isAgg4
  z4 := Tryz.sizeOf4
  v4 := Tryz.zeroValue4
  t5 := Tryz.underlying5
  a5 := Tryz.isAgg5
  z5 := Tryz.sizeOf5
  v5 := Tryz.zeroValue5
  t9 := Tryz.underlying9
  a9 := Tryz.isAgg9
  z9 := Tryz.sizeOf9
  v9 := Tryz.zeroValue9
  t20 := Tryz.underlying20
  a20 := Tryz.isAgg20
  z20 := Tryz.sizeOf20
  v20 := Tryz.zeroValue20
  t37 := Tryz.underlying187
  a37 := Tryz.isAgg187
  z37 := Tryz.sizeOf187
  v37 := Tryz.zeroValue187
  t46 := Tryz.underlying125
  a46 := Tryz.isAgg125
  z46 := Tryz.sizeOf125
  v46 := Tryz.zeroValue125
  t51 := Tryz.underlying160
  a51 := Tryz.isAgg160
  z51 := Tryz.sizeOf160
  v51 := Tryz.zeroValue160
  t53 := Tryz.underlying162
  a53 := Tryz.isAgg162
  z53 := Tryz.sizeOf162
  v53 := Tryz.zeroValue162
  t75 := Tryz.underlying192
  a75 := Tryz.isAgg192
  z75 := Tryz.sizeOf192
  v75 := Tryz.zeroValue192
  t127 := Tryz.underlying222
  a127 := Tryz.isAgg222
  z127 := Tryz.sizeOf222
  v127 := Tryz.zeroValue222
  t143 := Tryz.underlying284
  a143 := Tryz.isAgg284
  z143 := Tryz.sizeOf284
  v143 := Tryz.zeroValue284
  t145 := Tryz.underlying286
  a145 := Tryz.isAgg286
  z145 := Tryz.sizeOf286
  v145 := Tryz.zeroValue286
  t167 := Tryz.underlying267
  a167 := Tryz.isAgg267
  z167 := Tryz.sizeOf267
  v167 := Tryz.zeroValue267
  t168 := Tryz.underlying270
  a168 := Tryz.isAgg270
  z168 := Tryz.sizeOf270
  v168 := Tryz.zeroValue270
  t171 := Tryz.underlying252
  a171 := Tryz.isAgg252
  z171 := Tryz.sizeOf252
  v171 := Tryz.zeroValue252
  t173 := Tryz.underlying254
  a173 := Tryz.isAgg254
  z173 := Tryz.sizeOf254
  v173 := Tryz.zeroValue254
  t210 := Tryz.underlying282
  a210 := Tryz.isAgg282
  z210 := Tryz.sizeOf282
  v210 := Tryz.zeroValue282
  t212 := Tryz.underlying275
  a212 := Tryz.isAgg275
  z212 := Tryz.sizeOf275
  v212 := Tryz.zeroValue275
  t213 := Tryz.underlying276
  a213 := Tryz.isAgg276
  z213 := Tryz.sizeOf276
  t232 := Tryz.underlying287
  a232 := Tryz.isAgg287
  z232 := Tryz.sizeOf287
  v232 := Tryz.zeroValue287
  t233 := Tryz.underlying288
  a233 := Tryz.isAgg288
  z233 := Tryz.sizeOf288
  v233 := Tryz.zeroValue288
  g15 := by kernel_rfl
  g16 := by kernel_rfl
  g17 := by kernel_rfl
  g18 := by kernel_rfl
  g19 := by kernel_rfl
  t80 := Tryz.underlying195
  a80 := Tryz.isAgg195
  z80 := Tryz.sizeOf195
  v80 := Tryz.zeroValue195
  i0 := by kernel_rfl
  i2 := by kernel_rfl
  i3 := by kernel_rfl
  i4 := by kernel_rfl
  i5 := by kernel_rfl
  i9 := by kernel_rfl
  i20 := by kernel_rfl
  i37 := by kernel_rfl
  i46 := by kernel_rfl
  i51 := by kernel_rfl
  i53 := by kernel_rfl
  i75 := by kernel_rfl
  i80 := by kernel_rfl
  i127 := by kernel_rfl
  i143 := by kernel_rfl
  i145 := by kernel_rfl
  i167 := by kernel_rfl
  i168 := by kernel_rfl
  i171 := by kernel_rfl
  i173 := by kernel_rfl
  i210 := by kernel_rfl
  i212 := by kernel_rfl
  i232 := by kernel_rfl
  i233 := by kernel_rfl
  m15 := by kernel_rfl
  m16 := by kernel_rfl
  m17 := by kernel_rfl
  m18 := by kernel_rfl
  m19 := by kernel_rfl
  c0 := by kernel_rfl
  c2 := by kernel_rfl
  c3 := by kernel_rfl
  c4 := by kernel_rfl
  c5 := by kernel_rfl
  c9 := by kernel_rfl
  c20 := by kernel_rfl
  c37 := by kernel_rfl
  c46 := by kernel_rfl
  c51 := by kernel_rfl
  c53 := by kernel_rfl
  c75 := by kernel_rfl
  c80 := by kernel_rfl
  c127 := by kernel_rfl
  c143 := by kernel_rfl
  c145 := by kernel_rfl
  c167 := by kernel_rfl
  c168 := by kernel_rfl
  c171 := by kernel_rfl
  c173 := by kernel_rfl
  c210 := by kernel_rfl
  c212 := by kernel_rfl
  c213 := by kernel_rfl
  c232 := by kernel_rfl
  c233 := by kernel_rfl }
open Go.RowKit in
/-- strconv.toError, at the inner package's ErrSyntax: 'syntaxError(fn, s)' as an error: A *NumError IN A NEW BLOCK. (LAID: no walk: one application.) -/
theorem Tryz.strconv_toError_syntax (fn s : ByteArray) (base bits : Int) (ev : Value) (w : World) (hlim : s.size ≤ 281474976710656) (hv : w.cell? ⟨2, 0, none⟩ = some ev) (hev : ev = .nilIface ∨ ∃ te pe, ev = .iface te pe) :
    Calls Tryz.prog 171 #[.string fn, .string s, .int .i64 base, .int .i64 bits, .iface 267 (.int .i64 2)] w fun e w' => ∃ N, e = .returned (.iface 270 (.pointer (some ⟨N, 0, none⟩))) ∧ w.heap.size ≤ N ∧ w'.heap[N]? = some (.cells #[.string fn, .string s, ev] 282 (0, 0)) ∧ Below w.heap.size w w' := Any.strconv_toError_syntax Tryz.laysC245 fn s base bits ev w hlim hv hev
def Tryz.lays321_ren : Go.Shelf.Ren := ⟨fun | 321 => 208 | n => n, fun | 5 => 5 | n => n, fun | n => n⟩
theorem Tryz.lays321 : Go.Proofs.Lays.n321 Tryz.prog Tryz.lays321_ren := {
  mixed := by kernel_rfl
  f321 := Tryz.func208.trans (congrArg some (by kernel_rfl))
  t5 := Tryz.underlying5
  a5 := Tryz.isAgg5
  z5 := Tryz.sizeOf5
  v5 := Tryz.zeroValue5 }
open Go.RowKit in
/-- internal/strconv.lower: 'c | ('x' - 'X')': the bit 32 set. The world is as it was. (LAID: no walk: one application.) -/
theorem Tryz.internal_strconv_lower (c : Int) (w : World) :
    Calls Tryz.prog 208 #[.int .u8 c] w fun e w' => e = .returned (.int .u8 (bits .or .u8 c 32)) ∧ w' = w := Any.internal_strconv_lower Tryz.lays321 c w
def Tryz.lays287_ren : Go.Shelf.Ren := ⟨fun | 287 => 193 | 321 => 208 | 322 => 209 | n => n, fun | 9 => 9 | 3 => 3 | 53 => 162 | 75 => 192 | 4 => 4 | 167 => 267 | 5 => 5 | 46 => 125 | 37 => 187 | 0 => 0 | 21 => 21 | 80 => 195 | n => n, fun | n => n⟩
theorem Tryz.lays287 : Go.Proofs.Lays.n287 Tryz.prog Tryz.lays287_ren := {
  mixed := by kernel_rfl
  f287 := Tryz.func193.trans (congrArg some (by kernel_rfl))
  f321 := Tryz.func208.trans (congrArg some (by kernel_rfl))
  f322 := Tryz.func209.trans (congrArg some (by kernel_rfl))
  t0 := Tryz.underlying0
  a0 := Tryz.isAgg0
  z0 := Tryz.sizeOf0
  v0 := Tryz.zeroValue0
  t3 := Tryz.underlying3
  a3 := Tryz.isAgg3
  z3 := Tryz.sizeOf3
  v3 := Tryz.zeroValue3
  t4 := Tryz.underlying4
  a4 := Tryz.isAgg4
  z4 := Tryz.sizeOf4
  v4 := Tryz.zeroValue4
  t5 := Tryz.underlying5
  a5 := Tryz.isAgg5
  z5 := Tryz.sizeOf5
  v5 := Tryz.zeroValue5
  t9 := Tryz.underlying9
  a9 := Tryz.isAgg9
  z9 := Tryz.sizeOf9
  v9 := Tryz.zeroValue9
  t21 := Tryz.underlying21
  a21 := Tryz.isAgg21
  z21 := Tryz.sizeOf21
  v21 := Tryz.zeroValue21
  t37 := Tryz.underlying187
  a37 := Tryz.isAgg187
  z37 := Tryz.sizeOf187
  v37 := Tryz.zeroValue187
  t46 := Tryz.underlying125
  a46 := Tryz.isAgg125
  z46 := Tryz.sizeOf125
  v46 := Tryz.zeroValue125
  t53 := Tryz.underlying162
  a53 := Tryz.isAgg162
  z53 := Tryz.sizeOf162
  v53 := Tryz.zeroValue162
  t75 := Tryz.underlying192
  a75 := Tryz.isAgg192
  z75 := Tryz.sizeOf192
  v75 := Tryz.zeroValue192
  t167 := Tryz.underlying267
  a167 := Tryz.isAgg267
  z167 := Tryz.sizeOf267
  v167 := Tryz.zeroValue267 }
open Go.RowKit in
/-- internal/strconv.ParseUint(s, 10, 0), s NOT EMPTY: 'Lib.parseUint10 0' OF ITS BYTES: the number; or (0, ErrSyntax); or (the greatest uint64, ErrRange). The world behind the call: the one new row that '[]byte(s)' lays. (LAID: no walk: one application.) -/
theorem Tryz.internal_strconv_ParseUint_10 (t : ByteArray) (hne : t.size ≠ 0) (hmax : t.size ≤ 9223372036854775806) (w : World) :
    Calls Tryz.prog 193 #[.string t, .int .i64 10, .int .i64 0] w fun e w' => e = .returned (Lib.uintTuple 267 (Lib.parseUint10 0 t.data.toList)) ∧ w' = Lib.bytesWorld w 5 t := Any.internal_strconv_ParseUint_10 Tryz.lays287 t hne hmax w
open Go.RowKit in
/-- internal/strconv.ParseUint(s, 10, 0): 'Lib.parseMag' OF ITS BYTES. The world: as it was (the empty string), or with the one new row that '[]byte(s)' lays. (LAID: no walk: one application.) -/
theorem Tryz.internal_strconv_ParseUint_10_any (t : ByteArray) (hmax : t.size ≤ 9223372036854775806) (w : World) :
    Calls Tryz.prog 193 #[.string t, .int .i64 10, .int .i64 0] w fun e w' => e = .returned (Lib.uintTuple 267 (Lib.parseMag t.data.toList)) ∧ (w' = w ∨ w' = Lib.bytesWorld w 5 t) := Any.internal_strconv_ParseUint_10_any Tryz.lays287 t hmax w
def Tryz.laysC247_ren : Go.Shelf.Ren := ⟨fun | 247 => 170 | 287 => 193 | 321 => 208 | 322 => 209 | n => n, fun | 9 => 9 | 3 => 3 | 2 => 2 | 75 => 192 | 4 => 4 | 167 => 267 | 5 => 5 | 53 => 162 | 175 => 268 | 46 => 125 | 37 => 187 | 0 => 0 | 21 => 21 | 80 => 195 | n => n, fun | n => n⟩
theorem Tryz.laysC247 : Go.Proofs.LaysC.n247 Tryz.prog Tryz.laysC247_ren := {
  mixed := by kernel_rfl
  f247 := Tryz.func170.trans (congrArg some (by kernel_rfl))
  f287 := Tryz.func193.trans (congrArg some (by kernel_rfl))
  f321 := Tryz.func208.trans (congrArg some (by kernel_rfl))
  f322 := Tryz.func209.trans (congrArg some (by kernel_rfl))
  t0 := Tryz.underlying0
  a0 := Tryz.isAgg0
  z0 := Tryz.sizeOf0
  v0 := Tryz.zeroValue0
  t2 := Tryz.underlying2
  a2 := Tryz.isAgg2
  z2 := Tryz.sizeOf2
  v2 := Tryz.zeroValue2
  t3 := Tryz.underlying3
  a3 := Tryz.isAgg3
  z3 := Tryz.sizeOf3
  v3 := Tryz.zeroValue3
  t4 := Tryz.underlying4
  a4 := Tryz.isAgg4
  z4 := Tryz.sizeOf4
  v4 := Tryz.zeroValue4
  t5 := Tryz.underlying5
  a5 := Tryz.isAgg5
  z5 := Tryz.sizeOf5
  v5 := Tryz.zeroValue5
  t9 := Tryz.underlying9
  a9 := Tryz.isAgg9
  z9 := Tryz.sizeOf9
  v9 := Tryz.zeroValue9
  t21 := Tryz.underlying21
  a21 := Tryz.isAgg21
  z21 := Tryz.sizeOf21
  v21 := Tryz.zeroValue21
  t37 := Tryz.underlying187
  a37 := Tryz.isAgg187
  z37 := Tryz.sizeOf187
  v37 := Tryz.zeroValue187
  t46 := Tryz.underlying125
  a46 := Tryz.isAgg125
  z46 := Tryz.sizeOf125
  v46 := Tryz.zeroValue125
  t53 := Tryz.underlying162
  a53 := Tryz.isAgg162
  z53 := Tryz.sizeOf162
  v53 := Tryz.zeroValue162
  t75 := Tryz.underlying192
  a75 := Tryz.isAgg192
  z75 := Tryz.sizeOf192
  v75 := Tryz.zeroValue192
  t167 := Tryz.underlying267
  a167 := Tryz.isAgg267
  z167 := Tryz.sizeOf267
  v167 := Tryz.zeroValue267
  t175 := Tryz.underlying268
  a175 := Tryz.isAgg268
  z175 := Tryz.sizeOf268
  v175 := Tryz.zeroValue268
  t80 := Tryz.underlying195
  a80 := Tryz.isAgg195
  z80 := Tryz.sizeOf195
  v80 := Tryz.zeroValue195
  i0 := by kernel_rfl
  i2 := by kernel_rfl
  i3 := by kernel_rfl
  i4 := by kernel_rfl
  i5 := by kernel_rfl
  i9 := by kernel_rfl
  i21 := by kernel_rfl
  i37 := by kernel_rfl
  i46 := by kernel_rfl
  i53 := by kernel_rfl
  i75 := by kernel_rfl
  i80 := by kernel_rfl
  i167 := by kernel_rfl
  i175 := by kernel_rfl
  c0 := by kernel_rfl
  c2 := by kernel_rfl
  c3 := by kernel_rfl
  c4 := by kernel_rfl
  c5 := by kernel_rfl
  c9 := by kernel_rfl
  c21 := by kernel_rfl
  c37 := by kernel_rfl
  c46 := by kernel_rfl
  c53 := by kernel_rfl
  c75 := by kernel_rfl
  c80 := by kernel_rfl
  c167 := by kernel_rfl
  c175 := by kernel_rfl }
open Go.RowKit in
/-- internal/strconv.ParseInt(s, 10, 0), s NOT EMPTY: 'Lib.atoiAll' OF ITS BYTES: (the number, nil); (0, ErrSyntax); (the greatest or the least int64 by the sign, ErrRange). The world: as it was, or with the one new row that '[]byte(..)' lays. (LAID: no walk: one application.) -/
theorem Tryz.internal_strconv_ParseInt_10 (s : ByteArray) (hne : s.size ≠ 0) (hmax : s.size ≤ 9223372036854775806) (w : World) :
    Calls Tryz.prog 170 #[.string s, .int .i64 10, .int .i64 0] w fun e w' => e = .returned (Lib.intTuple 267 (Lib.atoiSat s.data.toList) (Lib.atoiAll s.data.toList)) ∧ (w' = w ∨ ∃ t, w' = Lib.bytesWorld w 5 t) := Any.internal_strconv_ParseInt_10 Tryz.laysC247 s hne hmax w
def Tryz.laysC244_ren : Go.Shelf.Ren := ⟨fun | 244 => 184 | 247 => 170 | 287 => 193 | 321 => 208 | 322 => 209 | n => n, fun | 9 => 9 | 3 => 3 | 75 => 192 | 4 => 4 | 5 => 5 | 167 => 267 | 37 => 187 | 0 => 0 | 85 => 213 | 2 => 2 | 53 => 162 | 175 => 268 | 46 => 125 | 21 => 21 | 80 => 195 | n => n, fun | n => n⟩
theorem Tryz.laysC244 : Go.Proofs.LaysC.n244 Tryz.prog Tryz.laysC244_ren := {
  mixed := by kernel_rfl
  f244 := Tryz.func184.trans (congrArg some (by kernel_rfl))
  f247 := Tryz.func170.trans (congrArg some (by kernel_rfl))
  f287 := Tryz.func193.trans (congrArg some (by kernel_rfl))
  f321 := Tryz.func208.trans (congrArg some (by kernel_rfl))
  f322 := Tryz.func209.trans (congrArg some (by kernel_rfl))
  t0 := Tryz.underlying0
  a0 := Tryz.isAgg0
  z0 := Tryz.sizeOf0
  v0 := Tryz.zeroValue0
  t2 := Tryz.underlying2
  a2 := Tryz.isAgg2
  z2 := Tryz.sizeOf2
  v2 := Tryz.zeroValue2
  t3 := Tryz.underlying3
  a3 := Tryz.isAgg3
  z3 := Tryz.sizeOf3
  v3 := Tryz.zeroValue3
  t4 := Tryz.underlying4
  a4 := Tryz.isAgg4
  z4 := Tryz.sizeOf4
  v4 := Tryz.zeroValue4
  t5 := Tryz.underlying5
  a5 := Tryz.isAgg5
  z5 := Tryz.sizeOf5
  v5 := Tryz.zeroValue5
  t9 := Tryz.underlying9
  a9 := Tryz.isAgg9
  z9 := Tryz.sizeOf9
  v9 := Tryz.zeroValue9
  t21 := Tryz.underlying21
  a21 := Tryz.isAgg21
  z21 := Tryz.sizeOf21
  v21 := Tryz.zeroValue21
  t37 := Tryz.underlying187
  a37 := Tryz.isAgg187
  z37 := Tryz.sizeOf187
  v37 := Tryz.zeroValue187
  t46 := Tryz.underlying125
  a46 := Tryz.isAgg125
  z46 := Tryz.sizeOf125
  v46 := Tryz.zeroValue125
  t53 := Tryz.underlying162
  a53 := Tryz.isAgg162
  z53 := Tryz.sizeOf162
  v53 := Tryz.zeroValue162
  t75 := Tryz.underlying192
  a75 := Tryz.isAgg192
  z75 := Tryz.sizeOf192
  v75 := Tryz.zeroValue192
  t85 := Tryz.underlying213
  a85 := Tryz.isAgg213
  z85 := Tryz.sizeOf213
  v85 := Tryz.zeroValue213
  t167 := Tryz.underlying267
  a167 := Tryz.isAgg267
  z167 := Tryz.sizeOf267
  v167 := Tryz.zeroValue267
  t175 := Tryz.underlying268
  a175 := Tryz.isAgg268
  z175 := Tryz.sizeOf268
  v175 := Tryz.zeroValue268
  t80 := Tryz.underlying195
  a80 := Tryz.isAgg195
  z80 := Tryz.sizeOf195
  v80 := Tryz.zeroValue195
  i0 := by kernel_rfl
  i2 := by kernel_rfl
  i3 := by kernel_rfl
  i4 := by kernel_rfl
  i5 := by kernel_rfl
  i9 := by kernel_rfl
  i21 := by kernel_rfl
  i37 := by kernel_rfl
  i46 := by kernel_rfl
  i53 := by kernel_rfl
  i75 := by kernel_rfl
  i80 := by kernel_rfl
  i85 := by kernel_rfl
  i167 := by kernel_rfl
  i175 := by kernel_rfl
  c0 := by kernel_rfl
  c2 := by kernel_rfl
  c3 := by kernel_rfl
  c4 := by kernel_rfl
  c5 := by kernel_rfl
  c9 := by kernel_rfl
  c21 := by kernel_rfl
  c37 := by kernel_rfl
  c46 := by kernel_rfl
  c53 := by kernel_rfl
  c75 := by kernel_rfl
  c80 := by kernel_rfl
  c85 := by kernel_rfl
  c167 := by kernel_rfl
  c175 := by kernel_rfl }
open Go.RowKit in
/-- internal/strconv.Atoi, AT EVERY STRING OF 19 BYTES OR MORE: 'Lib.atoiAll' OF ITS BYTES: (the number, nil); (0, ErrSyntax); (the greatest or the least int by the sign, ErrRange). (LAID: no walk: one application.) -/
theorem Tryz.internal_strconv_Atoi_long (s : ByteArray) (h19 : 19 ≤ s.size) (hmax : s.size ≤ 9223372036854775806) (w : World) :
    Calls Tryz.prog 184 #[.string s] w fun e w' => e = .returned (Lib.intTuple 267 (Lib.atoiSat s.data.toList) (Lib.atoiAll s.data.toList)) ∧ (w' = w ∨ ∃ t, w' = Lib.bytesWorld w 5 t) := Any.internal_strconv_Atoi_long Tryz.laysC244 s h19 hmax w
open Go.RowKit in
/-- internal/strconv.Atoi, AT EVERY STRING: 'Lib.atoiAll' OF ITS BYTES: (the number, nil); (0, ErrSyntax); (the greatest or the least int by the sign, ErrRange). The world: as it was, or with the one new row that '[]byte(..)' lays. (LAID: no walk: one application.) -/
theorem Tryz.internal_strconv_Atoi_all (s : ByteArray) (hmax : s.size ≤ 9223372036854775806) (w : World) :
    Calls Tryz.prog 184 #[.string s] w fun e w' => e = .returned (Lib.intTuple 267 (Lib.atoiSat s.data.toList) (Lib.atoiAll s.data.toList)) ∧ (w' = w ∨ ∃ t, w' = Lib.bytesWorld w 5 t) := Any.internal_strconv_Atoi_all Tryz.laysC244 s hmax w
def Tryz.laysM280_ren : Go.Shelf.Ren := ⟨fun | 280 => 195 | 316 => 210 | n => n, fun | 9 => 9 | 168 => 270 | 75 => 192 | 210 => 282 | 3 => 3 | 4 => 4 | 37 => 187 | 0 => 0 | 127 => 222 | 80 => 195 | 5 => 5 | n => n, fun | 16 => 3 | n => n⟩
theorem Tryz.laysM280 : Go.Proofs.LaysM.n280 Tryz.prog Tryz.laysM280_ren := {
  mixed := by kernel_rfl
  f280 := Tryz.func195.trans (congrArg some (by kernel_rfl))
  f316 := Tryz.func210.trans (congrArg some (by kernel_rfl))
  t0 := Tryz.underlying0
  a0 := Tryz.isAgg0
  z0 := Tryz.sizeOf0
  v0 := Tryz.zeroValue0
  t3 := Tryz.underlying3
  a3 := Tryz.isAgg3
  z3 := Tryz.sizeOf3
  v3 := Tryz.zeroValue3
  t4 := Tryz.underlying4
  a4 := Tryz.isAgg4
  z4 := Tryz.sizeOf4
  v4 := Tryz.zeroValue4
  t9 := Tryz.underlying9
  a9 := Tryz.isAgg9
  z9 := Tryz.sizeOf9
  v9 := Tryz.zeroValue9
  t37 := Tryz.underlying187
  a37 := Tryz.isAgg187
  z37 := Tryz.sizeOf187
  v37 := Tryz.zeroValue187
  t75 := Tryz.underlying192
  a75 := Tryz.isAgg192
  z75 := Tryz.sizeOf192
  v75 := Tryz.zeroValue192
  t127 := Tryz.underlying222
  a127 := Tryz.isAgg222
  z127 := Tryz.sizeOf222
  v127 := Tryz.zeroValue222
  t168 := Tryz.underlying270
  a168 := Tryz.isAgg270
  z168 := Tryz.sizeOf270
  v168 := Tryz.zeroValue270
  t210 := Tryz.underlying282
  a210 := Tryz.isAgg282
  z210 := Tryz.sizeOf282
  v210 := Tryz.zeroValue282
  g16 := by kernel_rfl
  t5 := Tryz.underlying5
  a5 := Tryz.isAgg5
  z5 := Tryz.sizeOf5
  v5 := Tryz.zeroValue5
  t80 := Tryz.underlying195
  a80 := Tryz.isAgg195
  z80 := Tryz.sizeOf195
  v80 := Tryz.zeroValue195
  i0 := by kernel_rfl
  i3 := by kernel_rfl
  i4 := by kernel_rfl
  i5 := by kernel_rfl
  i9 := by kernel_rfl
  i37 := by kernel_rfl
  i75 := by kernel_rfl
  i80 := by kernel_rfl
  i127 := by kernel_rfl
  i168 := by kernel_rfl
  i210 := by kernel_rfl
  m16 := by kernel_rfl }
open Go.RowKit in
/-- strconv.rangeError: '&NumError{fn, stringslite.Clone(str), ErrRange}': A POINTER TO A NEW BLOCK that holds fn, str's bytes, and what the variable ErrRange holds. Of what was there nothing has turned. (LAID: no walk: one application.) -/
theorem Tryz.strconv_rangeError (fn s : ByteArray) (ev : Value) (w : World) (hlim : s.size ≤ 281474976710656) (hv : w.cell? ⟨3, 0, none⟩ = some ev) (hev : ev = .nilIface ∨ ∃ te pe, ev = .iface te pe) :
    Calls Tryz.prog 195 #[.string fn, .string s] w fun e w' => ∃ N, e = .returned (.pointer (some ⟨N, 0, none⟩)) ∧ w.heap.size ≤ N ∧ w'.heap[N]? = some (.cells #[.string fn, .string s, ev] 282 (0, 0)) ∧ Below w.heap.size w w' := Any.strconv_rangeError Tryz.laysM280 fn s ev w hlim hv hev
open Go.RowKit in
/-- strconv.toError, at the inner package's ErrRange: 'rangeError(fn, s)' as an error: A *NumError IN A NEW BLOCK. (LAID: no walk: one application.) -/
theorem Tryz.strconv_toError_range (fn s : ByteArray) (base bits : Int) (ev : Value) (w : World) (hlim : s.size ≤ 281474976710656) (hv : w.cell? ⟨3, 0, none⟩ = some ev) (hev : ev = .nilIface ∨ ∃ te pe, ev = .iface te pe) :
    Calls Tryz.prog 171 #[.string fn, .string s, .int .i64 base, .int .i64 bits, .iface 267 (.int .i64 1)] w fun e w' => ∃ N, e = .returned (.iface 270 (.pointer (some ⟨N, 0, none⟩))) ∧ w.heap.size ≤ N ∧ w'.heap[N]? = some (.cells #[.string fn, .string s, ev] 282 (0, 0)) ∧ Below w.heap.size w w' := Any.strconv_toError_range Tryz.laysC245 fn s base bits ev w hlim hv hev
def Tryz.laysC172_ren : Go.Shelf.Ren := ⟨fun | 172 => 154 | 244 => 184 | 245 => 171 | 247 => 170 | 279 => 194 | 280 => 195 | 281 => 196 | 282 => 197 | 287 => 193 | 316 => 210 | 171 => 86 | 205 => 211 | 321 => 208 | 322 => 209 | 243 => 121 | 246 => 150 | 283 => 178 | 284 => 179 | 285 => 180 | 286 => 181 | 129 => 97 | 317 => 200 | 318 => 201 | 319 => 202 | 320 => 203 | 337 => 214 | 338 => 215 | n => n, fun | 9 => 9 | 3 => 3 | 75 => 192 | 76 => 193 | 4 => 4 | 5 => 5 | 167 => 267 | 37 => 187 | 0 => 0 | 85 => 213 | 2 => 2 | 168 => 270 | 53 => 162 | 175 => 268 | 46 => 125 | 210 => 282 | 127 => 222 | 145 => 286 | 143 => 284 | 21 => 21 | 171 => 252 | 173 => 254 | 212 => 275 | 51 => 160 | 20 => 20 | 213 => 276 | 232 => 287 | 233 => 288 | 80 => 195 | n => n, fun | 15 => 2 | 16 => 3 | 17 => 0 | 18 => 4 | 19 => 5 | n => n⟩
theorem Tryz.laysC172 : Go.Proofs.LaysC.n172 Tryz.prog Tryz.laysC172_ren := {
  mixed := by kernel_rfl
  f129 := Tryz.func97.trans (congrArg some (by kernel_rfl))
  f171 := Tryz.func86.trans (congrArg some (by kernel_rfl))
  f172 := Tryz.func154.trans (congrArg some (by kernel_rfl))
  f205 := Tryz.func211.trans (congrArg some (by kernel_rfl))
  f243 := Tryz.func121.trans (congrArg some (by kernel_rfl))
  f244 := Tryz.func184.trans (congrArg some (by kernel_rfl))
  f245 := Tryz.func171.trans (congrArg some (by kernel_rfl))
  f246 := Tryz.func150.trans (congrArg some (by kernel_rfl))
  f247 := Tryz.func170.trans (congrArg some (by kernel_rfl))
  f279 := Tryz.func194.trans (congrArg some (by kernel_rfl))
  f280 := Tryz.func195.trans (congrArg some (by kernel_rfl))
  f281 := Tryz.func196.trans (congrArg some (by kernel_rfl))
  f282 := Tryz.func197.trans (congrArg some (by kernel_rfl))
  f283 := Tryz.func178.trans (congrArg some (by kernel_rfl))
  f284 := Tryz.func179.trans (congrArg some (by kernel_rfl))
  f285 := Tryz.func180.trans (congrArg some (by kernel_rfl))
  f286 := Tryz.func181.trans (congrArg some (by kernel_rfl))
  f287 := Tryz.func193.trans (congrArg some (by kernel_rfl))
  f316 := Tryz.func210.trans (congrArg some (by kernel_rfl))
  f317 := Tryz.func200.trans (congrArg some (by kernel_rfl))
  f318 := Tryz.func201.trans (congrArg some (by kernel_rfl))
  f319 := Tryz.func202.trans (congrArg some (by kernel_rfl))
  f320 := Tryz.func203.trans (congrArg some (by kernel_rfl))
  f321 := Tryz.func208.trans (congrArg some (by kernel_rfl))
  f322 := Tryz.func209.trans (congrArg some (by kernel_rfl))
  f337 := Tryz.func214.trans (congrArg some (by kernel_rfl))
  f338 := Tryz.func215.trans (congrArg some (by kernel_rfl))
  t0 := Tryz.underlying0
  a0 := Tryz.isAgg0
  z0 := Tryz.sizeOf0
  v0 := Tryz.zeroValue0
  t2 := Tryz.underlying2
  a2 := Tryz.isAgg2
  z2 := Tryz.sizeOf2
  v2 := Tryz.zeroValue2
  t3 := Tryz.underlying3
  a3 := Tryz.isAgg3
  z3 := Tryz.sizeOf3
  v3 := Tryz.zeroValue3
  t4 := Tryz.underlying4
  a4 := Tryz.isAgg4
  z4 := Tryz.sizeOf4
  v4 := Tryz.zeroValue4
  t5 := Tryz.underlying5
  a5 := Tryz.isAgg5
  z5 := Tryz.sizeOf5
  v5 := Tryz.zeroValue5
  t9 := Tryz.underlying9
  a9 := Tryz.isAgg9
  z9 := Tryz.sizeOf9
  v9 := Tryz.zeroValue9
  t20 := Tryz.underlying20
  a20 := Tryz.isAgg20
  z20 := Tryz.sizeOf20
  v20 := Tryz.zeroValue20
  t21 := Tryz.underlying21
  a21 := Tryz.isAgg21
  z21 := Tryz.sizeOf21
  v21 := Tryz.zeroValue21
  t37 := Tryz.underlying187
  a37 := Tryz.isAgg187
  z37 := Tryz.sizeOf187
  v37 := Tryz.zeroValue187
  t46 := Tryz.underlying125
  a46 := Tryz.isAgg125
  z46 := Tryz.sizeOf125
  v46 := Tryz.zeroValue125
  t51 := Tryz.underlying160
  a51 := Tryz.isAgg160
  z51 := Tryz.sizeOf160
  v51 := Tryz.zeroValue160
  t53 := Tryz.underlying162
  a53 := Tryz.isAgg162
  z53 := Tryz.sizeOf162
  v53 := Tryz.zeroValue162
  t75 := Tryz.underlying192
  a75 := Tryz.isAgg192
  z75 := Tryz.sizeOf192
  v75 := Tryz.zeroValue192
  t76 := Tryz.underlying193
  a76 := Tryz.isAgg193
  z76 := Tryz.sizeOf193
  v76 := Tryz.zeroValue193
  t85 := Tryz.underlying213
  a85 := Tryz.isAgg213
  z85 := Tryz.sizeOf213
  v85 := Tryz.zeroValue213
  t127 := Tryz.underlying222
  a127 := Tryz.isAgg222
  z127 := Tryz.sizeOf222
  v127 := Tryz.zeroValue222
  t143 := Tryz.underlying284
  a143 := Tryz.isAgg284
  z143 := Tryz.sizeOf284
  v143 := Tryz.zeroValue284
  t145 := Tryz.underlying286
  a145 := Tryz.isAgg286
  z145 := Tryz.sizeOf286
  v145 := Tryz.zeroValue286
  t167 := Tryz.underlying267
  a167 := Tryz.isAgg267
  z167 := Tryz.sizeOf267
  v167 := Tryz.zeroValue267
  t168 := Tryz.underlying270
  a168 := Tryz.isAgg270
  z168 := Tryz.sizeOf270
  v168 := Tryz.zeroValue270
  t171 := Tryz.underlying252
  a171 := Tryz.isAgg252
  z171 := Tryz.sizeOf252
  v171 := Tryz.zeroValue252
  t173 := Tryz.underlying254
  a173 := Tryz.isAgg254
  z173 := Tryz.sizeOf254
  v173 := Tryz.zeroValue254
  t175 := Tryz.underlying268
  a175 := Tryz.isAgg268
  z175 := Tryz.sizeOf268
  v175 := Tryz.zeroValue268
  t210 := Tryz.underlying282
  a210 := Tryz.isAgg282
  z210 := Tryz.sizeOf282
  v210 := Tryz.zeroValue282
  t212 := Tryz.underlying275
  a212 := Tryz.isAgg275
  z212 := Tryz.sizeOf275
  v212 := Tryz.zeroValue275
  t213 := Tryz.underlying276
  a213 := Tryz.isAgg276
  z213 := Tryz.sizeOf276
  t232 := Tryz.underlying287
  a232 := Tryz.isAgg287
  z232 := Tryz.sizeOf287
  v232 := Tryz.zeroValue287
  t233 := Tryz.underlying288
  a233 := Tryz.isAgg288
  z233 := Tryz.sizeOf288
  v233 := Tryz.zeroValue288
  g15 := by kernel_rfl
  g16 := by kernel_rfl
  g17 := by kernel_rfl
  g18 := by kernel_rfl
  g19 := by kernel_rfl
  t80 := Tryz.underlying195
  a80 := Tryz.isAgg195
  z80 := Tryz.sizeOf195
  v80 := Tryz.zeroValue195
  i0 := by kernel_rfl
  i2 := by kernel_rfl
  i3 := by kernel_rfl
  i4 := by kernel_rfl
  i5 := by kernel_rfl
  i9 := by kernel_rfl
  i20 := by kernel_rfl
  i21 := by kernel_rfl
  i37 := by kernel_rfl
  i46 := by kernel_rfl
  i51 := by kernel_rfl
  i53 := by kernel_rfl
  i75 := by kernel_rfl
  i76 := by kernel_rfl
  i80 := by kernel_rfl
  i85 := by kernel_rfl
  i127 := by kernel_rfl
  i143 := by kernel_rfl
  i145 := by kernel_rfl
  i167 := by kernel_rfl
  i168 := by kernel_rfl
  i171 := by kernel_rfl
  i173 := by kernel_rfl
  i175 := by kernel_rfl
  i210 := by kernel_rfl
  i212 := by kernel_rfl
  i232 := by kernel_rfl
  i233 := by kernel_rfl
  m15 := by kernel_rfl
  m16 := by kernel_rfl
  m17 := by kernel_rfl
  m18 := by kernel_rfl
  m19 := by kernel_rfl
  c0 := by kernel_rfl
  c2 := by kernel_rfl
  c3 := by kernel_rfl
  c4 := by kernel_rfl
  c5 := by kernel_rfl
  c9 := by kernel_rfl
  c20 := by kernel_rfl
  c21 := by kernel_rfl
  c37 := by kernel_rfl
  c46 := by kernel_rfl
  c51 := by kernel_rfl
  c53 := by kernel_rfl
  c75 := by kernel_rfl
  c76 := by kernel_rfl
  c80 := by kernel_rfl
  c85 := by kernel_rfl
  c127 := by kernel_rfl
  c143 := by kernel_rfl
  c145 := by kernel_rfl
  c167 := by kernel_rfl
  c168 := by kernel_rfl
  c171 := by kernel_rfl
  c173 := by kernel_rfl
  c175 := by kernel_rfl
  c210 := by kernel_rfl
  c212 := by kernel_rfl
  c213 := by kernel_rfl
  c232 := by kernel_rfl
  c233 := by kernel_rfl }
open Go.RowKit in
/-- strconv.Atoi, AT EVERY STRING THAT SPELLS AN int ('Lib.atoiAll .. = .ok v'; of whatever length: leading zeros count): v, AND NO ERROR. The world: as it was, or with the one new row that '[]byte(..)' lays. (LAID: no walk: one application.) -/
theorem Tryz.strconv_Atoi_ok (s : ByteArray) (hmax : s.size ≤ 9223372036854775806) (v : Int) (h : Lib.atoiAll s.data.toList = .ok v) (w : World) :
    Calls Tryz.prog 154 #[.string s] w fun e w' => e = .returned (.tuple #[.int .i64 v, .nilIface]) ∧ (w' = w ∨ ∃ t, w' = Lib.bytesWorld w 5 t) := Any.strconv_Atoi_ok Tryz.laysC172 s hmax v h w
open Go.RowKit in
/-- strconv.Atoi, AT EVERY NUMERAL THAT NO int HOLDS ('.range'): THE GREATEST OR THE LEAST int, BY THE SIGN ('Lib.atoiSat'), AND AN ERROR THAT IS NOT nil: a *NumError in a new block N: {Func: "Atoi", Num: s's bytes, Err: what the variable ErrRange holds}. Of what was there nothing has turned. (LAID: no walk: one application.) -/
theorem Tryz.strconv_Atoi_range (s : ByteArray) (hlim : s.size ≤ 281474976710656) (h : Lib.atoiAll s.data.toList = .range) (ev : Value) (w : World) (hv : w.cell? ⟨3, 0, none⟩ = some ev) (hev : ev = .nilIface ∨ ∃ te pe, ev = .iface te pe) :
    Calls Tryz.prog 154 #[.string s] w fun e w' => ∃ N, e = .returned (.tuple #[.int .i64 (Lib.atoiSat s.data.toList), .iface 270 (.pointer (some ⟨N, 0, none⟩))]) ∧ w.heap.size ≤ N ∧ w'.heap[N]? = some (.cells #[.string ⟨#[65, 116, 111, 105]⟩, .string s, ev] 282 (0, 0)) ∧ Below w.heap.size w w' := Any.strconv_Atoi_range Tryz.laysC172 s hlim h ev w hv hev
open Go.RowKit in
/-- internal/strconv.ParseUint("", base, bitSize): (0, ErrSyntax): the first test of the text. The world is as it was. (LAID: no walk: one application.) -/
theorem Tryz.internal_strconv_ParseUint_empty (base bits : Int) (w : World) :
    Calls Tryz.prog 193 #[.string ⟨#[]⟩, .int .i64 base, .int .i64 bits] w fun e w' => e = .returned (.tuple #[.int .u64 0, .iface 267 (.int .i64 2)]) ∧ w' = w := Any.internal_strconv_ParseUint_empty Tryz.lays287 base bits w
open Go.RowKit in
/-- internal/strconv.ParseUint(s, 10, 64), s NOT EMPTY: 'Lib.parseUint10 0' OF ITS BYTES: the number; or (0, ErrSyntax); or (the greatest uint64, ErrRange). The world behind the call: the one new row that '[]byte(s)' lays. (LAID: no walk: one application.) -/
theorem Tryz.internal_strconv_ParseUint_10_b64 (t : ByteArray) (hne : t.size ≠ 0) (hmax : t.size ≤ 9223372036854775806) (w : World) :
    Calls Tryz.prog 193 #[.string t, .int .i64 10, .int .i64 64] w fun e w' => e = .returned (Lib.uintTuple 267 (Lib.parseUint10 0 t.data.toList)) ∧ w' = Lib.bytesWorld w 5 t := Any.internal_strconv_ParseUint_10_b64 Tryz.lays287 t hne hmax w
open Go.RowKit in
/-- internal/strconv.ParseUint(s, 10, 32), s NOT EMPTY: 'Lib.parseUintM 4294967295 0' OF ITS BYTES: the number; or (0, ErrSyntax); or (the greatest uint32, ErrRange). The world behind the call: the one new row that '[]byte(s)' lays. (LAID: no walk: one application.) -/
theorem Tryz.internal_strconv_ParseUint_10_b32 (t : ByteArray) (hne : t.size ≠ 0) (hmax : t.size ≤ 9223372036854775806) (w : World) :
    Calls Tryz.prog 193 #[.string t, .int .i64 10, .int .i64 32] w fun e w' => e = .returned (Lib.uintTupleM 267 4294967295 (Lib.parseUintM 4294967295 0 t.data.toList)) ∧ w' = Lib.bytesWorld w 5 t := Any.internal_strconv_ParseUint_10_b32 Tryz.lays287 t hne hmax w
open Go.RowKit in
/-- internal/strconv.ParseUint(s, 10, 16), s NOT EMPTY: 'Lib.parseUintM 65535 0' OF ITS BYTES: the number; or (0, ErrSyntax); or (the greatest uint16, ErrRange). The world behind the call: the one new row that '[]byte(s)' lays. (LAID: no walk: one application.) -/
theorem Tryz.internal_strconv_ParseUint_10_b16 (t : ByteArray) (hne : t.size ≠ 0) (hmax : t.size ≤ 9223372036854775806) (w : World) :
    Calls Tryz.prog 193 #[.string t, .int .i64 10, .int .i64 16] w fun e w' => e = .returned (Lib.uintTupleM 267 65535 (Lib.parseUintM 65535 0 t.data.toList)) ∧ w' = Lib.bytesWorld w 5 t := Any.internal_strconv_ParseUint_10_b16 Tryz.lays287 t hne hmax w
open Go.RowKit in
/-- internal/strconv.ParseUint(s, 10, 8), s NOT EMPTY: 'Lib.parseUintM 255 0' OF ITS BYTES: the number; or (0, ErrSyntax); or (the greatest uint8, ErrRange). The world behind the call: the one new row that '[]byte(s)' lays. (LAID: no walk: one application.) -/
theorem Tryz.internal_strconv_ParseUint_10_b8 (t : ByteArray) (hne : t.size ≠ 0) (hmax : t.size ≤ 9223372036854775806) (w : World) :
    Calls Tryz.prog 193 #[.string t, .int .i64 10, .int .i64 8] w fun e w' => e = .returned (Lib.uintTupleM 267 255 (Lib.parseUintM 255 0 t.data.toList)) ∧ w' = Lib.bytesWorld w 5 t := Any.internal_strconv_ParseUint_10_b8 Tryz.lays287 t hne hmax w
open Go.RowKit in
/-- internal/strconv.ParseUint(s, 10, 0): 'Lib.parseUintB 64' OF ITS BYTES. The world: as it was (the empty string), or with the one new row that '[]byte(s)' lays. (LAID: no walk: one application.) -/
theorem Tryz.internal_strconv_ParseUint_10_at0 (t : ByteArray) (hmax : t.size ≤ 9223372036854775806) (w : World) :
    Calls Tryz.prog 193 #[.string t, .int .i64 10, .int .i64 0] w fun e w' => e = .returned (Lib.uintTupleM 267 18446744073709551615 (Lib.parseUintB 64 t.data.toList)) ∧ (w' = w ∨ w' = Lib.bytesWorld w 5 t) := Any.internal_strconv_ParseUint_10_at0 Tryz.lays287 t hmax w
open Go.RowKit in
/-- internal/strconv.ParseUint(s, 10, 64): 'Lib.parseUintB 64' OF ITS BYTES. The world: as it was (the empty string), or with the one new row that '[]byte(s)' lays. (LAID: no walk: one application.) -/
theorem Tryz.internal_strconv_ParseUint_10_at64 (t : ByteArray) (hmax : t.size ≤ 9223372036854775806) (w : World) :
    Calls Tryz.prog 193 #[.string t, .int .i64 10, .int .i64 64] w fun e w' => e = .returned (Lib.uintTupleM 267 18446744073709551615 (Lib.parseUintB 64 t.data.toList)) ∧ (w' = w ∨ w' = Lib.bytesWorld w 5 t) := Any.internal_strconv_ParseUint_10_at64 Tryz.lays287 t hmax w
open Go.RowKit in
/-- internal/strconv.ParseUint(s, 10, 32): 'Lib.parseUintB 32' OF ITS BYTES. The world: as it was (the empty string), or with the one new row that '[]byte(s)' lays. (LAID: no walk: one application.) -/
theorem Tryz.internal_strconv_ParseUint_10_at32 (t : ByteArray) (hmax : t.size ≤ 9223372036854775806) (w : World) :
    Calls Tryz.prog 193 #[.string t, .int .i64 10, .int .i64 32] w fun e w' => e = .returned (Lib.uintTupleM 267 4294967295 (Lib.parseUintB 32 t.data.toList)) ∧ (w' = w ∨ w' = Lib.bytesWorld w 5 t) := Any.internal_strconv_ParseUint_10_at32 Tryz.lays287 t hmax w
open Go.RowKit in
/-- internal/strconv.ParseUint(s, 10, 16): 'Lib.parseUintB 16' OF ITS BYTES. The world: as it was (the empty string), or with the one new row that '[]byte(s)' lays. (LAID: no walk: one application.) -/
theorem Tryz.internal_strconv_ParseUint_10_at16 (t : ByteArray) (hmax : t.size ≤ 9223372036854775806) (w : World) :
    Calls Tryz.prog 193 #[.string t, .int .i64 10, .int .i64 16] w fun e w' => e = .returned (Lib.uintTupleM 267 65535 (Lib.parseUintB 16 t.data.toList)) ∧ (w' = w ∨ w' = Lib.bytesWorld w 5 t) := Any.internal_strconv_ParseUint_10_at16 Tryz.lays287 t hmax w
open Go.RowKit in
/-- internal/strconv.ParseUint(s, 10, 8): 'Lib.parseUintB 8' OF ITS BYTES. The world: as it was (the empty string), or with the one new row that '[]byte(s)' lays. (LAID: no walk: one application.) -/
theorem Tryz.internal_strconv_ParseUint_10_at8 (t : ByteArray) (hmax : t.size ≤ 9223372036854775806) (w : World) :
    Calls Tryz.prog 193 #[.string t, .int .i64 10, .int .i64 8] w fun e w' => e = .returned (Lib.uintTupleM 267 255 (Lib.parseUintB 8 t.data.toList)) ∧ (w' = w ∨ w' = Lib.bytesWorld w 5 t) := Any.internal_strconv_ParseUint_10_at8 Tryz.lays287 t hmax w
open Go.RowKit in
/-- internal/strconv.ParseInt(s, 10, 64), s NOT EMPTY: 'Lib.parseIntB 64' OF ITS BYTES: (the number, nil); (0, ErrSyntax); (the greatest or the least int64 by the sign, ErrRange). The world: as it was, or with the one new row that '[]byte(..)' lays. (LAID: no walk: one application.) -/
theorem Tryz.internal_strconv_ParseInt_10_at64 (s : ByteArray) (hne : s.size ≠ 0) (hmax : s.size ≤ 9223372036854775806) (w : World) :
    Calls Tryz.prog 170 #[.string s, .int .i64 10, .int .i64 64] w fun e w' => e = .returned (Lib.intTuple 267 (Lib.intSat 64 s.data.toList) (Lib.parseIntB 64 s.data.toList)) ∧ (w' = w ∨ ∃ t, w' = Lib.bytesWorld w 5 t) := Any.internal_strconv_ParseInt_10_at64 Tryz.laysC247 s hne hmax w
open Go.RowKit in
/-- internal/strconv.ParseInt(s, 10, 32), s NOT EMPTY: 'Lib.parseIntB 32' OF ITS BYTES: (the number, nil); (0, ErrSyntax); (the greatest or the least int32 by the sign, ErrRange). The world: as it was, or with the one new row that '[]byte(..)' lays. (LAID: no walk: one application.) -/
theorem Tryz.internal_strconv_ParseInt_10_at32 (s : ByteArray) (hne : s.size ≠ 0) (hmax : s.size ≤ 9223372036854775806) (w : World) :
    Calls Tryz.prog 170 #[.string s, .int .i64 10, .int .i64 32] w fun e w' => e = .returned (Lib.intTuple 267 (Lib.intSat 32 s.data.toList) (Lib.parseIntB 32 s.data.toList)) ∧ (w' = w ∨ ∃ t, w' = Lib.bytesWorld w 5 t) := Any.internal_strconv_ParseInt_10_at32 Tryz.laysC247 s hne hmax w
open Go.RowKit in
/-- internal/strconv.ParseInt(s, 10, 16), s NOT EMPTY: 'Lib.parseIntB 16' OF ITS BYTES: (the number, nil); (0, ErrSyntax); (the greatest or the least int16 by the sign, ErrRange). The world: as it was, or with the one new row that '[]byte(..)' lays. (LAID: no walk: one application.) -/
theorem Tryz.internal_strconv_ParseInt_10_at16 (s : ByteArray) (hne : s.size ≠ 0) (hmax : s.size ≤ 9223372036854775806) (w : World) :
    Calls Tryz.prog 170 #[.string s, .int .i64 10, .int .i64 16] w fun e w' => e = .returned (Lib.intTuple 267 (Lib.intSat 16 s.data.toList) (Lib.parseIntB 16 s.data.toList)) ∧ (w' = w ∨ ∃ t, w' = Lib.bytesWorld w 5 t) := Any.internal_strconv_ParseInt_10_at16 Tryz.laysC247 s hne hmax w
open Go.RowKit in
/-- internal/strconv.ParseInt(s, 10, 8), s NOT EMPTY: 'Lib.parseIntB 8' OF ITS BYTES: (the number, nil); (0, ErrSyntax); (the greatest or the least int8 by the sign, ErrRange). The world: as it was, or with the one new row that '[]byte(..)' lays. (LAID: no walk: one application.) -/
theorem Tryz.internal_strconv_ParseInt_10_at8 (s : ByteArray) (hne : s.size ≠ 0) (hmax : s.size ≤ 9223372036854775806) (w : World) :
    Calls Tryz.prog 170 #[.string s, .int .i64 10, .int .i64 8] w fun e w' => e = .returned (Lib.intTuple 267 (Lib.intSat 8 s.data.toList) (Lib.parseIntB 8 s.data.toList)) ∧ (w' = w ∨ ∃ t, w' = Lib.bytesWorld w 5 t) := Any.internal_strconv_ParseInt_10_at8 Tryz.laysC247 s hne hmax w
open Go.RowKit in
/-- internal/strconv.ParseInt(s, 10, 0), AT EVERY STRING: 'Lib.parseIntB 64' OF ITS BYTES. (LAID: no walk: one application.) -/
theorem Tryz.internal_strconv_ParseInt_10_all0 (s : ByteArray) (hmax : s.size ≤ 9223372036854775806) (w : World) :
    Calls Tryz.prog 170 #[.string s, .int .i64 10, .int .i64 0] w fun e w' => e = .returned (Lib.intTuple 267 (Lib.intSat 64 s.data.toList) (Lib.parseIntB 64 s.data.toList)) ∧ (w' = w ∨ ∃ t, w' = Lib.bytesWorld w 5 t) := Any.internal_strconv_ParseInt_10_all0 Tryz.laysC247 s hmax w
open Go.RowKit in
/-- internal/strconv.ParseInt(s, 10, 64), AT EVERY STRING: 'Lib.parseIntB 64' OF ITS BYTES. (LAID: no walk: one application.) -/
theorem Tryz.internal_strconv_ParseInt_10_all64 (s : ByteArray) (hmax : s.size ≤ 9223372036854775806) (w : World) :
    Calls Tryz.prog 170 #[.string s, .int .i64 10, .int .i64 64] w fun e w' => e = .returned (Lib.intTuple 267 (Lib.intSat 64 s.data.toList) (Lib.parseIntB 64 s.data.toList)) ∧ (w' = w ∨ ∃ t, w' = Lib.bytesWorld w 5 t) := Any.internal_strconv_ParseInt_10_all64 Tryz.laysC247 s hmax w
open Go.RowKit in
/-- internal/strconv.ParseInt(s, 10, 32), AT EVERY STRING: 'Lib.parseIntB 32' OF ITS BYTES. (LAID: no walk: one application.) -/
theorem Tryz.internal_strconv_ParseInt_10_all32 (s : ByteArray) (hmax : s.size ≤ 9223372036854775806) (w : World) :
    Calls Tryz.prog 170 #[.string s, .int .i64 10, .int .i64 32] w fun e w' => e = .returned (Lib.intTuple 267 (Lib.intSat 32 s.data.toList) (Lib.parseIntB 32 s.data.toList)) ∧ (w' = w ∨ ∃ t, w' = Lib.bytesWorld w 5 t) := Any.internal_strconv_ParseInt_10_all32 Tryz.laysC247 s hmax w
open Go.RowKit in
/-- internal/strconv.ParseInt(s, 10, 16), AT EVERY STRING: 'Lib.parseIntB 16' OF ITS BYTES. (LAID: no walk: one application.) -/
theorem Tryz.internal_strconv_ParseInt_10_all16 (s : ByteArray) (hmax : s.size ≤ 9223372036854775806) (w : World) :
    Calls Tryz.prog 170 #[.string s, .int .i64 10, .int .i64 16] w fun e w' => e = .returned (Lib.intTuple 267 (Lib.intSat 16 s.data.toList) (Lib.parseIntB 16 s.data.toList)) ∧ (w' = w ∨ ∃ t, w' = Lib.bytesWorld w 5 t) := Any.internal_strconv_ParseInt_10_all16 Tryz.laysC247 s hmax w
open Go.RowKit in
/-- internal/strconv.ParseInt(s, 10, 8), AT EVERY STRING: 'Lib.parseIntB 8' OF ITS BYTES. (LAID: no walk: one application.) -/
theorem Tryz.internal_strconv_ParseInt_10_all8 (s : ByteArray) (hmax : s.size ≤ 9223372036854775806) (w : World) :
    Calls Tryz.prog 170 #[.string s, .int .i64 10, .int .i64 8] w fun e w' => e = .returned (Lib.intTuple 267 (Lib.intSat 8 s.data.toList) (Lib.parseIntB 8 s.data.toList)) ∧ (w' = w ∨ ∃ t, w' = Lib.bytesWorld w 5 t) := Any.internal_strconv_ParseInt_10_all8 Tryz.laysC247 s hmax w
def Tryz.laysC174_ren : Go.Shelf.Ren := ⟨fun | 174 => 143 | 247 => 170 | 245 => 171 | 287 => 193 | 279 => 194 | 280 => 195 | 281 => 196 | 282 => 197 | 321 => 208 | 322 => 209 | 316 => 210 | 171 => 86 | 205 => 211 | 243 => 121 | 246 => 150 | 283 => 178 | 284 => 179 | 285 => 180 | 286 => 181 | 129 => 97 | 317 => 200 | 318 => 201 | 319 => 202 | 320 => 203 | 337 => 214 | 338 => 215 | n => n, fun | 9 => 9 | 3 => 3 | 2 => 2 | 75 => 192 | 85 => 213 | 4 => 4 | 167 => 267 | 5 => 5 | 53 => 162 | 175 => 268 | 46 => 125 | 168 => 270 | 37 => 187 | 0 => 0 | 210 => 282 | 21 => 21 | 127 => 222 | 145 => 286 | 143 => 284 | 171 => 252 | 173 => 254 | 212 => 275 | 51 => 160 | 20 => 20 | 213 => 276 | 232 => 287 | 233 => 288 | 80 => 195 | n => n, fun | 15 => 2 | 16 => 3 | 17 => 0 | 18 => 4 | 19 => 5 | n => n⟩
theorem Tryz.laysC174 : Go.Proofs.LaysC.n174 Tryz.prog Tryz.laysC174_ren := {
  mixed := by kernel_rfl
  f129 := Tryz.func97.trans (congrArg some (by kernel_rfl))
  f171 := Tryz.func86.trans (congrArg some (by kernel_rfl))
  f174 := Tryz.func143.trans (congrArg some (by kernel_rfl))
  f205 := Tryz.func211.trans (congrArg some (by kernel_rfl))
  f243 := Tryz.func121.trans (congrArg some (by kernel_rfl))
  f245 := Tryz.func171.trans (congrArg some (by kernel_rfl))
  f246 := Tryz.func150.trans (congrArg some (by kernel_rfl))
  f247 := Tryz.func170.trans (congrArg some (by kernel_rfl))
  f279 := Tryz.func194.trans (congrArg some (by kernel_rfl))
  f280 := Tryz.func195.trans (congrArg some (by kernel_rfl))
  f281 := Tryz.func196.trans (congrArg some (by kernel_rfl))
  f282 := Tryz.func197.trans (congrArg some (by kernel_rfl))
  f283 := Tryz.func178.trans (congrArg some (by kernel_rfl))
  f284 := Tryz.func179.trans (congrArg some (by kernel_rfl))
  f285 := Tryz.func180.trans (congrArg some (by kernel_rfl))
  f286 := Tryz.func181.trans (congrArg some (by kernel_rfl))
  f287 := Tryz.func193.trans (congrArg some (by kernel_rfl))
  f316 := Tryz.func210.trans (congrArg some (by kernel_rfl))
  f317 := Tryz.func200.trans (congrArg some (by kernel_rfl))
  f318 := Tryz.func201.trans (congrArg some (by kernel_rfl))
  f319 := Tryz.func202.trans (congrArg some (by kernel_rfl))
  f320 := Tryz.func203.trans (congrArg some (by kernel_rfl))
  f321 := Tryz.func208.trans (congrArg some (by kernel_rfl))
  f322 := Tryz.func209.trans (congrArg some (by kernel_rfl))
  f337 := Tryz.func214.trans (congrArg some (by kernel_rfl))
  f338 := Tryz.func215.trans (congrArg some (by kernel_rfl))
  t0 := Tryz.underlying0
  a0 := Tryz.isAgg0
  z0 := Tryz.sizeOf0
  v0 := Tryz.zeroValue0
  t2 := Tryz.underlying2
  a2 := Tryz.isAgg2
  z2 := Tryz.sizeOf2
  v2 := Tryz.zeroValue2
  t3 := Tryz.underlying3
  a3 := Tryz.isAgg3
  z3 := Tryz.sizeOf3
  v3 := Tryz.zeroValue3
  t4 := Tryz.underlying4
  a4 := Tryz.isAgg4
  z4 := Tryz.sizeOf4
  v4 := Tryz.zeroValue4
  t5 := Tryz.underlying5
  a5 := Tryz.isAgg5
  z5 := Tryz.sizeOf5
  v5 := Tryz.zeroValue5
  t9 := Tryz.underlying9
  a9 := Tryz.isAgg9
  z9 := Tryz.sizeOf9
  v9 := Tryz.zeroValue9
  t20 := Tryz.underlying20
  a20 := Tryz.isAgg20
  z20 := Tryz.sizeOf20
  v20 := Tryz.zeroValue20
  t21 := Tryz.underlying21
  a21 := Tryz.isAgg21
  z21 := Tryz.sizeOf21
  v21 := Tryz.zeroValue21
  t37 := Tryz.underlying187
  a37 := Tryz.isAgg187
  z37 := Tryz.sizeOf187
  v37 := Tryz.zeroValue187
  t46 := Tryz.underlying125
  a46 := Tryz.isAgg125
  z46 := Tryz.sizeOf125
  v46 := Tryz.zeroValue125
  t51 := Tryz.underlying160
  a51 := Tryz.isAgg160
  z51 := Tryz.sizeOf160
  v51 := Tryz.zeroValue160
  t53 := Tryz.underlying162
  a53 := Tryz.isAgg162
  z53 := Tryz.sizeOf162
  v53 := Tryz.zeroValue162
  t75 := Tryz.underlying192
  a75 := Tryz.isAgg192
  z75 := Tryz.sizeOf192
  v75 := Tryz.zeroValue192
  t85 := Tryz.underlying213
  a85 := Tryz.isAgg213
  z85 := Tryz.sizeOf213
  v85 := Tryz.zeroValue213
  t127 := Tryz.underlying222
  a127 := Tryz.isAgg222
  z127 := Tryz.sizeOf222
  v127 := Tryz.zeroValue222
  t143 := Tryz.underlying284
  a143 := Tryz.isAgg284
  z143 := Tryz.sizeOf284
  v143 := Tryz.zeroValue284
  t145 := Tryz.underlying286
  a145 := Tryz.isAgg286
  z145 := Tryz.sizeOf286
  v145 := Tryz.zeroValue286
  t167 := Tryz.underlying267
  a167 := Tryz.isAgg267
  z167 := Tryz.sizeOf267
  v167 := Tryz.zeroValue267
  t168 := Tryz.underlying270
  a168 := Tryz.isAgg270
  z168 := Tryz.sizeOf270
  v168 := Tryz.zeroValue270
  t171 := Tryz.underlying252
  a171 := Tryz.isAgg252
  z171 := Tryz.sizeOf252
  v171 := Tryz.zeroValue252
  t173 := Tryz.underlying254
  a173 := Tryz.isAgg254
  z173 := Tryz.sizeOf254
  v173 := Tryz.zeroValue254
  t175 := Tryz.underlying268
  a175 := Tryz.isAgg268
  z175 := Tryz.sizeOf268
  v175 := Tryz.zeroValue268
  t210 := Tryz.underlying282
  a210 := Tryz.isAgg282
  z210 := Tryz.sizeOf282
  v210 := Tryz.zeroValue282
  t212 := Tryz.underlying275
  a212 := Tryz.isAgg275
  z212 := Tryz.sizeOf275
  v212 := Tryz.zeroValue275
  t213 := Tryz.underlying276
  a213 := Tryz.isAgg276
  z213 := Tryz.sizeOf276
  t232 := Tryz.underlying287
  a232 := Tryz.isAgg287
  z232 := Tryz.sizeOf287
  v232 := Tryz.zeroValue287
  t233 := Tryz.underlying288
  a233 := Tryz.isAgg288
  z233 := Tryz.sizeOf288
  v233 := Tryz.zeroValue288
  g15 := by kernel_rfl
  g16 := by kernel_rfl
  g17 := by kernel_rfl
  g18 := by kernel_rfl
  g19 := by kernel_rfl
  t80 := Tryz.underlying195
  a80 := Tryz.isAgg195
  z80 := Tryz.sizeOf195
  v80 := Tryz.zeroValue195
  i0 := by kernel_rfl
  i2 := by kernel_rfl
  i3 := by kernel_rfl
  i4 := by kernel_rfl
  i5 := by kernel_rfl
  i9 := by kernel_rfl
  i20 := by kernel_rfl
  i21 := by kernel_rfl
  i37 := by kernel_rfl
  i46 := by kernel_rfl
  i51 := by kernel_rfl
  i53 := by kernel_rfl
  i75 := by kernel_rfl
  i80 := by kernel_rfl
  i85 := by kernel_rfl
  i127 := by kernel_rfl
  i143 := by kernel_rfl
  i145 := by kernel_rfl
  i167 := by kernel_rfl
  i168 := by kernel_rfl
  i171 := by kernel_rfl
  i173 := by kernel_rfl
  i175 := by kernel_rfl
  i210 := by kernel_rfl
  i212 := by kernel_rfl
  i232 := by kernel_rfl
  i233 := by kernel_rfl
  m15 := by kernel_rfl
  m16 := by kernel_rfl
  m17 := by kernel_rfl
  m18 := by kernel_rfl
  m19 := by kernel_rfl
  c0 := by kernel_rfl
  c2 := by kernel_rfl
  c3 := by kernel_rfl
  c4 := by kernel_rfl
  c5 := by kernel_rfl
  c9 := by kernel_rfl
  c20 := by kernel_rfl
  c21 := by kernel_rfl
  c37 := by kernel_rfl
  c46 := by kernel_rfl
  c51 := by kernel_rfl
  c53 := by kernel_rfl
  c75 := by kernel_rfl
  c80 := by kernel_rfl
  c85 := by kernel_rfl
  c127 := by kernel_rfl
  c143 := by kernel_rfl
  c145 := by kernel_rfl
  c167 := by kernel_rfl
  c168 := by kernel_rfl
  c171 := by kernel_rfl
  c173 := by kernel_rfl
  c175 := by kernel_rfl
  c210 := by kernel_rfl
  c212 := by kernel_rfl
  c213 := by kernel_rfl
  c232 := by kernel_rfl
  c233 := by kernel_rfl }
open Go.RowKit in
/-- strconv.ParseInt(s, 10, 0), AT EVERY STRING THAT SPELLS AN int64 ('Lib.parseIntB 64 s.data.toList = .ok v'): v, AND NO ERROR. (LAID: no walk: one application.) -/
theorem Tryz.strconv_ParseInt_10_at0_ok (s : ByteArray) (hmax : s.size ≤ 9223372036854775806) (v : Int) (h : Lib.parseIntB 64 s.data.toList = .ok v) (w : World) :
    Calls Tryz.prog 143 #[.string s, .int .i64 10, .int .i64 0] w fun e w' => e = .returned (.tuple #[.int .i64 v, .nilIface]) ∧ (w' = w ∨ ∃ t, w' = Lib.bytesWorld w 5 t) := Any.strconv_ParseInt_10_at0_ok Tryz.laysC174 s hmax v h w
open Go.RowKit in
/-- strconv.ParseInt(s, 10, 0), AT EVERY NUMERAL THAT NO int64 HOLDS: THE GREATEST OR THE LEAST int64, BY THE SIGN ('Lib.intSat 64'), AND AN ERROR THAT IS NOT nil: a *NumError in a new block N: {Func: "ParseInt", Num: s's bytes, Err: what the variable ErrRange holds}. Of what was there nothing has turned. (LAID: no walk: one application.) -/
theorem Tryz.strconv_ParseInt_10_at0_range (s : ByteArray) (hlim : s.size ≤ 281474976710656) (h : Lib.parseIntB 64 s.data.toList = .range) (ev : Value) (w : World) (hv : w.cell? ⟨3, 0, none⟩ = some ev) (hev : ev = .nilIface ∨ ∃ te pe, ev = .iface te pe) :
    Calls Tryz.prog 143 #[.string s, .int .i64 10, .int .i64 0] w fun e w' => ∃ N, e = .returned (.tuple #[.int .i64 (Lib.intSat 64 s.data.toList), .iface 270 (.pointer (some ⟨N, 0, none⟩))]) ∧ w.heap.size ≤ N ∧ w'.heap[N]? = some (.cells #[.string ⟨#[80, 97, 114, 115, 101, 73, 110, 116]⟩, .string s, ev] 282 (0, 0)) ∧ Below w.heap.size w w' := Any.strconv_ParseInt_10_at0_range Tryz.laysC174 s hlim h ev w hv hev
open Go.RowKit in
/-- strconv.ParseInt(s, 10, 64), AT EVERY STRING THAT SPELLS AN int64 ('Lib.parseIntB 64 s.data.toList = .ok v'): v, AND NO ERROR. (LAID: no walk: one application.) -/
theorem Tryz.strconv_ParseInt_10_at64_ok (s : ByteArray) (hmax : s.size ≤ 9223372036854775806) (v : Int) (h : Lib.parseIntB 64 s.data.toList = .ok v) (w : World) :
    Calls Tryz.prog 143 #[.string s, .int .i64 10, .int .i64 64] w fun e w' => e = .returned (.tuple #[.int .i64 v, .nilIface]) ∧ (w' = w ∨ ∃ t, w' = Lib.bytesWorld w 5 t) := Any.strconv_ParseInt_10_at64_ok Tryz.laysC174 s hmax v h w
open Go.RowKit in
/-- strconv.ParseInt(s, 10, 64), AT EVERY NUMERAL THAT NO int64 HOLDS: THE GREATEST OR THE LEAST int64, BY THE SIGN ('Lib.intSat 64'), AND AN ERROR THAT IS NOT nil: a *NumError in a new block N: {Func: "ParseInt", Num: s's bytes, Err: what the variable ErrRange holds}. Of what was there nothing has turned. (LAID: no walk: one application.) -/
theorem Tryz.strconv_ParseInt_10_at64_range (s : ByteArray) (hlim : s.size ≤ 281474976710656) (h : Lib.parseIntB 64 s.data.toList = .range) (ev : Value) (w : World) (hv : w.cell? ⟨3, 0, none⟩ = some ev) (hev : ev = .nilIface ∨ ∃ te pe, ev = .iface te pe) :
    Calls Tryz.prog 143 #[.string s, .int .i64 10, .int .i64 64] w fun e w' => ∃ N, e = .returned (.tuple #[.int .i64 (Lib.intSat 64 s.data.toList), .iface 270 (.pointer (some ⟨N, 0, none⟩))]) ∧ w.heap.size ≤ N ∧ w'.heap[N]? = some (.cells #[.string ⟨#[80, 97, 114, 115, 101, 73, 110, 116]⟩, .string s, ev] 282 (0, 0)) ∧ Below w.heap.size w w' := Any.strconv_ParseInt_10_at64_range Tryz.laysC174 s hlim h ev w hv hev
open Go.RowKit in
/-- strconv.ParseInt(s, 10, 32), AT EVERY STRING THAT SPELLS AN int32 ('Lib.parseIntB 32 s.data.toList = .ok v'): v, AND NO ERROR. (LAID: no walk: one application.) -/
theorem Tryz.strconv_ParseInt_10_at32_ok (s : ByteArray) (hmax : s.size ≤ 9223372036854775806) (v : Int) (h : Lib.parseIntB 32 s.data.toList = .ok v) (w : World) :
    Calls Tryz.prog 143 #[.string s, .int .i64 10, .int .i64 32] w fun e w' => e = .returned (.tuple #[.int .i64 v, .nilIface]) ∧ (w' = w ∨ ∃ t, w' = Lib.bytesWorld w 5 t) := Any.strconv_ParseInt_10_at32_ok Tryz.laysC174 s hmax v h w
open Go.RowKit in
/-- strconv.ParseInt(s, 10, 32), AT EVERY NUMERAL THAT NO int32 HOLDS: THE GREATEST OR THE LEAST int32, BY THE SIGN ('Lib.intSat 32'), AND AN ERROR THAT IS NOT nil: a *NumError in a new block N: {Func: "ParseInt", Num: s's bytes, Err: what the variable ErrRange holds}. Of what was there nothing has turned. (LAID: no walk: one application.) -/
theorem Tryz.strconv_ParseInt_10_at32_range (s : ByteArray) (hlim : s.size ≤ 281474976710656) (h : Lib.parseIntB 32 s.data.toList = .range) (ev : Value) (w : World) (hv : w.cell? ⟨3, 0, none⟩ = some ev) (hev : ev = .nilIface ∨ ∃ te pe, ev = .iface te pe) :
    Calls Tryz.prog 143 #[.string s, .int .i64 10, .int .i64 32] w fun e w' => ∃ N, e = .returned (.tuple #[.int .i64 (Lib.intSat 32 s.data.toList), .iface 270 (.pointer (some ⟨N, 0, none⟩))]) ∧ w.heap.size ≤ N ∧ w'.heap[N]? = some (.cells #[.string ⟨#[80, 97, 114, 115, 101, 73, 110, 116]⟩, .string s, ev] 282 (0, 0)) ∧ Below w.heap.size w w' := Any.strconv_ParseInt_10_at32_range Tryz.laysC174 s hlim h ev w hv hev
open Go.RowKit in
/-- strconv.ParseInt(s, 10, 16), AT EVERY STRING THAT SPELLS AN int16 ('Lib.parseIntB 16 s.data.toList = .ok v'): v, AND NO ERROR. (LAID: no walk: one application.) -/
theorem Tryz.strconv_ParseInt_10_at16_ok (s : ByteArray) (hmax : s.size ≤ 9223372036854775806) (v : Int) (h : Lib.parseIntB 16 s.data.toList = .ok v) (w : World) :
    Calls Tryz.prog 143 #[.string s, .int .i64 10, .int .i64 16] w fun e w' => e = .returned (.tuple #[.int .i64 v, .nilIface]) ∧ (w' = w ∨ ∃ t, w' = Lib.bytesWorld w 5 t) := Any.strconv_ParseInt_10_at16_ok Tryz.laysC174 s hmax v h w
open Go.RowKit in
/-- strconv.ParseInt(s, 10, 16), AT EVERY NUMERAL THAT NO int16 HOLDS: THE GREATEST OR THE LEAST int16, BY THE SIGN ('Lib.intSat 16'), AND AN ERROR THAT IS NOT nil: a *NumError in a new block N: {Func: "ParseInt", Num: s's bytes, Err: what the variable ErrRange holds}. Of what was there nothing has turned. (LAID: no walk: one application.) -/
theorem Tryz.strconv_ParseInt_10_at16_range (s : ByteArray) (hlim : s.size ≤ 281474976710656) (h : Lib.parseIntB 16 s.data.toList = .range) (ev : Value) (w : World) (hv : w.cell? ⟨3, 0, none⟩ = some ev) (hev : ev = .nilIface ∨ ∃ te pe, ev = .iface te pe) :
    Calls Tryz.prog 143 #[.string s, .int .i64 10, .int .i64 16] w fun e w' => ∃ N, e = .returned (.tuple #[.int .i64 (Lib.intSat 16 s.data.toList), .iface 270 (.pointer (some ⟨N, 0, none⟩))]) ∧ w.heap.size ≤ N ∧ w'.heap[N]? = some (.cells #[.string ⟨#[80, 97, 114, 115, 101, 73, 110, 116]⟩, .string s, ev] 282 (0, 0)) ∧ Below w.heap.size w w' := Any.strconv_ParseInt_10_at16_range Tryz.laysC174 s hlim h ev w hv hev
open Go.RowKit in
/-- strconv.ParseInt(s, 10, 8), AT EVERY STRING THAT SPELLS AN int8 ('Lib.parseIntB 8 s.data.toList = .ok v'): v, AND NO ERROR. (LAID: no walk: one application.) -/
theorem Tryz.strconv_ParseInt_10_at8_ok (s : ByteArray) (hmax : s.size ≤ 9223372036854775806) (v : Int) (h : Lib.parseIntB 8 s.data.toList = .ok v) (w : World) :
    Calls Tryz.prog 143 #[.string s, .int .i64 10, .int .i64 8] w fun e w' => e = .returned (.tuple #[.int .i64 v, .nilIface]) ∧ (w' = w ∨ ∃ t, w' = Lib.bytesWorld w 5 t) := Any.strconv_ParseInt_10_at8_ok Tryz.laysC174 s hmax v h w
open Go.RowKit in
/-- strconv.ParseInt(s, 10, 8), AT EVERY NUMERAL THAT NO int8 HOLDS: THE GREATEST OR THE LEAST int8, BY THE SIGN ('Lib.intSat 8'), AND AN ERROR THAT IS NOT nil: a *NumError in a new block N: {Func: "ParseInt", Num: s's bytes, Err: what the variable ErrRange holds}. Of what was there nothing has turned. (LAID: no walk: one application.) -/
theorem Tryz.strconv_ParseInt_10_at8_range (s : ByteArray) (hlim : s.size ≤ 281474976710656) (h : Lib.parseIntB 8 s.data.toList = .range) (ev : Value) (w : World) (hv : w.cell? ⟨3, 0, none⟩ = some ev) (hev : ev = .nilIface ∨ ∃ te pe, ev = .iface te pe) :
    Calls Tryz.prog 143 #[.string s, .int .i64 10, .int .i64 8] w fun e w' => ∃ N, e = .returned (.tuple #[.int .i64 (Lib.intSat 8 s.data.toList), .iface 270 (.pointer (some ⟨N, 0, none⟩))]) ∧ w.heap.size ≤ N ∧ w'.heap[N]? = some (.cells #[.string ⟨#[80, 97, 114, 115, 101, 73, 110, 116]⟩, .string s, ev] 282 (0, 0)) ∧ Below w.heap.size w w' := Any.strconv_ParseInt_10_at8_range Tryz.laysC174 s hlim h ev w hv hev
def Tryz.lays264_ren : Go.Shelf.Ren := ⟨fun | 264 => 177 | n => n, fun | 53 => 162 | 46 => 125 | n => n, fun | n => n⟩
theorem Tryz.lays264 : Go.Proofs.Lays.n264 Tryz.prog Tryz.lays264_ren := {
  mixed := by kernel_rfl
  f264 := Tryz.func177.trans (congrArg some (by kernel_rfl))
  t46 := Tryz.underlying125
  a46 := Tryz.isAgg125
  z46 := Tryz.sizeOf125
  v46 := Tryz.zeroValue125
  t53 := Tryz.underlying162
  a53 := Tryz.isAgg162
  z53 := Tryz.sizeOf162
  v53 := Tryz.zeroValue162 }
open Go.RowKit Go.Lib in
theorem Tryz.bits_Mul64 (x y : Nat) (hx : x < 18446744073709551616) (hy : y < 18446744073709551616) (w : World) :
    Calls Tryz.prog 177 #[.int .u64 x, .int .u64 y] w fun e w' => e = .returned (.tuple #[.int .u64 ((x * y / 18446744073709551616 : Nat) : Int), .int .u64 ((x * y % 18446744073709551616 : Nat) : Int)]) ∧ w' = w := Any.bits_Mul64 Tryz.lays264 x y hx hy w
def Tryz.lays212_ren : Go.Shelf.Ren := ⟨fun | 212 => 149 | 263 => 176 | 264 => 177 | n => n, fun | 46 => 125 | 51 => 160 | 146 => 248 | 53 => 162 | 148 => 250 | n => n, fun | n => n⟩
theorem Tryz.lays212 : Go.Proofs.Lays.n212 Tryz.prog Tryz.lays212_ren := {
  mixed := by kernel_rfl
  f212 := Tryz.func149.trans (congrArg some (by kernel_rfl))
  f263 := Tryz.func176.trans (congrArg some (by kernel_rfl))
  f264 := Tryz.func177.trans (congrArg some (by kernel_rfl))
  t46 := Tryz.underlying125
  a46 := Tryz.isAgg125
  z46 := Tryz.sizeOf125
  v46 := Tryz.zeroValue125
  t51 := Tryz.underlying160
  a51 := Tryz.isAgg160
  z51 := Tryz.sizeOf160
  v51 := Tryz.zeroValue160
  t53 := Tryz.underlying162
  a53 := Tryz.isAgg162
  z53 := Tryz.sizeOf162
  v53 := Tryz.zeroValue162
  t146 := Tryz.underlying248
  a146 := Tryz.isAgg248
  z146 := Tryz.sizeOf248
  v146 := Tryz.zeroValue248
  t148 := Tryz.underlying250
  a148 := Tryz.isAgg250
  z148 := Tryz.sizeOf250
  v148 := Tryz.zeroValue250 }
open Go.RowKit Go.Lib in
/-- math/bits.Mul: "Mul returns the full-width product of x and y": on a machine of 64 bits: Mul64's. (LAID: no walk: one application.) -/
theorem Tryz.bits_Mul (x y : Nat) (hx : x < 18446744073709551616) (hy : y < 18446744073709551616) (w : World) :
    Calls Tryz.prog 149 #[.int .u64 x, .int .u64 y] w fun e w' => e = .returned (.tuple #[.int .u64 ((x * y / 18446744073709551616 : Nat) : Int), .int .u64 ((x * y % 18446744073709551616 : Nat) : Int)]) ∧ w' = w := Any.bits_Mul Tryz.lays212 x y hx hy w
end Go.Proofs
