/-
 Contracts of the library's functions at this seat, laid by the kit's tools (lay-shelf.mjs, lay-plain.mjs); those that are needed.
-/
import Derived.Shelf.Small.Strs
import Derived.Shelf.Strconv.Atoi
import Derived.Shelf.Strconv.Itoa0
import Derived.Shelf.Strconv.Itoa1
import Derived.Shelf.LaysM
import Derived.Shelf.Strconv.Itoa2
import Derived.Shelf.Strconv.Itoa3
import Derived.Shelf.Strconv.AtoiErrFast
import Derived.Shelf.Strconv.ParseIntEmpty
import Derived.Shelf.Strconv.AtoiFail
import Derived.Shelf.Strconv.Clone
import Derived.Shelf.Strconv.SyntaxError
import Derived.Shelf.LaysC
import Derived.Shelf.Strconv.ToError
import Derived.Shelf.Strconv.Lower
import Derived.Shelf.Strconv.ParseUint10
import Derived.Shelf.Strconv.ParseUint10Empty
import Derived.Shelf.Strconv.ParseUint10Any
import Derived.Shelf.Strconv.ParseInt10
import Derived.Shelf.Strconv.AtoiLong
import Derived.Shelf.Strconv.AtoiInnerAll
import Derived.Shelf.Strconv.RangeError
import Derived.Shelf.Strconv.ToErrorRange
import Derived.Shelf.Strconv.AtoiAll
import Derived.Shelf.Strings.Search1
import Derived.Shelf.Strings.Prefix
import Derived.Test.YtmhlneeboefkgaaGreatDoorProg
namespace Go.Proofs
open Go.Shelf
def Tryz.lays137_ren : Go.Shelf.Ren := ⟨fun | 137 => 66 | 217 => 80 | 266 => 89 | n => n, fun | 9 => 9 | 5 => 5 | 3 => 3 | n => n, fun | n => n⟩
theorem Tryz.lays137 : Go.Proofs.Lays.n137 Tryz.prog Tryz.lays137_ren := {
 mixed := by kernel_rfl
 f137 := Tryz.func66.trans (congrArg some (by kernel_rfl))
 f217 := Tryz.func80.trans (congrArg some (by kernel_rfl))
 f266 := Tryz.func89.trans (congrArg some (by kernel_rfl))
 t3 := Tryz.underlying3
 a3 := Tryz.isAgg3
 z3 := Tryz.sizeOf3
 v3 := Tryz.zeroValue3
 t5 := Tryz.underlying5
 a5 := Tryz.isAgg5
 z5 := Tryz.sizeOf5
 v5 := Tryz.zeroValue5
 t9 := Tryz.underlying9
 a9 := Tryz.isAgg9
 z9 := Tryz.sizeOf9
 v9 := Tryz.zeroValue9 }
open Go.RowKit in
/-- strings.IndexByte: "IndexByte returns the index of the first instance of c in s, or -1 if c is not present in s.": IT RETURNS 'Lib.indexByte s c'; the world is as it was. (LAID: no walk: one application.) -/
theorem Tryz.strings_IndexByte (s : ByteArray) (c : Int) (w : World) :
  Calls Tryz.prog 66 #[.string s, .int .u8 c] w fun e w' => e = .returned (.int .i64 (Lib.indexByte s.data.toList c.toNat.toUInt8)) ∧ w' = w := Any.strings_IndexByte Tryz.lays137 s c w
def Tryz.lays172_ren : Go.Shelf.Ren := ⟨fun | 172 => 72 | 244 => 83 | 245 => 84 | 247 => 90 | 279 => 91 | 280 => 92 | 281 => 93 | 282 => 94 | 287 => 96 | 316 => 97 | 171 => 99 | 205 => 98 | 321 => 100 | 322 => 101 | 243 => 102 | 246 => 103 | 283 => 104 | 284 => 105 | 285 => 106 | 286 => 107 | 129 => 109 | 317 => 108 | 318 => 110 | 319 => 111 | 320 => 112 | 337 => 113 | 338 => 114 | n => n, fun | 9 => 9 | 3 => 3 | 75 => 99 | 76 => 100 | 4 => 4 | 5 => 5 | 167 => 108 | 37 => 95 | 0 => 0 | 85 => 109 | 2 => 2 | 168 => 111 | 53 => 114 | 175 => 115 | 46 => 117 | 210 => 119 | 127 => 123 | 145 => 126 | 143 => 124 | 21 => 21 | 171 => 128 | 173 => 131 | 212 => 135 | 51 => 136 | 20 => 20 | 213 => 137 | 232 => 141 | 233 => 142 | 80 => 36 | n => n, fun | 15 => 3 | 16 => 4 | 17 => 5 | 18 => 6 | 19 => 7 | n => n⟩
theorem Tryz.lays172 : Go.Proofs.Lays.n172 Tryz.prog Tryz.lays172_ren := {
 mixed := by kernel_rfl
 f129 := Tryz.func109.trans (congrArg some (by kernel_rfl))
 f171 := Tryz.func99.trans (congrArg some (by kernel_rfl))
 f172 := Tryz.func72.trans (congrArg some (by kernel_rfl))
 f205 := Tryz.func98.trans (congrArg some (by kernel_rfl))
 f243 := Tryz.func102.trans (congrArg some (by kernel_rfl))
 f244 := Tryz.func83.trans (congrArg some (by kernel_rfl))
 f245 := Tryz.func84.trans (congrArg some (by kernel_rfl))
 f246 := Tryz.func103.trans (congrArg some (by kernel_rfl))
 f247 := Tryz.func90.trans (congrArg some (by kernel_rfl))
 f279 := Tryz.func91.trans (congrArg some (by kernel_rfl))
 f280 := Tryz.func92.trans (congrArg some (by kernel_rfl))
 f281 := Tryz.func93.trans (congrArg some (by kernel_rfl))
 f282 := Tryz.func94.trans (congrArg some (by kernel_rfl))
 f283 := Tryz.func104.trans (congrArg some (by kernel_rfl))
 f284 := Tryz.func105.trans (congrArg some (by kernel_rfl))
 f285 := Tryz.func106.trans (congrArg some (by kernel_rfl))
 f286 := Tryz.func107.trans (congrArg some (by kernel_rfl))
 f287 := Tryz.func96.trans (congrArg some (by kernel_rfl))
 f316 := Tryz.func97.trans (congrArg some (by kernel_rfl))
 f317 := Tryz.func108.trans (congrArg some (by kernel_rfl))
 f318 := Tryz.func110.trans (congrArg some (by kernel_rfl))
 f319 := Tryz.func111.trans (congrArg some (by kernel_rfl))
 f320 := Tryz.func112.trans (congrArg some (by kernel_rfl))
 f321 := Tryz.func100.trans (congrArg some (by kernel_rfl))
 f322 := Tryz.func101.trans (congrArg some (by kernel_rfl))
 f337 := Tryz.func113.trans (congrArg some (by kernel_rfl))
 f338 := Tryz.func114.trans (congrArg some (by kernel_rfl))
 t0 := Tryz.underlying0
 a0 := Tryz.isAgg0
 z0 := Tryz.sizeOf0
 v0 := Tryz.zeroValue0
 t2 := Tryz.underlying2
 a2 := Tryz.isAgg2
 z2 := Tryz.sizeOf2
 v2 := Tryz.zeroValue2
 t3 := Tryz.underlying3
 a3 := Tryz.isAgg3
 z3 := Tryz.sizeOf3
 v3 := Tryz.zeroValue3
 t4 := Tryz.underlying4
 a4 := Tryz.isAgg4
 z4 := Tryz.sizeOf4
 v4 := Tryz.zeroValue4
 t5 := Tryz.underlying5
 a5 := Tryz.isAgg5
 z5 := Tryz.sizeOf5
 v5 := Tryz.zeroValue5
 t9 := Tryz.underlying9
 a9 := Tryz.isAgg9
 z9 := Tryz.sizeOf9
 v9 := Tryz.zeroValue9
 t20 := Tryz.underlying20
 a20 := Tryz.isAgg20
 z20 := Tryz.sizeOf20
 v20 := Tryz.zeroValue20
 t21 := Tryz.underlying21
 a21 := Tryz.isAgg21
 z21 := Tryz.sizeOf21
 v21 := Tryz.zeroValue21
 t37 := Tryz.underlying95
 a37 := Tryz.isAgg95
 z37 := Tryz.sizeOf95
 v37 := Tryz.zeroValue95
 t46 := Tryz.underlying117
 a46 := Tryz.isAgg117
 z46 := Tryz.sizeOf117
 v46 := Tryz.zeroValue117
 t51 := Tryz.underlying136
 a51 := Tryz.isAgg136
 z51 := Tryz.sizeOf136
 v51 := Tryz.zeroValue136
 t53 := Tryz.underlying114
 a53 := Tryz.isAgg114
 z53 := Tryz.sizeOf114
 v53 := Tryz.zeroValue114
 t75 := Tryz.underlying99
 a75 := Tryz.isAgg99
 z75 := Tryz.sizeOf99
 v75 := Tryz.zeroValue99
 t76 := Tryz.underlying100
 a76 := Tryz.isAgg100
 z76 := Tryz.sizeOf100
 v76 := Tryz.zeroValue100
 t85 := Tryz.underlying109
 a85 := Tryz.isAgg109
 z85 := Tryz.sizeOf109
 v85 := Tryz.zeroValue109
 t127 := Tryz.underlying123
 a127 := Tryz.isAgg123
 z127 := Tryz.sizeOf123
 v127 := Tryz.zeroValue123
 t143 := Tryz.underlying124
 a143 := Tryz.isAgg124
 z143 := Tryz.sizeOf124
 v143 := Tryz.zeroValue124
 t145 := Tryz.underlying126
 a145 := Tryz.isAgg126
 z145 := Tryz.sizeOf126
 v145 := Tryz.zeroValue126
 t167 := Tryz.underlying108
 a167 := Tryz.isAgg108
 z167 := Tryz.sizeOf108
 v167 := Tryz.zeroValue108
 t168 := Tryz.underlying111
 a168 := Tryz.isAgg111
 z168 := Tryz.sizeOf111
 v168 := Tryz.zeroValue111
 t171 := Tryz.underlying128
 a171 := Tryz.isAgg128
 z171 := Tryz.sizeOf128
 v171 := Tryz.zeroValue128
 t173 := Tryz.underlying131
 a173 := Tryz.isAgg131
 z173 := Tryz.sizeOf131
 v173 := Tryz.zeroValue131
 t175 := Tryz.underlying115
 a175 := Tryz.isAgg115
 z175 := Tryz.sizeOf115
 v175 := Tryz.zeroValue115
 t210 := Tryz.underlying119
 a210 := Tryz.isAgg119
 z210 := Tryz.sizeOf119
 v210 := Tryz.zeroValue119
 t212 := Tryz.underlying135
 a212 := Tryz.isAgg135
 z212 := Tryz.sizeOf135
 v212 := Tryz.zeroValue135
 t213 := Tryz.underlying137
 a213 := Tryz.isAgg137
 z213 := Tryz.sizeOf137
 t232 := Tryz.underlying141
 a232 := Tryz.isAgg141
 z232 := Tryz.sizeOf141
 v232 := Tryz.zeroValue141
 t233 := Tryz.underlying142
 a233 := Tryz.isAgg142
 z233 := Tryz.sizeOf142
 v233 := Tryz.zeroValue142
 g15 := by kernel_rfl
 g16 := by kernel_rfl
 g17 := by kernel_rfl
 g18 := by kernel_rfl
 g19 := by kernel_rfl }
open Go.RowKit in
/-- strconv.Atoi: "Atoi is equivalent to ParseInt(s, 10, 0), converted to type int.": AT A DECIMAL NUMERAL OF AT MOST 18 BYTES: its value, and a nil error. The world behind the call: the one new row that the library's '[]byte(s)' lays. (LAID: no walk: one application.) -/
theorem Tryz.strconv_Atoi (s : ByteArray) (n : Int) (hl : s.size ≤ 18) (h : Lib.atoi s.data.toList = some n) (w : World) :
  Calls Tryz.prog 72 #[.string s] w fun e w' => e = .returned (.tuple #[.int .i64 n, .nilIface]) ∧ ∃ t, w' = Lib.bytesWorld w 5 t := Any.strconv_Atoi Tryz.lays172 s n hl h w
def Tryz.lays99_ren : Go.Shelf.Ren := ⟨fun | 99 => 65 | 206 => 79 | n => n, fun | 9 => 9 | 4 => 4 | 3 => 3 | n => n, fun | n => n⟩
theorem Tryz.lays99 : Go.Proofs.Lays.n99 Tryz.prog Tryz.lays99_ren := {
 mixed := by kernel_rfl
 f99 := Tryz.func65.trans (congrArg some (by kernel_rfl))
 f206 := Tryz.func79.trans (congrArg some (by kernel_rfl))
 t3 := Tryz.underlying3
 a3 := Tryz.isAgg3
 z3 := Tryz.sizeOf3
 v3 := Tryz.zeroValue3
 t4 := Tryz.underlying4
 a4 := Tryz.isAgg4
 z4 := Tryz.sizeOf4
 v4 := Tryz.zeroValue4
 t9 := Tryz.underlying9
 a9 := Tryz.isAgg9
 z9 := Tryz.sizeOf9
 v9 := Tryz.zeroValue9 }
open Go.RowKit Go.Lib in
/-- strings.HasPrefix: "HasPrefix reports whether the string s begins with prefix.": IT RETURNS 'Lib.hasPrefix s prefix'; the world is as it was. (LAID: no walk: one application.) -/
theorem Tryz.strings_HasPrefix (s p : ByteArray) (w : World) :
  Calls Tryz.prog 65 #[.string s, .string p] w fun e w' => e = .returned (.bool (Lib.hasPrefix s.data.toList p.data.toList)) ∧ w' = w := Any.strings_HasPrefix Tryz.lays99 s p w
end Go.Proofs
