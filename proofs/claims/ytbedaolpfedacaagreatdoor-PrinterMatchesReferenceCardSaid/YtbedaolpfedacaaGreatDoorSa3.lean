/-
  Contracts of the library's functions at this seat, laid by the kit's tools (lay-shelf.mjs, lay-plain.mjs); those that are needed.
-/
import Derived.Shelf.Strings.Builder1
import Derived.Shelf.Strings.Builder2
import Derived.Shelf.Strings.OnBuilder
import Derived.Shelf.Small.Strs
import Derived.Shelf.Strconv.Atoi
import Derived.Shelf.Strconv.Itoa0
import Derived.Shelf.Strconv.Itoa1
import Derived.Shelf.LaysM
import Derived.Shelf.Strconv.Itoa2
import Derived.Shelf.Strconv.Itoa3
import Derived.Shelf.Strconv.AtoiErrFast
import Derived.Shelf.Strconv.ParseIntEmpty
import Derived.Shelf.Strconv.AtoiFail
import Derived.Shelf.Strconv.Clone
import Derived.Shelf.Strconv.SyntaxError
import Derived.Shelf.LaysC
import Derived.Shelf.Strconv.ToError
import Derived.Shelf.Strconv.Lower
import Derived.Shelf.Strconv.ParseUint10
import Derived.Shelf.Strconv.ParseUint10Empty
import Derived.Shelf.Strconv.ParseUint10Any
import Derived.Shelf.Strconv.ParseInt10
import Derived.Shelf.Strconv.AtoiLong
import Derived.Shelf.Strconv.AtoiInnerAll
import Derived.Shelf.Strconv.RangeError
import Derived.Shelf.Strconv.ToErrorRange
import Derived.Shelf.Strconv.AtoiAll
import Derived.Shelf.Strings.Search1
import Derived.Shelf.Strings.Prefix
import Derived.Test.YtbedaolpfedacaaGreatDoorProg
namespace Go.Proofs
open Go.Shelf
def Tryz.lays156_ren : Go.Shelf.Ren := ⟨fun | 156 => 74 | 165 => 102 | 166 => 73 | 169 => 49 | 240 => 101 | 241 => 116 | 276 => 115 | 277 => 132 | n => n, fun | 31 => 23 | 9 => 9 | 3 => 3 | 4 => 4 | 0 => 0 | 20 => 20 | 72 => 73 | 76 => 103 | 70 => 70 | 37 => 71 | 75 => 101 | 127 => 106 | 164 => 135 | 5 => 5 | 80 => 80 | n => n, fun | n => n⟩
theorem Tryz.lays156 : Go.Proofs.Lays.n156 Tryz.prog Tryz.lays156_ren := {
 mixed := by kernel_rfl
 f156 := Tryz.func74.trans (congrArg some (by kernel_rfl))
 f165 := Tryz.func102.trans (congrArg some (by kernel_rfl))
 f166 := Tryz.func73.trans (congrArg some (by kernel_rfl))
 f169 := Tryz.func49.trans (congrArg some (by kernel_rfl))
 f240 := Tryz.func101.trans (congrArg some (by kernel_rfl))
 f241 := Tryz.func116.trans (congrArg some (by kernel_rfl))
 f276 := Tryz.func115.trans (congrArg some (by kernel_rfl))
 f277 := Tryz.func132.trans (congrArg some (by kernel_rfl))
 t0 := Tryz.underlying0
 a0 := Tryz.isAgg0
 z0 := Tryz.sizeOf0
 v0 := Tryz.zeroValue0
 t3 := Tryz.underlying3
 a3 := Tryz.isAgg3
 z3 := Tryz.sizeOf3
 v3 := Tryz.zeroValue3
 t4 := Tryz.underlying4
 a4 := Tryz.isAgg4
 z4 := Tryz.sizeOf4
 v4 := Tryz.zeroValue4
 t9 := Tryz.underlying9
 a9 := Tryz.isAgg9
 z9 := Tryz.sizeOf9
 v9 := Tryz.zeroValue9
 t20 := Tryz.underlying20
 a20 := Tryz.isAgg20
 z20 := Tryz.sizeOf20
 v20 := Tryz.zeroValue20
 t31 := Tryz.underlying23
 a31 := Tryz.isAgg23
 z31 := Tryz.sizeOf23
 v31 := Tryz.zeroValue23
 t37 := Tryz.underlying71
 a37 := Tryz.isAgg71
 z37 := Tryz.sizeOf71
 v37 := Tryz.zeroValue71
 t70 := Tryz.underlying70
 a70 := Tryz.isAgg70
 z70 := Tryz.sizeOf70
 v70 := Tryz.zeroValue70
 t72 := Tryz.underlying73
 a72 := Tryz.isAgg73
 z72 := Tryz.sizeOf73
 v72 := Tryz.zeroValue73
 t75 := Tryz.underlying101
 a75 := Tryz.isAgg101
 z75 := Tryz.sizeOf101
 v75 := Tryz.zeroValue101
 t76 := Tryz.underlying103
 a76 := Tryz.isAgg103
 z76 := Tryz.sizeOf103
 v76 := Tryz.zeroValue103
 t127 := Tryz.underlying106
 a127 := Tryz.isAgg106
 z127 := Tryz.sizeOf106
 v127 := Tryz.zeroValue106
 t164 := Tryz.underlying135
 a164 := Tryz.isAgg135
 z164 := Tryz.sizeOf135
 v164 := Tryz.zeroValue135 }
theorem Tryz.Builder_Extra_156 : Builder.Extra Tryz.prog Tryz.lays156_ren := {
 sizeBuilder := by kernel_rfl
 liesBuilder := by kernel_rfl
 t5 := Tryz.underlying5
 a5 := Tryz.isAgg5
 z5 := Tryz.sizeOf5
 v5 := Tryz.zeroValue5
 infoByte := by kernel_rfl
 cellsByte := by kernel_rfl
 sizeByte := by kernel_rfl
 neB5 := by decide }
def Tryz.lays137_ren : Go.Shelf.Ren := ⟨fun | 137 => 108 | 217 => 127 | 266 => 139 | n => n, fun | 9 => 9 | 5 => 5 | 3 => 3 | n => n, fun | n => n⟩
theorem Tryz.lays137 : Go.Proofs.Lays.n137 Tryz.prog Tryz.lays137_ren := {
 mixed := by kernel_rfl
 f137 := Tryz.func108.trans (congrArg some (by kernel_rfl))
 f217 := Tryz.func127.trans (congrArg some (by kernel_rfl))
 f266 := Tryz.func139.trans (congrArg some (by kernel_rfl))
 t3 := Tryz.underlying3
 a3 := Tryz.isAgg3
 z3 := Tryz.sizeOf3
 v3 := Tryz.zeroValue3
 t5 := Tryz.underlying5
 a5 := Tryz.isAgg5
 z5 := Tryz.sizeOf5
 v5 := Tryz.zeroValue5
 t9 := Tryz.underlying9
 a9 := Tryz.isAgg9
 z9 := Tryz.sizeOf9
 v9 := Tryz.zeroValue9 }
open Go.RowKit in
theorem Tryz.strings_IndexByte (s : ByteArray) (c : Int) (w : World) :
  Calls Tryz.prog 108 #[.string s, .int .u8 c] w fun e w' => e = .returned (.int .i64 (Lib.indexByte s.data.toList c.toNat.toUInt8)) ∧ w' = w := Any.strings_IndexByte Tryz.lays137 s c w
def Tryz.lays172_ren : Go.Shelf.Ren := ⟨fun | 172 => 114 | 244 => 130 | 245 => 131 | 247 => 140 | 279 => 141 | 280 => 142 | 281 => 143 | 282 => 144 | 287 => 147 | 316 => 148 | 171 => 47 | 205 => 149 | 321 => 150 | 322 => 151 | 243 => 75 | 246 => 103 | 283 => 117 | 284 => 118 | 285 => 119 | 286 => 120 | 129 => 134 | 317 => 133 | 318 => 135 | 319 => 136 | 320 => 137 | 337 => 145 | 338 => 146 | n => n, fun | 9 => 9 | 3 => 3 | 75 => 101 | 76 => 103 | 4 => 4 | 5 => 5 | 167 => 152 | 37 => 71 | 0 => 0 | 85 => 153 | 2 => 2 | 168 => 155 | 53 => 138 | 175 => 159 | 46 => 150 | 210 => 162 | 127 => 106 | 145 => 169 | 143 => 167 | 21 => 21 | 171 => 137 | 173 => 141 | 212 => 147 | 51 => 148 | 20 => 20 | 213 => 149 | 232 => 164 | 233 => 165 | 80 => 80 | n => n, fun | 15 => 5 | 16 => 6 | 17 => 3 | 18 => 7 | 19 => 8 | n => n⟩
theorem Tryz.lays172 : Go.Proofs.Lays.n172 Tryz.prog Tryz.lays172_ren := {
 mixed := by kernel_rfl
 f129 := Tryz.func134.trans (congrArg some (by kernel_rfl))
 f171 := Tryz.func47.trans (congrArg some (by kernel_rfl))
 f172 := Tryz.func114.trans (congrArg some (by kernel_rfl))
 f205 := Tryz.func149.trans (congrArg some (by kernel_rfl))
 f243 := Tryz.func75.trans (congrArg some (by kernel_rfl))
 f244 := Tryz.func130.trans (congrArg some (by kernel_rfl))
 f245 := Tryz.func131.trans (congrArg some (by kernel_rfl))
 f246 := Tryz.func103.trans (congrArg some (by kernel_rfl))
 f247 := Tryz.func140.trans (congrArg some (by kernel_rfl))
 f279 := Tryz.func141.trans (congrArg some (by kernel_rfl))
 f280 := Tryz.func142.trans (congrArg some (by kernel_rfl))
 f281 := Tryz.func143.trans (congrArg some (by kernel_rfl))
 f282 := Tryz.func144.trans (congrArg some (by kernel_rfl))
 f283 := Tryz.func117.trans (congrArg some (by kernel_rfl))
 f284 := Tryz.func118.trans (congrArg some (by kernel_rfl))
 f285 := Tryz.func119.trans (congrArg some (by kernel_rfl))
 f286 := Tryz.func120.trans (congrArg some (by kernel_rfl))
 f287 := Tryz.func147.trans (congrArg some (by kernel_rfl))
 f316 := Tryz.func148.trans (congrArg some (by kernel_rfl))
 f317 := Tryz.func133.trans (congrArg some (by kernel_rfl))
 f318 := Tryz.func135.trans (congrArg some (by kernel_rfl))
 f319 := Tryz.func136.trans (congrArg some (by kernel_rfl))
 f320 := Tryz.func137.trans (congrArg some (by kernel_rfl))
 f321 := Tryz.func150.trans (congrArg some (by kernel_rfl))
 f322 := Tryz.func151.trans (congrArg some (by kernel_rfl))
 f337 := Tryz.func145.trans (congrArg some (by kernel_rfl))
 f338 := Tryz.func146.trans (congrArg some (by kernel_rfl))
 t0 := Tryz.underlying0
 a0 := Tryz.isAgg0
 z0 := Tryz.sizeOf0
 v0 := Tryz.zeroValue0
 t2 := Tryz.underlying2
 a2 := Tryz.isAgg2
 z2 := Tryz.sizeOf2
 v2 := Tryz.zeroValue2
 t3 := Tryz.underlying3
 a3 := Tryz.isAgg3
 z3 := Tryz.sizeOf3
 v3 := Tryz.zeroValue3
 t4 := Tryz.underlying4
 a4 := Tryz.isAgg4
 z4 := Tryz.sizeOf4
 v4 := Tryz.zeroValue4
 t5 := Tryz.underlying5
 a5 := Tryz.isAgg5
 z5 := Tryz.sizeOf5
 v5 := Tryz.zeroValue5
 t9 := Tryz.underlying9
 a9 := Tryz.isAgg9
 z9 := Tryz.sizeOf9
 v9 := Tryz.zeroValue9
 t20 := Tryz.underlying20
 a20 := Tryz.isAgg20
 z20 := Tryz.sizeOf20
 v20 := Tryz.zeroValue20
 t21 := Tryz.underlying21
 a21 := Tryz.isAgg21
 z21 := Tryz.sizeOf21
 v21 := Tryz.zeroValue21
 t37 := Tryz.underlying71
 a37 := Tryz.isAgg71
 z37 := Tryz.sizeOf71
 v37 := Tryz.zeroValue71
 t46 := Tryz.underlying150
 a46 := Tryz.isAgg150
 z46 := Tryz.sizeOf150
 v46 := Tryz.zeroValue150
 t51 := Tryz.underlying148
 a51 := Tryz.isAgg148
 z51 := Tryz.sizeOf148
 v51 := Tryz.zeroValue148
 t53 := Tryz.underlying138
 a53 := Tryz.isAgg138
 z53 := Tryz.sizeOf138
 v53 := Tryz.zeroValue138
 t75 := Tryz.underlying101
 a75 := Tryz.isAgg101
 z75 := Tryz.sizeOf101
 v75 := Tryz.zeroValue101
 t76 := Tryz.underlying103
 a76 := Tryz.isAgg103
 z76 := Tryz.sizeOf103
 v76 := Tryz.zeroValue103
 t85 := Tryz.underlying153
 a85 := Tryz.isAgg153
 z85 := Tryz.sizeOf153
 v85 := Tryz.zeroValue153
 t127 := Tryz.underlying106
 a127 := Tryz.isAgg106
 z127 := Tryz.sizeOf106
 v127 := Tryz.zeroValue106
 t143 := Tryz.underlying167
 a143 := Tryz.isAgg167
 z143 := Tryz.sizeOf167
 v143 := Tryz.zeroValue167
 t145 := Tryz.underlying169
 a145 := Tryz.isAgg169
 z145 := Tryz.sizeOf169
 v145 := Tryz.zeroValue169
 t167 := Tryz.underlying152
 a167 := Tryz.isAgg152
 z167 := Tryz.sizeOf152
 v167 := Tryz.zeroValue152
 t168 := Tryz.underlying155
 a168 := Tryz.isAgg155
 z168 := Tryz.sizeOf155
 v168 := Tryz.zeroValue155
 t171 := Tryz.underlying137
 a171 := Tryz.isAgg137
 z171 := Tryz.sizeOf137
 v171 := Tryz.zeroValue137
 t173 := Tryz.underlying141
 a173 := Tryz.isAgg141
 z173 := Tryz.sizeOf141
 v173 := Tryz.zeroValue141
 t175 := Tryz.underlying159
 a175 := Tryz.isAgg159
 z175 := Tryz.sizeOf159
 v175 := Tryz.zeroValue159
 t210 := Tryz.underlying162
 a210 := Tryz.isAgg162
 z210 := Tryz.sizeOf162
 v210 := Tryz.zeroValue162
 t212 := Tryz.underlying147
 a212 := Tryz.isAgg147
 z212 := Tryz.sizeOf147
 v212 := Tryz.zeroValue147
 t213 := Tryz.underlying149
 a213 := Tryz.isAgg149
 z213 := Tryz.sizeOf149
 t232 := Tryz.underlying164
 a232 := Tryz.isAgg164
 z232 := Tryz.sizeOf164
 v232 := Tryz.zeroValue164
 t233 := Tryz.underlying165
 a233 := Tryz.isAgg165
 z233 := Tryz.sizeOf165
 v233 := Tryz.zeroValue165
 g15 := by kernel_rfl
 g16 := by kernel_rfl
 g17 := by kernel_rfl
 g18 := by kernel_rfl
 g19 := by kernel_rfl }
open Go.RowKit in
theorem Tryz.strconv_Atoi (s : ByteArray) (n : Int) (hl : s.size ≤ 18) (h : Lib.atoi s.data.toList = some n) (w : World) :
  Calls Tryz.prog 114 #[.string s] w fun e w' => e = .returned (.tuple #[.int .i64 n, .nilIface]) ∧ ∃ t, w' = Lib.bytesWorld w 5 t := Any.strconv_Atoi Tryz.lays172 s n hl h w
def Tryz.laysM171_ren : Go.Shelf.Ren := ⟨fun | 171 => 47 | 243 => 75 | 246 => 103 | 283 => 117 | 284 => 118 | 285 => 119 | 286 => 120 | 129 => 134 | 317 => 133 | 318 => 135 | 319 => 136 | 320 => 137 | 337 => 145 | 338 => 146 | n => n, fun | 3 => 3 | 9 => 9 | 2 => 2 | 4 => 4 | 171 => 137 | 0 => 0 | 53 => 138 | 37 => 71 | 5 => 5 | 173 => 141 | 212 => 147 | 51 => 148 | 20 => 20 | 213 => 149 | 46 => 150 | 232 => 164 | 233 => 165 | n => n, fun | 17 => 3 | 18 => 7 | 19 => 8 | n => n⟩
theorem Tryz.laysM171 : Go.Proofs.LaysM.n171 Tryz.prog Tryz.laysM171_ren := {
 mixed := by kernel_rfl
 f129 := Tryz.func134.trans (congrArg some (by kernel_rfl))
 f171 := Tryz.func47.trans (congrArg some (by kernel_rfl))
 f243 := Tryz.func75.trans (congrArg some (by kernel_rfl))
 f246 := Tryz.func103.trans (congrArg some (by kernel_rfl))
 f283 := Tryz.func117.trans (congrArg some (by kernel_rfl))
 f284 := Tryz.func118.trans (congrArg some (by kernel_rfl))
 f285 := Tryz.func119.trans (congrArg some (by kernel_rfl))
 f286 := Tryz.func120.trans (congrArg some (by kernel_rfl))
 f317 := Tryz.func133.trans (congrArg some (by kernel_rfl))
 f318 := Tryz.func135.trans (congrArg some (by kernel_rfl))
 f319 := Tryz.func136.trans (congrArg some (by kernel_rfl))
 f320 := Tryz.func137.trans (congrArg some (by kernel_rfl))
 f337 := Tryz.func145.trans (congrArg some (by kernel_rfl))
 f338 := Tryz.func146.trans (congrArg some (by kernel_rfl))
 t0 := Tryz.underlying0
 a0 := Tryz.isAgg0
 z0 := Tryz.sizeOf0
 v0 := Tryz.zeroValue0
 t2 := Tryz.underlying2
 a2 := Tryz.isAgg2
 z2 := Tryz.sizeOf2
 v2 := Tryz.zeroValue2
 t3 := Tryz.underlying3
 a3 := Tryz.isAgg3
 z3 := Tryz.sizeOf3
 v3 := Tryz.zeroValue3
 t4 := Tryz.underlying4
 a4 := Tryz.isAgg4
 z4 := Tryz.sizeOf4
 v4 := Tryz.zeroValue4
 t5 := Tryz.underlying5
 a5 := Tryz.isAgg5
 z5 := Tryz.sizeOf5
 v5 := Tryz.zeroValue5
 t9 := Tryz.underlying9
 a9 := Tryz.isAgg9
 z9 := Tryz.sizeOf9
 v9 := Tryz.zeroValue9
 t20 := Tryz.underlying20
 a20 := Tryz.isAgg20
 z20 := Tryz.sizeOf20
 v20 := Tryz.zeroValue20
 t37 := Tryz.underlying71
 a37 := Tryz.isAgg71
 z37 := Tryz.sizeOf71
 v37 := Tryz.zeroValue71
 t46 := Tryz.underlying150
 a46 := Tryz.isAgg150
 z46 := Tryz.sizeOf150
 v46 := Tryz.zeroValue150
 t51 := Tryz.underlying148
 a51 := Tryz.isAgg148
 z51 := Tryz.sizeOf148
 v51 := Tryz.zeroValue148
 t53 := Tryz.underlying138
 a53 := Tryz.isAgg138
 z53 := Tryz.sizeOf138
 v53 := Tryz.zeroValue138
 t171 := Tryz.underlying137
 a171 := Tryz.isAgg137
 z171 := Tryz.sizeOf137
 v171 := Tryz.zeroValue137
 t173 := Tryz.underlying141
 a173 := Tryz.isAgg141
 z173 := Tryz.sizeOf141
 v173 := Tryz.zeroValue141
 t212 := Tryz.underlying147
 a212 := Tryz.isAgg147
 z212 := Tryz.sizeOf147
 v212 := Tryz.zeroValue147
 t213 := Tryz.underlying149
 a213 := Tryz.isAgg149
 z213 := Tryz.sizeOf149
 t232 := Tryz.underlying164
 a232 := Tryz.isAgg164
 z232 := Tryz.sizeOf164
 v232 := Tryz.zeroValue164
 t233 := Tryz.underlying165
 a233 := Tryz.isAgg165
 z233 := Tryz.sizeOf165
 v233 := Tryz.zeroValue165
 g17 := by kernel_rfl
 g18 := by kernel_rfl
 g19 := by kernel_rfl
 i0 := by kernel_rfl
 i2 := by kernel_rfl
 i3 := by kernel_rfl
 i4 := by kernel_rfl
 i5 := by kernel_rfl
 i9 := by kernel_rfl
 i20 := by kernel_rfl
 i37 := by kernel_rfl
 i46 := by kernel_rfl
 i51 := by kernel_rfl
 i53 := by kernel_rfl
 i171 := by kernel_rfl
 i173 := by kernel_rfl
 i212 := by kernel_rfl
 i232 := by kernel_rfl
 i233 := by kernel_rfl
 m17 := by kernel_rfl
 m18 := by kernel_rfl
 m19 := by kernel_rfl }
open Go.RowKit Go.Sort Go.Lib in
theorem Tryz.strconv_Itoa (n : Int) (h0 : -9223372036854775808 ≤ n) (h1 : n ≤ 9223372036854775807) (w : World) (htab : Lib.TabIs Tryz.prog w "internal/strconv.uint64pow10" .u64 Lib.pow10Tab) :
  Calls Tryz.prog 47 #[.int .i64 n] w fun e w' => e = .returned (.string ⟨(Lib.itoa n).toArray⟩) ∧ ∃ k os, w' = grow (w.drewN k) os := Any.strconv_Itoa Tryz.laysM171 n h0 h1 w htab
end Go.Proofs
