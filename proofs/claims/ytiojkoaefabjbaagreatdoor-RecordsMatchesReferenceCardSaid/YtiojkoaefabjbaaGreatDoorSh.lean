/-
  Contracts of the library's functions at this seat, laid by the kit's tools (lay-shelf.mjs, lay-plain.mjs); those that are needed.
-/
import Derived.Shelf.Strings.Builder1
import Derived.Shelf.Strings.Builder2
import Derived.Shelf.Strings.OnBuilder
import Derived.Shelf.Small.Bits
import Derived.Shelf.Strconv.Atoi
import Derived.Shelf.Strconv.Itoa0
import Derived.Shelf.Strconv.Itoa1
import Derived.Shelf.LaysM
import Derived.Shelf.Strconv.Itoa2
import Derived.Shelf.Strconv.Itoa3
import Derived.Shelf.Strconv.AtoiErrFast
import Derived.Shelf.Strconv.ParseIntEmpty
import Derived.Shelf.Strconv.AtoiFail
import Derived.Shelf.Strconv.Clone
import Derived.Shelf.Strconv.SyntaxError
import Derived.Shelf.LaysC
import Derived.Shelf.Strconv.ToError
import Derived.Shelf.Strconv.Lower
import Derived.Shelf.Strconv.ParseUint10
import Derived.Shelf.Strconv.ParseUint10Empty
import Derived.Shelf.Strconv.ParseUint10Any
import Derived.Shelf.Strconv.ParseInt10
import Derived.Shelf.Strconv.AtoiLong
import Derived.Shelf.Strconv.AtoiInnerAll
import Derived.Shelf.Strconv.RangeError
import Derived.Shelf.Strconv.ToErrorRange
import Derived.Shelf.Strconv.AtoiAll
import Derived.Shelf.Strings.Search1
import Derived.Shelf.Strings.Search2
import Derived.Shelf.Strings.Search3
import Derived.Shelf.Strings.Count
import Derived.Shelf.Strings.Shaped
import Derived.Shelf.GgClosure.StringsIndexFunc
import Derived.Ground.GgwProg
import Derived.Shelf.GgClosure.StringsIndexFuncTop
import Derived.Shelf.Strings.Split
import Derived.Shelf.Unicode.DecodeSlow
import Derived.Shelf.Unicode.DecodeAny
import Derived.Shelf.Strings.FuncGrows
import Derived.Ground.Names2Prog
import Derived.Shelf.Slices.Clone
import Derived.Test.YtiojkoaefabjbaaGreatDoorProg
namespace Go.Proofs
open Go.Shelf
def Tryz.lays156_ren : Go.Shelf.Ren := ⟨fun | 156 => 51 | 165 => 80 | 166 => 81 | 169 => 82 | 240 => 108 | 241 => 109 | 276 => 127 | 277 => 128 | n => n, fun | 31 => 26 | 9 => 9 | 3 => 3 | 4 => 4 | 0 => 0 | 20 => 20 | 72 => 101 | 76 => 54 | 70 => 99 | 37 => 87 | 75 => 53 | 127 => 132 | 164 => 147 | 5 => 5 | 80 => 103 | n => n, fun | n => n⟩
theorem Tryz.lays156 : Go.Proofs.Lays.n156 Tryz.prog Tryz.lays156_ren := {
  mixed := by kernel_rfl
  f156 := Tryz.func51.trans (congrArg some (by kernel_rfl))
  f165 := Tryz.func80.trans (congrArg some (by kernel_rfl))
  f166 := Tryz.func81.trans (congrArg some (by kernel_rfl))
  f169 := Tryz.func82.trans (congrArg some (by kernel_rfl))
  f240 := Tryz.func108.trans (congrArg some (by kernel_rfl))
  f241 := Tryz.func109.trans (congrArg some (by kernel_rfl))
  f276 := Tryz.func127.trans (congrArg some (by kernel_rfl))
  f277 := Tryz.func128.trans (congrArg some (by kernel_rfl))
  t0 := Tryz.underlying0
  a0 := Tryz.isAgg0
  z0 := Tryz.sizeOf0
  v0 := Tryz.zeroValue0
  t3 := Tryz.underlying3
  a3 := Tryz.isAgg3
  z3 := Tryz.sizeOf3
  v3 := Tryz.zeroValue3
  t4 := Tryz.underlying4
  a4 := Tryz.isAgg4
  z4 := Tryz.sizeOf4
  v4 := Tryz.zeroValue4
  t9 := Tryz.underlying9
  a9 := Tryz.isAgg9
  z9 := Tryz.sizeOf9
  v9 := Tryz.zeroValue9
  t20 := Tryz.underlying20
  a20 := Tryz.isAgg20
  z20 := Tryz.sizeOf20
  v20 := Tryz.zeroValue20
  t31 := Tryz.underlying26
  a31 := Tryz.isAgg26
  z31 := Tryz.sizeOf26
  v31 := Tryz.zeroValue26
  t37 := Tryz.underlying87
  a37 := Tryz.isAgg87
  z37 := Tryz.sizeOf87
  v37 := Tryz.zeroValue87
  t70 := Tryz.underlying99
  a70 := Tryz.isAgg99
  z70 := Tryz.sizeOf99
  v70 := Tryz.zeroValue99
  t72 := Tryz.underlying101
  a72 := Tryz.isAgg101
  z72 := Tryz.sizeOf101
  v72 := Tryz.zeroValue101
  t75 := Tryz.underlying53
  a75 := Tryz.isAgg53
  z75 := Tryz.sizeOf53
  v75 := Tryz.zeroValue53
  t76 := Tryz.underlying54
  a76 := Tryz.isAgg54
  z76 := Tryz.sizeOf54
  v76 := Tryz.zeroValue54
  t127 := Tryz.underlying132
  a127 := Tryz.isAgg132
  z127 := Tryz.sizeOf132
  v127 := Tryz.zeroValue132
  t164 := Tryz.underlying147
  a164 := Tryz.isAgg147
  z164 := Tryz.sizeOf147
  v164 := Tryz.zeroValue147 }
theorem Tryz.Builder_Extra_156 : Builder.Extra Tryz.prog Tryz.lays156_ren := {
  sizeBuilder := by kernel_rfl
  liesBuilder := by kernel_rfl
  t5 := Tryz.underlying5
  a5 := Tryz.isAgg5
  z5 := Tryz.sizeOf5
  v5 := Tryz.zeroValue5
  infoByte := by kernel_rfl
  cellsByte := by kernel_rfl
  sizeByte := by kernel_rfl
  neB5 := by decide }
open Go.RowKit in
/-- No element: the empty string; the world is as it was. (Whatever the slice's address and capacity: a nil slice too.) (LAID: no walk: one application.) -/
theorem Tryz.strings_Join_none (a : Option Addr) (c : Nat) (sep : ByteArray) (w : World) :
    Calls Tryz.prog 51 #[.slice a 0 c, .string sep] w fun e w' => e = .returned (.string ⟨#[]⟩) ∧ w' = w := Any.strings_Join_none Tryz.lays156 Tryz.Builder_Extra_156 a c sep w
open Go.RowKit in
/-- strings.Join: "Join concatenates the elements of its first argument to create a single string. The separator string sep is placed between elements in the resulting string.": HOWEVER MANY ELEMENTS. Below the heap's end the world is as it was. (LAID: no walk: one application.) -/
theorem Tryz.strings_Join (bk o c : Nat) (xs : List ByteArray) (sep : ByteArray) (w : World) (hcells : ∀ (j : Nat) x, xs[j]? = some x → w.cell? ⟨bk, o + j, none⟩ = some (.string x)) (hbk : bk < w.heap.size) (hN : xs.length ≤ 140737488355328) (hcap : xs.length ≤ c) (hlen : (Lib.join (xs.map (·.data.toList)) sep.data.toList).length ≤ 140737488355328) :
    Calls Tryz.prog 51 #[.slice (some ⟨bk, o, none⟩) xs.length c, .string sep] w fun e w' => e = .returned (.string ⟨(Lib.join (xs.map (·.data.toList)) sep.data.toList).toArray⟩) ∧ Below w.heap.size w w' := Any.strings_Join Tryz.lays156 Tryz.Builder_Extra_156 bk o c xs sep w hcells hbk hN hcap hlen
def Tryz.lays125_ren : Go.Shelf.Ren := ⟨fun | 125 => 65 | 128 => 93 | 129 => 94 | n => n, fun | 46 => 84 | 3 => 3 | 51 => 114 | 53 => 116 | 4 => 4 | 5 => 5 | 9 => 9 | n => n, fun | n => n⟩
theorem Tryz.lays125 : Go.Proofs.Lays.n125 Tryz.prog Tryz.lays125_ren := {
  mixed := by kernel_rfl
  f125 := Tryz.func65.trans (congrArg some (by kernel_rfl))
  f128 := Tryz.func93.trans (congrArg some (by kernel_rfl))
  f129 := Tryz.func94.trans (congrArg some (by kernel_rfl))
  t3 := Tryz.underlying3
  a3 := Tryz.isAgg3
  z3 := Tryz.sizeOf3
  v3 := Tryz.zeroValue3
  t4 := Tryz.underlying4
  a4 := Tryz.isAgg4
  z4 := Tryz.sizeOf4
  v4 := Tryz.zeroValue4
  t5 := Tryz.underlying5
  a5 := Tryz.isAgg5
  z5 := Tryz.sizeOf5
  v5 := Tryz.zeroValue5
  t9 := Tryz.underlying9
  a9 := Tryz.isAgg9
  z9 := Tryz.sizeOf9
  v9 := Tryz.zeroValue9
  t46 := Tryz.underlying84
  a46 := Tryz.isAgg84
  z46 := Tryz.sizeOf84
  v46 := Tryz.zeroValue84
  t51 := Tryz.underlying114
  a51 := Tryz.isAgg114
  z51 := Tryz.sizeOf114
  v51 := Tryz.zeroValue114
  t53 := Tryz.underlying116
  a53 := Tryz.isAgg116
  z53 := Tryz.sizeOf116
  v53 := Tryz.zeroValue116 }
/-- bits.Len: "Len returns the minimum number of bits required to represent x; the result is 0 for x == 0.": IT RETURNS 'Lib.bitLen x'; the world is as it was. (A uint has 64 bits in the model.) ITS CALLEE bits.Len64 IS MET BY ITS OWN CONTRACT OFF THE SHELF (lay that first). (LAID: no walk: one application.) -/
theorem Tryz.bits_Len (x : Int) (w : World) (h0 : 0 ≤ x) (h1 : x ≤ 18446744073709551615) :
    Calls Tryz.prog 65 #[.int .u64 x] w fun e w' => e = .returned (.int .i64 (Lib.bitLen x.toNat)) ∧ w' = w := Any.bits_Len Tryz.lays125 x w h0 h1
def Tryz.laysM171_ren : Go.Shelf.Ren := ⟨fun | 171 => 32 | 243 => 50 | 246 => 79 | 283 => 104 | 284 => 105 | 285 => 106 | 286 => 107 | 129 => 94 | 317 => 123 | 318 => 124 | 319 => 125 | 320 => 126 | 337 => 132 | 338 => 133 | n => n, fun | 3 => 3 | 9 => 9 | 2 => 2 | 4 => 4 | 171 => 128 | 0 => 0 | 53 => 116 | 37 => 87 | 5 => 5 | 173 => 130 | 212 => 145 | 51 => 114 | 20 => 20 | 213 => 146 | 46 => 84 | 232 => 159 | 233 => 160 | n => n, fun | 17 => 3 | 18 => 6 | 19 => 7 | n => n⟩
theorem Tryz.laysM171 : Go.Proofs.LaysM.n171 Tryz.prog Tryz.laysM171_ren := {
  mixed := by kernel_rfl
  f129 := Tryz.func94.trans (congrArg some (by kernel_rfl))
  f171 := Tryz.func32.trans (congrArg some (by kernel_rfl))
  f243 := Tryz.func50.trans (congrArg some (by kernel_rfl))
  f246 := Tryz.func79.trans (congrArg some (by kernel_rfl))
  f283 := Tryz.func104.trans (congrArg some (by kernel_rfl))
  f284 := Tryz.func105.trans (congrArg some (by kernel_rfl))
  f285 := Tryz.func106.trans (congrArg some (by kernel_rfl))
  f286 := Tryz.func107.trans (congrArg some (by kernel_rfl))
  f317 := Tryz.func123.trans (congrArg some (by kernel_rfl))
  f318 := Tryz.func124.trans (congrArg some (by kernel_rfl))
  f319 := Tryz.func125.trans (congrArg some (by kernel_rfl))
  f320 := Tryz.func126.trans (congrArg some (by kernel_rfl))
  f337 := Tryz.func132.trans (congrArg some (by kernel_rfl))
  f338 := Tryz.func133.trans (congrArg some (by kernel_rfl))
  t0 := Tryz.underlying0
  a0 := Tryz.isAgg0
  z0 := Tryz.sizeOf0
  v0 := Tryz.zeroValue0
  t2 := Tryz.underlying2
  a2 := Tryz.isAgg2
  z2 := Tryz.sizeOf2
  v2 := Tryz.zeroValue2
  t3 := Tryz.underlying3
  a3 := Tryz.isAgg3
  z3 := Tryz.sizeOf3
  v3 := Tryz.zeroValue3
  t4 := Tryz.underlying4
  a4 := Tryz.isAgg4
  z4 := Tryz.sizeOf4
  v4 := Tryz.zeroValue4
  t5 := Tryz.underlying5
  a5 := Tryz.isAgg5
  z5 := Tryz.sizeOf5
  v5 := Tryz.zeroValue5
  t9 := Tryz.underlying9
  a9 := Tryz.isAgg9
  z9 := Tryz.sizeOf9
  v9 := Tryz.zeroValue9
  t20 := Tryz.underlying20
  a20 := Tryz.isAgg20
  z20 := Tryz.sizeOf20
  v20 := Tryz.zeroValue20
  t37 := Tryz.underlying87
  a37 := Tryz.isAgg87
  z37 := Tryz.sizeOf87
  v37 := Tryz.zeroValue87
  t46 := Tryz.underlying84
  a46 := Tryz.isAgg84
  z46 := Tryz.sizeOf84
  v46 := Tryz.zeroValue84
  t51 := Tryz.underlying114
  a51 := Tryz.isAgg114
  z51 := Tryz.sizeOf114
  v51 := Tryz.zeroValue114
  t53 := Tryz.underlying116
  a53 := Tryz.isAgg116
  z53 := Tryz.sizeOf116
  v53 := Tryz.zeroValue116
  t171 := Tryz.underlying128
  a171 := Tryz.isAgg128
  z171 := Tryz.sizeOf128
  v171 := Tryz.zeroValue128
  t173 := Tryz.underlying130
  a173 := Tryz.isAgg130
  z173 := Tryz.sizeOf130
  v173 := Tryz.zeroValue130
  t212 := Tryz.underlying145
  a212 := Tryz.isAgg145
  z212 := Tryz.sizeOf145
  v212 := Tryz.zeroValue145
  t213 := Tryz.underlying146
  a213 := Tryz.isAgg146
  z213 := Tryz.sizeOf146
  t232 := Tryz.underlying159
  a232 := Tryz.isAgg159
  z232 := Tryz.sizeOf159
  v232 := Tryz.zeroValue159
  t233 := Tryz.underlying160
  a233 := Tryz.isAgg160
  z233 := Tryz.sizeOf160
  v233 := Tryz.zeroValue160
  g17 := by kernel_rfl
  g18 := by kernel_rfl
  g19 := by kernel_rfl
  i0 := by kernel_rfl
  i2 := by kernel_rfl
  i3 := by kernel_rfl
  i4 := by kernel_rfl
  i5 := by kernel_rfl
  i9 := by kernel_rfl
  i20 := by kernel_rfl
  i37 := by kernel_rfl
  i46 := by kernel_rfl
  i51 := by kernel_rfl
  i53 := by kernel_rfl
  i171 := by kernel_rfl
  i173 := by kernel_rfl
  i212 := by kernel_rfl
  i232 := by kernel_rfl
  i233 := by kernel_rfl
  m17 := by kernel_rfl
  m18 := by kernel_rfl
  m19 := by kernel_rfl }
open Go.RowKit Go.Sort Go.Lib in
/-- strconv.Itoa: "Itoa is equivalent to FormatInt(int64(i), 10).": i's DECIMAL NUMERAL ('Lib.itoa': a '-' where i is negative, then the digits), FOR EVERY int. The world behind the call: the world before it, new blocks behind the heap (the library's 'var a [24]byte'), draws. (LAID: no walk: one application.) -/
theorem Tryz.strconv_Itoa (n : Int) (h0 : -9223372036854775808 ≤ n) (h1 : n ≤ 9223372036854775807) (w : World) (htab : Lib.TabIs Tryz.prog w "internal/strconv.uint64pow10" .u64 Lib.pow10Tab) :
    Calls Tryz.prog 32 #[.int .i64 n] w fun e w' => e = .returned (.string ⟨(Lib.itoa n).toArray⟩) ∧ ∃ k os, w' = grow (w.drewN k) os := Any.strconv_Itoa Tryz.laysM171 n h0 h1 w htab
def Tryz.laysC172_ren : Go.Shelf.Ren := ⟨fun | 172 => 26 | 244 => 44 | 245 => 45 | 247 => 69 | 279 => 70 | 280 => 71 | 281 => 72 | 282 => 73 | 287 => 99 | 316 => 100 | 171 => 32 | 205 => 101 | 321 => 120 | 322 => 121 | 243 => 50 | 246 => 79 | 283 => 104 | 284 => 105 | 285 => 106 | 286 => 107 | 129 => 94 | 317 => 123 | 318 => 124 | 319 => 125 | 320 => 126 | 337 => 132 | 338 => 133 | n => n, fun | 9 => 9 | 3 => 3 | 75 => 53 | 76 => 54 | 4 => 4 | 5 => 5 | 167 => 86 | 37 => 87 | 0 => 0 | 85 => 88 | 2 => 2 | 168 => 90 | 53 => 116 | 175 => 120 | 46 => 84 | 210 => 124 | 127 => 132 | 145 => 142 | 143 => 140 | 21 => 21 | 171 => 128 | 173 => 130 | 212 => 145 | 51 => 114 | 20 => 20 | 213 => 146 | 232 => 159 | 233 => 160 | 80 => 103 | n => n, fun | 15 => 0 | 16 => 1 | 17 => 3 | 18 => 6 | 19 => 7 | n => n⟩
theorem Tryz.laysC172 : Go.Proofs.LaysC.n172 Tryz.prog Tryz.laysC172_ren := {
  mixed := by kernel_rfl
  f129 := Tryz.func94.trans (congrArg some (by kernel_rfl))
  f171 := Tryz.func32.trans (congrArg some (by kernel_rfl))
  f172 := Tryz.func26.trans (congrArg some (by kernel_rfl))
  f205 := Tryz.func101.trans (congrArg some (by kernel_rfl))
  f243 := Tryz.func50.trans (congrArg some (by kernel_rfl))
  f244 := Tryz.func44.trans (congrArg some (by kernel_rfl))
  f245 := Tryz.func45.trans (congrArg some (by kernel_rfl))
  f246 := Tryz.func79.trans (congrArg some (by kernel_rfl))
  f247 := Tryz.func69.trans (congrArg some (by kernel_rfl))
  f279 := Tryz.func70.trans (congrArg some (by kernel_rfl))
  f280 := Tryz.func71.trans (congrArg some (by kernel_rfl))
  f281 := Tryz.func72.trans (congrArg some (by kernel_rfl))
  f282 := Tryz.func73.trans (congrArg some (by kernel_rfl))
  f283 := Tryz.func104.trans (congrArg some (by kernel_rfl))
  f284 := Tryz.func105.trans (congrArg some (by kernel_rfl))
  f285 := Tryz.func106.trans (congrArg some (by kernel_rfl))
  f286 := Tryz.func107.trans (congrArg some (by kernel_rfl))
  f287 := Tryz.func99.trans (congrArg some (by kernel_rfl))
  f316 := Tryz.func100.trans (congrArg some (by kernel_rfl))
  f317 := Tryz.func123.trans (congrArg some (by kernel_rfl))
  f318 := Tryz.func124.trans (congrArg some (by kernel_rfl))
  f319 := Tryz.func125.trans (congrArg some (by kernel_rfl))
  f320 := Tryz.func126.trans (congrArg some (by kernel_rfl))
  f321 := Tryz.func120.trans (congrArg some (by kernel_rfl))
  f322 := Tryz.func121.trans (congrArg some (by kernel_rfl))
  f337 := Tryz.func132.trans (congrArg some (by kernel_rfl))
  f338 := Tryz.func133.trans (congrArg some (by kernel_rfl))
  t0 := Tryz.underlying0
  a0 := Tryz.isAgg0
  z0 := Tryz.sizeOf0
  v0 := Tryz.zeroValue0
  t2 := Tryz.underlying2
  a2 := Tryz.isAgg2
  z2 := Tryz.sizeOf2
  v2 := Tryz.zeroValue2
  t3 := Tryz.underlying3
  a3 := Tryz.isAgg3
  z3 := Tryz.sizeOf3
  v3 := Tryz.zeroValue3
  t4 := Tryz.underlying4
  a4 := Tryz.isAgg4
  z4 := Tryz.sizeOf4
  v4 := Tryz.zeroValue4
  t5 := Tryz.underlying5
  a5 := Tryz.isAgg5
  z5 := Tryz.sizeOf5
  v5 := Tryz.zeroValue5
  t9 := Tryz.underlying9
  a9 := Tryz.isAgg9
  z9 := Tryz.sizeOf9
  v9 := Tryz.zeroValue9
  t20 := Tryz.underlying20
  a20 := Tryz.isAgg20
  z20 := Tryz.sizeOf20
  v20 := Tryz.zeroValue20
  t21 := Tryz.underlying21
  a21 := Tryz.isAgg21
  z21 := Tryz.sizeOf21
  v21 := Tryz.zeroValue21
  t37 := Tryz.underlying87
  a37 := Tryz.isAgg87
  z37 := Tryz.sizeOf87
  v37 := Tryz.zeroValue87
  t46 := Tryz.underlying84
  a46 := Tryz.isAgg84
  z46 := Tryz.sizeOf84
  v46 := Tryz.zeroValue84
  t51 := Tryz.underlying114
  a51 := Tryz.isAgg114
  z51 := Tryz.sizeOf114
  v51 := Tryz.zeroValue114
  t53 := Tryz.underlying116
  a53 := Tryz.isAgg116
  z53 := Tryz.sizeOf116
  v53 := Tryz.zeroValue116
  t75 := Tryz.underlying53
  a75 := Tryz.isAgg53
  z75 := Tryz.sizeOf53
  v75 := Tryz.zeroValue53
  t76 := Tryz.underlying54
  a76 := Tryz.isAgg54
  z76 := Tryz.sizeOf54
  v76 := Tryz.zeroValue54
  t85 := Tryz.underlying88
  a85 := Tryz.isAgg88
  z85 := Tryz.sizeOf88
  v85 := Tryz.zeroValue88
  t127 := Tryz.underlying132
  a127 := Tryz.isAgg132
  z127 := Tryz.sizeOf132
  v127 := Tryz.zeroValue132
  t143 := Tryz.underlying140
  a143 := Tryz.isAgg140
  z143 := Tryz.sizeOf140
  v143 := Tryz.zeroValue140
  t145 := Tryz.underlying142
  a145 := Tryz.isAgg142
  z145 := Tryz.sizeOf142
  v145 := Tryz.zeroValue142
  t167 := Tryz.underlying86
  a167 := Tryz.isAgg86
  z167 := Tryz.sizeOf86
  v167 := Tryz.zeroValue86
  t168 := Tryz.underlying90
  a168 := Tryz.isAgg90
  z168 := Tryz.sizeOf90
  v168 := Tryz.zeroValue90
  t171 := Tryz.underlying128
  a171 := Tryz.isAgg128
  z171 := Tryz.sizeOf128
  v171 := Tryz.zeroValue128
  t173 := Tryz.underlying130
  a173 := Tryz.isAgg130
  z173 := Tryz.sizeOf130
  v173 := Tryz.zeroValue130
  t175 := Tryz.underlying120
  a175 := Tryz.isAgg120
  z175 := Tryz.sizeOf120
  v175 := Tryz.zeroValue120
  t210 := Tryz.underlying124
  a210 := Tryz.isAgg124
  z210 := Tryz.sizeOf124
  v210 := Tryz.zeroValue124
  t212 := Tryz.underlying145
  a212 := Tryz.isAgg145
  z212 := Tryz.sizeOf145
  v212 := Tryz.zeroValue145
  t213 := Tryz.underlying146
  a213 := Tryz.isAgg146
  z213 := Tryz.sizeOf146
  t232 := Tryz.underlying159
  a232 := Tryz.isAgg159
  z232 := Tryz.sizeOf159
  v232 := Tryz.zeroValue159
  t233 := Tryz.underlying160
  a233 := Tryz.isAgg160
  z233 := Tryz.sizeOf160
  v233 := Tryz.zeroValue160
  g15 := by kernel_rfl
  g16 := by kernel_rfl
  g17 := by kernel_rfl
  g18 := by kernel_rfl
  g19 := by kernel_rfl
  t80 := Tryz.underlying103
  a80 := Tryz.isAgg103
  z80 := Tryz.sizeOf103
  v80 := Tryz.zeroValue103
  i0 := by kernel_rfl
  i2 := by kernel_rfl
  i3 := by kernel_rfl
  i4 := by kernel_rfl
  i5 := by kernel_rfl
  i9 := by kernel_rfl
  i20 := by kernel_rfl
  i21 := by kernel_rfl
  i37 := by kernel_rfl
  i46 := by kernel_rfl
  i51 := by kernel_rfl
  i53 := by kernel_rfl
  i75 := by kernel_rfl
  i76 := by kernel_rfl
  i80 := by kernel_rfl
  i85 := by kernel_rfl
  i127 := by kernel_rfl
  i143 := by kernel_rfl
  i145 := by kernel_rfl
  i167 := by kernel_rfl
  i168 := by kernel_rfl
  i171 := by kernel_rfl
  i173 := by kernel_rfl
  i175 := by kernel_rfl
  i210 := by kernel_rfl
  i212 := by kernel_rfl
  i232 := by kernel_rfl
  i233 := by kernel_rfl
  m15 := by kernel_rfl
  m16 := by kernel_rfl
  m17 := by kernel_rfl
  m18 := by kernel_rfl
  m19 := by kernel_rfl
  c0 := by kernel_rfl
  c2 := by kernel_rfl
  c3 := by kernel_rfl
  c4 := by kernel_rfl
  c5 := by kernel_rfl
  c9 := by kernel_rfl
  c20 := by kernel_rfl
  c21 := by kernel_rfl
  c37 := by kernel_rfl
  c46 := by kernel_rfl
  c51 := by kernel_rfl
  c53 := by kernel_rfl
  c75 := by kernel_rfl
  c76 := by kernel_rfl
  c80 := by kernel_rfl
  c85 := by kernel_rfl
  c127 := by kernel_rfl
  c143 := by kernel_rfl
  c145 := by kernel_rfl
  c167 := by kernel_rfl
  c168 := by kernel_rfl
  c171 := by kernel_rfl
  c173 := by kernel_rfl
  c175 := by kernel_rfl
  c210 := by kernel_rfl
  c212 := by kernel_rfl
  c213 := by kernel_rfl
  c232 := by kernel_rfl
  c233 := by kernel_rfl }
open Go.RowKit in
/-- strconv.Atoi, AT EVERY STRING THAT SPELLS AN int ('Lib.atoiAll .. = .ok v'; of whatever length: leading zeros count): v, AND NO ERROR. The world: as it was, or with the one new row that '[]byte(..)' lays. (LAID: no walk: one application.) -/
theorem Tryz.strconv_Atoi_ok (s : ByteArray) (hmax : s.size ≤ 9223372036854775806) (v : Int) (h : Lib.atoiAll s.data.toList = .ok v) (w : World) :
    Calls Tryz.prog 26 #[.string s] w fun e w' => e = .returned (.tuple #[.int .i64 v, .nilIface]) ∧ (w' = w ∨ ∃ t, w' = Lib.bytesWorld w 5 t) := Any.strconv_Atoi_ok Tryz.laysC172 s hmax v h w
open Go.RowKit in
/-- strconv.Atoi, AT EVERY STRING THAT IS NO DECIMAL NUMERAL ('.syntax'): 0, AND AN ERROR THAT IS NOT nil: a *NumError in a new block N: {Func: "Atoi", Num: s's bytes, Err: what the variable ErrSyntax holds}. Of what was there nothing has turned. (LAID: no walk: one application.) -/
theorem Tryz.strconv_Atoi_syntax (s : ByteArray) (hlim : s.size ≤ 281474976710656) (h : Lib.atoiAll s.data.toList = Lib.atoiAll []) (ev : Value) (w : World) (hv : w.cell? ⟨0, 0, none⟩ = some ev) (hev : ev = .nilIface ∨ ∃ te pe, ev = .iface te pe) :
    Calls Tryz.prog 26 #[.string s] w fun e w' => ∃ N, e = .returned (.tuple #[.int .i64 (0), .iface 90 (.pointer (some ⟨N, 0, none⟩))]) ∧ w.heap.size ≤ N ∧ w'.heap[N]? = some (.cells #[.string ⟨#[65, 116, 111, 105]⟩, .string s, ev] 124 (0, 0)) ∧ Below w.heap.size w w' := Any.strconv_Atoi_syntax Tryz.laysC172 s hlim h ev w hv hev
open Go.RowKit in
/-- strconv.Atoi, AT EVERY NUMERAL THAT NO int HOLDS ('.range'): THE GREATEST OR THE LEAST int, BY THE SIGN ('Lib.atoiSat'), AND AN ERROR THAT IS NOT nil: a *NumError in a new block N: {Func: "Atoi", Num: s's bytes, Err: what the variable ErrRange holds}. Of what was there nothing has turned. (LAID: no walk: one application.) -/
theorem Tryz.strconv_Atoi_range (s : ByteArray) (hlim : s.size ≤ 281474976710656) (h : Lib.atoiAll s.data.toList = .range) (ev : Value) (w : World) (hv : w.cell? ⟨1, 0, none⟩ = some ev) (hev : ev = .nilIface ∨ ∃ te pe, ev = .iface te pe) :
    Calls Tryz.prog 26 #[.string s] w fun e w' => ∃ N, e = .returned (.tuple #[.int .i64 (Lib.atoiSat s.data.toList), .iface 90 (.pointer (some ⟨N, 0, none⟩))]) ∧ w.heap.size ≤ N ∧ w'.heap[N]? = some (.cells #[.string ⟨#[65, 116, 111, 105]⟩, .string s, ev] 124 (0, 0)) ∧ Below w.heap.size w w' := Any.strconv_Atoi_range Tryz.laysC172 s hlim h ev w hv hev
def Tryz.lays143_ren : Go.Shelf.Ren := ⟨fun | 143 => 68 | 219 => 98 | 217 => 116 | 225 => 117 | 224 => 118 | 267 => 119 | 266 => 130 | 314 => 131 | n => n, fun | 9 => 9 | 3 => 3 | 4 => 4 | 5 => 5 | 46 => 84 | 146 => 157 | 51 => 114 | n => n, fun | 1 => 2 | n => n⟩
theorem Tryz.lays143 : Go.Proofs.Lays.n143 Tryz.prog Tryz.lays143_ren := {
  mixed := by kernel_rfl
  f143 := Tryz.func68.trans (congrArg some (by kernel_rfl))
  f217 := Tryz.func116.trans (congrArg some (by kernel_rfl))
  f219 := Tryz.func98.trans (congrArg some (by kernel_rfl))
  f224 := Tryz.func118.trans (congrArg some (by kernel_rfl))
  f225 := Tryz.func117.trans (congrArg some (by kernel_rfl))
  f266 := Tryz.func130.trans (congrArg some (by kernel_rfl))
  f267 := Tryz.func119.trans (congrArg some (by kernel_rfl))
  f314 := Tryz.func131.trans (congrArg some (by kernel_rfl))
  t3 := Tryz.underlying3
  a3 := Tryz.isAgg3
  z3 := Tryz.sizeOf3
  v3 := Tryz.zeroValue3
  t4 := Tryz.underlying4
  a4 := Tryz.isAgg4
  z4 := Tryz.sizeOf4
  v4 := Tryz.zeroValue4
  t5 := Tryz.underlying5
  a5 := Tryz.isAgg5
  z5 := Tryz.sizeOf5
  v5 := Tryz.zeroValue5
  t9 := Tryz.underlying9
  a9 := Tryz.isAgg9
  z9 := Tryz.sizeOf9
  v9 := Tryz.zeroValue9
  t46 := Tryz.underlying84
  a46 := Tryz.isAgg84
  z46 := Tryz.sizeOf84
  v46 := Tryz.zeroValue84
  t51 := Tryz.underlying114
  a51 := Tryz.isAgg114
  z51 := Tryz.sizeOf114
  v51 := Tryz.zeroValue114
  t146 := Tryz.underlying157
  a146 := Tryz.isAgg157
  z146 := Tryz.sizeOf157
  v146 := Tryz.zeroValue157
  g1 := by kernel_rfl }
open Go.RowKit Go.Lib in
/-- strings.Index: "Index returns the index of the first instance of substr in s, or -1 if substr is not present in s.": AT A substr OF ONE BYTE c: IT RETURNS 'Lib.indexByte s c'; the world is as it was. (LAID: no walk: one application.) -/
theorem Tryz.strings_Index_one (s : ByteArray) (c : UInt8) (w : World) :
    Calls Tryz.prog 68 #[.string s, .string ⟨#[c]⟩] w fun e w' => e = .returned (.int .i64 (Lib.indexByte s.data.toList c)) ∧ w' = w := Any.strings_Index_one Tryz.lays143 s c w
def Tryz.lays138_ren : Go.Shelf.Ren := ⟨fun | 138 => 67 | 195 => 95 | 218 => 97 | 143 => 68 | 219 => 98 | 217 => 116 | 225 => 117 | 224 => 118 | 267 => 119 | 266 => 130 | 314 => 131 | n => n, fun | 9 => 9 | 3 => 3 | 4 => 4 | 5 => 5 | 0 => 0 | 46 => 84 | 146 => 157 | 51 => 114 | n => n, fun | 1 => 2 | n => n⟩
theorem Tryz.lays138 : Go.Proofs.Lays.n138 Tryz.prog Tryz.lays138_ren := {
  mixed := by kernel_rfl
  f138 := Tryz.func67.trans (congrArg some (by kernel_rfl))
  f143 := Tryz.func68.trans (congrArg some (by kernel_rfl))
  f195 := Tryz.func95.trans (congrArg some (by kernel_rfl))
  f217 := Tryz.func116.trans (congrArg some (by kernel_rfl))
  f218 := Tryz.func97.trans (congrArg some (by kernel_rfl))
  f219 := Tryz.func98.trans (congrArg some (by kernel_rfl))
  f224 := Tryz.func118.trans (congrArg some (by kernel_rfl))
  f225 := Tryz.func117.trans (congrArg some (by kernel_rfl))
  f266 := Tryz.func130.trans (congrArg some (by kernel_rfl))
  f267 := Tryz.func119.trans (congrArg some (by kernel_rfl))
  f314 := Tryz.func131.trans (congrArg some (by kernel_rfl))
  t0 := Tryz.underlying0
  a0 := Tryz.isAgg0
  z0 := Tryz.sizeOf0
  v0 := Tryz.zeroValue0
  t3 := Tryz.underlying3
  a3 := Tryz.isAgg3
  z3 := Tryz.sizeOf3
  v3 := Tryz.zeroValue3
  t4 := Tryz.underlying4
  a4 := Tryz.isAgg4
  z4 := Tryz.sizeOf4
  v4 := Tryz.zeroValue4
  t5 := Tryz.underlying5
  a5 := Tryz.isAgg5
  z5 := Tryz.sizeOf5
  v5 := Tryz.zeroValue5
  t9 := Tryz.underlying9
  a9 := Tryz.isAgg9
  z9 := Tryz.sizeOf9
  v9 := Tryz.zeroValue9
  t46 := Tryz.underlying84
  a46 := Tryz.isAgg84
  z46 := Tryz.sizeOf84
  v46 := Tryz.zeroValue84
  t51 := Tryz.underlying114
  a51 := Tryz.isAgg114
  z51 := Tryz.sizeOf114
  v51 := Tryz.zeroValue114
  t146 := Tryz.underlying157
  a146 := Tryz.isAgg157
  z146 := Tryz.sizeOf157
  v146 := Tryz.zeroValue157
  g1 := by kernel_rfl }
open Go.RowKit Go.Lib in
/-- strings.Count AT A substr OF ONE BYTE ('hp'): "Count counts the number of non-overlapping instances of substr in s.": IT RETURNS 'Lib.countByte s (that byte)'; the world is as it was. ✋ NO CONTRACT HERE YET at an empty substr (utf8.RuneCountInString) or at a longer one (a loop over strings.Index). (LAID: no walk: one application.) -/
theorem Tryz.strings_Count_one (s : ByteArray) (c : UInt8) (w : World) :
    Calls Tryz.prog 67 #[.string s, .string ⟨#[c]⟩] w fun e w' => e = .returned (.int .i64 (Lib.countByte s.data.toList c)) ∧ w' = w := Any.strings_Count_one Tryz.lays138 s c w
def Tryz.laysGw17_ren : Go.Shelf.Ren := ⟨fun | 17 => 75 | 15 => 102 | 20 => 122 | n => n, fun | 9 => 9 | 23 => 93 | 4 => 4 | 3 => 3 | 0 => 0 | 21 => 21 | n => n, fun | n => n⟩
theorem Tryz.laysGw17 : Go.Proofs.LaysGw.n17 Tryz.prog Tryz.laysGw17_ren := {
  mixed := by kernel_rfl
  f15 := Tryz.func102.trans (congrArg some (by kernel_rfl))
  f17 := Tryz.func75.trans (congrArg some (by kernel_rfl))
  f20 := Tryz.func122.trans (congrArg some (by kernel_rfl))
  t0 := Tryz.underlying0
  a0 := Tryz.isAgg0
  z0 := Tryz.sizeOf0
  v0 := Tryz.zeroValue0
  i0 := by kernel_rfl
  t3 := Tryz.underlying3
  a3 := Tryz.isAgg3
  z3 := Tryz.sizeOf3
  v3 := Tryz.zeroValue3
  i3 := by kernel_rfl
  t4 := Tryz.underlying4
  a4 := Tryz.isAgg4
  z4 := Tryz.sizeOf4
  v4 := Tryz.zeroValue4
  i4 := by kernel_rfl
  t9 := Tryz.underlying9
  a9 := Tryz.isAgg9
  z9 := Tryz.sizeOf9
  v9 := Tryz.zeroValue9
  i9 := by kernel_rfl
  t21 := Tryz.underlying21
  a21 := Tryz.isAgg21
  z21 := Tryz.sizeOf21
  v21 := Tryz.zeroValue21
  i21 := by kernel_rfl
  t23 := Tryz.underlying93
  a23 := Tryz.isAgg93
  z23 := Tryz.sizeOf93
  v23 := Tryz.zeroValue93
  i23 := by kernel_rfl }
open Go.RowKit Go.Lib in
theorem Tryz.strings_ContainsFunc_grows (g : Nat) (lb : Array Value) (eg : ∀ args w, (callFunc g args).run Tryz.prog w = .ok (.enter g args) w) (p : Nat → Bool) (s : ByteArray) (w : World) (hp : PredGrows Tryz.prog g lb p w) :
    Calls Tryz.prog 75 #[.string s, .func (.func g) #[] lb] w fun e w' => e = .returned (.bool (decide (0 ≤ Lib.idxFunc p true s))) ∧ Below w.heap.size w w' := Any.strings_ContainsFunc_grows Tryz.laysGw17 g lb eg p s w hp
def Tryz.laysNm216_ren : Go.Shelf.Ren := ⟨fun | 16 => 41 | n => n, fun | 24 => 26 | 9 => 9 | 4 => 4 | n => n, fun | n => n⟩
theorem Tryz.laysNm216 : Go.Proofs.Lays2.n16 Tryz.prog Tryz.laysNm216_ren := {
  mixed := by kernel_rfl
  f16 := Tryz.func41.trans (congrArg some (by kernel_rfl))
  t4 := Tryz.underlying4
  a4 := Tryz.isAgg4
  z4 := Tryz.sizeOf4
  v4 := Tryz.zeroValue4
  t9 := Tryz.underlying9
  a9 := Tryz.isAgg9
  z9 := Tryz.sizeOf9
  v9 := Tryz.zeroValue9
  t24 := Tryz.underlying26
  a24 := Tryz.isAgg26
  z24 := Tryz.sizeOf26
  v24 := Tryz.zeroValue26
  i9 := by kernel_rfl }
open Go.RowKit Go.Lib in
/-- slices.Clone at []string: "Clone returns a copy of the slice. The elements are copied using assignment, so this is a shallow clone. The result may have additional unused capacity. The result preserves the nilness of s.": OF A SLICE THAT IS NOT nil IT RETURNS A SLICE THAT IS NOT nil, OF THE SAME ELEMENTS, IN MEMORY OF THE CALL's OWN: in the how-to's words (6f): 'w'.ownsRow B e 1 v' n cells': v' begins at the head of a row among the blocks from B on (B: the heap's size at the call), not frozen, whose first cells are the elements · 'Below B w w'': below B all is as it was. The capacity is whatever the run-time gives. 'zs': what the cells behind the slice's address hold; 'zs.take n': its elements. (LAID: no walk: one application.) -/
theorem Tryz.slices_Clone_string (b off n c : Nat) (zs : List ByteArray) (w : World) (hz : n ≤ zs.length) (hbig : n * 16 ≤ 140737488355328) (hc : ∀ j, j < zs.length → w.cell? ⟨b, off + j, none⟩ = some (.string (zs.getD j ByteArray.empty))) :
    Calls Tryz.prog 41 #[.slice (some ⟨b, off, none⟩) n c] w fun e w' => ∃ v', e = .returned v' ∧ w'.ownsRow w.heap.size 9 1 v' n ((zs.take n).map (Value.string)) ∧ v' ≠ .slice none 0 0 ∧ Below w.heap.size w w' := Any.slices_Clone_string Tryz.laysNm216 b off n c zs w hz hbig hc
open Go.RowKit Go.Lib in
/-- The same at nil: nil comes back; the world is as it was. (LAID: no walk: one application.) -/
theorem Tryz.slices_Clone_string_nil (n c : Nat) (w : World) :
    Calls Tryz.prog 41 #[.slice none n c] w fun e w' => e = .returned (.slice none 0 0) ∧ w' = w := Any.slices_Clone_string_nil Tryz.laysNm216 n c w
open Go.RowKit Go.Lib in
/-- The same at a slice of length 0 that is not nil, WHATEVER ITS ADDRESS (no cell is asked for): a slice that is not nil and owns nothing comes back. (LAID: no walk: one application.) -/
theorem Tryz.slices_Clone_string_zero (a : Addr) (c : Nat) (w : World) :
    Calls Tryz.prog 41 #[.slice (some a) 0 c] w fun e w' => ∃ v', e = .returned v' ∧ w'.ownsRow w.heap.size 9 1 v' 0 [] ∧ v' ≠ .slice none 0 0 ∧ Below w.heap.size w w' := Any.slices_Clone_string_zero Tryz.laysNm216 a c w
end Go.Proofs
