/- Contracts of the library's functions at this seat. -/
import Derived.Shelf.Strings.Builder1
import Derived.Shelf.Strings.Builder2
import Derived.Shelf.Strings.OnBuilder
import Derived.Shelf.Small.Bits
import Derived.Shelf.Small.Strs
import Derived.Shelf.Strings.BuilderF
import Derived.Shelf.Strings.BuilderK
import Derived.Shelf.Strconv.Atoi
import Derived.Shelf.Strconv.Itoa0
import Derived.Shelf.Strconv.Itoa1
import Derived.Shelf.LaysM
import Derived.Shelf.Strconv.Itoa2
import Derived.Shelf.Strconv.Itoa3
import Derived.Shelf.Strconv.AtoiErrFast
import Derived.Shelf.Strconv.ParseIntEmpty
import Derived.Shelf.Strconv.AtoiFail
import Derived.Shelf.Strconv.Clone
import Derived.Shelf.Strconv.SyntaxError
import Derived.Shelf.LaysC
import Derived.Shelf.Strconv.ToError
import Derived.Shelf.Strconv.Lower
import Derived.Shelf.Strconv.ParseUint10
import Derived.Shelf.Strconv.ParseUint10Empty
import Derived.Shelf.Strconv.ParseUint10Any
import Derived.Shelf.Strconv.ParseInt10
import Derived.Shelf.Strconv.AtoiLong
import Derived.Shelf.Strconv.AtoiInnerAll
import Derived.Shelf.Strconv.RangeError
import Derived.Shelf.Strconv.ToErrorRange
import Derived.Shelf.Strconv.AtoiAll
import Derived.Shelf.Strings.Search1
import Derived.Shelf.Strings.Search2
import Derived.Shelf.Strings.Search3
import Derived.Shelf.Strings.Count
import Derived.Shelf.Strings.Shaped
import Derived.Shelf.GgClosure.StringsIndexFunc
import Derived.Ground.GgwProg
import Derived.Shelf.GgClosure.StringsIndexFuncTop
import Derived.Shelf.Strings.Prefix
import Derived.Shelf.Strings.Split
import Derived.Shelf.Unicode.DecodeSlow
import Derived.Shelf.Unicode.DecodeAny
import Derived.Shelf.Strings.FuncGrows
import Derived.Test.YtmmhehdlnjojjaaGreatDoorProg
import Derived.Shelf.Sort.Plain
import Derived.Shelf.Slices.In.SortNone
import Derived.Shelf.SlIterI.Nil
import Derived.Ground.GgzProg
set_option linter.unusedVariables false
set_option maxRecDepth 100000
set_option linter.unusedSectionVars false
set_option linter.unusedSimpArgs false
namespace Go.Proofs
open Go.Shelf
theorem Zbt{P:Prop}(e:P:=by constructor<;>first|kernel_rfl|(intro w;kernel_rfl)|decide|(constructor<;>first|kernel_rfl|(intro w;kernel_rfl)|decide|(constructor<;>first|kernel_rfl|(intro w;kernel_rfl)|decide|(constructor<;>first|kernel_rfl|(intro w;kernel_rfl)|decide)))):P:=e
def Tryz.Cv:Go.Shelf.Ren:=⟨λ|156=>77|165=>124|166=>69|169=>57|240=>119|241=>178|276=>172|277=>222|n=>n,λ|31=>23|9=>9|3=>3|4=>4|0=>0|20=>20|72=>113|76=>76|70=>110|37=>111|75=>75|127=>163|164=>226|5=>5|80=>119|n=>n,λ|n=>n⟩
theorem Tryz.PL:Go.Proofs.Lays.n156 Tryz.prog Tryz.Cv:=Zbt
theorem Tryz.AN:Builder.Extra Tryz.prog Tryz.Cv:=Zbt
def Tryz.cQ:Go.Shelf.Ren:=⟨λ|137=>135|217=>189|266=>229|n=>n,λ|9=>9|5=>5|3=>3|n=>n,λ|n=>n⟩
theorem Tryz.Zd6:Go.Proofs.Lays.n137 Tryz.prog Tryz.cQ:=Zbt
open Go.RowKit in
theorem Tryz.strings_IndexByte(s:ByteArray)(c:Int)(w:World):
  Calls Tryz.prog 135 #[.string s,.int .u8 c] w λe w'=>e=.returned (.int .i64 (Lib.indexByte s.data.toList c.toNat.toUInt8))/\w'=w:=Any.strings_IndexByte Tryz.Zd6 s c w
def Tryz.cN:Go.Shelf.Ren:=⟨λ|172=>27|244=>79|245=>80|247=>128|279=>129|280=>130|281=>131|282=>132|287=>183|316=>184|171=>24|205=>185|321=>227|322=>228|243=>76|246=>123|283=>174|284=>175|285=>176|286=>177|129=>218|317=>217|318=>219|319=>220|320=>221|337=>277|338=>278|n=>n,λ|9=>9|3=>3|75=>75|76=>76|4=>4|5=>5|167=>179|37=>111|0=>0|85=>180|2=>2|168=>182|53=>230|175=>237|46=>239|210=>241|127=>163|145=>274|143=>272|21=>21|171=>229|173=>233|212=>266|51=>267|20=>20|213=>268|232=>329|233=>330|80=>119|n=>n,λ|15=>2|16=>3|17=>5|18=>9|19=>10|n=>n⟩
theorem Tryz.Zd3:Go.Proofs.Lays.n172 Tryz.prog Tryz.cN:=Zbt
open Go.RowKit in
theorem Tryz.strconv_Atoi(s:ByteArray)(n:Int)(hl:s.size<=18)(h:Lib.atoi s.data.toList=some n)(w:World):
  Calls Tryz.prog 27 #[.string s] w λe w'=>e=.returned (.tuple #[.int .i64 n,.nilIface])/\∃t,w'=Lib.bytesWorld w 5 t:=Any.strconv_Atoi Tryz.Zd3 s n hl h w
def Tryz.YN:Go.Shelf.Ren:=⟨λ|171=>24|243=>76|246=>123|283=>174|284=>175|285=>176|286=>177|129=>218|317=>217|318=>219|319=>220|320=>221|337=>277|338=>278|n=>n,λ|3=>3|9=>9|2=>2|4=>4|171=>229|0=>0|53=>230|37=>111|5=>5|173=>233|212=>266|51=>267|20=>20|213=>268|46=>239|232=>329|233=>330|n=>n,λ|17=>5|18=>9|19=>10|n=>n⟩
theorem Tryz.Za9:Go.Proofs.LaysM.n171 Tryz.prog Tryz.YN:=Zbt
open Go.RowKit Go.Sort Go.Lib in
theorem Tryz.strconv_Itoa(n:Int)(h0:-9223372036854775808<=n)(h1:n<=9223372036854775807)(w:World)(ZmY:Lib.TabIs Tryz.prog w "internal/strconv.uint64pow10" .u64 Lib.pow10Tab):
  Calls Tryz.prog 24 #[.int .i64 n] w λe w'=>e=.returned (.string ⟨(Lib.itoa n).toArray⟩)/\∃k os,w'=grow (w.drewN k) os:=Any.strconv_Itoa Tryz.Za9 n h0 h1 w ZmY
def Tryz.YP:Go.Shelf.Ren:=⟨λ|172=>27|244=>79|245=>80|247=>128|279=>129|280=>130|281=>131|282=>132|287=>183|316=>184|171=>24|205=>185|321=>227|322=>228|243=>76|246=>123|283=>174|284=>175|285=>176|286=>177|129=>218|317=>217|318=>219|319=>220|320=>221|337=>277|338=>278|n=>n,λ|9=>9|3=>3|75=>75|76=>76|4=>4|5=>5|167=>179|37=>111|0=>0|85=>180|2=>2|168=>182|53=>230|175=>237|46=>239|210=>241|127=>163|145=>274|143=>272|21=>21|171=>229|173=>233|212=>266|51=>267|20=>20|213=>268|232=>329|233=>330|80=>119|n=>n,λ|15=>2|16=>3|17=>5|18=>9|19=>10|n=>n⟩
theorem Tryz.Uz:Go.Proofs.LaysC.n172 Tryz.prog Tryz.YP:=Zbt
open Go.RowKit in
theorem Tryz.strconv_Atoi_ok(s:ByteArray)(Znl:s.size<=9223372036854775806)(v:Int)(h:Lib.atoiAll s.data.toList=.ok v)(w:World):
  Calls Tryz.prog 27 #[.string s] w λe w'=>e=.returned (.tuple #[.int .i64 v,.nilIface])/\(w'=w\/∃t,w'=Lib.bytesWorld w 5 t):=Any.strconv_Atoi_ok Tryz.Uz s Znl v h w
open Go.RowKit in
theorem Tryz.strconv_Atoi_syntax(s:ByteArray)(dO:s.size<=281474976710656)(h:Lib.atoiAll s.data.toList=Lib.atoiAll [])(ev:Value)(w:World)(hv:w.cell? ⟨2,0,none⟩=some ev)(lC:ev=.nilIface\/∃te pe,ev=.iface te pe):
  Calls Tryz.prog 27 #[.string s] w λe w'=>∃N,e=.returned (.tuple #[.int .i64 (0),.iface 182 (.pointer (some ⟨N,0,none⟩))])/\w.heap.size<=N/\w'.heap[N]?=some (.cells #[.string ⟨#[65,116,111,105]⟩,.string s,ev] 241 (0,0))/\Below w.heap.size w w':=Any.strconv_Atoi_syntax Tryz.Uz s dO h ev w hv lC
open Go.RowKit in
theorem Tryz.strconv_Atoi_range(s:ByteArray)(dO:s.size<=281474976710656)(h:Lib.atoiAll s.data.toList=.range)(ev:Value)(w:World)(hv:w.cell? ⟨3,0,none⟩=some ev)(lC:ev=.nilIface\/∃te pe,ev=.iface te pe):
  Calls Tryz.prog 27 #[.string s] w λe w'=>∃N,e=.returned (.tuple #[.int .i64 (Lib.atoiSat s.data.toList),.iface 182 (.pointer (some ⟨N,0,none⟩))])/\w.heap.size<=N/\w'.heap[N]?=some (.cells #[.string ⟨#[65,116,111,105]⟩,.string s,ev] 241 (0,0))/\Below w.heap.size w w':=Any.strconv_Atoi_range Tryz.Uz s dO h ev w hv lC
def Tryz.cO:Go.Shelf.Ren:=⟨λ|143=>127|219=>182|217=>189|225=>224|224=>225|267=>226|266=>229|314=>279|n=>n,λ|9=>9|3=>3|4=>4|5=>5|46=>239|146=>306|51=>267|n=>n,λ|1=>6|n=>n⟩
theorem Tryz.Zd4:Go.Proofs.Lays.n143 Tryz.prog Tryz.cO:=Zbt
open Go.RowKit Go.Lib in
theorem Tryz.strings_Index_one(s:ByteArray)(c:UInt8)(w:World):
  Calls Tryz.prog 127 #[.string s,.string ⟨#[c]⟩] w λe w'=>e=.returned (.int .i64 (Lib.indexByte s.data.toList c))/\w'=w:=Any.strings_Index_one Tryz.Zd4 s c w
def Tryz.cP:Go.Shelf.Ren:=⟨λ|138=>126|195=>179|218=>181|143=>127|219=>182|217=>189|225=>224|224=>225|267=>226|266=>229|314=>279|n=>n,λ|9=>9|3=>3|4=>4|5=>5|0=>0|46=>239|146=>306|51=>267|n=>n,λ|1=>6|n=>n⟩
theorem Tryz.Zd5:Go.Proofs.Lays.n138 Tryz.prog Tryz.cP:=Zbt
open Go.RowKit Go.Lib in
theorem Tryz.strings_Count_one(s:ByteArray)(c:UInt8)(w:World):
  Calls Tryz.prog 126 #[.string s,.string ⟨#[c]⟩] w λe w'=>e=.returned (.int .i64 (Lib.countByte s.data.toList c))/\w'=w:=Any.strings_Count_one Tryz.Zd5 s c w
def Tryz.YO:Go.Shelf.Ren:=⟨λ|17=>121|15=>173|20=>216|n=>n,λ|9=>9|23=>173|4=>4|3=>3|0=>0|21=>21|n=>n,λ|n=>n⟩
theorem Tryz.Zba:Go.Proofs.LaysGw.n17 Tryz.prog Tryz.YO:=Zbt
def Tryz.cM:Go.Shelf.Ren:=⟨λ|189=>199|125=>261|257=>260|128=>317|129=>218|294=>309|295=>310|296=>311|297=>312|298=>313|299=>314|216=>303|300=>315|301=>316|328=>329|329=>330|330=>331|331=>332|332=>333|215=>326|343=>338|n=>n,λ|28=>49|3=>3|46=>239|0=>0|51=>267|53=>230|4=>4|183=>320|182=>319|131=>133|5=>5|9=>9|218=>332|222=>72|228=>339|229=>185|n=>n,λ|n=>n⟩
theorem Tryz.oY:Go.Proofs.Lays.n189 Tryz.prog Tryz.cM:=Zbt
open Go.Sort Go.RowKit in
theorem Tryz.slices_Sort_int(D6 off cap:Nat)(zs:List Int)(w:World)(hH:Holds (Value.int .i64) w D6 off zs.toArray)(Jg:D6<w.heap.size)(DT:zs.length<4611686018427387904):
  Calls Tryz.prog 199 #[.slice (some ⟨D6,off,none⟩) zs.length cap] w λe w'=>
   e=.returned (.tuple #[])/\∃n os,w'=grow (putRow (Value.int .i64) (Sort.ahead w n) D6 off (zs.mergeSort λx y=>decide (x<=y)).toArray) os:=Any.slices_Sort_int Tryz.oY D6 off cap zs w hH Jg DT
open Go.RowKit Go.Sort in
theorem Tryz.slices_Sort_int_none(p:Option Addr)(cap:Nat)(w:World):
  Calls Tryz.prog 199 #[.slice p 0 cap] w λe w'=>e=.returned (.tuple #[])/\w'=w:=Any.slices_Sort_int_none Tryz.oY p cap w
def Tryz.Fq:Go.Shelf.Ren:=⟨λ|7=>151|10=>200|n=>n,λ|23=>204|26=>3|3=>4|28=>202|0=>0|27=>200|33=>90|4=>4|n=>n,λ|n=>n⟩
theorem Tryz.cL:Go.Proofs.SlLaysZI.n7 Tryz.prog Tryz.Fq:={
 mixed:=by kernel_rfl
 f7:=⟨Tryz.f151.name,by decide,Tryz.func151.trans (congrArg some (by kernel_rfl))⟩
 f10:=⟨Tryz.f200.name,by decide,Tryz.func200.trans (congrArg some (by kernel_rfl))⟩
 t0:=Tryz.underlying0
 a0:=Tryz.isAgg0
 z0:=Tryz.sizeOf0
 v0:=Tryz.zeroValue0
 t4:=Tryz.underlying4
 a4:=Tryz.isAgg4
 z4:=Tryz.sizeOf4
 v4:=Tryz.zeroValue4
 t23:=Tryz.underlying204
 a23:=Tryz.isAgg204
 z23:=Tryz.sizeOf204
 v23:=Tryz.zeroValue204
 t26:=Tryz.underlying3
 a26:=Tryz.isAgg3
 z26:=Tryz.sizeOf3
 v26:=Tryz.zeroValue3
 t27:=Tryz.underlying200
 a27:=Tryz.isAgg200
 z27:=Tryz.sizeOf200
 v27:=Tryz.zeroValue200
 t28:=Tryz.underlying202
 a28:=Tryz.isAgg202
 z28:=Tryz.sizeOf202
 v28:=Tryz.zeroValue202
 t33:=Tryz.underlying90
 a33:=Tryz.isAgg90
 z33:=Tryz.sizeOf90
 v33:=Tryz.zeroValue90}
def Tryz.MF:Go.Shelf.Ren:=⟨λ|6=>150|8=>198|9=>199|11=>259|13=>261|12=>260|23=>317|24=>218|14=>309|15=>310|16=>311|17=>312|18=>313|19=>314|20=>303|21=>315|22=>316|25=>329|26=>330|27=>331|28=>332|29=>333|30=>326|31=>338|n=>n,λ|26=>3|28=>202|24=>49|0=>0|3=>3|37=>239|48=>267|50=>230|4=>4|40=>320|39=>319|45=>133|5=>5|9=>9|51=>332|55=>72|57=>339|58=>185|33=>90|n=>n,λ|n=>n⟩
theorem Tryz.kK:Go.Proofs.SlLaysZI.n6 Tryz.prog Tryz.MF:={
 mixed:=by kernel_rfl
 f6:=⟨Tryz.f150.name,by decide,Tryz.func150.trans (congrArg some (by kernel_rfl))⟩
 f8:=⟨Tryz.f198.name,by decide,Tryz.func198.trans (congrArg some (by kernel_rfl))⟩
 f11:=⟨Tryz.f259.name,by decide,Tryz.func259.trans (congrArg some (by kernel_rfl))⟩
 t0:=Tryz.underlying0
 a0:=Tryz.isAgg0
 z0:=Tryz.sizeOf0
 v0:=Tryz.zeroValue0
 t24:=Tryz.underlying49
 a24:=Tryz.isAgg49
 z24:=Tryz.sizeOf49
 v24:=Tryz.zeroValue49
 t26:=Tryz.underlying3
 a26:=Tryz.isAgg3
 z26:=Tryz.sizeOf3
 v26:=Tryz.zeroValue3
 t28:=Tryz.underlying202
 a28:=Tryz.isAgg202
 z28:=Tryz.sizeOf202
 v28:=Tryz.zeroValue202
 i26:=by kernel_rfl}
end Go.Proofs