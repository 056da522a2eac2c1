/- The table of types of this seat. -/
import Derived.Test.YtdadkhcdoaeabaaGreatDoorKc2
import Derived.Test.YtdadkhcdoaeabaaGreatDoorProg
import Derived.KernelRfl
set_option linter.unusedVariables false
set_option maxRecDepth 100000
set_option linter.unusedSectionVars false
set_option linter.unusedSimpArgs false
open List renaming replicate → Af, getElem?_map → Ak
namespace Go.Proofs.YtdadkhcdoaeabaaGreatDoor
open Go.Av
def xs(e s b:Nat)(a:Bool):TY:=⟨1,false,[.raw (.slice none 0 0)],.slice e s b a,none⟩
def xq0:List (Nat×Nat×Bool):=[(0,1,false),(1,1,false),(2,1,false),(3,1,false)]
def xq1:List (Nat×Nat×Bool):=[(0,1,false),(1,1,false),(2,1,false),(3,1,false),(4,1,false)]
def xq2:List (Nat×Nat×Bool):=[(0,1,false),(1,1,false),(2,1,false),(3,1,false),(4,1,false),(5,1,false)]
def xq3:List (Nat×Nat×Bool):=[(0,1,false),(1,1,false),(2,1,false),(3,1,false),(4,1,false),(5,1,false),(6,1,false),(7,1,false),(8,1,false)]
def xq4:List (Nat×Nat×Bool):=[(0,1,false),(1,1,false),(2,1,false),(3,1,false),(4,1,false),(5,1,false),(6,1,false)]
def xq5:List (Nat×Nat×Bool):=[(0,2,true),(2,2,true),(4,1,false),(5,1,false)]
def xq6:List (Nat×Nat×Bool):=[(0,1,false),(1,1,false),(2,1,false),(3,1,false),(4,1,false),(5,1,false),(6,1,false),(7,1,false)]
def xq7:List (Nat×Nat×Bool):=[(0,1,false),(1,1,false),(2,1,false)]
def xq8:List (Nat×Nat×Bool):=[(0,1,false),(1,1,false),(2,3,true)]
def xq9:List (Nat×Nat×Bool):=[(0,1,false),(1,1,false),(2,1,false),(3,1,false),(4,1,false),(5,1,false),(6,1,false),(7,1,false),(8,1,false),(9,1,false),(10,1,false)]
def xr0:TY:=⟨1,false,[.raw (.tuple #[])],.scalar,none⟩
def Ba:TY:=⟨1,false,[.raw .nilFunc],.scalar,none⟩
def xr2:TY:=⟨1,false,[.int .i64 0],.int .i64,some [1]⟩
def xr3:TY:=⟨1,false,[.lit false],.bool,some [0]⟩
def xr4:TY:=⟨1,false,[.int .u8 0],.int .u8,some [1]⟩
def xr5:TY:=⟨4,true,[.int .i64 0,.int .i64 0,.lit false,.int .u8 0],.struct xq0,some [1,1,0,1]⟩
def xr6:TY:=⟨1,false,[.str []],.string,some [2]⟩
def xr7:TY:=⟨1,false,[.int .u64 0],.int .u64,some [1]⟩
def xr8:TY:=⟨2,true,[.str [],.int .u64 0],.struct [(0,1,false),(1,1,false)],none⟩
def cA:TY:=⟨1,false,[.raw (.pointer none)],.scalar,none⟩
def Zfr:TY:=⟨1,true,[.raw (.pointer none)],.struct [(0,1,false)],none⟩
def Zct:TY:=⟨1,false,[.raw .nilIface],.iface,none⟩
def Zcs:TY:=⟨1,false,[.int .i32 0],.int .i32,some [1]⟩
def Zfq:TY:=⟨4,true,[.int .i64 0,.raw (.slice none 0 0),.raw (.slice none 0 0),.int .i64 0],.struct xq0,none⟩
def mM:TY:=⟨2,true,[.int .i64 0,.int .i64 0],.struct [(0,1,false),(1,1,false)],some [1,1]⟩
def Zfp:TY:=⟨1,false,[.raw (.tuple {toList:=[.agg {toList:=[.int .i64 0,.int .i64 0]},.bool false]})],.scalar,none⟩
def Zfo:TY:=⟨5,true,[.str [],.str [],.int .i64 0,.str [],.str []],.struct xq1,some [2,2,1,2,2]⟩
def ZiB:TY:=⟨1,false,[.raw (.tuple {toList:=[.agg {toList:=[.string {data:={toList:=[]}},.string {data:={toList:=[]}},.int .i64 0,.string {data:={toList:=[]}},.string {data:={toList:=[]}}]},.int .i64 0]})],.scalar,none⟩
def Zfn:TY:=⟨1,false,[.raw (.tuple {toList:=[.slice none 0 0,.bool false]})],.scalar,none⟩
def Zfm:TY:=⟨2,true,[.str [],.raw (.slice none 0 0)],.struct [(0,1,false),(1,1,false)],none⟩
def Zfk:TY:=⟨6,true,[.raw (.slice none 0 0),.raw (.slice none 0 0),.raw (.slice none 0 0),.raw (.slice none 0 0),.raw (.slice none 0 0),.raw (.slice none 0 0)],.struct xq2,none⟩
def Zfj:TY:=⟨9,true,[.int .i64 0,.int .i64 0,.int .i64 0,.str [],.str [],.str [],.int .i64 0,.int .i64 0,.int .i64 0],.struct xq3,some [1,1,1,2,2,2,1,1,1]⟩
def yX:TY:=⟨1,false,[.raw (.tuple {toList:=[.slice none 0 0,.int .i64 0]})],.scalar,none⟩
def ZiA:TY:=⟨1,false,[.int .i8 0],.int .i8,some [1]⟩
def Zfi:TY:=⟨7,true,[.str [],.int .i64 0,.int .i64 0,.int .i64 0,.int .i64 0,.int .i64 0,.raw (.slice none 0 0)],.struct xq4,none⟩
def Zfh:TY:=⟨6,true,[.int .i64 0,.int .i64 0,.int .i64 0,.int .i64 0,.int .i64 0,.int .i64 0],.struct xq5,some [1,1,1,1,1,1]⟩
def Zfg:TY:=⟨9,true,[.raw (.slice none 0 0),.raw (.slice none 0 0),.raw (.slice none 0 0),.int .i64 0,.raw (.slice none 0 0),.int .i64 0,.raw (.slice none 0 0),.raw (.slice none 0 0),.int .i64 0],.struct xq3,none⟩
def Zff:TY:=⟨2,true,[.raw .nilFunc,.raw .nilFunc],.struct [(0,1,false),(1,1,false)],none⟩
def Zfe:TY:=⟨8,true,[.str [],.str [],.str [],.raw (.slice none 0 0),.int .i64 0,.int .i64 0,.int .i64 0,.lit false],.struct xq6,none⟩
def yW:TY:=⟨1,false,[.raw (.tuple {toList:=[.int .i64 0,.int .i64 0]})],.scalar,none⟩
def Ziz:TY:=⟨1,false,[.raw (.map none)],.map 34 4,none⟩
def Zfd:TY:=⟨5,true,[.str [],.str [],.str [],.str [],.int .i64 0],.struct xq1,some [2,2,2,2,1]⟩
def Zfc:TY:=⟨6,true,[.str [],.str [],.str [],.str [],.int .i64 0,.raw (.slice none 0 0)],.struct [(0,5,true),(5,1,false)],none⟩
def Ziy:TY:=⟨1,false,[.raw (.map none)],.map 3 127,none⟩
def Zfb:TY:=⟨2,true,[.int .i64 0,.str []],.struct [(0,1,false),(1,1,false)],some [1,2]⟩
def Zfa:TY:=⟨2,true,[.int .i64 0,.raw .nilFunc],.struct [(0,1,false),(1,1,false)],none⟩
def Zix:TY:=⟨1,false,[.raw (.tuple {toList:=[.slice none 0 0,.int .i64 0,.int .i64 0]})],.scalar,none⟩
def Ziw:TY:=⟨7,true,[.lit false,.lit false,.lit false,.lit false,.lit false,.lit false,.lit false],.array 7 1 false,none⟩
def Ziv:TY:=⟨1,false,[.raw (.tuple {toList:=[.int .i64 0,.bool false]})],.scalar,none⟩
def Ze9:TY:=⟨2,true,[.raw (.pointer none),.raw (.slice none 0 0)],.struct [(0,1,false),(1,1,false)],none⟩
def Ze8:TY:=⟨1,false,[.raw (.tuple {toList:=[.int .i64 0,.nilIface]})],.scalar,none⟩
def Ze7:TY:=⟨1,true,[.raw (.slice none 0 0)],.struct [(0,1,false)],none⟩
def Ziu:TY:=⟨1,false,[.raw (.map none)],.map 3 181,none⟩
def Zit:TY:=⟨1,false,[.raw (.tuple {toList:=[.agg {toList:=[.int .i64 0,.int .i64 0]},.int .i64 0]})],.scalar,none⟩
def Ze6:TY:=⟨3,true,[.int .i64 0,.int .i64 0,.int .i64 0],.struct [(0,2,true),(2,1,false)],some [1,1,1]⟩
def Ze5:TY:=⟨256,true,(Af 256 (.lit false)),.array 256 1 false,none⟩
def Zis:TY:=⟨1,false,[.raw (.tuple {toList:=[.agg {toList:=(Af 256 (.bool false))},.bool false]})],.scalar,none⟩
def Zir:TY:=⟨1,false,[.raw (.tuple {toList:=[.int .i32 0,.int .i64 0]})],.scalar,none⟩
def Ziq:TY:=⟨1,false,[.int .u32 0],.int .u32,some [1]⟩
def Zio:TY:=⟨1,false,[.raw (.tuple {toList:=[.int .i32 0,.bool false]})],.scalar,none⟩
def Zin:TY:=⟨24,true,(Af 24 (.int .u8 0)),.array 24 1 false,none⟩
def Zim:TY:=⟨1,false,[.raw (.tuple {toList:=[.slice none 0 0,.string {data:={toList:=[]}}]})],.scalar,none⟩
def Zil:TY:=⟨256,true,(Af 256 (.int .u8 0)),.array 256 1 false,none⟩
def Ze4:TY:=⟨2,true,[.int .u8 0,.int .u8 0],.struct [(0,1,false),(1,1,false)],some [1,1]⟩
def Zik:TY:=⟨32,true,(Af 32 (.int .u8 0)),.array 16 2 true,none⟩
def Zij:TY:=⟨1,false,[.raw (.tuple {toList:=[.int .u64 0,.nilIface]})],.scalar,none⟩
def Ze3:TY:=⟨3,true,[.str [],.str [],.raw .nilIface],.struct xq7,none⟩
def Zii:TY:=⟨20,true,(Af 20 (.int .u64 0)),.array 20 1 false,none⟩
def Zih:TY:=⟨65,true,(Af 65 (.int .u8 0)),.array 65 1 false,none⟩
def Zig:TY:=⟨1,false,[.raw (.tuple {toList:=[.string {data:={toList:=[]}},.bool false]})],.scalar,none⟩
def Zie:TY:=⟨1,false,[.raw (.map none)],.map 9 9,none⟩
def Zid:TY:=⟨201,true,[.int .i64 0,.int .i64 0,.int .i64 0,.int .i64 0,.int .i64 0,.int .i64 0,.int .i64 0,.int .i64 0,.int .i64 0,.int .i64 0,.int .i64 0,.int .i64 0,.int .i64 0,.int .i64 0,.int .i64 0,.int .i64 0,.int .i64 0,.int .i64 0,.int .i64 0,.int .i64 0,.int .i64 0,.int .i64 0,.int .i64 0,.int .i64 0,.int .i64 0,.int .i64 0,.int .i64 0,.int .i64 0,.int .i64 0,.int .i64 0,.int .i64 0,.int .i64 0,.int .i64 0,.int .i64 0,.int .i64 0,.int .i64 0,.int .i64 0,.int .i64 0,.int .i64 0,.int .i64 0,.int .i64 0,.int .i64 0,.int .i64 0,.int .i64 0,.int .i64 0,.int .i64 0,.int .i64 0,.int .i64 0,.int .i64 0,.int .i64 0,.int .i64 0,.int .i64 0,.int .i64 0,.int .i64 0,.int .i64 0,.int .i64 0,.int .i64 0,.int .i64 0,.int .i64 0,.int .i64 0,.int .i64 0,.int .i64 0,.int .i64 0,.int .i64 0,.int .i64 0,.int .i64 0,.int .i64 0,.int .i64 0,.int .i64 0,.int .i64 0,.int .i64 0,.int .i64 0,.int .i64 0,.int .i64 0,.int .i64 0,.int .i64 0,.int .i64 0,.int .i64 0,.int .i64 0,.int .i64 0,.int .i64 0,.int .i64 0,.int .i64 0,.int .i64 0,.int .i64 0,.int .i64 0,.int .i64 0,.int .i64 0,.int .i64 0,.int .i64 0,.int .i64 0,.int .i64 0,.int .i64 0,.int .i64 0,.int .i64 0,.int .i64 0,.int .i64 0,.int .i64 0,.int .i64 0,.int .i64 0,.int .i64 0,.int .i64 0,.int .i64 0,.int .i64 0,.int .i64 0,.int .i64 0,.int .i64 0,.int .i64 0,.int .i64 0,.int .i64 0,.int .i64 0,.int .i64 0,.int .i64 0,.int .i64 0,.int .i64 0,.int .i64 0,.int .i64 0,.int .i64 0,.int .i64 0,.int .i64 0,.int .i64 0,.int .i64 0,.int .i64 0,.int .i64 0,.int .i64 0,.int .i64 0,.int .i64 0,.int .i64 0,.int .i64 0,.int .i64 0,.int .i64 0,.int .i64 0,.int .i64 0,.int .i64 0,.int .i64 0,.int .i64 0,.int .i64 0,.int .i64 0,.int .i64 0,.int .i64 0,.int .i64 0,.int .i64 0,.int .i64 0,.int .i64 0,.int .i64 0,.int .i64 0,.int .i64 0,.int .i64 0,.int .i64 0,.int .i64 0,.int .i64 0,.int .i64 0,.int .i64 0,.int .i64 0,.int .i64 0,.int .i64 0,.int .i64 0,.int .i64 0,.int .i64 0,.int .i64 0,.int .i64 0,.int .i64 0,.int .i64 0,.int .i64 0,.int .i64 0,.int .i64 0,.int .i64 0,.int .i64 0,.int .i64 0,.int .i64 0,.int .i64 0,.int .i64 0,.int .i64 0,.int .i64 0,.int .i64 0,.int .i64 0,.int .i64 0,.int .i64 0,.int .i64 0,.int .i64 0,.int .i64 0,.int .i64 0,.int .i64 0,.int .i64 0,.int .i64 0,.int .i64 0,.int .i64 0,.int .i64 0,.int .i64 0,.int .i64 0,.int .i64 0,.int .i64 0,.int .i64 0,.int .i64 0,.int .i64 0,.int .i64 0,.int .i64 0,.int .i64 0,.int .i64 0,.int .i64 0,.int .i64 0],.array 201 1 false,none⟩
def Ze2:TY:=⟨3,true,[.int .i32 0,.int .i32 0,.int .i32 0],.array 3 1 false,none⟩
def Ze1:TY:=⟨5,true,[.int .u32 0,.int .u32 0,.int .i32 0,.int .i32 0,.int .i32 0],.struct xq8,none⟩
def yV:TY:=⟨1,true,[.str []],.struct [(0,1,false)],some [2]⟩
def Zic:TY:=⟨1,false,[.raw (.tuple {toList:=[.int .u32 0,.int .u32 0]})],.scalar,none⟩
def Zib:TY:=⟨32,true,(Af 32 (.int .u8 0)),.array 32 1 false,none⟩
def Zia:TY:=⟨64,true,(Af 64 (.int .u8 0)),.array 64 1 false,none⟩
def Ze0:TY:=⟨4,true,[.raw (.pointer none),.raw (.pointer none),.raw (.pointer none),.str []],.struct xq0,none⟩
def Zh9:TY:=⟨0,true,[],.array 0 1 false,none⟩
def ZeZ:TY:=⟨0,true,[],.struct [(0,0,true)],none⟩
def ZeY:TY:=⟨11,true,[.int .u64 0,.int .u64 0,.int .u32 0,.int .u8 0,.int .u8 0,.int .u8 0,.int .u8 0,.raw .nilFunc,.raw (.pointer none),.int .i32 0,.int .i32 0],.struct xq9,none⟩
def ZeX:TY:=⟨3,true,[.int .i64 0,.raw (.slice none 0 0),.raw (.slice none 0 0)],.struct xq7,none⟩
def ZeW:TY:=⟨6,true,[.str [],.int .i64 0,.int .i64 0,.int .i64 0,.int .i64 0,.int .i64 0],.struct xq2,some [2,1,1,1,1,1]⟩
def ZeV:TY:=⟨3,true,[.str [],.int .i64 0,.int .i64 0],.struct xq7,some [2,1,1]⟩
def Jt:List TY:=[xr0,Ba,xr2,xr2,xr3,xr4,xr4,xr5,xr5,xr6,xr6,xr6,xr7,xr8,xr8,cA,cA,cA,Zfr,Zfr,Zct,Zcs,xs 45 2 40 true,xs 57 9 96 true,xs 80 6 48 true,xs 9 1 16 false,Ba,Ba,xs 34 2 16 true,xr2,Zfq,Zfq,Ba,mM,mM,Zfp,Ba,Zfo,Zfo,ZiB,Ba,Zfn,Ba,xs 122 1 24 false,Zfm,Zfm,Ba,Ba,xs 323 3 56 true,xs 325 1 16 true,xs 72 7 80 true,xs 327 6 56 true,xs 329 3 32 true,Zfk,Zfk,Ba,Zfj,Zfj,Ba,Ba,Ba,yX,Ba,Ba,xs 38 5 72 true,yX,Ba,Ba,Ba,ZiA,Ba,Zfi,Zfi,Ba,Ba,yX,Ba,Ba,Ba,Zfh,Zfh,Ba,Ba,Ba,cA,Zfg,Zfg,xs 92 2 16 true,Ba,Ba,Ba,Zff,Zff,xs 97 8 104 true,Zfn,Ba,Zfe,Zfe,yW,Ba,Ba,Ba,Ba,Ba,Ba,Ba,Ba,Ziz,Ba,Ba,Ba,xs 25 1 24 false,Ba,Ba,cA,Zfd,Zfd,Zfc,Zfc,Ziy,Ba,Ba,xs 124 2 24 true,Zfb,Zfb,Ba,Zfa,Zfa,Ba,Ba,Ba,Ba,Ba,Ba,Ba,Ba,Ba,Zix,Ba,Ba,Ba,Ziw,Ba,Ba,Ba,Ba,Ziv,Ba,Ba,Ba,cA,xs 5 1 1 false,Ze9,Ze9,Ba,Zct,Zct,Ze8,Ba,Ba,Ba,Ba,Ba,Ba,Ba,Ba,Ba,Ba,Ba,mM,mM,Zfp,cA,Ze7,Ze7,Ziu,Ba,Ba,Ba,Ba,yW,Ba,yX,Ba,Ba,xs 187 2 16 true,mM,mM,Ba,Ba,Ba,Ba,cA,Ba,Zit,Ba,xs 199 3 24 true,Ba,Ze6,Ze6,Ba,Ba,xr7,xs 3 1 8 false,cA,Ba,Ba,Ba,Ba,Ze5,Ze5,Zis,Ba,Ba,cA,Zir,Ba,Ba,Ba,Ba,Ba,Ba,Ba,Ba,cA,Ba,Ba,Ba,Ba,Ba,Ba,xr2,yW,Ba,Ba,Ba,Ba,Ba,Ziq,Ba,xr7,Ba,Ba,Ba,Ba,Ba,Zio,Ba,xs 301 5 20 true,xr2,Ze8,Ba,cA,Ba,Ba,Ba,Ba,Zin,Ba,Zim,Ba,Ba,Ba,Ba,xr7,Ba,Ba,Ba,cA,Ba,Ba,Zil,Ze4,Ze4,Zik,cA,Ba,Ba,Zij,Ba,Ze3,Ze3,Ba,Ba,Ba,Ba,Ba,Zii,Zih,Zig,Zie,Ba,Zid,Ba,Ba,cA,yW,Ba,Ze2,Ze2,Ze1,Ze1,cA,yV,yV,Zic,Ba,Zib,Zia,Ze0,Ze0,Zh9,ZeZ,ZeZ,xr4,xr4,Ba,Zcs,Zcs,ZeY,ZeY,xs 4 1 1 false,ZeX,ZeX,yV,yV,ZeW,ZeW,ZeV,ZeV]
theorem Zcw:(List.range 330).map (Xb Tryz.prog)=Jt.map some:=by kernel_rfl
theorem Ag:BG Tryz.prog Jt:=by
 intro t y h;have h1:((List.range 330).map (Xb Tryz.prog))[t]?=(Jt.map some)[t]?:=by rw[Zcw]
 rw[Ak,Ak,h]at h1;have hl:t<Jt.length:=(List.getElem?_eq_some_iff.1 h).1;rw[List.getElem?_range (show t<330 from hl)]at h1
 simpa using h1
end Go.Proofs.YtdadkhcdoaeabaaGreatDoor