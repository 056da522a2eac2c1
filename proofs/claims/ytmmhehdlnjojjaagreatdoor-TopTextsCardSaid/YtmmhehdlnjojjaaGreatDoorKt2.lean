/- The table of types of this seat. -/
import Derived.Test.YtmmhehdlnjojjaaGreatDoorKc2
import Derived.Test.YtmmhehdlnjojjaaGreatDoorProg
import Derived.KernelRfl
set_option linter.unusedVariables false
set_option maxRecDepth 100000
set_option linter.unusedSectionVars false
set_option linter.unusedSimpArgs false
open List renaming replicate → Ai, getElem?_map → Am
namespace Go.Proofs.YtmmhehdlnjojjaaGreatDoor
open Go.Av
def xs(e s b:Nat)(a:Bool):TY:=⟨1,false,[.raw (.slice none 0 0)],.slice e s b a,none⟩
def xq0:List (Nat×Nat×Bool):=[(0,1,false),(1,1,false),(2,1,false),(3,1,false)]
def xq1:List (Nat×Nat×Bool):=[(0,1,false),(1,1,false),(2,1,false),(3,1,false),(4,1,false),(5,1,false)]
def xq2:List (Nat×Nat×Bool):=[(0,1,false),(1,1,false),(2,1,false)]
def xq3:List (Nat×Nat×Bool):=[(0,1,false),(1,1,false),(2,1,false),(3,1,false),(4,1,false),(5,1,false),(6,1,false)]
def xq4:List (Nat×Nat×Bool):=[(0,1,false),(1,1,false),(2,1,false),(3,6,true)]
def xq5:List (Nat×Nat×Bool):=[(0,6,true),(6,4,true),(10,2,true)]
def xq6:List (Nat×Nat×Bool):=[(0,6,true),(6,4,true),(10,1,false)]
def xq7:List (Nat×Nat×Bool):=[(0,1,false),(1,1,false),(2,1,false),(3,1,false),(4,1,false),(5,1,false),(6,1,false),(7,1,false),(8,1,false),(9,1,false),(10,1,false)]
def xr0:TY:=⟨1,false,[.raw (.tuple #[])],.scalar,none⟩
def Bn:TY:=⟨1,false,[.raw .nilFunc],.scalar,none⟩
def xr2:TY:=⟨1,false,[.int .i64 0],.int .i64,some [1]⟩
def xr3:TY:=⟨1,false,[.lit false],.bool,some [0]⟩
def xr4:TY:=⟨1,false,[.int .u8 0],.int .u8,some [1]⟩
def xr5:TY:=⟨4,true,[.int .i64 0,.int .i64 0,.lit false,.int .u8 0],.struct xq0,some [1,1,0,1]⟩
def xr6:TY:=⟨1,false,[.str []],.string,some [2]⟩
def xr7:TY:=⟨1,false,[.int .u64 0],.int .u64,some [1]⟩
def xr8:TY:=⟨2,true,[.str [],.int .u64 0],.struct [(0,1,false),(1,1,false)],none⟩
def ZL:TY:=⟨1,false,[.raw (.pointer none)],.scalar,none⟩
def Zjg:TY:=⟨1,true,[.raw (.pointer none)],.struct [(0,1,false)],none⟩
def Zf7:TY:=⟨1,false,[.raw .nilIface],.iface,none⟩
def Zf6:TY:=⟨1,false,[.int .i32 0],.int .i32,some [1]⟩
def Zjf:TY:=⟨6,true,[.raw (.slice none 0 0),.raw (.slice none 0 0),.raw (.slice none 0 0),.raw (.slice none 0 0),.raw (.slice none 0 0),.raw (.slice none 0 0)],.struct xq1,none⟩
def Zje:TY:=⟨6,true,[.int .i64 0,.int .i64 0,.int .i64 0,.int .i64 0,.str [],.raw (.slice none 0 0)],.struct xq1,none⟩
def Zmp:TY:=⟨1,false,[.raw (.tuple {toList:=[.agg {toList:=[.int .i64 0,.int .i64 0,.int .i64 0,.int .i64 0,.string {data:={toList:=[]}},.slice none 0 0]},.int .i64 0]})],.scalar,none⟩
def Zmo:TY:=⟨1,false,[.raw (.tuple {toList:=[.agg {toList:=[.slice none 0 0,.slice none 0 0,.slice none 0 0,.slice none 0 0,.slice none 0 0,.slice none 0 0]},.int .i64 0,.int .i64 0]})],.scalar,none⟩
def Zjd:TY:=⟨4,true,[.int .i64 0,.int .i64 0,.raw (.slice none 0 0),.raw (.slice none 0 0)],.struct xq0,none⟩
def Zjc:TY:=⟨2,true,[.raw (.slice none 0 0),.int .i64 0],.struct [(0,1,false),(1,1,false)],none⟩
def Zmn:TY:=⟨1,false,[.raw (.tuple {toList:=[.agg {toList:=[.int .i64 0,.int .i64 0,.slice none 0 0,.slice none 0 0]},.agg {toList:=[.slice none 0 0,.int .i64 0]},.int .i64 0]})],.scalar,none⟩
def Zmm:TY:=⟨1,false,[.raw (.tuple {toList:=[.agg {toList:=[.slice none 0 0,.int .i64 0]},.int .i64 0]})],.scalar,none⟩
def Zja:TY:=⟨3,true,[.int .i64 0,.raw (.slice none 0 0),.raw (.slice none 0 0)],.struct xq2,none⟩
def Zi9:TY:=⟨7,true,[.str [],.int .i64 0,.int .i64 0,.int .i64 0,.int .i64 0,.int .i64 0,.raw (.slice none 0 0)],.struct xq3,none⟩
def Zi8:TY:=⟨1,false,[.raw (.tuple {toList:=[.int .i64 0,.nilIface]})],.scalar,none⟩
def Zml:TY:=⟨1,false,[.raw (.map none)],.map 9 3,none⟩
def Zi7:TY:=⟨2,true,[.raw (.slice none 0 0),.raw (.map none)],.struct [(0,1,false),(1,1,false)],none⟩
def Zc6:TY:=⟨1,true,[.str []],.struct [(0,1,false)],some [2]⟩
def Zi6:TY:=⟨6,true,[.str [],.int .i64 0,.int .i64 0,.int .i64 0,.int .i64 0,.int .i64 0],.struct xq1,some [2,1,1,1,1,1]⟩
def Zi5:TY:=⟨3,true,[.str [],.int .i64 0,.int .i64 0],.struct xq2,some [2,1,1]⟩
def Zmk:TY:=⟨1,false,[.raw (.tuple {toList:=[.slice none 0 0,.int .i64 0,.int .i64 0]})],.scalar,none⟩
def Zi4:TY:=⟨2,true,[.int .i64 0,.int .i64 0],.struct [(0,1,false),(1,1,false)],some [1,1]⟩
def Zmj:TY:=⟨1,false,[.raw (.tuple {toList:=[.agg {toList:=[.int .i64 0,.int .i64 0]},.bool false]})],.scalar,none⟩
def Zi3:TY:=⟨9,true,[.raw (.slice none 0 0),.int .i64 0,.int .i64 0,.raw (.slice none 0 0),.raw (.slice none 0 0),.raw (.slice none 0 0),.raw (.slice none 0 0),.raw (.slice none 0 0),.raw (.slice none 0 0)],.struct xq4,none⟩
def Zi2:TY:=⟨2,true,[.raw (.pointer none),.raw (.slice none 0 0)],.struct [(0,1,false),(1,1,false)],none⟩
def Zi1:TY:=⟨2,true,[.raw (.pointer none),.raw (.slice none 0 0)],.struct [(0,2,true)],none⟩
def Zi0:TY:=⟨12,true,[.raw (.slice none 0 0),.raw (.slice none 0 0),.raw (.slice none 0 0),.raw (.slice none 0 0),.raw (.slice none 0 0),.raw (.slice none 0 0),.int .i64 0,.int .i64 0,.raw (.slice none 0 0),.raw (.slice none 0 0),.raw (.slice none 0 0),.int .i64 0],.struct xq5,none⟩
def ZiZ:TY:=⟨1,true,[.raw .nilFunc],.struct [(0,1,false)],none⟩
def ZiY:TY:=⟨1,false,[.raw (.tuple {toList:=[.int .i64 0,.bool false]})],.scalar,none⟩
def Zmi:TY:=⟨17,true,[.str [],.str [],.str [],.str [],.str [],.str [],.str [],.str [],.str [],.str [],.str [],.str [],.str [],.str [],.str [],.str [],.str []],.array 17 1 false,none⟩
def ZiX:TY:=⟨2,true,[.int .i64 0,.raw .nilFunc],.struct [(0,1,false),(1,1,false)],none⟩
def ZiW:TY:=⟨3,true,[.int .i64 0,.str [],.int .i64 0],.struct xq2,some [1,2,1]⟩
def Zmh:TY:=⟨1,false,[.raw (.tuple {toList:=[.slice none 0 0,.int .i64 0]})],.scalar,none⟩
def Zmg:TY:=⟨1,false,[.raw (.map none)],.map 9 4,none⟩
def Zf5:TY:=⟨1,false,[.raw (.tuple {toList:=[.int .i64 0,.int .i64 0]})],.scalar,none⟩
def Zmf:TY:=⟨13,true,[.str [],.str [],.str [],.str [],.str [],.str [],.str [],.str [],.str [],.str [],.str [],.str [],.str []],.array 13 1 false,none⟩
def Zme:TY:=⟨1,false,[.raw (.map none)],.map 3 4,none⟩
def ZiV:TY:=⟨11,true,[.raw (.slice none 0 0),.raw (.slice none 0 0),.raw (.slice none 0 0),.raw (.slice none 0 0),.raw (.slice none 0 0),.raw (.slice none 0 0),.int .i64 0,.int .i64 0,.raw (.slice none 0 0),.raw (.slice none 0 0),.raw (.slice none 0 0)],.struct xq6,none⟩
def Zmd:TY:=⟨24,true,(Ai 24 (.int .u8 0)),.array 24 1 false,none⟩
def Zmc:TY:=⟨1,false,[.raw (.tuple {toList:=[.slice none 0 0,.string {data:={toList:=[]}}]})],.scalar,none⟩
def Zmb:TY:=⟨1,false,[.raw (.tuple {toList:=[.int .i32 0,.int .i64 0]})],.scalar,none⟩
def Zma:TY:=⟨1,false,[.raw (.tuple {toList:=[.int .u64 0,.nilIface]})],.scalar,none⟩
def ZiU:TY:=⟨3,true,[.str [],.str [],.raw .nilIface],.struct xq2,none⟩
def Zl9:TY:=⟨12,true,[.int .i64 0,.int .i64 0,.int .i64 0,.int .i64 0,.int .i64 0,.int .i64 0,.int .i64 0,.int .i64 0,.int .i64 0,.int .i64 0,.int .i64 0,.int .i64 0],.array 12 1 false,none⟩
def Zl8:TY:=⟨144,true,(Ai 144 (.int .i64 0)),.array 12 12 true,none⟩
def ZiT:TY:=⟨3,true,[.int .i64 0,.int .i64 0,.int .i64 0],.struct xq2,some [1,1,1]⟩
def Zl7:TY:=⟨20,true,(Ai 20 (.int .u64 0)),.array 20 1 false,none⟩
def Zl6:TY:=⟨1,false,[.int .u32 0],.int .u32,some [1]⟩
def Zl5:TY:=⟨65,true,(Ai 65 (.int .u8 0)),.array 65 1 false,none⟩
def ZiS:TY:=⟨4,true,[.int .i64 0,.int .i64 0,.int .i64 0,.int .i64 0],.struct xq0,some [1,1,1,1]⟩
def Zl4:TY:=⟨256,true,(Ai 256 (.int .u8 0)),.array 256 1 false,none⟩
def ZiR:TY:=⟨2,true,[.int .u8 0,.int .u8 0],.struct [(0,1,false),(1,1,false)],some [1,1]⟩
def Zl2:TY:=⟨32,true,(Ai 32 (.int .u8 0)),.array 16 2 true,none⟩
def Zl1:TY:=⟨1,false,[.raw (.tuple {toList:=[.int .u32 0,.int .u32 0]})],.scalar,none⟩
def Zl0:TY:=⟨3,true,[.raw .nilFunc,.raw .nilFunc,.raw .nilFunc],.array 3 1 false,none⟩
def ZlZ:TY:=⟨32,true,(Ai 32 (.int .u8 0)),.array 32 1 false,none⟩
def ZlY:TY:=⟨64,true,(Ai 64 (.int .u8 0)),.array 64 1 false,none⟩
def ZlX:TY:=⟨7,true,[.lit false,.lit false,.lit false,.lit false,.lit false,.lit false,.lit false],.array 7 1 false,none⟩
def ZiQ:TY:=⟨4,true,[.raw (.pointer none),.raw (.pointer none),.raw (.pointer none),.str []],.struct xq0,none⟩
def ZlW:TY:=⟨0,true,[],.array 0 1 false,none⟩
def ZiP:TY:=⟨0,true,[],.struct [(0,0,true)],none⟩
def ZiO:TY:=⟨11,true,[.int .u64 0,.int .u64 0,.int .u32 0,.int .u8 0,.int .u8 0,.int .u8 0,.int .u8 0,.raw .nilFunc,.raw (.pointer none),.int .i32 0,.int .i32 0],.struct xq7,none⟩
def N0:List TY:=[xr0,Bn,xr2,xr2,xr3,xr4,xr4,xr5,xr5,xr6,xr6,xr6,xr7,xr8,xr8,ZL,ZL,ZL,Zjg,Zjg,Zf7,Zf6,xs 65 3 56 true,xs 9 1 16 false,xs 86 1 16 true,xs 67 7 80 true,xs 96 6 56 true,xs 98 3 32 true,Zjf,Zjf,Zje,Zje,Bn,Bn,Bn,Bn,xr2,Zmp,Bn,Bn,xs 31 6 72 true,Zmo,Bn,Bn,Bn,xs 49 1 24 false,xs 45 1 24 false,Zjd,Zjd,xs 3 1 8 false,Zjc,Zjc,Zmn,Bn,Bn,Bn,Zmm,Bn,Bn,Bn,Bn,Bn,Bn,xs 4 1 1 false,Zja,Zja,Zi9,Zi9,Bn,Bn,Bn,Bn,ZL,xs 72 1 8 false,Zf7,Zf7,Zi8,Bn,Bn,Zml,Zi7,Zi7,Bn,Bn,Bn,Zc6,Zc6,Bn,Bn,Bn,Bn,Bn,Bn,Bn,Bn,Zi6,Zi6,Zi5,Zi5,xs 155 3 32 true,Zmk,Bn,Zi4,Zi4,Zmj,ZL,Zi3,Zi3,xs 1 1 8 false,ZL,ZL,xs 5 1 1 false,Zi2,Zi2,Zi1,Zi1,Bn,Bn,Bn,Bn,Bn,Bn,Bn,ZL,Zi0,Zi0,Bn,Bn,ZiZ,ZiZ,xs 129 1 8 true,Bn,Bn,ZiY,Bn,Bn,Bn,Bn,Bn,Bn,Bn,Bn,Bn,Bn,Bn,Bn,Bn,Bn,Zmi,Bn,ZiX,ZiX,xs 151 2 16 true,Bn,ZiW,ZiW,Bn,Bn,Bn,Bn,Bn,Bn,Bn,ZL,Bn,Bn,Bn,Bn,Bn,Zmh,Bn,Bn,Bn,Bn,Bn,Zmg,Bn,Bn,Bn,xr2,Zi8,Bn,ZL,Bn,Bn,Zf5,Bn,Zmf,Bn,Bn,Bn,Bn,xs 247 3 24 true,Bn,Bn,Bn,Bn,Bn,Bn,Bn,Bn,Bn,Bn,Bn,Zme,Bn,Bn,ZL,Bn,Bn,Bn,Bn,Bn,Bn,Bn,Bn,Bn,Bn,ZL,ZL,ZiV,ZiV,Bn,Bn,Bn,Bn,ZL,Bn,Bn,Zmd,xr7,Bn,Bn,Zmc,Bn,Zmb,Bn,Zma,Bn,xr7,ZiU,ZiU,Bn,Zl9,Zl8,Bn,ZiT,ZiT,Zf5,Bn,Bn,Bn,Bn,Bn,ZiY,Bn,Bn,Bn,Bn,Bn,Bn,Bn,Bn,Bn,Bn,Bn,Zl7,Zl6,Zl5,Bn,Bn,Bn,ZL,Zc6,Zc6,Bn,Bn,Bn,Bn,Bn,Bn,Bn,Bn,Bn,Bn,Bn,Bn,Bn,Bn,Bn,Bn,Bn,Bn,xs 297 4 32 true,Bn,Bn,ZiS,ZiS,Bn,Bn,Bn,Bn,Zl4,ZiR,ZiR,Zl2,Zl1,Bn,Bn,Zl0,Bn,Bn,Bn,Bn,Bn,Bn,Bn,Bn,Bn,xr2,Zf5,Bn,Bn,Bn,Bn,ZL,Bn,Bn,Bn,ZlZ,ZlY,Bn,xr7,Bn,Bn,Bn,Bn,ZlX,Bn,ZL,Bn,ZiQ,ZiQ,ZlW,ZiP,ZiP,xr4,xr4,Bn,Zf6,Zf6,ZiO,ZiO]
theorem Zgb:(List.range 353).map (X7 Tryz.prog)=N0.map some:=by kernel_rfl
theorem Ab:CY Tryz.prog N0:=by
 intro t y h;have h1:((List.range 353).map (X7 Tryz.prog))[t]?=(N0.map some)[t]?:=by rw[Zgb]
 rw[Am,Am,h]at h1;have hl:t<N0.length:=(List.getElem?_eq_some_iff.1 h).1;rw[List.getElem?_range (show t<353 from hl)]at h1;simpa using h1
end Go.Proofs.YtmmhehdlnjojjaaGreatDoor