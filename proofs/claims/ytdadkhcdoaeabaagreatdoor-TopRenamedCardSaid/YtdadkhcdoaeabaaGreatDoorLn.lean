/- The arguments read as networks. -/
import Derived.Test.YtdadkhcdoaeabaaGreatDoorQt
set_option linter.unusedVariables false
set_option maxRecDepth 100000
set_option linter.unusedSectionVars false
set_option linter.unusedSimpArgs false
namespace Go.Proofs.YtdadkhcdoaeabaaGreatDoor
open Go.Av
open Go.ChangeShapes Go.WideShapes Go.ChangeAt Go.RowKit
theorem tU{m:Nat}{cs:List AV}(h:MU Tryz.prog (m+3) 72 cs):∃o:Of,.agg cs=o.v/\True:=by
 obtain⟨ps,rfl,g⟩:=FJ (ts:=[9,3,3,3,3,3,25]) Tryz.underlying72 (by kernel_rfl) h
 obtain⟨p0,_,rfl,h0,g⟩:=AD g;obtain⟨p1,_,rfl,h1,g⟩:=AD g;obtain⟨p2,_,rfl,h2,g⟩:=AD g;obtain⟨p3,_,rfl,h3,g⟩:=AD g;obtain⟨p4,_,rfl,h4,g⟩:=AD g;obtain⟨p5,_,rfl,h5,g⟩:=AD g;obtain⟨p6,_,rfl,h6,g⟩:=AD g;obtain rfl:=Gf g;obtain⟨n0,rfl,l0⟩:=Jq Tryz.underlying9 h0;obtain⟨n1,rfl,_⟩:=BQ Tryz.underlying3 h1;obtain⟨n2,rfl,_⟩:=BQ Tryz.underlying3 h2;obtain⟨n3,rfl,_⟩:=BQ Tryz.underlying3 h3;obtain⟨n4,rfl,_⟩:=BQ Tryz.underlying3 h4;obtain⟨n5,rfl,_⟩:=BQ Tryz.underlying3 h5;obtain⟨n6,rfl,_⟩:=qK Tryz.underlying25 Tryz.underlying9 (by kernel_rfl) h6
 exact⟨⟨n0,n1,n2,n3,n4,n5,n6⟩,rfl,trivial⟩
theorem Zcy{m:Nat}{x:AV}(h:Jr Tryz.prog (m+5) 54 x):∃n:Nt,x=n.v/\n.O.length<=9223372036854775807:=by
 obtain⟨ps,rfl,g⟩:=MX (ts:=[48,25,49,50,51,52]) Tryz.underlying54 (by kernel_rfl) h
 obtain⟨p0,_,rfl,h0,g⟩:=AD g;obtain⟨p1,_,rfl,h1,g⟩:=AD g;obtain⟨p2,_,rfl,h2,g⟩:=AD g;obtain⟨p3,_,rfl,h3,g⟩:=AD g;obtain⟨p4,_,rfl,h4,g⟩:=AD g;obtain⟨p5,_,rfl,h5,g⟩:=AD g;obtain rfl:=Gf g;obtain⟨c,rfl,_⟩:=D1 Tryz.underlying48 h0;obtain⟨n,rfl,_⟩:=D1 Tryz.underlying25 h1;obtain⟨o,rfl,_⟩:=D1 Tryz.underlying49 h2;obtain⟨f,rfl,hl,hf⟩:=D1 Tryz.underlying50 h3;obtain⟨l,rfl,_⟩:=D1 Tryz.underlying51 h4;obtain⟨k,rfl,_⟩:=D1 Tryz.underlying52 h5
 obtain⟨O,rfl,_⟩:=Ea (f:=Of.v) (p:=λ_=>True) λy hy=>by
  have h4:=hf y hy;obtain⟨c,rfl⟩:=h4.2.1 (by kernel_rfl)
  exact tU h4.1
 exact⟨⟨c,n,o,O,l,k⟩,by rw[show Tryz.prog.cellsOf 323=3 by kernel_rfl,show Tryz.prog.cellsOf 9=1 by kernel_rfl,show Tryz.prog.cellsOf 325=1 by kernel_rfl,show Tryz.prog.cellsOf 72=7 by kernel_rfl,show Tryz.prog.cellsOf 327=6 by kernel_rfl,show Tryz.prog.cellsOf 329=3 by kernel_rfl];rfl,by rw[List.length_map]at hl;unfold maxLen at hl;exact hl⟩
end Go.Proofs.YtdadkhcdoaeabaaGreatDoor