/- What the statements of Format share: the arguments read as formats. -/
import Derived.Test.YtdadkhcdoaeabaaGreatDoorRows
import Derived.LaidMore
import Derived.LaidSub
import Derived.LaidLaws
import Derived.MakeChecks
import Derived.OpenShut
import Derived.Stop.Joined
import Derived.Test.YtdadkhcdoaeabaaGreatDoorQv
import Derived.SevenTiedAt
import Derived.Lay
set_option linter.unusedVariables false
set_option maxRecDepth 100000
set_option linter.unusedSectionVars false
set_option linter.unusedSimpArgs false
open Array renaming getElem?_eq_some_iff → Af
open Option renaming map_eq_some_iff → Ak
open List renaming mem_cons → Ax
namespace Go.Proofs.YtdadkhcdoaeabaaGreatDoor.Ff
open Go.Av Pl
open Go.ChangeShapes Go.WideShapes Go.ChangeAt Go.RowKit
theorem own:ownKnob Tryz.prog.godebug=none:=by kernel_rfl
theorem laidOut:laidOutB Tryz.prog=true:=by kernel_rfl
theorem tH{m:Nat}{cs:List AV}(h:MU Tryz.prog (m+2) 124 cs):∃p:Pt,.agg cs=p.v:=by
 obtain⟨ps,rfl,g⟩:=FJ (ts:=[3,9]) Tryz.underlying124 (by kernel_rfl) h
 obtain⟨p0,_,rfl,h0,g⟩:=AD g;obtain⟨p1,_,rfl,h1,g⟩:=AD g;obtain rfl:=Gf g;obtain⟨n0,rfl,_⟩:=BQ Tryz.underlying3 h0;obtain⟨s1,rfl,_⟩:=Jq Tryz.underlying9 h1;exact⟨⟨n0,s1⟩,rfl⟩
theorem Xe{m:Nat}{x:AV}(h:Jr Tryz.prog (m+2) 124 x):∃p:Pt,x=p.v:=by
 obtain⟨c,rfl⟩:=h.2.1 (by kernel_rfl)
 exact tH h.1
theorem zG{m:Nat}{x:AV}(h:Jr Tryz.prog (m+3) 122 x):∃l:List Pt,x=CP l:=by
 obtain⟨es,rfl,_,h2⟩:=IW Tryz.underlying122 h
 obtain⟨l,rfl,_⟩:=Ea (f:=Pt.v) (p:=λ_=>True) λy hy=>by
  obtain⟨r,hr⟩:=Xe (m:=m) (h2 y hy);exact⟨r,hr,trivial⟩
 exact⟨l,by rw[show Tryz.prog.cellsOf 124=2 by kernel_rfl];rfl⟩
theorem iT{m:Nat}{p:List AV}(h:MU Tryz.prog (m+4) 43 p):∃l:List (List Pt),p=[.sl 1 (l.map CP)]:=by
 obtain⟨es,rfl,_,h2⟩:=D1 Tryz.underlying43 h
 obtain⟨l,rfl,_⟩:=Ea (f:=CP) (p:=λ_=>True) λy hy=>by
  obtain⟨r,hr⟩:=zG (m:=m) (h2 y hy);exact⟨r,hr,trivial⟩
 exact⟨l,by rw[show Tryz.prog.cellsOf 122=1 by kernel_rfl]⟩
theorem Zcz{m:Nat}{x:AV}(h:Jr Tryz.prog (m+5) 45 x):∃f:Fm,x=f.v:=by
 obtain⟨ps,rfl,g⟩:=MX (ts:=[9,43]) Tryz.underlying45 (by kernel_rfl) h
 obtain⟨p0,_,rfl,h0,g⟩:=AD g;obtain⟨p1,_,rfl,h1,g⟩:=AD g;obtain rfl:=Gf g;obtain⟨n0,rfl,_⟩:=Jq Tryz.underlying9 h0;obtain⟨l1,rfl⟩:=iT (m:=m) h1;exact⟨⟨n0,l1⟩,rfl⟩
theorem mapM_some{α β:Type}{f:α->Option β}:∀{l:List α}{xs:List β},l.mapM f=some xs->xs.length=l.length/\∀(i:Nat)(h:i<l.length)(h':i<xs.length),f l[i]=some xs[i]
 |[],xs,h=>by simp at h;subst h;simp
 |a::l,xs,h=>by
  rw[List.mapM_cons]at h;cases hf:f a with
  |none=>rw[hf]at h;simp at h
  |some b=>
   rw[hf]at h;cases hm:l.mapM f with
   |none=>rw[hm]at h;simp at h
   |some ys=>
    rw[hm]at h;simp at h;subst h;obtain⟨h1,h2⟩:=mapM_some hm;refine⟨by simp[h1],λi hi Fk=>?_⟩
    cases i with
    |zero=>exact hf
    |succ i=>exact h2 i (by simpa using hi) (by simpa using Fk)
theorem XQ{P:Program}{w:World}{n:String}{d:DataW Unit}:∀{l:List (String×DataW Unit)} {ps:List MemPlace},DataW.LaidVars P w l ps->(n,d)∈l->
  ∃g t cs fuel p,P.globalNamed n=some g/\(P.globals[g]?).map (·.type)=some t/\w.var? P n=some cs/\DataW.trod (λ_=>()) P w 0 (λ_=>true) false fuel t cs.toList=some (d,p)
 |[],ps,_,hm=>by simp at hm
 |(n0,d0)::r,ps,h,hm=>by
  obtain⟨g,t,cs,fuel,p,q,h1,h2,h3,h4,h5,_⟩:=h;rcases Ax.1 hm with e|hm
  ·cases e;exact⟨g,t,cs,fuel,p,h1,h2,h3,h4⟩
  ·exact XQ h5 hm
theorem ZZ{H:Type}{enc:TypeId×Value->H}{P:Program}{W:World}{base:Nat}{sp:Nat->Bool}{fuel:Nat}{e:TypeId}{cs:List Value}{k:IntKind}{n:Int}{p:List MemPlace}(he:P.underlying e=some (.int k))
  (h:DataW.trod enc P W base sp false fuel e cs=some (.lit (.int k n),p)):cs=[.int k n]/\DJ k n:=by
 cases fuel with
 |zero=>simp[DataW.trod]at h
 |succ fuel=>
  match cs with
  |[]|_::_::_=>simp[DataW.trod,he]at h
  |[c]=>
   cases c<;>simp[DataW.trod,he]at h
   rename_i k' n';obtain⟨⟨rfl,h1⟩,rfl,_⟩:=h;refine⟨rfl,?_⟩;unfold DJ;simpa[Lit.wf]using h1
theorem XT{H:Type}{enc:TypeId×Value->H}{P:Program}{W:World}{base:Nat}{sp:Nat->Bool}{fuel:Nat}{t e:TypeId}{n:Nat}{cs:List Value}{k:IntKind}{ss:List Int}{p:List MemPlace}(ht:P.underlying t=some (.array n e))(he:P.underlying e=some (.int k))(hce:P.cellsOf e=1)(hct:P.cellsOf t=n)
  (h:DataW.trod enc P W base sp false fuel t cs=some (.agg (ss.map λs=>.lit (.int k s)),p)):cs=ss.map (λs=>.int k s)/\∀s∈ss,DJ k s:=by
 cases fuel with
 |zero=>simp[DataW.trod]at h
 |succ fuel=>
  simp only[DataW.trod,ht,hct,hce]at h;split at h
  ·rename_i hl;simp only[Ak,Prod.mk.injEq,DataW.agg.injEq]at h;obtain⟨xs,hx,h1,_⟩:=h;obtain⟨k1,k2⟩:=mapM_some hx;simp only[List.length_range]at k1;have hlen:xs.length=ss.length:=by have:=congrArg List.length h1;simpa using this
   have key:∀(i:Nat)(h:i<cs.length)(h':i<ss.length),cs[i]=.int k ss[i]/\DJ k ss[i]:=by
    intro i hi Fk;have hix:i<xs.length:=by omega
    have q:=k2 i (by simp;omega) hix
    simp only[List.getElem_range,Nat.mul_one]at q
    have q1:(xs[i]).1=.lit (.int k ss[i]):=by
     have e1:(xs.map (·.1))[i]'(by simp;omega)=(ss.map λs=>DataW.lit (.int k s))[i]'(by simp;omega):=by simp only[h1]
     simpa using e1
    have q2:DataW.trod enc P W base sp false fuel e ((cs.drop i).take 1)=some (.lit (.int k ss[i]),(xs[i]).2):=by rw[q,<-q1]
    obtain⟨r1,r2⟩:=ZZ he q2;refine⟨?_,r2⟩;have r3:[cs[i]]=[Value.int k ss[i]]:=by rw[<-r1,List.drop_eq_getElem_cons hi];rfl
    simpa using r3
   refine⟨List.ext_getElem (by simp;omega) λi hi Fk=>?_,λs hs=>?_⟩
   ·rw[List.getElem_map];exact(key i hi (by simpa using Fk)).1
   ·obtain⟨i,hi,rfl⟩:=List.mem_iff_getElem.1 hs;exact(key i (by omega) hi).2
  ·cases h
theorem iface_of_trod{H:Type}{enc:TypeId×Value->H}{P:Program}{W:World}{base:Nat}{sp:Nat->Bool}{fuel:Nat}{t:TypeId}{ms:Array (String×TypeId)}{cs:List Value}{name:String}{d:DataW H}{p:List MemPlace}(ht:P.underlying t=some (.interface ms))
  (h:DataW.trod enc P W base sp false fuel t cs=some (.iface name d,p)):∃u v,cs=[.iface u v]/\P.typeName? 3 u=some name:=by
 cases fuel with
 |zero=>simp[DataW.trod]at h
 |succ fuel=>
  match cs with
  |[]|_::_::_=>simp[DataW.trod,ht]at h
  |[c]=>
   cases c<;>simp[DataW.trod,ht]at h
   rename_i u v;refine⟨u,v,rfl,?_⟩;split at h;·rename_i h0;cases h0
   ·rename_i nm h0 h1;simp only[Ak,Prod.mk.injEq,DataW.iface.injEq]at h;obtain⟨_,_,⟨rfl,_⟩,_⟩:=h;exact h1
   ·cases h
theorem VW{P:Program}{w:World}{n:String}{g:Nat}{cs:Array Value}(hg:P.globalNamed n=some g)(h:w.var? P n=some cs):∃e fz,w.heap[g]?=some (.cells cs e fz):=by
 unfold World.var? at h;rw[hg]at h;simp only[Option.bind_some]at h;split at h
 ·rename_i cs' a b hb;cases h;exact⟨_,_,hb⟩
 ·cases h
theorem star : "*" ++ "errors.errorString" = "*errors.errorString":=by decide
theorem ZcR(u:TypeId)(h:Tryz.prog.typeName? 3 u=some "*errors.errorString"):u=302:=
 typeName_ptr_named (nm := "errors.errorString") (by rw[star];kernel_rfl) (by kernel_rfl) (by decide) u (by rw[star];exact h)
def Zel(w:World)(x:Nat×List AV):Prop:=Cells (Dh w) w x.2 x.1 0/\∃cur e fz,w.heap[x.1]?=some (.cells cur e fz)/\cur.size=x.2.length
theorem wE{w:World}{n:String}{g t:Nat}{d:DataW Unit}{l:List (String×DataW Unit)}{ps:List MemPlace}(h:DataW.LaidVars Tryz.prog w l ps)(hm:(n,DataW.iface "*errors.errorString" d)∈l)
  (hg:Tryz.prog.globalNamed n=some g) (yE:(Tryz.prog.globals[g]?).map (·.type)=some t) (ht:(match Tryz.prog.underlying t with|some (.interface _)=>true|_=>false)=true):Zel w (g,[.iface 302 .any]):=by
 obtain⟨g',t',cs,fuel,p,h1,h2,h3,h4⟩:=XQ h hm;rw[hg]at h1;cases h1
 rw[yE]at h2;cases h2
 obtain⟨ms,ht⟩:∃ms,Tryz.prog.underlying t=some (.interface ms):=by
  split at ht;·rename_i ms e;exact⟨ms,e⟩
  ·cases ht
 obtain⟨u,v,hc,hn⟩:=iface_of_trod ht h4;obtain rfl:=ZcR u hn;obtain⟨e,fz,hb⟩:=VW hg h3
 have gM:cs=#[.iface 302 v]:=by
  apply Array.ext';simpa using hc
 subst gM;have AP:g<w.heap.size:=(Af.1 hb).1;refine⟨?_,_,e,fz,hb,rfl⟩;unfold Cells;refine⟨⟨.iface 302 v,rfl,⟨AP,by simp[World.cell?,hb]⟩,?_⟩,by unfold Cells;trivial⟩
 unfold Ah;exact⟨v,rfl,by unfold Ah;trivial⟩
theorem US{C:Ae}{w:World}{g:Nat}{k:IntKind}:∀(ss:List Int)(o:Nat),(∀(i:Nat)(h:i<ss.length),w.cell? ⟨g,o+i,none⟩=some (.int k ss[i])/\C g (o+i))->(∀s∈ss,DJ k s)->Cells C w (ss.map (AV.int k)) g o
 |[],_,_,_=>by simp[Cells]
 |s::ss,o,h,hl=>by
  simp only[List.map_cons];unfold Cells;obtain⟨h1,h2⟩:=h 0 (by simp)
  refine⟨⟨.int k s,rfl,⟨by simpa using h2,by simpa using h1⟩,?_⟩,US ss (o+1) (λi hi=>?_) λx hx=>hl x (by simp[hx])⟩
  ·unfold Ah;exact⟨rfl,hl s (by simp)⟩
  ·have:=h (i+1) (by simpa using hi)
   rw[show o+1+i=o+(i+1) by omega]
   simpa using this
theorem Zd2{w:World}{n:String}{g t e:Nat}{k:IntKind}{m:Nat}{ss:List Int}{l:List (String×DataW Unit)}{ps:List MemPlace}(h:DataW.LaidVars Tryz.prog w l ps)(hm:(n,DataW.agg (ss.map λs=>.lit (.int k s)))∈l)
  (hg:Tryz.prog.globalNamed n=some g) (yE:(Tryz.prog.globals[g]?).map (·.type)=some t) (ht:Tryz.prog.underlying t=some (.array m e)) (he:Tryz.prog.underlying e=some (.int k)) (hce:Tryz.prog.cellsOf e=1) (hct:Tryz.prog.cellsOf t=m):Zel w (g,ss.map (AV.int k)):=by
 obtain⟨g',t',cs,fuel,p,h1,h2,h3,h4⟩:=XQ h hm;rw[hg]at h1;cases h1
 rw[yE]at h2;cases h2
 obtain⟨k1,k2⟩:=XT ht he hce hct h4;obtain⟨e,fz,hb⟩:=VW hg h3;have AP:g<w.heap.size:=(Af.1 hb).1;refine⟨US ss 0 (λi hi=>⟨?_,AP⟩) k2,cs,e,fz,hb,?_⟩
 ·have hc:cs[i]?=some (.int k ss[i]):=by
   rw[<-Array.getElem?_toList,k1];simp[hi]
  rw[Nat.zero_add];simp[World.cell?,hb,hc]
 ·have:=congrArg List.length k1;simpa using this
theorem Lm{w:World}{l:List (String×DataW Unit)}(h:laidMetH Tryz.prog l w)(hp:(l.all λx=>x.2.handleName?.isNone)=true)(m0:("strconv.ErrRange",Rows.laid_strconv_ErrRange)∈l)(m1:("strconv.ErrSyntax",Rows.laid_strconv_ErrSyntax)∈l)(m2:("internal/strconv.uint64pow10",Rows.laid_internal_strconv_uint64pow10)∈l):
  ∀x∈O6,Zel w x:=by
 rw[Go.MakeChecks.laidMetH_plain _ _ _ hp]at h;obtain⟨ps,hv,_⟩:=h;intro x hx;unfold O6 at hx;simp only[Ax,List.not_mem_nil,or_false]at hx;rcases hx with rfl|rfl|rfl;·exact wE hv m1 (by kernel_rfl) rfl (by kernel_rfl)
 ·exact wE hv m0 (by kernel_rfl) rfl (by kernel_rfl)
 ·exact Zd2 (m:=20) (e:=240) (ss:=[1,10,100,1000,10000,100000,1000000,10000000,100000000,1000000000,10000000000,100000000000,1000000000000,10000000000000,100000000000000,1000000000000000,10000000000000000,100000000000000000,1000000000000000000,10000000000000000000]) hv m2 (by kernel_rfl) rfl (by kernel_rfl) (by kernel_rfl) (by kernel_rfl) (by kernel_rfl)
end Go.Proofs.YtdadkhcdoaeabaaGreatDoor.Ff
namespace Go.Proofs.YtdadkhcdoaeabaaGreatDoor.Rr
open Go.Av Pl
open Go.ChangeShapes Go.WideShapes Go.ChangeAt Go.RowKit
theorem xC{m:Nat}{cs:List AV}(h:MU Tryz.prog (m+2) 57 cs):∃c:Ch,.agg cs=c.v:=by
 obtain⟨ps,rfl,g⟩:=FJ (ts:=[3,3,3,9,9,9,3,3,3]) Tryz.underlying57 (by kernel_rfl) h
 obtain⟨p0,_,rfl,h0,g⟩:=AD g;obtain⟨p1,_,rfl,h1,g⟩:=AD g;obtain⟨p2,_,rfl,h2,g⟩:=AD g;obtain⟨p3,_,rfl,h3,g⟩:=AD g;obtain⟨p4,_,rfl,h4,g⟩:=AD g;obtain⟨p5,_,rfl,h5,g⟩:=AD g;obtain⟨p6,_,rfl,h6,g⟩:=AD g;obtain⟨p7,_,rfl,h7,g⟩:=AD g;obtain⟨p8,_,rfl,h8,g⟩:=AD g;obtain rfl:=Gf g;obtain⟨n0,rfl,_⟩:=BQ Tryz.underlying3 h0;obtain⟨n1,rfl,_⟩:=BQ Tryz.underlying3 h1;obtain⟨n2,rfl,_⟩:=BQ Tryz.underlying3 h2;obtain⟨s3,rfl,_⟩:=Jq Tryz.underlying9 h3;obtain⟨s4,rfl,_⟩:=Jq Tryz.underlying9 h4;obtain⟨s5,rfl,_⟩:=Jq Tryz.underlying9 h5;obtain⟨n6,rfl,_⟩:=BQ Tryz.underlying3 h6;obtain⟨n7,rfl,_⟩:=BQ Tryz.underlying3 h7;obtain⟨n8,rfl,_⟩:=BQ Tryz.underlying3 h8;exact⟨⟨n0,n1,n2,s3,s4,s5,n6,n7,n8⟩,rfl⟩
theorem ZcA{m:Nat}{x:AV}(h:Jr Tryz.prog (m+2) 57 x):∃c:Ch,x=c.v:=by
 obtain⟨c,rfl⟩:=h.2.1 (by kernel_rfl)
 exact xC h.1
theorem HX{m:Nat}{x:AV}(h:Jr Tryz.prog (m+3) 23 x):∃l:List Ch,x=D5 l:=by
 obtain⟨es,rfl,_,h2⟩:=IW Tryz.underlying23 h
 obtain⟨l,rfl,_⟩:=Ea (f:=Ch.v) (p:=λ_=>True) λy hy=>by
  obtain⟨r,hr⟩:=ZcA (m:=m) (h2 y hy);exact⟨r,hr,trivial⟩
 exact⟨l,by rw[show Tryz.prog.cellsOf 57=9 by kernel_rfl];rfl⟩
theorem Xe{m:Nat}{x:AV}(h:Jr Tryz.prog (m+2) 34 x):∃p:Pt,x=p.v/\DJ .i64 p.s/\DJ .i64 p.n:=by
 obtain⟨ps,rfl,g⟩:=MX (ts:=[3,3]) Tryz.underlying34 (by kernel_rfl) h
 obtain⟨p0,_,rfl,h0,g⟩:=AD g;obtain⟨p1,_,rfl,h1,g⟩:=AD g;obtain rfl:=Gf g;obtain⟨n0,rfl,k0⟩:=BQ Tryz.underlying3 h0;obtain⟨n1,rfl,k1⟩:=BQ Tryz.underlying3 h1;exact⟨⟨n0,n1⟩,rfl,k0,k1⟩
end Go.Proofs.YtdadkhcdoaeabaaGreatDoor.Rr
namespace Go.Proofs.YtdadkhcdoaeabaaGreatDoor
open Go.Av
open Go.ChangeShapes Go.WideShapes Go.ChangeAt Go.RowKit
open Rr.Pl (Pt Ad St Ch Bs Mv HT D5 KD)
theorem Jz{m:Nat}{x:AV}(h:Jr Tryz.prog (m+6) 22 x):∃F:List Ff.Fm,x=Vc F:=by
 obtain⟨es,rfl,_,h2⟩:=IW Tryz.underlying22 h
 obtain⟨l,rfl,_⟩:=Ea (f:=Ff.Fm.v) (p:=λ_=>True) λy hy=>by
  obtain⟨r,hr⟩:=Ff.Zcz (m:=m) (h2 y hy);exact⟨r,hr,trivial⟩
 exact⟨l,by rw[show Tryz.prog.cellsOf 45=2 by kernel_rfl];rfl⟩
theorem kH{m:Nat}{cs:List AV}(h:MU Tryz.prog (m+2) 34 cs):∃a b:Int,cs=[.int .i64 a,.int .i64 b]:=by
 obtain⟨ps,rfl,g⟩:=FJ (ts:=[3,3]) Tryz.underlying34 (by kernel_rfl) h
 obtain⟨p0,_,rfl,h0,g⟩:=AD g;obtain⟨p1,_,rfl,h1,g⟩:=AD g;obtain rfl:=Gf g;obtain⟨n0,rfl,_⟩:=BQ Tryz.underlying3 h0;obtain⟨n1,rfl,_⟩:=BQ Tryz.underlying3 h1;exact⟨n0,n1,rfl⟩
theorem tW{m:Nat}{cs:List AV}(h:MU Tryz.prog (m+3) 80 cs):∃o:Od,.agg cs=o.v:=by
 obtain⟨ps,rfl,g⟩:=FJ (ts:=[34,34,3,3]) Tryz.underlying80 (by kernel_rfl) h
 obtain⟨p0,_,rfl,h0,g⟩:=AD g;obtain⟨p1,_,rfl,h1,g⟩:=AD g;obtain⟨p2,_,rfl,h2,g⟩:=AD g;obtain⟨p3,_,rfl,h3,g⟩:=AD g;obtain rfl:=Gf g;obtain⟨n2,rfl,_⟩:=BQ Tryz.underlying3 h2;obtain⟨n3,rfl,_⟩:=BQ Tryz.underlying3 h3;obtain⟨a0,b0,rfl⟩:=kH h0;obtain⟨a1,b1,rfl⟩:=kH h1;exact⟨⟨⟨a0,b0⟩,⟨a1,b1⟩,n2,n3⟩,rfl⟩
theorem Zcx{m:Nat}{x:AV}(h:Jr Tryz.prog (m+3) 80 x):∃o:Od,x=o.v:=by
 obtain⟨c,rfl⟩:=h.2.1 (by kernel_rfl)
 exact tW h.1
theorem Jy{m:Nat}{x:AV}(h:Jr Tryz.prog (m+4) 24 x):∃l:List Od,x=Hr l:=by
 obtain⟨es,rfl,_,h2⟩:=IW Tryz.underlying24 h
 obtain⟨l,rfl,_⟩:=Ea (f:=Od.v) (p:=λ_=>True) λy hy=>by
  obtain⟨r,hr⟩:=Zcx (m:=m) (h2 y hy);exact⟨r,hr,trivial⟩
 exact⟨l,by rw[show Tryz.prog.cellsOf 80=6 by kernel_rfl];rfl⟩
theorem EO:Tryz.pinned.checked.prog.mainIs=some (true,"8931e0eb94803aaf35e5ff9c5fa0e723648c44a4babe447c8fee7e74b0b01e9b".toList):=by kernel_rfl
theorem DO:true=Tryz.prog.looks []:=by kernel_rfl
end Go.Proofs.YtdadkhcdoaeabaaGreatDoor