/- What the statements of Printer share: the arguments read as networks. -/
import Derived.Test.YtmmhehdlnjojjaaGreatDoorQw
import Derived.Test.YtmmhehdlnjojjaaGreatDoorRows
import Derived.LaidMore
import Derived.LaidSub
import Derived.LaidLaws
import Derived.MakeChecks
import Derived.OpenShut
import Derived.Stop.Joined
set_option linter.unusedVariables false
set_option maxRecDepth 100000
set_option linter.unusedSectionVars false
set_option linter.unusedSimpArgs false
open Go.Proofs.Tryz
open Go.Proofs.Tryz renaming prog → Pg
open Array renaming getElem?_eq_some_iff → Ai, getElem?_toList → Ap
open Option renaming map_eq_some_iff → Am
open List renaming drop_eq_getElem_cons → Ao, mem_iff_getElem → As, getElem_range → Ax, length_range → AZ, ext_getElem → A0, getElem_map → A1, map_cons → A3
open Go.World renaming cell? → A2
namespace Go.Proofs.YtmmhehdlnjojjaaGreatDoor.Np
open Go.Av Go.Av.Net Pl
open Go.ChangeShapes Go.WideShapes Go.ChangeAt Go.RowKit
theorem own:ownKnob Pg.godebug=none:=by kernel_rfl
theorem laidOut:laidOutB Pg=true:=by kernel_rfl
theorem nB{t e:TypeId}{m:Nat}{p:List AV}(hu:Pg.underlying t=some (.slice e))(he:Pg.underlying e=some .bool)(hc:Pg.cellsOf e=1)(h:LO Pg (m+2) t p):∃l:List Bool,p=[.sl 1 (l.map .bool)]:=by
 obtain⟨es,rfl,h1,h2⟩:=Fg hu h;obtain⟨l,rfl,h3⟩:=Fp (f:=AV.bool) (p:=λ_=>True) λy hy=>by obtain⟨b,hb⟩:=zE he (h2 y hy);exact⟨b,hb,trivial⟩
 exact⟨l,by rw[hc]⟩
theorem xI{m:Nat}{cs:List AV}(h:LO Pg (m+3) 65 cs):∃c:Dm,.agg cs=ED c:=by
 obtain⟨ps,rfl,g⟩:=FU (ts:=[3,63,49]) underlying65 (by kernel_rfl) h;obtain⟨p0,_,rfl,h0,g⟩:=A7 g;obtain⟨p1,_,rfl,h1,g⟩:=A7 g;obtain⟨p2,_,rfl,h2,g⟩:=A7 g;obtain rfl:=IC g;obtain⟨n0,rfl,_⟩:=C9 underlying3 h0;obtain⟨n1,rfl⟩:=nB underlying63 underlying4 (by kernel_rfl) h1;obtain⟨n2,rfl,_⟩:=xG underlying49 underlying3 (by kernel_rfl) h2;exact⟨⟨n0,n1,n2⟩,rfl⟩
theorem tJ{m:Nat}{cs:List AV}(h:LO Pg (m+3) 86 cs):∃s:Bs,.agg cs=BP s:=by
 obtain⟨ps,rfl,g⟩:=FU (ts:=[9]) underlying86 (by kernel_rfl) h;obtain⟨p0,_,rfl,h0,g⟩:=A7 g;obtain rfl:=IC g;obtain⟨n0,rfl,l0⟩:=M7 underlying9 h0;exact⟨n0,rfl⟩
theorem tR{m:Nat}{cs:List AV}(h:LO Pg (m+3) 67 cs):∃o:JV,.agg cs=Ey o/\o.AK.length<=9223372036854775807:=by
 obtain⟨ps,rfl,g⟩:=FU (ts:=[9,3,3,3,3,3,23]) underlying67 (by kernel_rfl) h;obtain⟨p0,_,rfl,h0,g⟩:=A7 g;obtain⟨p1,_,rfl,h1,g⟩:=A7 g;obtain⟨p2,_,rfl,h2,g⟩:=A7 g;obtain⟨p3,_,rfl,h3,g⟩:=A7 g;obtain⟨p4,_,rfl,h4,g⟩:=A7 g;obtain⟨p5,_,rfl,h5,g⟩:=A7 g;obtain⟨p6,_,rfl,h6,g⟩:=A7 g;obtain rfl:=IC g;obtain⟨n0,rfl,l0⟩:=M7 underlying9 h0;obtain⟨n1,rfl,_⟩:=C9 underlying3 h1;obtain⟨n2,rfl,_⟩:=C9 underlying3 h2;obtain⟨n3,rfl,_⟩:=C9 underlying3 h3;obtain⟨n4,rfl,_⟩:=C9 underlying3 h4;obtain⟨n5,rfl,_⟩:=C9 underlying3 h5;obtain⟨n6,rfl,l6,_⟩:=Rs underlying23 underlying9 (by kernel_rfl) h6;exact⟨⟨n0,n1,n2,n3,n4,n5,n6⟩,rfl,by unfold maxLen at l6;exact l6⟩
theorem uI{m:Nat}{cs:List AV}(h:LO Pg (m+3) 96 cs):∃o:Na,.agg cs=Jy o:=by
 obtain⟨ps,rfl,g⟩:=FU (ts:=[9,3,3,3,3,3]) underlying96 (by kernel_rfl) h;obtain⟨p0,_,rfl,h0,g⟩:=A7 g;obtain⟨p1,_,rfl,h1,g⟩:=A7 g;obtain⟨p2,_,rfl,h2,g⟩:=A7 g;obtain⟨p3,_,rfl,h3,g⟩:=A7 g;obtain⟨p4,_,rfl,h4,g⟩:=A7 g;obtain⟨p5,_,rfl,h5,g⟩:=A7 g;obtain rfl:=IC g;obtain⟨n0,rfl,l0⟩:=M7 underlying9 h0;obtain⟨n1,rfl,_⟩:=C9 underlying3 h1;obtain⟨n2,rfl,_⟩:=C9 underlying3 h2;obtain⟨n3,rfl,_⟩:=C9 underlying3 h3;obtain⟨n4,rfl,_⟩:=C9 underlying3 h4;obtain⟨n5,rfl,_⟩:=C9 underlying3 h5;exact⟨⟨n0,n1,n2,n3,n4,n5⟩,rfl⟩
theorem wZ{m:Nat}{cs:List AV}(h:LO Pg (m+3) 98 cs):∃o:Io,.agg cs=Ft o:=by
 obtain⟨ps,rfl,g⟩:=FU (ts:=[9,3,3]) underlying98 (by kernel_rfl) h;obtain⟨p0,_,rfl,h0,g⟩:=A7 g;obtain⟨p1,_,rfl,h1,g⟩:=A7 g;obtain⟨p2,_,rfl,h2,g⟩:=A7 g;obtain rfl:=IC g;obtain⟨n0,rfl,l0⟩:=M7 underlying9 h0;obtain⟨n1,rfl,_⟩:=C9 underlying3 h1;obtain⟨n2,rfl,_⟩:=C9 underlying3 h2;exact⟨⟨n0,n1,n2⟩,rfl⟩
theorem xH{m:Nat}{p:List AV}(h:LO Pg (m+4) 22 p):∃l:List Dm,p=[.sl 3 (l.map ED)] :=by
 obtain⟨es,rfl,_,h2⟩:=Fg underlying22 h;obtain⟨l,rfl,h3⟩:=Fp (f:=ED) (p:=λa=>True) λy hy=>by have h4:=h2 y hy;obtain⟨c,rfl⟩:=h4.2.1 (by kernel_rfl);obtain⟨a,ha⟩:=xI h4.1;exact⟨a,ha,trivial⟩
 exact⟨l,by rw[show Pg.cellsOf 65=3 by kernel_rfl]⟩
theorem tI{m:Nat}{p:List AV}(h:LO Pg (m+4) 24 p):∃l:List Bs,p=[.sl 1 (l.map BP)] :=by
 obtain⟨es,rfl,_,h2⟩:=Fg underlying24 h;obtain⟨l,rfl,h3⟩:=Fp (f:=BP) (p:=λa=>True) λy hy=>by have h4:=h2 y hy;obtain⟨c,rfl⟩:=h4.2.1 (by kernel_rfl);obtain⟨a,ha⟩:=tJ h4.1;exact⟨a,ha,trivial⟩
 exact⟨l,by rw[show Pg.cellsOf 86=1 by kernel_rfl]⟩
theorem tQ{m:Nat}{p:List AV}(h:LO Pg (m+4) 25 p):∃l:List JV,p=[.sl 7 (l.map Ey)]/\∀a∈l,a.AK.length<=9223372036854775807:=by
 obtain⟨es,rfl,_,h2⟩:=Fg underlying25 h;obtain⟨l,rfl,h3⟩:=Fp (f:=Ey) (p:=λa=>a.AK.length<=9223372036854775807) λy hy=>by have h4:=h2 y hy;obtain⟨c,rfl⟩:=h4.2.1 (by kernel_rfl);exact tR h4.1
 exact⟨l,by rw[show Pg.cellsOf 67=7 by kernel_rfl],h3⟩
theorem uG{m:Nat}{p:List AV}(h:LO Pg (m+4) 26 p):∃l:List Na,p=[.sl 6 (l.map Jy)] :=by
 obtain⟨es,rfl,_,h2⟩:=Fg underlying26 h;obtain⟨l,rfl,h3⟩:=Fp (f:=Jy) (p:=λa=>True) λy hy=>by have h4:=h2 y hy;obtain⟨c,rfl⟩:=h4.2.1 (by kernel_rfl);obtain⟨a,ha⟩:=uI h4.1;exact⟨a,ha,trivial⟩
 exact⟨l,by rw[show Pg.cellsOf 96=6 by kernel_rfl]⟩
theorem wY{m:Nat}{p:List AV}(h:LO Pg (m+4) 27 p):∃l:List Io,p=[.sl 3 (l.map Ft)] :=by
 obtain⟨es,rfl,_,h2⟩:=Fg underlying27 h;obtain⟨l,rfl,h3⟩:=Fp (f:=Ft) (p:=λa=>True) λy hy=>by have h4:=h2 y hy;obtain⟨c,rfl⟩:=h4.2.1 (by kernel_rfl);obtain⟨a,ha⟩:=wZ h4.1;exact⟨a,ha,trivial⟩
 exact⟨l,by rw[show Pg.cellsOf 98=3 by kernel_rfl]⟩
theorem Zdh{m:Nat}{x:AV}(h:Wf Pg (m+5) 29 x):∃n:G3,x=Kd n/\∀o∈n.Ag,o.AK.length<=9223372036854775807:=by
 obtain⟨ps,rfl,g⟩:=gW (ts:=[22,23,24,25,26,27]) underlying29 (by kernel_rfl) h;obtain⟨p0,_,rfl,h0,g⟩:=A7 g;obtain⟨p1,_,rfl,h1,g⟩:=A7 g;obtain⟨p2,_,rfl,h2,g⟩:=A7 g;obtain⟨p3,_,rfl,h3,g⟩:=A7 g;obtain⟨p4,_,rfl,h4,g⟩:=A7 g;obtain⟨p5,_,rfl,h5,g⟩:=A7 g;obtain rfl:=IC g;obtain⟨c,rfl⟩:=xH h0;obtain⟨n,rfl,_⟩:=Rs underlying23 underlying9 (by kernel_rfl) h1;obtain⟨o,rfl⟩:=tI h2;obtain⟨f,rfl,hf⟩:=tQ h3;obtain⟨l,rfl⟩:=uG h4;obtain⟨k,rfl⟩:=wY h5;exact⟨⟨c,n,o,f,l,k⟩,rfl,hf⟩
theorem mapM_some{α β:Type}{f:α->Option β}:∀{l:List α}{xs:List β},l.mapM f=some xs->xs.length=l.length/\∀(i:Nat)(h:i<l.length)(h':i<xs.length),f l[i]=some xs[i]
 |[],xs,h=>by simp at h;subst h;simp
 |a::l,xs,h=>by
  rw[List.mapM_cons]at h;cases hf:f a with
  |none=>rw[hf]at h;simp at h
  |some b=>
   rw[hf]at h;cases hm:l.mapM f with
   |none=>rw[hm]at h;simp at h
   |some ys=>
    rw[hm]at h;simp at h;subst h;obtain⟨h1,h2⟩:=mapM_some hm;refine⟨by simp[h1],λi hi EW=>?_⟩;cases i with
    |zero=>exact hf
    |succ i=>exact h2 i (by simpa using hi) (by simpa using EW)
theorem aA{H:Type}{enc:TypeId×Value->H}{P:Program}{W:World}{base:Nat}{sp:Nat->Bool}{fuel:Nat}{e:TypeId}{cs:List Value}{s:List UInt8}{p:List MemPlace}(he:P.underlying e=some .string)
  (h:DataW.trod enc P W base sp false fuel e cs=some (.lit (.string s),p)):cs=[.string ⟨s.toArray⟩]/\s.length<=maxLen:=by
 cases fuel with
 |zero=>simp[DataW.trod]at h
 |succ fuel=>
  match cs with
  |[]=>simp[DataW.trod,he]at h
  |_::_::_=>simp[DataW.trod,he]at h
  |[c]=>
   cases c<;>simp[DataW.trod,he]at h;rename_i x;obtain⟨h1,h2,_⟩:=h;subst h2;exact⟨by simp,by simpa using h1⟩
theorem fV{H:Type}{enc:TypeId×Value->H}{P:Program}{W:World}{base:Nat}{sp:Nat->Bool}{fuel:Nat}{t e:TypeId}{n:Nat}{cs:List Value}{ss:List (List UInt8)}{p:List MemPlace}(ht:P.underlying t=some (.array n e))(he:P.underlying e=some .string)(vX:P.cellsOf e=1)(hct:P.cellsOf t=n)
  (h:DataW.trod enc P W base sp false fuel t cs=some (.agg (ss.map λs=>.lit (.string s)),p)):cs=ss.map (λs=>.string ⟨s.toArray⟩)/\∀s∈ss,s.length<=maxLen:=by
 cases fuel with
 |zero=>simp[DataW.trod]at h
 |succ fuel=>
  simp only[DataW.trod,ht,hct,vX]at h;split at h;·rename_i hl;simp only[Am,Prod.mk.injEq,DataW.agg.injEq]at h;obtain⟨xs,hx,h1,_⟩:=h;obtain⟨k1,k2⟩:=mapM_some hx;simp only[AZ]at k1;(have hlen:xs.length=ss.length:=by have:=congrArg List.length h1;simpa using this);(have key:∀(i:Nat)(h:i<cs.length)(h':i<ss.length),cs[i]=.string ⟨(ss[i]).toArray⟩/\ss[i].length<=maxLen:=by intro i hi EW;(have hix:i<xs.length:=by omega);have q:=k2 i (by simp;omega) hix;simp only[Ax,Nat.mul_one]at q;(have q1:(xs[i]).1=.lit (.string ss[i]):=by (have e1:(xs.map (·.1))[i]'(by simp;omega)=(ss.map λs=>DataW.lit (.string s))[i]'(by simp;omega):=by simp only[h1]);simpa using e1);(have q2:DataW.trod enc P W base sp false fuel e ((cs.drop i).take 1)=some (.lit (.string ss[i]),(xs[i]).2):=by rw[q,<-q1]);obtain⟨r1,r2⟩:=aA he q2;refine⟨?_,r2⟩;(have r3:[cs[i]]=[Value.string ⟨(ss[i]).toArray⟩]:=by rw[<-r1,Ao hi];rfl);simpa using r3);refine⟨A0 (by simp;omega) λi hi EW=>?_,λs hs=>?_⟩;rw[A1];exact(key i hi (by simpa using EW)).1;obtain⟨i,hi,rfl⟩:=As.1 hs;exact(key i (by omega) hi).2
  cases h
theorem SX{P:Program}{w:World}{n:String}{d:DataW Unit}:∀{l:List (String×DataW Unit)} {ps:List MemPlace},DataW.LaidVars P w l ps->(n,d)∈l->
  ∃g t cs fuel p,P.globalNamed n=some g/\(P.globals[g]?).map (·.type)=some t/\w.var? P n=some cs/\DataW.trod (λ_=>()) P w 0 (λ_=>true) false fuel t cs.toList=some (d,p)
 |[],ps,_,hm=>by simp at hm
 |(n0,d0)::r,ps,h,hm=>by obtain⟨g,t,cs,fuel,p,q,h1,h2,h3,h4,h5,_⟩:=h;rcases List.mem_cons.1 hm with e|hm;cases e;exact⟨g,t,cs,fuel,p,h1,h2,h3,h4⟩;exact SX h5 hm
theorem cZ{H:Type}{enc:TypeId×Value->H}{P:Program}{W:World}{base:Nat}{sp:Nat->Bool}{fuel:Nat}{e:TypeId}{cs:List Value}{k:IntKind}{n:Int}{p:List MemPlace}(he:P.underlying e=some (.int k))
  (h:DataW.trod enc P W base sp false fuel e cs=some (.lit (.int k n),p)):cs=[.int k n]/\IU k n:=by
 cases fuel with
 |zero=>simp[DataW.trod]at h
 |succ fuel=>
  match cs with
  |[]=>simp[DataW.trod,he]at h
  |_::_::_=>simp[DataW.trod,he]at h
  |[c]=>
   cases c<;>simp[DataW.trod,he]at h;rename_i k' n';obtain⟨⟨rfl,h1⟩,rfl,_⟩:=h;refine⟨rfl,?_⟩;unfold IU;simpa[Lit.wf]using h1
theorem YR{H:Type}{enc:TypeId×Value->H}{P:Program}{W:World}{base:Nat}{sp:Nat->Bool}{fuel:Nat}{t e:TypeId}{n:Nat}{cs:List Value}{k:IntKind}{ss:List Int}{p:List MemPlace}(ht:P.underlying t=some (.array n e))(he:P.underlying e=some (.int k))(vX:P.cellsOf e=1)(hct:P.cellsOf t=n)
  (h:DataW.trod enc P W base sp false fuel t cs=some (.agg (ss.map λs=>.lit (.int k s)),p)):cs=ss.map (λs=>.int k s)/\∀s∈ss,IU k s:=by
 cases fuel with
 |zero=>simp[DataW.trod]at h
 |succ fuel=>
  simp only[DataW.trod,ht,hct,vX]at h;split at h;·rename_i hl;simp only[Am,Prod.mk.injEq,DataW.agg.injEq]at h;obtain⟨xs,hx,h1,_⟩:=h;obtain⟨k1,k2⟩:=mapM_some hx;simp only[AZ]at k1;(have hlen:xs.length=ss.length:=by have:=congrArg List.length h1;simpa using this);(have key:∀(i:Nat)(h:i<cs.length)(h':i<ss.length),cs[i]=.int k ss[i]/\IU k ss[i]:=by intro i hi EW;(have hix:i<xs.length:=by omega);have q:=k2 i (by simp;omega) hix;simp only[Ax,Nat.mul_one]at q;(have q1:(xs[i]).1=.lit (.int k ss[i]):=by (have e1:(xs.map (·.1))[i]'(by simp;omega)=(ss.map λs=>DataW.lit (.int k s))[i]'(by simp;omega):=by simp only[h1]);simpa using e1);(have q2:DataW.trod enc P W base sp false fuel e ((cs.drop i).take 1)=some (.lit (.int k ss[i]),(xs[i]).2):=by rw[q,<-q1]);obtain⟨r1,r2⟩:=cZ he q2;refine⟨?_,r2⟩;(have r3:[cs[i]]=[Value.int k ss[i]]:=by rw[<-r1,Ao hi];rfl);simpa using r3);refine⟨A0 (by simp;omega) λi hi EW=>?_,λs hs=>?_⟩;rw[A1];exact(key i hi (by simpa using EW)).1;obtain⟨i,hi,rfl⟩:=As.1 hs;exact(key i (by omega) hi).2
  cases h
theorem iface_of_trod{H:Type}{enc:TypeId×Value->H}{P:Program}{W:World}{base:Nat}{sp:Nat->Bool}{fuel:Nat}{t:TypeId}{ms:Array (String×TypeId)}{cs:List Value}{name:String}{d:DataW H}{p:List MemPlace}(ht:P.underlying t=some (.interface ms))
  (h:DataW.trod enc P W base sp false fuel t cs=some (.iface name d,p)):∃u v,cs=[.iface u v]/\P.typeName? 3 u=some name:=by
 cases fuel with
 |zero=>simp[DataW.trod]at h
 |succ fuel=>
  match cs with
  |[]=>simp[DataW.trod,ht]at h
  |_::_::_=>simp[DataW.trod,ht]at h
  |[c]=>
   cases c<;>simp[DataW.trod,ht]at h;rename_i u v;refine⟨u,v,rfl,?_⟩;split at h;·rename_i h0;cases h0
   ·rename_i nm h0 h1;simp only[Am,Prod.mk.injEq,DataW.iface.injEq]at h;obtain⟨_,_,⟨rfl,_⟩,_⟩:=h;exact h1
   cases h
theorem Qt{P:Program}{w:World}{n:String}{g:Nat}{cs:Array Value}(hg:P.globalNamed n=some g)(h:w.var? P n=some cs):∃e fz,w.heap[g]?=some (.cells cs e fz):=by
 unfold World.var? at h;rw[hg]at h;simp only[Option.bind_some]at h;split at h;·rename_i cs' a b hb;cases h;exact⟨_,_,hb⟩
 cases h
theorem star : "*" ++ "errors.errorString" = "*errors.errorString":=by decide
theorem Zgt(u:TypeId)(h:Pg.typeName? 3 u=some "*errors.errorString"):u=272:=
 typeName_ptr_named (nm := "errors.errorString") (by rw[star];kernel_rfl) (by kernel_rfl) (by decide) u (by rw[star];exact h)
def Ze8(w:World)(x:Nat×List AV):Prop:=Cells (IA w) w x.2 x.1 0/\∃cur e fz,w.heap[x.1]?=some (.cells cur e fz)/\cur.size=x.2.length
theorem Zb2{w:World}{n:String}{g t:Nat}{d:DataW Unit}{l:List (String×DataW Unit)}{ps:List MemPlace}(h:DataW.LaidVars Pg w l ps)(hm:(n,DataW.iface "*errors.errorString" d)∈l)
  (hg:Pg.globalNamed n=some g) (yB:(Pg.globals[g]?).map (·.type)=some t) (ht:(match Pg.underlying t with|some (.interface _)=>true|_=>false)=true):Ze8 w (g,[.iface 272 .any]):=by
 obtain⟨g',t',cs,fuel,p,h1,h2,h3,h4⟩:=SX h hm;rw[hg]at h1;cases h1;rw[yB]at h2;cases h2
 obtain⟨ms,ht⟩:∃ms,Pg.underlying t=some (.interface ms):=by
  split at ht;·rename_i ms e;exact⟨ms,e⟩
  cases ht
 obtain⟨u,v,hc,hn⟩:=iface_of_trod ht h4;obtain rfl:=Zgt u hn;obtain⟨e,fz,hb⟩:=Qt hg h3;have Y6:cs=#[.iface 272 v]:=by apply Array.ext';simpa using hc
 subst Y6;have AA:g<w.heap.size:=(Ai.1 hb).1;refine⟨?_,_,e,fz,hb,rfl⟩;unfold Cells;refine⟨⟨.iface 272 v,rfl,⟨AA,by simp[A2,hb]⟩,?_⟩,by unfold Cells;trivial⟩;unfold Aj;exact⟨v,rfl,by unfold Aj;trivial⟩
theorem Vm{C:Af}{w:World}{g:Nat}{k:IntKind}:∀(ss:List Int)(o:Nat),(∀(i:Nat)(h:i<ss.length),w.cell? ⟨g,o+i,none⟩=some (.int k ss[i])/\C g (o+i))->(∀s∈ss,IU k s)->Cells C w (ss.map (AV.int k)) g o
 |[],_,_,_=>by simp[Cells]
 |s::ss,o,h,hl=>by simp only[A3];unfold Cells;obtain⟨h1,h2⟩:=h 0 (by simp);refine⟨⟨.int k s,rfl,⟨by simpa using h2,by simpa using h1⟩,?_⟩,Vm ss (o+1) (λi hi=>?_) λx hx=>hl x (by simp[hx])⟩;unfold Aj;exact⟨rfl,hl s (by simp)⟩;have:=h (i+1) (by simpa using hi);rw[show o+1+i=o+(i+1) by omega];simpa using this
theorem ZhA{w:World}{n:String}{g t e:Nat}{k:IntKind}{m:Nat}{ss:List Int}{l:List (String×DataW Unit)}{ps:List MemPlace}(h:DataW.LaidVars Pg w l ps)(hm:(n,DataW.agg (ss.map λs=>.lit (.int k s)))∈l)
  (hg:Pg.globalNamed n=some g) (yB:(Pg.globals[g]?).map (·.type)=some t) (ht:Pg.underlying t=some (.array m e)) (he:Pg.underlying e=some (.int k)) (vX:Pg.cellsOf e=1) (hct:Pg.cellsOf t=m):Ze8 w (g,ss.map (AV.int k)):=by
 obtain⟨g',t',cs,fuel,p,h1,h2,h3,h4⟩:=SX h hm;rw[hg]at h1;cases h1;rw[yB]at h2;cases h2;obtain⟨k1,k2⟩:=YR ht he vX hct h4;obtain⟨e,fz,hb⟩:=Qt hg h3;have AA:g<w.heap.size:=(Ai.1 hb).1;refine⟨Vm ss 0 (λi hi=>⟨?_,AA⟩) k2,cs,e,fz,hb,?_⟩
 ·have hc:cs[i]?=some (.int k ss[i]):=by rw[<-Ap,k1];simp[hi]
  rw[Nat.zero_add];simp[A2,hb,hc]
 have:=congrArg List.length k1;simpa using this
theorem Vl{C:Af}{w:World}{g:Nat}:∀(ss:List (List UInt8)) (o:Nat),(∀(i:Nat)(h:i<ss.length),w.cell? ⟨g,o+i,none⟩=some (.string ⟨(ss[i]).toArray⟩)/\C g (o+i))->(∀s∈ss,s.length<=maxLen)->Cells C w (ss.map AV.str) g o
 |[],_,_,_=>by simp[Cells]
 |s::ss,o,h,hl=>by simp only[A3];unfold Cells;obtain⟨h1,h2⟩:=h 0 (by simp);refine⟨⟨.string ⟨s.toArray⟩,rfl,⟨by simpa using h2,by simpa using h1⟩,?_⟩,Vl ss (o+1) (λi hi=>?_) λx hx=>hl x (by simp[hx])⟩;unfold Aj;have:=hl s (by simp);unfold maxLen at this;exact⟨rfl,by omega⟩;have:=h (i+1) (by simpa using hi);rw[show o+1+i=o+(i+1) by omega];simpa using this
theorem S0{w:World}{n:String}{g t e:Nat}{k:Nat}{ss:List (List UInt8)}{l:List (String×DataW Unit)}{ps:List MemPlace}(h:DataW.LaidVars Pg w l ps)(hm:(n,DataW.agg (ss.map λs=>.lit (.string s)))∈l)
  (hg:Pg.globalNamed n=some g) (yB:(Pg.globals[g]?).map (·.type)=some t) (ht:Pg.underlying t=some (.array k e)) (he:Pg.underlying e=some .string) (vX:Pg.cellsOf e=1) (hct:Pg.cellsOf t=k):Ze8 w (g,ss.map AV.str):=by
 obtain⟨g',t',cs,fuel,p,h1,h2,h3,h4⟩:=SX h hm;rw[hg]at h1;cases h1;rw[yB]at h2;cases h2;obtain⟨k1,k2⟩:=fV ht he vX hct h4;obtain⟨e,fz,hb⟩:=Qt hg h3;have AA:g<w.heap.size:=(Ai.1 hb).1;refine⟨Vl ss 0 (λi hi=>⟨?_,AA⟩) k2,cs,e,fz,hb,?_⟩
 ·have hc:cs[i]?=some (.string ⟨(ss[i]).toArray⟩):=by rw[<-Ap,k1];simp[hi]
  rw[Nat.zero_add];simp[A2,hb,hc]
 have:=congrArg List.length k1;simpa using this
def gl0:List (List UInt8):=[[45,62],[123],[125],[40],[41],[91],[93],[44],[59],[58],[61],[46],[45]]
def gl1:List (List UInt8):=[[99,97,108,101,110,100,97,114],[111,112,101,114,97,116,111,114],[111,102,102,105,99,101],[108,105,110,101],[99,108,97,115,115],[122,111,110,101],[119,101,101,107],[104,111,108,105,100,97,121],[112,111,99,107,101,116,115],[112,97,115,115,101,115],[109,105,110,117,116,101,115],[99,111,100,101,115],[97,116],[116,114,97,118,101,108],[108,111,97,100],[99,117,116],[100,101,108,105,118,101,114]]
end Go.Proofs.YtmmhehdlnjojjaaGreatDoor.Np