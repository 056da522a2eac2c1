/- warrant: small functions. -/
import Derived.Test.YtmmhehdlnjojjaaGreatDoorQe
set_option linter.unusedVariables false
set_option maxRecDepth 100000
set_option linter.unusedSectionVars false
set_option linter.unusedSimpArgs false
set_option maxHeartbeats 4000000
open Go.Proofs.Tryz
open Go.Proofs.Tryz renaming prog → Pg
open List renaming length_map → Ai, append_assoc → AZ, length_append → A0, take_succ_eq_append_getElem → A1, take_length → A2, getD_eq_getElem?_getD → A3, getElem_mem → A4, length_cons → A5, append_nil → A6, getElem?_eq_none → A9, mem_append → Bg, replicate → BG, mem_cons → BQ, mem_flatMap → BU, map_append → Cc
open Nat renaming zero_le → Ax, le_trans → BR, le_refl → Cb
open And renaming intro → Ce
namespace Go.Proofs.YtmmhehdlnjojjaaGreatDoor
theorem Ybe{P:Prop}(e:P:=by
 refine kR ?_;constructor<;>intro g;·(have g:j<p:=by have:=of_decide_eq_true g;omega);obtain⟨x,hx⟩:∃x,x=r.getD j 0:=⟨_,rfl⟩;(have hxg:(r.map (AV.int .i64))[((j:Nat):Int).toNat]?=some (.int .i64 x):=by rw[hx];simp[show j<r.length by omega]);have xZ:=vL x (by rw[hx];simp[show j<r.length by omega]);refine kW ?_;refine⟨by omega,_,hxg,?_⟩;refine kW ?_;refine kC (xZ) ?_;refine⟨λh=>absurd h (by simp),λ_=>?_⟩;refine kW ?_;refine⟨j+1,?_⟩;refine qG ?_;omega
 refine kW ?_;refine⟨o+1,?_⟩;refine qG ?_;omega):P:=e
theorem Ybf{P:Prop}(e:P:=by
 refine⟨congrArg (λI=>some (HO.inv I)) hR.symm,rfl,rfl,?_⟩;refine⟨rfl,rfl,?_,?_⟩;·repeat first|exact trivial|(refine⟨by first|exact rfl|exact B6 _,?_⟩;conv=>whnf)
 conv=>whnf
 refine⟨B6 _,?_⟩;conv=>whnf
 exact⟨rfl,rfl⟩):P:=e
end Go.Proofs.YtmmhehdlnjojjaaGreatDoor
namespace Go.Proofs.YtmmhehdlnjojjaaGreatDoor
open Go.Av Go.RowKit
theorem KY(c:Dm)(m t:Int)(hc:CX c=true)(m0:0<=m)(m1:m<1440)(t0:-2000000<=t)(t1:t<=20000000):Au Pg 212 [c.v,.int .i64 m,.int .i64 t] (λr=>r=.tuple [.int .i64 (DV c m t).1,.int .i64 (DV c m t).2]):=by
 have hz:=JY hc;refine kB func212 rfl ?_;refine kC (Fa c t hc (by omega) (by omega)) ?_;have hd:Gl c m t=(t+c.Bc)/1440+(if m<(t+c.Bc)%1440 then 1 else 0):=rfl;have hdr:-3000<=Gl c m t/\Gl c m t<=20000:=by rw[hd];split<;>omega
 have hn:=My c (Gl c m t);have hns:=WY c (Gl c m t) hc (by omega) (by omega);unfold DV;generalize (t+c.Bc)/1440=d at*;constructor<;>intro h;rw[if_pos (of_decide_eq_true h)]at hd;refine kW ?_;rw[HE (n:=d+1) (by omega),<-hd]
 rotate_left
 rw[if_neg (of_decide_eq_false h),Int.add_zero]at hd;refine kW ?_;rw[<-hd]
 all_goals
  clear hd;refine kC (hns) ?_;generalize IN c (Gl c m t)=N at*;generalize Gl c m t=D at*;obtain⟨x,e⟩:=N;simp only at hn;constructor<;>intro h;·(have h:¬e=0:=by simpa using h);rw[if_neg h];exact Er
  have h:e=0:=by simpa using h
  subst h;rw[if_pos rfl];refine kW ?_;exact pE (Qw c x m hc (by unfold LW;simp;omega) m0 m1)
theorem VF(i m:Int):Au Pg 270 [.int .i64 i,.int .i64 m] (λr=>r=.bool (decide (0<=i)&&decide (i<m))):=by
 refine kB func270 rfl ?_
 repeat' (first|(refine Ce (λ_=>?_) (λ_=>?_)<;>conv=>whnf)|refine Ql ?_|fail)
 all_goals (first|(simp_all;done)|(simp_all;omega))
def G4(x:Int×Int)(v:Int):Int×Int:=(x.1*3%65521,(x.2+(v%65521)*(x.1*3%65521))%65521)
def Wv(l:List Int):Int:=(l.foldl G4 (1,0)).2
theorem sM{x:Int×Int}(v:Int):0<=(G4 x v).1/\(G4 x v).1<65521/\0<=(G4 x v).2/\(G4 x v).2<65521:=by
 unfold G4;simp only;omega
theorem K4:∀(l:List Int)(x:Int×Int),0<=x.1/\x.1<65521/\0<=x.2/\x.2<65521->0<=(l.foldl G4 x).1/\(l.foldl G4 x).1<65521/\0<=(l.foldl G4 x).2/\(l.foldl G4 x).2<65521
 |[],_,h=>h
 |v::l,x,_=>K4 l _ (sM v)
theorem nY{a b:Int}(h:0<=a):a.tmod b=a%b:=Int.tmod_eq_emod_of_nonneg h
theorem sL(l:List Int)(hl:l.length<=1000000)(hx:∀x∈l,0<=x/\x<=1000000):Au Pg 171 [ints l] (λr=>r=.int .i64 (Wv l)):=by
 refine kB func171 rfl ?_;rw[Ai];refine Aa.Ar (λk:Nat=>mk 27 [(3,.int .i64 ((l.take k).foldl G4 (1,0)).1),(4,.int .i64 ((l.take k).foldl G4 (1,0)).2),(7,ints l),(8,.int .i64 (l.length:Nat)),(9,.int .i64 (k:Nat))]) (λ_=>[]) (λk=>k<=l.length) (λk=>l.length-k) (λ_ _=>⟨rfl,trivial⟩) ⟨0,?_⟩ (λ_=>rfl) λk hk=>?_;refine kQ ?_;exact Ax _;have hr:=K4 (l.take k) (1,0) (by decide);refine kR ?_;constructor<;>intro h
 ·have h:k<l.length:=by have:=of_decide_eq_true h;omega
  have hg:(l.map (AV.int .i64))[((k:Nat):Int).toNat]?=some (.int .i64 l[k]):=by simp[h]
  have hs:(l.take (k+1)).foldl G4 (1,0)=G4 ((l.take k).foldl G4 (1,0)) l[k]:=by rw[A1 h,List.foldl_append];rfl
  have hv:=hx _ (A4 h);generalize l[k]=v at*;generalize (l.take k).foldl G4 (1,0)=P at*;obtain⟨p,s⟩:=P;simp only at hr;refine kW ?_;refine⟨by omega,_,hg,?_⟩;have a1:(Wr .i64 (p*3)).tmod 65521=p*3%65521:=by rw[HE (n:=p*3) (by omega),nY (by omega)]
  have a2:(Wr .i64 (v.tmod 65521+65521)).tmod 65521=v%65521:=by rw[nY hv.1,HE (by omega),nY (by omega)];omega
  have a3:0<=(v%65521)*(p*3%65521)/\(v%65521)*(p*3%65521)<=65521*65521:=⟨Int.mul_nonneg (by omega) (by omega),Int.mul_le_mul (by omega) (by omega) (by omega) (by omega)⟩;have e1:(Wr .i64 (p*3)).tmod 65521=((l.take (k+1)).foldl G4 (1,0)).1:=by rw[hs,a1];rfl
  have e2:(Wr .i64 (s+Wr .i64 ((Wr .i64 (v.tmod 65521+65521)).tmod 65521*(Wr .i64 (p*3)).tmod 65521))).tmod 65521=((l.take (k+1)).foldl G4 (1,0)).2:=by rw[hs,a1,a2,HE (n:=(v%65521)*(p*3%65521)) (by omega),HE (by omega),nY (by omega)];rfl
  refine kW ?_;refine⟨by decide,?_⟩;refine kW ?_;refine⟨by decide,?_⟩;refine kW ?_;refine⟨by decide,?_⟩;refine kW ?_;refine⟨by decide,?_⟩;refine kW ?_;refine⟨k+1,?_⟩;conv=>whnf
  repeat(refine Ce ?_ ?_;(focus (first|rfl|(simp;done)|(first|exact ZI _ (by omega)|exact congrArg (AV.int .i64) e1|exact congrArg (AV.int .i64) e2|exact e1|exact e2;done)));conv=>whnf)
  omega
 have h:k=l.length:=by have:=of_decide_eq_false h;omega
 subst h;rw[A2];refine kW ?_;rfl
theorem Yg(M:List (List Int))(p:Nat)(fG:FuncId)(A:List AV)(hM:M.length=p)(hp:p<=1000)(hr:∀o:Nat,o<p->(M.getD o []).length=p/\∀x∈M.getD o [],Au Pg fG (.int .i64 o::.int .i64 x::[.at_ A]) (λr=>r=.bool true)):
  Au Pg 205 [DN M,.int .i64 p,.fn fG [.at_ A]] (λr=>r=.bool true):=by
 refine kB func205 rfl ?_;rw[Ai,hM];refine⟨λh=>absurd h (by simp),λ_=>?_⟩;refine kW ?_;rw[Ai,hM];refine Aa.Ar (λo:Nat=>mk 39 [(1,.int .i64 p),(2,.fn fG [.at_ A]),(15,DN M),(16,.int .i64 p),(17,.int .i64 (o:Nat))]) (λ_=>[]) (λo=>o<=p) (λo=>p-o) (λ_ _=>⟨rfl,trivial⟩) ⟨0,?_⟩ (λ_=>rfl) λo ho=>?_;refine kQ ?_;exact Ax _;refine kR ?_;constructor<;>intro h
 ·have h:o<p:=by have:=of_decide_eq_true h;omega
  obtain⟨R6,vL⟩:=hr o h;obtain⟨r,dI⟩:∃r,r=M.getD o []:=⟨_,rfl⟩;have hg:(M.map ints)[((o:Nat):Int).toNat]?=some (ints r):=by rw[dI];simp[show o<M.length by omega]
  rw[<-dI]at R6 vL;refine kW ?_;refine⟨by omega,_,hg,?_⟩;refine kW ?_;rw[Ai,R6];refine⟨λh=>absurd h (by simp),λ_=>?_⟩;refine kW ?_;rw[Ai,R6];refine Aa.Ar (λj:Nat=>mk 39 [(1,.int .i64 p),(2,.fn fG [.at_ A]),(7,.int .i64 o),(15,DN M),(16,.int .i64 p),(17,.int .i64 (o:Nat)),(26,ints r),(27,.int .i64 p),(28,.int .i64 (j:Nat))]) (λ_=>[]) (λj=>j<=p) (λj=>p-j) (λ_ _=>⟨rfl,trivial⟩) ⟨0,?_⟩ (λ_=>rfl) λj hj=>?_;refine kQ ?_;exact Ax _;exact Ybe
 exact Er
theorem Yf(M:List (List Int))(p:Nat)(fG:FuncId)(hM:M.length=p)(hp:p<=1000)(hr:∀o:Nat,o<p->(M.getD o []).length=p/\∀x∈M.getD o [],Au Pg fG (.int .i64 o::.int .i64 x::[]) (λr=>r=.bool true)):
  Au Pg 205 [DN M,.int .i64 p,.fn fG []] (λr=>r=.bool true):=by
 refine kB func205 rfl ?_;rw[Ai,hM];refine⟨λh=>absurd h (by simp),λ_=>?_⟩;refine kW ?_;rw[Ai,hM];refine Aa.Ar (λo:Nat=>mk 39 [(1,.int .i64 p),(2,.fn fG []),(15,DN M),(16,.int .i64 p),(17,.int .i64 (o:Nat))]) (λ_=>[]) (λo=>o<=p) (λo=>p-o) (λ_ _=>⟨rfl,trivial⟩) ⟨0,?_⟩ (λ_=>rfl) λo ho=>?_;refine kQ ?_;exact Ax _;refine kR ?_;constructor<;>intro h
 ·have h:o<p:=by have:=of_decide_eq_true h;omega
  obtain⟨R6,vL⟩:=hr o h;obtain⟨r,dI⟩:∃r,r=M.getD o []:=⟨_,rfl⟩;have hg:(M.map ints)[((o:Nat):Int).toNat]?=some (ints r):=by rw[dI];simp[show o<M.length by omega]
  rw[<-dI]at R6 vL;refine kW ?_;refine⟨by omega,_,hg,?_⟩;refine kW ?_;rw[Ai,R6];refine⟨λh=>absurd h (by simp),λ_=>?_⟩;refine kW ?_;rw[Ai,R6];refine Aa.Ar (λj:Nat=>mk 39 [(1,.int .i64 p),(2,.fn fG []),(7,.int .i64 o),(15,DN M),(16,.int .i64 p),(17,.int .i64 (o:Nat)),(26,ints r),(27,.int .i64 p),(28,.int .i64 (j:Nat))]) (λ_=>[]) (λj=>j<=p) (λj=>p-j) (λ_ _=>⟨rfl,trivial⟩) ⟨0,?_⟩ (λ_=>rfl) λj hj=>?_;refine kQ ?_;exact Ax _;exact Ybe
 exact Er
theorem Uo(n:Net)(hL:n.Am.length<=1000)(o x:Int)(hx:x=-1\/(0<=x/\x<n.Am.length/\(n.B3 x).fr=o)):Au Pg 269 [.int .i64 o,.int .i64 x,.at_ [.at_ n.c]] (λr=>r=.bool true):=by
 refine kB func269 rfl ?_;constructor<;>intro q
 ·have q:¬x=-1:=by simpa using q
  obtain⟨x0,x1,x2⟩:=hx.resolve_left q;conv=>whnf
  rw[Ai];refine kC (VF x n.Am.length) ?_;refine⟨λ_=>?_,λh=>absurd h (by simp[x0,x1])⟩;conv=>whnf
  refine⟨x0,_,getD_map Im.v n.Am GD x0 x1,?_⟩;refine kW ?_;exact congrArg AV.bool (decide_eq_true x2)
 exact Er
def Qa(D:List (List (List Int)))(c p:Nat):Prop:=D.length=c/\∀k:Nat,k<c->(D.getD k []).length=p/\∀o:Nat,o<p->((D.getD k []).getD o []).length=p/\∀x∈(D.getD k []).getD o [],-1<=x/\x<=65518
theorem Zd(o x:Int)(h0:-1<=x)(h1:x<=65518):Au Pg 207 [.int .i64 o,.int .i64 x] (λr=>r=.bool true):=by
 refine kB func207 rfl ?_;refine⟨λ_=>?_,λq=>absurd q (by simp;omega)⟩;refine kW ?_;simp[h1]
theorem VY(n:Net):Au Pg 206 [.at_ n.c] (λr=>r=.fn 269 [.at_ [.at_ n.c]]):=by
 exact kBe func206 rfl
theorem VG(n:Net)(hn:Dw n)(fr till:Int)(hd:Gk fr till=true)(N:List (List Int))(hN:Et n N)(D:List (List (List Int)))(hD:Qa D n.Ao.length n.Ag.length):Au Pg 167 [.at_ n.c,.at_ (Js fr till N D)] (λr=>r=.bool true):=by
 have hd:=Iz.1 hd;have hL:=hn.len;refine kB func167 rfl ?_;refine Aa.draw [] Ab mO (by kernel_rfl) ?_;conv=>whnf
 refine⟨λh=>absurd h (by simp;omega),λ_=>?_⟩;conv=>whnf
 refine⟨λh=>absurd h (by simp;omega),λ_=>?_⟩;conv=>whnf
 refine⟨λh=>absurd h (by simp;omega),λ_=>?_⟩;conv=>whnf
 rw[HE (n:=till-fr) (by omega)];refine⟨λh=>absurd h (by simp;omega),λ_=>?_⟩;refine kW ?_;refine Aa.draw [] Ab mO (by kernel_rfl) ?_;conv=>whnf
 rw[Ai,Ai,hD.1];refine⟨λh=>absurd h (by simp),λ_=>?_⟩;conv=>whnf
 refine⟨_,⟨VY n,rfl⟩,?_⟩;conv=>whnf
 rw[Ai];refine⟨_,⟨Yg N n.Ag.length 269 [.at_ n.c] hN.len (by omega) (λo ho=>⟨(hN.row o (by rw[hN.len];exact ho)).1,λx hx=>Uo n (by omega) o x ((hN.row o (by rw[hN.len];exact ho)).2 x hx)⟩),rfl⟩,?_⟩;conv=>whnf
 refine⟨λ_=>?_,λh=>absurd h (by simp)⟩;refine kW ?_;rw[Ai];obtain⟨wD,wB⟩:=hD;generalize n.Ao.length=c at*;rw[wD];refine Aa.Ar (λk:Nat=>mk 88 [(0,.at_ n.c),(1,.at_ (Js fr till N D)),(5,.fn 207 []),(72,Lh D),(73,.int .i64 c),(74,.int .i64 (k:Nat))]) (λ_=>[]++BG 35 HO.dead++BG 26 HO.dead) (λk=>k<=c) (λk=>c-k) (λ_ _=>⟨rfl,by(conv=>whnf);exact trivial⟩) ⟨0,?_⟩ (λ_=>rfl) λk hk=>?_;refine kQ ?_;exact Ax _;refine kR ?_;constructor<;>intro h
 ·have h:k<c:=by have:=of_decide_eq_true h;omega
  obtain⟨vR,kZ⟩:=wB k h;have hg:(D.map DN)[((k:Nat):Int).toNat]?=some (DN (D.getD k [])):=by simp[show k<D.length by omega]
  refine kW ?_;refine⟨by omega,_,hg,?_⟩;refine kW ?_;rw[Ai];refine kC (Yf (D.getD k []) n.Ag.length 207 vR (by omega) (λo ho=>⟨(kZ o ho).1,λx hx=>Zd o x ((kZ o ho).2 x hx).1 ((kZ o ho).2 x hx).2⟩)) ?_;refine⟨λh=>absurd h (by simp),λ_=>?_⟩;refine kW ?_;refine⟨k+1,?_⟩;refine qG ?_;omega
 exact Er
theorem X5(c:Dm)(d:Int)(n:Nat):(Dz c d n).length<=n:=by
 unfold Dz;exact BR (List.length_filter_le _ _) (by simp)
theorem wV(c:Dm)(a b:Int):MU c a b<=2000:=by
 unfold MU;split;omega;have:=X5 c (a+1) (b-a).toNat;omega
theorem Zcp(n:Net)(N:List (List Int))(k o d t:Int):(Ff n N k o d t).1<=2000:=by
 unfold Ff;split;exact(by decide:(0:Int)<=2000);split;exact(by decide:(0:Int)<=2000);split;exact wV _ _ _;exact(by decide:(0:Int)<=2000)
theorem Sd(f:Int->Int)(hf:∀t,f t<=2000):∀(l:List Int)(m:Int),-1<=m->m<=2000->-1<=l.foldl (λm t=>max m (f t)) m/\l.foldl (λm t=>max m (f t)) m<=2000
 |[],m,h0,h1=>⟨h0,h1⟩
 |t::l,m,h0,h1=>Sd f hf l (max m (f t)) (by omega) (by have:=hf t;omega)
theorem uA(n:Net)(N:List (List Int))(k o d fr till:Int):-1<=Ia n N k o d fr till/\Ia n N k o d fr till<=2000:=by
 unfold Ia;split;exact Sd _ (λt=>Zcp n N k o d t) _ _ (by omega) (by omega);omega
theorem Tn(n:Net)(N:List (List Int))(fr till:Int):Qa (FV n N fr till) n.Ao.length n.Ag.length:=by
 refine⟨by simp[FV],λk hk=>?_⟩;have e1:(FV n N fr till).getD k []=I7 n N k fr till:=by simp[FV,hk]
 rw[e1];refine⟨by simp[I7],λo ho=>?_⟩;have e2:(I7 n N k fr till).getD o []=aP n N k o fr till:=by simp[I7,ho]
 rw[e2];refine⟨by simp[aP],λx hx=>?_⟩;obtain⟨d,_,rfl⟩:=List.mem_map.1 hx;have:=uA n N k o d fr till;omega
def FF(n:Net)(N:List (List Int))(d:Int):Nat->Int->Int->List Int
 |0,_,_=>[]
 |f+1,o,t=>if o=d then []else
  ((BO n (nx N o d) (t+(n.Cd o).As*(n.Cd o).Ap)).1+(n.Cn o).Bc)/1440::FF n N d f (n.B3 (nx N o d)).dst ((BO n (nx N o d) (t+(n.Cd o).As*(n.Cd o).Ap)).1+(n.B3 (nx N o d)).Bb)
theorem Uv(n:Net)(N:List (List Int))(d:Int):∀(f:Nat)(o t:Int),(FF n N d f o t).length<=f
 |0,_,_=>Cb _
 |f+1,o,t=>by unfold FF;split;exact Ax _;have:=Uv n N d f (n.B3 (nx N o d)).dst ((BO n (nx N o d) (t+(n.Cd o).As*(n.Cd o).Ap)).1+(n.B3 (nx N o d)).Bb);simp only[A5];omega
theorem ZaO{n:Net}{N:List (List Int)}(hN:Et n N){o d:Int}(o0:0<=o)(o1:o<n.Ag.length)(d0:0<=d)(d1:d<n.Ag.length)(h:¬nx N o d=-1):0<=nx N o d/\nx N o d<n.Am.length/\(n.B3 (nx N o d)).fr=o:=by
 have pM:=hN.row o.toNat (by rw[hN.len];omega);have NA:=pM.2 _ (Bx (l:=N.getD o.toNat []) 0 d0 (by rw[pM.1];exact d1));rcases NA with h'|⟨h1,h2,h3⟩;exact absurd h' h;exact⟨h1,h2,by unfold nx;omega⟩
theorem cJ{n:Net}(hn:Dw n){N:List (List Int)}(hN:Et n N){d:Int}(d0:0<=d)(d1:d<n.Ag.length):∀(f:Nat)(o t:Int),0<=o->o<n.Ag.length->0<=t->(BI n N d f o t).2=0->∀x∈FF n N d f o t,t/1440-1<=x/\x<=2000
 |0,_,_,_,_,_,_,x,hx=>by cases hx
 |f+1,o,t,o0,o1,t0,hw,x,hx=>by unfold FF at hx;unfold BI at hw;split at hx;cases hx;rename_i hod;rw[if_neg hod]at hw;by_cases hnx:nx N o d=-1;rw[if_pos hnx]at hw;exact absurd hw (by decide);rw[if_neg hnx]at hw;obtain⟨l0,l1,l2⟩:=ZaO hN o0 o1 d0 d1 hnx;by_cases he:(BO n (nx N o d) (t+(n.Cd o).As*(n.Cd o).Ap)).2=0;rw[if_neg (by simpa using he)]at hw;have hr:=JE hn l0 l1 he;have hb:=E5 hn o0 o1;have hz:=JY (hn.Il o0 o1);have hl:=hn.B3 _ (Bx GD l0 l1);replace hl:0<=(n.B3 (nx N o d)).dst/\(n.B3 (nx N o d)).dst<n.Ag.length/\1<=(n.B3 (nx N o d)).Bb:=⟨hl.2.2.1,hl.2.2.2.1,hl.2.2.2.2.2.2.1⟩;rcases BQ.1 hx with rfl|hx;omega;have:=cJ hn hN d0 d1 f _ _ hl.1 hl.2.1 (by omega) hw x hx;omega;rw[if_pos he]at hw;exact absurd hw he
def OZ(f:Nat->List Int)(k:Nat):List Int:=(List.range k).flatMap f
theorem Hw(f:Nat->List Int)(k:Nat):OZ f (k+1)=OZ f k++f k:=by simp[OZ,List.range_succ]
theorem KM{f:Nat->List Int}{k:Nat}{x:Int}(h:x∈OZ f k):∃i,i<k/\x∈f i:=by
 obtain⟨i,hi,hx⟩:=BU.1 h;exact⟨i,List.mem_range.1 hi,hx⟩
theorem KN{f:Nat->List Int}{b:Nat}(h:∀i,(f i).length<=b):∀k:Nat,(OZ f k).length<=k*b
 |0=>by simp[OZ]
 |k+1=>by rw[Hw,A0,Nat.add_mul];have:=KN h k;have:=h k;omega
def Cy(a:Int)(l:List Int):List Int:=l.map (·+a)
def Xe(n:Net)(N:List (List Int))(fr till k o d:Int):List Int:=(Og n k o fr till).flatMap λt=>Cy (2-fr) (FF n N d 19 o t)
def Xd(n:Net)(N:List (List Int))(fr till:Int)(r:List Int)(k o d:Nat):List Int:=if r.getD d 0=-1 then []else Xe n N fr till k o d
def PZ(n:Net)(fr till:Int):List Int:=[fr,till,(n.Ag.length:Nat),(n.Ao.length:Nat)]
def Jv(N:List (List Int))(k:Nat):List Int:=OZ (λi=>Cy 1 (N.getD i [])) k
def Zi(D:List (List (List Int)))(k:Nat):List Int:=OZ (λi=>Jv (D.getD i []) (D.getD i []).length) k
def kL(n:Net)(N:List (List Int))(fr till:Int)(B:List (List Int))(k o:Nat)(j:Nat):List Int:=OZ (Xd n N fr till (B.getD o []) k o) j
def cV(n:Net)(N:List (List Int))(fr till:Int)(B:List (List Int))(k:Nat)(j:Nat):List Int:=OZ (λo=>kL n N fr till B k o (B.getD o []).length) j
def cT(n:Net)(N:List (List Int))(fr till:Int)(D:List (List (List Int)))(j:Nat):List Int:=OZ (λk=>cV n N fr till (D.getD k []) k (D.getD k []).length) j
def I5(n:Net)(N:List (List Int))(fr till:Int)(D:List (List (List Int))):List Int:=PZ n fr till++Jv N N.length++Zi D D.length++cT n N fr till D D.length
theorem Vi(c:Dm)(m till:Int):∀(f:Nat)(t:Int),(LX c m till f t).length<=f
 |0,_=>Cb _
 |f+1,t=>by unfold LX;split;have:=Vi c m till f ((DV c m t).1+1);simp only[A5];omega;exact Ax _
theorem U9{α:Type}(f:α->List Int)(b:Nat)(h:∀t,(f t).length<=b):∀l:List α,(l.flatMap f).length<=l.length*b
 |[]=>by simp
 |t::l=>by rw[List.flatMap_cons,A0,A5,Nat.add_mul];have:=U9 f b h l;have:=h t;omega
theorem QJ(a:Int)(l:List Int):(Cy a l).length=l.length:=Ai _
theorem Zbd(n:Net)(N:List (List Int))(fr till k o d:Int)(h0:0<=fr)(h1:fr<till)(h2:till<=600):(Xe n N fr till k o d).length<=20000000:=by
 have h:=U9 (λt=>Cy (2-fr) (FF n N d 19 o t)) 19 (λt=>by rw[QJ];exact Uv n N d 19 o t) (Og n k o fr till);have h3:(Og n k o fr till).length<=864000:=BR (Vi _ _ _ _ _) (by omega);unfold Xe;omega
def wC(n:Net)(fr till:Int)(N:List (List Int))(D:List (List (List Int)))(x:AV):List AV:=n.c++[.int .i64 fr,.int .i64 till,DN N,Lh D,x]
def wO(n:Net)(fr till:Int)(N:List (List Int))(D:List (List (List Int)))(v:Value):List HO:=[.dead,.dead,.dead,.dead,.dead,.cells (wC n fr till N D (.raw v))]
def wH(n:Net)(fr till:Int)(N:List (List Int))(D:List (List (List Int)))(L:List Int):List HO:=[.dead,.dead,.dead,.dead,.dead,.cells (wC n fr till N D (.own 6 1 0 L.length)),.arr 3 1 (L.map (AV.int .i64))]
section
variable (n:Net)(fr till:Int)(N:List (List Int))(D:List (List (List Int)))
theorem Za4{f:FuncId}{xs:List AV}{r x:AV}(h:∀v,Bq Pg f (.ptr 5 0::xs) (wO n fr till N D v) (λr' H=>r'=r/\H=wO n fr till N D v) (λ_ _=>False))(hc:AI xs=true)(hw:∀c,AR (Dg 5 c) xs=true):
  gB Pg f 5 (wC n fr till N D x) (.ptr 5 0::xs) r:=by
 refine gB.bV (m:=[false,false,false,false,false,false,false,false,false,false,true]) rfl (λvs EA=>?_) (λc=>?_) (λvs EA=>?_)
 ·match vs,EA with
  |[a,b,c,d,e,f,g,i,j,k,l],_=>exact h l
 exact hw c
 match vs,EA with
 |[a,b,c,d,e,f,g,i,j,k,l],_=>rfl
theorem Qr(hn:Dw n)(o:Int)(h0:0<=o)(h1:o<n.Ag.length){x:AV}:gB Pg 210 5 (wC n fr till N D x) [.ptr 5 0,.int .i64 o] (n.Cn o).v:=by
 have hf:=hn.Cd _ (Bx GY h0 h1);refine Za4 n fr till N D (λv=>?_) rfl λ_=>rfl;refine Bq.Ak func210 rfl Ab (by kernel_rfl) rfl ?_;refine kW ?_;refine Aa.draw [16] Ab mO (by kernel_rfl) ?_;conv=>whnf
 refine⟨h0,_,getD_map LC.v n.Ag GY h0 h1,?_⟩;conv=>whnf
 refine⟨hf.1,_,getD_map Dm.v n.Aq xK hf.1 hf.2.1,?_⟩;refine kW ?_;exact⟨rfl,rfl⟩
theorem RB(hn:Dw n)(o t:Int)(h0:0<=o)(h1:o<n.Ag.length)(t0:-2000000<=t)(t1:t<=20000000){x:AV}:gB Pg 213 5 (wC n fr till N D x) [.ptr 5 0,.int .i64 o,.int .i64 t] (.int .i64 (t+(n.Cd o).As*(n.Cd o).Ap)):=by
 have hf:=hn.Cd _ (Bx GY h0 h1);refine Za4 n fr till N D (λv=>?_) rfl λ_=>rfl;refine Bq.Ak func213 rfl Ab (by kernel_rfl) rfl ?_;refine kW ?_;refine Aa.draw [] Ab mO (by kernel_rfl) ?_;conv=>whnf
 refine⟨h0,_,getD_map LC.v n.Ag GY h0 h1,?_⟩;conv=>whnf
 refine⟨h0,_,getD_map LC.v n.Ag GY h0 h1,?_⟩;refine kW ?_;have hb:=E5 hn h0 h1;exact⟨congrArg (AV.int .i64) (by show Wr .i64 (t+Wr .i64 ((n.Cd o).As*(n.Cd o).Ap))=_;rw[HE (n:=(n.Cd o).As*(n.Cd o).Ap) (by omega),HE (by omega)]),rfl⟩
theorem B6(L:List Int):∀e∈L.map (AV.int .i64),closed e=true:=λe he=>Ad _ (λ_=>rfl) _ _ he
theorem Zfb(L:List Int):CR (wH n fr till N D L) (wH n fr till N D L) True:=⟨rfl,B6 L,trivial⟩
theorem OK(a b c d e:HO)(L:List Int)(R:List HO):Eh (wH n fr till N D L) (wH n fr till N D L) (a::b::c::d::e::.cells (wC n fr till N D (.own 6 1 0 L.length))::.arr 3 1 (L.map (AV.int .i64))::R) True:=by
 (conv=>whnf);refine⟨rfl,rfl,?_⟩;(conv=>whnf);exact⟨rfl,B6 L,trivial⟩
theorem bA(L M:List Int)(hL:L.length+M.length<=10000000000000):Bq Pg 168 [.ptr 5 0,ints M] (wH n fr till N D L) (λr H=>r=.tuple []/\H=wH n fr till N D (L++M)) (λ_ _=>False):=by
 refine Bq.Ak func168 rfl Ab (by kernel_rfl) rfl ?_;refine kW ?_;refine⟨⟨by simp,by simp;omega⟩,?_⟩;refine kW ?_;rw[<-Cc,Ai];refine⟨B6 _,?_⟩;conv=>whnf
 exact⟨rfl,rfl⟩
theorem Mq(L M:List Int)(yM:Int)(hL:L.length+M.length<=1000000000000)(hb:∀x∈M,-1000000<=x+yM/\x+yM<=1000000):Bq Pg 169 [.ptr 5 0,.int .i64 yM,ints M] (wH n fr till N D L) (λr H=>r=.tuple []/\H=wH n fr till N D (L++Cy yM M)) (λ_ _=>False):=by
 refine Bq.Ak func169 rfl Ab (by kernel_rfl) rfl ?_;refine kW ?_;rw[Ai];refine Aa.Ar (λk:Nat=>mk 21 [(0,.ptr 5 0),(1,.int .i64 yM),(8,ints M),(9,.int .i64 (M.length:Nat)),(10,.int .i64 (k:Nat))]) (λk=>wH n fr till N D (L++Cy yM (M.take k))) (λk=>k<=M.length) (λk=>M.length-k) (λk _=>⟨rfl,Zfb ..⟩) ⟨0,?_⟩ (λ_=>rfl) λk hk=>?_;refine kQ ?_;exact⟨by simp[Cy],Ax _⟩;refine kR ?_;constructor<;>intro h
 ·have h:k<M.length:=by have:=of_decide_eq_true h;omega
  have hg:(M.map (AV.int .i64))[((k:Nat):Int).toNat]?=some (.int .i64 M[k]):=by simp[h]
  have hbk:=hb _ (A4 h);have hs:Cy yM (M.take (k+1))=Cy yM (M.take k)++[M[k]+yM]:=by unfold Cy;rw[A1 h,Cc];rfl
  generalize M[k]=v at*;refine kW ?_;refine⟨by omega,_,hg,?_⟩;refine kW ?_;rw[HE (n:=v+yM) (by omega)];refine Ah.freeze 7 ?_ (by kernel_rfl);conv=>whnf
  refine⟨by simp[closed],?_⟩;conv=>whnf
  repeat(refine⟨(by first|rfl|(simp;done):(_:Nat)=_),?_⟩;conv=>whnf)
  refine Ah.Fv (bA n fr till N D (L++Cy yM (M.take k)) [v+yM] (by simp[Cy];omega)) rfl ?_ (λr H1 h=>?_) (λ_ _ h=>h.elim);exact OK ..;obtain⟨rfl,rfl⟩:=h;rw[Bk];refine kW ?_;refine⟨k+1,?_⟩;refine qG ?_;rw[hs,<-AZ];exact⟨rfl,rfl,by omega,by omega⟩
 have h:k=M.length:=by have:=of_decide_eq_false h;omega
 subst h;rw[A2];refine kW ?_;refine⟨B6 _,?_⟩;conv=>whnf
 exact⟨rfl,rfl⟩
end
theorem Wn(v:Int):Au Pg 211 [.int .i64 v,.int .i64 0] (λr=>r=.int .i64 v):=by
 refine kB func211 rfl ?_;refine⟨λh=>absurd h (by simp),λ_=>?_⟩;exact Er
theorem yY(n:Net)(hn:Dw n)(fr till:Int)(N:List (List Int))(hN:Et n N)(D:List (List (List Int)))(f0:0<=fr)(f1:fr<=600)(L:List Int)(hL:L.length<=100000000000)(o d t:Int)(o0:0<=o)(o1:o<n.Ag.length)(d0:0<=d)(d1:d<n.Ag.length)(t0:0<=t)(t1:t<=3000000)(hw:(BI n N d 19 o t).2=0):
  Bq Pg 209 [.ptr 5 0,.int .i64 o,.int .i64 d,.int .i64 t] (wH n fr till N D L) (λr H=>r=.int .i64 (BI n N d 19 o t).1/\H=wH n fr till N D (L++Cy (2-fr) (FF n N d 19 o t))) (λ_ _=>False):=by
 refine Bq.Ak func209 rfl Ab (by kernel_rfl) rfl ?_;refine kW ?_
 refine Aa.Ar (λx:List Int×Int×Int×Nat=>mk 88 [(0,.ptr 5 0),(1,.int .i64 x.2.1),(2,.int .i64 d),(3,.int .i64 x.2.2.1),(8,.int .i64 0),(9,.int .i64 (20-(x.2.2.2:Int)))]) (λx=>wH n fr till N D (L++Cy (2-fr) x.1))
  (λx=>BI n N d 19 o t=BI n N d x.2.2.2 x.2.1 x.2.2.1/\FF n N d 19 o t=x.1++FF n N d x.2.2.2 x.2.1 x.2.2.1/\x.1.length+x.2.2.2=19/\0<=x.2.1/\x.2.1<n.Ag.length/\0<=x.2.2.1/\x.2.2.1<=3000000) (λx=>x.2.2.2) (λx _=>⟨rfl,Zfb ..⟩) ⟨([],o,t,19),?_⟩ (λ_=>rfl) λx hx=>?_
 refine kQ ?_;exact⟨by simp[Cy],rfl,rfl,rfl,o0,o1,t0,t1⟩;obtain⟨M,o,t,f⟩:=x;simp only at hx;obtain⟨hwf,yG,hf,o0,o1,t0,t1⟩:=hx;rw[hwf]at hw ⊢;rw[yG];clear hwf yG;have pM:=hN.row o.toNat (by rw[hN.len];omega);have Kp:(N.map ints)[o.toNat]?=some (ints (N.getD o.toNat [])):=getD_map ints N [] o0 (by rw[hN.len];exact o1);have hlen:(N.getD o.toNat []).length=n.Ag.length:=pM.1;have hnx:((N.getD o.toNat []).map (AV.int .i64))[d.toNat]?=some (.int .i64 (nx N o d)):=getD_map _ _ 0 d0 (by rw[hlen];exact d1);have NA:=ZaO hN o0 o1 d0 d1;show Aa Pg _ (mk 88 [(0,.ptr 5 0),(1,.int .i64 o),(2,.int .i64 d),(3,.int .i64 t),(8,.int .i64 0),(9,.int .i64 (20-(f:Int)))]) (wH n fr till N D (L++Cy (2-fr) M)) _ _;obtain⟨LM,hLM⟩:∃LM,LM=L++Cy (2-fr) M:=⟨_,rfl⟩;have hLl:LM.length<=100000000100:=by rw[hLM];simp[Cy];omega
 rw[<-hLM];refine kR ?_;constructor<;>intro h
 ·have h:¬o=d:=by simpa using h
  refine kW ?_;refine⟨o0,_,Kp,?_⟩;conv=>whnf
  refine⟨d0,_,hnx,?_⟩;refine kW ?_;constructor<;>intro g;·(have g:nx N o d=-1:=by simpa using g);(have hw':BI n N d f o t=(0,170):=by cases f<;>(unfold BI;rw[if_neg h,if_pos g]));rw[hw']at hw;exact absurd hw (by decide)
  have g:¬nx N o d=-1:=by simpa using g
  replace NA:=NA g
  obtain⟨f',rfl⟩:∃f',f=f'+1:=by
   cases f with
   |zero=>unfold BI at hw;rw[if_neg h,if_neg g]at hw;split at hw<;>simp_all
   |succ f'=>exact⟨f',rfl⟩
  have hwe:BI n N d (f'+1) o t=if (BO n (nx N o d) (t+(n.Cd o).As*(n.Cd o).Ap)).2≠0 then (0,(BO n (nx N o d) (t+(n.Cd o).As*(n.Cd o).Ap)).2)else BI n N d f' (n.B3 (nx N o d)).dst ((BO n (nx N o d) (t+(n.Cd o).As*(n.Cd o).Ap)).1+(n.B3 (nx N o d)).Bb):=by(conv=>lhs;unfold BI);rw[if_neg h,if_neg g]
  have hle:FF n N d (f'+1) o t=((BO n (nx N o d) (t+(n.Cd o).As*(n.Cd o).Ap)).1+(n.Cn o).Bc)/1440::FF n N d f' (n.B3 (nx N o d)).dst ((BO n (nx N o d) (t+(n.Cd o).As*(n.Cd o).Ap)).1+(n.B3 (nx N o d)).Bb):=by(conv=>lhs;unfold FF);rw[if_neg h]
  generalize nx N o d=l at*;obtain⟨D',hD⟩:∃D',D'=BO n l (t+(n.Cd o).As*(n.Cd o).Ap):=⟨_,rfl⟩;have hDr:=λh=>JE hn (t:=t+(n.Cd o).As*(n.Cd o).Ap) NA.1 NA.2.1 h;rw[<-hD]at hDr hwe hle;have he:D'.2=0:=by by_cases he:D'.2=0;exact he;rw[hwe,if_pos he]at hw;exact absurd hw he
  replace hDr:=hDr he;rw[hwe,if_neg (by simp[he])]at hw ⊢;rw[hle];clear hwe hle
  have ht2:t+(n.Cd o).As*(n.Cd o).Ap<=2000000:=by
   rw[hD]at he;unfold BO at he;split at he;·rename_i q;exact q.2
   cases he
  have hrn:=E5 hn o0 o1;have HB:=hn.B3 _ (Bx GD NA.1 NA.2.1);replace HB:0<=(n.B3 l).dst/\(n.B3 l).dst<n.Ag.length/\0<=(n.B3 l).dep/\(n.B3 l).dep<1440/\1<=(n.B3 l).Bb/\(n.B3 l).Bb<=5000:=⟨HB.2.2.1,HB.2.2.2.1,HB.2.2.2.2.1,HB.2.2.2.2.2.1,HB.2.2.2.2.2.2.1,HB.2.2.2.2.2.2.2⟩;have hc:CX (n.Cn o)=true:=hn.Il o0 o1;have hz:=JY hc;have gI:(n.Am.map Im.v)[l.toNat]?=some (n.B3 l).v:=getD_map Im.v n.Am GD NA.1 NA.2.1;have hm:DV (n.Cn o) (n.B3 l).dep (t+(n.Cd o).As*(n.Cd o).Ap)=D':=by rw[hD];unfold BO;rw[if_pos (by omega)];unfold Net.JU;rw[NA.2.2]
  refine kW ?_;refine Ah.look (RB n fr till N D hn o t o0 o1 (by omega) (by omega)) rfl ?_;refine kW ?_;refine⟨λq=>absurd (of_decide_eq_true q) (by omega),λ_=>?_⟩;refine kW ?_;refine⟨NA.1,_,gI,?_⟩;refine kW ?_;refine Ah.look (Qr n fr till N D hn o o0 o1) rfl ?_;refine kW ?_;refine kC (KY (n.Cn o) (n.B3 l).dep (t+(n.Cd o).As*(n.Cd o).Ap) hc HB.2.2.1 HB.2.2.2.1 (by omega) (by omega)) ?_;rw[hm,he];refine kC (Wn D'.1) ?_;refine⟨λq=>absurd (of_decide_eq_true q) (by omega),λ_=>?_⟩;refine kW ?_;refine kC (Fa (n.Cn o) D'.1 hc (by omega) (by omega)) ?_;rw[HE (n:=2-fr) (by omega)];refine Ah.freeze 9 ?_ (by kernel_rfl);conv=>whnf
  refine⟨by simp[closed],?_⟩;conv=>whnf
  repeat(refine⟨(by first|rfl|(simp;done):(_:Nat)=_),?_⟩;conv=>whnf)
  refine Ah.Fv (Mq n fr till N D LM [(D'.1+(n.Cn o).Bc)/1440] (2-fr) (by simp;omega) (by simp;omega)) rfl ?_ (λr H1 h=>?_) (λ_ _ h=>h.elim);exact OK ..;obtain⟨rfl,rfl⟩:=h;rw[Bk];refine kW ?_;refine Aa.draw [] Ab mO (by kernel_rfl) ?_;refine kW ?_;rw[HE (n:=D'.1+(n.B3 l).Bb) (by omega)];refine⟨(M++[(D'.1+(n.Cn o).Bc)/1440],(n.B3 l).dst,D'.1+(n.B3 l).Bb,f'),?_⟩;have e1:LM++Cy (2-fr) [(D'.1+(n.Cn o).Bc)/1440]=L++Cy (2-fr) (M++[(D'.1+(n.Cn o).Bc)/1440]):=by rw[hLM];simp[Cy]
  have e2:Wr .i64 (20-((f'+1:Nat):Int)+1)=20-(f':Int):=by rw[HE (by omega)];omega
  rw[e1];refine gF e2 ?_;exact⟨⟨rfl,by simp,by simp;omega,HB.1,HB.2.1,by simp only;omega,by simp only;omega⟩,by simp⟩
 have h:o=d:=by simpa using h
 refine kW ?_;refine⟨B6 _,?_⟩;conv=>whnf
 have e1:FF n N d f o t=[]:=by cases f<;>(unfold FF;first|rfl|rw[if_pos h])
 have e2:BI n N d f o t=(t,0):=by cases f<;>(unfold BI;rw[if_pos h])
 rw[e1,e2,hLM,A6];exact⟨rfl,rfl⟩
def ZeT(D:List (List (List Int)))(k o d:Int):Int:=((D.getD k.toNat []).getD o.toNat []).getD d.toNat 0
theorem ZV{n:Net}(hn:Dw n){N:List (List Int)}(hN:Et n N){d:Int}(d0:0<=d)(d1:d<n.Ag.length):∀(f:Nat)(o t:Int),0<=o->o<n.Ag.length->0<=t->t<=3000000->(BI n N d f o t).2=0->0<=(BI n N d f o t).1/\(BI n N d f o t).1<=3000000
 |f,o,t,o0,o1,t0,t1,hw=>by
  have key:(o=d/\BI n N d f o t=(t,0))\/∃f',f=f'+1/\¬nx N o d=-1/\(BO n (nx N o d) (t+(n.Cd o).As*(n.Cd o).Ap)).2=0/\BI n N d f o t=BI n N d f' (n.B3 (nx N o d)).dst ((BO n (nx N o d) (t+(n.Cd o).As*(n.Cd o).Ap)).1+(n.B3 (nx N o d)).Bb):=by
   by_cases h:o=d;·exact .inl ⟨h,by cases f<;>(unfold BI;rw[if_pos h])⟩
   by_cases g:nx N o d=-1;·exfalso;(have:BI n N d f o t=(0,170):=by cases f<;>(unfold BI;rw[if_neg h,if_pos g]));rw[this]at hw;cases hw
   by_cases e:(BO n (nx N o d) (t+(n.Cd o).As*(n.Cd o).Ap)).2=0
   ·cases f with
    |zero=>exfalso;unfold BI at hw;rw[if_neg h,if_neg g,if_neg (by simp[e])]at hw;cases hw
    |succ f=>exact .inr ⟨f,rfl,g,e,by(conv=>lhs;unfold BI);rw[if_neg h,if_neg g,if_neg (by simp[e])]⟩
   exfalso;(have:BI n N d f o t=(0,(BO n (nx N o d) (t+(n.Cd o).As*(n.Cd o).Ap)).2):=by cases f<;>(unfold BI;rw[if_neg h,if_neg g,if_pos e]));rw[this]at hw;exact e hw
  rcases key with⟨_,h⟩|⟨f',rfl,g,e,h⟩;rw[h];exact⟨t0,t1⟩;obtain⟨l0,l1,l2⟩:=ZaO hN o0 o1 d0 d1 g;have hr:=JE hn l0 l1 e;have hl:=hn.B3 _ (Bx GD l0 l1);replace hl:0<=(n.B3 (nx N o d)).dst/\(n.B3 (nx N o d)).dst<n.Ag.length/\1<=(n.B3 (nx N o d)).Bb/\(n.B3 (nx N o d)).Bb<=5000:=⟨hl.2.2.1,hl.2.2.2.1,hl.2.2.2.2.2.2⟩;rw[h]at hw ⊢;exact ZV hn hN d0 d1 f' _ _ hl.1 hl.2.1 (by omega) (by omega) hw
theorem qQ{n:Net}{N:List (List Int)}{k o d t:Int}(h:(Ff n N k o d t).2=0):(BI n N d 19 o t).2=0/\(DV (n.Cn d) (n.cls k).Be ((BI n N d 19 o t).1+(n.Cd d).As*(n.Cd d).Ap)).2=0/\
  (Ff n N k o d t).1=MU (n.Cn d) ((t+(n.Cn d).Bc)/1440) (((DV (n.Cn d) (n.cls k).Be ((BI n N d 19 o t).1+(n.Cd d).As*(n.Cd d).Ap)).1+(n.Cn d).Bc)/1440):=by
 unfold Ff at h⊢;split at h;·rename_i e;exact absurd h e
 rename_i e1;rw[if_neg e1];split at h;·rename_i e;exact absurd h e
 rename_i e2;rw[if_neg e2];split at h;·rename_i e3;rw[if_pos e3];exact⟨by simpa using e1,by simpa using e2,rfl⟩
 cases h
theorem Xm:∀(n:Nat)(H:List HO),Kr H (H.take n) True
 |0,H=>by rw[List.take_zero];cases H<;>exact trivial
 |n+1,[]=>trivial
 |n+1,x::H=>⟨rfl,Xm n H⟩
theorem endRound{A:List HO->Prop}{H':List HO}(n:Nat)(h:A (H'.take n)):∃H1,A H1/\Kr H' H1 True:=⟨_,h,Xm n H'⟩
abbrev keE:List AV:=mk 79 [(4,.ptr 7 0),(5,.ptr 8 0),(6,.ptr 9 0),(7,.ptr 10 0)]
abbrev keH(x0:HO)(n:Net)(fr till:Int)(N:List (List Int))(D:List (List (List Int)))(k o d:Int)(L:List Int):List HO:=
 [x0,.dead,.dead,.dead,.dead,.cells (wC n fr till N D (.own 6 1 0 L.length)),.arr 3 1 (L.map (AV.int .i64)),.cells [.ptr 5 0],.cells [.int .i64 k],.cells [.int .i64 o],.cells [.int .i64 d],.ghost [] [] [],.cells [.ptr 5 0],.cells [.int .i64 k],.cells [.int .i64 o]]
theorem uN(n:Net)(hn:Dw n)(fr till:Int)(N:List (List Int))(hN:Et n N)(D:List (List (List Int)))(hD:Qa D n.Ao.length n.Ag.length)(f0:0<=fr)(f1:fr<till)(f2:till<=600)(L:List Int)(hL:L.length<=50000000000)(k o d:Int)(k0:0<=k)(k1:k<n.Ao.length)(o0:0<=o)(o1:o<n.Ag.length)(d0:0<=d)(d1:d<n.Ag.length)
  (Nz:∀t∈Og n k o fr till,(Ff n N k o d t).2=0/\(Ff n N k o d t).1<=ZeT D k o d):
  Bq Pg 170 [.ptr 5 0,.int .i64 k,.int .i64 o,.int .i64 d] (wH n fr till N D L) (λr H=>r=.tuple []/\H=wH n fr till N D (L++Xe n N fr till k o d)) (λ_ _=>False):=by
 refine Bq.Ak func170 rfl Ab (by kernel_rfl) rfl ?_;refine kW ?_;refine Ah.inline func208 rfl Ab (by kernel_rfl) λus ms=>?_;refine kW ?_;refine⟨⟨rfl,rfl⟩,?_⟩;refine kW ?_;refine Aa.Zk8 rfl ?_;refine Aa.aW (E0:=keE) (O0 ?_) rfl rfl rfl rfl rfl (by simp) rfl λl fn fd vs dp hfd=>?_
 ·conv=>whnf
  repeat first|exact trivial|(refine⟨rfl,?_⟩;conv=>whnf)
 (conv=>whnf);generalize hR:Ha l (Jd fn vs _ _ _ dp)=R;have hk:=hn.cls _ (Bx Qd k0 k1);have hc:CX (n.Cn o)=true:=hn.Il o0 o1;have Dy:(n.Ao.map Io.v)[k.toNat]?=some (n.cls k).v:=getD_map Io.v n.Ao Qd k0 k1;have hm:0<=(n.cls k).cut/\(n.cls k).cut<1440:=⟨hk.1,hk.2.1⟩;obtain⟨T,hT⟩:∃T,T=Og n k o fr till:=⟨_,rfl⟩;rw[<-hT]at Nz;unfold Xe;rw[<-hT];unfold Og at hT;have hx:=λt (h:(DV (n.Cn o) (n.cls k).cut t).2=0)=>Nv hm.1 hm.2 h;obtain⟨c,SZ⟩:∃c,c=n.Cn o:=⟨_,rfl⟩;obtain⟨m,gH⟩:∃m,m=(n.cls k).cut:=⟨_,rfl⟩;rw[<-SZ,<-gH]at hT hx;rw[<-gH]at hm;rw[<-SZ]at hc;refine kR ?_;rw[HE (n:=1440*fr) (by omega)];refine Aa.Ar (λx:Nat×Nat×Int=>mk 51 [(0,.raw (.func (.yield l) #[] #[])),(1,.ptr 12 0),(2,.ptr 14 0),(3,.ptr 13 0),(5,.int .i64 x.2.2)]) (λx=>keH (.inv R) n fr till N D k o d (L++(T.take x.1).flatMap λt=>Cy (2-fr) (FF n N d 19 o t))++[.ghost keE vs []]) (λx=>T.drop x.1=LX c m (1440*till) x.2.1 x.2.2/\x.1<=T.length/\(1440*till-x.2.2).toNat<=x.2.1/\1440*fr<=x.2.2/\x.2.2<=1200000) (λx=>x.2.1) (λx _=>⟨rfl,?_⟩) ⟨(0,(1440*till-1440*fr).toNat,1440*fr),?_⟩ (λ_=>rfl) λx hxx=>?_;·repeat first|exact trivial|(refine⟨by first|exact rfl|exact B6 _,?_⟩;conv=>whnf)
 refine kQ ?_;exact⟨hT,Ax _,Cb _,Int.le_refl _,by simp only;omega⟩;obtain⟨j,f,t⟩:=x;obtain⟨e1,e2,e3,e4,e5⟩:=hxx;simp only at e1 e2 e3 e4 e5;show Aa Pg _ (mk 51 [(0,.raw (.func (.yield l) #[] #[])),(1,.ptr 12 0),(2,.ptr 14 0),(3,.ptr 13 0),(5,.int .i64 t)]) (keH (.inv R) n fr till N D k o d (L++(T.take j).flatMap λt=>Cy (2-fr) (FF n N d 19 o t))++[.ghost keE vs []]) _ _;obtain⟨LJ,hLJ⟩:∃LJ,LJ=L++(T.take j).flatMap λt=>Cy (2-fr) (FF n N d 19 o t):=⟨_,rfl⟩;have hTl:T.length<=864000:=by rw[hT];exact BR (Vi _ _ _ _ _) (by omega)
 have hLl:LJ.length<=100000000000:=by
  have h1:=U9 (λt=>Cy (2-fr) (FF n N d 19 o t)) 19 (λt=>by rw[QJ];exact Uv n N d 19 o t) (T.take j);have h2:(T.take j).length<=T.length:=by simp;omega
  rw[hLJ,A0];omega
 rw[<-hLJ];refine kR ?_;refine Aa.draw [] Ab mO (by kernel_rfl) ?_;conv=>whnf
 refine⟨_,Qr n fr till N D hn o o0 o1,?_⟩;conv=>whnf
 refine⟨k0,_,Dy,?_⟩;conv=>whnf
 rw[<-SZ,<-gH];refine⟨_,⟨KY c m t hc hm.1 hm.2 (by omega) (by omega),rfl⟩,?_⟩;conv=>whnf
 refine Aa.seq ?_;refine Aa.seq ?_;have hxt:=hx t;have vW:=@fF c m (1440*till) t f;have PU:∀f',f=f'+1->(DV c m t).2=0/\(DV c m t).1<1440*till->LX c m (1440*till) f t=(DV c m t).1::LX c m (1440*till) f' ((DV c m t).1+1):=λf' e h=>by subst e;exact if_pos h
 clear hx;generalize (DV c m t).1=x at*;generalize (DV c m t).2=err at*;have dF:¬(err=0/\x<1440*till)->j=T.length:=λh=>by have:=congrArg List.length (e1.trans (vW h));simp at this;omega
 have w1:Wr .i64 (1440*till)=1440*till:=HE (by omega);refine Aa.Zgn [15] Ab ?_;conv=>whnf
 constructor<;>intro h
 ·have h:err=0:=by simpa using h
  subst h;conv=>whnf
  rw[w1];constructor<;>intro g
  ·(have g:x<1440*till:=by simpa using g);obtain⟨f',rfl⟩:∃f',f=f'+1:=⟨f-1,by have:=hxt rfl;omega⟩;have e6:=e1.trans (PU f' rfl ⟨rfl,g⟩);(have AA:j<T.length:=by have:=congrArg List.length e6;simp at this;omega);rw[List.drop_eq_getElem_cons AA]at e6;obtain⟨e7,e8⟩:=List.cons.inj e6;have Y4:=Nz x (by rw[<-e7];exact A4 AA);(conv=>whnf);refine⟨l,fn,fd,vs,_,_,_,dp,15,keE,rfl,congrArg (λI=>some (HO.inv I)) hR.symm,rfl,rfl,hfd,?_⟩;(conv=>whnf);refine⟨⟨rfl,rfl⟩,λws=>?_⟩;obtain⟨hw0,hm0,hdd⟩:=qQ Y4.1;have hA:=ZV hn hN d0 d1 19 o x o0 o1 (by omega) (by omega) hw0;refine kR ?_;refine Ah.Fv (yY n hn fr till N hN D f0 (by omega) LJ hLl o d x o0 o1 d0 d1 (by omega) (by omega) hw0) rfl ?_ (λr H1 h=>?_) (λ_ _ h=>h.elim);exact OK ..;obtain⟨rfl,rfl⟩:=h;rw[Bk];refine kW ?_;refine Ah.look (Qr n fr till N D hn d d0 d1) rfl ?_;refine kW ?_;have hcd:CX (n.Cn d)=true:=hn.Il d0 d1;have hzd:=JY hcd;have MK:=E5 hn d0 d1;have ET:=Nv (m:=(n.cls k).Be) (t:=(BI n N d 19 o x).1+(n.Cd d).As*(n.Cd d).Ap) hk.2.2.1 hk.2.2.2 hm0;replace hk:0<=(n.cls k).Be/\(n.cls k).Be<1440:=hk.2.2;obtain⟨hD0,wD⟩:=hD;obtain⟨wB,hD3⟩:=wD k.toNat (by omega);obtain⟨hD4,_⟩:=hD3 o.toNat (by omega);have g1:(D.map DN)[k.toNat]?=some (DN (D.getD k.toNat [])):=getD_map DN D [] k0 (by rw[hD0];exact k1);have g2:((D.getD k.toNat []).map ints)[o.toNat]?=some (ints ((D.getD k.toNat []).getD o.toNat [])):=getD_map ints _ [] o0 (by rw[wB];exact o1);have g3:(((D.getD k.toNat []).getD o.toNat []).map (AV.int .i64))[d.toNat]?=some (.int .i64 (ZeT D k o d)):=getD_map _ _ 0 d0 (by rw[hD4];exact d1);refine Aa.draw [] Ab mO (by kernel_rfl) ?_;(conv=>whnf);refine⟨k0,_,Dy,?_⟩;(conv=>whnf);refine⟨_,RB n fr till N D hn d (BI n N d 19 o x).1 d0 d1 (by omega) (by omega),?_⟩;(conv=>whnf);refine⟨_,⟨KY (n.Cn d) (n.cls k).Be ((BI n N d 19 o x).1+(n.Cd d).As*(n.Cd d).Ap) hcd hk.1 hk.2 (by omega) (by omega),rfl⟩,?_⟩;(conv=>whnf);rw[hm0];refine⟨_,⟨Wn (DV (n.Cn d) (n.cls k).Be ((BI n N d 19 o x).1+(n.Cd d).As*(n.Cd d).Ap)).1,rfl⟩,?_⟩;refine kW ?_;generalize (DV (n.Cn d) (n.cls k).Be ((BI n N d 19 o x).1+(n.Cd d).As*(n.Cd d).Ap)).1=E at*;refine kC (Fa (n.Cn d) x hcd (by omega) (by omega)) ?_;refine kC (Fa (n.Cn d) E hcd (by omega) (by omega)) ?_;refine Aa.draw [] Ab mO (by kernel_rfl) ?_;(conv=>whnf);refine⟨_,⟨Lr (n.Cn d) ((x+(n.Cn d).Bc)/1440) ((E+(n.Cn d).Bc)/1440) hcd (by omega) (by omega) (by omega) (by omega),rfl⟩,?_⟩;(conv=>whnf);refine⟨k0,_,g1,?_⟩;(conv=>whnf);refine⟨o0,_,g2,?_⟩;(conv=>whnf);refine⟨d0,_,g3,?_⟩;refine kW ?_;refine⟨λq=>?_,λ_=>?_⟩;·exfalso;have h2:=Y4.2;rw[hdd]at h2;unfold MU at h2;have:=of_decide_eq_true q;omega
   refine kW ?_;refine endRound 36 ?_;refine⟨⟨?_,(show(35:Nat)<36 by decide)⟩,⟨rfl,rfl,rfl⟩,_,rfl,?_⟩;·repeat first|exact trivial|(refine⟨by first|exact rfl|exact B6 _,?_⟩;conv=>whnf)
   refine kW ?_;have EV:Wr .i64 (x+1)=x+1:=HE (by have:=hxt rfl;omega);(have ZnX:LJ++Cy (2-fr) (FF n N d 19 o x)=L++(T.take (j+1)).flatMap λt=>Cy (2-fr) (FF n N d 19 o t):=by rw[A1 AA,List.flatMap_append,<-AZ,<-hLJ,<-e7];simp);refine⟨(j+1,f',x+1),?_⟩;rw[ZnX];(conv=>whnf);(repeat(refine Ce ?_ ?_;(focus (first|rfl|(simp;done)|(first|exact EV|exact congrArg HO.inv hR;done)));conv=>whnf));have:=hxt rfl;exact⟨⟨e8,AA,by simp only;omega,by simp only;omega,by simp only;omega⟩,Nat.lt_succ_self _⟩
  have g:1440*till<=x:=by simpa using g
  conv=>whnf
  refine kR ?_;rw[hLJ,dF (by omega),A2];exact Ybf
 have h:¬err=0:=by simpa using h
 conv=>whnf
 refine kR ?_;rw[hLJ,dF (λe=>h e.1),A2];exact Ybf
theorem U3(f:Int->Int):∀(l:List Int)(m:Int),m<=l.foldl (λm t=>max m (f t)) m/\∀t∈l,f t<=l.foldl (λm t=>max m (f t)) m
 |[],m=>⟨Int.le_refl _,λt h=>by cases h⟩
 |t::l,m=>by have h:=U3 f l (max m (f t));rw[List.foldl_cons];refine⟨by omega,λs hs=>?_⟩;rcases BQ.1 hs with rfl|hs;omega;exact h.2 s hs
theorem oU{n:Net}{N:List (List Int)}{k o d fr till:Int}(h:¬Ia n N k o d fr till=-1):∀t∈Og n k o fr till,(Ff n N k o d t).2=0/\(Ff n N k o d t).1<=Ia n N k o d fr till:=by
 unfold Ia at h⊢;split at h;·rename_i ha;rw[if_pos ha];intro t ht;exact⟨of_decide_eq_true (List.all_eq_true.1 ha t ht),(U3 (λt=>(Ff n N k o d t).1) _ _).2 t ht⟩
 exact absurd rfl h
theorem zM(n:Net)(N:List (List Int))(fr till:Int){k o d:Nat}(k1:k<n.Ao.length)(o1:o<n.Ag.length)(d1:d<n.Ag.length):(((FV n N fr till).getD k []).getD o []).getD d 0=Ia n N k o d fr till:=by
 have e1:(FV n N fr till).getD k []=I7 n N k fr till:=by simp[FV,k1]
 have e2:(I7 n N k fr till).getD o []=aP n N k o fr till:=by simp[I7,o1]
 rw[e1,e2];simp[aP,d1]
def On(B:List (List Int)):Prop:=∀i,(B.getD i []).length<=12
theorem Pf{B:List (List Int)}{p:Nat}(hp:p<=12)(h:∀o:Nat,o<B.length->(B.getD o []).length=p):On B:=λi=>by
 by_cases hi:i<B.length;rw[h i hi];exact hp;rw[A3,A9 (by omega)];exact Ax _
theorem Nu{B:List (List Int)}(h:On B)(k:Nat):(Jv B k).length<=k*12:=KN (λi=>by rw[QJ];exact h i) k
theorem fB{D:List (List (List Int))}(h:∀i,On (D.getD i [])/\(D.getD i []).length<=12)(k:Nat):(Zi D k).length<=k*144:=KN (λi=>by have:=Nu (h i).1 (D.getD i []).length;have:=(h i).2;omega) k
section
variable (n:Net)(N:List (List Int))(fr till:Int)(h0:0<=fr)(h1:fr<till)(h2:till<=600)
include h0 h1 h2
theorem uM(r:List Int)(k o d:Nat):(Xd n N fr till r k o d).length<=20000000:=by
 unfold Xd;split;exact Ax _;exact Zbd n N fr till k o d h0 h1 h2
theorem cR(B:List (List Int))(k o j:Nat):(kL n N fr till B k o j).length<=j*20000000:=KN (λd=>uM n N fr till h0 h1 h2 _ k o d) j
theorem cU{B:List (List Int)}(h:On B)(k j:Nat):(cV n N fr till B k j).length<=j*240000000:=KN (λo=>by have:=cR n N fr till h0 h1 h2 B k o (B.getD o []).length;have:=h o;omega) j
theorem Zbe{D:List (List (List Int))}(h:∀i,On (D.getD i [])/\(D.getD i []).length<=12)(j:Nat):(cT n N fr till D j).length<=j*2880000000:=KN (λk=>by have:=cU n N fr till h0 h1 h2 (h k).1 k (D.getD k []).length;have:=(h k).2;omega) j
end
theorem QI{a x:Int}{l:List Int}(h:x∈Cy a l):x-a∈l:=by
 obtain⟨y,hy,rfl⟩:=List.mem_map.1 h;rwa [Int.add_sub_cancel]
theorem ZeD{α:Type}{l:List α}{d:α}{i:Nat}(h:i<l.length):l.getD i d∈l:=by simp[h]
theorem Vk{n:Net}(hn:Dw n){fr till:Int}(f0:0<=fr)(f1:fr<till)(f2:till<=600){N:List (List Int)}(hN:Et n N):∀x∈I5 n N fr till (FV n N fr till),0<=x/\x<=99999:=by
 intro x hx;have hL:=hn.len;have Xv:=Tn n N fr till;unfold I5 at hx;rcases Bg.1 hx with hx|hx
 ·rcases Bg.1 hx with hx|hx
  ·rcases Bg.1 hx with hx|hx;·unfold PZ at hx;simp only[BQ,List.not_mem_nil,or_false]at hx;rcases hx with rfl|rfl|rfl|rfl<;>omega
   obtain⟨i,hi,hx⟩:=KM hx;have hr:=(hN.row i hi).2 _ (QI hx);rcases hr with h|⟨h1,h2,_⟩<;>omega
  obtain⟨k,hk,hx⟩:=KM hx;obtain⟨o,ho,hx⟩:=KM hx;have KR:k<n.Ao.length:=by rw[<-Xv.1];exact hk
  have Y1:o<n.Ag.length:=by rw[<-(Xv.2 k KR).1];exact ho
  have:=((Xv.2 k KR).2 o Y1).2 _ (QI hx);omega
 obtain⟨k,hk,hx⟩:=KM hx;obtain⟨o,ho,hx⟩:=KM hx;obtain⟨d,hd,hx⟩:=KM hx;have KR:k<n.Ao.length:=by rw[<-Xv.1];exact hk
 have Y1:o<n.Ag.length:=by rw[<-(Xv.2 k KR).1];exact ho
 have dR:d<n.Ag.length:=by rw[<-((Xv.2 k KR).2 o Y1).1];exact hd
 unfold Xd at hx;split at hx;cases hx;rename_i BK;rw[zM n N fr till KR Y1 dR]at BK;unfold Xe at hx;obtain⟨t,ht,hx⟩:=BU.1 hx;have Nz:=qQ (oU BK t ht).1;have pR:=hn.cls _ (ZeD (d:=Qd) KR);have hc:=Vh (m:=(n.cls k).cut) pR.1 pR.2.1 _ _ ht;have:=cJ hn hN (d:=(d:Int)) (by omega) (by omega) 19 (o:Int) t (by omega) (by omega) (by omega) Nz.1 _ (QI hx);omega
theorem ZW(e:Int):Au Pg 166 [eO e] (λr=>r=.int .i64 e):=by
 refine Au.Ak func166 rfl Ab (by kernel_rfl) ?_;conv=>whnf
 refine Aa.seq ?_;refine Aa.st Ab rfl ?_;conv=>whnf
 refine Aa.seq ?_;refine Aa.seq ?_;refine Aa.Zdu [1] Ab ?_;conv=>whnf
 exact kRe
def HC(cs:List AV)(e:Int):List HO:=[.dead,.dead,.cells cs,.cells [.int .i64 e]]
theorem ZO(L:List Int)(s e:Int):O1 Pg 165 [.ptr 2 0,.ptr 3 0] (HC [ints L,.int .i64 s] e) none (λH=>H=HC [ints L,.int .i64 s] e):=by
 refine O1.Ak func165 rfl rfl Ab (by kernel_rfl) rfl ?_;conv=>whnf
 refine⟨⟨by kernel_rfl,rfl⟩,?_⟩;conv=>whnf
 refine Eu Ab _ ?_;conv=>whnf
 rfl
theorem ZN(e2:Int):O1 Pg 165 [.ptr 2 0,.ptr 3 0] (HC [Fm,.int .i64 0] 0) (some (eO e2)) (λH=>H=HC [Fm,.int .i64 0] e2):=by
 refine O1.Ak func165 rfl rfl Ab (by kernel_rfl) rfl ?_;conv=>whnf
 refine⟨⟨by kernel_rfl,rfl⟩,?_⟩;conv=>whnf
 refine Eu Ab _ ?_;conv=>whnf
 refine Nb.ZmB Ab (by kernel_rfl) ?_;conv=>whnf
 refine cS (ZW e2) rfl ?_;conv=>whnf
 rfl
def wrL(n:Net)(N:List (List Int))(fr till:Int)(D:List (List (List Int))):List Int:=if (I5 n N fr till D).length<=40000 then I5 n N fr till D else []
def wrS(n:Net)(N:List (List Int))(fr till:Int)(D:List (List (List Int))):Int:=if (I5 n N fr till D).length<=40000 then Wv (I5 n N fr till D)else 0
def wrE(n:Net)(N:List (List Int))(fr till:Int)(D:List (List (List Int))):Int:=if (I5 n N fr till D).length<=40000 then 0 else 2
abbrev wrH(n:Net)(fr till:Int)(N:List (List Int))(D:List (List (List Int)))(vs:List Value)(L:List Int):List HO:=
 .cells n.c::.cells (Js fr till N D)::.cells [Fm,.int .i64 0]::.cells [.int .i64 0]::.ghost [.ptr 2 0,.ptr 3 0] vs []::.cells (wC n fr till N D (.own 6 1 0 L.length))::.arr 3 1 (L.map (AV.int .i64))::(BG 17 .dead++[.ghost [] [] [],.dead])
theorem Qp(n:Net)(fr till:Int)(N:List (List Int))(D:List (List (List Int)))(vs:List Value)(L:List Int):CR (wrH n fr till N D vs L) (wrH n fr till N D vs L) True:=⟨rfl,rfl,rfl,rfl,rfl,rfl,B6 L,rfl,trivial⟩
theorem nN(n:Net)(hn:Dw n)(hch:Au Pg 141 [n.v] (λr=>r=.sl 3 []))(fr till:Int)(f0:0<=fr)(f1:fr<till)(f2:till<=600)(f3:till-fr<=60)(N:List (List Int))(hN:Et n N)(D:List (List (List Int)))(hD:D=FV n N fr till):
  Au Pg 118 [n.v,.agg (Js fr till N D)] (λr=>r=.tuple [.agg [ints (wrL n N fr till D),.int .i64 (wrS n N fr till D)],.int .i64 (wrE n N fr till D)]):=by
 have Xv:Qa D n.Ao.length n.Ag.length:=hD▸Tn n N fr till;refine Au.JM func118 rfl Ab (by kernel_rfl) ?_;conv=>whnf
 refine Jj.seq1 (Ay Ab _ ?_);conv=>whnf
 refine Jj.Zgk (Jj.region Ab ?_);conv=>whnf
 refine⟨by kernel_rfl,?_⟩;conv=>whnf
 intro vs;refine kR ?_;refine kC (hch) ?_;refine⟨λ_=>?_,λh=>absurd h (by simp)⟩;conv=>whnf
 refine Ah.ZdL (VG n hn fr till (Iz.2 ⟨f0,f1,f2,f3⟩) N hN D Xv) (.ptr rfl rfl (.ptr rfl rfl trivial)) λr hr=>?_;subst hr;refine⟨.inl rfl,?_⟩;refine kW ?_;refine⟨λh=>absurd h (by decide),λ_=>?_⟩;refine kW ?_;refine Aa.Eb 5 10 3 1 rfl rfl ?_;conv=>whnf
 refine Aa.KE [17] [18] Ab mO (by kernel_rfl) ?_;conv=>whnf
 rw[Ai,Ai];refine Ah.Fv (bA n fr till N D [] (PZ n fr till) (by simp[PZ])) rfl (OK ..) (λr H1 h=>?_) (λ_ _ h=>h.elim);obtain⟨rfl,rfl⟩:=h;rw[Bk,List.nil_append];refine kW ?_;have hL:=hn.len;have hNl:N.length<=12:=by rw[hN.len];omega
 have hDl:D.length<=4:=by rw[Xv.1];omega
 have Zht:On N:=Pf (by omega) λo ho=>(hN.row o ho).1
 have ZbU:∀i,On (D.getD i [])/\(D.getD i []).length<=12:=λi=>by
  by_cases hi:i<n.Ao.length;obtain⟨q1,q2⟩:=Xv.2 i hi;exact⟨Pf (by omega) λo ho=>(q2 o (by omega)).1,by omega⟩;have e:D.getD i []=[]:=by rw[A3,A9 (by rw[Xv.1];omega)];rfl
  rw[e];exact⟨λj=>by simp,by simp⟩
 rw[Ai];refine Aa.Ar (λk:Nat=>mk 130 [(2,.ptr 0 0),(3,.ptr 1 0),(4,.ptr 2 0),(5,.ptr 3 0),(6,.ptr 5 0),(53,DN N),(54,.int .i64 (N.length:Nat)),(55,.int .i64 (k:Nat))]) (λk=>wrH n fr till N D vs (PZ n fr till++Jv N k)) (λk=>k<=N.length) (λk=>N.length-k) (λk _=>⟨rfl,Qp ..⟩) ⟨0,?_⟩ (λ_=>rfl) λk hk=>?_;refine kQ ?_;exact Ax _;refine kR ?_;constructor<;>intro h
 ·have h:k<N.length:=by have:=of_decide_eq_true h;omega
  have hg:(N.map ints)[((k:Nat):Int).toNat]?=some (ints (N.getD k [])):=by simp[h]
  have pN:=(hN.row k h).2;have Qm:=Nu Zht k;have hl2:=Zht k;have hs:Jv N (k+1)=Jv N k++Cy 1 (N.getD k []):=Hw _ k;generalize N.getD k []=row at*;refine kW ?_;refine⟨by omega,_,hg,?_⟩;refine kW ?_;refine Ah.Fv (Mq n fr till N D (PZ n fr till++Jv N k) row 1 (by simp[PZ];omega) (λx hx=>by rcases pN x hx with h|⟨h1,h2,_⟩<;>omega)) rfl (OK ..) (λr H1 h=>?_) (λ_ _ h=>h.elim);obtain⟨rfl,rfl⟩:=h;rw[Bk,AZ,<-hs];refine kW ?_;refine⟨k+1,?_⟩;refine qG ?_;omega
 have h:k=N.length:=by have:=of_decide_eq_false h;omega
 subst h;obtain⟨L0,hL0⟩:∃L0,L0=PZ n fr till++Jv N N.length:=⟨_,rfl⟩;have ZqJ:L0.length<=1000:=by rw[hL0];have:=Nu Zht N.length;simp[PZ];omega
 have vX:I5 n N fr till D=L0++Zi D D.length++cT n N fr till D D.length:=by rw[hL0];rfl
 rw[<-hL0];refine kW ?_;rw[Ai];refine Aa.Ar (λk:Nat=>mk 130 [(2,.ptr 0 0),(3,.ptr 1 0),(4,.ptr 2 0),(5,.ptr 3 0),(6,.ptr 5 0),(64,Lh D),(65,.int .i64 (D.length:Nat)),(66,.int .i64 (k:Nat))]) (λk=>wrH n fr till N D vs (L0++Zi D k)) (λk=>k<=D.length) (λk=>D.length-k) (λk _=>⟨rfl,Qp ..⟩) ⟨0,?_⟩ (λ_=>rfl) λk hk=>?_;refine kQ ?_;exact⟨by simp[Zi,OZ],Ax _⟩;refine kR ?_;constructor<;>intro h
 ·have h:k<D.length:=by have:=of_decide_eq_true h;omega
  have hg:(D.map DN)[((k:Nat):Int).toNat]?=some (DN (D.getD k [])):=by simp[h]
  obtain⟨q1,q2⟩:=Xv.2 k (by rw[<-Xv.1];exact h);have Qm:=fB ZbU k;obtain⟨hl2,O3⟩:=ZbU k;have hs:Zi D (k+1)=Zi D k++Jv (D.getD k []) (D.getD k []).length:=Hw _ k;generalize D.getD k []=B at*;obtain⟨LL,hLL⟩:∃LL,LL=L0++Zi D k:=⟨_,rfl⟩;have ZnW:LL.length<=2000:=by rw[hLL,A0];omega
  rw[<-hLL];refine kW ?_;refine⟨by omega,_,hg,?_⟩;refine kW ?_;rw[Ai];refine Aa.Ar (λj:Nat=>mk 130 [(2,.ptr 0 0),(3,.ptr 1 0),(4,.ptr 2 0),(5,.ptr 3 0),(6,.ptr 5 0),(64,Lh D),(65,.int .i64 (D.length:Nat)),(66,.int .i64 (k:Nat)),(70,DN B),(71,.int .i64 (B.length:Nat)),(72,.int .i64 (j:Nat))]) (λj=>wrH n fr till N D vs (LL++Jv B j)) (λj=>j<=B.length) (λj=>B.length-j) (λj _=>⟨rfl,Qp ..⟩) ⟨0,?_⟩ (λ_=>rfl) λj hj=>?_;refine kQ ?_;exact⟨by simp[Jv,OZ],Ax _⟩;refine kR ?_;constructor<;>intro g;·(have g:j<B.length:=by have:=of_decide_eq_true g;omega);(have hg:(B.map ints)[((j:Nat):Int).toNat]?=some (ints (B.getD j [])):=by simp[g]);have pN:=(q2 j (by omega)).2;have hm1:=Nu hl2 j;have hm2:=hl2 j;have dH:Jv B (j+1)=Jv B j++Cy 1 (B.getD j []):=Hw _ j;generalize B.getD j []=row at*;refine kW ?_;refine⟨by omega,_,hg,?_⟩;refine kW ?_;refine Ah.Fv (Mq n fr till N D (LL++Jv B j) row 1 (by simp;omega) (λx hx=>by have:=pN x hx;omega)) rfl (OK ..) (λr H1 h=>?_) (λ_ _ h=>h.elim);obtain⟨rfl,rfl⟩:=h;rw[Bk,AZ,<-dH];refine kW ?_;refine⟨j+1,?_⟩;refine qG ?_;omega
  have g:j=B.length:=by have:=of_decide_eq_false g;omega
  subst g;rw[hLL,AZ,<-hs];refine kW ?_;refine⟨k+1,?_⟩;refine qG ?_;omega
 have h:k=D.length:=by have:=of_decide_eq_false h;omega
 subst h;obtain⟨L1,hL1⟩:∃L1,L1=L0++Zi D D.length:=⟨_,rfl⟩;have ZqI:L1.length<=2000:=by rw[hL1];have:=fB ZbU D.length;simp;omega
 rw[<-hL1]at vX ⊢;refine kW ?_;rw[Ai];refine Aa.Ar (λk:Nat=>mk 130 [(2,.ptr 0 0),(3,.ptr 1 0),(4,.ptr 2 0),(5,.ptr 3 0),(6,.ptr 5 0),(82,Lh D),(83,.int .i64 (D.length:Nat)),(84,.int .i64 (k:Nat))]) (λk=>wrH n fr till N D vs (L1++cT n N fr till D k)) (λk=>k<=D.length) (λk=>D.length-k) (λk _=>⟨rfl,Qp ..⟩) ⟨0,?_⟩ (λ_=>rfl) λk hk=>?_;refine kQ ?_;exact⟨by simp[cT,OZ],Ax _⟩;refine kR ?_;constructor<;>intro h
 ·have h:k<D.length:=by have:=of_decide_eq_true h;omega
  have hg:(D.map DN)[((k:Nat):Int).toNat]?=some (DN (D.getD k [])):=by simp[h]
  have vR:k<n.Ao.length:=by rw[<-Xv.1];exact h
  obtain⟨q1,q2⟩:=Xv.2 k vR;obtain⟨hl2,O3⟩:=ZbU k;have Qm:=Zbe n N fr till f0 f1 f2 ZbU k;have hs:cT n N fr till D (k+1)=cT n N fr till D k++cV n N fr till (D.getD k []) k (D.getD k []).length:=Hw _ k;have hat:∀o d:Nat,o<n.Ag.length->d<n.Ag.length->((D.getD k []).getD o []).getD d 0=Ia n N k o d fr till/\ZeT D k o d=Ia n N k o d fr till:=λo d ho hd=>by have e:=zM n N fr till vR ho hd;rw[<-hD]at e;exact⟨e,by unfold ZeT;simpa using e⟩
  obtain⟨LL,hLL⟩:∃LL,LL=L1++cT n N fr till D k:=⟨_,rfl⟩;have ZnW:LL.length<=11600000000:=by rw[hLL,A0];omega
  rw[<-hLL];generalize D.getD k []=B at*;refine kW ?_;refine⟨by omega,_,hg,?_⟩;refine kW ?_;rw[Ai];refine Aa.Ar (λo:Nat=>mk 130 [(2,.ptr 0 0),(3,.ptr 1 0),(4,.ptr 2 0),(5,.ptr 3 0),(6,.ptr 5 0),(13,.int .i64 (k:Nat)),(82,Lh D),(83,.int .i64 (D.length:Nat)),(84,.int .i64 (k:Nat)),(89,DN B),(90,.int .i64 (B.length:Nat)),(91,.int .i64 (o:Nat))]) (λo=>wrH n fr till N D vs (LL++cV n N fr till B k o)) (λo=>o<=B.length) (λo=>B.length-o) (λo _=>⟨rfl,Qp ..⟩) ⟨0,?_⟩ (λ_=>rfl) λo ho=>?_;refine kQ ?_;exact⟨by simp[cV,OZ],Ax _⟩;refine kR ?_;constructor<;>intro h
  ·(have h:o<B.length:=by have:=of_decide_eq_true h;omega);(have hg:(B.map ints)[((o:Nat):Int).toNat]?=some (ints (B.getD o [])):=by simp[h]);(have ho1:o<n.Ag.length:=by rw[<-q1];exact h);obtain⟨q3,q4⟩:=q2 o ho1;have hl4:=hl2 o;have hl5:=cU n N fr till f0 f1 f2 hl2 k o;have dH:cV n N fr till B k (o+1)=cV n N fr till B k o++kL n N fr till B k o (B.getD o []).length:=Hw _ o;replace hat:=λd=>hat o d ho1;obtain⟨LM,hLM⟩:∃LM,LM=LL++cV n N fr till B k o:=⟨_,rfl⟩;(have ZqH:LM.length<=15000000000:=by rw[hLM,A0];omega);rw[<-hLM];have hK:∀j,kL n N fr till B k o (j+1)=kL n N fr till B k o j++Xd n N fr till (B.getD o []) k o j:=λj=>Hw _ j;have hK0:kL n N fr till B k o 0=[]:=rfl;have hKl:=λj=>cR n N fr till f0 f1 f2 B k o j;generalize B.getD o []=row at*;generalize kL n N fr till B k o=KO at*;refine kW ?_;refine⟨by omega,_,hg,?_⟩;refine kW ?_;rw[Ai];refine Aa.Ar (λd:Nat=>mk 130 [(2,.ptr 0 0),(3,.ptr 1 0),(4,.ptr 2 0),(5,.ptr 3 0),(6,.ptr 5 0),(13,.int .i64 (k:Nat)),(15,.int .i64 (o:Nat)),(82,Lh D),(83,.int .i64 (D.length:Nat)),(84,.int .i64 (k:Nat)),(89,DN B),(90,.int .i64 (B.length:Nat)),(91,.int .i64 (o:Nat)),(96,ints row),(97,.int .i64 (row.length:Nat)),(98,.int .i64 (d:Nat))]) (λd=>wrH n fr till N D vs (LM++KO d)) (λd=>d<=row.length) (λd=>row.length-d) (λd _=>⟨rfl,Qp ..⟩) ⟨0,?_⟩ (λ_=>rfl) λd hd=>?_;·refine kQ ?_;exact⟨by rw[hK0,A6],Ax _⟩
   refine kR ?_;constructor<;>intro h
   ·(have h:d<row.length:=by have:=of_decide_eq_true h;omega);(have hg:(row.map (AV.int .i64))[((d:Nat):Int).toNat]?=some (.int .i64 (row.getD d 0)):=by simp[h]);(have pX:d<n.Ag.length:=by rw[<-q3];exact h);obtain⟨ha1,ha2⟩:=hat d pX;have hKd:=hK d;have ZqK:=hKl d;unfold Xd at hKd;rw[ha1]at hg hKd;refine kW ?_;refine⟨by omega,_,hg,?_⟩;refine kW ?_;constructor<;>intro g;·(have g:¬Ia n N k o d fr till=-1:=by simpa using g);rw[if_neg g]at hKd;have hmo:=oU g;rw[<-ha2]at hmo;refine kW ?_;refine Ah.Fv (uN n hn fr till N hN D Xv f0 f1 f2 (LM++KO d) (by rw[A0];omega) k o d (by omega) (by omega) (by omega) (by omega) (by omega) (by omega) hmo) rfl (OK ..) (λr H1 h=>?_) (λ_ _ h=>h.elim);obtain⟨rfl,rfl⟩:=h;rw[Bk,AZ,<-hKd];refine kW ?_;refine⟨d+1,?_⟩;refine qG ?_;omega
    (have g:Ia n N k o d fr till=-1:=by simpa using g);rw[if_pos g,A6]at hKd;rw[<-hKd];refine kW ?_;refine⟨d+1,?_⟩;refine qG ?_;omega
   (have h:d=row.length:=by have:=of_decide_eq_false h;omega);subst h;rw[hLM,AZ,<-dH];refine kW ?_;refine⟨o+1,?_⟩;refine qG ?_;omega
  have h:o=B.length:=by have:=of_decide_eq_false h;omega
  subst h;rw[hLL,AZ,<-hs];refine kW ?_;refine⟨k+1,?_⟩;refine qG ?_;omega
 have h:k=D.length:=by have:=of_decide_eq_false h;omega
 subst h;rw[<-vX];have hcr:=Vk hn f0 f1 f2 hN;rw[<-hD]at hcr;unfold wrL wrS wrE;generalize I5 n N fr till D=CL at*;refine kW ?_;constructor<;>intro q
 ·have q:¬CL.length<=40000:=by have:=of_decide_eq_true q;omega
  rw[if_neg q,if_neg q,if_neg q];refine kW ?_;refine⟨⟨_,rfl⟩,?_⟩;conv=>whnf
  refine Oi.tT (ZN 2) rfl rfl ⟨rfl,rfl,rfl,rfl,trivial⟩ ?_;rintro _ rfl;rw[Bk];conv=>whnf
  refine⟨1,?_⟩;conv=>whnf
  rfl
 have q:CL.length<=40000:=by have:=of_decide_eq_false q;omega
 rw[if_pos q,if_pos q,if_pos q];refine kW ?_;refine Aa.freeze 6 ?_;conv=>whnf
 refine⟨B6 _,?_⟩;conv=>whnf
 repeat(refine⟨(by first|rfl|(simp;done):(_:Nat)=_),?_⟩;conv=>whnf)
 refine Aa.draw [10,11] Ab mO (by kernel_rfl) ?_;conv=>whnf
 refine⟨_,⟨sL CL (by omega) (λx hx=>by have:=hcr x hx;omega),rfl⟩,?_⟩;refine kW ?_;refine⟨⟨_,rfl⟩,?_⟩;conv=>whnf
 refine Oi.tT (ZO CL (Wv CL) 0) rfl rfl ⟨rfl,rfl,rfl,rfl,trivial⟩ ?_;rintro _ rfl;rw[Bk];conv=>whnf
 rfl
def fJ(n:Net)(fr till:Int):AV:=fI n fr till (wrL n (Vz n fr till) fr till (eU n fr till)) (wrS n (Vz n fr till) fr till (eU n fr till)) (wrE n (Vz n fr till) fr till (eU n fr till))
theorem Sx(n:Net)(hz:Oh n)(fr till:Int)(i1:IU .i64 fr)(i2:IU .i64 till):Au Pg 14 [n.v,.int .i64 fr,.int .i64 till] (λr=>r=fJ n fr till):=
 ZC n hz fr till i1 i2 _ _ _ λhd hs=>by have hd:=Iz.1 hd;have hS:=IE n hz hs;exact nN n hS.ok hS.chk fr till hd.1 hd.2.1 hd.2.2.1 hd.2.2.2 _ (SS n (1440*fr) (1440*till)) _ rfl
end Go.Proofs.YtmmhehdlnjojjaaGreatDoor