/- The statements through the layers. -/
import Derived.Test.YtdadkhcdoaeabaaGreatDoorLg
set_option linter.unusedVariables false
set_option maxRecDepth 100000
set_option linter.unusedSectionVars false
set_option linter.unusedSimpArgs false
open List renaming mem_singleton → Af, take_succ_eq_append_getElem → Ak, length_map → Ax, getElem_mem → A0, take_length → Bh
open Bool renaming and_eq_true → AP
open And renaming intro → Bl
namespace Go.Proofs.YtdadkhcdoaeabaaGreatDoor
open Go.Av Go.Shelf Go.RowKit
open Rr.Pl (Pt Ad St Ch Bs Mv HT D5 KD Has bV BC Be)
open Rr (E6 Ar)
open Rr.Pl (CA AW)
def Im(F:List Ff.Fm)(r:List Ch)(l:List Od)(ls:List Bs):Bool:=G4 F r l ls&&!decide (F.length=0)&&decide (F.length<=8)&&(Rr.Pl.Ca r&&Ar r)&&B1 l&&F.all Ff.A1
theorem aV{F:List Ff.Fm}{r:List Ch}{l:List Od}{ls:List Bs}(h:Im F r l ls=true):G4 F r l ls=true/\Good F r l/\Rr.Pl.Ca r=true/\0<F.length:=by
 unfold Im at h;simp only[AP,decide_eq_true_eq,List.all_eq_true,Bool.not_eq_true',decide_eq_false_iff_not]at h;obtain⟨⟨⟨⟨⟨h1,h0⟩,h2⟩,h3,h4⟩,h5⟩,h6⟩:=h;exact⟨h1,⟨h6,h2,h4,h5⟩,h3,by omega⟩
theorem Il(F:List Ff.Fm)(r:List Ch)(l:List Od)(ls:List Bs):AO Tryz.prog 13 [Vc F,D5 r,Hr l,Ff.AQ ls] (λx=>x=.bool (Im F r l ls)):=by
 refine kB Tryz.func13 rfl ?_;refine kC (Pb F r l ls) ?_;refine⟨λh=>?_,λh=>?_⟩;rotate_left
 ·have h:G4 F r l ls=false:=by simpa using h
  have e:Im F r l ls=false:=by unfold Im;rw[h];rfl
  rw[e];exact GA
 ·have h:G4 F r l ls=true:=by simpa using h
  obtain⟨h1,h2,h3,h4⟩:=A5 h;have e:Im F r l ls=(!decide (F.length=0)&&decide (F.length<=8)&&(Rr.Pl.Ca r&&Ar r)&&B1 l&&F.all Ff.A1):=by unfold Im;rw[h];rfl
  rw[e];refine kW ?_;rw[Ax];repeat' (first|(refine Bl (λ_=>?_) (λ_=>?_)<;>conv=>whnf)|(refine kC (Rr.J5 r) ?_)|(refine kC (Ob l (by omega)) ?_)|refine Dd ?_|fail)
  any_goals (simp_all;done)
  ·rename_i g0 g1 g2 g3;have g1:=of_decide_eq_false g1;rw[Ax]at g1;have g2:(Rr.Pl.Ca r&&Ar r)=true:=by simpa using g2
   have g3:B1 l=true:=by simpa using g3
   have e:(!decide (F.length=0)&&decide (F.length<=8)&&(Rr.Pl.Ca r&&Ar r)&&B1 l&&F.all Ff.A1)=F.all Ff.A1:=by
    rw[decide_eq_false (show ¬F.length=0 by have:=of_decide_eq_false g0;omega),decide_eq_true (show F.length<=8 by omega),g2,g3];rfl
   rw[e];refine Aa.Aw (λk:Nat=>mk 50 [(0,.sl 2 (F.map Ff.Fm.v)),(9,.int .i64 k)]) (λ_=>[]) (λk=>k<=F.length/\(F.take k).all Ff.A1=true) (λk=>F.length-k) (λ_ _=>⟨rfl,trivial⟩) ⟨0,?_⟩ (λ_=>rfl) λk hk=>?_
   ·refine kQ ?_;rw[List.take_zero];rfl
   ·obtain⟨hk,ha⟩:=hk;refine kR ?_;refine⟨λg=>?_,λg=>?_⟩
    ·have g:k<F.length:=by simpa using g
     have A7:=D4 k (by omega)
     refine kW ?_;refine⟨by omega,F[k].v,by simp[g],?_⟩
     refine kW ?_;refine kC (Ff.QV F[k] (Da (h4 _ (A0 g))).1) ?_;refine⟨λh1=>?_,λh1=>?_⟩
     ·have h1:Ff.A1 F[k]=false:=by simpa using h1
      rw[List.all_eq_false.2 ⟨F[k],A0 _,by simp[h1]⟩]
      exact GA
     ·have h1:Ff.A1 F[k]=true:=by simpa using h1
      refine kW ?_;refine⟨k+1,?_⟩;refine CV A7 ?_;exact⟨⟨by omega,by rw[Ak g,List.all_append,ha];simp[h1]⟩,by omega⟩
    ·have g:k=F.length:=by simp at g;omega
     rw[g,Bh]at ha;rw[ha];exact GA
  ·rename_i g0 g1;have g1:=of_decide_eq_true g1;rw[Ax]at g1;rw[decide_eq_false (show ¬F.length<=8 by omega),Bool.and_false]
   rfl
def Gd(f:Ff.Fm)(a:Ad):List Bs×Bool:=if Wr .i64 (Wr .i64 ((Ff.JW f.lines.flatten 4:Int)*(Ff.JW f.lines.flatten 2:Int))*(Ff.JW f.lines.flatten 3:Int))=0 then ([],false)else ((Ff.B4 f (HY f a)).1,wrote f (HY f a))
theorem W6{f:Ff.Fm}{a:Ad}(h:(Gd f a).2=true):(Gd f a).1=(Ff.B4 f (HY f a)).1/\wrote f (HY f a)=true:=by
 unfold Gd at h⊢;split at h;·cases h
 ·rename_i g;rw[if_neg g];exact⟨rfl,h⟩
set_option maxHeartbeats 4000000 in
theorem W7(f:Ff.Fm)(a:Ad){ls:List Bs}(hw:Ff.NI f ls=true)(hco:a.co.length<=8):AO Tryz.prog 17 [f.v,a.v] (λx=>x=.tuple [Ff.AQ (Gd f a).1,.bool (Gd f a).2]):=by
 have Qs:=Da hw;have O0:f.lines.length<=1000:=by have:=Qs.2.2.2.1;omega
 have ND:∀l∈f.lines,l.length<=1000:=λl hl=>by have:=Qs.2.2.2.2 l hl;omega
 refine kB Tryz.func17 rfl ?_;refine Aa.draw [] Ag mO (by kernel_rfl) ?_
 conv=>whnf
 refine⟨_,⟨Ff.C5 f 4 O0 ND,rfl⟩,?_⟩;conv=>whnf
 refine⟨_,⟨Ff.C5 f 2 O0 ND,rfl⟩,?_⟩;conv=>whnf
 refine⟨_,⟨Ff.C5 f 3 O0 ND,rfl⟩,?_⟩;conv=>whnf
 refine⟨λg=>?_,λg=>?_⟩
 ·rw[show Gd f a=([],false)from if_pos (of_decide_eq_true g)]
  refine kW ?_;exact⟨1,rfl⟩
 rw[show Gd f a=((Ff.B4 f (HY f a)).1,wrote f (HY f a))from if_neg (of_decide_eq_false g)]
 clear g;refine kW ?_;refine kC (Ff.C5 f 6 O0 ND) ?_;refine⟨λh6=>?_,λh6=>?_⟩
 all_goals
  refine kW ?_;refine kC (Ff.C5 f 5 O0 ND) ?_;refine⟨λh5=>?_,λh5=>?_⟩
 all_goals
  refine kW ?_;obtain⟨y,ht⟩:∃y,y=HY f a:=⟨_,rfl⟩;rw[<-ht];have y3:y.co=a.co:=by rw[ht];rfl
  have hpr:=Ff.Tw f y Qs.1 (by rw[y3];omega)
  have Lj:=I4 f y O0;have hpa:=Ff.JO f (Ff.B4 f y).1 Qs.1 Lj.1 Lj.2;unfold wrote;unfold HY at ht;rw[h6,h5]at ht;rw[ht]at hpr;refine kC (hpr) ?_;rw[<-ht];generalize Ff.B4 f y=PR at*;refine kC (hpa) ?_;generalize Ff.Br f PR.1=R at*;clear hpr hpa Qs O0 ND ht y3 Lj;repeat' (first|(refine Bl (λ_=>?_) (λ_=>?_)<;>conv=>whnf)|refine Dd ?_|fail)
  all_goals (refine congrArg (λb=>AV.tuple [Ff.AQ PR.1,.bool b]) ?_;simp_all)
def Zcr(p:Pt)(x:Rs):Prop:=x=⟨1,[p],[p],0⟩\/∃M,x=⟨2,M,[],81⟩/\p∈M
theorem jC{p:Pt}{x:Rs}(h:Zcr p x)(hl:x.ps.length<=100000):AO Tryz.prog 18 [x.v,p.v] (λr=>r=.bool true):=by
 rcases h with rfl|⟨M,rfl,hm⟩
 ·refine kB Tryz.func18 rfl ?_;refine⟨λ_=>?_,λh=>absurd h (show ¬decide ((1:Int)=1)=false by decide)⟩
  refine kW ?_;refine Aa.draw [] Ag mO (by kernel_rfl) ?_
  conv=>whnf
  refine⟨λ_=>?_,λh=>absurd h (show ¬decide ((1:Int)=1)=false by decide)⟩
  conv=>whnf
  refine⟨by decide,p.v,rfl,?_⟩
  conv=>whnf
  refine⟨λ_=>?_,λh=>absurd h (by simp)⟩
  conv=>whnf
  refine⟨λ_=>?_,λh=>absurd h (show ¬decide ((1:Int)=1)=false by decide)⟩
  conv=>whnf
  refine⟨by decide,p.v,rfl,?_⟩
  conv=>whnf
  refine⟨λ_=>?_,λh=>absurd h (by simp)⟩
  exact GA
 ·refine kB Tryz.func18 rfl ?_;refine⟨λh=>absurd h (show ¬decide ((2:Int)=1)=true by decide),λ_=>?_⟩
  refine kW ?_;have hl:M.length<=100000:=hl;refine Aa.Aw (λi:Nat=>mk 59 [(0,(⟨2,M,[],81⟩:Rs).v),(1,p.v),(2,.ptr 0 0),(3,.ptr 1 0),(5,.bool (decide (p∈M.take i))),(6,.int .i64 i)]) (λ_=>[.cells [.int .i64 2,Tv M,Tv [],.int .i64 81],.cells [.int .i64 p.s,.int .i64 p.n]]) (λi=>i<=M.length) (λi=>M.length-i) (λ_ _=>⟨rfl,rfl,rfl,trivial⟩) ⟨0,?_⟩ (λ_=>rfl) λi hi=>?_
  ·refine kQ ?_;exact Nat.zero_le _
  ·refine kR ?_;rw[Ax];refine⟨λg=>?_,λg=>?_⟩
   ·have g:i<M.length:=by simpa using g
    have A7:=D4 i (by omega)
    refine kW ?_;have e1:M.take (i+1)=M.take i++[M[i]]:=Ak g;refine Aa.draw [] Ag mO (by kernel_rfl) ?_
    conv=>whnf
    refine⟨λh1=>?_,λh1=>?_⟩
    ·have h1:p∈M.take i:=of_decide_eq_true h1;have e2:decide (p∈M.take (i+1))=true:=decide_eq_true (by rw[e1];exact List.mem_append_left _ h1)
     refine kW ?_;refine⟨i+1,?_⟩;conv=>whnf
     repeat(refine Bl ?_ ?_;(focus (first|rfl|(simp;done)|(first|exact A7|exact e2.symm;done)));conv=>whnf)
     exact⟨by omega,by omega⟩
    ·have h1:p∉M.take i:=of_decide_eq_false h1;conv=>whnf
     refine⟨by omega,M[i].v,by simp[g],?_⟩
     conv=>whnf
     refine⟨λh2=>?_,λh2=>?_⟩
     all_goals
      have e2:decide (p∈M.take (i+1))=(decide (M[i].s=p.s)&&(decide (M[i].n=p.n)&&true)):=by
       rw[e1,Bool.eq_iff_iff];simp only[decide_eq_true_eq,AP,Bool.and_true,List.mem_append,Af,h1,false_or];exact⟨λh=>by rw[<-h];exact⟨rfl,rfl⟩,λh=>(Xr h.1 h.2).symm⟩
      rw[h2]at e2;refine kW ?_;refine⟨i+1,?_⟩;conv=>whnf
      repeat(refine Bl ?_ ?_;(focus (first|rfl|(simp;done)|(first|exact A7|exact e2.symm;done)));conv=>whnf)
      exact⟨by omega,by omega⟩
   ·have g:i=M.length:=by simp at g;omega
    rw[g,Bh,decide_eq_true hm];refine kW ?_;refine⟨λ_=>?_,λh=>absurd h (show ¬decide ((2:Int)=2)=false by decide)⟩
    exact GA
def mvR:List Ch:=[⟨0,1,0,[49,48,48,48],[84,111,119,110],[77,97,105,110,32,83,116,114,101,101,116],1,9,0⟩,R9 3 0 [66,114,111,97,100,32,87,97,121],Zbs 3 0 [77,97,105,110,32,83,116,114,101,101,116]]
theorem ZiQ:Ai [Vd] mvR [yT 0 2 0 5] 4 [[109,97,105,110,32,115,116,114,101,101,116,32,50],X7] 0=⟨1,[⟨0,5⟩],[⟨0,2⟩,⟨0,5⟩],0⟩:=by kernel_rfl
theorem ZiP:Ai [Vd] mvR [yT 0 2 0 5] 4 [[98,114,111,97,100,32,119,97,121,32,51],X7] 0=⟨1,[⟨0,3⟩],[⟨0,3⟩],0⟩:=by kernel_rfl
theorem kN{t:Bs}{x:Rs}(h:Ai [Vd] mvR [yT 0 2 0 5] 4 [t,X7] 0=x)(ht:t.length<=1000):AO Tryz.prog 14 [Vc [Vd],D5 mvR,Hr [yT 0 2 0 5],.int .i64 4,Ff.AQ [t,X7],.int .i64 0] (λr=>r=x.v):=by
 subst h;refine Fw ⟨[Vd],mvR,[yT 0 2 0 5],4,[t,X7],0⟩ ⟨λf hf=>?_,by show 1<=1000;decide,by show 1<=100000;decide,λ_ _=>by show 2<=1000;decide,λ_ _ x hx=>?_⟩
 ·rw[Af.1 hf];exact⟨by decide,by decide,by decide,by decide⟩
 ·rcases List.mem_cons.1 hx with rfl|hx;·exact ht
  ·rw[Af.1 hx];decide
theorem Rt:AO Tryz.prog 32 [] (λr=>r=Vd.v):=by
 refine kB Tryz.func32 rfl ?_;refine⟨by simp[closed,An],?_⟩
 conv=>whnf
 repeat(refine⟨(by first|rfl|(simp;done):(_:Nat)=_),?_⟩;conv=>whnf)
 refine⟨by simp[closed,An],?_⟩
 conv=>whnf
 repeat(refine⟨(by first|rfl|(simp;done):(_:Nat)=_),?_⟩;conv=>whnf)
 refine kR ?_;refine⟨⟨rfl,by simp[closed,An]⟩,?_⟩
 rfl
theorem fH:AO Tryz.prog 12 [] (λr=>r=.bool true):=by
 refine kB Tryz.func12 rfl ?_;refine kC (Rt) ?_;refine Aj.freeze 0 ?_ (by kernel_rfl)
 conv=>whnf
 refine⟨by simp[closed,An],?_⟩
 conv=>whnf
 repeat(refine⟨(by first|rfl|(simp;done):(_:Nat)=_),?_⟩;conv=>whnf)
 refine Aj.freeze 1 ?_ (by kernel_rfl)
 conv=>whnf
 refine⟨by simp[closed,An],?_⟩
 conv=>whnf
 repeat(refine⟨(by first|rfl|(simp;done):(_:Nat)=_),?_⟩;conv=>whnf)
 refine Aj.freeze 2 ?_ (by kernel_rfl)
 conv=>whnf
 refine⟨by intro e he;cases Af.1 he;rfl,?_⟩
 conv=>whnf
 repeat(refine⟨(by first|rfl|(simp;done):(_:Nat)=_),?_⟩;conv=>whnf)
 refine Aj.freeze 3 ?_ (by kernel_rfl)
 conv=>whnf
 refine⟨by simp[closed,An],?_⟩
 conv=>whnf
 repeat(refine⟨(by first|rfl|(simp;done):(_:Nat)=_),?_⟩;conv=>whnf)
 refine kC (kN ZiQ (by decide)) ?_
 refine kC (Rt) ?_;refine Aj.freeze 5 ?_ (by kernel_rfl)
 conv=>whnf
 refine⟨by intro e he;cases Af.1 he;rfl,?_⟩
 conv=>whnf
 repeat(refine⟨(by first|rfl|(simp;done):(_:Nat)=_),?_⟩;conv=>whnf)
 refine Aj.freeze 6 ?_ (by kernel_rfl)
 conv=>whnf
 refine⟨by simp[closed,An],?_⟩
 conv=>whnf
 repeat(refine⟨(by first|rfl|(simp;done):(_:Nat)=_),?_⟩;conv=>whnf)
 refine kC (kN ZiP (by decide)) ?_
 refine kD ?_;rfl
end Go.Proofs.YtdadkhcdoaeabaaGreatDoor