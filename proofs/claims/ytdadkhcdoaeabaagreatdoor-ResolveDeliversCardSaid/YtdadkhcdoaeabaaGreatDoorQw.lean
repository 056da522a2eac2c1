/- The reference's Same. -/
import Derived.Test.YtdadkhcdoaeabaaGreatDoorQv
import Derived.Test.YtdadkhcdoaeabaaGreatDoorQq
set_option linter.unusedVariables false
set_option maxRecDepth 100000
set_option linter.unusedSimpArgs false
open And renaming intro → Ah
open Nat renaming zero_le → Aq
open List renaming take_succ_eq_append_getElem → AO, length_map → AZ, mem_singleton → Ba, getElem_mem → Bh, take_length → Bu, all_eq_true → Bv, take_zero → BJ, all_eq_false → BV, all_append → Cb, length_cons → Cf, mem_cons → Cu
open Go.IntKind renaming signed → Bc, bits → Bq, min → BC, max → BD
open Bool renaming and_eq_true → B7, and_false → Cm
namespace Go.Proofs.YtdadkhcdoaeabaaGreatDoor
open Go.Av Go.Shelf Go.RowKit
open Rr.Pl (Pt Ad St Ch Bs My Mw E6 Lq)
open Rr (JH AY)
open Rr.Pl (DD Bm)
theorem zW{a b:Rs}:a=b↔a.k=b.k∧a.re=b.re∧a.ps=b.ps∧a.ch=b.ch:=by
 constructor;·rintro rfl;exact⟨rfl,rfl,rfl,rfl⟩
 ·rintro⟨h1,h2,h3,h4⟩;cases a;cases b
  simp only at h1 h2 h3 h4;subst h1 h2 h3 h4;rfl
theorem EF(a b:Rs)(h1:a.ps.length≤100000)(h2:b.ps.length≤100000)(h3:a.ch.length≤100000)(h4:b.ch.length≤100000):Aw Tryz.prog 27 [a.v,b.v] (λr=>r=.bool (decide (a=b))):=by
 refine Aw.Ai Tryz.func27 rfl Ae (by kernel_rfl) ?_
 conv=>whnf
 repeat(refine sT rfl ?_;conv=>whnf)
 repeat' (first|(refine Ah (λ_=>?_) (λ_=>?_)<;>conv=>whnf)|(refine cS (G0 a.ps b.ps h1 h2) rfl ?_;conv=>whnf)|(refine cS (G0 a.ch b.ch h3 h4) rfl ?_;conv=>whnf)|(refine sT rfl ?_;conv=>whnf))
 all_goals (simp_all[zW])
def IE(F:List Ff.Fm)(r:List Ch)(l:List Od)(ls:List Bs):Bool:=decide (F.length≤10)&&Rr.Pl.DH r&&decide (l.length≤50)&&F.all λf=>Ff.ND f ls
theorem SY(F:List Ff.Fm)(r:List Ch)(l:List Od)(ls:List Bs):Aw Tryz.prog 33 [Zc F,E6 r,H7 l,Ff.A3 ls] (λx=>x=.bool (IE F r l ls)):=by
 refine Aw.Ai Tryz.func33 rfl Ae (by kernel_rfl) ?_
 conv=>whnf
 repeat(refine sT rfl ?_;conv=>whnf)
 rw[AZ];repeat' (first|(refine Ah (λ_=>?_) (λ_=>?_)<;>conv=>whnf)|(refine cS (Rr.Td r) rfl ?_;conv=>whnf)|(refine sT rfl ?_;conv=>whnf))
 any_goals (unfold IE;simp_all;done)
 ·rename_i h1 h2 h3;have h3:=of_decide_eq_true h3;rw[AZ]at h3;exact congrArg AV.bool (by unfold IE;rw[decide_eq_false (show ¬l.length≤50 by omega),Cm,Bool.false_and])
 ·rename_i h1 h2 h3;have h1:=of_decide_eq_false h1;have h2:Rr.Pl.DH r=true:=by simpa using h2
  have h3:=of_decide_eq_false h3;rw[AZ]at h3;have e:IE F r l ls=F.all λf=>Ff.ND f ls:=by unfold IE;rw[decide_eq_true (show F.length≤10 by omega),h2,decide_eq_true (show l.length≤50 by omega)];rfl
  rw[e];refine Ac.AJ (λk:Nat=>mk 36 [(0,.sl 2 (F.map Ff.Fm.v)),(3,Ff.A3 ls),(9,.int .i64 k)]) (λ_=>[]) (λk=>k≤F.length∧((F.take k).all λf=>Ff.ND f ls)=true) (λk=>F.length-k) (λ_ _=>⟨rfl,trivial⟩) ⟨0,?_⟩ (λ_=>rfl) λk hk=>?_
  ·conv=>whnf
   repeat(refine Ah ?_ ?_;(focus (first|rfl|(simp;done)));conv=>whnf)
   rw[BJ];rfl
  ·obtain⟨hk,ha⟩:=hk;repeat(refine sT rfl ?_;conv=>whnf)
   refine⟨λg=>?_,λg=>?_⟩
   ·have g:k<F.length:=by simpa using g
    have Bj:Wr .i64 ((k:Int)+1)=((k+1:Nat):Int):=by rw[Cy _ _ (by unfold DF BC BD Bq Bc;simp;omega)];rfl
    conv=>whnf
    repeat(refine sT rfl ?_;conv=>whnf)
    refine⟨by omega,F[k].v,by simp[g],?_⟩
    conv=>whnf
    repeat(refine sT rfl ?_;conv=>whnf)
    refine cS (Ff.SY F[k] ls) rfl ?_;conv=>whnf
    repeat(refine sT rfl ?_;conv=>whnf)
    refine⟨λh1=>?_,λh1=>?_⟩
    ·have h1:Ff.ND F[k] ls=false:=by simpa using h1
     rw[BV.2 ⟨F[k],Bh _,by simp[h1]⟩]
     conv=>whnf
     repeat(refine sT rfl ?_;conv=>whnf)
    ·have h1:Ff.ND F[k] ls=true:=by simpa using h1
     conv=>whnf
     repeat(refine sT rfl ?_;conv=>whnf)
     refine⟨k+1,?_⟩;conv=>whnf
     repeat(refine Ah ?_ ?_;(focus (first|rfl|(simp;done)|(first|exact Bj;done)));conv=>whnf)
     exact⟨⟨by omega,by rw[AO g,Cb,ha];simp[h1]⟩,by omega⟩
   ·have g:k=F.length:=by simp at g;omega
    rw[g,Bu]at ha;rw[ha];conv=>whnf
    repeat(refine sT rfl ?_;conv=>whnf)
 ·rename_i h1;have h1:=of_decide_eq_true h1;exact congrArg AV.bool (by unfold IE;rw[decide_eq_false (show ¬F.length≤10 by omega)];rfl)
def Zao(O:List Of):Bool:=decide (O.length≤20)&&O.all λo=>decide (o.co.length≤20)
theorem Za0(n:Nt)(h:n.O.length≤9223372036854775807):Aw Tryz.prog 19 [n.v] (λx=>x=.bool (Zao n.O)):=by
 refine Aw.Ai Tryz.func19 rfl Ae (by kernel_rfl) ?_
 conv=>whnf
 repeat(refine sT rfl ?_;conv=>whnf)
 refine Ac.AJ (λk:Nat=>mk 23 [(0,n.v),(1,.ptr 0 0),(3,.int .i64 k)]) (λ_=>[.cells [.sl 3 n.x1,.sl 1 n.x2,.sl 1 n.x3,.sl 7 (n.O.map Of.v),.sl 6 n.x5,.sl 3 n.x6]]) (λk=>k≤n.O.length∧(n.O.take k).all (λo=>decide (o.co.length≤20))=true) (λk=>n.O.length-k) (λ_ _=>⟨rfl,rfl,trivial⟩) ⟨0,?_⟩ (λ_=>rfl) λk hk=>?_
 ·conv=>whnf
  repeat(refine Ah ?_ ?_;(focus (first|rfl|(simp;done)));conv=>whnf)
  rw[BJ];rfl
 ·obtain⟨hk,ha⟩:=hk;repeat(refine sT rfl ?_;conv=>whnf)
  refine⟨λg=>?_,λg=>?_⟩
  ·have g:k<n.O.length:=by simpa using g
   have Bj:Wr .i64 ((k:Int)+1)=((k+1:Nat):Int):=by rw[Cy _ _ (by unfold DF BC BD Bq Bc;simp;omega)];rfl
   conv=>whnf
   repeat(refine sT rfl ?_;conv=>whnf)
   refine⟨by omega,n.O[k].v,by simp[g],?_⟩
   conv=>whnf
   repeat(refine sT rfl ?_;conv=>whnf)
   rw[AZ];refine⟨λh1=>?_,λh1=>?_⟩
   ·have h1:=of_decide_eq_true h1
    have e:Zao n.O=false:=by
     unfold Zao;rw[BV.2 ⟨n.O[k],Bh _,by simp;omega⟩,Cm]
    rw[e];conv=>whnf
    repeat(refine sT rfl ?_;conv=>whnf)
   ·have h1:=of_decide_eq_false h1;conv=>whnf
    repeat(refine sT rfl ?_;conv=>whnf)
    refine⟨k+1,?_⟩;conv=>whnf
    repeat(refine Ah ?_ ?_;(focus (first|rfl|(simp;done)|(first|exact Bj;done)));conv=>whnf)
    exact⟨⟨by omega,by rw[AO g,Cb,ha];simp;omega⟩,by omega⟩
  ·have g:k=n.O.length:=by simp at g;omega
   rw[g,Bu]at ha;conv=>whnf
   repeat(refine sT rfl ?_;conv=>whnf)
   unfold Zao;rw[ha,Bool.and_true,AZ];exact congrArg AV.bool (decide_eq_decide.2 (by omega))
def WE:List Ch:=[⟨0,1,0,[49,48,48,48],[84,111,119,110],[77,97,105,110,32,83,116,114,101,101,116],1,20,0⟩,⟨0,1,0,[49,48,48,48],[84,111,119,110],[77,97,105,108,32,83,116,114,101,101,116],1,20,0⟩]
def Zd:Ff.Fm:=⟨[112,108,97,105,110],[[⟨4,[]⟩,⟨2,[]⟩],[⟨3,[57,57,57,57]⟩,⟨5,[]⟩]]⟩
def fY:Bs:=[49,48,48,48,32,84,111,119,110]
def exN:Nt:=⟨[],[],[],[⟨[],0,0,0,0,0,[[50,48,48,48]]⟩,⟨[],0,0,0,0,0,[[51,48,48,48],[49,48,48,48]]⟩,⟨[],0,0,0,0,0,[[49,48,48,48]]⟩],[],[]⟩
def exO(a b c d:Int):Od:=⟨⟨a,b⟩,⟨c,d⟩,0,9⟩
theorem Zgs:An [Zd] WE [] 0 [[77,97,105,110,32,83,116,114,101,101,116,32,55],fY] 2=⟨1,[⟨0,7⟩],[⟨0,7⟩],0⟩:=by kernel_rfl
theorem Zgr:An [Zd] WE [] 0 [[109,97,105,110,32,115,116,46,32,55],fY] 2=⟨1,[⟨0,7⟩],[⟨0,7⟩],0⟩:=by kernel_rfl
theorem Zgm:An [Zd] WE [] 0 [[77,97,105,110,115,32,83,116,114,101,101,116,32,55],fY] 2=⟨1,[⟨0,7⟩],[⟨0,7⟩],0⟩:=by kernel_rfl
theorem Zgq:An [Zd] WE [] 0 [[77,97,105,120,32,83,116,114,101,101,116,32,55],fY] 2=⟨2,[⟨0,7⟩,⟨1,7⟩],[],81⟩:=by kernel_rfl
theorem Zgp:An [Zd] WE [exO 0 7 1 3,exO 1 3 0 7] 0 [[77,97,105,110,32,83,116,114,101,101,116,32,55],fY] 2=⟨3,[],[],70⟩:=by kernel_rfl
theorem Zgo:An [Zd] WE [exO 0 7 1 3] 0 [[77,97,105,110,32,83,116,114,101,101,116,32,55],fY] 2=⟨1,[⟨1,3⟩],[⟨0,7⟩,⟨1,3⟩],0⟩:=by kernel_rfl
theorem Zgn:An [Zd] WE [exO 0 7 1 30] 0 [[77,97,105,110,32,83,116,114,101,101,116,32,55],fY] 2=⟨3,[],[],3⟩:=by kernel_rfl
theorem ZdN:An [Zd] WE [] 0 [[77,97,105,120,32,83,116,114,101,101,116,32,55],fY] 0=⟨3,[],[],80⟩:=by kernel_rfl
theorem ZdM:An [Zd] WE [] 0 [[77,97,105,110,32,83,116,114,101,101,116,32,50,49],fY] 2=⟨3,[],[],80⟩:=by kernel_rfl
theorem ZdL:An [Zd] WE [] 0 [[77,97,105,110,32,83,116,114,101,101,116],fY] 2=⟨3,[],[],1⟩:=by kernel_rfl
theorem ZdK:An [Zd] WE [] 0 [[77,97,105,110,32,83,116,114,101,101,116,32,55],fY] 7=⟨3,[],[],1⟩:=by kernel_rfl
theorem Gq:Aw Tryz.prog 45 [] (λr=>r=E6 WE):=by
 refine Aw.Ai Tryz.func45 rfl Ae (by kernel_rfl) ?_
 conv=>whnf
 repeat(refine sT rfl ?_;conv=>whnf)
 refine⟨⟨rfl,by simp[closed,Ap]⟩,?_⟩
 conv=>whnf
 repeat(refine sT rfl ?_;conv=>whnf)
 rfl
theorem U8:Aw Tryz.prog 47 [] (λr=>r=Zd.v):=by
 refine Aw.Ai Tryz.func47 rfl Ae (by kernel_rfl) ?_
 conv=>whnf
 repeat(refine sT rfl ?_;conv=>whnf)
 refine⟨by simp[closed,Ap],?_⟩
 conv=>whnf
 repeat(refine⟨(by first|rfl|(simp;done):(_:Nat)=_),?_⟩;conv=>whnf)
 refine⟨by simp[closed,Ap],?_⟩
 conv=>whnf
 repeat(refine⟨(by first|rfl|(simp;done):(_:Nat)=_),?_⟩;conv=>whnf)
 repeat(refine sT rfl ?_;conv=>whnf)
 refine⟨⟨rfl,by simp[closed,Ap]⟩,?_⟩
 rfl
theorem I4(p q:Pt):Aw Tryz.prog 44 [p.v,q.v] (λr=>r=(exO p.s p.n q.s q.n).v):=by
 refine Aw.Ai Tryz.func44 rfl Ae (by kernel_rfl) ?_
 conv=>whnf
 repeat(refine sT rfl ?_;conv=>whnf)
 rfl
theorem Wh(t:Bs)(Ao:Int)(l:List Od)(ht:t.length≤1000)(hl:l.length≤100000):Aw Tryz.prog 43 [.str t,.int .i64 Ao,H7 l] (λr=>r=(An [Zd] WE l 0 [t,fY] Ao).v):=by
 refine Aw.Ai Tryz.func43 rfl Ae (by kernel_rfl) ?_
 conv=>whnf
 repeat(refine sT rfl ?_;conv=>whnf)
 refine cS (U8) rfl ?_;conv=>whnf
 repeat(refine sT rfl ?_;conv=>whnf)
 refine cS (Gq) rfl ?_;conv=>whnf
 repeat(refine sT rfl ?_;conv=>whnf)
 refine Ak.freeze 1 ?_ (by kernel_rfl)
 conv=>whnf
 refine⟨by intro e he;cases Ba.1 he;rfl,?_⟩
 conv=>whnf
 repeat(refine⟨(by first|rfl|(simp;done):(_:Nat)=_),?_⟩;conv=>whnf)
 refine Ak.freeze 2 ?_ (by kernel_rfl)
 conv=>whnf
 refine⟨by simp[closed,Ap],?_⟩
 conv=>whnf
 repeat(refine⟨(by first|rfl|(simp;done):(_:Nat)=_),?_⟩;conv=>whnf)
 refine Ak.D3 (NT ⟨[Zd],WE,l,0,[t,fY],Ao⟩ ⟨λf hf=>?_,by show 1≤1000;decide,hl,λ_ _=>by show 2≤1000;decide,λ_ _ x hx=>?_⟩) rfl λr hr=>?_
 ·rw[Ba.1 hf];exact⟨by decide,by decide,by decide,by decide⟩
 ·rcases Cu.1 hx with rfl|hx;·exact ht
  ·rw[Ba.1 hx];decide
 subst hr;conv=>whnf
 repeat(refine sT rfl ?_;conv=>whnf)
 rfl
theorem SZ{t:Bs}{Ao:Int}{l:List Od}{x:Rs}(h:An [Zd] WE l 0 [t,fY] Ao=x)(ht:t.length≤1000)(hl:l.length≤100000):Aw Tryz.prog 43 [.str t,.int .i64 Ao,H7 l] (λr=>r=x.v):=by
 have:=Wh t Ao l ht hl;rwa [h]at this
theorem Iw:Aw Tryz.prog 22 [] (λr=>r=.bool true):=by
 refine Aw.Ai Tryz.func22 rfl Ae (by kernel_rfl) ?_
 conv=>whnf
 repeat(refine sT rfl ?_;conv=>whnf)
 refine Ak.args (args':=[.str _,.int .i64 2,H7 []]) ⟨rfl,rfl,trivial,trivial⟩ ?_;refine cS (SZ Zgs (by decide) (by decide)) rfl ?_;conv=>whnf
 repeat(refine sT rfl ?_;conv=>whnf)
 refine Ak.args (args':=[.str _,.int .i64 2,H7 []]) ⟨rfl,rfl,trivial,trivial⟩ ?_;refine cS (SZ Zgr (by decide) (by decide)) rfl ?_;conv=>whnf
 repeat(refine sT rfl ?_;conv=>whnf)
 refine Ak.args (args':=[.str _,.int .i64 2,H7 []]) ⟨rfl,rfl,trivial,trivial⟩ ?_;refine cS (SZ Zgq (by decide) (by decide)) rfl ?_;conv=>whnf
 repeat(refine sT rfl ?_;conv=>whnf)
 refine Ac.P0 [6] [9] Ae mO (by kernel_rfl) ?_
 conv=>whnf
 refine⟨_,⟨I4 ⟨0,7⟩ ⟨1,3⟩,rfl⟩,?_⟩;conv=>whnf
 refine⟨_,⟨I4 ⟨1,3⟩ ⟨0,7⟩,rfl⟩,?_⟩;conv=>whnf
 refine⟨_,⟨SZ Zgp (by decide) (by decide),rfl⟩,?_⟩
 conv=>whnf
 conv=>whnf
 repeat(refine sT rfl ?_;conv=>whnf)
 refine cS (I4 ⟨0,7⟩ ⟨1,3⟩) rfl ?_;conv=>whnf
 repeat(refine sT rfl ?_;conv=>whnf)
 refine Ak.freeze 15 ?_ (by kernel_rfl)
 conv=>whnf
 refine⟨by intro e he;cases Ba.1 he;rfl,?_⟩
 conv=>whnf
 repeat(refine⟨(by first|rfl|(simp;done):(_:Nat)=_),?_⟩;conv=>whnf)
 refine cS (SZ Zgo (by decide) (by decide)) rfl ?_;conv=>whnf
 repeat(refine sT rfl ?_;conv=>whnf)
 refine cS (I4 ⟨0,7⟩ ⟨1,30⟩) rfl ?_;conv=>whnf
 repeat(refine sT rfl ?_;conv=>whnf)
 refine Ak.freeze 17 ?_ (by kernel_rfl)
 conv=>whnf
 refine⟨by intro e he;cases Ba.1 he;rfl,?_⟩
 conv=>whnf
 repeat(refine⟨(by first|rfl|(simp;done):(_:Nat)=_),?_⟩;conv=>whnf)
 refine cS (SZ Zgn (by decide) (by decide)) rfl ?_;conv=>whnf
 repeat(refine sT rfl ?_;conv=>whnf)
 refine Ac.freeze 19 ?_;conv=>whnf
 refine⟨by simp[closed,Ap],?_⟩
 conv=>whnf
 repeat(refine⟨(by first|rfl|(simp;done):(_:Nat)=_),?_⟩;conv=>whnf)
 refine Ac.freeze 20 ?_;conv=>whnf
 refine⟨by simp[closed,Ap],?_⟩
 conv=>whnf
 repeat(refine⟨(by first|rfl|(simp;done):(_:Nat)=_),?_⟩;conv=>whnf)
 refine Ac.freeze 22 ?_;conv=>whnf
 refine⟨by simp[closed,Ap],?_⟩
 conv=>whnf
 repeat(refine⟨(by first|rfl|(simp;done):(_:Nat)=_),?_⟩;conv=>whnf)
 refine Ac.draw [] Ae mO (by kernel_rfl) ?_
 conv=>whnf
 refine⟨_,⟨EF ⟨1,[⟨0,7⟩],[⟨0,7⟩],0⟩ ⟨1,[⟨0,7⟩],[⟨0,7⟩],0⟩ (by decide) (by decide) (by decide) (by decide),rfl⟩,?_⟩
 conv=>whnf
 refine Ah (λh=>?_) (λh=>absurd h (by decide +kernel))
 conv=>whnf
 refine⟨_,⟨EF ⟨1,[⟨0,7⟩],[⟨0,7⟩],0⟩ ⟨1,[⟨0,7⟩],[⟨0,7⟩],0⟩ (by decide) (by decide) (by decide) (by decide),rfl⟩,?_⟩
 conv=>whnf
 refine Ah (λh=>?_) (λh=>absurd h (by decide +kernel))
 conv=>whnf
 refine⟨6,?_⟩;conv=>whnf
 refine⟨_,⟨SZ Zgm (by decide) (by decide),rfl⟩,?_⟩
 conv=>whnf
 refine⟨_,⟨EF ⟨1,[⟨0,7⟩],[⟨0,7⟩],0⟩ ⟨1,[⟨0,7⟩],[⟨0,7⟩],0⟩ (by decide) (by decide) (by decide) (by decide),rfl⟩,?_⟩
 conv=>whnf
 refine Ah (λh=>?_) (λh=>absurd h (by decide +kernel))
 conv=>whnf
 refine⟨_,⟨Aw.Wu (.cons (Le.refl _) (.cons (Le.agg (.cons (Le.refl _) (.cons (Le.refl _) (.cons (Le.nil 2) (.cons (Le.refl _) .nil))))) .nil)) (EF ⟨2,[⟨0,7⟩,⟨1,7⟩],[],81⟩ ⟨2,[⟨0,7⟩,⟨1,7⟩],[],81⟩ (by decide) (by decide) (by decide) (by decide)),rfl⟩,?_⟩
 conv=>whnf
 refine Ah (λh=>?_) (λh=>absurd h (by decide +kernel))
 conv=>whnf
 repeat(first|((first|refine⟨λ_=>?_,λh=>absurd h (by decide +kernel)⟩|refine⟨λh=>absurd h (by decide +kernel),λ_=>?_⟩|refine⟨by decide,_,rfl,?_⟩);conv=>whnf)|(refine sT rfl ?_;conv=>whnf))
 refine Ak.freeze 53 ?_ (by kernel_rfl)
 conv=>whnf
 refine⟨by simp[closed,Ap],?_⟩
 conv=>whnf
 repeat(refine⟨(by first|rfl|(simp;done):(_:Nat)=_),?_⟩;conv=>whnf)
 refine cS (G0 [⟨1,3⟩] [⟨1,3⟩] (by decide) (by decide)) rfl ?_;conv=>whnf
 repeat(refine sT rfl ?_;conv=>whnf)
 repeat(first|((first|refine⟨λ_=>?_,λh=>absurd h (by decide +kernel)⟩|refine⟨λh=>absurd h (by decide +kernel),λ_=>?_⟩|refine⟨by decide,_,rfl,?_⟩);conv=>whnf)|(refine sT rfl ?_;conv=>whnf))
 refine Ak.freeze 54 ?_ (by kernel_rfl)
 conv=>whnf
 refine⟨by simp[closed,Ap],?_⟩
 conv=>whnf
 repeat(refine⟨(by first|rfl|(simp;done):(_:Nat)=_),?_⟩;conv=>whnf)
 refine cS (G0 [⟨0,7⟩,⟨1,3⟩] [⟨0,7⟩,⟨1,3⟩] (by decide) (by decide)) rfl ?_;conv=>whnf
 repeat(refine sT rfl ?_;conv=>whnf)
 repeat(first|((first|refine⟨λ_=>?_,λh=>absurd h (by decide +kernel)⟩|refine⟨λh=>absurd h (by decide +kernel),λ_=>?_⟩|refine⟨by decide,_,rfl,?_⟩);conv=>whnf)|(refine sT rfl ?_;conv=>whnf))
 refine Ak.args (args':=[.str _,.int .i64 0,H7 []]) ⟨rfl,rfl,trivial,trivial⟩ ?_;refine cS (SZ ZdN (by decide) (by decide)) rfl ?_;conv=>whnf
 repeat(refine sT rfl ?_;conv=>whnf)
 repeat(first|((first|refine⟨λ_=>?_,λh=>absurd h (by decide +kernel)⟩|refine⟨λh=>absurd h (by decide +kernel),λ_=>?_⟩|refine⟨by decide,_,rfl,?_⟩);conv=>whnf)|(refine sT rfl ?_;conv=>whnf))
 refine Ak.args (args':=[.str _,.int .i64 2,H7 []]) ⟨rfl,rfl,trivial,trivial⟩ ?_;refine cS (SZ ZdM (by decide) (by decide)) rfl ?_;conv=>whnf
 repeat(refine sT rfl ?_;conv=>whnf)
 repeat(first|((first|refine⟨λ_=>?_,λh=>absurd h (by decide +kernel)⟩|refine⟨λh=>absurd h (by decide +kernel),λ_=>?_⟩|refine⟨by decide,_,rfl,?_⟩);conv=>whnf)|(refine sT rfl ?_;conv=>whnf))
 refine Ak.args (args':=[.str _,.int .i64 2,H7 []]) ⟨rfl,rfl,trivial,trivial⟩ ?_;refine cS (SZ ZdL (by decide) (by decide)) rfl ?_;conv=>whnf
 repeat(refine sT rfl ?_;conv=>whnf)
 repeat(first|((first|refine⟨λ_=>?_,λh=>absurd h (by decide +kernel)⟩|refine⟨λh=>absurd h (by decide +kernel),λ_=>?_⟩|refine⟨by decide,_,rfl,?_⟩);conv=>whnf)|(refine sT rfl ?_;conv=>whnf))
 refine Ak.args (args':=[.str _,.int .i64 7,H7 []]) ⟨rfl,rfl,trivial,trivial⟩ ?_;refine cS (SZ ZdK (by decide) (by decide)) rfl ?_;conv=>whnf
 repeat(refine sT rfl ?_;conv=>whnf)
 repeat(first|((first|refine⟨λ_=>?_,λh=>absurd h (by decide +kernel)⟩|refine⟨λh=>absurd h (by decide +kernel),λ_=>?_⟩|refine⟨by decide,_,rfl,?_⟩);conv=>whnf)|(refine sT rfl ?_;conv=>whnf))
 refine⟨by simp[closed,Ap],?_⟩
 conv=>whnf
 repeat(refine⟨(by first|rfl|(simp;done):(_:Nat)=_),?_⟩;conv=>whnf)
 repeat(refine sT rfl ?_;conv=>whnf)
 refine⟨by simp[closed,Ap],?_⟩
 conv=>whnf
 repeat(refine⟨(by first|rfl|(simp;done):(_:Nat)=_),?_⟩;conv=>whnf)
 repeat(refine sT rfl ?_;conv=>whnf)
 refine⟨by simp[closed,Ap],?_⟩
 conv=>whnf
 repeat(refine⟨(by first|rfl|(simp;done):(_:Nat)=_),?_⟩;conv=>whnf)
 repeat(refine sT rfl ?_;conv=>whnf)
 refine Ac.freeze 58 ?_;conv=>whnf
 refine⟨by intro e he;simp only[Cu,List.not_mem_nil,or_false]at he;rcases he with rfl|rfl|rfl<;>rfl,?_⟩
 conv=>whnf
 repeat(refine⟨(by first|rfl|(simp;done):(_:Nat)=_),?_⟩;conv=>whnf)
 refine Ac.draw [] Ae mO (by kernel_rfl) ?_
 conv=>whnf
 repeat(first|((first|refine⟨λ_=>?_,λh=>absurd h (by decide +kernel)⟩|refine⟨λh=>absurd h (by decide +kernel),λ_=>?_⟩|refine⟨by decide,_,rfl,?_⟩);conv=>whnf)|(refine sT rfl ?_;conv=>whnf))
 refine⟨_,⟨Gq,rfl⟩,?_⟩;conv=>whnf
 refine⟨_,⟨Aw.Wu (.cons (Le.agg (.cons (Le.nil 3) (.cons (Le.nil 1) (.cons (Le.nil 1) (.cons (Le.refl _) (.cons (Le.nil 6) (.cons (Le.nil 3) .nil))))))) (.cons (Le.refl _) (.cons (Le.refl _) (.cons (Le.refl _) .nil)))) (NU exN WE 0 ⟨0,7⟩ (by decide) (by decide)),rfl⟩,?_⟩
 conv=>whnf
 refine Ah (λh=>?_) (λh=>absurd h (by decide +kernel))
 conv=>whnf
 refine⟨_,⟨Gq,rfl⟩,?_⟩;conv=>whnf
 refine⟨_,⟨Aw.Wu (.cons (Le.agg (.cons (Le.nil 3) (.cons (Le.nil 1) (.cons (Le.nil 1) (.cons (Le.refl _) (.cons (Le.nil 6) (.cons (Le.nil 3) .nil))))))) (.cons (Le.refl _) (.cons (Le.refl _) (.cons (Le.refl _) .nil)))) (NU exN WE 0 ⟨0,21⟩ (by decide) (by decide)),rfl⟩,?_⟩
 conv=>whnf
 refine Ah (λh=>?_) (λh=>absurd h (by decide +kernel))
 conv=>whnf
 refine⟨_,⟨U8,rfl⟩,?_⟩;conv=>whnf
 refine⟨_,⟨Ff.Dg Zd (by decide) (by decide) (by decide) (by decide),rfl⟩,?_⟩
 conv=>whnf
 refine Ah (λh=>?_) (λh=>absurd h (by decide +kernel))
 conv=>whnf
 refine⟨6,?_⟩;conv=>whnf
 refine⟨_,⟨JQ [],rfl⟩,?_⟩;conv=>whnf
 refine Ah (λh=>?_) (λh=>absurd h (by decide +kernel))
 conv=>whnf
 refine⟨_,⟨Gq,rfl⟩,?_⟩;conv=>whnf
 refine⟨_,⟨Rr.gL WE 0,rfl⟩,?_⟩;conv=>whnf
 repeat(first|((first|refine⟨λ_=>?_,λh=>absurd h (by decide +kernel)⟩|refine⟨λh=>absurd h (by decide +kernel),λ_=>?_⟩|refine⟨by decide,_,rfl,?_⟩);conv=>whnf)|(refine sT rfl ?_;conv=>whnf))
theorem Zbb(o:Of)(t:Bs)(hl:o.co.length≤100000):Aw Tryz.prog 28 [o.v,.str t] (λr=>r=.bool (o.co.any λx=>decide (x=t))):=by
 refine Aw.Ai Tryz.func28 rfl Ae (by kernel_rfl) ?_
 conv=>whnf
 repeat(refine sT rfl ?_;conv=>whnf)
 refine Ac.AJ (λk:Nat=>mk 20 [(0,o.v),(1,.str t),(2,.ptr 0 0),(5,.int .i64 k)]) (λ_=>[.cells [.str o.na,.int .i64 o.x1,.int .i64 o.x2,.int .i64 o.x3,.int .i64 o.x4,.int .i64 o.x5,Ff.A3 o.co]]) (λk=>k≤o.co.length∧((o.co.take k).any λx=>decide (x=t))=false) (λk=>o.co.length-k) (λ_ _=>⟨rfl,rfl,trivial⟩) ⟨0,?_⟩ (λ_=>rfl) λk hk=>?_
 ·conv=>whnf
  repeat(refine Ah ?_ ?_;(focus (first|rfl|(simp;done)));conv=>whnf)
  rw[BJ];rfl
 ·obtain⟨hk,ha⟩:=hk;repeat(refine sT rfl ?_;conv=>whnf)
  refine⟨λg=>?_,λg=>?_⟩
  ·have g:k<o.co.length:=by simpa using g
   have Bj:Wr .i64 ((k:Int)+1)=((k+1:Nat):Int):=by rw[Cy _ _ (by unfold DF BC BD Bq Bc;simp;omega)];rfl
   conv=>whnf
   repeat(refine sT rfl ?_;conv=>whnf)
   refine⟨by omega,.str o.co[k],by simp[g],?_⟩
   conv=>whnf
   repeat(refine sT rfl ?_;conv=>whnf)
   refine⟨λh1=>?_,λh1=>?_⟩
   ·have h1:decide (o.co[k]=t)=true:=by simpa using h1
    rw[List.any_eq_true.2 ⟨o.co[k],Bh _,h1⟩];conv=>whnf
    repeat(refine sT rfl ?_;conv=>whnf)
   ·have h1:decide (o.co[k]=t)=false:=by simpa using h1
    conv=>whnf
    repeat(refine sT rfl ?_;conv=>whnf)
    refine⟨k+1,?_⟩;conv=>whnf
    repeat(refine Ah ?_ ?_;(focus (first|rfl|(simp;done)|(first|exact Bj;done)));conv=>whnf)
    exact⟨⟨by omega,WT g ha h1⟩,by omega⟩
  ·have g:k=o.co.length:=by simp at g;omega
   rw[g,Bu]at ha;rw[ha];conv=>whnf
   repeat(refine sT rfl ?_;conv=>whnf)
theorem ID{f:Ff.Fm}{ls:List Bs}(h:Ff.ND f ls=true):Ff.Te f∧ls.length≤8∧(∀l∈ls,l.length≤200)∧f.lines.length≤10∧(∀l∈f.lines,l.length≤10):=by
 unfold Ff.ND at h;simp only[B7,decide_eq_true_eq,Bv]at h;obtain⟨⟨⟨⟨⟨h1,h2⟩,h3⟩,h4⟩,h5⟩,h6⟩:=h;refine⟨⟨by omega,by omega,λl hl=>by have:=h4 l hl;omega,λl hl p hp=>by have:=h5 p (List.mem_flatten.2 ⟨l,hl,hp⟩);omega⟩,h1,h6,h2,h4⟩
def F7(F:List Ff.Fm)(r:List Ch)(l:List Od)(ls:List Bs):Bool:=IE F r l ls&&decide (F.length≤8)&&(Rr.Pl.DH r&&AY r)&&CC l&&F.all Ff.By
theorem Bp{F:List Ff.Fm}{r:List Ch}{l:List Od}{ls:List Bs}(h:IE F r l ls=true):F.length≤10∧Rr.Pl.DH r=true∧l.length≤50∧∀f∈F,Ff.ND f ls=true:=by
 unfold IE at h;simp only[B7,decide_eq_true_eq,Bv]at h;exact⟨h.1.1.1,h.1.1.2,h.1.2,h.2⟩
theorem GN{F:List Ff.Fm}{r:List Ch}{l:List Od}{ls:List Bs}(h:F7 F r l ls=true):IE F r l ls=true∧Good F r l∧Rr.Pl.DH r=true:=by
 unfold F7 at h;simp only[B7,decide_eq_true_eq,Bv]at h;obtain⟨⟨⟨⟨h1,h2⟩,h3,h4⟩,h5⟩,h6⟩:=h;exact⟨h1,⟨h6,h2,h4,h5⟩,h3⟩
theorem Dg(F:List Ff.Fm)(r:List Ch)(l:List Od)(ls:List Bs):Aw Tryz.prog 23 [Zc F,E6 r,H7 l,Ff.A3 ls] (λx=>x=.bool (F7 F r l ls)):=by
 refine Aw.Ai Tryz.func23 rfl Ae (by kernel_rfl) ?_
 conv=>whnf
 repeat(refine sT rfl ?_;conv=>whnf)
 refine cS (SY F r l ls) rfl ?_;conv=>whnf
 repeat(refine sT rfl ?_;conv=>whnf)
 refine⟨λh=>?_,λh=>?_⟩;rotate_left
 ·have h:IE F r l ls=false:=by simpa using h
  have e:F7 F r l ls=false:=by unfold F7;rw[h];rfl
  rw[e];conv=>whnf
  repeat(refine sT rfl ?_;conv=>whnf)
 ·have h:IE F r l ls=true:=by simpa using h
  obtain⟨h1,h2,h3,h4⟩:=Bp h;have e:F7 F r l ls=(decide (F.length≤8)&&(Rr.Pl.DH r&&AY r)&&CC l&&F.all Ff.By):=by unfold F7;rw[h];rfl
  rw[e];conv=>whnf
  repeat(refine sT rfl ?_;conv=>whnf)
  rw[AZ];repeat' (first|(refine Ah (λ_=>?_) (λ_=>?_)<;>conv=>whnf)|(refine cS (Rr.dJ r) rfl ?_;conv=>whnf)|(refine cS (Vx l (by omega)) rfl ?_;conv=>whnf)|(refine sT rfl ?_;conv=>whnf))
  any_goals (simp_all;done)
  ·rename_i g1 g2 g3;have g1:=of_decide_eq_false g1;have g2:(Rr.Pl.DH r&&AY r)=true:=by simpa using g2
   have g3:CC l=true:=by simpa using g3
   have e:(decide (F.length≤8)&&(Rr.Pl.DH r&&AY r)&&CC l&&F.all Ff.By)=F.all Ff.By:=by rw[decide_eq_true (show F.length≤8 by omega),g2,g3];rfl
   rw[e];refine Ac.AJ (λk:Nat=>mk 45 [(0,.sl 2 (F.map Ff.Fm.v)),(9,.int .i64 k)]) (λ_=>[]) (λk=>k≤F.length∧(F.take k).all Ff.By=true) (λk=>F.length-k) (λ_ _=>⟨rfl,trivial⟩) ⟨0,?_⟩ (λ_=>rfl) λk hk=>?_
   ·conv=>whnf
    repeat(refine Ah ?_ ?_;(focus (first|rfl|(simp;done)));conv=>whnf)
    rw[BJ];rfl
   ·obtain⟨hk,ha⟩:=hk;repeat(refine sT rfl ?_;conv=>whnf)
    refine⟨λg=>?_,λg=>?_⟩
    ·have g:k<F.length:=by simpa using g
     have Bj:Wr .i64 ((k:Int)+1)=((k+1:Nat):Int):=by rw[Cy _ _ (by unfold DF BC BD Bq Bc;simp;omega)];rfl
     conv=>whnf
     repeat(refine sT rfl ?_;conv=>whnf)
     refine⟨by omega,F[k].v,by simp[g],?_⟩
     conv=>whnf
     repeat(refine sT rfl ?_;conv=>whnf)
     refine cS (Ff.Xf F[k] (ID (h4 _ (Bh g))).1) rfl ?_;conv=>whnf
     repeat(refine sT rfl ?_;conv=>whnf)
     refine⟨λh1=>?_,λh1=>?_⟩
     ·have h1:Ff.By F[k]=false:=by simpa using h1
      rw[BV.2 ⟨F[k],Bh _,by simp[h1]⟩]
      conv=>whnf
      repeat(refine sT rfl ?_;conv=>whnf)
     ·have h1:Ff.By F[k]=true:=by simpa using h1
      conv=>whnf
      repeat(refine sT rfl ?_;conv=>whnf)
      refine⟨k+1,?_⟩;conv=>whnf
      repeat(refine Ah ?_ ?_;(focus (first|rfl|(simp;done)|(first|exact Bj;done)));conv=>whnf)
      exact⟨⟨by omega,by rw[AO g,Cb,ha];simp[h1]⟩,by omega⟩
    ·have g:k=F.length:=by simp at g;omega
     rw[g,Bu]at ha;rw[ha];conv=>whnf
     repeat(refine sT rfl ?_;conv=>whnf)
  ·rename_i g1;have g1:=of_decide_eq_true g1;rw[decide_eq_false (show ¬F.length≤8 by omega)]
   rfl
theorem Zct{F:List Ff.Fm}{r:List Ch}{l:List Od}{ls:List Bs}(h:IE F r l ls=true)(day Ao:Int):Qn.ok ⟨F,r,l,day,ls,Ao⟩:=by
 obtain⟨h1,h2,h3,h4⟩:=Bp h;refine⟨λf hf=>(ID (h4 f hf)).1,by show F.length≤1000;omega,by show l.length≤100000;omega,λf hf=>?_,λf hf x hx=>?_⟩
 ·have:=(ID (h4 f hf)).2.1;show ls.length≤1000
  omega
 ·have:=(ID (h4 f hf)).2.2.1 x hx;omega
theorem Em{F:List Ff.Fm}{r:List Ch}{l:List Od}{ls:List Bs}(h:IE F r l ls=true)(day Ao:Int):Aw Tryz.prog 14 [Zc F,E6 r,H7 l,.int .i64 day,Ff.A3 ls,.int .i64 Ao] (λx=>x=(An F r l day ls Ao).v):=NT ⟨F,r,l,day,ls,Ao⟩ (Zct h day Ao)
theorem eY(p:Pt):∀(l:List Pt),(Qu p l).length≤l.length+1
 |[]=>by simp[Qu]
 |q::r=>by
  unfold Qu;split;·simp
  ·split;·simp
   ·have:=eY p r;simp only[Cf];omega
theorem XA:∀(l:List Pt),(LM l).length≤l.length
 |[]=>Nat.le_refl _
 |p::l=>by
  show(Qu p (LM l)).length≤_
  have:=eY p (LM l);have:=XA l;rw[Cf];omega
theorem IV{F:List Ff.Fm}(hF:F.length≤10)(r:List Ch)(l:List Od)(day:Int)(ls:List Bs)(Ao:Int):(An F r l day ls Ao).ps.length≤100000∧(An F r l day ls Ao).ch.length≤100000:=by
 unfold An;split;·exact⟨Aq _,Aq _⟩
 ·split;·exact⟨Aq _,Aq _⟩
  ·have hM:(B3 r day (readAll F ls) Ao).length≤100000:=by
    unfold B3;refine Nat.le_trans (XA _) ?_;have h1:=Pm F ls;split
    ·have h3:=OE (Rr.NO r day).2 Ao (readAll F ls)
     have h4:(Hu Ao (Dp (JH r day) (readAll F ls) Ao)).length≤(Dp (JH r day) (readAll F ls) Ao).length:=by
      unfold Hu;rw[AZ];exact List.length_filter_le ..
     omega
    ·have h3:(DQ r day (readAll F ls)).length≤(readAll F ls).length:=List.length_filterMap_le ..;omega
   generalize B3 r day (readAll F ls) Ao=M at*;unfold DS;split;·exact⟨Aq _,Aq _⟩
   ·split;·exact⟨hM,Aq _⟩
    ·simp only;split;·exact⟨Aq _,Aq _⟩
     ·rename_i hc;split;·exact⟨Aq _,Aq _⟩
      ·have:=(HC (Classical.not_not.1 hc)).2
       refine⟨by show 1≤100000;decide,?_⟩
       show(AW l day (M.headD My)).1.length≤100000
       omega
theorem GZ{F G:List Ff.Fm}(hF:F.length≤10)(hG:G.length≤10)(r:List Ch)(l l':List Od)(day:Int)(ls:List Bs)(m n:Int):Aw Tryz.prog 27 [(An F r l day ls m).v,(An G r l' day ls n).v] (λx=>x=.bool (decide (An F r l day ls m=An G r l' day ls n))):=
 EF _ _ (IV hF ..).1 (IV hG ..).1 (IV hF ..).2 (IV hG ..).2
theorem VW{F:List Ff.Fm}{r:List Ch}{l:List Od}(h:Good F r l)(day:Int)(ls:List Bs){m n:Int}(h0:0≤m)(hmn:m≤n)(h6:n≤6):
  ((An F r l day ls m).re=80∨An F r l day ls m=An F r l day ls n)∧((An F r l day ls n).re=80→(An F r l day ls m).re=80):=by
 rw[Dh h day ls h0 (by omega),Dh h day ls (by omega) h6]
 split;·exact⟨.inr rfl,λh=>h⟩
 ·constructor
  ·rcases PB (r:=r) (day:=day) (A:=readAll F ls) hmn with e|e;·left;rw[e];rfl
   ·right;rw[e]
  ·intro e;have hn:=Jd h.r h.o day (B3 r day (readAll F ls) n)
   have hM:B3 r day (readAll F ls) n=[]:=by
    generalize hx:DS r l day (B3 r day (readAll F ls) n)=x at hn e;cases hn with
    |none h=>exact h
    |MR h=>exact absurd e (show ¬(81:Int)=80 by decide)
    |O4 p e' h1 h2 h3=>rcases h2 with rfl|rfl<;>exact absurd e (by decide)
    |gone p q i h1 h2 h3=>exact absurd e (show ¬(3:Int)=80 by decide)
    |found p q i t h1 h2 h3 h4 h5 h6=>exact absurd e (show ¬(0:Int)=80 by decide)
   rw[aQ hmn hM];rfl
theorem Yx{F:List Ff.Fm}{r:List Ch}{l:List Od}(h:Good F r l):Good F r []:=⟨h.f,h.n,h.r,by decide⟩
theorem YG{r:List Ch}{l:List Od}(hr:AY r=true)(hl:CC l=true)(day:Int)(M:List Pt)(hk:(DS r l day M).k=2):1<M.length∧DS r l day M=⟨2,M,[],81⟩:=by
 have hn:=Jd hr hl day M;generalize DS r l day M=x at hn hk;cases hn with
 |none h=>exact absurd hk (by decide)
 |O4 p e' h1 h2 h3=>exact absurd hk (show ¬(3:Int)=2 by decide)
 |gone p q i h1 h2 h3=>exact absurd hk (show ¬(3:Int)=2 by decide)
 |found p q i t h1 h2 h3 h4 h5 h6=>exact absurd hk (show ¬(1:Int)=2 by decide)
 |MR AR=>exact⟨AR,rfl⟩
theorem PA{r:List Ch}(hr:AY r=true){day m:Int}{A:List Ad}:∀p∈B3 r day A m,(Bm r day p).2=0:=λp hp=>by
 obtain⟨a,_,s,hs,_⟩:=UP hr hp;rw[Pz hr hs]
theorem Tz{F:List Ff.Fm}{r:List Ch}{l:List Od}(h:Good F r l)(day:Int)(ls:List Bs){m:Int}(h0:0≤m)(h6:m≤6)(hk:(An F r l day ls m).k=2):
  (∀p∈(An F r l day ls m).ps,(Bm r day p).2=0)∧E7 (An F r l day ls m).ps∧1<(An F r l day ls m).ps.length∧(An F r l day ls m).re=81∧An F r l day ls m=An F r [] day ls m:=by
 rw[Dh h day ls h0 h6]at hk ⊢;rw[Dh (Yx h) day ls h0 h6];by_cases hb:O3 F day ls=true
 ·rw[if_pos hb]at hk;exact absurd hk (by decide)
 ·rw[if_neg hb]at hk ⊢;rw[if_neg hb];obtain⟨AR,he⟩:=YG h.r h.o day _ hk;rw[he];refine⟨PA h.r,I6 _ _ _ _,AR,rfl,?_⟩;unfold DS;rw[if_neg (by intro e;rw[e]at AR;simp at AR),if_pos AR]
theorem eL{F:List Ff.Fm}{r:List Ch}{l:List Od}{ls:List Bs}(h:IE F r l ls=true):IE F r [] ls=true:=by
 obtain⟨h1,h2,h3,h4⟩:=Bp h;unfold IE;rw[decide_eq_true h1,h2,Bv.2 h4];rfl
theorem QS{a:Int}(ha:DF .u8 a):0≤a∧a≤255∧Wr .i64 a=a∧0≤Int.tmod a 7∧Int.tmod a 7≤6:=by
 obtain⟨a0,a1⟩:0≤a∧a≤255:=by unfold DF BC BD Bq Bc at ha;simp at ha;omega
 refine⟨a0,a1,Cy _ _ (by unfold DF BC BD Bq Bc;simp;omega),?_⟩
 rw[Int.tmod_eq_emod_of_nonneg a0];omega
end Go.Proofs.YtdadkhcdoaeabaaGreatDoor