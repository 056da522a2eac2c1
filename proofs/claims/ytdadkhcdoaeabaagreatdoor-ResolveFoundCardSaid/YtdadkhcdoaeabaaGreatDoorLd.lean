/- The law of Found: plain. -/
import Derived.Test.YtdadkhcdoaeabaaGreatDoorQv
set_option linter.unusedVariables false
set_option maxRecDepth 100000
set_option linter.unusedSectionVars false
set_option linter.unusedSimpArgs false
open List renaming length_map → Ak, any_append → Ax
namespace Go.Proofs.YtdadkhcdoaeabaaGreatDoor
open Go.Av Go.Shelf Go.RowKit
open Rr.Pl (Pt Ad St Ch Bs Mv HT D5 KD)
open Rr (E6 Ar)
open Rr.Pl (CA AW)
inductive Zbx(F:List Ff.Fm)(r:List Ch)(l:List Od)(day:Int)(ls:List Bs):Rs->Prop where
 |no (x:Rs):x.k≠1->x.ch=[]->(x.k=2↔0<x.ps.length)->x.re≠0->Zbx F r l day ls x
 |found (p q:Pt) (i t:List Pt):i++[q]=p::t->AN l day p=(i++[q],0)->(i++[q]).length<=5->(AW r day q).2=0->(AW r day p).2=0->(∃b∈readAll F ls,b.nu=(AW r day p).1.nu)->Zbx F r l day ls ⟨1,[q],i++[q],0⟩
theorem aU{F:List Ff.Fm}{r:List Ch}{l:List Od}(h:Good F r l)(day:Int)(ls:List Bs){m:Int}(h0:0<=m)(h6:m<=6):Zbx F r l day ls (Ai F r l day ls m):=by
 rw[Cv h day ls h0 h6];split;·exact .no _ (by show(3:Int)≠1;decide) rfl ⟨λh=>absurd h (show ¬(3:Int)=2 by decide),λh=>absurd h (show ¬0<0 by decide)⟩ (by show(1:Int)≠0;decide)
 ·have hM:∀p∈Bw r day (readAll F ls) m,(AW r day p).2=0/\∃b∈readAll F ls,b.nu=(AW r day p).1.nu:=λp hp=>by
   obtain⟨a,ha,s,hs,hnu⟩:=Qh h.r hp;rw[H8 h.r hs];exact⟨rfl,a,ha,hnu⟩
  generalize Bw r day (readAll F ls) m=M at*;have hc:=F4 h.r h.o day M;generalize Dv r l day M=x at hc;have ref:∀e:Int,e≠0->Zbx F r l day ls (ID e):=λe he=>.no _ (by show(3:Int)≠1;decide) rfl ⟨λh=>absurd h (show ¬(3:Int)=2 by decide),λh=>absurd h (show ¬0<0 by decide)⟩ he
  cases hc with
  |none h=>exact ref _ (by decide)
  |E8 AP=>exact .no _ (by show(2:Int)≠1;decide) rfl ⟨λ_=>by show 0<M.length;omega,λ_=>rfl⟩ (by show(81:Int)≠0;decide)
  |LA p e h1 h2 h3=>exact ref _ (by rcases h2 with rfl|rfl<;>decide)
  |gone p q i h1 h2 h3=>exact ref _ (by decide)
  |found p q i t h1 h2 h3 h4 h5 h6=>
   subst h1;obtain⟨k1,k2⟩:=hM p (by simp)
   exact .found p q i t h3 h2 h4 h6 k1 k2
def Zhc(x:Rs)(a b:Ad):List HO:=[.cells [.int .i64 x.k,Tv x.ps,Tv x.ch,.int .i64 x.re]]++List.replicate 30 .dead++[.cells [.str a.pe,.str a.st,.int .i64 a.nu,.str a.co,.str a.tw],.cells [.str b.pe,.str b.st,.int .i64 b.nu,.str b.co,.str b.tw]]
theorem pU(F:List Ff.Fm)(r:List Ch)(l:List Od)(day:Int)(ls:List Bs)(a:Int)(ha:DJ .u8 a):AO Tryz.prog 5 [Vc F,D5 r,Hr l,.int .i64 day,Ff.AQ ls,.int .u8 a] (λx=>x=.bool true):=by
 refine kB Tryz.func5 rfl ?_;refine kC (F1) ?_;refine kC (Ct F r l ls) ?_;refine⟨λh=>?_,λh=>?_⟩
 ·exact GA
 ·have h:FH F r l ls=true:=by simpa using h
  obtain⟨h1,h2,h3⟩:=FG h;obtain⟨a0,a1,w1,m0,m6⟩:=Ie ha;refine kW ?_;refine⟨by decide,?_⟩
  rw[w1];generalize hm:Int.tmod a 7=m at*;refine kW ?_;refine kC (DR h1 day m) ?_;have hp:=aU h2 day ls m0 m6;have hlx:=GU (A5 h1).1 r l day ls m;generalize Ai F r l day ls m=x at*;cases hp with
  |no _ k1 k2 k3 k4=>
   refine⟨λ_=>?_,λh=>absurd (by simpa using h) k1⟩
   refine kW ?_;repeat' (first|(refine And.intro (λ_=>?_) (λ_=>?_)<;>conv=>whnf)|refine Dd ?_|fail)
   all_goals (simp_all)
  |found p q i t hit hf hle hq hpn hb=>
   refine⟨λh=>absurd h (show ¬(!decide ((1:Int)=1))=true by decide),λ_=>?_⟩
   have vO:Wr .i64 (((List.map Pt.v (i++[q])).length:Int)-1)=(i.length:Int):=by
    rw[Ak,DI _ _ (by unfold DJ IntKind.min IntKind.max IntKind.bits IntKind.signed;simp;simp at hle;omega),List.length_append]
    simp
   refine kW ?_;refine Aa.draw [] Ag mO (by kernel_rfl) ?_
   conv=>whnf
   refine⟨λh=>absurd h (show ¬(!decide ((1:Int)=1))=true by decide),λ_=>?_⟩
   conv=>whnf
   refine⟨λh=>absurd (of_decide_eq_true h) (by simp;omega),λ_=>?_⟩
   conv=>whnf
   rw[vO];refine⟨by omega,q.v,by simp,?_⟩
   conv=>whnf
   refine⟨by decide,q.v,rfl,?_⟩
   conv=>whnf
   refine⟨λh=>absurd h (by simp),λ_=>?_⟩
   conv=>whnf
   refine⟨λh=>absurd h (show ¬(!decide ((0:Int)=0))=true by decide),λ_=>?_⟩
   refine kW ?_;have CM:(List.map Pt.v (i++[q]))[0]?=some p.v:=by rw[hit];rfl
   refine⟨by decide,p.v,CM,?_⟩
   refine kW ?_;refine kC (Lp l day p (by have:=(A5 h1).2.2.1;omega)) ?_
   rw[hf];refine kW ?_;refine⟨by decide,q.v,rfl,?_⟩
   refine kW ?_;refine kC (Rr.Dx r day q) ?_;rw[hq];refine kW ?_;refine⟨by decide,p.v,CM,?_⟩
   refine kW ?_;refine kC (Rr.Dx r day p) ?_;rw[hpn];refine⟨λ_=>?_,λh=>absurd h (by simp)⟩
   refine kW ?_;refine⟨λ_=>?_,λh=>absurd h (by simp)⟩
   refine kW ?_;refine⟨λ_=>?_,λh=>absurd h (by simp)⟩
   refine kW ?_;refine kC (Hm (i++[q]) (i++[q]) (by omega) (by omega)) ?_
   rw[decide_eq_true rfl];refine⟨λh=>absurd h (by simp),λ_=>?_⟩
   refine kW ?_;refine Aa.Aw (λk:Nat=>mk 185 [(0,.sl 2 (F.map Ff.Fm.v)),(4,Ff.AQ ls),(13,.bool true),(19,.ptr 32 0),(21,.bool ((readAll (F.take k) ls).any λb=>decide (b.nu=(AW r day p).1.nu))),(22,.int .i64 k)]) (λ_=>Zhc ⟨1,[q],i++[q],0⟩ (AW r day q).1 (AW r day p).1) (λk=>k<=F.length) (λk=>F.length-k) (λ_ _=>?_) ⟨0,?_⟩ (λ_=>rfl) λk hk=>?_
   ·exact⟨rfl,by(conv=>whnf);exact⟨rfl,rfl,rfl,trivial⟩⟩
   ·refine kQ ?_;exact Nat.zero_le _
   ·have Zg4:=(A5 h1).1;refine kR ?_;refine⟨λg=>?_,λg=>?_⟩
    ·have g:k<F.length:=by simpa using g
     have A7:=D4 k (by omega)
     obtain⟨s1,s2,s3,_⟩:=Da ((A5 h1).2.2.2 F[k] (List.getElem_mem g));refine kW ?_;refine⟨by omega,F[k].v,by simp[g],?_⟩
     refine kW ?_;refine kC (Ff.JO F[k] ls s1 (by omega) (λx hx=>by have:=s3 x hx;omega)) ?_
     have Qs:=P9 F[k] ls;have Ql:=JL F ls k g;generalize (Ff.Br F[k] ls).1=A at*;generalize (Ff.Br F[k] ls).2=e at*;generalize hN:(AW r day p).1.nu=N at*
     have aB:(readAll (F.take (k+1)) ls).any (λb=>decide (b.nu=N))=((readAll (F.take k) ls).any (λb=>decide (b.nu=N))||if e=0 then A.any (λb=>decide (b.nu=N))else false):=by
      rw[Ql,Ax];split;·rw[List.any_map];rfl
      ·rfl
     generalize (readAll (F.take k) ls).any (λb=>decide (b.nu=N))=B at*
     refine Aa.Aw (λj:Nat=>mk 185 [(0,.sl 2 (F.map Ff.Fm.v)),(4,Ff.AQ ls),(13,.bool true),(19,.ptr 32 0),(21,.bool (B||(A.take j).any λb=>decide (b.nu=N))),(22,.int .i64 k),(23,.sl 5 (A.map Ff.Ad.v)),(24,.int .i64 e),(25,.int .i64 j)]) (λ_=>Zhc ⟨1,[q],i++[q],0⟩ (AW r day q).1 (AW r day p).1) (λj=>j<=A.length/\(e≠0->j=0)) (λj=>A.length-j) (λ_ _=>?_) ⟨0,?_⟩ (λ_=>rfl) λj hj=>?_
     ·exact⟨rfl,by(conv=>whnf);exact⟨rfl,rfl,rfl,trivial⟩⟩
     ·conv=>whnf
      repeat(refine And.intro ?_ ?_;(focus (first|rfl|(simp;done)|(rw[List.take_zero,List.any_nil,Bool.or_false];done)));conv=>whnf)
      exact λ_=>rfl
     ·obtain⟨hj,he⟩:=hj;refine kR ?_;rw[Ak]
      have done:(A.length<=j\/e≠0)->(B||(A.take j).any λb=>decide (b.nu=N))=(B||if e=0 then A.any (λb=>decide (b.nu=N))else false):=λh=>by
       by_cases h0:e=0;·rw[if_pos h0,List.take_of_length_le (h.resolve_right λh=>h h0)]
       ·rw[if_neg h0,he h0];rfl
      refine⟨λgj=>?_,λgj=>?_⟩
      ·have gj:j<A.length:=by simpa using gj
       refine kW ?_
       refine⟨λge=>?_,λge=>?_⟩
       ·have ge:=of_decide_eq_true ge
        refine kW ?_
        have fX:=D4 j (by omega)
        have Af:(B||(A.take (j+1)).any λb=>decide (b.nu=N))=((B||(A.take j).any λb=>decide (b.nu=N))||decide (A[j].nu=N)):=by
         rw[List.take_succ_eq_append_getElem gj,Ax,<-Bool.or_assoc]
         simp
        generalize (B||(A.take j).any λb=>decide (b.nu=N))=D at*
        refine Aa.draw [] Ag mO (by kernel_rfl) ?_
        conv=>whnf
        refine⟨λhD=>?_,λhD=>?_⟩
        ·refine kW ?_
         refine⟨j+1,?_⟩
         rw[Af,hD]
         refine CV fX ?_
         first|exact⟨⟨by omega,λh=>absurd ge h⟩,by omega⟩|exact⟨by omega,λh=>absurd ge h,by omega⟩
        ·conv=>whnf
         refine⟨by omega,A[j].v,by simp[gj],?_⟩
         conv=>whnf
         rw[hN]
         refine⟨λhq2=>?_,λhq2=>?_⟩
         ·refine kW ?_
          refine⟨j+1,?_⟩
          rw[Af,hD,hq2]
          refine CV fX ?_
          first|exact⟨⟨by omega,λh=>absurd ge h⟩,by omega⟩|exact⟨by omega,λh=>absurd ge h,by omega⟩
         ·refine kW ?_
          refine⟨j+1,?_⟩
          rw[Af,hD,hq2]
          refine CV fX ?_
          first|exact⟨⟨by omega,λh=>absurd ge h⟩,by omega⟩|exact⟨by omega,λh=>absurd ge h,by omega⟩
       ·have ge:=of_decide_eq_false ge
        refine kW ?_
        refine⟨k+1,?_⟩
        rw[done (.inr ge),<-aB]
        refine CV A7 ?_
        exact⟨by omega,by omega⟩
      ·have gj:j=A.length:=by simp at gj;omega
       refine kW ?_
       refine⟨k+1,?_⟩
       rw[done (.inl (by omega)),<-aB]
       refine CV A7 ?_
       exact⟨by omega,by omega⟩
    ·have g:k=F.length:=by simp at g;omega
     rw[g,List.take_length,List.any_eq_true.2 (by obtain⟨b,b1,b2⟩:=hb;exact⟨b,b1,by simpa using b2⟩)]
     refine kW ?_;refine⟨λ_=>?_,λh=>absurd h (by decide)⟩
     exact GA
end Go.Proofs.YtdadkhcdoaeabaaGreatDoor