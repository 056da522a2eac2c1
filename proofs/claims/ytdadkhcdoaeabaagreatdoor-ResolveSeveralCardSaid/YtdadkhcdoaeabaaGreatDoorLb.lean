/- The law of Several. -/
import Derived.Test.YtdadkhcdoaeabaaGreatDoorQv
set_option linter.unusedVariables false
set_option maxRecDepth 100000
set_option linter.unusedSectionVars false
set_option linter.unusedSimpArgs false
namespace Go.Proofs.YtdadkhcdoaeabaaGreatDoor
open Go.Av Go.Shelf Go.RowKit
open Rr.Pl (Pt Ad St Ch Bs Mv HT D5 KD)
open Rr (E6 Ar)
open Rr.Pl (CA AW)
theorem Y3(F:List Ff.Fm)(r:List Ch)(l:List Od)(day:Int)(ls:List Bs)(a:Int)(ha:DJ .u8 a):AO Tryz.prog 7 [Vc F,D5 r,Hr l,.int .i64 day,Ff.AQ ls,.int .u8 a] (λx=>x=.bool true):=by
 refine kB Tryz.func7 rfl ?_;refine kC (F1) ?_;refine kC (Ct F r l ls) ?_;refine⟨λh=>?_,λh=>?_⟩
 ·exact GA
 ·have h:FH F r l ls=true:=by simpa using h
  obtain⟨h1,h2,h3⟩:=FG h;obtain⟨a0,a1,w1,m0,m6⟩:=Ie ha;refine kW ?_;refine⟨by decide,?_⟩
  rw[w1];generalize hm:Int.tmod a 7=m at*;refine kW ?_;refine kC (DR h1 day m) ?_;have hlen:=GU (A5 h1).1 r l day ls m;refine⟨λhk=>?_,λhk=>?_⟩
  ·exact GA
  ·have hk:(Ai F r l day ls m).k=2:=by simpa using hk
   obtain⟨q1,q2,q3,q4,q5⟩:=Vk h2 day ls m0 m6 hk;have Kf:=Hl (A5 h1).1 (A5 h1).1 r l [] day ls m m;rw[<-q5]at Kf;have Gt:=DR (kK h1) day m;rw[<-q5]at Gt;generalize Ai F r l day ls m=x at*;refine kW ?_;refine Aa.Aw (λk:Nat=>mk 135 [(0,Vc F),(1,D5 r),(3,.int .i64 day),(4,Ff.AQ ls),(5,.int .u8 a),(13,.bool true),(14,.ptr 0 0),(15,.int .i64 k)]) (λ_=>[.cells [.int .i64 x.k,Tv x.ps,Tv x.ch,.int .i64 x.re]]) (λk=>k<=x.ps.length) (λk=>x.ps.length-k) (λ_ _=>⟨rfl,rfl,trivial⟩) ⟨0,?_⟩ (λ_=>rfl) λk hk=>?_
   ·refine kQ ?_;exact Nat.zero_le _
   ·refine kR ?_;refine⟨λg=>?_,λg=>?_⟩
    ·have g:k<x.ps.length:=by simpa using g
     have A7:=D4 k (by omega)
     refine kW ?_;refine⟨by omega,x.ps[k].v,by simp[g],?_⟩
     refine kW ?_;refine kC (Rr.Dx r day x.ps[k]) ?_;rw[q1 _ (List.getElem_mem _)];refine kD ?_;refine Aa.draw [] Ag mO (by kernel_rfl) ?_
     conv=>whnf
     refine kD ?_;refine⟨λhp=>?_,λhp=>?_⟩
     ·have hp:0<k:=by have:=of_decide_eq_true hp;omega
      have E5:Wr .i64 ((k:Int)-1)=((k-1:Nat):Int):=by rw[DI _ _ (by unfold DJ IntKind.min IntKind.max IntKind.bits IntKind.signed;simp;omega)];omega
      have AP:=D9.1 (List.pairwise_iff_getElem.1 q2 (k-1) k (by omega) g (by omega))
      conv=>whnf
      refine⟨by omega,x.ps[k].v,by simp[g],?_⟩
      conv=>whnf
      rw[E5];refine⟨by omega,x.ps[k-1].v,by simp[show k-1<x.ps.length by omega],?_⟩
      conv=>whnf
      refine⟨λh=>absurd (of_decide_eq_true h) (by omega),λ_=>?_⟩
      conv=>whnf
      refine⟨by omega,x.ps[k].v,by simp[g],?_⟩
      conv=>whnf
      rw[E5];refine⟨by omega,x.ps[k-1].v,by simp[show k-1<x.ps.length by omega],?_⟩
      conv=>whnf
      refine⟨λhe=>?_,λhe=>?_⟩
      ·have he:=of_decide_eq_true he
       conv=>whnf
       refine⟨by omega,x.ps[k].v,by simp[g],?_⟩
       conv=>whnf
       rw[E5]
       refine⟨by omega,x.ps[k-1].v,by simp[show k-1<x.ps.length by omega],?_⟩
       conv=>whnf
       refine⟨λh=>absurd (of_decide_eq_true h) (by omega),λ_=>?_⟩
       refine kW ?_
       refine⟨k+1,?_⟩
       refine CV A7 ?_
       exact⟨by omega,by omega⟩
      ·have he:=of_decide_eq_false he
       refine kW ?_
       refine⟨k+1,?_⟩
       refine CV A7 ?_
       exact⟨by omega,by omega⟩
     ·conv=>whnf
      refine kW ?_;refine⟨k+1,?_⟩;refine CV A7 ?_;exact⟨by omega,by omega⟩
    ·refine kW ?_;refine Aa.draw [] Ag mO (by kernel_rfl) ?_
     conv=>whnf
     refine kD ?_;refine⟨λ_=>?_,λh=>absurd (of_decide_eq_false h) (by rw[List.length_map];omega)⟩
     conv=>whnf
     refine⟨λ_=>?_,λh=>absurd q4 (of_decide_eq_false h)⟩
     conv=>whnf
     refine⟨by decide,?_⟩
     rw[w1,hm];conv=>whnf
     refine⟨6,?_⟩;conv=>whnf
     refine⟨_,⟨Gt,rfl⟩,?_⟩;conv=>whnf
     refine⟨_,⟨Kf,rfl⟩,?_⟩;conv=>whnf
     refine⟨λ_=>?_,λh=>absurd rfl (of_decide_eq_false h)⟩
     exact GA
end Go.Proofs.YtdadkhcdoaeabaaGreatDoor