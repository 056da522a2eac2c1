/- The law of Several. -/
import Derived.Test.YtdadkhcdoaeabaaGreatDoorQw
set_option linter.unusedVariables false
set_option maxRecDepth 100000
open And renaming intro → Ah
open Go.IntKind renaming signed → Ao, bits → Aq, min → AO, max → AZ
namespace Go.Proofs.YtdadkhcdoaeabaaGreatDoor
open Go.Av Go.Shelf Go.RowKit
open Rr.Pl (Pt Ad St Ch Bs My Mw E6 Lq)
open Rr (JH AY)
open Rr.Pl (DD Bm)
theorem W8(F:List Ff.Fm)(r:List Ch)(l:List Od)(day:Int)(ls:List Bs)(a:Int)(ha:DF .u8 a):Aw Tryz.prog 7 [Zc F,E6 r,H7 l,.int .i64 day,Ff.A3 ls,.int .u8 a] (λx=>x=.bool true):=by
 refine Aw.Ai Tryz.func7 rfl Ae (by kernel_rfl) ?_
 conv=>whnf
 repeat(refine sT rfl ?_;conv=>whnf)
 refine cS (Iw) rfl ?_;conv=>whnf
 repeat(refine sT rfl ?_;conv=>whnf)
 refine cS (Dg F r l ls) rfl ?_;conv=>whnf
 repeat(refine sT rfl ?_;conv=>whnf)
 refine⟨λh=>?_,λh=>?_⟩
 ·conv=>whnf
  repeat(refine sT rfl ?_;conv=>whnf)
 ·have h:F7 F r l ls=true:=by simpa using h
  obtain⟨h1,h2,h3⟩:=GN h;obtain⟨a0,a1,w1,m0,m6⟩:=QS ha;conv=>whnf
  repeat(refine sT rfl ?_;conv=>whnf)
  refine⟨by decide,?_⟩
  rw[w1];generalize hm:Int.tmod a 7=m at*;conv=>whnf
  repeat(refine sT rfl ?_;conv=>whnf)
  refine cS (Em h1 day m) rfl ?_;conv=>whnf
  repeat(refine sT rfl ?_;conv=>whnf)
  have hlen:=IV (Bp h1).1 r l day ls m;refine⟨λhk=>?_,λhk=>?_⟩
  ·conv=>whnf
   repeat(refine sT rfl ?_;conv=>whnf)
  ·have hk:(An F r l day ls m).k=2:=by simpa using hk
   obtain⟨q1,q2,q3,q4,q5⟩:=Tz h2 day ls m0 m6 hk;have Ju:=GZ (Bp h1).1 (Bp h1).1 r l [] day ls m m;rw[←q5]at Ju;have Ho:=Em (eL h1) day m;rw[←q5]at Ho;generalize An F r l day ls m=x at*;conv=>whnf
   repeat(refine sT rfl ?_;conv=>whnf)
   refine Ac.AJ (λk:Nat=>mk 135 [(0,Zc F),(1,E6 r),(3,.int .i64 day),(4,Ff.A3 ls),(5,.int .u8 a),(13,.bool true),(14,.ptr 0 0),(15,.int .i64 k)]) (λ_=>[.cells [.int .i64 x.k,VD x.ps,VD x.ch,.int .i64 x.re]]) (λk=>k≤x.ps.length) (λk=>x.ps.length-k) (λ_ _=>⟨rfl,rfl,trivial⟩) ⟨0,?_⟩ (λ_=>rfl) λk hk=>?_
   ·conv=>whnf
    repeat(refine Ah ?_ ?_;(focus (first|rfl|(simp;done)));conv=>whnf)
    exact Nat.zero_le _
   ·repeat(refine sT rfl ?_;conv=>whnf)
    refine⟨λg=>?_,λg=>?_⟩
    ·have g:k<x.ps.length:=by simpa using g
     have Bj:Wr .i64 ((k:Int)+1)=((k+1:Nat):Int):=by rw[Cy _ _ (by unfold DF AO AZ Aq Ao;simp;omega)];rfl
     conv=>whnf
     repeat(refine sT rfl ?_;conv=>whnf)
     refine⟨by omega,x.ps[k].v,by simp[g],?_⟩
     conv=>whnf
     repeat(refine sT rfl ?_;conv=>whnf)
     refine cS (Rr.FD r day x.ps[k]) rfl ?_;conv=>whnf
     repeat(refine sT rfl ?_;conv=>whnf)
     rw[q1 _ (List.getElem_mem _)];repeat(first|((first|refine⟨λ_=>?_,λh=>absurd h (by decide +kernel)⟩|refine⟨λh=>absurd h (by decide +kernel),λ_=>?_⟩|refine⟨by decide,_,rfl,?_⟩);conv=>whnf)|(refine sT rfl ?_;conv=>whnf))
     refine Ac.draw [] Ae mO (by kernel_rfl) ?_
     conv=>whnf
     repeat(first|((first|refine⟨λ_=>?_,λh=>absurd h (by decide +kernel)⟩|refine⟨λh=>absurd h (by decide +kernel),λ_=>?_⟩|refine⟨by decide,_,rfl,?_⟩);conv=>whnf)|(refine sT rfl ?_;conv=>whnf))
     refine⟨λhp=>?_,λhp=>?_⟩
     ·have hp:0<k:=by have:=of_decide_eq_true hp;omega
      have Gf:Wr .i64 ((k:Int)-1)=((k-1:Nat):Int):=by rw[Cy _ _ (by unfold DF AO AZ Aq Ao;simp;omega)];omega
      have AR:=D4.1 (List.pairwise_iff_getElem.1 q2 (k-1) k (by omega) g (by omega))
      conv=>whnf
      refine⟨by omega,x.ps[k].v,by simp[g],?_⟩
      conv=>whnf
      rw[Gf];refine⟨by omega,x.ps[k-1].v,by simp[show k-1<x.ps.length by omega],?_⟩
      conv=>whnf
      refine⟨λh=>absurd (of_decide_eq_true h) (by omega),λ_=>?_⟩
      conv=>whnf
      refine⟨by omega,x.ps[k].v,by simp[g],?_⟩
      conv=>whnf
      rw[Gf];refine⟨by omega,x.ps[k-1].v,by simp[show k-1<x.ps.length by omega],?_⟩
      conv=>whnf
      refine⟨λhe=>?_,λhe=>?_⟩
      ·have he:=of_decide_eq_true he
       conv=>whnf
       refine⟨by omega,x.ps[k].v,by simp[g],?_⟩
       conv=>whnf
       rw[Gf]
       refine⟨by omega,x.ps[k-1].v,by simp[show k-1<x.ps.length by omega],?_⟩
       conv=>whnf
       refine⟨λh=>absurd (of_decide_eq_true h) (by omega),λ_=>?_⟩
       conv=>whnf
       repeat(refine sT rfl ?_;conv=>whnf)
       refine⟨k+1,?_⟩
       conv=>whnf
       repeat(refine Ah ?_ ?_;(focus (first|rfl|(simp;done)|(first|exact Bj;done)));conv=>whnf)
       exact⟨by omega,by omega⟩
      ·have he:=of_decide_eq_false he
       conv=>whnf
       repeat(refine sT rfl ?_;conv=>whnf)
       refine⟨k+1,?_⟩
       conv=>whnf
       repeat(refine Ah ?_ ?_;(focus (first|rfl|(simp;done)|(first|exact Bj;done)));conv=>whnf)
       exact⟨by omega,by omega⟩
     ·conv=>whnf
      conv=>whnf
      repeat(refine sT rfl ?_;conv=>whnf)
      refine⟨k+1,?_⟩;conv=>whnf
      repeat(refine Ah ?_ ?_;(focus (first|rfl|(simp;done)|(first|exact Bj;done)));conv=>whnf)
      exact⟨by omega,by omega⟩
    ·conv=>whnf
     repeat(refine sT rfl ?_;conv=>whnf)
     refine Ac.draw [] Ae mO (by kernel_rfl) ?_
     conv=>whnf
     repeat(first|((first|refine⟨λ_=>?_,λh=>absurd h (by decide +kernel)⟩|refine⟨λh=>absurd h (by decide +kernel),λ_=>?_⟩|refine⟨by decide,_,rfl,?_⟩);conv=>whnf)|(refine sT rfl ?_;conv=>whnf))
     refine⟨λ_=>?_,λh=>absurd (of_decide_eq_false h) (by rw[List.length_map];omega)⟩
     conv=>whnf
     refine⟨λ_=>?_,λh=>absurd q4 (of_decide_eq_false h)⟩
     conv=>whnf
     refine⟨by decide,?_⟩
     rw[w1,hm];conv=>whnf
     refine⟨6,?_⟩;conv=>whnf
     refine⟨_,⟨Ho,rfl⟩,?_⟩;conv=>whnf
     refine⟨_,⟨Ju,rfl⟩,?_⟩;conv=>whnf
     refine⟨λ_=>?_,λh=>absurd rfl (of_decide_eq_false h)⟩
     conv=>whnf
     repeat(refine sT rfl ?_;conv=>whnf)
end Go.Proofs.YtdadkhcdoaeabaaGreatDoor