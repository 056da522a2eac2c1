/- The law of Found: plain. -/
import Derived.Test.YtdadkhcdoaeabaaGreatDoorQw
set_option linter.unusedVariables false
set_option maxRecDepth 100000
open And renaming intro → Ao
open Go.IntKind renaming signed → Aq, bits → AO, min → Ba, max → Bc
open List renaming length_map → AZ, any_append → Bh
namespace Go.Proofs.YtdadkhcdoaeabaaGreatDoor
open Go.Av Go.Shelf Go.RowKit
open Rr.Pl (Pt Ad St Ch Bs My Mw E6 Lq)
open Rr (JH AY)
open Rr.Pl (DD Bm)
inductive xB(F:List Ff.Fm)(r:List Ch)(l:List Od)(day:Int)(ls:List Bs):Rs→Prop where
 |no (x:Rs):x.k≠1→x.ch=[]→(x.k=2↔0<x.ps.length)→x.re≠0→xB F r l day ls x
 |found (p q:Pt) (i t:List Pt):i++[q]=p::t→AW l day p=(i++[q],0)→(i++[q]).length≤5→(Bm r day q).2=0→(Bm r day p).2=0→(∃b∈readAll F ls,b.nu=(Bm r day p).1.nu)→xB F r l day ls ⟨1,[q],i++[q],0⟩
theorem YC{F:List Ff.Fm}{r:List Ch}{l:List Od}(h:Good F r l)(day:Int)(ls:List Bs){m:Int}(h0:0≤m)(h6:m≤6):xB F r l day ls (An F r l day ls m):=by
 rw[Dh h day ls h0 h6];split;·exact .no _ (by show(3:Int)≠1;decide) rfl ⟨λh=>absurd h (show ¬(3:Int)=2 by decide),λh=>absurd h (show ¬0<0 by decide)⟩ (by show(1:Int)≠0;decide)
 ·have hM:∀p∈B3 r day (readAll F ls) m,(Bm r day p).2=0∧∃b∈readAll F ls,b.nu=(Bm r day p).1.nu:=λp hp=>by
   obtain⟨a,ha,s,hs,hnu⟩:=UP h.r hp;rw[Pz h.r hs];exact⟨rfl,a,ha,hnu⟩
  generalize B3 r day (readAll F ls) m=M at*;have hc:=Jd h.r h.o day M;generalize DS r l day M=x at hc;have ref:∀e:Int,e≠0→xB F r l day ls (Ii e):=λe he=>.no _ (by show(3:Int)≠1;decide) rfl ⟨λh=>absurd h (show ¬(3:Int)=2 by decide),λh=>absurd h (show ¬0<0 by decide)⟩ he
  cases hc with
  |none h=>exact ref _ (by decide)
  |MR AR=>exact .no _ (by show(2:Int)≠1;decide) rfl ⟨λ_=>by show 0<M.length;omega,λ_=>rfl⟩ (by show(81:Int)≠0;decide)
  |O4 p e h1 h2 h3=>exact ref _ (by rcases h2 with rfl|rfl<;>decide)
  |gone p q i h1 h2 h3=>exact ref _ (by decide)
  |found p q i t h1 h2 h3 h4 h5 h6=>
   subst h1;obtain⟨k1,k2⟩:=hM p (by simp)
   exact .found p q i t h3 h2 h4 h6 k1 k2
def ZdJ(x:Rs)(a b:Ad):List HO:=[.cells [.int .i64 x.k,VD x.ps,VD x.ch,.int .i64 x.re]]++List.replicate 30 .dead++[.cells [.str a.pe,.str a.st,.int .i64 a.nu,.str a.co,.str a.tw],.cells [.str b.pe,.str b.st,.int .i64 b.nu,.str b.co,.str b.tw]]
theorem kO(F:List Ff.Fm)(r:List Ch)(l:List Od)(day:Int)(ls:List Bs)(a:Int)(ha:DF .u8 a):Aw Tryz.prog 5 [Zc F,E6 r,H7 l,.int .i64 day,Ff.A3 ls,.int .u8 a] (λx=>x=.bool true):=by
 refine Aw.Ai Tryz.func5 rfl Ae (by kernel_rfl) ?_
 conv=>whnf
 repeat(refine sT rfl ?_;conv=>whnf)
 refine cS (Iw) rfl ?_;conv=>whnf
 repeat(refine sT rfl ?_;conv=>whnf)
 refine cS (Dg F r l ls) rfl ?_;conv=>whnf
 repeat(refine sT rfl ?_;conv=>whnf)
 refine⟨λh=>?_,λh=>?_⟩
 ·conv=>whnf
  repeat(refine sT rfl ?_;conv=>whnf)
 ·have h:F7 F r l ls=true:=by simpa using h
  obtain⟨h1,h2,h3⟩:=GN h;obtain⟨a0,a1,w1,m0,m6⟩:=QS ha;conv=>whnf
  repeat(refine sT rfl ?_;conv=>whnf)
  refine⟨by decide,?_⟩
  rw[w1];generalize hm:Int.tmod a 7=m at*;conv=>whnf
  repeat(refine sT rfl ?_;conv=>whnf)
  refine cS (Em h1 day m) rfl ?_;conv=>whnf
  repeat(refine sT rfl ?_;conv=>whnf)
  have hp:=YC h2 day ls m0 m6;have hlx:=IV (Bp h1).1 r l day ls m;generalize An F r l day ls m=x at*;cases hp with
  |no _ k1 k2 k3 k4=>
   refine⟨λ_=>?_,λh=>absurd (by simpa using h) k1⟩
   conv=>whnf
   repeat(refine sT rfl ?_;conv=>whnf)
   repeat' (first|(refine Ao (λ_=>?_) (λ_=>?_)<;>conv=>whnf)|(refine sT rfl ?_;conv=>whnf))
   all_goals (simp_all)
  |found p q i t hit hf hle hq hpn hb=>
   refine⟨λh=>absurd h (show ¬(!decide ((1:Int)=1))=true by decide),λ_=>?_⟩
   have pV:Wr .i64 (((List.map Pt.v (i++[q])).length:Int)-1)=(i.length:Int):=by
    rw[AZ,Cy _ _ (by unfold DF Ba Bc AO Aq;simp;simp at hle;omega),List.length_append]
    simp
   conv=>whnf
   repeat(refine sT rfl ?_;conv=>whnf)
   refine Ac.draw [] Ae mO (by kernel_rfl) ?_
   conv=>whnf
   refine⟨λh=>absurd h (show ¬(!decide ((1:Int)=1))=true by decide),λ_=>?_⟩
   conv=>whnf
   refine⟨λh=>absurd (of_decide_eq_true h) (by simp;omega),λ_=>?_⟩
   conv=>whnf
   rw[pV];refine⟨by omega,q.v,by simp,?_⟩
   conv=>whnf
   refine⟨by decide,q.v,rfl,?_⟩
   conv=>whnf
   refine⟨λh=>absurd h (by simp),λ_=>?_⟩
   conv=>whnf
   refine⟨λh=>absurd h (show ¬(!decide ((0:Int)=0))=true by decide),λ_=>?_⟩
   conv=>whnf
   repeat(refine sT rfl ?_;conv=>whnf)
   have D6:(List.map Pt.v (i++[q]))[0]?=some p.v:=by rw[hit];rfl
   refine⟨by decide,p.v,D6,?_⟩
   conv=>whnf
   repeat(refine sT rfl ?_;conv=>whnf)
   refine cS (Ks l day p (by have:=(Bp h1).2.2.1;omega)) rfl ?_;conv=>whnf
   repeat(refine sT rfl ?_;conv=>whnf)
   rw[hf];conv=>whnf
   repeat(refine sT rfl ?_;conv=>whnf)
   refine⟨by decide,q.v,rfl,?_⟩
   conv=>whnf
   repeat(refine sT rfl ?_;conv=>whnf)
   refine cS (Rr.FD r day q) rfl ?_;conv=>whnf
   repeat(refine sT rfl ?_;conv=>whnf)
   rw[hq];conv=>whnf
   repeat(refine sT rfl ?_;conv=>whnf)
   refine⟨by decide,p.v,D6,?_⟩
   conv=>whnf
   repeat(refine sT rfl ?_;conv=>whnf)
   refine cS (Rr.FD r day p) rfl ?_;conv=>whnf
   repeat(refine sT rfl ?_;conv=>whnf)
   rw[hpn];refine⟨λ_=>?_,λh=>absurd h (by simp)⟩
   conv=>whnf
   repeat(refine sT rfl ?_;conv=>whnf)
   refine⟨λ_=>?_,λh=>absurd h (by simp)⟩
   conv=>whnf
   repeat(refine sT rfl ?_;conv=>whnf)
   refine⟨λ_=>?_,λh=>absurd h (by simp)⟩
   conv=>whnf
   repeat(refine sT rfl ?_;conv=>whnf)
   refine cS (G0 (i++[q]) (i++[q]) (by omega) (by omega)) rfl ?_;conv=>whnf
   repeat(refine sT rfl ?_;conv=>whnf)
   rw[decide_eq_true rfl];refine⟨λh=>absurd h (by simp),λ_=>?_⟩
   conv=>whnf
   repeat(refine sT rfl ?_;conv=>whnf)
   refine Ac.AJ (λk:Nat=>mk 185 [(0,.sl 2 (F.map Ff.Fm.v)),(4,Ff.A3 ls),(13,.bool true),(19,.ptr 32 0),(21,.bool ((readAll (F.take k) ls).any λb=>decide (b.nu=(Bm r day p).1.nu))),(22,.int .i64 k)]) (λ_=>ZdJ ⟨1,[q],i++[q],0⟩ (Bm r day q).1 (Bm r day p).1) (λk=>k≤F.length) (λk=>F.length-k) (λ_ _=>?_) ⟨0,?_⟩ (λ_=>rfl) λk hk=>?_
   ·exact⟨rfl,by(conv=>whnf);exact⟨rfl,rfl,rfl,trivial⟩⟩
   ·conv=>whnf
    repeat(refine Ao ?_ ?_;(focus (first|rfl|(simp;done)));conv=>whnf)
    exact Nat.zero_le _
   ·have Zi0:=(Bp h1).1;repeat(refine sT rfl ?_;conv=>whnf)
    refine⟨λg=>?_,λg=>?_⟩
    ·have g:k<F.length:=by simpa using g
     have Bj:Wr .i64 ((k:Int)+1)=((k+1:Nat):Int):=by rw[Cy _ _ (by unfold DF Ba Bc AO Aq;simp;omega)];rfl
     obtain⟨s1,s2,s3,_⟩:=ID ((Bp h1).2.2.2 F[k] (List.getElem_mem g));conv=>whnf
     repeat(refine sT rfl ?_;conv=>whnf)
     refine⟨by omega,F[k].v,by simp[g],?_⟩
     conv=>whnf
     repeat(refine sT rfl ?_;conv=>whnf)
     refine cS (Ff.RG F[k] ls s1 (by omega) (λx hx=>by have:=s3 x hx;omega)) rfl ?_;conv=>whnf
     repeat(refine sT rfl ?_;conv=>whnf)
     have Zdt:=OA F[k] ls;have Qy:=I3 F ls k g;generalize (Ff.Ca F[k] ls).1=A at*;generalize (Ff.Ca F[k] ls).2=e at*;generalize hN:(Bm r day p).1.nu=N at*
     have Yh:(readAll (F.take (k+1)) ls).any (λb=>decide (b.nu=N))=((readAll (F.take k) ls).any (λb=>decide (b.nu=N))||if e=0 then A.any (λb=>decide (b.nu=N))else false):=by
      rw[Qy,Bh];split;·rw[List.any_map];rfl
      ·rfl
     generalize (readAll (F.take k) ls).any (λb=>decide (b.nu=N))=B at*
     refine Ac.AJ (λj:Nat=>mk 185 [(0,.sl 2 (F.map Ff.Fm.v)),(4,Ff.A3 ls),(13,.bool true),(19,.ptr 32 0),(21,.bool (B||(A.take j).any λb=>decide (b.nu=N))),(22,.int .i64 k),(23,.sl 5 (A.map Ff.Ad.v)),(24,.int .i64 e),(25,.int .i64 j)]) (λ_=>ZdJ ⟨1,[q],i++[q],0⟩ (Bm r day q).1 (Bm r day p).1) (λj=>j≤A.length∧(e≠0→j=0)) (λj=>A.length-j) (λ_ _=>?_) ⟨0,?_⟩ (λ_=>rfl) λj hj=>?_
     ·exact⟨rfl,by(conv=>whnf);exact⟨rfl,rfl,rfl,trivial⟩⟩
     ·conv=>whnf
      repeat(refine Ao ?_ ?_;(focus (first|rfl|(simp;done)|(rw[List.take_zero,List.any_nil,Bool.or_false];done)));conv=>whnf)
      exact λ_=>rfl
     ·obtain⟨hj,he⟩:=hj;repeat(refine sT rfl ?_;conv=>whnf)
      rw[AZ]
      have done:(A.length≤j∨e≠0)→(B||(A.take j).any λb=>decide (b.nu=N))=(B||if e=0 then A.any (λb=>decide (b.nu=N))else false):=λh=>by
       by_cases h0:e=0;·rw[if_pos h0,List.take_of_length_le (h.resolve_right λh=>h h0)]
       ·rw[if_neg h0,he h0];rfl
      refine⟨λgj=>?_,λgj=>?_⟩
      ·have gj:j<A.length:=by simpa using gj
       conv=>whnf
       repeat(refine sT rfl ?_;conv=>whnf)
       refine⟨λge=>?_,λge=>?_⟩
       ·have ge:=of_decide_eq_true ge
        conv=>whnf
        repeat(refine sT rfl ?_;conv=>whnf)
        have bB:Wr .i64 ((j:Int)+1)=((j+1:Nat):Int):=by rw[Cy _ _ (by unfold DF Ba Bc AO Aq;simp;omega)];rfl
        have Ah:(B||(A.take (j+1)).any λb=>decide (b.nu=N))=((B||(A.take j).any λb=>decide (b.nu=N))||decide (A[j].nu=N)):=by
         rw[List.take_succ_eq_append_getElem gj,Bh,←Bool.or_assoc]
         simp
        generalize (B||(A.take j).any λb=>decide (b.nu=N))=D at*
        refine Ac.draw [] Ae mO (by kernel_rfl) ?_
        conv=>whnf
        refine⟨λhD=>?_,λhD=>?_⟩
        ·conv=>whnf
         repeat(refine sT rfl ?_;conv=>whnf)
         refine⟨j+1,?_⟩
         rw[Ah,hD]
         conv=>whnf
         repeat(refine Ao ?_ ?_;(focus (first|rfl|(simp;done)|(first|exact bB;done)));conv=>whnf)
         first|exact⟨⟨by omega,λh=>absurd ge h⟩,by omega⟩|exact⟨by omega,λh=>absurd ge h,by omega⟩
        ·conv=>whnf
         refine⟨by omega,A[j].v,by simp[gj],?_⟩
         conv=>whnf
         rw[hN]
         refine⟨λhq2=>?_,λhq2=>?_⟩
         ·conv=>whnf
          repeat(refine sT rfl ?_;conv=>whnf)
          refine⟨j+1,?_⟩
          rw[Ah,hD,hq2]
          conv=>whnf
          repeat(refine Ao ?_ ?_;(focus (first|rfl|(simp;done)|(first|exact bB;done)));conv=>whnf)
          first|exact⟨⟨by omega,λh=>absurd ge h⟩,by omega⟩|exact⟨by omega,λh=>absurd ge h,by omega⟩
         ·conv=>whnf
          repeat(refine sT rfl ?_;conv=>whnf)
          refine⟨j+1,?_⟩
          rw[Ah,hD,hq2]
          conv=>whnf
          repeat(refine Ao ?_ ?_;(focus (first|rfl|(simp;done)|(first|exact bB;done)));conv=>whnf)
          first|exact⟨⟨by omega,λh=>absurd ge h⟩,by omega⟩|exact⟨by omega,λh=>absurd ge h,by omega⟩
       ·have ge:=of_decide_eq_false ge
        conv=>whnf
        repeat(refine sT rfl ?_;conv=>whnf)
        refine⟨k+1,?_⟩
        rw[done (.inr ge),←Yh]
        conv=>whnf
        repeat(refine Ao ?_ ?_;(focus (first|rfl|(simp;done)|(first|exact Bj;done)));conv=>whnf)
        exact⟨by omega,by omega⟩
      ·have gj:j=A.length:=by simp at gj;omega
       conv=>whnf
       repeat(refine sT rfl ?_;conv=>whnf)
       refine⟨k+1,?_⟩
       rw[done (.inl (by omega)),←Yh]
       conv=>whnf
       repeat(refine Ao ?_ ?_;(focus (first|rfl|(simp;done)|(first|exact Bj;done)));conv=>whnf)
       exact⟨by omega,by omega⟩
    ·have g:k=F.length:=by simp at g;omega
     rw[g,List.take_length,List.any_eq_true.2 (by obtain⟨b,b1,b2⟩:=hb;exact⟨b,b1,by simpa using b2⟩)]
     conv=>whnf
     repeat(refine sT rfl ?_;conv=>whnf)
     refine⟨λ_=>?_,λh=>absurd h (by decide)⟩
     conv=>whnf
     repeat(refine sT rfl ?_;conv=>whnf)
end Go.Proofs.YtdadkhcdoaeabaaGreatDoor