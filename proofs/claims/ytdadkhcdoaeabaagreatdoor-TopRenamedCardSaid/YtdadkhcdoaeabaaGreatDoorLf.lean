/- The law of Delivers. -/
import Derived.Test.YtdadkhcdoaeabaaGreatDoorQy
set_option linter.unusedVariables false
set_option maxRecDepth 100000
set_option linter.unusedSectionVars false
set_option linter.unusedSimpArgs false
open Bool renaming and_eq_true → Af
open List renaming getElem_mem → Ak, length_map → AP
open And renaming intro → Ax
namespace Go.Proofs.YtdadkhcdoaeabaaGreatDoor
open Go.Av Go.Shelf Go.RowKit
open Rr.Pl (Pt Ad St Ch Bs Mv HT D5 KD)
open Rr (E6 Ar)
open Rr.Pl (CA AW)
theorem Zed{l:List AV}{r:List Ch}(h:l=List.map Ch.v r):∀e∈l,closed e=true:=by
 subst h;intro e he;obtain⟨c,_,rfl⟩:=List.mem_map.1 he;rfl
def ZkQ(n:Nt)(p:Pt)(a:Ad):List HO:=[.cells [.sl 3 n.x1,.sl 1 n.x2,.sl 1 n.x3,.sl 7 (n.O.map Of.v),.sl 6 n.x5,.sl 3 n.x6],.cells [.int .i64 p.s,.int .i64 p.n],.cells [.str a.pe,.str a.st,.int .i64 a.nu,.str a.co,.str a.tw]]++List.replicate 20 .dead
theorem Yb(n:Nt)(r:List Ch)(day:Int)(p:Pt)(t:Bs)(k:Int)(hk:DJ .i8 k)(hn:n.O.length<=9223372036854775807):AO Tryz.prog 9 [n.v,D5 r,.int .i64 day,p.v,.str t,.int .i8 k] (λx=>x=.bool true):=by
 refine kB Tryz.func9 rfl ?_;refine kC (F1) ?_;refine kC (Rr.J5 r) ?_;refine⟨λh=>?_,λh=>?_⟩;rotate_left
 ·exact GA
 have hs:(Rr.Pl.Ca r&&Ar r)=true:=by simpa using h
 clear h;refine kW ?_;refine kC (XA n hn) ?_;refine⟨λh=>?_,λh=>?_⟩
 ·exact GA
 have ho:Ja n.O=true:=by simpa using h
 clear h;have hr:Ar r=true:=by rw[Af]at hs;exact hs.2
 obtain⟨o1,o2⟩:n.O.length<=20/\∀o∈n.O,o.co.length<=20:=by
  unfold Ja at ho;simpa using ho
 refine kW ?_;refine kC (G5 n r day p (by omega) (λo h=>by have:=o2 o h;omega)) ?_
 refine kC (Rr.Dx r day p) ?_;by_cases hp:(AW r day p).2=0;rotate_left
 ·have hd:Yc n.O r day p=-1:=by unfold Yc;rw[if_pos hp]
  rw[hd];refine⟨λ_=>?_,λh=>absurd h (by simp[hp])⟩
  refine kW ?_;refine Ax (λh=>?_) (λh=>absurd h (by simp))
  conv=>whnf
  refine kW ?_;rfl
 ·refine⟨λh=>absurd h (by simp[hp]),λ_=>?_⟩
  have Zgz:=λ(t:Bs) (k:Int)=>UN n.O hr hp (t:=t) (k:=k)
  have Um:AW r day p=((AW r day p).1,0):=Prod.ext rfl hp;have ZgV:=QF (O:=n.O) Um;have hc:=fV (ZdS (AW r day p).1.co) n.O;rw[<-ZgV]at hc;generalize (AW r day p).1=a at*;generalize hdd:Yc n.O r day p=d at*
  have hb:∀j (hj:j<n.O.length),(d=-1\/(j:Int)<d)->(n.O[j].co.any λx=>decide (x=a.co))=false:=λj hj h=>by
   rcases hc with⟨_,h2⟩|⟨k,hk,h1,_,h2⟩;·exact h2 _ (Ak hj)
   ·exact h2 j hj (by omega)
  have hy:0<=d->∃hk:d.toNat<n.O.length,(n.O[d.toNat].co.any λx=>decide (x=a.co))=true:=λh=>by
   rcases hc with⟨h1,_⟩|⟨k,hk,h1,h2,_⟩;·omega
   ·obtain rfl:d.toNat=k:=by omega
    exact⟨hk,h2⟩
  have Qt:-1<=d/\d<n.O.length:=by rcases hc with⟨h,_⟩|⟨k,hk,h,_⟩<;>omega
  clear hc ZgV;refine kW ?_;refine Aa.draw [] Ag mO (by kernel_rfl) ?_
  conv=>whnf
  refine⟨λh=>absurd (of_decide_eq_true h) (by rw[AP];omega),λ_=>?_⟩
  conv=>whnf
  refine⟨λh0=>?_,λh0=>?_⟩
  have h0:=of_decide_eq_true h0;obtain⟨lH,lG⟩:=hy h0;conv=>whnf
  refine⟨by omega,n.O[d.toNat].v,by simp[lH],?_⟩
  conv=>whnf
  refine⟨_,⟨aJ n.O[d.toNat] a.co (by have:=o2 _ (Ak lH);omega),rfl⟩,?_⟩
  conv=>whnf
  rw[lG];refine Ax (λh=>?_) (λh=>absurd h (by simp))
  conv=>whnf
  refine kW ?_;rotate_left
  have h0:=of_decide_eq_false h0;refine kW ?_
  all_goals
   refine Aa.Aw (λi:Nat=>mk 121 [(0,n.v),(1,D5 r),(2,.int .i64 day),(4,.str t),(5,.int .i8 k),(6,.ptr 0 0),(9,.ptr 1 0),(13,.bool true),(14,.int .i64 d),(15,.ptr 2 0),(17,.int .i64 i)]) (λ_=>ZkQ n p a) (λi=>i<=n.O.length/\(d=-1\/(i:Int)<=d)) (λi=>n.O.length-i) (λ_ _=>⟨rfl,by(conv=>whnf);exact⟨rfl,rfl,rfl,trivial⟩⟩) ⟨0,?_⟩ (λ_=>rfl) λi hi=>?_
   ·refine kQ ?_;omega
   ·obtain⟨hi,hid⟩:=hi;refine kR ?_;rw[AP];refine⟨λg=>?_,λg=>?_⟩
    rotate_left
    refine kW ?_;rotate_left
    have g:i<n.O.length:=by have:=of_decide_eq_true g;omega
    have A7:=D4 i (by omega)
    refine kW ?_;refine⟨λgd=>?_,λgd=>?_⟩
    ·have gd:¬(i:Int)=d:=by simpa using gd
     have hbi:=hb i g (by omega)
     refine kW ?_;refine Aa.draw [] Ag mO (by kernel_rfl) ?_
     conv=>whnf
     refine⟨by omega,n.O[i].v,by simp[g],?_⟩
     conv=>whnf
     refine⟨_,⟨aJ n.O[i] a.co (by have:=o2 _ (Ak g);omega),rfl⟩,?_⟩
     conv=>whnf
     rw[hbi];refine Ax (λh=>absurd h (by simp)) (λh=>?_)
     conv=>whnf
     refine kW ?_;refine⟨i+1,?_⟩;refine CV A7 ?_;exact⟨⟨by omega,by omega⟩,by omega⟩
    refine kW ?_
    all_goals
     refine Aa.wS [0,1,3,4,5,6,7,8,9,10,11,12,13,14,2,15,16] [14] [2,15] [3,4,5,6,7,8,9,10,11,12,13,14] Ag mO (by kernel_rfl) ?_
     conv=>whnf
     repeat(first|(refine⟨rfl,?_⟩;(conv=>whnf);refine⟨⟨rfl,rfl⟩,?_⟩;(conv=>whnf)))
     have hrl:r.length<=70:=by
      rw[Af]at hs;have:=hs.1;unfold Rr.Pl.Ca at this;rw[Af]at this;exact of_decide_eq_true this.1
     refine⟨⟨rfl,by simp;omega⟩,?_⟩
     conv=>whnf
     refine⟨⟨rfl,by simp;omega⟩,?_⟩
     conv=>whnf
     have em:[]++List.map Ch.v r++[AV.agg [.int .i64 day,.int .i64 2,.int .i64 p.s,.str [],.str [],.str t,.int .i64 0,.int .i64 0,.int .i64 0],AV.agg [.int .i64 day,.int .i64 4,.int .i64 p.s,.str [],.str [],.str [],.int .i64 0,.int .i64 0,.int .i64 (Wr .i64 k)]]=List.map Ch.v (r++[R9 day p.s t,Y2 day p.s (Wr .i64 k)]):=by simp[R9,Y2,Ch.v]
     refine Aa.freeze 23 ?_;conv=>whnf
     refine⟨Zed em,?_⟩;conv=>whnf
     repeat(refine⟨(by first|rfl|(simp;done):(_:Nat)=_),?_⟩;conv=>whnf)
     rw[em];clear em;have hm:=Zgz t (Wr .i64 k);generalize r++[R9 day p.s t,Y2 day p.s (Wr .i64 k)]=more at hm⊢;refine kR ?_;refine kC (Rr.J5 more) ?_;refine Ax (λh=>?_) (λh=>absurd h (by simp))
     conv=>whnf
     conv=>whnf
     refine⟨λh1=>?_,λh1=>?_⟩
     ·have cE:Ar more=true:=by
       have h1:(Rr.Pl.Ca more&&Ar more)=true:=by simpa using h1
       rw[Af]at h1;exact h1.2
      conv=>whnf
      refine Aj.Dk (G5 n more day p (by omega) (λo h=>by have:=o2 o h;omega)) rfl λx hx=>?_
      rw[hm cE]at hx;subst hx;refine kW ?_;exact congrArg AV.bool (decide_eq_true rfl)
     ·exact GA
end Go.Proofs.YtdadkhcdoaeabaaGreatDoor