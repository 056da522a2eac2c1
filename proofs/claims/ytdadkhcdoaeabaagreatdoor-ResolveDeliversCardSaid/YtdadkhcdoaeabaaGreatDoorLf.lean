/- The law of Delivers. -/
import Derived.Test.YtdadkhcdoaeabaaGreatDoorQy
set_option linter.unusedVariables false
set_option maxRecDepth 100000
open Bool renaming and_eq_true → Ah
open List renaming getElem_mem → Ao, length_map → AO
open And renaming intro → Aq
namespace Go.Proofs.YtdadkhcdoaeabaaGreatDoor
open Go.Av Go.Shelf Go.RowKit
open Rr.Pl (Pt Ad St Ch Bs My Mw E6 Lq)
open Rr (JH AY)
open Rr.Pl (DD Bm)
theorem ZcT{l:List AV}{r:List Ch}(h:l=List.map Ch.v r):∀e∈l,closed e=true:=by
 subst h;intro e he;obtain⟨c,_,rfl⟩:=List.mem_map.1 he;rfl
def Zi4(n:Nt)(p:Pt)(a:Ad):List HO:=[.cells [.sl 3 n.x1,.sl 1 n.x2,.sl 1 n.x3,.sl 7 (n.O.map Of.v),.sl 6 n.x5,.sl 3 n.x6],.cells [.int .i64 p.s,.int .i64 p.n],.cells [.str a.pe,.str a.st,.int .i64 a.nu,.str a.co,.str a.tw]]++List.replicate 20 .dead
theorem Za3(n:Nt)(r:List Ch)(day:Int)(p:Pt)(t:Bs)(k:Int)(hk:DF .i8 k)(hn:n.O.length≤9223372036854775807):Aw Tryz.prog 9 [n.v,E6 r,.int .i64 day,p.v,.str t,.int .i8 k] (λx=>x=.bool true):=by
 refine Aw.Ai Tryz.func9 rfl Ae (by kernel_rfl) ?_
 conv=>whnf
 repeat(refine sT rfl ?_;conv=>whnf)
 refine cS (Iw) rfl ?_;conv=>whnf
 repeat(refine sT rfl ?_;conv=>whnf)
 refine cS (Rr.dJ r) rfl ?_;conv=>whnf
 repeat(refine sT rfl ?_;conv=>whnf)
 refine⟨λh=>?_,λh=>?_⟩;rotate_left
 ·conv=>whnf
  repeat(refine sT rfl ?_;conv=>whnf)
 have hs:(Rr.Pl.DH r&&AY r)=true:=by simpa using h
 clear h;conv=>whnf
 repeat(refine sT rfl ?_;conv=>whnf)
 refine cS (Za0 n hn) rfl ?_;conv=>whnf
 repeat(refine sT rfl ?_;conv=>whnf)
 refine⟨λh=>?_,λh=>?_⟩
 ·conv=>whnf
  repeat(refine sT rfl ?_;conv=>whnf)
 have ho:Zao n.O=true:=by simpa using h
 clear h;have hr:AY r=true:=by rw[Ah]at hs;exact hs.2
 obtain⟨o1,o2⟩:n.O.length≤20∧∀o∈n.O,o.co.length≤20:=by
  unfold Zao at ho;simpa using ho
 conv=>whnf
 repeat(refine sT rfl ?_;conv=>whnf)
 refine cS (NU n r day p (by omega) (λo h=>by have:=o2 o h;omega)) rfl ?_;conv=>whnf
 repeat(refine sT rfl ?_;conv=>whnf)
 refine cS (Rr.FD r day p) rfl ?_;conv=>whnf
 repeat(refine sT rfl ?_;conv=>whnf)
 by_cases hp:(Bm r day p).2=0;rotate_left
 ·have hd:ZdU n.O r day p=-1:=by unfold ZdU;rw[if_pos hp]
  rw[hd];refine⟨λ_=>?_,λh=>absurd h (by simp[hp])⟩
  conv=>whnf
  repeat(refine sT rfl ?_;conv=>whnf)
  refine Aq (λh=>?_) (λh=>absurd h (by simp))
  conv=>whnf
  conv=>whnf
  repeat(refine sT rfl ?_;conv=>whnf)
  rfl
 ·refine⟨λh=>absurd h (by simp[hp]),λ_=>?_⟩
  have Ze1:=λ(t:Bs) (k:Int)=>ZaW n.O hr hp (t:=t) (k:=k)
  have Yi:Bm r day p=((Bm r day p).1,0):=Prod.ext rfl hp;have Zfs:=ZaR (O:=n.O) Yi;have hc:=Zbh (ZcG (Bm r day p).1.co) n.O;rw[←Zfs]at hc;generalize (Bm r day p).1=a at*;generalize hdd:ZdU n.O r day p=d at*
  have hb:∀j (hj:j<n.O.length),(d=-1∨(j:Int)<d)→(n.O[j].co.any λx=>decide (x=a.co))=false:=λj hj h=>by
   rcases hc with⟨_,h2⟩|⟨k,hk,h1,_,h2⟩;·exact h2 _ (Ao hj)
   ·exact h2 j hj (by omega)
  have hy:0≤d→∃hk:d.toNat<n.O.length,(n.O[d.toNat].co.any λx=>decide (x=a.co))=true:=λh=>by
   rcases hc with⟨h1,_⟩|⟨k,hk,h1,h2,_⟩;·omega
   ·obtain rfl:d.toNat=k:=by omega
    exact⟨hk,h2⟩
  have Wd:-1≤d∧d<n.O.length:=by rcases hc with⟨h,_⟩|⟨k,hk,h,_⟩<;>omega
  clear hc Zfs;conv=>whnf
  repeat(refine sT rfl ?_;conv=>whnf)
  refine Ac.draw [] Ae mO (by kernel_rfl) ?_
  conv=>whnf
  refine⟨λh=>absurd (of_decide_eq_true h) (by rw[AO];omega),λ_=>?_⟩
  conv=>whnf
  refine⟨λh0=>?_,λh0=>?_⟩
  have h0:=of_decide_eq_true h0;obtain⟨bK,sQ⟩:=hy h0;conv=>whnf
  refine⟨by omega,n.O[d.toNat].v,by simp[bK],?_⟩
  conv=>whnf
  refine⟨_,⟨Zbb n.O[d.toNat] a.co (by have:=o2 _ (Ao bK);omega),rfl⟩,?_⟩
  conv=>whnf
  rw[sQ];refine Aq (λh=>?_) (λh=>absurd h (by simp))
  conv=>whnf
  conv=>whnf
  repeat(refine sT rfl ?_;conv=>whnf)
  rotate_left
  have h0:=of_decide_eq_false h0;conv=>whnf
  repeat(refine sT rfl ?_;conv=>whnf)
  all_goals
   refine Ac.AJ (λi:Nat=>mk 121 [(0,n.v),(1,E6 r),(2,.int .i64 day),(4,.str t),(5,.int .i8 k),(6,.ptr 0 0),(9,.ptr 1 0),(13,.bool true),(14,.int .i64 d),(15,.ptr 2 0),(17,.int .i64 i)]) (λ_=>Zi4 n p a) (λi=>i≤n.O.length∧(d=-1∨(i:Int)≤d)) (λi=>n.O.length-i) (λ_ _=>⟨rfl,by(conv=>whnf);exact⟨rfl,rfl,rfl,trivial⟩⟩) ⟨0,?_⟩ (λ_=>rfl) λi hi=>?_
   ·conv=>whnf
    repeat(refine Aq ?_ ?_;(focus (first|rfl|(simp;done)));conv=>whnf)
    omega
   ·obtain⟨hi,hid⟩:=hi;repeat(refine sT rfl ?_;conv=>whnf)
    rw[AO];refine⟨λg=>?_,λg=>?_⟩
    rotate_left
    conv=>whnf
    repeat(refine sT rfl ?_;conv=>whnf)
    rotate_left
    have g:i<n.O.length:=by have:=of_decide_eq_true g;omega
    have Bj:Wr .i64 ((i:Int)+1)=((i+1:Nat):Int):=by rw[Cy _ _ (by unfold DF IntKind.min IntKind.max IntKind.bits IntKind.signed;simp;omega)];rfl
    conv=>whnf
    repeat(refine sT rfl ?_;conv=>whnf)
    refine⟨λgd=>?_,λgd=>?_⟩
    ·have gd:¬(i:Int)=d:=by simpa using gd
     have hbi:=hb i g (by omega)
     conv=>whnf
     repeat(refine sT rfl ?_;conv=>whnf)
     refine Ac.draw [] Ae mO (by kernel_rfl) ?_
     conv=>whnf
     refine⟨by omega,n.O[i].v,by simp[g],?_⟩
     conv=>whnf
     refine⟨_,⟨Zbb n.O[i] a.co (by have:=o2 _ (Ao g);omega),rfl⟩,?_⟩
     conv=>whnf
     rw[hbi];refine Aq (λh=>absurd h (by simp)) (λh=>?_)
     conv=>whnf
     conv=>whnf
     repeat(refine sT rfl ?_;conv=>whnf)
     refine⟨i+1,?_⟩;conv=>whnf
     repeat(refine Aq ?_ ?_;(focus (first|rfl|(simp;done)|(first|exact Bj;done)));conv=>whnf)
     exact⟨⟨by omega,by omega⟩,by omega⟩
    conv=>whnf
    repeat(refine sT rfl ?_;conv=>whnf)
    all_goals
     refine Ac.yT [0,1,3,4,5,6,7,8,9,10,11,12,13,14,2,15,16] [14] [2,15] [3,4,5,6,7,8,9,10,11,12,13,14] Ae mO (by kernel_rfl) ?_
     conv=>whnf
     repeat(first|(refine⟨rfl,?_⟩;(conv=>whnf);refine⟨⟨rfl,rfl⟩,?_⟩;(conv=>whnf)))
     have hrl:r.length≤70:=by
      rw[Ah]at hs;have:=hs.1;unfold Rr.Pl.DH at this;rw[Ah]at this;exact of_decide_eq_true this.1
     refine⟨⟨rfl,by simp;omega⟩,?_⟩
     conv=>whnf
     refine⟨⟨rfl,by simp;omega⟩,?_⟩
     conv=>whnf
     have em:[]++List.map Ch.v r++[AV.agg [.int .i64 day,.int .i64 2,.int .i64 p.s,.str [],.str [],.str t,.int .i64 0,.int .i64 0,.int .i64 0],AV.agg [.int .i64 day,.int .i64 4,.int .i64 p.s,.str [],.str [],.str [],.int .i64 0,.int .i64 0,.int .i64 (Wr .i64 k)]]=List.map Ch.v (r++[Za6 day p.s t,Za5 day p.s (Wr .i64 k)]):=by simp[Za6,Za5,Ch.v]
     refine Ac.freeze 23 ?_;conv=>whnf
     refine⟨ZcT em,?_⟩;conv=>whnf
     repeat(refine⟨(by first|rfl|(simp;done):(_:Nat)=_),?_⟩;conv=>whnf)
     rw[em];clear em;have hm:=Ze1 t (Wr .i64 k);generalize r++[Za6 day p.s t,Za5 day p.s (Wr .i64 k)]=more at hm⊢;repeat(refine sT rfl ?_;conv=>whnf)
     refine cS (Rr.dJ more) rfl ?_;conv=>whnf
     repeat(refine sT rfl ?_;conv=>whnf)
     refine Aq (λh=>?_) (λh=>absurd h (by simp))
     conv=>whnf
     conv=>whnf
     refine⟨λh1=>?_,λh1=>?_⟩
     ·have fA:AY more=true:=by
       have h1:(Rr.Pl.DH more&&AY more)=true:=by simpa using h1
       rw[Ah]at h1;exact h1.2
      conv=>whnf
      refine Ak.D3 (NU n more day p (by omega) (λo h=>by have:=o2 o h;omega)) rfl λx hx=>?_
      rw[hm fA]at hx;subst hx;conv=>whnf
      repeat(refine sT rfl ?_;conv=>whnf)
      exact congrArg AV.bool (decide_eq_true rfl)
     ·conv=>whnf
      repeat(refine sT rfl ?_;conv=>whnf)
end Go.Proofs.YtdadkhcdoaeabaaGreatDoor