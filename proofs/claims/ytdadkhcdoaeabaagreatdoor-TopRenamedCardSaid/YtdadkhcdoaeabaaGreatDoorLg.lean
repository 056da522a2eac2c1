/- The law of Printed. -/
import Derived.Test.YtdadkhcdoaeabaaGreatDoorQy
set_option linter.unusedVariables false
set_option maxRecDepth 100000
set_option linter.unusedSectionVars false
set_option linter.unusedSimpArgs false
open List renaming length_map → Ak
open Int renaming tmod_eq_emod_of_nonneg → Ax, emod_nonneg → AP
namespace Go.Proofs.YtdadkhcdoaeabaaGreatDoor
open Go.Av Go.Shelf Go.RowKit
open Rr.Pl (Pt Ad St Ch Bs Mv HT D5 KD Has bV BC Be)
open Rr (E6 Ar)
open Rr.Pl (CA AW)
def HY(f:Ff.Fm)(a:Ad):Ff.Ad:=⟨cond (decide ((0:Int)<(Ff.JW f.lines.flatten 6:Int))) [65,110,110,32,79,116,104,101,114] a.pe,a.st,a.nu,a.co,cond (decide ((Ff.JW f.lines.flatten 5:Int)=0)) [] a.tw⟩
theorem aK{r:List Ch}(hr:Ar r=true){day:Int}{p:Pt}{s:St}(h:Has (E6 r day) p s):s.co.length<=8:=by
 have:=(Rr.Pl.Zbo hr day s (List.mem_of_getElem? h.at_)).co;unfold Rr.Pl.Jp at this;simp only[Bool.and_eq_true,decide_eq_true_eq]at this;exact this.1.2
set_option maxHeartbeats 4000000 in
theorem Zp(F:List Ff.Fm)(r:List Ch)(l:List Od)(day:Int)(p:Pt)(a b:Int)(ha:DJ .u8 a)(hb:DJ .u8 b):AO Tryz.prog 11 [Vc F,D5 r,Hr l,.int .i64 day,p.v,.int .u8 a,.int .u8 b] (λx=>x=.bool true):=by
 refine kB Tryz.func11 rfl ?_;refine kC (F1) ?_;refine Aj.args (args':=[Vc F,D5 r,Hr l,Ff.AQ []]) ⟨rfl,rfl,rfl,trivial,trivial⟩ ?_;refine kC (Ct F r l []) ?_;refine⟨λh=>?_,λh=>?_⟩;rotate_left
 ·exact GA
 have h:FH F r l []=true:=by simpa using h
 obtain⟨h1,h2,h3⟩:=FG h;clear h;refine kW ?_;refine⟨λh0=>?_,λh0=>?_⟩;rotate_left
 ·exact GA
 have h0:0<F.length:=by have:=of_decide_eq_false h0;rw[Ak]at this;omega
 refine kW ?_;refine⟨λQt=>?_,λQt=>?_⟩;rotate_left
 ·exact GA
 have Qt:-1000000<=day:=by have:=of_decide_eq_false Qt;omega
 refine kW ?_;refine⟨λX1=>?_,λX1=>?_⟩
 ·exact GA
 have X1:day<=1000000:=by have:=of_decide_eq_false X1;omega
 obtain⟨a0,a1,w1,_,_⟩:=Ie ha;obtain⟨b0,b1,w2,m0,m6⟩:=Ie hb;have Zg4:=(A5 h1).1;refine kW ?_;rw[w1,Ak];refine⟨by omega,?_⟩
 obtain⟨k,hk,pA⟩:∃k:Nat,k<F.length/\a.tmod (F.length:Int)=(k:Int):=⟨(a.tmod (F.length:Int)).toNat,by
  rw[Ax a0];have q1:=AP a (show(F.length:Int)≠0 by omega)
  have q2:=Int.emod_lt_of_pos a (show(0:Int)<F.length by omega)
  omega,by
  rw[Ax a0];have q1:=AP a (show(F.length:Int)≠0 by omega)
  omega⟩
 rw[pA];refine kW ?_;refine kC (Rr.Dx r day p) ?_;have Sh:=List.getElem_mem hk;have Qs:=Da ((A5 h1).2.2.2 F[k] Sh);have CM:(F.map Ff.Fm.v)[((k:Nat):Int).toNat]?=some F[k].v:=by simp[hk]
 have O0:F[k].lines.length<=1000:=by have:=Qs.2.2.2.1;omega
 have ND:∀l∈F[k].lines,l.length<=1000:=λl hl=>by have:=Qs.2.2.2.2 l hl;omega
 by_cases hn:(AW r day p).2=0;rotate_left
 ·refine Aa.draw [] Ag mO (by kernel_rfl) ?_
  conv=>whnf
  refine⟨λ_=>?_,λh=>absurd h (by simp[hn])⟩
  exact GA
 obtain⟨s,hs,Um⟩:=TO h2.r hn;rw[Um];refine Aa.draw [] Ag mO (by kernel_rfl) ?_
 conv=>whnf
 refine⟨λh=>absurd h (by simp),λ_=>?_⟩
 conv=>whnf
 refine⟨by omega,_,CM,?_⟩
 conv=>whnf
 refine⟨_,⟨Ff.C5 F[k] 4 O0 ND,rfl⟩,?_⟩;conv=>whnf
 refine⟨by omega,_,CM,?_⟩
 conv=>whnf
 refine⟨_,⟨Ff.C5 F[k] 2 O0 ND,rfl⟩,?_⟩;conv=>whnf
 refine⟨by omega,_,CM,?_⟩
 conv=>whnf
 refine⟨_,⟨Ff.C5 F[k] 3 O0 ND,rfl⟩,?_⟩;conv=>whnf
 refine⟨λ_=>?_,λ_=>?_⟩
 ·exact GA
 refine kW ?_;refine⟨by omega,_,CM,?_⟩
 refine kW ?_;refine kC (Ff.C5 F[k] 6 O0 ND) ?_;refine⟨λh6=>?_,λh6=>?_⟩
 all_goals
  refine kW ?_;refine⟨by omega,_,CM,?_⟩
  refine kW ?_;refine kC (Ff.C5 F[k] 5 O0 ND) ?_;refine⟨λh5=>?_,λh5=>?_⟩
 all_goals
  refine kW ?_;obtain⟨y,ht⟩:∃y,y=HY F[k] (bV s p):=⟨_,rfl⟩;have y1:y.st=s.na:=by rw[ht];rfl
  have y2:y.nu=p.n+s.sh:=by rw[ht];rfl
  have y3:y.co=s.co:=by rw[ht];rfl
  have hpr:=Ff.Tw F[k] y Qs.1 (by rw[y3];have:=aK h2.r hs;omega)
  have Lj:=I4 F[k] y O0;have Z8:=λ(hw:wrote F[k] y=true)=>MK h2 Qt X1 Sh hs (by rw[y1];exact Rr.Pl.TM s) y2 y3 hw m0 m6
  unfold wrote at Z8;have hpa:=Ff.JO F[k] (Ff.B4 F[k] y).1 Qs.1 Lj.1 Lj.2;have Gt:=Fw ⟨F,r,l,day,(Ff.B4 F[k] y).1,b.tmod 7⟩ ⟨λf hf=>(Da ((A5 h1).2.2.2 f hf)).1,by show F.length<=1000;omega,by show l.length<=100000;have:=(A5 h1).2.2.1;omega,λ_ _=>Lj.1,λ_ _=>Lj.2⟩
  unfold HY at ht;rw[h6,h5]at ht;rw[ht]at hpr;refine Aa.draw [] Ag mO (by kernel_rfl) ?_
  conv=>whnf
  refine⟨by omega,_,CM,?_⟩
  conv=>whnf
  refine⟨_,⟨hpr,rfl⟩,?_⟩;conv=>whnf
  rw[<-ht];generalize Ff.B4 F[k] y=PR at*;refine kW ?_;refine⟨by omega,_,CM,?_⟩
  refine kW ?_;refine kC (hpa) ?_;generalize Ff.Br F[k] PR.1=R at*;refine⟨λq1=>?_,λq1=>?_⟩;rotate_left
  ·exact GA
  have q1:PR.2=0:=by simpa using q1
  refine kW ?_;refine⟨λq2=>?_,λq2=>?_⟩;rotate_left
  ·exact GA
  have q2:R.2=0:=by simpa using q2
  refine kW ?_;rw[Ak];refine⟨λq3=>?_,λq3=>?_⟩
  ·exact GA
  have q3:0<R.1.length:=by have:=of_decide_eq_false q3;omega
  have hp:=Z8 (by rw[q1,q2,decide_eq_true q3];rfl)
  clear Z8;refine kW ?_;refine⟨by decide,?_⟩
  rw[w2];generalize b.tmod 7=m at*;refine kW ?_;refine kC (Gt) ?_;have hlx:=(GU Zg4 r l day PR.1 m).1;generalize Ai F r l day PR.1 m=x at*;cases hp with
  |found q i t hit hle Af=>
   refine⟨λ_=>?_,λh=>absurd h (show ¬decide ((1:Int)=1)=false by decide)⟩
   refine kW ?_;rw[hit]at hle ⊢;refine Aa.draw [] Ag mO (by kernel_rfl) ?_
   conv=>whnf
   refine kD ?_;refine⟨λ_=>?_,λh=>absurd (of_decide_eq_false h) (by simp)⟩
   conv=>whnf
   refine⟨by decide,p.v,rfl,?_⟩
   conv=>whnf
   refine⟨λ_=>?_,λh=>absurd h (by simp)⟩
   exact GA
  |E8 M hpm hM=>
   refine⟨λh=>absurd h (show ¬decide ((2:Int)=1)=true by decide),λ_=>?_⟩
   refine kW ?_;refine⟨λ_=>?_,λh=>absurd h (show ¬decide ((2:Int)=2)=false by decide)⟩
   refine kW ?_;refine And.intro (λh=>?_) (λh=>absurd h (by simp))
   conv=>whnf
   refine kW ?_;refine kC (ZaH M p (by have:M.length<=100000:=hlx;omega)) ?_
   rw[decide_eq_true hpm]
  |refused e he hf=>
   refine⟨λh=>absurd h (show ¬decide ((3:Int)=1)=true by decide),λ_=>?_⟩
   refine kW ?_;refine⟨λh=>absurd h (show ¬decide ((3:Int)=2)=true by decide),λ_=>?_⟩
   refine kW ?_
   have Yv:0<l.length:=by
    cases l with
    |nil=>exact absurd (UA day p) hf
    |cons a l=>simp
   rcases he with rfl|rfl|rfl
   all_goals
    refine And.intro (λh=>?_) (λh=>absurd h (by simp))
    conv=>whnf
    refine kW ?_;refine kD ?_;exact congrArg AV.bool (decide_eq_true (by rw[Ak];omega))
end Go.Proofs.YtdadkhcdoaeabaaGreatDoor