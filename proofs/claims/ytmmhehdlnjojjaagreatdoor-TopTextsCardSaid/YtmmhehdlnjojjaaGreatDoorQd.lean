/- Calendars: remainders. -/
import Derived.Test.YtmmhehdlnjojjaaGreatDoorQx
import Derived.Test.YtmmhehdlnjojjaaGreatDoorKg2
set_option linter.unusedVariables false
set_option maxRecDepth 100000
set_option linter.unusedSectionVars false
set_option linter.unusedSimpArgs false
open Go.Proofs.Tryz
open Go.Proofs.Tryz renaming prog → Pg
open List renaming length_map → Ax, replicate → A9, range → BG, getD_eq_getElem?_getD → BK, getElem?_eq_getElem → BQ, getElem?_map → Cb, range_succ → Cc, mem_map → Ce, pairwise_iff_getElem → Cz, getElem?_eq_some_iff → CJ, take_succ_eq_append_getElem → CL, append_nil → C0, mem_cons → C1, replicate_succ → C2, replicate_zero → C3, set_append_right → De, getElem_mem → Dk, mem_iff_getElem → Dv, getElem?_append_right → Dx, map_map → DL, drop_eq_getElem_cons → DP, getElem_take → DT, eq_of_mem_replicate → DW, length_take → D0, getElem?_set_self → D6, map_append → D9, getElem?_set_ne → EU, all_eq_false → E4, all_eq_true → Fo, mem_filter → FG, mem_append → FK, length_set → F4, mem_range → F5
open Nat renaming zero_le → BR, lt_succ_self → CT, le_of_ble_eq_true → C5, sub_self → EA, le_refl → E1, le_of_not_lt → Fc
open And renaming intro → BU
open Prod renaming snd → C4
open Bool renaming and_eq_true → Dp
open Int renaming mul_le_mul → EW, toNat_natCast → E3
open Option renaming some → E2, getD_some → Fw
namespace Go.Proofs.YtmmhehdlnjojjaaGreatDoor
theorem Ya4{P:Prop}(e:P:=by
 refine kR ?_;constructor<;>intro g1;·(have g1:j<n:=by have:=of_decide_eq_true g1;omega);refine kW ?_;refine Aa.Vd [9,10] Ab mO (by kernel_rfl) ?_;(conv=>whnf);refine⟨⟨by omega,by omega⟩,?_⟩;(conv=>whnf);refine⟨_,DB rfl _ _,?_⟩;(conv=>whnf);refine⟨_,⟨hf L.length j h g1,rfl⟩,?_⟩;(conv=>whnf);refine⟨⟨by omega,by omega⟩,?_⟩;(conv=>whnf);refine⟨_,_,L.length,_,rfl,Kk _ _,by rw[FD hj];omega,?_⟩;(conv=>whnf);rw[Kh,Mn (h:=g L.length) g1];refine kW ?_;refine⟨j+1,?_⟩;refine qG ?_;omega
 have g1:j=n:=by have:=of_decide_eq_false g1;omega
 refine kW ?_;have e1:Wr .i64 ((L.length:Nat)+1:Int)=((L++[(b,EL n (g L.length) j)]).length:Nat):=by rw[ZI _ (by omega)];simp
 have e2:Bl L++.raw (K9 b n)::A9 m C6=Bl (L++[(b,EL n (g L.length) j)])++A9 (n-(L++[(b,EL n (g L.length) j)]).length) C6:=by rw[show n-(L++[(b,EL n (g L.length) j)]).length=m by simp;omega];simp[Bl,FD hj]
 refine⟨L++[(b,EL n (g L.length) j)],?_⟩;refine qG ?_;refine⟨⟨?_,by simp;omega⟩,by simp;omega⟩;rw[g1,J8];simp[h1,Cc]):P:=e
theorem Ya5{P:Prop}(e:P:=by
 have hs:=KX c d i;constructor<;>intro hw
 ·have hg:=Wk c d h hw;rw[if_pos hw]at hs;refine kW ?_;refine⟨rfl,I ((Dz c d i).length+1),Ix,Ip,xY _ _ hg,λu=>by(conv=>whnf);exact⟨u,rfl,rfl⟩,?_,?_⟩;·refine kW ?_;refine⟨i+1,?_⟩;(conv=>whnf);(repeat(refine BU ?_ ?_;(focus (first|rfl|(simp;done)|(first|exact EV|exact congrArg (λk=>HO.inv (I k)) (by rw[hs];simp);done)));conv=>whnf));exact⟨by omega,by omega⟩
  refine kW ?_;exact .inr rfl
 rw[if_neg (by simp[hw]),C0]at hs;refine kW ?_;refine⟨i+1,?_⟩;conv=>whnf
 repeat(refine BU ?_ ?_;(focus (first|rfl|(simp;done)|(first|exact EV|exact congrArg (λk=>HO.inv (I k)) (by rw[hs]);done)));conv=>whnf)
 exact⟨by omega,by omega⟩):P:=e
theorem Ya6{P:Prop}(e:P:=by refine kW ?_;refine⟨⟨by simp[Gy,h],by intro e he;obtain⟨x,_,rfl⟩:=Ce.1 he;rfl⟩,?_⟩;exact No (by rw[h1,h];rfl)):P:=e
theorem Ya7{P:Prop}(e:P:=by
 have h:k=n:=by have:=of_decide_eq_false h;omega
 subst h;refine kW ?_;rw[EA,C3,C0];exact⟨⟨by simp,Ad _ (λ_=>rfl) _⟩,rfl⟩):P:=e
theorem Ya8{P:Prop}(e:P:=by
 conv=>whnf
 repeat first|exact trivial|(refine⟨rfl,?_⟩;conv=>whnf)):P:=e
theorem Ya9{P:Prop}(e:P:=by
 refine O1.Ak func202 rfl rfl Ab (by kernel_rfl) rfl ?_;conv=>whnf
 refine⟨⟨by kernel_rfl,rfl⟩,?_⟩;conv=>whnf
 refine Eu Ab _ ?_;conv=>whnf
 rfl):P:=e
theorem Yba{P:Prop}(e:P:=by
 have h:L.length=n:=by have:=of_decide_eq_false h;omega
 rw[show Bl L++A9 (n-L.length) C6=Bl L by simp[h]];refine Aa.Jp 1 rfl rfl ?_;exact Ya6):P:=e
theorem Ybb{P:Prop}(e:P:=by
 have h:L.length=n:=by have:=of_decide_eq_false h;omega
 rw[show Bl L++A9 (n-L.length) C6=Bl L by simp[h]];refine Aa.Jp 2 rfl rfl ?_;exact Ya6):P:=e
end Go.Proofs.YtmmhehdlnjojjaaGreatDoor
namespace Go.Proofs.YtmmhehdlnjojjaaGreatDoor
open Go.Av Go.RowKit
variable {i j m k:Nat}{h:List Int}{d t:Int}{L:List (Nat×List Int)}{z:AV}
structure Dm where
 Bc:Int
 Bw:List Bool
 AZ:List Int
def ints(l:List Int):AV:=.sl 1 (l.map (.int .i64))
def Dm.v(c:Dm):AV:=.agg [.int .i64 c.Bc,.sl 1 (c.Bw.map .bool),ints c.AZ]
def kM(h:List Int):Bool:=decide (h.Pairwise (·<·))
def CX(c:Dm):Bool:=decide (-720<=c.Bc)&&decide (c.Bc<=840)&&decide (c.Bw.length=7)&&decide (c.AZ.length<=40)&&kM c.AZ
def LW(d:Int):Bool:=decide (-1000000<=d)&&decide (d<=1000000)
theorem aT(a b:Int)(hb:0<b)(OJ:b<=1000000)(ha:-4000000000000000000<=a)(ha2:a<=4000000000000000000):Au Pg 274 [.int .i64 a,.int .i64 b] (λr=>r=.int .i64 (a%b)):=by
 have h1:a.tmod b=if 0<=a\/b ∣ a then a%b else a%b-b:=by rw[Int.tmod_eq_emod];split<;>simp[Int.natAbs_of_nonneg,Int.le_of_lt hb]
 have h2:=Int.emod_nonneg a (show b≠0 by omega);have h3:=Int.emod_lt_of_pos a hb;have h4:b ∣ a->a%b=0:=λh=>Int.emod_eq_zero_of_dvd h;refine kB func274 rfl ?_;refine⟨by omega,?_⟩;refine kW ?_;constructor<;>intro h
 ·have h:a.tmod b<0:=of_decide_eq_true h;have e:a.tmod b+b=a%b:=by split at h1<;>omega
  refine kW ?_;exact congrArg (AV.int .i64) (by rw[HE (by omega),e])
 have h:¬a.tmod b<0:=of_decide_eq_false h;refine kW ?_;exact congrArg (AV.int .i64) (by split at h1<;>omega)
theorem GG(d:Int):Au Pg 275 [.int .i64 d] (λr=>r=.bool (LW d)):=by
 refine kB func275 rfl ?_
 repeat' (first|(refine BU (λ_=>?_) (λ_=>?_)<;>conv=>whnf)|refine Ql ?_|fail)
 all_goals (unfold LW;first|(simp_all;done)|(simp_all;omega))
theorem Zbj{l:List Int}(h1:1<=i)(h:i<l.length)(hp:(l.take i).Pairwise (·<·))(hl:l[i-1]'(by omega)<l[i]):(l.take (i+1)).Pairwise (·<·):=by
 rw[CL h,List.pairwise_append];refine⟨hp,List.pairwise_singleton _ _,λx hx y hy=>?_⟩;rw[List.mem_singleton.1 hy];obtain⟨j,hj,rfl⟩:=Dv.1 hx;rw[D0]at hj;rw[DT];by_cases NU:j=i-1;subst NU;exact hl;have:=Cz.1 hp j (i-1) (by rw[D0];omega) (by rw[D0];omega) (by omega);rw[DT,DT]at this;omega
theorem ZgK{l:List Int}(h1:1<=i)(h:i<l.length)(hl:l[i]<=l[i-1]'(by omega)):kM l=false:=
 decide_eq_false λhp=>by have:=Cz.1 hp (i-1) i (by omega) h (by omega);omega
theorem He(c:Dm):Au Pg 232 [c.v] (λr=>r=.bool (CX c)):=by
 refine kB func232 rfl ?_
 repeat' (first|(refine BU (λ_=>?_) (λ_=>?_)<;>conv=>whnf)|refine Ql ?_|fail)
 all_goals try (unfold CX;refine congrArg AV.bool ?_;simp_all;done)
 all_goals try (unfold CX;refine congrArg AV.bool ?_;simp_all;omega)
 rename_i g1 g2 g3 g4;have hB:CX c=kM c.AZ:=by unfold CX;simp only[decide_eq_false_iff_not,Bool.not_eq_false',decide_eq_true_eq,Ax]at g1 g2 g3 g4;rw[decide_eq_true (show -720<=c.Bc by omega),decide_eq_true (show c.Bc<=840 by omega),decide_eq_true (show c.Bw.length=7 by omega),decide_eq_true (show c.AZ.length<=40 by omega)];rfl
 have h40:c.AZ.length<=40:=by have:=of_decide_eq_false g4;rw[Ax]at this;omega
 rw[hB];clear g1 g2 g3 g4 hB;refine Aa.Ar (λi:Nat=>mk 43 [(0,c.v),(1,.ptr 0 0),(3,.int .i64 i)]) (λ_=>[.cells [.int .i64 c.Bc,.sl 1 (c.Bw.map .bool),ints c.AZ]]) (λi=>1<=i/\(c.AZ.take i).Pairwise (·<·)) (λi=>c.AZ.length-i) (λ_ _=>⟨rfl,rfl,trivial⟩) ⟨1,?_⟩ (λ_=>rfl) λi hi=>?_;·refine kQ ?_;cases c.AZ<;>simp
 obtain⟨hi,hp⟩:=hi;refine kR ?_;rw[Ax];constructor<;>intro h
 ·have h:i<c.AZ.length:=by simpa using h
  have EV:=ZI i (by omega);have hw2:Wr .i64 ((i:Int)-1)=((i-1:Nat):Int):=by rw[HE (by omega)];omega
  refine kW ?_;refine Aa.draw [] Ab mO (by kernel_rfl) ?_;conv=>whnf
  refine⟨by omega,_,(by simp[h]:(c.AZ.map (AV.int .i64))[((i:Nat):Int).toNat]?=some (.int .i64 c.AZ[i])),?_⟩;conv=>whnf
  rw[hw2];refine⟨by omega,_,(by simp[show i-1<c.AZ.length by omega]:(c.AZ.map (AV.int .i64))[((i-1:Nat):Int).toNat]?=some (.int .i64 (c.AZ[i-1]'(by omega)))),?_⟩;conv=>whnf
  constructor<;>intro g;rw[ZgK hi h (of_decide_eq_true g)];exact Er;refine kW ?_;refine⟨i+1,?_⟩;refine gF EV ?_;exact⟨⟨by omega,Zbj hi h hp (by have:=of_decide_eq_false g;omega)⟩,by omega⟩
 have h:c.AZ.length<=i:=by have:=of_decide_eq_false h;omega
 rw[List.take_of_length_le h]at hp;rw[show kM c.AZ=true from decide_eq_true hp];exact Er
theorem Fa(c:Dm)(t:Int)(hc:CX c=true)(h0:-2000000000<=t)(h1:t<=2000000000):Au Pg 214 [c.v,.int .i64 t] (λr=>r=.tuple [.int .i64 ((t+c.Bc)/1440),.int .i64 ((t+c.Bc)%1440)]):=by
 have hz:-720<=c.Bc/\c.Bc<=840:=by unfold CX at hc;simp at hc;omega
 refine kB func214 rfl ?_;refine kC (He c) ?_;rw[hc];refine BU (λh=>?_) (λh=>absurd h (by simp));conv=>whnf
 refine kR ?_;refine⟨λ_=>?_,λh=>absurd (of_decide_eq_true h) (by omega)⟩;refine kW ?_;refine⟨λh=>absurd (of_decide_eq_true h) (by omega),λ_=>?_⟩;refine kW ?_;rw[HE (n:=t+c.Bc) (by omega)];refine kC (aT (t+c.Bc) 1440 (by decide) (by decide) (by omega) (by omega)) ?_;obtain⟨x,hx⟩:∃x,x=t+c.Bc:=⟨_,rfl⟩;rw[<-hx];have e:(x-x%1440).tdiv 1440=x/1440:=by rw[show x-x%1440=1440*(x/1440) by omega];exact Int.mul_tdiv_cancel_left _ (by decide)
 rw[HE (n:=x-x%1440) (by omega)];refine⟨by decide,?_⟩;rw[e];refine kW ?_;exact congrArg (λy=>AV.tuple [.int .i64 y,.int .i64 (x%1440)]) (HE (by omega))
theorem Qw(c:Dm)(d m:Int)(hc:CX c=true)(hd:LW d=true)(h0:0<=m)(h1:m<1440):Au Pg 273 [c.v,.int .i64 d,.int .i64 m] (λr=>r=.int .i64 (d*1440+m-c.Bc)):=by
 have hz:-720<=c.Bc/\c.Bc<=840:=by unfold CX at hc;simp at hc;omega
 have hd2:-1000000<=d/\d<=1000000:=by unfold LW at hd;simpa using hd
 refine kB func273 rfl ?_;refine kC (He c) ?_;rw[hc];refine BU (λh=>?_) (λh=>absurd h (by simp));conv=>whnf
 refine kR ?_;refine kC (GG d) ?_;rw[hd];refine BU (λh=>?_) (λh=>absurd h (by simp));conv=>whnf
 refine kR ?_;refine⟨λ_=>?_,λh=>absurd (of_decide_eq_true h) (by omega)⟩;refine kW ?_;refine⟨λh=>absurd (of_decide_eq_true h) (by omega),λ_=>?_⟩;refine kW ?_;exact congrArg (AV.int .i64) (by rw[HE (n:=d*1440) (by omega),HE (n:=d*1440+m) (by omega),HE (by omega)])
theorem ZkL(h:i+j<=4000000):Wr .i64 (Wr .u64 (Wr .i64 ((i:Int)+j))/2)=(((i+j)/2:Nat):Int):=by
 have e2:Wr .u64 ((i:Int)+j)=(i:Int)+j:=by unfold Wr;simp[IntKind.wrap,IntKind.bits,IntKind.signed];omega
 rw[LY ((i:Int)+j) (by omega) (by omega),e2,HE (by omega)];omega
theorem aI(f:FuncId)(A B:List AV)(n k:Nat)(p:Nat->Bool)(hn:n<=1000000)(hf:∀i,i<n->Au Pg f [.int .i64 i,.at_ A,.at_ B] (λr=>r=.bool (p i)))(hk:k<=n)(h0:∀i,i<k->p i=false)(h1:∀i,k<=i->i<n->p i=true):
  Au Pg 336 [.int .i64 n,.fn f [.at_ A,.at_ B]] (λr=>r=.int .i64 k):=by
 refine kB func336 rfl ?_;refine Aa.Ar (λx:Nat×Nat=>mk 26 [(0,.int .i64 n),(1,.fn f [.at_ A,.at_ B]),(5,.int .i64 x.1),(6,.int .i64 x.2)]) (λ_=>[]) (λx=>x.1<=k/\k<=x.2/\x.2<=n) (λx=>x.2-x.1) (λ_ _=>⟨rfl,trivial⟩) ⟨(0,n),?_⟩ (λ_=>rfl) λx hx=>?_;refine kQ ?_;exact⟨hk,E1 n⟩;obtain⟨Xj,hx2,hx3⟩:=hx;obtain⟨i,j⟩:=x;simp only at Xj hx2 hx3;refine kR ?_;constructor<;>intro h
 ·have h:i<j:=by have:=of_decide_eq_true h;omega
  iterate 3 (refine sT rfl ?_;conv=>whnf)
  refine Aa.Zgo [4] Ab ?_;conv=>whnf
  refine⟨⟨⟨rfl,rfl⟩,rfl⟩,?_⟩;conv=>whnf
  rw[ZkL (show i+j<=4000000 by omega)];refine kR ?_;have hm:(i+j)/2<n:=by omega
  refine kC (hf ((i+j)/2) hm) ?_;have hws:Wr .i64 ((((i+j)/2:Nat):Int)+1)=(((i+j)/2+1:Nat):Int):=ZI _ (by omega);constructor<;>intro g;·(have g:p ((i+j)/2)=false:=by simpa using g);(have:(i+j)/2<k:=Nat.lt_of_not_le λh=>by rw[h1 _ h hm]at g;cases g);refine kW ?_;refine⟨((i+j)/2+1,j),?_⟩;refine gF hws ?_;exact⟨⟨by simp only;omega,hx2,hx3⟩,(show j-((i+j)/2+1)<j-i by omega)⟩
  have g:p ((i+j)/2)=true:=by simpa using g
  have:k<=(i+j)/2:=Fc λh=>by rw[h0 _ h]at g;cases g
  refine kW ?_;refine⟨(i,(i+j)/2),?_⟩;refine kQ ?_;exact⟨⟨Xj,this,by simp only;omega⟩,(show(i+j)/2-i<j-i by omega)⟩
 have h:¬i<j:=by have:=of_decide_eq_false h;omega
 refine kW ?_;exact congrArg (AV.int .i64) (by show(i:Int)=k;omega)
def Zcw(c:Dm):List AV:=[.at_ (c.Bw.map .bool),.at_ [.int .i64 c.Bc,.sl 1 (c.Bw.map .bool),ints c.AZ]]
theorem ZmH{l:List Bool}(h:l.length=7):∃b0 b1 b2 b3 b4 b5 b6,l=[b0,b1,b2,b3,b4,b5,b6]:=by
 match l,h with
 |[b0,b1,b2,b3,b4,b5,b6],_=>exact⟨b0,b1,b2,b3,b4,b5,b6,rfl⟩
theorem RC(c:Dm)(hc:CX c=true):Au Pg 320 [c.v] (λr=>r=.fn 335 (Zcw c)):=by
 have hw:c.Bw.length=7:=by unfold CX at hc;simp at hc;omega
 refine kB func320 rfl ?_;refine Aa.ZhR (l1:=1) (n:=7) (el:=4) (es:=c.Bw.map .bool) (v1:=.ptr 0 1) _ _ _ _ Ab (by kernel_rfl) ⟨rfl,rfl,rfl,rfl⟩ ⟨rfl,rfl,rfl,rfl⟩ ⟨rfl,rfl,rfl,rfl⟩ ⟨rfl,rfl,rfl,rfl⟩ ⟨rfl,by kernel_rfl,by kernel_rfl,by kernel_rfl,by kernel_rfl,by kernel_rfl,by kernel_rfl,by kernel_rfl⟩ (by kernel_rfl) (by kernel_rfl) (by kernel_rfl) rfl (λx=>?_) ?_ (by decide) ⟨C5 rfl,C5 rfl,C5 rfl⟩ rfl rfl (by simpa using hw) (by decide) (λa ha=>?_) ?_;·conv=>whnf
 ·conv=>whnf
 obtain⟨b,_,rfl⟩:=Ce.1 ha;rfl;obtain⟨b0,b1,b2,b3,b4,b5,b6,e⟩:=ZmH hw;unfold Zcw;rw[e];refine kW ?_;rfl
def NT(h:List Int)(d:Int):Nat:=h.findIdx λx=>decide (d<=x)
theorem kY(h:List Int)(d:Int):NT h d<=h.length:=List.findIdx_le_length
theorem Zbx(hi:i<NT h d):decide (d<=h.getD i 0)=false:=by
 have hl:i<h.length:=Nat.lt_of_lt_of_le hi (kY h d);have:=List.not_of_lt_findIdx hi;rw[BK,BQ hl];simpa using this
theorem Zby(hs:kM h=true)(hi:NT h d<=i)(hl:i<h.length):decide (d<=h.getD i 0)=true:=by
 have hk:NT h d<h.length:=by omega
 have h1:decide (d<=h[NT h d])=true:=List.findIdx_getElem (w:=hk);have h1:=of_decide_eq_true h1;rw[BK,BQ hl];refine decide_eq_true ?_;show d<=h[i];by_cases e:NT h d=i;simp only[<-e];exact h1;have:=Cz.1 (of_decide_eq_true hs) (NT h d) i hk hl (by omega);omega
theorem Zej(hs:kM h=true):d∈h↔∃hl:NT h d<h.length,h[NT h d]=d:=by
 refine⟨λhm=>?_,λ⟨hl,e⟩=>by rw[<-e];exact Dk hl⟩;obtain⟨j,hj,e⟩:=Dv.1 hm;have hle:NT h d<=j:=Fc λAA=>by have:=Zbx AA;rw[BK,BQ hj]at this;have:=of_decide_eq_false this;exact this (by show d<=h[j];omega)
 have hl:NT h d<h.length:=by omega
 refine⟨hl,?_⟩;have h1:=Zby hs (E1 _) hl;rw[BK,BQ hl]at h1;have h1:d<=h[NT h d]:=of_decide_eq_true h1;by_cases e2:NT h d=j;simp only[e2];exact e;have:=Cz.1 (of_decide_eq_true hs) (NT h d) j hl hj (by omega);omega
theorem nM(c:Dm)(d:Int)(i:Nat)(hi:i<c.AZ.length):Au Pg 337 [.int .i64 i,.at_ [.int .i64 c.Bc,.sl 1 (c.Bw.map .bool),ints c.AZ],.at_ [.int .i64 d]] (λr=>r=.bool (decide (d<=c.AZ.getD i 0))):=by
 refine kB func337 rfl ?_;refine Aa.draw [] Ab mO (by kernel_rfl) ?_;conv=>whnf
 refine⟨by omega,_,(by simp[hi]:(c.AZ.map (AV.int .i64))[((i:Nat):Int).toNat]?=some (.int .i64 c.AZ[i])),?_⟩;refine kW ?_;constructor<;>intro h
 all_goals
  refine kW ?_;rw[BK,BQ hi];exact congrArg AV.bool h.symm
def S7(c:Dm)(d:Int):Bool:=c.Bw.getD (d%7).toNat false&&!decide (d∈c.AZ)
theorem S6(c:Dm)(d:Int)(hc:CX c=true)(hd:LW d=true):Au Pg 335 (.int .i64 d::Zcw c) (λr=>r=.bool (S7 c d)):=by
 have hd2:-1000000<=d/\d<=1000000:=by unfold LW at hd;simpa using hd
 have hw:c.Bw.length=7:=by unfold CX at hc;simp at hc;omega
 refine kB func335 rfl ?_;refine kC (aT d 7 (by decide) (by decide) (by omega) (by omega)) ?_;have AA:(d%7).toNat<c.Bw.length:=by omega
 refine⟨⟨by omega,by omega⟩,.bool c.Bw[(d%7).toNat],by simp[AA],?_⟩;have hwk:c.Bw.getD (d%7).toNat false=c.Bw[(d%7).toNat]:=by simp[AA]
 unfold S7;rw[hwk];refine kW ?_;constructor<;>intro h
 ·have h:c.Bw[(d%7).toNat]=false:=by simpa using h
  rw[h];refine kW ?_;rfl
 have h:c.Bw[(d%7).toNat]=true:=by simpa using h
 rw[h];have Zkq:kM c.AZ=true:=by unfold CX at hc;simp at hc;exact hc.2
 have h40:c.AZ.length<=40:=by unfold CX at hc;simp at hc;omega
 refine kW ?_;rw[Ax];refine Ah.jR (aI _ _ [.int .i64 d] c.AZ.length (NT c.AZ d) (λi=>decide (d<=c.AZ.getD i 0)) (by omega) (λi hi=>nM c d i hi) (kY _ _) (λi hi=>Zbx hi) λi h1 h2=>Zby Zkq h1 h2) (.plain rfl (.fn (.plain rfl (.ptr rfl rfl trivial)) trivial)) λr hr=>?_;subst hr;refine⟨.inl rfl,?_⟩;have OI:=Zej (d:=d) Zkq;have hk:=kY c.AZ d;generalize NT c.AZ d=k at*;refine kW ?_;refine Aa.draw [] Ab mO (by kernel_rfl) ?_;conv=>whnf
 rw[Ax];constructor<;>intro h;have h:((k:Nat):Int)=c.AZ.length:=of_decide_eq_true h;rw[decide_eq_false (show ¬d∈c.AZ from λhm=>by obtain⟨hl,_⟩:=OI.1 hm;omega)];refine kW ?_;rfl;have h:k<c.AZ.length:=by have:=of_decide_eq_false h;omega
 conv=>whnf
 refine⟨by omega,_,(by simp[h]:(c.AZ.map (AV.int .i64))[((k:Nat):Int).toNat]?=some (.int .i64 c.AZ[k])),?_⟩;conv=>whnf
 constructor<;>intro g
 ·have g:¬c.AZ[k]=d:=by simpa using g
  rw[decide_eq_false (show ¬d∈c.AZ from λhm=>by obtain⟨hl,e⟩:=OI.1 hm;exact g e)];refine kW ?_;rfl
 have g:c.AZ[k]=d:=by simpa using g
 rw[decide_eq_true (OI.2 ⟨h,g⟩)];refine kW ?_;rfl
def Dz(c:Dm)(d:Int)(n:Nat):List Int:=((BG n).map λi=>d+(i:Nat)).filter (S7 c)
theorem KX(c:Dm)(d:Int)(i:Nat):Dz c d (i+1)=Dz c d i++if S7 c (d+(i:Nat))=true then [d+(i:Nat)]else []:=by
 unfold Dz;rw[Cc,D9,List.filter_append];congr 1;simp[List.filter_cons]
theorem rP(c:Dm)(d:Int){n:Nat}(h:i<=n):∃z,Dz c d n=Dz c d i++z:=by
 induction n with
 |zero=>obtain rfl:i=0:=by omega
        exact⟨[],by simp⟩
 |succ n ih=>
  by_cases e:i=n+1;subst e;exact⟨[],by simp⟩;obtain⟨z,hz⟩:=ih (by omega);exact⟨_,by rw[KX,hz,List.append_assoc]⟩
theorem Wk(c:Dm)(d:Int){n:Nat}(h:i<n)(hw:S7 c (d+(i:Nat))=true):((Dz c d n).map λx=>[AV.int .i64 x])[(Dz c d i).length]?=some [.int .i64 (d+(i:Nat))]:=by
 obtain⟨z,hz⟩:=rP c d (show i+1<=n from h);rw[KX,if_pos hw]at hz;rw[hz];simp
def ZfR(c:Dm)(d n:Int):List AV:=[.at_ [.int .i64 d],.at_ [.int .i64 n],.at_ [.fn 335 (Zcw c)]]
theorem Ta(c:Dm)(d n:Int)(hc:CX c=true):Au Pg 276 [c.v,.int .i64 d,.int .i64 n] (λr=>r=.fn 321 (ZfR c d n)):=by
 refine kB func276 rfl ?_;refine kC (RC c hc) ?_;rfl
theorem Wm(c:Dm)(d n:Int)(hc:CX c=true)(hd:-900000<=d)(hd2:d<=900000)(hn:n<=5000)(hn0:-4000000<=n):xT Pg 321 (ZfR c d n) ((Dz c d n.toNat).map λx=>[AV.int .i64 x]) True:=by
 refine xT.Ak func321 rfl Ab (by kernel_rfl) rfl λy I Ix Ip _ hy=>?_;have xY:∀(k:Nat)(x:List AV),((Dz c d n.toNat).map λx=>[AV.int .i64 x])[k]?=some x->Nd Pg (.func (.yield y) #[] #[]) x (I k) (I (k+1)) Ix Ip:=hy;clear hy;refine kW ?_;refine Aa.Ar (λi:Nat=>mk 23 [(0,.raw (.func (.yield y) #[] #[])),(1,.at_ [.int .i64 d]),(2,.at_ [.int .i64 n]),(3,.at_ [.fn 335 (Zcw c)]),(5,.int .i64 (d+(i:Nat)))]) (λi=>[.inv (I (Dz c d i).length)]) (λi=>i<=n.toNat) (λi=>n.toNat-i) (λ_ _=>⟨rfl,trivial⟩) ⟨0,?_⟩ (λ_=>rfl) λi hi=>?_;refine kQ ?_;exact BR _;refine kR ?_;rw[HE (n:=d+n) (by omega)];constructor<;>intro h
 ·have h:i<n.toNat:=by have:=of_decide_eq_true h;omega
  have EV:Wr .i64 (d+(i:Int)+1)=d+((i+1:Nat):Int):=by rw[HE (by omega)];omega
  refine kW ?_;refine kC (S6 c (d+(i:Nat)) hc (by unfold LW;simp;omega)) ?_;exact Ya5
 have h:i=n.toNat:=by have:=of_decide_eq_false h;omega
 refine kW ?_;exact .inl (by rw[h,Ax])
def IN(c:Dm)(d:Int):Int×Int:=match Dz c d 60 with|x::_=>(x,0)|[]=>(0,20)
theorem O0{E E0:List AV}(h:YM E E0 True):rH E E0:=(Ii _ _ _ h).1
theorem WY(c:Dm)(d:Int)(hc:CX c=true)(hd:-900000<=d)(hd2:d<=900000):Au Pg 272 [c.v,.int .i64 d] (λr=>r=.tuple [.int .i64 (IN c d).1,.int .i64 (IN c d).2]):=by
 refine kB func272 rfl ?_;refine kC (He c) ?_;rw[hc];refine BU (λh=>?_) (λh=>absurd h (by simp));conv=>whnf
 refine kR ?_;refine kC (GG d) ?_;rw[show LW d=true by unfold LW;simp;omega];refine BU (λh=>absurd h (by simp)) (λh=>?_);refine kW ?_;refine kC (Ta c d 60 hc) ?_;have LQ:=Wm c d 60 hc hd hd2 (by decide) (by decide);unfold IN;rw[show(60:Int).toNat=60 from rfl]at LQ;generalize Dz c d 60=L at*;obtain⟨cc,SZ⟩:∃cc,cc=[.int .i64 c.Bc,.sl 1 (c.Bw.map .bool),ints c.AZ]:=⟨_,rfl⟩;rw[<-SZ]
 refine Aa.Hi (E0:=mk 20 [(2,.ptr 0 0),(4,.ptr 1 0),(5,.ptr 2 0)]) (xs:=L.map λx=>[AV.int .i64 x]) (O0 ?_) rfl rfl LQ rfl (λvs _ (_:Unit)=>[.cells cc,.cells [.int .i64 0],.cells [.int .i64 0]]++[.ghost (mk 20 [(2,.ptr 0 0),(4,.ptr 1 0),(5,.ptr 2 0)]) vs []]) (λk _=>k=0) () rfl
  (λ_ e H=>∃x r,L=x::r/\e=.ret/\H.take 3=[.cells cc,.cells [.int .i64 x],.cells [.int .i64 0]]) (λvs=>rfl)
  (λvs k _ _=>⟨rfl,rfl,by subst SZ;(conv=>whnf);repeat(first|exact trivial|(refine⟨rfl,?_⟩;conv=>whnf))⟩) (λvs k _ x hk hx=>?_) (λh=>(h trivial).elim) (λvs _ h=>?_) (λvs e H h=>?_)
 ·exact Ya8
 ·subst hk;cases L with
  |nil=>cases hx
  |cons y r=>
   obtain rfl:x=[.int .i64 y]:=(E2.inj hx).symm;refine⟨rfl,?_⟩;refine kW ?_;exact⟨⟨_,rfl⟩,⟨y,r,rfl,rfl,rfl⟩,rfl,rfl⟩
 rw[Ax,List.length_eq_zero_iff]at h;subst h;exact Er;obtain⟨x,r,rfl,rfl,h⟩:=h;rcases H with _|⟨y1,_|⟨y2,_|⟨y3,H⟩⟩⟩<;>simp at h;obtain⟨rfl,rfl,rfl⟩:=h;subst SZ;exact Er
theorem Lr(c:Dm)(a b:Int)(hc:CX c=true)(ha:-800000<=a)(ha2:a<=800000)(hb:-800000<=b)(OJ:b<=800000):Au Pg 215 [c.v,.int .i64 a,.int .i64 b] (λr=>r=.int .i64 (if a+2000<b then -1 else ((Dz c (a+1) (b-a).toNat).length:Int))):=by
 refine kB func215 rfl ?_;refine kC (He c) ?_;rw[hc];refine BU (λh=>?_) (λh=>absurd h (by simp));conv=>whnf
 refine kR ?_;refine kC (GG a) ?_;rw[show LW a=true by unfold LW;simp;omega];refine BU (λh=>?_) (λh=>absurd h (by simp));conv=>whnf
 refine kR ?_;refine kC (GG b) ?_;rw[show LW b=true by unfold LW;simp;omega];refine BU (λh=>?_) (λh=>absurd h (by simp));conv=>whnf
 refine kR ?_;rw[HE (n:=a+2000) (by omega)];constructor<;>intro h;have h:a+2000<b:=of_decide_eq_true h;rw[if_pos h];exact Er;have h:¬a+2000<b:=of_decide_eq_false h;rw[if_neg h];refine kW ?_;rw[HE (n:=a+1) (by omega),HE (n:=b-a) (by omega)];refine kC (Ta c (a+1) (b-a) hc) ?_;have LQ:=Wm c (a+1) (b-a) hc (by omega) (by omega) (by omega) (by omega);have hlen:(Dz c (a+1) (b-a).toNat).length<=5000:=by unfold Dz;refine Nat.le_trans (List.length_filter_le _ _) ?_;simp;omega
 generalize Dz c (a+1) (b-a).toNat=L at*
 refine Aa.Hi (E0:=mk 38 [(3,.ptr 0 0),(7,.ptr 1 0)]) (xs:=L.map λx=>[AV.int .i64 x]) (O0 ?_) rfl rfl LQ rfl (λvs k (_:Unit)=>[.cells [.int .i64 c.Bc,.sl 1 (c.Bw.map .bool),ints c.AZ],.cells [.int .i64 k]]++[.ghost (mk 38 [(3,.ptr 0 0),(7,.ptr 1 0)]) vs []]) (λk _=>k<=L.length) () (BR _)
  (λ_ _ _=>False) (λvs=>rfl)
  (λvs k _ _=>⟨rfl,rfl,by(conv=>whnf);repeat(first|exact trivial|(refine⟨rfl,?_⟩;conv=>whnf))⟩) (λvs k _ x hk hx=>?_) (λh=>(h trivial).elim) (λvs _ h=>?_) (λ_ _ _ h=>h.elim)
 ·exact Ya8
 ·have AA:k<L.length:=by have:=(CJ.1 hx).1;simpa using this
  obtain rfl:x=[.int .i64 L[k]]:=by rw[Cb,BQ AA]at hx;exact(E2.inj hx).symm
  have EV:=ZI k (by omega);refine⟨rfl,?_⟩;refine kW ?_;refine⟨(),by omega,?_⟩;conv=>whnf
  rw[EV];repeat first|exact trivial|(refine⟨rfl,?_⟩;conv=>whnf)
 refine kW ?_;exact congrArg (λk:Nat=>AV.int .i64 (k:Int)) (Ax ..)
theorem rN(c:Dm)(d:Int)(hc:CX c=true)(hd:LW d=true):Au Pg 325 [c.v,.int .i64 d] (λr=>r=.bool (S7 c d)):=by
 refine kB func325 rfl ?_;refine kC (He c) ?_;rw[hc];refine BU (λh=>?_) (λh=>absurd h (by simp));conv=>whnf
 refine kR ?_;refine kC (GG d) ?_;rw[hd];refine BU (λh=>?_) (λh=>absurd h (by simp));conv=>whnf
 refine kR ?_;refine kC (RC c hc) ?_;exact pE (S6 c d hc hd)
abbrev Bs:=List UInt8
structure LC where
 name:Bs
 oper:Int
 Gs:Int
 Bg:Int
 As:Int
 Ap:Int
 AK:List Bs
structure Im where
 name:Bs
 fr:Int
 dst:Int
 dep:Int
 Bb:Int
 load:Int
structure Io where
 name:Bs
 cut:Int
 Be:Int
structure Net where
 Aq:List Dm
 names:List Bs
 opers:List Bs
 Ag:List LC
 Am:List Im
 Ao:List Io
def LC.v(o:LC):AV:=.agg [.str o.name,.int .i64 o.oper,.int .i64 o.Gs,.int .i64 o.Bg,.int .i64 o.As,.int .i64 o.Ap,.sl 1 (o.AK.map .str)]
def Im.v(l:Im):AV:=.agg [.str l.name,.int .i64 l.fr,.int .i64 l.dst,.int .i64 l.dep,.int .i64 l.Bb,.int .i64 l.load]
def Io.v(k:Io):AV:=.agg [.str k.name,.int .i64 k.cut,.int .i64 k.Be]
def Net.c(n:Net):List AV:=[.sl 3 (n.Aq.map Dm.v),.sl 1 (n.names.map .str),.sl 1 (n.opers.map λs=>.agg [.str s]),.sl 7 (n.Ag.map LC.v),.sl 6 (n.Am.map Im.v),.sl 3 (n.Ao.map Io.v)]
def Net.v(n:Net):AV:=.agg n.c
structure Dw(n:Net):Prop where
 Gs:∀c∈n.Aq,CX c=true
 Cd:∀o∈n.Ag,0<=o.Gs/\o.Gs<n.Aq.length/\1<=o.As/\o.As<=4/\1<=o.Ap/\o.Ap<=240
 B3:∀l∈n.Am,0<=l.fr/\l.fr<n.Ag.length/\0<=l.dst/\l.dst<n.Ag.length/\0<=l.dep/\l.dep<1440/\1<=l.Bb/\l.Bb<=5000
 cls:∀k∈n.Ao,0<=k.cut/\k.cut<1440/\0<=k.Be/\k.Be<1440
 len:n.Aq.length<=6/\n.Ag.length<=12/\n.Am.length<=40/\n.Ao.length<=4
def xK:Dm:=⟨0,[],[]⟩
def GY:LC:=⟨[],0,0,0,0,0,[]⟩
def GD:Im:=⟨[],0,0,0,0,0⟩
def Qd:Io:=⟨[],0,0⟩
def Net.B3(n:Net)(i:Int):Im:=n.Am.getD i.toNat GD
def Net.Cd(n:Net)(i:Int):LC:=n.Ag.getD i.toNat GY
def Net.cls(n:Net)(i:Int):Io:=n.Ao.getD i.toNat Qd
def Net.Cn(n:Net)(o:Int):Dm:=n.Aq.getD (n.Cd o).Gs.toNat xK
def Net.JU(n:Net)(i:Int):Dm:=n.Cn (n.B3 i).fr
theorem getD_map{α:Type}(v:α->AV)(l:List α)(d:α){i:Int}(h0:0<=i)(h:i<l.length):(l.map v)[i.toNat]?=some (v (l.getD i.toNat d)):=by
 have:i.toNat<l.length:=by omega
 simp[this]
theorem Bx{α:Type}{l:List α}(d:α){i:Int}(h0:0<=i)(h:i<l.length):l.getD i.toNat d∈l:=by
 have:i.toNat<l.length:=by omega
 simp[this]
section
variable {n:Net}(hn:Dw n)
include hn
theorem Dw.Il{o:Int}(h0:0<=o)(h:o<n.Ag.length):CX (n.Cn o)=true:=by
 have:=hn.Cd _ (Bx GY h0 h);exact hn.Gs _ (Bx _ this.1 this.2.1)
end
theorem xJ(n:Net)(hn:Dw n)(i:Int)(h0:0<=i)(h1:i<n.Am.length):Au Pg 301 [n.v,.int .i64 i] (λr=>r=(n.JU i).v):=by
 have hl:=hn.B3 _ (Bx GD h0 h1);have hf:=hn.Cd _ (Bx GY hl.1 hl.2.1);refine kB func301 rfl ?_;refine Aa.draw [15] Ab mO (by kernel_rfl) ?_;conv=>whnf
 refine⟨h0,_,getD_map Im.v n.Am GD h0 h1,?_⟩;conv=>whnf
 refine⟨hl.1,_,getD_map LC.v n.Ag GY hl.1 hl.2.1,?_⟩;conv=>whnf
 refine⟨hf.1,_,getD_map Dm.v n.Aq xK hf.1 hf.2.1,?_⟩;refine kW ?_;rfl
def ZfS(c:Dm)(a b:Int):List AV:=[.at_ [.int .i64 a],.at_ [.int .i64 b],.at_ [.int .i64 c.Bc,.sl 1 (c.Bw.map .bool),ints c.AZ]]
theorem iA(c:Dm)(a b:Int):Au Pg 302 [c.v,.int .i64 a,.int .i64 b] (λr=>r=.fn 324 (ZfS c a b)):=by
 refine kB func302 rfl ?_;rfl
theorem sB(c:Dm)(d b:Int)(hc:CX c=true)(hd:-900000<=d)(hd2:d<=900000)(hb:b<=d+5000)(hb0:-900000<=b):xT Pg 324 (ZfS c d b) ((Dz c d (b+1-d).toNat).map λx=>[AV.int .i64 x]) True:=by
 refine xT.Ak func324 rfl Ab (by kernel_rfl) rfl λy I Ix Ip _ hy=>?_;have xY:∀(k:Nat)(x:List AV),((Dz c d (b+1-d).toNat).map λx=>[AV.int .i64 x])[k]?=some x->Nd Pg (.func (.yield y) #[] #[]) x (I k) (I (k+1)) Ix Ip:=hy;clear hy;obtain⟨n,hn⟩:∃n,n=(b+1-d).toNat:=⟨_,rfl⟩;rw[<-hn]at xY ⊢;refine kW ?_;refine Aa.Ar (λi:Nat=>mk 21 [(0,.raw (.func (.yield y) #[] #[])),(1,.at_ [.int .i64 d]),(2,.at_ [.int .i64 b]),(3,.at_ [.int .i64 c.Bc,.sl 1 (c.Bw.map .bool),ints c.AZ]),(5,.int .i64 (d+(i:Nat)))]) (λi=>[.inv (I (Dz c d i).length)]) (λi=>i<=n) (λi=>n-i) (λ_ _=>⟨rfl,trivial⟩) ⟨0,?_⟩ (λ_=>rfl) λi hi=>?_;refine kQ ?_;exact BR _;refine kR ?_;constructor<;>intro h
 ·have h:i<n:=by have:=of_decide_eq_true h;omega
  have EV:Wr .i64 (d+(i:Int)+1)=d+((i+1:Nat):Int):=by rw[HE (by omega)];omega
  refine kW ?_;refine kC (rN c (d+(i:Nat)) hc (by unfold LW;simp;omega)) ?_;exact Ya5
 have h:i=n:=by have:=of_decide_eq_false h;omega
 refine kW ?_;exact .inl (by rw[h,Ax])
def JS(z m t:Int):List Int->Int×Bool
 |[]=>(0,false)
 |d::r=>if d*1440+m-z<t then JS z m t r else if t+86400<=d*1440+m-z then (0,false)else (d*1440+m-z,true)
def MS(c:Dm)(m t:Int):Int×Bool:=JS c.Bc m t (Dz c ((t+c.Bc)/1440) 61)
theorem lQ(n:Net)(hn:Dw n)(i t:Int)(h0:0<=i)(h1:i<n.Am.length)(t0:0<=t)(t1:t<=4000000):Au Pg 250 [n.v,.int .i64 i,.int .i64 t] (λr=>r=.tuple [.int .i64 (MS (n.JU i) (n.B3 i).dep t).1,.bool (MS (n.JU i) (n.B3 i).dep t).2]):=by
 have hl:=hn.B3 _ (Bx GD h0 h1);have hc:CX (n.JU i)=true:=hn.Il hl.1 hl.2.1;refine kB func250 rfl ?_;refine kC (xJ n hn i h0 h1) ?_;refine kC (Fa (n.JU i) t hc (by omega) (by omega)) ?_;obtain⟨c,SZ⟩:∃c,c=n.JU i:=⟨_,rfl⟩;obtain⟨l,gJ⟩:∃l,l=n.B3 i:=⟨_,rfl⟩;have hz:-720<=c.Bc/\c.Bc<=840:=by rw[SZ];unfold CX at hc;simp at hc;omega
 rw[<-SZ]at hc ⊢;rw[<-gJ];obtain⟨d,hd⟩:∃d,d=(t+c.Bc)/1440:=⟨_,rfl⟩;unfold MS;rw[<-hd];rw[HE (n:=d+60) (by omega)];refine kC (iA c d (d+60)) ?_;have LQ:=sB c d (d+60) hc (by omega) (by omega) (by omega) (by omega);rw[show(d+60+1-d).toNat=61 by omega]at LQ;have hL:∀x∈Dz c d 61,d<=x/\x<=d+60:=λx hx=>by unfold Dz at hx;obtain⟨h,_⟩:=FG.1 hx;obtain⟨j,hj,rfl⟩:=Ce.1 h;have:=F5.1 hj;omega
 generalize Dz c d 61=L at*;have hm:0<=l.dep/\l.dep<1440:=by rw[gJ];exact⟨hl.2.2.2.2.1,hl.2.2.2.2.2.1⟩
 have Dy:(n.Am.map Im.v)[i.toNat]?=some l.v:=by rw[gJ];exact getD_map Im.v n.Am GD h0 h1
 refine Aa.Hi (E0:=mk 45 [(3,.ptr 0 0),(4,.ptr 1 0),(5,.ptr 2 0),(6,.ptr 3 0),(7,.ptr 4 0),(8,.ptr 5 0)]) (xs:=L.map λx=>[AV.int .i64 x]) (O0 ?_) rfl rfl LQ rfl
  (λvs k (_:Unit)=>[.cells n.c,.cells [.int .i64 i],.cells [.int .i64 t],.cells [.int .i64 0],.cells [.lit false],.cells [.int .i64 c.Bc,.sl 1 (c.Bw.map .bool),ints c.AZ]]++[.ghost (mk 45 [(3,.ptr 0 0),(4,.ptr 1 0),(5,.ptr 2 0),(6,.ptr 3 0),(7,.ptr 4 0),(8,.ptr 5 0)]) vs []])
  (λk _=>k<=L.length/\JS c.Bc l.dep t L=JS c.Bc l.dep t (L.drop k)) () ⟨BR _,rfl⟩
  (λvs e H=>(e=.ret/\∃x,JS c.Bc l.dep t L=(x,true)/\H.take 5=[.cells n.c,.cells [.int .i64 i],.cells [.int .i64 t],.cells [.int .i64 x],.cells [.lit true]])\/(e=.exit 0/\JS c.Bc l.dep t L=(0,false)/\H.take 5=[.cells n.c,.cells [.int .i64 i],.cells [.int .i64 t],.cells [.int .i64 0],.cells [.lit false]])) (λvs=>rfl)
  (λvs k _ _=>⟨rfl,rfl,by(conv=>whnf);repeat(first|exact trivial|(refine⟨rfl,?_⟩;conv=>whnf))⟩) (λvs k _ x hk hx=>?_) (λh=>(h trivial).elim) (λvs _ h=>?_) (λvs e H h=>?_)
 ·exact Ya8
 ·have AA:k<L.length:=by have:=(CJ.1 hx).1;simpa using this
  obtain rfl:x=[.int .i64 L[k]]:=by rw[Cb,BQ AA]at hx;exact(E2.inj hx).symm
  obtain⟨hk,hf⟩:=hk;rw[DP AA]at hf;have hx:=hL _ (Dk AA);generalize L[k]=x at*;have hf2:JS c.Bc l.dep t (x::L.drop (k+1))=if x*1440+l.dep-c.Bc<t then JS c.Bc l.dep t (L.drop (k+1))else if t+86400<=x*1440+l.dep-c.Bc then (0,false)else (x*1440+l.dep-c.Bc,true):=rfl
  rw[hf2]at hf;clear hf2;refine⟨rfl,?_⟩;refine kW ?_;refine Aa.draw [] Ab mO (by kernel_rfl) ?_;conv=>whnf
  refine⟨h0,_,Dy,?_⟩;conv=>whnf
  refine⟨_,⟨Qw c x l.dep hc (by unfold LW;simp;omega) hm.1 hm.2,rfl⟩,?_⟩;conv=>whnf
  obtain⟨y,hy⟩:∃y,y=x*1440+l.dep-c.Bc:=⟨_,rfl⟩;rw[<-hy]at hf ⊢;refine kW ?_;constructor<;>intro h;·rw[if_pos (of_decide_eq_true h)]at hf;refine kW ?_;refine⟨(),⟨AA,hf⟩,?_⟩;(conv=>whnf);repeat first|exact trivial|(refine⟨rfl,?_⟩;conv=>whnf)
  have h:=of_decide_eq_false h;rw[if_neg h]at hf;refine kW ?_;rw[HE (n:=t+86400) (by omega)];constructor<;>intro g;rw[if_pos (of_decide_eq_true g)]at hf;refine kW ?_;exact⟨⟨_,rfl⟩,.inr ⟨rfl,hf,rfl⟩,rfl,rfl⟩;rw[if_neg (of_decide_eq_false g)]at hf;refine kW ?_;exact⟨⟨_,rfl⟩,.inl ⟨rfl,y,hf,rfl⟩,rfl,rfl⟩
 rw[Ax,List.drop_length]at h;rw[h.2];refine kW ?_;rfl;rcases h with⟨rfl,x,hf,h⟩|⟨rfl,hf,h⟩
 all_goals
  rcases H with _|⟨y1,_|⟨y2,_|⟨y3,_|⟨y4,_|⟨y5,H⟩⟩⟩⟩⟩<;>simp at h;obtain⟨rfl,rfl,rfl,rfl,rfl⟩:=h;rw[hf];exact Er
theorem ZaY(x:Int):Au Pg 326 [.int .i64 x] (λr=>r=.bool false):=by
 refine kB func326 rfl ?_;exact congrArg AV.bool (by simp)
theorem uJ(x y:Int):Au Pg 303 [.int .i64 x,.int .i64 y] (λr=>r=.bool (decide (x<y))):=by
 refine kB func303 rfl ?_;refine kC (ZaY x) ?_;exact kDe
theorem Y9(x y:Int):Au Pg 251 [.int .i64 x,.int .i64 y] (λr=>r=.int .i64 (max x y)):=by
 refine kB func251 rfl ?_;refine kC (uJ x y) ?_;constructor<;>intro h;have h:=of_decide_eq_true h;refine kW ?_;exact congrArg (AV.int .i64) (by omega);have h:=of_decide_eq_false h;refine kW ?_;exact congrArg (AV.int .i64) (by omega)
theorem XJ{z m t:Int}:∀{l:List Int}{y:Int},JS z m t l=(y,true)->t<=y/\y<t+86400
 |[],y,h=>by cases h
 |d::r,y,h=>by unfold JS at h;split at h;exact XJ h;split at h;cases h;cases h;omega
def Wo(c:Dm)(m till:Int):Nat->Int->Int->Int×Int
 |0,_,w=>(w,0)
 |f+1,t,w=>if t<till then (if (MS c m t).2=true then Wo c m till f ((MS c m t).1+1) (max w ((MS c m t).1-t))else (0,20))else (w,0)
def RD(c:Dm)(m fr till:Int):Int×Int:=Wo c m till (till-fr).toNat fr 0
theorem rU{c:Dm}{m till w:Int}{f:Nat}(h:till<=t):Wo c m till f t w=(w,0):=by
 cases f with
 |zero=>rfl
 |succ f=>unfold Wo;rw[if_neg (by omega)]
theorem rT(n:Net)(hn:Dw n)(i fr till:Int)(h0:0<=i)(h1:i<n.Am.length)(f0:0<=fr)(f1:fr<till)(f2:till<=2000000)(f3:till<=fr+86400)
  (hu:Au Pg 249 [n.v,.int .i64 i,ints [fr,till]] (λr=>r=.bool true)):Au Pg 194 [n.v,.int .i64 i,.int .i64 fr,.int .i64 till] (λr=>r=.tuple [.int .i64 (RD (n.JU i) (n.B3 i).dep fr till).1,.int .i64 (RD (n.JU i) (n.B3 i).dep fr till).2]):=by
 refine kB func194 rfl ?_;refine Ah.freeze 1 ?_ (by kernel_rfl);conv=>whnf
 refine⟨by simp[closed,AI],?_⟩;conv=>whnf
 repeat(refine⟨(by first|rfl|(simp;done):(_:Nat)=_),?_⟩;conv=>whnf)
 refine kC (hu) ?_;refine BU (λh=>?_) (λh=>absurd h (by simp));conv=>whnf
 refine kR ?_;refine⟨λ_=>?_,λh=>absurd (of_decide_eq_true h) (by omega)⟩;refine kW ?_;rw[HE (n:=fr+86400) (by omega)];refine⟨λh=>absurd (of_decide_eq_true h) (by omega),λ_=>?_⟩;refine kW ?_;have hl:=hn.B3 _ (Bx GD h0 h1);refine Aa.Ar (λx:Nat×Int×Int=>mk 53 [(1,.int .i64 i),(3,.int .i64 till),(4,.ptr 0 0),(10,.int .i64 x.2.2),(11,.int .i64 x.2.1)]) (λ_=>[.cells n.c,.dead]) (λx=>RD (n.JU i) (n.B3 i).dep fr till=Wo (n.JU i) (n.B3 i).dep till x.1 x.2.1 x.2.2/\(till-x.2.1).toNat<=x.1/\0<=x.2.1/\x.2.1<=3000000/\0<=x.2.2/\x.2.2<=86400) (λx=>x.1) (λ_ _=>⟨rfl,rfl,trivial⟩) ⟨((till-fr).toNat,fr,0),?_⟩ (λ_=>rfl) λx hx=>?_;refine kQ ?_;exact⟨f0,(by show fr<=3000000;omega),(show(0:Int)<=0 by decide),(show(0:Int)<=86400 by decide)⟩;obtain⟨f,t,w⟩:=x;obtain⟨e1,e2,e3,e4,e5,e6⟩:=hx;simp only at e1 e2 e3 e4 e5 e6;refine kR ?_;constructor<;>intro h
 ·have AA:t<till:=of_decide_eq_true h;clear h;obtain⟨f,rfl⟩:∃g,f=g+1:=⟨f-1,by omega⟩;unfold Wo at e1;rw[if_pos AA]at e1;have ET:∀y,MS (n.JU i) (n.B3 i).dep t=(y,true)->t<=y/\y<t+86400:=λy h=>XJ h;refine kW ?_;refine kC (lQ n hn i t h0 h1 e3 (by omega)) ?_;generalize MS (n.JU i) (n.B3 i).dep t=R at*;obtain⟨y,ok⟩:=R;simp only at e1;constructor<;>intro g;·(have g:ok=false:=by simpa using g);subst g;rw[if_neg (by decide)]at e1;rw[e1];exact Er
  have g:ok=true:=by simpa using g
  subst g;rw[if_pos rfl]at e1;obtain⟨y1,y2⟩:=ET y rfl;refine kW ?_;rw[HE (n:=y-t) (by omega)];refine kC (Y9 w (y-t)) ?_;have EV:Wr .i64 (y+1)=y+1:=HE (by omega);refine⟨(f,y+1,max w (y-t)),?_⟩;refine gF EV ?_;exact⟨⟨e1,by show(till-(y+1)).toNat<=f;omega,by show 0<=y+1;omega,by show y+1<=3000000;omega,by show 0<=max w (y-t);omega,by show max w (y-t)<=86400;omega⟩,CT f⟩
 have h:¬t<till:=of_decide_eq_false h;rw[e1,rU (by omega)];exact Er
def Gl(c:Dm)(m t:Int):Int:=(t+c.Bc)/1440+(if m<(t+c.Bc)%1440 then 1 else 0)
def DV(c:Dm)(m t:Int):Int×Int:=if (IN c (Gl c m t)).2=0 then ((IN c (Gl c m t)).1*1440+m-c.Bc,0)else (0,(IN c (Gl c m t)).2)
theorem rO{c:Dm}{x:Int}{n:Nat}(h:x∈Dz c d n):d<=x/\x<d+n/\S7 c x=true:=by
 unfold Dz at h;obtain⟨h,hw⟩:=FG.1 h;obtain⟨j,hj,rfl⟩:=Ce.1 h;have:=F5.1 hj;exact⟨by omega,by omega,hw⟩
theorem My(c:Dm)(d:Int):((IN c d).2=0/\d<=(IN c d).1/\(IN c d).1<d+60)\/((IN c d).2=20/\(IN c d).1=0):=by
 unfold IN;cases h:Dz c d 60 with
 |nil=>exact .inr ⟨rfl,rfl⟩
 |cons x l=>
  have:=rO (c:=c) (d:=d) (x:=x) (n:=60) (by rw[h];simp);exact .inl ⟨rfl,this.1,this.2.1⟩
theorem JY{c:Dm}(hc:CX c=true):-720<=c.Bc/\c.Bc<=840:=by unfold CX at hc;simp at hc;omega
theorem Mr(c:Dm)(m t:Int)(hc:CX c=true)(m0:0<=m)(m1:m<1440)(t0:-2000000<=t)(t1:t<=20000000):Au Pg 263 [c.v,.int .i64 m,.int .i64 t] (λr=>r=.tuple [.int .i64 (DV c m t).1,.int .i64 (DV c m t).2]):=by
 have hz:=JY hc;refine kB func263 rfl ?_;refine kC (Fa c t hc (by omega) (by omega)) ?_;have hd:Gl c m t=(t+c.Bc)/1440+(if m<(t+c.Bc)%1440 then 1 else 0):=rfl;have hdr:-3000<=Gl c m t/\Gl c m t<=20000:=by rw[hd];split<;>omega
 have hn:=My c (Gl c m t);have hns:=WY c (Gl c m t) hc (by omega) (by omega);unfold DV;generalize (t+c.Bc)/1440=d at*;constructor<;>intro h;rw[if_pos (of_decide_eq_true h)]at hd;refine kW ?_;rw[HE (n:=d+1) (by omega),<-hd]
 rotate_left
 rw[if_neg (of_decide_eq_false h),Int.add_zero]at hd;refine kW ?_;rw[<-hd]
 all_goals
  clear hd;refine kC (hns) ?_;generalize IN c (Gl c m t)=N at*;generalize Gl c m t=D at*;obtain⟨x,e⟩:=N;simp only at hn;constructor<;>intro h;·(have h:¬e=0:=by simpa using h);rw[if_neg h];exact Er
  have h:e=0:=by simpa using h
  subst h;rw[if_pos rfl];refine kW ?_;exact pE (Qw c x m hc (by unfold LW;simp;omega) m0 m1)
theorem Nr(n:Net)(hn:Dw n)(o:Int)(h0:0<=o)(h1:o<n.Ag.length):Au Pg 264 [.at_ n.c,.int .i64 o] (λr=>r=(n.Cn o).v):=by
 have hf:=hn.Cd _ (Bx GY h0 h1);refine kB func264 rfl ?_;refine Aa.draw [14] Ab mO (by kernel_rfl) ?_;conv=>whnf
 refine⟨h0,_,getD_map LC.v n.Ag GY h0 h1,?_⟩;conv=>whnf
 refine⟨hf.1,_,getD_map Dm.v n.Aq xK hf.1 hf.2.1,?_⟩;refine kW ?_;rfl
theorem E5{n:Net}(hn:Dw n){o:Int}(h0:0<=o)(h1:o<n.Ag.length):0<=(n.Cd o).As*(n.Cd o).Ap/\(n.Cd o).As*(n.Cd o).Ap<=960:=by
 have hf:=hn.Cd _ (Bx GY h0 h1);exact⟨Int.mul_nonneg (by unfold Net.Cd;omega) (by unfold Net.Cd;omega),EW (a:=(n.Cd o).As) (b:=(n.Cd o).Ap) (c:=4) (d:=240) hf.2.2.2.1 hf.2.2.2.2.2 (by unfold Net.Cd;omega) (by decide)⟩
theorem Oy(n:Net)(hn:Dw n)(o t:Int)(h0:0<=o)(h1:o<n.Ag.length)(t0:-2000000<=t)(t1:t<=20000000):Au Pg 319 [.at_ n.c,.int .i64 o,.int .i64 t] (λr=>r=.int .i64 (t+(n.Cd o).As*(n.Cd o).Ap)):=by
 have hf:=hn.Cd _ (Bx GY h0 h1);refine kB func319 rfl ?_;refine Aa.draw [] Ab mO (by kernel_rfl) ?_;conv=>whnf
 refine⟨h0,_,getD_map LC.v n.Ag GY h0 h1,?_⟩;conv=>whnf
 refine⟨h0,_,getD_map LC.v n.Ag GY h0 h1,?_⟩;refine kW ?_;have hb:=E5 hn h0 h1;exact congrArg (AV.int .i64) (by show Wr .i64 (t+Wr .i64 ((n.Cd o).As*(n.Cd o).Ap))=_;rw[HE (n:=(n.Cd o).As*(n.Cd o).Ap) (by omega),HE (by omega)])
theorem Nv{c:Dm}{m:Int}(m0:0<=m)(m1:m<1440)(h:(DV c m t).2=0):t<=(DV c m t).1/\(DV c m t).1<=t+100000:=by
 have hn:=My c (Gl c m t);have hd:Gl c m t=(t+c.Bc)/1440+(if m<(t+c.Bc)%1440 then 1 else 0):=rfl;unfold DV at h⊢;generalize IN c (Gl c m t)=N at*;split at h
 ·rename_i e;rw[if_pos e];rcases hn with⟨_,h1,h2⟩|⟨h1,_⟩;·show t<=N.1*1440+m-c.Bc/\N.1*1440+m-c.Bc<=t+100000;split at hd<;>rename_i g<;>omega
  omega
 rename_i e;exact absurd h e
theorem ZaA(t:Int):Au Pg 334 [.int .i64 t] (λr=>r=.bool (decide (0<=t)&&decide (t<=2000000))):=by
 refine kB func334 rfl ?_
 repeat' (first|(refine BU (λ_=>?_) (λ_=>?_)<;>conv=>whnf)|refine Ql ?_|fail)
 all_goals (first|(simp_all;done)|(simp_all;omega))
def BO(n:Net)(i t:Int):Int×Int:=if 0<=t/\t<=2000000 then DV (n.JU i) (n.B3 i).dep t else (0,1)
theorem Sj(n:Net)(hn:Dw n)(i t:Int)(h0:0<=i)(h1:i<n.Am.length):Au Pg 318 [.at_ n.c,.int .i64 i,.int .i64 t] (λr=>r=.tuple [.int .i64 (BO n i t).1,.int .i64 (BO n i t).2]):=by
 have hl:=hn.B3 _ (Bx GD h0 h1);have hc:CX (n.JU i)=true:=hn.Il hl.1 hl.2.1;have Dy:(n.Am.map Im.v)[i.toNat]?=some (n.B3 i).v:=getD_map Im.v n.Am GD h0 h1;refine kB func318 rfl ?_;refine kC (ZaA t) ?_;constructor<;>intro h
 ·have h:¬(0<=t/\t<=2000000):=by simp at h;omega
  unfold BO;rw[if_neg h];exact Er
 have h:0<=t/\t<=2000000:=by simpa using h
 unfold BO;rw[if_pos h];refine kW ?_;refine Aa.draw [] Ab mO (by kernel_rfl) ?_;conv=>whnf
 refine⟨h0,_,Dy,?_⟩;conv=>whnf
 refine⟨_,⟨Nr n hn (n.B3 i).fr hl.1 hl.2.1,rfl⟩,?_⟩;conv=>whnf
 refine⟨h0,_,Dy,?_⟩;conv=>whnf
 refine⟨_,⟨Mr (n.JU i) (n.B3 i).dep t hc hl.2.2.2.2.1 hl.2.2.2.2.2.1 (by omega) (by omega),rfl⟩,?_⟩;conv=>whnf
 exact Er
theorem Wa(n:Net)(hn:Dw n)(k o t:Int)(k0:0<=k)(k1:k<n.Ao.length)(h0:0<=o)(h1:o<n.Ag.length)(t0:0<=t)(t1:t<=10000000):Au Pg 267 [.at_ n.c,.int .i64 k,.int .i64 o,.int .i64 t] (λr=>r=.tuple [.int .i64 (DV (n.Cn o) (n.cls k).Be (t+(n.Cd o).As*(n.Cd o).Ap)).1,.int .i64 (DV (n.Cn o) (n.cls k).Be (t+(n.Cd o).As*(n.Cd o).Ap)).2]):=by
 have hk:=hn.cls _ (Bx Qd k0 k1);have hc:CX (n.Cn o)=true:=hn.Il h0 h1;have Dy:(n.Ao.map Io.v)[k.toNat]?=some (n.cls k).v:=getD_map Io.v n.Ao Qd k0 k1;have hr:=E5 hn h0 h1;refine kB func267 rfl ?_;refine Aa.draw [] Ab mO (by kernel_rfl) ?_;conv=>whnf
 refine⟨_,⟨Nr n hn o h0 h1,rfl⟩,?_⟩;conv=>whnf
 refine⟨k0,_,Dy,?_⟩;conv=>whnf
 refine⟨_,⟨Oy n hn o t h0 h1 (by omega) (by omega),rfl⟩,?_⟩;conv=>whnf
 refine⟨_,⟨Mr (n.Cn o) (n.cls k).Be (t+(n.Cd o).As*(n.Cd o).Ap) hc hk.2.2.1 hk.2.2.2 (by omega) (by omega),rfl⟩,?_⟩;conv=>whnf
 exact Er
def LX(c:Dm)(m till:Int):Nat->Int->List Int
 |0,_=>[]
 |f+1,t=>if (DV c m t).2=0/\(DV c m t).1<till then (DV c m t).1::LX c m till f ((DV c m t).1+1)else []
def Zcx(n:Net)(k o fr till:Int):List AV:=[.at_ [.int .i64 fr],.at_ [.at_ n.c],.at_ [.int .i64 o],.at_ [.int .i64 k],.at_ [.int .i64 till]]
theorem Zk(n:Net)(k o fr till:Int):Au Pg 203 [.at_ n.c,.int .i64 k,.int .i64 o,.int .i64 fr,.int .i64 till] (λr=>r=.fn 262 (Zcx n k o fr till)):=by
 refine kB func203 rfl ?_;rfl
theorem fF{c:Dm}{m till t:Int}{f:Nat}(h:¬((DV c m t).2=0/\(DV c m t).1<till)):LX c m till f t=[]:=by
 cases f with
 |zero=>rfl
 |succ f=>unfold LX;rw[if_neg h]
theorem fD(n:Net)(hn:Dw n)(k o fr till:Int)(k0:0<=k)(k1:k<n.Ao.length)(h0:0<=o)(h1:o<n.Ag.length)(t0:0<=fr)(t1:fr<=1000000)(t2:till<=1000000):
  xT Pg 262 (Zcx n k o fr till) ((LX (n.Cn o) (n.cls k).cut till (till-fr).toNat fr).map λx=>[AV.int .i64 x]) True:=by
 have hk:=hn.cls _ (Bx Qd k0 k1);have hc:CX (n.Cn o)=true:=hn.Il h0 h1;have Dy:(n.Ao.map Io.v)[k.toNat]?=some (n.cls k).v:=getD_map Io.v n.Ao Qd k0 k1;have hm:0<=(n.cls k).cut/\(n.cls k).cut<1440:=⟨hk.1,hk.2.1⟩;refine xT.Ak func262 rfl Ab (by kernel_rfl) rfl λy I Ix Ip _ hy=>?_;obtain⟨L,hL⟩:∃L,L=LX (n.Cn o) (n.cls k).cut till (till-fr).toNat fr:=⟨_,rfl⟩;have xY:∀(k:Nat)(x:List AV),(L.map λx=>[AV.int .i64 x])[k]?=some x->Nd Pg (.func (.yield y) #[] #[]) x (I k) (I (k+1)) Ix Ip:=by rw[hL];exact hy
 clear hy;rw[<-hL];have hx:=λt (h:(DV (n.Cn o) (n.cls k).cut t).2=0)=>Nv hm.1 hm.2 h;generalize SZ:n.Cn o=c at*;generalize gH:(n.cls k).cut=m at*;refine kW ?_;refine Aa.Ar (λx:Nat×Nat×Int=>mk 42 [(0,.raw (.func (.yield y) #[] #[])),(1,.at_ [.int .i64 fr]),(2,.at_ [.at_ n.c]),(3,.at_ [.int .i64 o]),(4,.at_ [.int .i64 k]),(5,.at_ [.int .i64 till]),(7,.int .i64 x.2.2)]) (λx=>[.inv (I x.1)]) (λx=>L.drop x.1=LX c m till x.2.1 x.2.2/\x.1<=L.length/\(till-x.2.2).toNat<=x.2.1/\0<=x.2.2/\x.2.2<=1200000) (λx=>x.2.1) (λ_ _=>⟨rfl,trivial⟩) ⟨(0,(till-fr).toNat,fr),?_⟩ (λ_=>rfl) λx hxx=>?_;refine kQ ?_;exact⟨by simp[hL],BR _,E1 _,t0,by simp;omega⟩;obtain⟨j,f,t⟩:=x;obtain⟨e1,e2,e3,e4,e5⟩:=hxx;simp only at e1 e2 e3 e4 e5;refine kR ?_;refine Aa.draw [] Ab mO (by kernel_rfl) ?_;conv=>whnf
 refine⟨_,⟨Nr n hn o h0 h1,rfl⟩,?_⟩;conv=>whnf
 refine⟨k0,_,Dy,?_⟩;conv=>whnf
 rw[SZ,gH];refine⟨_,⟨Mr c m t hc hm.1 hm.2 (by omega) (by omega),rfl⟩,?_⟩;conv=>whnf
 have hxt:=hx t;have vW:=@fF c m till t f;have PU:∀f',f=f'+1->(DV c m t).2=0/\(DV c m t).1<till->LX c m till f t=(DV c m t).1::LX c m till f' ((DV c m t).1+1):=λf' e h=>by subst e;exact if_pos h
 clear hx;generalize DV c m t=r at*;obtain⟨x,err⟩:=r;simp only at hxt vW PU;have dF:¬(err=0/\x<till)->j=L.length:=λh=>by have:=congrArg List.length (e1.trans (vW h));simp at this;omega
 refine kW ?_;constructor<;>intro h
 ·have h:err=0:=by simpa using h
  refine kW ?_;constructor<;>intro g
  ·(have g:x<till:=by have:¬till<=x:=of_decide_eq_false g;omega);obtain⟨f',rfl⟩:∃f',f=f'+1:=⟨f-1,by have:=hxt h;omega⟩;have e6:=e1.trans (PU f' rfl ⟨h,g⟩);(have AA:j<L.length:=by have:=congrArg List.length e6;simp at this;omega);rw[DP AA]at e6;obtain⟨e7,e8⟩:=List.cons.inj e6;(have hg:(L.map λx=>[AV.int .i64 x])[j]?=some [.int .i64 x]:=by rw[Cb,BQ AA,e7];rfl);have EV:Wr .i64 (x+1)=x+1:=HE (by have:=hxt h;omega);refine kW ?_;refine⟨rfl,I (j+1),Ix,Ip,xY _ _ hg,λu=>by(conv=>whnf);exact⟨u,rfl,rfl⟩,?_,?_⟩;·refine kW ?_;refine⟨(j+1,f',x+1),?_⟩;refine gF EV ?_;have:=hxt h;exact⟨⟨e8,AA,by simp only;omega,by simp only;omega,by simp only;omega⟩,by simp only;omega⟩
   refine kW ?_;exact .inr rfl
  have g:till<=x:=of_decide_eq_true g;refine kW ?_;exact .inl (by rw[dF (by omega),Ax])
 have h:¬err=0:=by simpa using h
 refine kW ?_;exact .inl (by rw[dF (λg=>h g.1),Ax])
def DN(N:List (List Int)):AV:=.sl 1 (N.map ints)
def H6(n:Nat)(g:Int->Int->Int):List (List Int):=(BG n).map λi:Nat=>(BG n).map λj:Nat=>g i j
theorem Ad{α:Type}(f:α->AV)(hf:∀x,closed (f x)=true)(l:List α):∀e∈l.map f,closed e=true:=by
 intro e he;obtain⟨x,_,rfl⟩:=Ce.1 he;exact hf x
def C6:AV:=.raw (.slice none 0 0)
theorem J7(hk:L.length=k)(x:AV):(Bl L++A9 (m+1) C6).set (0+((k:Nat):Int).toNat) x=Bl L++x::A9 m C6:=by
 have:(Bl L).length=k:=by simp[Bl,hk]
 rw[De _ _ (by omega)];simp[this,C2]
theorem DB(hk:L.length=k)(x:AV)(R:List AV):(Bl L++x::R)[0+((k:Nat):Int).toNat]?=some x:=by
 have:(Bl L).length=k:=by simp[Bl,hk]
 rw[Dx (by omega)];simp[this]
theorem CN{R:List AV}(h:∀e∈R,closed e=true):∀e∈Bl L++R,closed e=true:=by
 intro e he;rcases FK.1 he with he|he;obtain⟨x,_,rfl⟩:=Ce.1 he;rfl;exact h e he
theorem CO:∀e∈A9 m C6,closed e=true:=λe he=>by rw[DW he];rfl
theorem Kh(b:Nat)(r r':List Int):(L++[(b,r)]).set L.length (b,r')=L++[(b,r')]:=by simp
theorem Kk(b:Nat)(r:List Int):(L++[(b,r)])[L.length]?=some (b,r):=by simp
def EL(n:Nat)(h:Int->Int)(j:Nat):List Int:=(BG j).map (λj:Nat=>h j)++A9 (n-j) 0
theorem FD{n:Nat}{h:Int->Int}(hj:j<=n):(EL n h j).length=n:=by simp[EL];omega
theorem J8(n:Nat)(h:Int->Int):EL n h n=(BG n).map λj:Nat=>h j:=by simp[EL]
theorem Mn{n:Nat}{h:Int->Int}(hj:j<n):(EL n h j).set (j:Int).toNat (h j)=EL n h (j+1):=by
 unfold EL;rw[E3];rw[De _ _ (by simp),Cc,D9,show n-j=(n-(j+1))+1 by omega];simp[C2]
theorem No{N:List (List Int)}(h:L.map C4=N):AV.sl 1 (Gy L)=DN N:=by
 subst h;simp[Gy,DN,ints]
theorem fS(n:Nat)(f:FuncId)(A1:List AV)(g:Int->Int->Int)(hn:n<=1000)
  (hf:∀i j:Nat,i<n->j<n->Au Pg f (.int .i64 i::.int .i64 j::[.at_ A1]) (λr=>r=.int .i64 (g i j))):
  Au Pg 253 [.int .i64 n,.fn f [.at_ A1]] (λr=>r=DN (H6 n g)):=by
 refine Au.Ak func253 rfl Ab (by kernel_rfl) ?_;conv=>whnf
 refine Aa.Mm 3 ?_;refine kR ?_;refine⟨⟨by omega,by omega,by omega⟩,?_⟩;refine kW ?_
 refine Aa.Ar (λL:List (Nat×List Int)=>mk 36 [(0,.int .i64 n),(1,.fn f [.at_ A1]),(5,.own 1 1 0 n),(10,.int .i64 n),(11,.int .i64 (L.length:Nat))]) (λL=>[.inv (Rz 3 L),.arr 49 1 (Bl L++A9 (n-L.length) C6)])
  (λL=>L.map C4=(BG L.length).map (λi:Nat=>(BG n).map λj:Nat=>g i j)/\L.length<=n) (λL=>n-L.length) (λL _=>⟨rfl,CN CO,trivial⟩) ⟨[],?_⟩ (λ_=>rfl) λL hL=>?_
 refine kQ ?_;exact BR _;obtain⟨h1,h2⟩:=hL;refine kR ?_;constructor<;>intro h
 ·have h:L.length<n:=by have:=of_decide_eq_true h;omega
  obtain⟨m,hm⟩:∃m,n-L.length=m+1:=⟨n-L.length-1,by omega⟩;rw[hm];iterate 6 (refine sT rfl ?_;conv=>whnf)
  refine Aa.K7 [3] Ab ?_;conv=>whnf
  refine⟨⟨by omega,rfl,by omega,by decide⟩,rfl,_,rfl,λb hb=>?_⟩;conv=>whnf
  refine⟨⟨by omega,by omega⟩,?_⟩;conv=>whnf
  refine⟨_,DB rfl _ _,?_⟩;conv=>whnf
  rw[J7 rfl];refine kW ?_
  refine Aa.Ar (λj:Nat=>mk 36 [(0,.int .i64 n),(1,.fn f [.at_ A1]),(5,.own 1 1 0 n),(6,.int .i64 (L.length:Nat)),(10,.int .i64 n),(11,.int .i64 (L.length:Nat)),(19,.int .i64 n),(20,.int .i64 j)]) (λj=>[.inv (Rz 3 (L++[(b,EL n (g L.length) j)])),.arr 49 1 (Bl L++.raw (K9 b n)::A9 m C6)])
   (λj=>j<=n) (λj=>n-j) (λj _=>⟨rfl,CN (by intro e he;rcases C1.1 he with rfl|he;rfl;exact CO e he),trivial⟩) ⟨0,?_⟩ (λ_=>rfl) λj hj=>?_
  refine kQ ?_;exact BR _;exact Ya4
 exact Yba
theorem fR(n:Nat)(f:FuncId)(A1 A2:List AV)(g:Int->Int->Int)(hn:n<=1000)
  (hf:∀i j:Nat,i<n->j<n->Au Pg f (.int .i64 i::.int .i64 j::[.at_ A1,.at_ A2]) (λr=>r=.int .i64 (g i j))):
  Au Pg 253 [.int .i64 n,.fn f [.at_ A1,.at_ A2]] (λr=>r=DN (H6 n g)):=by
 refine Au.Ak func253 rfl Ab (by kernel_rfl) ?_;conv=>whnf
 refine Aa.Mm 3 ?_;refine kR ?_;refine⟨⟨by omega,by omega,by omega⟩,?_⟩;refine kW ?_
 refine Aa.Ar (λL:List (Nat×List Int)=>mk 36 [(0,.int .i64 n),(1,.fn f [.at_ A1,.at_ A2]),(5,.own 1 1 0 n),(10,.int .i64 n),(11,.int .i64 (L.length:Nat))]) (λL=>[.inv (Rz 3 L),.arr 49 1 (Bl L++A9 (n-L.length) C6)])
  (λL=>L.map C4=(BG L.length).map (λi:Nat=>(BG n).map λj:Nat=>g i j)/\L.length<=n) (λL=>n-L.length) (λL _=>⟨rfl,CN CO,trivial⟩) ⟨[],?_⟩ (λ_=>rfl) λL hL=>?_
 refine kQ ?_;exact BR _;obtain⟨h1,h2⟩:=hL;refine kR ?_;constructor<;>intro h
 ·have h:L.length<n:=by have:=of_decide_eq_true h;omega
  obtain⟨m,hm⟩:∃m,n-L.length=m+1:=⟨n-L.length-1,by omega⟩;rw[hm];iterate 6 (refine sT rfl ?_;conv=>whnf)
  refine Aa.K7 [3] Ab ?_;conv=>whnf
  refine⟨⟨by omega,rfl,by omega,by decide⟩,rfl,_,rfl,λb hb=>?_⟩;conv=>whnf
  refine⟨⟨by omega,by omega⟩,?_⟩;conv=>whnf
  refine⟨_,DB rfl _ _,?_⟩;conv=>whnf
  rw[J7 rfl];refine kW ?_
  refine Aa.Ar (λj:Nat=>mk 36 [(0,.int .i64 n),(1,.fn f [.at_ A1,.at_ A2]),(5,.own 1 1 0 n),(6,.int .i64 (L.length:Nat)),(10,.int .i64 n),(11,.int .i64 (L.length:Nat)),(19,.int .i64 n),(20,.int .i64 j)]) (λj=>[.inv (Rz 3 (L++[(b,EL n (g L.length) j)])),.arr 49 1 (Bl L++.raw (K9 b n)::A9 m C6)])
   (λj=>j<=n) (λj=>n-j) (λj _=>⟨rfl,CN (by intro e he;rcases C1.1 he with rfl|he;rfl;exact CO e he),trivial⟩) ⟨0,?_⟩ (λ_=>rfl) λj hj=>?_
  refine kQ ?_;exact BR _;exact Ya4
 exact Yba
def eO(e:Int):AV:=.iface 36 (.int .i64 e)
theorem W2(v e:Int):Bq Pg 266 [.int .i64 v,.int .i64 e] [] (λr _=>e=0/\r=.int .i64 v) (λx _=>e≠0/\x=eO e):=by
 refine Bq.Ak func266 rfl Ab (by kernel_rfl) rfl ?_;refine kW ?_;constructor<;>intro h;refine kW ?_;exact⟨by simpa using h,rfl⟩;refine kW ?_;exact⟨by simpa using h,rfl⟩
theorem oT(v:Int):Au Pg 266 [.int .i64 v,.int .i64 0] (λr=>r=.int .i64 v):=by
 refine kB func266 rfl ?_;refine⟨λh=>absurd h (by simp),λ_=>?_⟩;exact Er
structure Stop where
 o:Int
 arr:Int
 dep:Int
 line:Int
def Stop.v(s:Stop):AV:=.agg [.int .i64 s.o,.int .i64 s.arr,.int .i64 s.dep,.int .i64 s.line]
theorem JE{n:Net}(hn:Dw n){i:Int}(h0:0<=i)(h1:i<n.Am.length)(h:(BO n i t).2=0):0<=t/\t<=(BO n i t).1/\(BO n i t).1<=2100000:=by
 have hl:=hn.B3 _ (Bx GD h0 h1);unfold BO at h⊢;by_cases ht:0<=t/\t<=2000000;rw[if_pos ht]at h ⊢;have:=Nv (m:=(n.B3 i).dep) hl.2.2.2.2.1 hl.2.2.2.2.2.1 h;omega;rw[if_neg ht]at h;cases h
def nx(N:List (List Int))(o d:Int):Int:=(N.getD o.toNat []).getD d.toNat 0
structure Et(n:Net)(N:List (List Int)):Prop where
 len:N.length=n.Ag.length
 row:∀o:Nat,o<N.length->(N.getD o []).length=n.Ag.length/\∀l∈N.getD o [],l=-1\/(0<=l/\l<n.Am.length/\(n.B3 l).fr=o)
def BI(n:Net)(N:List (List Int))(d:Int):Nat->Int->Int->Int×Int
 |f,o,t=>if o=d then (t,0)else if nx N o d=-1 then (0,170)else
  if (BO n (nx N o d) (t+(n.Cd o).As*(n.Cd o).Ap)).2≠0 then (0,(BO n (nx N o d) (t+(n.Cd o).As*(n.Cd o).Ap)).2)else
  match f with
  |0=>(0,170)
  |f+1=>BI n N d f (n.B3 (nx N o d)).dst ((BO n (nx N o d) (t+(n.Cd o).As*(n.Cd o).Ap)).1+(n.B3 (nx N o d)).Bb)
theorem rS(n:Net)(hn:Dw n)(N:List (List Int))(hN:Et n N)(o d t:Int)(o0:0<=o)(o1:o<n.Ag.length)(d0:0<=d)(d1:d<n.Ag.length)(t0:0<=t)(t1:t<=3000000):
  Bq Pg 265 [.at_ n.c,DN N,.int .i64 o,.int .i64 d,.int .i64 t] [] (λr _=>∃(S:List Stop) (s:Stop),r=.sl 4 ((S++[s]).map Stop.v)/\S.length<20/\BI n N d 19 o t=(s.arr,0)/\0<=s.arr/\s.arr<=3000000) (λx _=>x=eO (BI n N d 19 o t).2/\(BI n N d 19 o t).2≠0):=by
 refine Bq.Ak func265 rfl Ab (by kernel_rfl) rfl ?_;refine kW ?_
 refine Aa.Ar (λx:List Stop×Int×Int×Nat=>mk 93 [(0,.at_ n.c),(1,DN N),(3,.int .i64 d),(11,.own 0 4 0 (x.1.length+1)),(12,.int .i64 (x.1.length:Nat))]) (λx=>[.arr 297 4 ((x.1++[Stop.mk x.2.1 x.2.2.1 (-1) (-1)]).map Stop.v)])
  (λx=>x.1.length+x.2.2.2=19/\BI n N d 19 o t=BI n N d x.2.2.2 x.2.1 x.2.2.1/\0<=x.2.1/\x.2.1<n.Ag.length/\0<=x.2.2.1/\x.2.2.1<=3000000) (λx=>x.2.2.2) (λx _=>⟨rfl,λ_ h=>Ad _ (λ_=>rfl) _ _ h,trivial⟩) ⟨([],o,t,19),?_⟩ (λ_=>rfl) λx hx=>?_
 refine kQ ?_;exact⟨o0,o1,t0,t1⟩;obtain⟨S,o,t,f⟩:=x;simp only at hx;obtain⟨hf,hw,o0,o1,t0,t1⟩:=hx;rw[hw];clear hw;obtain⟨s,hs⟩:∃s,s=Stop.mk o t (-1) (-1):=⟨_,rfl⟩;have Dy:((S++[s]).map Stop.v)[0+((S.length:Nat):Int).toNat]?=some (.agg [.int .i64 o,.int .i64 t,.int .i64 (-1),.int .i64 (-1)]):=by simp[hs];rfl
 show Aa Pg _ (mk 93 [(0,.at_ n.c),(1,DN N),(3,.int .i64 d),(11,.own 0 4 0 (S.length+1)),(12,.int .i64 (S.length:Nat))]) [.arr 297 4 ((S++[Stop.mk o t (-1) (-1)]).map Stop.v)] _ _;rw[<-hs];have UI:∀s s':Stop,((S++[s]).map Stop.v).set (0+((S.length:Nat):Int).toNat) (.agg [.int .i64 s'.o,.int .i64 s'.arr,.int .i64 s'.dep,.int .i64 s'.line])=(S++[s']).map Stop.v:=λs s'=>by simp[List.set_append];rfl
 have pM:=hN.row o.toNat (by rw[hN.len];omega);have Kp:(N.map ints)[o.toNat]?=some (ints (N.getD o.toNat [])):=getD_map ints N [] o0 (by rw[hN.len];exact o1);have hlen:(N.getD o.toNat []).length=n.Ag.length:=pM.1;have hnx:((N.getD o.toNat []).map (AV.int .i64))[d.toNat]?=some (.int .i64 (nx N o d)):=getD_map _ _ 0 d0 (by rw[hlen];exact d1);have NA:=pM.2 _ (Bx (l:=N.getD o.toNat []) 0 d0 (by rw[hlen];exact d1));replace NA:nx N o d=-1\/0<=nx N o d/\nx N o d<n.Am.length/\(n.B3 (nx N o d)).fr=o:=by rcases NA with h|⟨h1,h2,h3⟩;exact .inl h;exact .inr ⟨h1,h2,by unfold nx;omega⟩
 refine kR ?_;refine⟨⟨by omega,by omega⟩,?_⟩;refine kW ?_;refine⟨_,Dy,?_⟩;refine kW ?_;constructor<;>intro h
 ·have h:¬o=d:=by simpa using h
  refine kW ?_;refine⟨⟨by omega,by omega⟩,?_⟩;refine kW ?_;refine⟨_,Dy,?_⟩;conv=>whnf
  refine⟨o0,_,Kp,?_⟩;conv=>whnf
  refine⟨d0,_,hnx,?_⟩;refine kW ?_;constructor<;>intro g;·(have g:nx N o d=-1:=by simpa using g);(have hw:BI n N d f o t=(0,170):=by cases f<;>(unfold BI;rw[if_neg h,if_pos g]));rw[hw];refine kW ?_;exact⟨rfl,by decide⟩
  have g:¬nx N o d=-1:=by simpa using g
  replace NA:=NA.resolve_left g;generalize hl:nx N o d=l at*
  have hw:BI n N d f o t=if (BO n l (t+(n.Cd o).As*(n.Cd o).Ap)).2≠0 then (0,(BO n l (t+(n.Cd o).As*(n.Cd o).Ap)).2)else
   match f with
   |0=>(0,170)
   |f+1=>BI n N d f (n.B3 l).dst ((BO n l (t+(n.Cd o).As*(n.Cd o).Ap)).1+(n.B3 l).Bb):=by
   cases f<;>(conv=>lhs;unfold BI)<;>rw[hl,if_neg h,if_neg g]
  rw[hw];clear hw;refine kW ?_;refine⟨_,Dy,?_⟩;conv=>whnf
  rw[UI s ⟨o,t,-1,l⟩];refine kW ?_;have gI:(n.Am.map Im.v)[l.toNat]?=some (n.B3 l).v:=getD_map Im.v n.Am GD NA.1 NA.2.1;have hg3:∀x,((S++[Stop.mk o t x l]).map Stop.v)[0+((S.length:Nat):Int).toNat]?=some (.agg [.int .i64 o,.int .i64 t,.int .i64 x,.int .i64 l]):=λx=>by simp;rfl
  obtain⟨D,hD⟩:∃D,D=BO n l (t+(n.Cd o).As*(n.Cd o).Ap):=⟨_,rfl⟩;have hrn:=E5 hn o0 o1;have hDr:D.2=0->0<=D.1/\D.1<=2100000:=λh=>by have:=JE hn NA.1 NA.2.1 (by rw[<-hD];exact h);rw[<-hD]at this;omega
  have HB:=hn.B3 _ (Bx GD NA.1 NA.2.1);replace HB:0<=(n.B3 l).dst/\(n.B3 l).dst<n.Ag.length/\1<=(n.B3 l).Bb/\(n.B3 l).Bb<=5000:=⟨HB.2.2.1,HB.2.2.2.1,HB.2.2.2.2.2.2.1,HB.2.2.2.2.2.2.2⟩;rw[<-hD];by_cases he:D.2=0
  ·have hDr:=hDr he;refine Aa.draw [19] Ab mO (by kernel_rfl) ?_;(conv=>whnf);refine⟨_,hg3 _,?_⟩;(conv=>whnf);refine⟨_,hg3 _,?_⟩;(conv=>whnf);refine⟨_,⟨Oy n hn o t o0 o1 (by omega) (by omega),rfl⟩,?_⟩;(conv=>whnf);refine⟨_,⟨Sj n hn l (t+(n.Cd o).As*(n.Cd o).Ap) NA.1 NA.2.1,rfl⟩,?_⟩;(conv=>whnf);rw[<-hD,he];refine⟨_,⟨oT D.1,rfl⟩,?_⟩;(conv=>whnf);refine⟨_,hg3 _,?_⟩;(conv=>whnf);rw[UI ⟨o,t,-1,l⟩ ⟨o,t,D.1,l⟩];refine kW ?_;constructor<;>intro g20;·(have g20:S.length+1=20:=by have:=of_decide_eq_true g20;omega);(obtain rfl:f=0:=by omega);rw[if_neg (by simp[he])];refine kW ?_;exact⟨rfl,by simp⟩
   (have g20:¬S.length+1=20:=λe=>by have:=of_decide_eq_false g20;omega);refine kW ?_;refine⟨NA.1,_,gI,?_⟩;refine kW ?_;refine Aa.KE [11] [12,13] Ab mO (by kernel_rfl) ?_;(conv=>whnf);refine⟨_,hg3 _,?_⟩;(conv=>whnf);rw[HE (n:=D.1+(n.B3 l).Bb) (by omega)];refine⟨⟨by simp,by simp;omega⟩,?_⟩;refine kW ?_;obtain⟨f',rfl⟩:∃f',f=f'+1:=⟨f-1,by omega⟩;rw[if_neg (by simp[he])];refine⟨(S++[Stop.mk o t D.1 l],(n.B3 l).dst,D.1+(n.B3 l).Bb,f'),?_⟩;(have e1:Wr .i64 ((S.length:Nat)+1:Int)=((S++[Stop.mk o t D.1 l]).length:Nat):=by rw[ZI _ (by omega)];simp);(have e2:(S++[Stop.mk o t D.1 l]).map Stop.v++[AV.agg [.int .i64 (n.B3 l).dst,.int .i64 (D.1+(n.B3 l).Bb),.int .i64 (-1),.int .i64 (-1)]]=((S++[Stop.mk o t D.1 l])++[Stop.mk (n.B3 l).dst (D.1+(n.B3 l).Bb) (-1) (-1)]).map Stop.v:=by simp;rfl);refine qG ?_;exact⟨⟨by simp;omega,rfl,HB.1,HB.2.1,by simp only;omega,by simp only;omega⟩,by simp only;omega⟩
  clear hDr;rw[if_pos he];refine Aa.ZfP 16 Ab mO (by kernel_rfl) ?_;conv=>whnf
  refine⟨_,hg3 _,?_⟩;conv=>whnf
  refine⟨_,hg3 _,?_⟩;conv=>whnf
  refine⟨_,⟨Oy n hn o t o0 o1 (by omega) (by omega),rfl⟩,?_⟩;conv=>whnf
  refine⟨_,⟨Sj n hn l (t+(n.Cd o).As*(n.Cd o).Ap) NA.1 NA.2.1,rfl⟩,?_⟩;conv=>whnf
  rw[<-hD];refine λE'=>Ah.Fv (W2 D.1 D.2) rfl trivial (λr H1 h=>absurd h.1 he) (λr H1 h=>?_);rw[Bk];obtain⟨_,rfl⟩:=h;conv=>whnf
  exact⟨rfl,he⟩
 have h:o=d:=by simpa using h
 refine kW ?_;refine⟨⟨by simp,Ad _ (λ_=>rfl) _⟩,S,s,rfl,by omega,?_⟩;rw[hs];refine⟨?_,t0,t1⟩;cases f<;>(unfold BI;rw[if_pos h])
theorem eY(b:Bool):Bq Pg 268 [.bool b] [] (λ_ _=>b=true) (λx _=>b=false/\x=eO 1):=by
 refine Bq.Ak func268 rfl Ab (by kernel_rfl) rfl ?_;refine kW ?_;constructor<;>intro h;refine kW ?_;exact⟨by simpa using h,rfl⟩;refine kW ?_;simpa using h
def MU(c:Dm)(a b:Int):Int:=if a+2000<b then -1 else ((Dz c (a+1) (b-a).toNat).length:Int)
def Ff(n:Net)(N:List (List Int))(k o d cut:Int):Int×Int:=
 if (BI n N d 19 o cut).2≠0 then (0,(BI n N d 19 o cut).2)else
 if (DV (n.Cn d) (n.cls k).Be ((BI n N d 19 o cut).1+(n.Cd d).As*(n.Cd d).Ap)).2≠0 then (0,(DV (n.Cn d) (n.cls k).Be ((BI n N d 19 o cut).1+(n.Cd d).As*(n.Cd d).Ap)).2)else
 if 0<=MU (n.Cn d) ((cut+(n.Cn d).Bc)/1440) (((DV (n.Cn d) (n.cls k).Be ((BI n N d 19 o cut).1+(n.Cd d).As*(n.Cd d).Ap)).1+(n.Cn d).Bc)/1440)then
  (MU (n.Cn d) ((cut+(n.Cn d).Bc)/1440) (((DV (n.Cn d) (n.cls k).Be ((BI n N d 19 o cut).1+(n.Cd d).As*(n.Cd d).Ap)).1+(n.Cn d).Bc)/1440),0)
 else (0,1)
theorem wR(n:Net)(hn:Dw n)(N:List (List Int))(hN:Et n N)(k o d t:Int)(k0:0<=k)(k1:k<n.Ao.length)(o0:0<=o)(o1:o<n.Ag.length)(d0:0<=d)(d1:d<n.Ag.length)(t0:0<=t)(t1:t<=3000000):
  Bq Pg 204 [.at_ n.c,DN N,.int .i64 k,.int .i64 o,.int .i64 d,.int .i64 t] [] (λr _=>(Ff n N k o d t).2=0/\r=.int .i64 (Ff n N k o d t).1) (λx _=>(Ff n N k o d t).2≠0/\x=eO (Ff n N k o d t).2):=by
 have hk:=hn.cls _ (Bx Qd k0 k1);have hc:CX (n.Cn d)=true:=hn.Il d0 d1;have hz:=JY hc;have hr:=E5 hn d0 d1;obtain⟨W,hW⟩:∃W,W=BI n N d 19 o t:=⟨_,rfl⟩;have hws:=rS n hn N hN o d t o0 o1 d0 d1 t0 t1;unfold Ff;rw[<-hW]at hws ⊢;refine Bq.Ak func204 rfl Ab (by kernel_rfl) rfl ?_;refine kW ?_;refine Ah.Fv hws rfl trivial (λr H1 h=>?_) (λx H1 h=>?_)
 ·obtain⟨S,s,rfl,hS,hw,s0,s1⟩:=h;rw[Bk];obtain⟨w1,w2⟩:=W;obtain⟨rfl,rfl⟩:=Prod.mk.inj hw;simp only[ne_eq,not_true_eq_false,if_false];have Zks:Wr .i64 (((S++[s]).map Stop.v).length-1:Int)=S.length:=by rw[HE (by simp;omega)];simp
  have Dy:((S++[s]).map Stop.v)[((S.length:Nat):Int).toNat]?=some s.v:=by simp
  have Y4:=Wa n hn k d s.arr k0 k1 d0 d1 s0 (by omega);have ET:(DV (n.Cn d) (n.cls k).Be (s.arr+(n.Cd d).As*(n.Cd d).Ap)).2=0->_:=Nv (t:=s.arr+(n.Cd d).As*(n.Cd d).Ap) hk.2.2.1 hk.2.2.2;generalize DV (n.Cn d) (n.cls k).Be (s.arr+(n.Cd d).As*(n.Cd d).Ap)=D at*;refine kW ?_;by_cases he:D.2=0
  ·have ET:=ET he;obtain⟨e,e2⟩:=D;simp only at he ET;subst he;simp only[ne_eq,not_true_eq_false,if_false];rw[Zks];refine⟨by omega,_,Dy,?_⟩;(conv=>whnf);refine kC (Y4) ?_;refine kC (oT e) ?_;refine kC (Nr n hn d d0 d1) ?_;refine kC (Fa (n.Cn d) t hc (by omega) (by omega)) ?_;refine kC (Fa (n.Cn d) e hc (by omega) (by omega)) ?_;refine kC (Lr (n.Cn d) ((t+(n.Cn d).Bc)/1440) ((e+(n.Cn d).Bc)/1440) hc (by omega) (by omega) (by omega) (by omega)) ?_;refine Ah.Fv (eY _) rfl trivial (λr H1 h=>?_) (λx H1 h=>?_);·rw[Bk];refine kW ?_;have h':0<=MU (n.Cn d) ((t+(n.Cn d).Bc)/1440) ((e+(n.Cn d).Bc)/1440):=of_decide_eq_true h;rw[if_pos h'];exact⟨rfl,rfl⟩
   rw[Bk];obtain⟨h,rfl⟩:=h;refine kW ?_;have h':¬0<=MU (n.Cn d) ((t+(n.Cn d).Bc)/1440) ((e+(n.Cn d).Bc)/1440):=of_decide_eq_false h;rw[if_neg h'];exact⟨by simp,rfl⟩
  simp only[he,ne_eq,not_false_eq_true,if_true];rw[Zks];refine⟨by omega,_,Dy,?_⟩;conv=>whnf
  refine kC (Y4) ?_;refine Ah.Fv (W2 D.1 D.2) rfl trivial (λr H1 h=>absurd h.1 he) (λx H1 h=>?_);rw[Bk];obtain⟨_,rfl⟩:=h;refine kW ?_;exact⟨trivial,rfl⟩
 rw[Bk];obtain⟨rfl,h⟩:=h;rw[if_pos h];refine kW ?_;exact⟨h,rfl⟩
theorem Pw{n:Nat}(g:Nat->AV)(hk:k<n):((BG k).map g++A9 (n-k) z).set (0+((k:Nat):Int).toNat) (g k)=(BG (k+1)).map g++A9 (n-(k+1)) z:=by
 rw[De _ _ (by simp),Cc,D9,show n-k=(n-(k+1))+1 by omega];simp[C2]
theorem Px{n:Nat}(g:Nat->AV)(hk:k<n):((BG k).map g++A9 (n-k) z)[0+((k:Nat):Int).toNat]?=some z:=by
 rw[Dx (by simp)];simp[show n-k=(n-(k+1))+1 by omega,C2]
theorem Jt{n:Nat}{g:Nat->AV}(hz:closed z=true)(hg:∀i,closed (g i)=true):∀e∈(BG k).map g++A9 (n-k) z,closed e=true:=by
 intro e he;rcases FK.1 he with he|he;exact Ad g hg _ e he;rw[DW he];exact hz
theorem iW(n:Nat)(f:FuncId)(A1 A2 A3 A4 A5 A6:List AV)(g:Nat->Int)(hn:n<=1000)
  (hf:∀i:Nat,i<n->Au Pg f (.int .i64 i::[.at_ A1,.at_ A2,.at_ A3,.at_ A4,.at_ A5,.at_ A6]) (λr=>r=.int .i64 (g i))):Au Pg 162 [.int .i64 n,.fn f [.at_ A1,.at_ A2,.at_ A3,.at_ A4,.at_ A5,.at_ A6]] (λr=>r=.sl 1 ((BG n).map λi=>.int .i64 (g i))):=by
 refine kB func162 rfl ?_;refine⟨⟨by omega,by omega,by omega⟩,?_⟩;refine kW ?_;refine Aa.Ar (λk:Nat=>mk 22 [(1,.fn f [.at_ A1,.at_ A2,.at_ A3,.at_ A4,.at_ A5,.at_ A6]),(5,.own 0 1 0 n),(10,.int .i64 n),(11,.int .i64 k)]) (λk=>[.arr 3 1 ((BG k).map (λi=>.int .i64 (g i))++A9 (n-k) (.int .i64 0))]) (λk=>k<=n) (λk=>n-k) (λk hk=>⟨rfl,Jt rfl λ_=>rfl,trivial⟩) ⟨0,?_⟩ (λ_=>rfl) λk hk=>?_;refine kQ ?_;exact BR _;refine kR ?_;constructor<;>intro h
 ·have h:k<n:=by have:=of_decide_eq_true h;omega
  refine kW ?_;refine kC (hf k h) ?_;refine⟨⟨by omega,by omega⟩,?_⟩;conv=>whnf
  refine⟨_,Px (λi=>.int .i64 (g i)) h,?_⟩;conv=>whnf
  rw[Pw (λi=>.int .i64 (g i)) h];refine kW ?_;refine⟨k+1,?_⟩;refine qG ?_;omega
 exact Ya7
theorem iU(n:Nat)(f:FuncId)(A1 A2 A3 A4 A5:List AV)(g:Nat->List Int)(hn:n<=1000)
  (hf:∀i:Nat,i<n->Au Pg f (.int .i64 i::[.at_ A1,.at_ A2,.at_ A3,.at_ A4,.at_ A5]) (λr=>r=ints (g i))):Au Pg 160 [.int .i64 n,.fn f [.at_ A1,.at_ A2,.at_ A3,.at_ A4,.at_ A5]] (λr=>r=.sl 1 ((BG n).map λi=>ints (g i))):=by
 refine kB func160 rfl ?_;refine⟨⟨by omega,by omega,by omega⟩,?_⟩;refine kW ?_;refine Aa.Ar (λk:Nat=>mk 22 [(1,.fn f [.at_ A1,.at_ A2,.at_ A3,.at_ A4,.at_ A5]),(5,.own 0 1 0 n),(10,.int .i64 n),(11,.int .i64 k)]) (λk=>[.arr 49 1 ((BG k).map (λi=>ints (g i))++A9 (n-k) C6)]) (λk=>k<=n) (λk=>n-k) (λk hk=>⟨rfl,Jt rfl λ_=>rfl,trivial⟩) ⟨0,?_⟩ (λ_=>rfl) λk hk=>?_;refine kQ ?_;exact BR _;refine kR ?_;constructor<;>intro h
 ·have h:k<n:=by have:=of_decide_eq_true h;omega
  refine kW ?_;refine kC (hf k h) ?_;refine⟨⟨by omega,by omega⟩,?_⟩;conv=>whnf
  refine⟨_,Px (λi=>ints (g i)) h,?_⟩;conv=>whnf
  rw[Pw (λi=>ints (g i)) h];refine kW ?_;refine⟨k+1,?_⟩;refine qG ?_;omega
 exact Ya7
theorem iV(n:Nat)(f:FuncId)(A1 A2 A3 A4:List AV)(g:Nat->List (List Int))(hn:n<=1000)
  (hf:∀i:Nat,i<n->Au Pg f (.int .i64 i::[.at_ A1,.at_ A2,.at_ A3,.at_ A4]) (λr=>r=DN (g i))):Au Pg 158 [.int .i64 n,.fn f [.at_ A1,.at_ A2,.at_ A3,.at_ A4]] (λr=>r=.sl 1 ((BG n).map λi=>DN (g i))):=by
 refine kB func158 rfl ?_;refine⟨⟨by omega,by omega,by omega⟩,?_⟩;refine kW ?_;refine Aa.Ar (λk:Nat=>mk 22 [(1,.fn f [.at_ A1,.at_ A2,.at_ A3,.at_ A4]),(5,.own 0 1 0 n),(10,.int .i64 n),(11,.int .i64 k)]) (λk=>[.arr 45 1 ((BG k).map (λi=>DN (g i))++A9 (n-k) C6)]) (λk=>k<=n) (λk=>n-k) (λk hk=>⟨rfl,Jt rfl λ_=>rfl,trivial⟩) ⟨0,?_⟩ (λ_=>rfl) λk hk=>?_;refine kQ ?_;exact BR _;refine kR ?_;constructor<;>intro h
 ·have h:k<n:=by have:=of_decide_eq_true h;omega
  refine kW ?_;refine kC (hf k h) ?_;refine⟨⟨by omega,by omega⟩,?_⟩;conv=>whnf
  refine⟨_,Px (λi=>DN (g i)) h,?_⟩;conv=>whnf
  rw[Pw (λi=>DN (g i)) h];refine kW ?_;refine⟨k+1,?_⟩;refine qG ?_;omega
 exact Ya7
theorem ZeU{P:Program}{f:FuncId}{args:List AV}{b:Bool}(h:Au P f args (λr=>r=.bool b)):Au P f args (λr=>r=.lit b):=
 ⟨h.D7,λC w vs hc hr=>(h.out C w vs hc hr).mono λe w' ⟨r,v,h1,h2,h3,h4⟩=>⟨.lit b,v,h1,rfl,h3,by subst h2;unfold Aj at*;exact h4⟩⟩
def uU(x:Int):Bool:=decide (x<=-549755813888)
def elR(x:Int):Bool:=uU x||(decide (-1000000000<=x)&&decide (x<=1000000000))
def bH(x y:Int):Int:=if uU x&&uU y then -1099511627776 else max x y
def Ye(x y:Int):Int:=if uU x||uU y then -1099511627776 else Wr .i64 (x+y)
theorem inf_spec(x:Int):Au Pg 305 [.int .i64 x] (λr=>r=.bool (uU x)):=by
 refine kB func305 rfl ?_;rfl
theorem ZeP(x:Int):Au Pg 328 [.int .i64 x] (λr=>r=.bool (elR x)):=by
 unfold elR;refine kB func328 rfl ?_
 repeat' (first|(refine BU (λ_=>?_) (λ_=>?_)<;>conv=>whnf)|(refine kC (inf_spec x) ?_)|refine Ql ?_|fail)
 all_goals (first|(simp_all;done)|(simp_all;omega))
theorem QN(x y:Int):Au Pg 255 [.int .i64 x,.int .i64 y] (λr=>r=.int .i64 (bH x y)):=by
 unfold bH;refine kB func255 rfl ?_
 repeat' (first|(refine BU (λ_=>?_) (λ_=>?_)<;>conv=>whnf)|(refine kC (inf_spec x) ?_)|(refine kC (inf_spec y) ?_)|refine Ql ?_|fail)
 all_goals simp_all
theorem gZ(x y:Int):Au Pg 258 [.int .i64 x,.int .i64 y] (λr=>r=.int .i64 (Ye x y)):=by
 unfold Ye;refine kB func258 rfl ?_
 repeat' (first|(refine BU (λ_=>?_) (λ_=>?_)<;>conv=>whnf)|(refine kC (inf_spec x) ?_)|(refine kC (inf_spec y) ?_)|refine Ql ?_|fail)
 all_goals simp_all
theorem eT(x y:Bool):Au Pg 307 [.lit x,.bool y] (λr=>r=.bool (x||y)):=by
 cases x
 all_goals
  refine kB func307 rfl ?_;simp
theorem XD(n:Nat)(f:FuncId)(A:List AV)(p:Nat->Bool)(hn:n<=1000)(hf:∀k:Nat,k<n->Au Pg f [.int .i64 k,.at_ A] (λr=>r=.bool (p k))):
  Au Pg 306 [.int .i64 n,.lit false,.fn 307 [],.fn f [.at_ A]] (λr=>r=.bool ((BG n).any p)):=by
 refine kB func306 rfl ?_;refine Aa.Ar (λk:Nat=>mk 24 [(2,.fn 307 []),(3,.fn f [.at_ A]),(9,.lit ((BG k).any p)),(12,.int .i64 n),(13,.int .i64 k)]) (λ_=>[]) (λk=>k<=n) (λk=>n-k) (λk _=>⟨rfl,trivial⟩) ⟨0,?_⟩ (λ_=>rfl) λk hk=>?_;refine kQ ?_;exact BR _;refine kR ?_;constructor<;>intro h
 ·have h:k<n:=by have:=of_decide_eq_true h;omega
  refine kW ?_;refine kC (hf k h) ?_;refine kC (ZeU (eT _ _)) ?_;refine⟨k+1,?_⟩;have e1:((BG k).any p||p k)=(BG (k+1)).any p:=by simp[Cc]
  conv=>whnf
  repeat(refine BU ?_ ?_;(focus (first|rfl|(simp;done)|(first|exact ZI _ (by omega)|exact congrArg AV.lit e1;done)));conv=>whnf)
  omega
 have h:k=n:=by have:=of_decide_eq_false h;omega
 subst h;exact Er
def yR(r:List Int):Bool:=(BG r.length).any λk=>!elR (r.getD k 0)
theorem ZM(r:List Int)(k:Nat)(h:k<r.length):Au Pg 327 [.int .i64 k,.at_ [ints r]] (λx=>x=.bool (!elR (r.getD k 0))):=by
 have hg:(r.map (AV.int .i64))[((k:Nat):Int).toNat]?=some (.int .i64 (r.getD k 0)):=by simp[h]
 refine kB func327 rfl ?_;refine⟨by omega,_,hg,?_⟩;refine kW ?_;exact pE (ZeP (r.getD k 0))
theorem EX(r:List Int)(hr:r.length<=1000):Au Pg 304 [ints r] (λx=>x=.bool (yR r)):=by
 refine kB func304 rfl ?_;rw[Ax];refine Ah.jR (XD r.length 327 [ints r] (λk=>!elR (r.getD k 0)) hr (ZM r)) (.plain rfl (.plain rfl (.plain rfl (.fn (.ptr rfl rfl trivial) trivial)))) λr hr=>?_;subst hr;refine⟨.inl rfl,?_⟩;refine kW ?_;rfl
def aQ(m:Nat)(r:List Int):Bool:=decide (r.length=m)&&!yR r
def JF(N:List (List Int)):Bool:=decide (N.length<=40)&&N.all (aQ N.length)
theorem X8(N:List (List Int)):Au Pg 252 [DN N] (λx=>x=.bool (JF N)):=by
 refine kB func252 rfl ?_;rw[Ax];constructor<;>intro h
 ·have h:¬N.length<=40:=by have:=of_decide_eq_true h;omega
  unfold JF;refine kW ?_;simp[h]
 have h:N.length<=40:=by have:=of_decide_eq_false h;omega
 refine kW ?_;rw[Ax];refine Aa.Ar (λk:Nat=>mk 24 [(0,DN N),(8,DN N),(9,.int .i64 (N.length:Nat)),(10,.int .i64 k)]) (λ_=>[]) (λk=>k<=N.length/\∀i<k,aQ N.length (N.getD i [])=true) (λk=>N.length-k) (λk _=>⟨rfl,trivial⟩) ⟨0,?_⟩ (λ_=>rfl) λk hk=>?_;refine kQ ?_;exact λi hi=>absurd hi (Nat.not_lt_zero _);obtain⟨hk,Dj⟩:=hk;refine kR ?_;constructor<;>intro g
 ·have g:k<N.length:=by have:=of_decide_eq_true g;omega
  obtain⟨r,hr⟩:∃r,r=N.getD k []:=⟨_,rfl⟩;have hg:(N.map ints)[((k:Nat):Int).toNat]?=some (ints r):=by simp[hr,g]
  have NV:aQ N.length r=false->JF N=false:=λhb=>by have:N.all (aQ N.length)=false:=E4.2 ⟨r,by rw[hr];simp[g],by simp[hb]⟩;unfold JF;rw[this,Bool.and_false]
  refine kW ?_;refine⟨by omega,_,hg,?_⟩;refine kW ?_;rw[Ax,Ax];constructor<;>intro q
  ·(have q:r.length=N.length:=by simp at q;omega);(conv=>whnf);refine kC (EX r (by omega)) ?_;constructor<;>intro q2;·rw[NV (by simp[aQ,q2])];exact Er
   refine kW ?_;refine⟨k+1,?_⟩;refine qG ?_;refine⟨⟨g,λi hi=>?_⟩,by omega⟩;rcases Nat.lt_or_eq_of_le (Nat.le_of_lt_succ hi)with hi|rfl;exact Dj i hi;rw[<-hr];simp[aQ,q,q2]
  have q:¬r.length=N.length:=by simp at q;omega
  rw[NV (by simp[aQ,q])];exact Er
 have g:k=N.length:=by have:=of_decide_eq_false g;omega
 have:JF N=true:=by unfold JF;rw[Dp,decide_eq_true_eq,Fo];refine⟨h,λr hr=>?_⟩;obtain⟨i,hi,rfl⟩:=Dv.1 hr;have:=Dj i (by omega);simpa only[BK,BQ hi,Fw]using this
 rw[this];exact Er
def LA(N:List (List Int))(m:Nat):Prop:=N.length=m/\∀i<m,(N.getD i []).length=m
theorem Mi(m:Nat)(g:Int->Int->Int):LA (H6 m g) m:=⟨by simp[H6],λi hi=>by simp[H6,hi]⟩
theorem zV{N:List (List Int)}(h:JF N=true):LA N N.length/\N.length<=40:=by
 unfold JF at h;rw[Dp,decide_eq_true_eq,Fo]at h;refine⟨⟨rfl,λi hi=>?_⟩,h.1⟩;have:=h.2 (N.getD i []) (by simp[hi]);unfold aQ at this;rw[Dp,decide_eq_true_eq]at this;exact this.1
def OQ(N:List (List Int))(i j:Int):Int:=(N.getD i.toNat []).getD j.toNat 0
theorem JG{N:List (List Int)}(h:LA N m)(hi:i<m):(N.map ints)[((i:Nat):Int).toNat]?=some (ints (N.getD i [])):=by simp[show i<N.length by rw[h.1];exact hi]
theorem JH{N:List (List Int)}(h:LA N m)(hi:i<m)(hj:j<m):((N.getD i []).map (AV.int .i64))[((j:Nat):Int).toNat]?=some (.int .i64 (OQ N i j)):=by
 have:=h.2 i hi;unfold OQ;simp only[E3];generalize N.getD i []=r at*;simp[show j<r.length by omega]
def ZhP(N:List (List Int))(m:Nat):Bool:=(BG m).any λk:Nat=>decide (0<OQ N k k)
theorem wU(N:List (List Int))(m k:Nat)(h:LA N m)(hk:k<m):Au Pg 308 [.int .i64 k,.at_ [DN N]] (λx=>x=.bool (decide (0<OQ N k k))):=by
 refine kB func308 rfl ?_;refine⟨by omega,_,JG h hk,?_⟩;conv=>whnf
 refine⟨by omega,_,JH h hk hk,?_⟩;exact Er
theorem fC(N:List (List Int))(m:Nat)(h:LA N m)(hm:m<=40):Au Pg 256 [DN N] (λx=>x=.bool (ZhP N m)):=by
 refine kB func256 rfl ?_;rw[Ax,h.1];refine Ah.jR (XD m 308 [DN N] (λk:Nat=>decide (0<OQ N k k)) (by omega) λk hk=>wU N m k h hk) (.plain rfl (.plain rfl (.plain rfl (.fn (.ptr rfl rfl trivial) trivial)))) λr hr=>?_;subst hr;refine⟨.inl rfl,?_⟩;refine kW ?_;rfl
def Mg(N:List (List Int))(i j:Int):Int:=if i=j then bH 0 (OQ N i j)else bH (-1099511627776) (OQ N i j)
def Tp(N:List (List Int))(k:Int)(i j:Int):Int:=bH (OQ N i j) (Ye (OQ N i k) (OQ N k j))
theorem iE(N:List (List Int))(m i j:Nat)(h:LA N m)(hi:i<m)(hj:j<m):Au Pg 254 [.int .i64 i,.int .i64 j,.at_ [DN N]] (λx=>x=.int .i64 (Mg N i j)):=by
 unfold Mg;refine kB func254 rfl ?_;constructor<;>intro q
 ·rw[if_pos (by simpa using q)];refine kW ?_;refine⟨by omega,_,JG h hi,?_⟩;conv=>whnf
  refine⟨by omega,_,JH h hi hj,?_⟩;conv=>whnf
  exact pE (QN 0 (OQ N i j))
 rw[if_neg (by simpa using q)];refine kW ?_;refine⟨by omega,_,JG h hi,?_⟩;conv=>whnf
 refine⟨by omega,_,JH h hi hj,?_⟩;conv=>whnf
 exact pE (QN (-1099511627776) (OQ N i j))
theorem iD(N:List (List Int))(m k i j:Nat)(h:LA N m)(hk:k<m)(hi:i<m)(hj:j<m):Au Pg 257 [.int .i64 i,.int .i64 j,.at_ [DN N],.at_ [.int .i64 k]] (λx=>x=.int .i64 (Tp N k i j)):=by
 unfold Tp;refine kB func257 rfl ?_;refine Aa.draw [] Ab mO (by kernel_rfl) ?_;conv=>whnf
 refine⟨by omega,_,JG h hi,?_⟩;conv=>whnf
 refine⟨by omega,_,JH h hi hj,?_⟩;conv=>whnf
 refine⟨by omega,_,JG h hi,?_⟩;conv=>whnf
 refine⟨by omega,_,JH h hi hk,?_⟩;conv=>whnf
 refine⟨by omega,_,JG h hk,?_⟩;conv=>whnf
 refine⟨by omega,_,JH h hk hj,?_⟩;conv=>whnf
 refine⟨_,⟨gZ (OQ N i k) (OQ N k j),rfl⟩,?_⟩;conv=>whnf
 refine⟨_,⟨QN (OQ N i j) (Ye (OQ N i k) (OQ N k j)),rfl⟩,?_⟩;conv=>whnf
 exact Er
def Pc(m:Nat):Nat->Nat->List (List Int)->Option (List (List Int))
 |0,_,N=>some N
 |f+1,k,N=>if ZhP (H6 m (Tp N k)) m then none else Pc m f (k+1) (H6 m (Tp N k))
def Pb(N:List (List Int)):Int×List (List Int):=if JF N then (if ZhP (H6 N.length (Mg N)) N.length then (120,[])else match Pc N.length N.length 0 (H6 N.length (Mg N))with|none=>(120,[])|some M=>(0,M))else (1,[])
theorem sD(N:List (List Int)):Au Pg 196 [DN N] (λx=>x=.tuple [DN (Pb N).2,.int .i64 (Pb N).1]):=by
 refine Au.Ak func196 rfl Ab (by kernel_rfl) ?_;conv=>whnf
 refine Aa.seq ?_;refine Aa.CF [0] ?_;refine Aa.st Ab rfl ?_;refine kW ?_;refine kC (X8 N) ?_;unfold Pb;constructor<;>intro hv;rw[if_neg (by simpa using hv)];refine kW ?_;exact⟨1,rfl⟩;have hv:JF N=true:=by simpa using hv
 obtain⟨hsq,h40⟩:=zV hv;rw[if_pos hv];refine kW ?_;rw[Ax];obtain⟨m,hm⟩:∃m,m=N.length:=⟨_,rfl⟩;rw[<-hm]at hsq h40 ⊢;refine kC (fS m 254 [DN N] (Mg N) (by omega) λi j hi hj=>iE N m i j hsq hi hj) ?_;refine kW ?_;refine kC (fC (H6 m (Mg N)) m (Mi _ _) h40) ?_;constructor<;>intro hy;rw[if_pos hy];refine kW ?_;exact⟨1,rfl⟩;rw[if_neg (by simp[hy])];refine kW ?_;obtain⟨S,hS⟩:∃S,S=Pc m m 0 (H6 m (Mg N)):=⟨_,rfl⟩;rw[<-hS];refine Aa.Ar (λx:Nat×Nat×List (List Int)=>mk 30 [(4,.int .i64 m),(5,DN x.2.2),(18,.int .i64 m),(19,.int .i64 (x.1:Nat))]) (λ_=>[.dead]) (λx=>x.1+x.2.1=m/\LA x.2.2 m/\S=Pc m x.2.1 x.1 x.2.2) (λx=>x.2.1) (λ_ _=>⟨rfl,trivial⟩) ⟨(0,m,H6 m (Mg N)),?_⟩ (λ_=>rfl) λx hx=>?_;refine kQ ?_;exact⟨Mi _ _,hS⟩;obtain⟨k,f,M⟩:=x;obtain⟨h1,h2,h3⟩:=hx;simp only at h1 h2 h3;refine kR ?_;constructor<;>intro g
 ·have gk:k<m:=by have:=of_decide_eq_true g;simp only at this;omega
  obtain⟨f,rfl⟩:∃f',f=f'+1:=⟨f-1,by omega⟩;unfold Pc at h3;iterate 4 (refine sT rfl ?_;conv=>whnf)
  refine Aa.CF [1] ?_;refine Aa.st Ab rfl ?_;conv=>whnf
  iterate 1 (refine sT rfl ?_;conv=>whnf)
  refine Aa.CF [2] ?_;refine Aa.st Ab rfl ?_;refine kW ?_;refine kC (fR m 257 [DN M] [.int .i64 k] (Tp M k) (by omega) λi j hi hj=>iD M m k i j h2 gk hi hj) ?_;refine kW ?_;refine kC (fC (H6 m (Tp M k)) m (Mi _ _) h40) ?_;constructor<;>intro hy;rw[if_pos hy]at h3;rw[h3];refine kW ?_;exact⟨1,rfl⟩;rw[if_neg (by simp[hy])]at h3;refine kW ?_;refine⟨(k+1,f,H6 m (Tp M k)),?_⟩;refine qG ?_;exact⟨⟨by simp only;omega,Mi _ _,h3⟩,CT _⟩
 have g:k=m:=by have:=of_decide_eq_false g;omega
 obtain rfl:f=0:=by omega
 unfold Pc at h3;rw[h3];refine kW ?_;rfl
theorem Z8(N:Net)(n:Nat)(f:FuncId)(A1 A2:List AV)(g:Int->Int->Int)(hN:N.Ag.length=n)(hn:n<=1000)
  (hf:∀i j:Nat,i<n->j<n->Au Pg f (.int .i64 i::.int .i64 j::[.at_ A1,.at_ A2]) (λr=>r=.int .i64 (g i j))):
  Au Pg 145 [N.v,.fn f [.at_ A1,.at_ A2]] (λr=>r=DN (H6 n g)):=by
 refine Au.Ak func145 rfl Ab (by kernel_rfl) ?_;conv=>whnf
 refine Aa.Mm 3 ?_;refine Aa.seq ?_;refine Aa.CF [1] ?_;refine Aa.st Ab rfl ?_;refine kW ?_;rw[Ax,hN];refine⟨⟨by omega,by omega,by omega⟩,?_⟩;refine kW ?_
 refine Aa.Ar (λL:List (Nat×List Int)=>mk 45 [(1,.fn f [.at_ A1,.at_ A2]),(2,.at_ N.c),(5,.own 2 1 0 n),(13,.int .i64 n),(14,.int .i64 (L.length:Nat))]) (λL=>[.inv (Rz 3 L),.dead,.arr 49 1 (Bl L++A9 (n-L.length) C6)])
  (λL=>L.map C4=(BG L.length).map (λi:Nat=>(BG n).map λj:Nat=>g i j)/\L.length<=n) (λL=>n-L.length) (λL _=>⟨rfl,CN CO,trivial⟩) ⟨[],?_⟩ (λ_=>rfl) λL hL=>?_
 refine kQ ?_;exact BR _;obtain⟨h1,h2⟩:=hL;refine kR ?_;constructor<;>intro h
 ·have h:L.length<n:=by have:=of_decide_eq_true h;omega
  obtain⟨m,hm⟩:∃m,n-L.length=m+1:=⟨n-L.length-1,by omega⟩;rw[hm];iterate 6 (refine sT rfl ?_;conv=>whnf)
  refine Aa.K7 [5] Ab ?_;conv=>whnf
  rw[Ax,hN];refine⟨⟨by omega,rfl,by omega,by decide⟩,rfl,_,rfl,λb hb=>?_⟩;conv=>whnf
  refine⟨⟨by omega,by omega⟩,?_⟩;conv=>whnf
  refine⟨_,DB rfl _ _,?_⟩;conv=>whnf
  rw[J7 rfl];iterate 1 (refine sT rfl ?_;conv=>whnf)
  refine Aa.K7 [4] Ab ?_;conv=>whnf
  refine⟨⟨by omega,by omega⟩,?_⟩;conv=>whnf
  refine⟨_,DB rfl _ _,?_⟩;conv=>whnf
  refine⟨by omega,?_⟩;refine kW ?_
  refine Aa.Ar (λj:Nat=>mk 45 [(1,.fn f [.at_ A1,.at_ A2]),(2,.at_ N.c),(5,.own 2 1 0 n),(6,.int .i64 (L.length:Nat)),(13,.int .i64 n),(14,.int .i64 (L.length:Nat)),(28,.int .i64 n),(29,.int .i64 j)]) (λj=>[.inv (Rz 3 (L++[(b,EL n (g L.length) j)])),.dead,.arr 49 1 (Bl L++.raw (K9 b n)::A9 m C6)])
   (λj=>j<=n) (λj=>n-j) (λj _=>⟨rfl,CN (by intro e he;rcases C1.1 he with rfl|he;rfl;exact CO e he),trivial⟩) ⟨0,?_⟩ (λ_=>rfl) λj hj=>?_
  refine kQ ?_;exact BR _;exact Ya4
 exact Ybb
theorem Z7(N:Net)(n:Nat)(f:FuncId)(A1 A2 A3:List AV)(g:Int->Int->Int)(hN:N.Ag.length=n)(hn:n<=1000)
  (hf:∀i j:Nat,i<n->j<n->Au Pg f (.int .i64 i::.int .i64 j::[.at_ A1,.at_ A2,.at_ A3]) (λr=>r=.int .i64 (g i j))):
  Au Pg 145 [N.v,.fn f [.at_ A1,.at_ A2,.at_ A3]] (λr=>r=DN (H6 n g)):=by
 refine Au.Ak func145 rfl Ab (by kernel_rfl) ?_;conv=>whnf
 refine Aa.Mm 3 ?_;refine Aa.seq ?_;refine Aa.CF [1] ?_;refine Aa.st Ab rfl ?_;refine kW ?_;rw[Ax,hN];refine⟨⟨by omega,by omega,by omega⟩,?_⟩;refine kW ?_
 refine Aa.Ar (λL:List (Nat×List Int)=>mk 45 [(1,.fn f [.at_ A1,.at_ A2,.at_ A3]),(2,.at_ N.c),(5,.own 2 1 0 n),(13,.int .i64 n),(14,.int .i64 (L.length:Nat))]) (λL=>[.inv (Rz 3 L),.dead,.arr 49 1 (Bl L++A9 (n-L.length) C6)])
  (λL=>L.map C4=(BG L.length).map (λi:Nat=>(BG n).map λj:Nat=>g i j)/\L.length<=n) (λL=>n-L.length) (λL _=>⟨rfl,CN CO,trivial⟩) ⟨[],?_⟩ (λ_=>rfl) λL hL=>?_
 refine kQ ?_;exact BR _;obtain⟨h1,h2⟩:=hL;refine kR ?_;constructor<;>intro h
 ·have h:L.length<n:=by have:=of_decide_eq_true h;omega
  obtain⟨m,hm⟩:∃m,n-L.length=m+1:=⟨n-L.length-1,by omega⟩;rw[hm];iterate 6 (refine sT rfl ?_;conv=>whnf)
  refine Aa.K7 [5] Ab ?_;conv=>whnf
  rw[Ax,hN];refine⟨⟨by omega,rfl,by omega,by decide⟩,rfl,_,rfl,λb hb=>?_⟩;conv=>whnf
  refine⟨⟨by omega,by omega⟩,?_⟩;conv=>whnf
  refine⟨_,DB rfl _ _,?_⟩;conv=>whnf
  rw[J7 rfl];iterate 1 (refine sT rfl ?_;conv=>whnf)
  refine Aa.K7 [4] Ab ?_;conv=>whnf
  refine⟨⟨by omega,by omega⟩,?_⟩;conv=>whnf
  refine⟨_,DB rfl _ _,?_⟩;conv=>whnf
  refine⟨by omega,?_⟩;refine kW ?_
  refine Aa.Ar (λj:Nat=>mk 45 [(1,.fn f [.at_ A1,.at_ A2,.at_ A3]),(2,.at_ N.c),(5,.own 2 1 0 n),(6,.int .i64 (L.length:Nat)),(13,.int .i64 n),(14,.int .i64 (L.length:Nat)),(28,.int .i64 n),(29,.int .i64 j)]) (λj=>[.inv (Rz 3 (L++[(b,EL n (g L.length) j)])),.dead,.arr 49 1 (Bl L++.raw (K9 b n)::A9 m C6)])
   (λj=>j<=n) (λj=>n-j) (λj _=>⟨rfl,CN (by intro e he;rcases C1.1 he with rfl|he;rfl;exact CO e he),trivial⟩) ⟨0,?_⟩ (λ_=>rfl) λj hj=>?_
  refine kQ ?_;exact BR _;exact Ya4
 exact Ybb
structure Sound(n:Net):Prop where
 ok:Dw n
 chk:Au Pg 141 [n.v] (λr=>r=.sl 3 [])
theorem zH(n:Net)(hs:Sound n)(i a b:Int)(h0:0<=i)(h1:i<n.Am.length)(a0:0<=a)(a1:a<=2000000)(b0:0<=b)(b1:b<=2000000):Au Pg 249 [n.v,.int .i64 i,ints [a,b]] (λr=>r=.bool true):=by
 refine kB func249 rfl ?_;refine⟨λ_=>?_,λh=>absurd (of_decide_eq_true h) (by omega)⟩;conv=>whnf
 rw[Ax];refine kW ?_;refine⟨λh=>absurd (of_decide_eq_true h) (by omega),λ_=>?_⟩;refine kW ?_;have hg:∀j:Nat,j<2->∃x,([a,b].map (AV.int .i64))[((j:Nat):Int).toNat]?=some (.int .i64 x)/\0<=x/\x<=2000000:=λj hj=>by rcases j with _|_|j;exact⟨a,rfl,a0,a1⟩;exact⟨b,rfl,b0,b1⟩;omega
 refine Aa.Ar (λj:Nat=>mk 35 [(3,.ptr 0 0),(18,ints [a,b]),(19,.int .i64 2),(20,.int .i64 j)]) (λ_=>[.cells n.c]) (λj=>j<=2) (λj=>2-j) (λ_ _=>⟨rfl,rfl,trivial⟩) ⟨0,?_⟩ (λ_=>rfl) λj hj=>?_;refine kQ ?_;exact BR _;refine kR ?_;constructor<;>intro h
 ·have h:j<2:=by have:=of_decide_eq_true h;omega
  obtain⟨x,hx,x0,x1⟩:=hg j h;refine kW ?_;refine⟨by omega,_,hx,?_⟩;refine kW ?_;refine⟨λ_=>?_,λh=>absurd (of_decide_eq_true h) (by omega)⟩;refine kW ?_;refine⟨λh=>absurd (of_decide_eq_true h) (by omega),λ_=>?_⟩;refine kW ?_;refine⟨j+1,?_⟩;refine qG ?_;omega
 refine kW ?_;refine kC (hs.chk) ?_;simp
def Sk(n:Net)(fr till i:Int):Int:=
 if (RD (n.JU i) (n.B3 i).dep fr till).2≠0 then -1099511627776 else
 Wr .i64 (Wr .i64 ((RD (n.JU i) (n.B3 i).dep fr till).1+(n.B3 i).Bb)+Wr .i64 ((n.Cd (n.B3 i).dst).As*(n.Cd (n.B3 i).dst).Ap))
theorem ZeW{n:Net}{fr till i:Int}(h:¬(RD (n.JU i) (n.B3 i).dep fr till).2=0):Sk n fr till i=-1099511627776:=if_pos h
theorem ZeV{n:Net}{fr till i:Int}(h:(RD (n.JU i) (n.B3 i).dep fr till).2=0):Sk n fr till i=Wr .i64 (Wr .i64 ((RD (n.JU i) (n.B3 i).dep fr till).1+(n.B3 i).Bb)+Wr .i64 ((n.Cd (n.B3 i).dst).As*(n.Cd (n.B3 i).dst).Ap)):=if_neg (λk=>k h)
def H3(n:Net)(fr till:Int):List Int:=(BG n.Am.length).map λi:Nat=>Sk n fr till i
theorem mE(n:Net)(hs:Sound n)(fr till:Int)(f0:0<=fr)(f1:fr<till)(f2:till<=2000000)(f3:till<=fr+86400):Au Pg 143 [n.v,.int .i64 fr,.int .i64 till] (λr=>r=ints (H3 n fr till)):=by
 refine Au.Ak func143 rfl Ab (by kernel_rfl) ?_;conv=>whnf
 refine Aa.seq ?_;refine Aa.CF [0] ?_;refine Aa.st Ab rfl ?_;refine kW ?_;have hL:=hs.ok.len;rw[Ax];refine⟨⟨by omega,by omega,by omega⟩,?_⟩;refine kW ?_;rw[Ax];obtain⟨m,hm⟩:∃m,m=n.Am.length:=⟨_,rfl⟩;have hw:=λi:Nat=>λh:(i:Int)<n.Am.length=>rT n hs.ok i fr till (by omega) h f0 f1 f2 f3 (zH n hs i fr till (by omega) h f0 (by omega) (by omega) f2);rw[<-hm]at hw hL ⊢
 refine Aa.Ar (λk:Nat=>mk 59 [(1,.int .i64 fr),(2,.int .i64 till),(3,.at_ n.c),(7,.own 1 1 0 m),(18,.sl 6 (n.Am.map Im.v)),(19,.int .i64 (m:Nat)),(20,.int .i64 k)])
  (λk=>[.dead,.arr 3 1 ((BG k).map (λi:Nat=>.int .i64 (Sk n fr till i))++A9 (m-k) (.int .i64 0))]) (λk=>k<=m) (λk=>m-k) (λk hk=>⟨rfl,Jt rfl λ_=>rfl,trivial⟩) ⟨0,?_⟩ (λ_=>rfl) λk hk=>?_
 refine kQ ?_;exact BR _;refine kR ?_;constructor<;>intro h
 ·have h:k<m:=by have:=of_decide_eq_true h;omega
  have gI:(n.Am.map Im.v)[((k:Nat):Int).toNat]?=some (n.B3 k).v:=getD_map Im.v n.Am GD (by omega) (by omega);have HB:=hs.ok.B3 _ (Bx (l:=n.Am) (i:=k) GD (by omega) (by omega));replace HB:0<=(n.B3 k).dst/\(n.B3 k).dst<n.Ag.length:=⟨HB.2.2.1,HB.2.2.2.1⟩;have yE:(n.Ag.map LC.v)[(n.B3 k).dst.toNat]?=some (n.Cd (n.B3 k).dst).v:=getD_map LC.v n.Ag GY HB.1 HB.2;have UI:((BG k).map (λi:Nat=>AV.int .i64 (Sk n fr till i))++A9 (m-k) (AV.int .i64 0)).set (0+((k:Nat):Int).toNat) (AV.int .i64 (Sk n fr till k))=_:=Pw (z:=.int .i64 0) (λi:Nat=>.int .i64 (Sk n fr till i)) h;have Dy:=Px (z:=.int .i64 0) (λi:Nat=>.int .i64 (Sk n fr till i)) h;have hw:=hw k (by omega);refine kW ?_;refine⟨by omega,_,gI,?_⟩;refine kW ?_;refine kC (hw) ?_;constructor<;>intro g;have ZbN:=ZeW (n:=n) (fr:=fr) (till:=till) (i:=k) (by simpa using g);refine kW ?_;refine⟨⟨by omega,by omega⟩,?_⟩;(conv=>whnf);refine⟨_,Dy,?_⟩;(conv=>whnf);rw[<-ZbN,UI];refine kW ?_;refine⟨k+1,?_⟩;refine qG ?_;omega;have ZbN:=ZeV (n:=n) (fr:=fr) (till:=till) (i:=k) (by simpa using g);refine kW ?_;refine⟨HB.1,_,yE,?_⟩;refine kW ?_;refine⟨⟨by omega,by omega⟩,?_⟩;conv=>whnf
  refine⟨_,Dy,?_⟩;conv=>whnf
  rw[<-ZbN,UI];refine kW ?_;refine⟨k+1,?_⟩;refine qG ?_;omega
 have h:k=m:=by have:=of_decide_eq_false h;omega
 subst h;refine kW ?_;rw[EA,C3,C0];refine⟨⟨by simp,Ad _ (λ_=>rfl) _⟩,?_⟩;unfold H3 ints;rw[DL,hm];rfl
def KI(n:Net)(C:List Int)(B:List (List Int))(o d:Int)(i:Nat):Bool:=decide ((n.B3 i).fr=o)&&!decide (C.getD i 0=-1099511627776)&&!decide (OQ B (n.B3 i).dst d<0)&&decide (Wr .i64 (C.getD i 0+OQ B (n.B3 i).dst d)=OQ B o d)
def JR(p:Nat->Bool):Nat->Nat->Int
 |0,_=>-1
 |f+1,k=>if p k then (k:Int)else JR p f (k+1)
def qY(n:Net)(C:List Int)(B:List (List Int))(o d:Int):Int:=JR (KI n C B o d) n.Am.length 0
theorem oB{N:List (List Int)}(h:LA N m){i:Int}(i0:0<=i)(hi:i<m):(N.map ints)[i.toNat]?=some (ints (N.getD i.toNat [])):=by simp[show i.toNat<N.length by rw[h.1];omega]
theorem oC{N:List (List Int)}(h:LA N m){i j:Int}(i0:0<=i)(hi:i<m)(j0:0<=j)(hj:j<m):((N.getD i.toNat []).map (AV.int .i64))[j.toNat]?=some (.int .i64 (OQ N i j)):=by
 have:=h.2 i.toNat (by omega);unfold OQ;generalize N.getD i.toNat []=r at*;simp[show j.toNat<r.length by omega]
theorem xL(n:Net)(hn:Dw n)(C:List Int)(B:List (List Int))(o d:Nat)(hC:C.length=n.Am.length)(hB:LA B n.Ag.length)(ho:o<n.Ag.length)(hd:d<n.Ag.length):
  Au Pg 147 [n.v,ints C,DN B,.int .i64 o,.int .i64 d] (λr=>r=.int .i64 (qY n C B o d)):=by
 refine Au.Ak func147 rfl Ab (by kernel_rfl) ?_;conv=>whnf
 refine Aa.seq ?_;refine Aa.CF [0] ?_;refine Aa.st Ab rfl ?_;refine kW ?_;have hL:=hn.len;rw[Ax];obtain⟨m,hm⟩:∃m,m=n.Am.length:=⟨_,rfl⟩;unfold qY;rw[<-hm]at hC hL ⊢;obtain⟨R,hR⟩:∃R,R=JR (KI n C B o d) m 0:=⟨_,rfl⟩;rw[<-hR]
 refine Aa.Ar (λx:Nat×Nat=>mk 70 [(1,ints C),(2,DN B),(3,.int .i64 o),(4,.int .i64 d),(5,.at_ n.c),(11,.int .i64 (-1)),(15,.sl 6 (n.Am.map Im.v)),(16,.int .i64 (m:Nat)),(17,.int .i64 (x.1:Nat))])
  (λ_=>[.dead]) (λx=>x.1+x.2=m/\R=JR (KI n C B o d) x.2 x.1) (λx=>x.2) (λ_ _=>⟨rfl,trivial⟩) ⟨(0,m),?_⟩ (λ_=>rfl) λx hx=>?_
 refine kQ ?_;exact hR;obtain⟨k,f⟩:=x;obtain⟨h1,h2⟩:=hx;simp only at h1 h2;refine kR ?_;constructor<;>intro h
 ·have h:k<m:=by have:=of_decide_eq_true h;simp only at this;omega
  obtain⟨f,rfl⟩:∃f',f=f'+1:=⟨f-1,by omega⟩;unfold JR at h2;have gI:(n.Am.map Im.v)[((k:Nat):Int).toNat]?=some (n.B3 k).v:=getD_map Im.v n.Am GD (by omega) (by omega);have HB:=hn.B3 _ (Bx (l:=n.Am) (i:=k) GD (by omega) (by omega));replace HB:0<=(n.B3 k).dst/\(n.B3 k).dst<n.Ag.length:=⟨HB.2.2.1,HB.2.2.2.1⟩;have NB:(C.map (AV.int .i64))[((k:Nat):Int).toNat]?=some (.int .i64 (C.getD k 0)):=by simp[show k<C.length by omega]
  refine kW ?_;refine⟨by omega,_,gI,?_⟩;refine kW ?_;have pK:KI n C B o d k=false->R=JR (KI n C B o d) f (k+1):=λhp=>by rw[h2,hp];rfl
  have Zhd:KI n C B o d k=true->R=k:=λhp=>by rw[h2,hp];rfl
  constructor<;>intro q
  ·(have q1:(n.B3 k).fr=o:=by simpa using q);(conv=>whnf);refine⟨by omega,_,NB,?_⟩;(conv=>whnf);constructor<;>intro q
   ·have q2:¬C.getD k 0=-1099511627776:=of_decide_eq_false q;(conv=>whnf);refine⟨HB.1,_,oB hB HB.1 HB.2,?_⟩;(conv=>whnf);refine⟨by omega,_,oC hB HB.1 HB.2 (by omega) (by omega),?_⟩;refine kW ?_;constructor<;>intro q;·have q3:OQ B (n.B3 k).dst d<0:=of_decide_eq_true q;refine kW ?_;refine⟨(k+1,f),?_⟩;refine qG ?_;exact⟨⟨by simp only;omega,pK (by simp[KI,q3])⟩,CT _⟩
    have q3:¬OQ B (n.B3 k).dst d<0:=of_decide_eq_false q;refine kW ?_;refine Aa.draw [] Ab mO (by kernel_rfl) ?_;(conv=>whnf);refine⟨by omega,_,NB,?_⟩;(conv=>whnf);refine⟨HB.1,_,oB hB HB.1 HB.2,?_⟩;(conv=>whnf);refine⟨by omega,_,oC hB HB.1 HB.2 (by omega) (by omega),?_⟩;(conv=>whnf);refine⟨by omega,_,JG hB ho,?_⟩;(conv=>whnf);refine⟨by omega,_,JH hB ho hd,?_⟩;(conv=>whnf);rw[BK]at q2;constructor<;>intro q;have q4:=of_decide_eq_true q;rw[Zhd (by simp[KI,q1,q2,q3]at q4 ⊢;first|exact⟨by omega,q4⟩|exact q4)];exact Er;have q4:=of_decide_eq_false q;refine kW ?_;refine⟨(k+1,f),?_⟩;refine qG ?_;exact⟨⟨by simp only;omega,pK (by simp[KI,q1,q2,q3]at q4 ⊢;first|exact λ_=>q4|exact q4)⟩,CT _⟩
   have q2:C.getD k 0=-1099511627776:=of_decide_eq_true q;rw[BK]at q2;refine kW ?_;refine⟨(k+1,f),?_⟩;refine qG ?_;exact⟨⟨by simp only;omega,pK (by simp[KI,q2])⟩,CT _⟩
  have q1:¬(n.B3 k).fr=o:=by simpa using q
  refine kW ?_;refine⟨(k+1,f),?_⟩;refine qG ?_;exact⟨⟨by simp only;omega,pK (by simp[KI,q1])⟩,CT _⟩
 have h:k=m:=by have:=of_decide_eq_false h;simp only at this;omega
 obtain rfl:f=0:=by omega
 unfold JR at h2;rw[h2];exact Er
def Ue(n:Net)(C:List Int)(B:List (List Int))(o d:Int):Int:=if o=d then -1 else if OQ B o d<0 then -1 else qY n C B o d
theorem jU(n:Net)(hn:Dw n)(C:List Int)(B:List (List Int))(o d:Nat)(hC:C.length=n.Am.length)(hB:LA B n.Ag.length)(ho:o<n.Ag.length)(hd:d<n.Ag.length):
  Au Pg 146 [.int .i64 o,.int .i64 d,.at_ [DN B],.at_ n.c,.at_ [ints C]] (λr=>r=.int .i64 (Ue n C B o d)):=by
 unfold Ue;refine kB func146 rfl ?_;constructor<;>intro q
 ·rw[if_neg (by simpa using q)];conv=>whnf
  refine⟨by omega,_,JG hB ho,?_⟩;conv=>whnf
  refine⟨by omega,_,JH hB ho hd,?_⟩;refine kW ?_;constructor<;>intro q;rw[if_pos (of_decide_eq_true q)];exact Er;rw[if_neg (of_decide_eq_false q)];refine kW ?_;exact pE (xL n hn C B o d hC hB ho hd)
 rw[if_pos (by simpa using q)];exact Er
theorem Zv(o d:Nat):Au Pg 195 [.int .i64 o,.int .i64 d] (λr=>r=.int .i64 (-1099511627776)):=by
 exact kBe func195 rfl
theorem Zge(N:Net)(n:Nat)(hN:N.Ag.length=n)(hn:n<=1000)(E0:List AV)(hE:∀F:List HO,F.length=5->AR F E0=true)(K:AV->KK)(X:XX)
  (hK:∀L:List (Nat×List Int),L.map C4=H6 n (λ_ _=>-1099511627776)->K (.own 4 1 0 n) E0 [.inv (Rz 3 L),.dead,.ghost [] [] [],.cells N.c,.arr 49 1 (Bl L)]):
  Ah Pg 145 [N.v,.fn 195 []] E0 [.inv (Rz 3 []),.dead] K X:=by
 refine Ah.inline func145 rfl Ab (by kernel_rfl) λus ms=>?_;conv=>whnf
 refine kR ?_;rw[Ax,hN];refine⟨⟨by omega,by omega,by omega⟩,?_⟩;refine kW ?_
 refine Aa.Ar (λL:List (Nat×List Int)=>mk 45 [(1,.fn 195 []),(2,.ptr 3 0),(5,.own 4 1 0 n),(13,.int .i64 n),(14,.int .i64 (L.length:Nat))]) (λL=>[.inv (Rz 3 L),.dead,.ghost E0 us ms,.cells N.c,.arr 49 1 (Bl L++A9 (n-L.length) C6)])
  (λL=>L.map C4=(BG L.length).map (λi:Nat=>(BG n).map λj:Nat=>(-1099511627776))/\L.length<=n) (λL=>n-L.length) (λL _=>⟨rfl,hE _ rfl,rfl,CN CO,trivial⟩) ⟨[],?_⟩ (λ_=>rfl) λL hL=>?_
 refine kQ ?_;exact BR _;obtain⟨h1,h2⟩:=hL;refine kR ?_;constructor<;>intro h
 ·have h:L.length<n:=by have:=of_decide_eq_true h;omega
  obtain⟨m,hm⟩:∃m,n-L.length=m+1:=⟨n-L.length-1,by omega⟩;rw[hm];iterate 6 (refine sT rfl ?_;conv=>whnf)
  refine Aa.K7 [5] Ab ?_;conv=>whnf
  rw[Ax,hN];refine⟨⟨by omega,rfl,by omega,by decide⟩,rfl,_,rfl,λb hb=>?_⟩;conv=>whnf
  refine⟨⟨by omega,by omega⟩,?_⟩;conv=>whnf
  refine⟨_,DB rfl _ _,?_⟩;conv=>whnf
  rw[J7 rfl];iterate 1 (refine sT rfl ?_;conv=>whnf)
  refine Aa.K7 [4] Ab ?_;conv=>whnf
  refine⟨⟨by omega,by omega⟩,?_⟩;conv=>whnf
  refine⟨_,DB rfl _ _,?_⟩;conv=>whnf
  refine⟨by omega,?_⟩;refine kW ?_
  refine Aa.Ar (λj:Nat=>mk 45 [(1,.fn 195 []),(2,.ptr 3 0),(5,.own 4 1 0 n),(6,.int .i64 (L.length:Nat)),(13,.int .i64 n),(14,.int .i64 (L.length:Nat)),(28,.int .i64 n),(29,.int .i64 j)]) (λj=>[.inv (Rz 3 (L++[(b,EL n ((λ_=>-1099511627776)) j)])),.dead,.ghost E0 us ms,.cells N.c,.arr 49 1 (Bl L++.raw (K9 b n)::A9 m C6)])
   (λj=>j<=n) (λj=>n-j) (λj _=>⟨rfl,hE _ rfl,rfl,CN (by intro e he;rcases C1.1 he with rfl|he;rfl;exact CO e he),trivial⟩) ⟨0,?_⟩ (λ_=>rfl) λj hj=>?_
  refine kQ ?_;exact BR _;refine kR ?_;constructor<;>intro g1;·(have g1:j<n:=by have:=of_decide_eq_true g1;omega);refine kW ?_;refine Aa.Vd [9,10] Ab mO (by kernel_rfl) ?_;(conv=>whnf);refine⟨⟨by omega,by omega⟩,?_⟩;(conv=>whnf);refine⟨_,DB rfl _ _,?_⟩;(conv=>whnf);refine⟨_,⟨Zv L.length j,rfl⟩,?_⟩;(conv=>whnf);refine⟨⟨by omega,by omega⟩,?_⟩;(conv=>whnf);refine⟨_,_,L.length,_,rfl,Kk _ _,by rw[FD hj];omega,?_⟩;(conv=>whnf);rw[Kh,Mn (h:=(λ_=>-1099511627776)) g1];refine kW ?_;refine⟨j+1,?_⟩;refine qG ?_;omega
  have g1:j=n:=by have:=of_decide_eq_false g1;omega
  refine kW ?_;have e1:Wr .i64 ((L.length:Nat)+1:Int)=((L++[(b,EL n ((λ_=>-1099511627776)) j)]).length:Nat):=by rw[ZI _ (by omega)];simp
  have e2:Bl L++.raw (K9 b n)::A9 m C6=Bl (L++[(b,EL n ((λ_=>-1099511627776)) j)])++A9 (n-(L++[(b,EL n ((λ_=>-1099511627776)) j)]).length) C6:=by rw[show n-(L++[(b,EL n ((λ_=>-1099511627776)) j)]).length=m by simp;omega];simp[Bl,FD hj]
  refine⟨L++[(b,EL n ((λ_=>-1099511627776)) j)],?_⟩;refine qG ?_;refine⟨⟨?_,by simp;omega⟩,by simp;omega⟩;rw[g1,J8];simp[h1,Cc]
 have h:L.length=n:=by have:=of_decide_eq_false h;omega
 rw[show Bl L++A9 (n-L.length) C6=Bl L by simp[h]];refine kW ?_;exact⟨⟨rfl,rfl⟩,hK L (by rw[h1,h];rfl)⟩
def Zw(e:Int)(S:List (List Int))(o d:Int):Int:=if e≠0 then -1 else if OQ S o d=-1099511627776 then -1 else Wr .i64 (0-OQ S o d)
theorem Zu(e:Int)(S:List (List Int))(m o d:Nat)(hS:e=0->LA S m)(ho:o<m)(hd:d<m):Au Pg 197 [.int .i64 o,.int .i64 d,.at_ [.int .i64 e],.at_ [DN S]] (λr=>r=.int .i64 (Zw e S o d)):=by
 unfold Zw;refine kB func197 rfl ?_;constructor<;>intro q
 ·have q:e=0:=by simpa using q
  have hS:=hS q;rw[if_neg (λh=>h q)];conv=>whnf
  refine⟨by omega,_,JG hS ho,?_⟩;conv=>whnf
  refine⟨by omega,_,JH hS ho hd,?_⟩;refine kW ?_;constructor<;>intro q;rw[if_pos (of_decide_eq_true q)];exact Er;rw[if_neg (of_decide_eq_false q)];refine kW ?_;refine⟨by omega,_,JG hS ho,?_⟩;conv=>whnf
  refine⟨by omega,_,JH hS ho hd,?_⟩;exact Er
 have q:¬e=0:=by simpa using q
 rw[if_pos q];exact Er
def Ux(n:Net)(C:List Int)(M:List (List Int))(i:Nat):List (List Int):=
 if C.getD i 0=-1099511627776 then M else M.set (n.B3 i).fr.toNat ((M.getD (n.B3 i).fr.toNat []).set (n.B3 i).dst.toNat (max (OQ M (n.B3 i).fr (n.B3 i).dst) (Wr .i64 (0-C.getD i 0))))
def GF(n:Net)(C:List Int):Nat->List (List Int)
 |0=>H6 n.Ag.length (λ_ _=>-1099511627776)
 |k+1=>Ux n C (GF n C k) k
theorem Uw{n:Net}{C:List Int}(k:Nat):LA (GF n C k) n.Ag.length:=by
 induction k with
 |zero=>exact Mi _ _
 |succ k ih=>
  show LA (Ux n C (GF n C k) k) _;unfold Ux;split;exact ih;generalize (n.B3 (k:Nat)).fr.toNat=j;refine⟨by rw[F4];exact ih.1,λi hi=>?_⟩;rw[BK];by_cases e:j=i;subst e;rw[D6 (by rw[ih.1];exact hi),Fw,F4];exact ih.2 _ hi;rw[EU e,<-BK];exact ih.2 i hi
theorem sX{b:Nat}{r r':List Int}(h:L[j]?=some (b,r))(hr:r'.length=r.length):Bl (L.set j (b,r'))=Bl L:=by
 unfold Bl;apply List.ext_getElem?;intro i;by_cases e:j=i;subst e;rw[Cb,Cb,h,D6 (CJ.1 h).1];simp[hr];rw[Cb,Cb,EU e]
theorem Zdp{N:List (List Int)}(h:(Pb N).1=0):LA (Pb N).2 N.length:=by
 have key:∀(m f k:Nat)(M S:List (List Int)),LA M m->Pc m f k M=some S->LA S m:=by
  intro m f
  induction f with
  |zero=>intro k M S hM h;unfold Pc at h;cases h;exact hM
  |succ f ih=>
   intro k M S hM h;unfold Pc at h;split at h;cases h;exact ih (k+1) _ S (Mi _ _) h
 unfold Pb at h⊢;split at h;·rename_i hv;rw[if_pos hv];split at h;simp at h;rename_i hc;rw[if_neg hc];split at h;simp at h;rename_i S hS;exact key _ _ _ _ _ (Mi _ _) hS
 simp at h
def NM(n:Net)(C:List Int):List (List Int):=H6 n.Ag.length (Zw (Pb (GF n C n.Am.length)).1 (Pb (GF n C n.Am.length)).2)
theorem fT(n:Net)(hn:Dw n)(C:List Int)(hC:C.length=n.Am.length):Au Pg 144 [n.v,ints C] (λr=>r=DN (NM n C)):=by
 refine Au.Ak func144 rfl Ab (by kernel_rfl) ?_;conv=>whnf
 refine Aa.Mm 3 ?_;refine Aa.seq ?_;refine Aa.CF [1] ?_;refine Aa.st Ab rfl ?_;refine kW ?_;have hL:=hn.len;obtain⟨p,hp⟩:∃p,p=n.Ag.length:=⟨_,rfl⟩;obtain⟨m,hm⟩:∃m,m=n.Am.length:=⟨_,rfl⟩;refine Zge n p hp.symm (by omega) _ (λF hF=>rfl) _ _ λL0 hL0=>?_;refine kW ?_;rw[Ax,<-hm];have ZoY:L0.length=p:=by have:=congrArg List.length hL0;simpa[H6]using this
 obtain⟨A0,hA0⟩:∃A0,A0=Bl L0:=⟨_,rfl⟩;rw[<-hA0]
 refine Aa.Ar (λx:Nat×List (Nat×List Int)=>mk 57 [(1,ints C),(2,.at_ n.c),(5,.own 4 1 0 p),(13,.sl 6 (n.Am.map Im.v)),(14,.int .i64 (m:Nat)),(15,.int .i64 (x.1:Nat))])
  (λx=>[.inv (Rz 3 x.2),.dead,.ghost [] [] [],.cells n.c,.arr 49 1 A0]) (λx=>x.1<=m/\Bl x.2=A0/\x.2.map C4=GF n C x.1) (λx=>m-x.1) (λx _=>⟨rfl,rfl,rfl,by rw[hA0];exact Ad _ (λ_=>rfl) _,trivial⟩) ⟨(0,L0),?_⟩ (λ_=>rfl) λx hx=>?_
 refine kQ ?_;exact⟨hA0.symm,hL0.trans (by rw[hp];rfl)⟩;obtain⟨k,L⟩:=x;obtain⟨h1,h2,h3⟩:=hx;simp only at h1 h2 h3;refine kR ?_;constructor<;>intro h
 ·have h:k<m:=by have:=of_decide_eq_true h;simp only at this;omega
  have gI:(n.Am.map Im.v)[((k:Nat):Int).toNat]?=some (n.B3 k).v:=getD_map Im.v n.Am GD (by omega) (by omega);have HB:=hn.B3 _ (Bx (l:=n.Am) (i:=k) GD (by omega) (by omega));replace HB:0<=(n.B3 k).fr/\(n.B3 k).fr<p/\0<=(n.B3 k).dst/\(n.B3 k).dst<p:=⟨HB.1,by rw[hp];exact HB.2.1,HB.2.2.1,by rw[hp];exact HB.2.2.2.1⟩;have NB:(C.map (AV.int .i64))[((k:Nat):Int).toNat]?=some (.int .i64 (C.getD k 0)):=by simp[show k<C.length by omega]
  have UL:=show GF n C (k+1)=Ux n C (GF n C k) k from rfl
  unfold Ux at UL;have hsq:=@Uw n C k;rw[<-h3]at UL hsq;refine kW ?_;refine⟨by omega,_,gI,?_⟩;refine kW ?_;refine⟨by omega,_,NB,?_⟩;refine kW ?_;constructor<;>intro q;·(have q:¬C.getD k 0=-1099511627776:=by simpa using q);rw[if_neg q]at UL;refine kW ?_;(have ZfE:L.length=p:=by have:=hsq.1;rw[Ax]at this;omega);obtain⟨⟨b,row⟩,hLg⟩:∃x,L[(n.B3 k).fr.toNat]?=some x:=⟨L[(n.B3 k).fr.toNat]'(by omega),BQ (by omega)⟩;(have Kp:(L.map C4).getD (n.B3 k).fr.toNat []=row:=by rw[BK,Cb,hLg];rfl);(have hrl:row.length=p:=by have:=hsq.2 (n.B3 k).fr.toNat (by omega);rw[Kp]at this;omega);(have hA:A0[0+(n.B3 k).fr.toNat]?=some (.raw (K9 b p)):=by rw[<-h2,Nat.zero_add];unfold Bl;rw[Cb,hLg];simp[hrl]);(have hx:row[(n.B3 k).dst.toNat]?=some (OQ (L.map C4) (n.B3 k).fr (n.B3 k).dst):=by unfold OQ;rw[Kp];simp[show(n.B3 k).dst.toNat<row.length by omega]);rw[Kp]at UL;refine Aa.Vd [14,15,22,23] Ab mO (by kernel_rfl) ?_;(conv=>whnf);refine⟨⟨by omega,by omega⟩,?_⟩;(conv=>whnf);refine⟨_,hA,?_⟩;(conv=>whnf);refine⟨⟨by omega,by omega⟩,?_⟩;(conv=>whnf);refine⟨_,hA,?_⟩;(conv=>whnf);refine⟨⟨by omega,by omega⟩,?_⟩;(conv=>whnf);refine⟨_,_,_,_,rfl,List.mem_of_getElem? hLg,hx,?_⟩;(conv=>whnf);refine⟨by omega,_,NB,?_⟩;(conv=>whnf);refine⟨⟨by omega,by omega⟩,?_⟩;(conv=>whnf);refine⟨_,_,(n.B3 k).fr.toNat,row,rfl,hLg,by omega,?_⟩;refine kW ?_;refine⟨(k+1,L.set (n.B3 k).fr.toNat (b,row.set (n.B3 k).dst.toNat (max (OQ (L.map C4) (n.B3 k).fr (n.B3 k).dst) (Wr .i64 (0-C.getD k 0))))),?_⟩;refine qG ?_;refine⟨⟨h,(sX hLg (by simp)).trans h2,?_⟩,by simp only;omega⟩;rw[List.map_set];exact UL.symm
  have q:C.getD k 0=-1099511627776:=by simpa using q
  rw[if_pos q]at UL;refine kW ?_;refine⟨(k+1,L),?_⟩;refine qG ?_;exact⟨⟨h,h2,h3.trans (UL.trans h3).symm⟩,by simp only;omega⟩
 have h:k=m:=by have:=of_decide_eq_false h;simp only at this;omega
 subst h;have ZfE:L.length=p:=by have:=(@Uw n C k).1;rw[<-h3,Ax]at this;omega
 rw[<-h2];refine Aa.Jp 4 rfl rfl ?_;have eS:Gy L=(GF n C k).map ints:=by rw[<-h3,DL];rfl
 rw[show Gy (k,L).2=(GF n C k).map ints from eS];have eL:p=((GF n C k).map ints).length:=by rw[<-eS];simp[Gy,ZfE]
 have hsq:=@Uw n C k;have hSq:=@Zdp (GF n C k);rw[hsq.1,<-hp]at hSq;unfold NM;rw[<-hm,<-hp];obtain⟨S,hS⟩:∃S,S=Pb (GF n C k):=⟨_,rfl⟩;have Ai:=sD (GF n C k);rw[<-hS]at Ai hSq ⊢;iterate 2 (refine sT rfl ?_;conv=>whnf)
 rw[eL];refine Aa.freeze 4 ?_;conv=>whnf
 refine⟨Ad _ (λ_=>rfl) _,?_⟩;conv=>whnf
 repeat(refine⟨(by first|rfl|(simp;done):(_:Nat)=_),?_⟩;conv=>whnf)
 rw[<-eL];refine Aa.CF [5,6] ?_;refine Aa.st Ab rfl ?_;conv=>whnf
 refine kC (Ai) ?_;refine kC (Z8 n p 197 [.int .i64 S.1] [DN S.2] (Zw S.1 S.2) hp.symm (by omega) λi j hi hj=>Zu S.1 S.2 p i j hSq hi hj) ?_;rfl
def Ud(n:Net)(fr till:Int):List (List Int):=H6 n.Ag.length (Ue n (H3 n fr till) (NM n (H3 n fr till)))
theorem ZX(n:Net)(hs:Sound n)(fr till:Int)(f0:0<=fr)(f1:fr<till)(f2:till<=2000000)(f3:till<=fr+86400):Au Pg 142 [n.v,.int .i64 fr,.int .i64 till] (λr=>r=.bool true):=by
 refine kB func142 rfl ?_;refine⟨λ_=>?_,λh=>absurd (of_decide_eq_true h) (by omega)⟩;conv=>whnf
 refine⟨λ_=>?_,λh=>absurd (of_decide_eq_true h) (by omega)⟩;conv=>whnf
 refine⟨λ_=>?_,λh=>absurd (of_decide_eq_true h) (by omega)⟩;conv=>whnf
 rw[HE (n:=till-fr) (by omega)];refine kW ?_;refine⟨λh=>absurd (of_decide_eq_true h) (by omega),λ_=>?_⟩;refine kW ?_;refine kC (hs.chk) ?_;simp
theorem xR(n:Net)(hs:Sound n)(fr till:Int)(f0:0<=fr)(f1:fr<till)(f2:till<=2000000)(f3:till<=fr+86400):Au Pg 113 [n.v,.int .i64 fr,.int .i64 till] (λr=>r=DN (Ud n fr till)):=by
 have hC:(H3 n fr till).length=n.Am.length:=by simp[H3]
 have hL:=hs.ok.len;refine Au.Ak func113 rfl Ab (by kernel_rfl) ?_;conv=>whnf
 refine Aa.seq ?_;refine Aa.CF [0] ?_;refine Aa.st Ab rfl ?_;refine kW ?_;refine kC (ZX n hs fr till f0 f1 f2 f3) ?_;refine⟨λh=>absurd h (by decide),λ_=>?_⟩;iterate 2 (refine sT rfl ?_;conv=>whnf)
 refine Aa.CF [1] ?_;refine Aa.st Ab rfl ?_;conv=>whnf
 refine cS (mE n hs fr till f0 f1 f2 f3) rfl ?_;conv=>whnf
 iterate 1 (refine sT rfl ?_;conv=>whnf)
 refine Aa.CF [2] ?_;refine Aa.st Ab rfl ?_;conv=>whnf
 refine cS (fT n hs.ok (H3 n fr till) hC) rfl ?_;refine kW ?_;refine kC (Z7 n n.Ag.length 146 [DN (NM n (H3 n fr till))] n.c [ints (H3 n fr till)] (Ue n (H3 n fr till) (NM n (H3 n fr till))) rfl (by omega) λi j hi hj=>jU n hs.ok _ _ i j hC (Mi _ _) hi hj) ?_;rfl
theorem P4(p:Nat->Bool):∀f k,JR p f k=-1\/∃i:Nat,JR p f k=i/\k<=i/\i<k+f/\p i=true
 |0,k=>.inl rfl
 |f+1,k=>by
  unfold JR;split;·rename_i h;exact .inr ⟨k,rfl,E1 _,by omega,h⟩
  rcases P4 p f (k+1)with h|⟨i,h1,h2,h3,h4⟩;exact .inl h;exact .inr ⟨i,h1,by omega,by omega,h4⟩
theorem SS(n:Net)(fr till:Int):Et n (Ud n fr till):=by
 unfold Ud;generalize H3 n fr till=C;generalize NM n C=B;refine⟨by simp[H6],λo ho=>?_⟩;have Y1:o<n.Ag.length:=by simpa[H6]using ho
 have hr:(H6 n.Ag.length (Ue n C B)).getD o []=(BG n.Ag.length).map λj:Nat=>Ue n C B o j:=by simp[H6,Y1]
 rw[hr];refine⟨by simp,λl hl=>?_⟩;obtain⟨d,_,rfl⟩:=Ce.1 hl;unfold Ue;split;exact .inl rfl;split;exact .inl rfl;unfold qY;rcases P4 (KI n C B o d) n.Am.length 0 with h|⟨i,h1,h2,h3,h4⟩;exact .inl h;refine .inr ⟨by omega,by omega,?_⟩;unfold KI at h4;simp only[Dp,decide_eq_true_eq]at h4;rw[h1];exact h4.1.1.1
theorem YK(p:Int):Au Pg 154 [.int .i64 p] (λr=>r=.bool (decide (2<=p)&&decide (p<=64))):=by
 refine kB func154 rfl ?_
 repeat' (first|(refine BU (λ_=>?_) (λ_=>?_)<;>conv=>whnf)|refine Ql ?_|fail)
 all_goals (first|(simp_all;done)|(simp_all;omega))
def SC(b:Int):Nat->Int
 |0=>1
 |k+1=>Wr .i64 (SC b k*b)
theorem TR(b:Int)(k:Nat)(hk:k<=1000):Au Pg 155 [.int .i64 b,.int .i64 k] (λr=>r=.int .i64 (SC b k)):=by
 refine kB func155 rfl ?_;refine Aa.Ar (λj:Nat=>mk 14 [(0,.int .i64 b),(5,.int .i64 (SC b j)),(6,.int .i64 k),(7,.int .i64 j)]) (λ_=>[]) (λj=>j<=k) (λj=>k-j) (λ_ _=>⟨rfl,trivial⟩) ⟨0,?_⟩ (λ_=>rfl) λj hj=>?_;refine kQ ?_;exact BR _;refine kR ?_;constructor<;>intro h
 ·have h:j<k:=by have:=of_decide_eq_true h;omega
  refine kW ?_;refine⟨j+1,?_⟩;refine qG ?_;omega
 have h:j=k:=by have:=of_decide_eq_false h;omega
 subst h;exact Er
def Pm(p:Int)(q k:Nat):Int:=if SC p q<k then 140 else 0
theorem bF{b:Int}(b0:2<=b)(b1:b<=64):∀k:Nat,k<=4->1<=SC b k/\SC b k<=64^k
 |0,_=>by unfold SC;simp
 |k+1,hk=>by
  obtain⟨h1,h2⟩:=bF b0 b1 k (by omega)
  have h3:SC b k*b<=64^k*64:=EW h2 b1 (by omega) (by have:(0:Int)<=64^k:=by exact_mod_cast BR _
                                                     exact this)
  have h4:1<=SC b k*b:=by have:=EW (a:=1) (b:=1) (c:=SC b k) (d:=b) h1 (by omega) (by decide) (by omega);omega
  have h5:(64:Int)^k<=64^3:=by (have:k<=3:=by omega);rcases k with _|_|_|_|k<;>first|decide|omega
  unfold SC;rw[HE (by omega),Int.pow_succ];exact⟨h4,h3⟩
theorem aJ(p:Int)(q k:Nat)(p0:2<=p)(p1:p<=64)(q0:1<=q)(q1:q<=4)(k1:k<=1000):Au Pg 116 [.int .i64 p,.int .i64 q,.int .i64 k] (λr=>∃M,r=.tuple [M,.int .i64 (Pm p q k)]):=by
 refine Au.Ak func116 rfl Ab (by kernel_rfl) ?_;conv=>whnf
 refine Aa.Mm 3 ?_;refine kR ?_;refine kC (YK p) ?_;refine⟨λ_=>?_,λh=>absurd h (by simp[p0,p1])⟩;conv=>whnf
 refine⟨λ_=>?_,λh=>absurd (of_decide_eq_true h) (by omega)⟩;conv=>whnf
 refine⟨λ_=>?_,λh=>absurd (of_decide_eq_true h) (by omega)⟩;conv=>whnf
 refine⟨λ_=>?_,λh=>absurd (of_decide_eq_true h) (by omega)⟩;refine kW ?_;refine⟨λh=>absurd (of_decide_eq_true h) (by omega),λ_=>?_⟩;refine kW ?_;refine kC (TR p q (by omega)) ?_;unfold Pm;constructor<;>intro h;rw[if_pos (of_decide_eq_true h)];refine kW ?_;exact⟨1,_,rfl⟩;rw[if_neg (of_decide_eq_false h)];refine kW ?_;refine⟨⟨by omega,by omega,by omega⟩,?_⟩;refine kW ?_
 refine Aa.Ar (λL:List (Nat×List Int)=>mk 66 [(0,.int .i64 p),(1,.int .i64 q),(2,.int .i64 k),(8,.own 1 1 0 q),(37,.int .i64 q),(38,.int .i64 (L.length:Nat))]) (λL=>[.inv (Rz 3 L),.arr 49 1 (Bl L++A9 (q-L.length) C6)])
  (λL=>L.length<=q) (λL=>q-L.length) (λL _=>⟨rfl,CN CO,trivial⟩) ⟨[],?_⟩ (λ_=>rfl) λL h2=>?_
 refine kQ ?_;exact BR _;refine kR ?_;constructor<;>intro h
 ·have h:L.length<q:=by have:=of_decide_eq_true h;omega
  obtain⟨m,hm⟩:∃m,q-L.length=m+1:=⟨q-L.length-1,by omega⟩;rw[hm];iterate 6 (refine sT rfl ?_;conv=>whnf)
  refine Aa.K7 [3] Ab ?_;conv=>whnf
  refine⟨⟨by omega,rfl,by omega,by decide⟩,rfl,_,rfl,λb hb=>?_⟩;conv=>whnf
  refine⟨⟨by omega,by omega⟩,?_⟩;conv=>whnf
  refine⟨_,DB rfl _ _,?_⟩;conv=>whnf
  rw[J7 rfl];refine kW ?_
  refine Aa.Ar (λx:Nat×List Int=>mk 66 [(0,.int .i64 p),(1,.int .i64 q),(2,.int .i64 k),(8,.own 1 1 0 q),(9,.int .i64 (L.length:Nat)),(37,.int .i64 q),(38,.int .i64 (L.length:Nat)),(46,.int .i64 k),(47,.int .i64 (x.1:Nat))]) (λx=>[.inv (Rz 3 (L++[(b,x.2)])),.arr 49 1 (Bl L++.raw (K9 b k)::A9 m C6)])
   (λx=>x.1<=k/\x.2.length=k) (λx=>k-x.1) (λj _=>⟨rfl,CN (by intro e he;rcases C1.1 he with rfl|he;rfl;exact CO e he),trivial⟩) ⟨(0,A9 k 0),?_⟩ (λ_=>rfl) λx hx=>?_
  refine kQ ?_;exact List.length_replicate;obtain⟨j,row⟩:=x;obtain⟨hj,Kp⟩:=hx;simp only at hj Kp;have yD:=bF p0 p1 L.length (by omega);refine kR ?_;constructor<;>intro g1;·(have g1:j<k:=by have:=of_decide_eq_true g1;simp only at this;omega);refine kW ?_;refine Aa.Vd [12,13] Ab mO (by kernel_rfl) ?_;(conv=>whnf);refine⟨⟨by omega,by omega⟩,?_⟩;(conv=>whnf);refine⟨_,DB rfl _ _,?_⟩;(conv=>whnf);refine⟨_,⟨TR p L.length (by omega),rfl⟩,?_⟩;(conv=>whnf);refine⟨by omega,?_⟩;(conv=>whnf);refine⟨by omega,?_⟩;(conv=>whnf);refine⟨⟨by simp only;omega,by simp only;omega⟩,?_⟩;(conv=>whnf);refine⟨_,_,L.length,_,rfl,Kk _ _,by simp only;omega,?_⟩;(conv=>whnf);rw[Kh];refine kW ?_;refine⟨(j+1,row.set (((j:Nat):Int)).toNat (Int.tmod (Wr .i64 (Int.tdiv j (SC p L.length))) p)),?_⟩;refine qG ?_;exact⟨⟨g1,by simp[Kp]⟩,by simp only;omega⟩
  have g1:j=k:=by have:=of_decide_eq_false g1;simp only at this;omega
  refine kW ?_;have e1:Wr .i64 ((L.length:Nat)+1:Int)=((L++[(b,row)]).length:Nat):=by rw[ZI _ (by omega)];simp
  have e2:Bl L++.raw (K9 b k)::A9 m C6=Bl (L++[(b,row)])++A9 (q-(L++[(b,row)]).length) C6:=by rw[show q-(L++[(b,row)]).length=m by simp;omega];simp[Bl,Kp]
  refine⟨L++[(b,row)],?_⟩;refine qG ?_;exact⟨by simp;omega,by simp;omega⟩
 have h:L.length=q:=by have:=of_decide_eq_false h;omega
 rw[show Bl L++A9 (q-L.length) C6=Bl L by simp[h]];refine Aa.Jp 1 rfl rfl ?_;refine kW ?_;exact⟨⟨by simp[Gy,h],Ad _ (λ_=>rfl) _⟩,_,rfl⟩
def H5(x:Int):List HO:=[.dead,.dead,.dead,.dead,.dead,.cells [.int .i64 x]]
theorem kA(x:Int):O1 Pg 202 [.ptr 5 0] (H5 x) none (λH=>H=H5 x):=by
 exact Ya9
theorem jZ(x e:Int):O1 Pg 202 [.ptr 5 0] (H5 x) (some (eO e)) (λH=>H=H5 (-1)):=by
 exact Ya9
def moH(n:Net)(N:List (List Int))(k o d x:Int)(vs:List Value):List HO:=[.cells [.at_ n.c],.cells [DN N],.cells [.int .i64 k],.cells [.int .i64 o],.cells [.int .i64 d],.cells [.int .i64 x],.ghost [.ptr 5 0] vs []]
def moE:List AV:=mk 36 [(7,.ptr 0 0),(8,.ptr 1 0),(9,.ptr 2 0),(10,.ptr 3 0),(11,.ptr 4 0),(14,.ptr 5 0)]
def Og(n:Net)(k o fr till:Int):List Int:=LX (n.Cn o) (n.cls k).cut (1440*till) (1440*till-1440*fr).toNat (1440*fr)
def Ia(n:Net)(N:List (List Int))(k o d fr till:Int):Int:=if (Og n k o fr till).all (λt=>decide ((Ff n N k o d t).2=0))then (Og n k o fr till).foldl (λm t=>max m (Ff n N k o d t).1) (-1)else -1
theorem Vh{c:Dm}{m till x:Int}(m0:0<=m)(m1:m<1440):∀(f:Nat)(t:Int),x∈LX c m till f t->t<=x/\x<till
 |0,t,h=>by unfold LX at h;cases h
 |f+1,t,h=>by
  unfold LX at h;split at h;·rename_i hc;have hg:=Nv m0 m1 hc.1;rcases C1.1 h with rfl|h;exact⟨hg.1,hc.2⟩;have:=Vh m0 m1 f _ h;omega
  cases h
theorem tZ(n:Net)(hn:Dw n)(N:List (List Int))(hN:Et n N)(k o d fr till:Int)(k0:0<=k)(k1:k<n.Ao.length)(o0:0<=o)(o1:o<n.Ag.length)(d0:0<=d)(d1:d<n.Ag.length)(f0:0<=fr)(f1:fr<till)(f2:till<=600):
  Au Pg 164 [.at_ n.c,DN N,.int .i64 k,.int .i64 o,.int .i64 d,.int .i64 fr,.int .i64 till] (λr=>r=.int .i64 (Ia n N k o d fr till)):=by
 refine Au.JM func164 rfl Ab (by kernel_rfl) ?_;conv=>whnf
 refine Jj.seq1 (Ay Ab _ ?_);conv=>whnf
 refine Jj.Zgk (Jj.region Ab ?_);conv=>whnf
 refine⟨by kernel_rfl,?_⟩;conv=>whnf
 intro vs;refine kR ?_;rw[HE (n:=1440*fr) (by omega),HE (n:=1440*till) (by omega)];refine kC (Zk n k o (1440*fr) (1440*till)) ?_;have LQ:=fD n hn k o (1440*fr) (1440*till) k0 k1 o0 o1 (by omega) (by omega) (by omega);obtain⟨T,hT⟩:∃T,T=Og n k o fr till:=⟨_,rfl⟩;have hr:∀t∈T,0<=t/\t<=3000000:=λt ht=>by have hk:=hn.cls _ (Bx Qd k0 k1);rw[hT]at ht;have:=Vh hk.1 hk.2.1 _ _ ht;omega
 unfold Ia;rw[<-hT];rw[show LX _ _ _ _ _=T from hT.symm]at LQ;clear hT
 refine Aa.Hi (E0:=moE) (xs:=T.map λt=>[AV.int .i64 t]) (O0 ?_) rfl rfl LQ rfl (λus j (x:Int)=>moH n N k o d x vs++[.ghost moE us []])
  (λj x=>((T.take j).all λt=>decide ((Ff n N k o d t).2=0))=true/\x=(T.take j).foldl (λm t=>max m (Ff n N k o d t).1) (-1)) (-1) ⟨rfl,rfl⟩
  (λus e H'=>∃(x er:Int),e=.panic (eO er)/\H'=moH n N k o d x vs++[.ghost moE us []]/\(T.all λt=>decide ((Ff n N k o d t).2=0))=false) (λus=>rfl)
  (λus j x _=>⟨rfl,rfl,by(conv=>whnf);exact⟨rfl,rfl,rfl,rfl,rfl,rfl,rfl,rfl,trivial⟩⟩) (λus j x y hp hy=>?_) (λh=>(h trivial).elim) (λus x hp=>?_) (λus e H' h=>?_)
 ·exact Ya8
 ·have hj:j<T.length:=by have:=(CJ.1 hy).1;simpa using this
  obtain rfl:y=[.int .i64 T[j]]:=by rw[Cb,BQ hj]at hy;exact(E2.inj hy).symm
  obtain⟨hp1,vN⟩:=hp;refine⟨rfl,?_⟩;have htr:=hr T[j] (Dk hj);have Y4:=wR n hn N hN k o d T[j] k0 k1 o0 o1 d0 d1 htr.1 htr.2;refine kW ?_;by_cases he:(Ff n N k o d T[j]).2=0
  ·refine Aa.draw [9] Ab mO (by kernel_rfl) ?_;(conv=>whnf);have ZnE:Au Pg 204 [.at_ n.c,.sl 1 (N.map ints),.int .i64 k,.int .i64 o,.int .i64 d,.int .i64 T[j]] (λr=>r=.int .i64 (Ff n N k o d T[j]).1):=Y4.plain (λ_ _ h=>h.1 he) (λ_ _ h=>h.2);refine⟨_,⟨ZnE,rfl⟩,?_⟩;refine kW ?_;refine⟨max x (Ff n N k o d T[j]).1,⟨?_,?_⟩,?_⟩;·rw[CL hj,List.all_append,hp1];simp[he]
   rw[CL hj,List.foldl_append,vN];rfl;(conv=>whnf);repeat first|exact trivial|(refine⟨rfl,?_⟩;conv=>whnf)
  refine Aa.ZfP 7 Ab mO (by kernel_rfl) ?_;conv=>whnf
  refine λE'=>Ah.Fv Y4 rfl trivial (λr H1 h=>absurd h.1 he) (λx' H1 h=>?_);rw[Bk];obtain⟨_,rfl⟩:=h;conv=>whnf
  exact⟨rfl,⟨x,_,rfl,rfl,E4.2 ⟨T[j],Dk hj,by simp[he]⟩⟩,rfl,rfl⟩
 ·obtain⟨hp1,vN⟩:=hp;rw[Ax,List.take_length]at hp1 vN;rw[hp1,if_pos rfl,<-vN];refine kW ?_;refine⟨⟨_,rfl⟩,?_⟩;conv=>whnf
  refine Oi.tT (kA x) rfl rfl ⟨rfl,rfl,trivial⟩ ?_;rintro _ rfl;rw[Bk];conv=>whnf
 obtain⟨x,er,rfl,rfl,NV⟩:=h;rw[NV];conv=>whnf
 refine⟨⟨_,rfl⟩,?_⟩;conv=>whnf
 refine Oi.tT (jZ x er) rfl rfl ⟨rfl,rfl,trivial⟩ ?_;rintro _ rfl;rw[Bk];conv=>whnf
 rfl
theorem bB(n:Net)(hs:Au Pg 141 [n.v] (λr=>r=.sl 3 [])):Au Pg 156 [.at_ n.c] (λr=>r=.bool true):=by
 refine kB func156 rfl ?_;refine kC (hs) ?_;simp
theorem Yw(i m:Int):Au Pg 201 [.int .i64 i,.int .i64 m] (λr=>r=.bool (decide (0<=i)&&decide (i<m))):=by
 refine kB func201 rfl ?_
 repeat' (first|(refine BU (λ_=>?_) (λ_=>?_)<;>conv=>whnf)|refine Ql ?_|fail)
 all_goals (first|(simp_all;done)|(simp_all;omega))
theorem Yx(n:Net)(N:List (List Int))(hN:Et n N)(hL:n.Ag.length<=12/\n.Am.length<=40):Au Pg 157 [.at_ n.c,DN N] (λr=>r=.bool true):=by
 refine kB func157 rfl ?_;rw[Ax,Ax,hN.len];refine⟨λh=>absurd h (by simp),λ_=>?_⟩;refine kW ?_;rw[Ax,hN.len];obtain⟨p,hp⟩:∃p,p=n.Ag.length:=⟨_,rfl⟩;rw[<-hp]at hL ⊢;refine Aa.Ar (λo:Nat=>mk 64 [(0,.at_ n.c),(17,DN N),(18,.int .i64 p),(19,.int .i64 o)]) (λ_=>[]) (λo=>o<=p) (λo=>p-o) (λ_ _=>⟨rfl,trivial⟩) ⟨0,?_⟩ (λ_=>rfl) λo ho=>?_;refine kQ ?_;exact BR _;refine kR ?_;constructor<;>intro h
 ·have h:o<p:=by have:=of_decide_eq_true h;omega
  obtain⟨R6,vL⟩:=hN.row o (by rw[hN.len];omega);obtain⟨r,hr⟩:∃r,r=N.getD o []:=⟨_,rfl⟩;have hg:(N.map ints)[((o:Nat):Int).toNat]?=some (ints r):=by rw[hr];simp[show o<N.length by rw[hN.len];omega]
  rw[<-hr]at R6 vL;refine kW ?_;refine⟨by omega,_,hg,?_⟩;refine kW ?_;rw[Ax,Ax,R6];refine⟨λh=>absurd h (by simp),λ_=>?_⟩;refine kW ?_;rw[Ax,R6,<-hp];refine Aa.Ar (λj:Nat=>mk 64 [(0,.at_ n.c),(5,.int .i64 o),(17,DN N),(18,.int .i64 p),(19,.int .i64 o),(32,ints r),(33,.int .i64 p),(34,.int .i64 j)]) (λ_=>[]) (λj=>j<=p) (λj=>p-j) (λ_ _=>⟨rfl,trivial⟩) ⟨0,?_⟩ (λ_=>rfl) λj hj=>?_;refine kQ ?_;exact BR _;refine kR ?_;constructor<;>intro g
  ·(have g:j<p:=by have:=of_decide_eq_true g;omega);obtain⟨l,hl⟩:∃l,l=r.getD j 0:=⟨_,rfl⟩;(have hlg:(r.map (AV.int .i64))[((j:Nat):Int).toNat]?=some (.int .i64 l):=by rw[hl];simp[show j<r.length by omega]);have O3:=vL l (by rw[hl];simp[show j<r.length by omega]);refine kW ?_;refine⟨by omega,_,hlg,?_⟩;refine kW ?_;constructor<;>intro q;·(have q:¬l=-1:=by simpa using q);obtain⟨l0,l1,l2⟩:=O3.resolve_left q;have gI:(n.Am.map Im.v)[l.toNat]?=some (n.B3 l).v:=getD_map Im.v n.Am GD l0 l1;(conv=>whnf);rw[Ax];refine kC (Yw l n.Am.length) ?_;refine⟨λ_=>?_,λh=>absurd h (by simp[l0,l1])⟩;(conv=>whnf);refine⟨l0,_,gI,?_⟩;refine kW ?_;refine⟨λh=>absurd h (by simp[l2]),λ_=>?_⟩;refine kW ?_;refine⟨j+1,?_⟩;refine qG ?_;omega
   refine kW ?_;refine⟨j+1,?_⟩;refine qG ?_;omega
  refine kW ?_;refine⟨o+1,?_⟩;refine qG ?_;omega
 exact Er
def aP(n:Net)(N:List (List Int))(k o fr till:Int):List Int:=(BG n.Ag.length).map λd:Nat=>Ia n N k o d fr till
def I7(n:Net)(N:List (List Int))(k fr till:Int):List (List Int):=(BG n.Ag.length).map λo:Nat=>aP n N k o fr till
def FV(n:Net)(N:List (List Int))(fr till:Int):List (List (List Int)):=(BG n.Ao.length).map λk:Nat=>I7 n N k fr till
def Lh(T:List (List (List Int))):AV:=.sl 1 (T.map DN)
section
variable (n:Net)(hn:Dw n)(N:List (List Int))(hN:Et n N)(fr till:Int)(f0:0<=fr)(f1:fr<till)(f2:till<=600)
include hn hN f0 f1 f2
theorem Zdk(k o d:Nat)(k1:k<n.Ao.length)(o1:o<n.Ag.length)(d1:d<n.Ag.length):
  Au Pg 163 [.int .i64 d,.at_ n.c,.at_ [DN N],.at_ [.int .i64 k],.at_ [.int .i64 o],.at_ [.int .i64 fr],.at_ [.int .i64 till]] (λr=>r=.int .i64 (Ia n N k o d fr till)):=by
 refine kB func163 rfl ?_;exact pE (tZ n hn N hN k o d fr till (by omega) (by omega) (by omega) (by omega) (by omega) (by omega) f0 f1 f2)
theorem Zdl(k o:Nat)(k1:k<n.Ao.length)(o1:o<n.Ag.length):
  Au Pg 161 [.int .i64 o,.at_ n.c,.at_ [DN N],.at_ [.int .i64 k],.at_ [.int .i64 fr],.at_ [.int .i64 till]] (λr=>r=ints (aP n N k o fr till)):=by
 have hL:=hn.len;refine Au.Ak func161 rfl Ab (by kernel_rfl) ?_;conv=>whnf
 refine Aa.seq ?_;refine Aa.CF [0] ?_;refine Aa.st Ab rfl ?_;refine kW ?_;rw[Ax];refine kC (iW n.Ag.length 163 n.c [DN N] [.int .i64 k] [.int .i64 o] [.int .i64 fr] [.int .i64 till] (λd=>Ia n N k o d fr till) (by omega) λd hd=>Zdk n hn N hN fr till f0 f1 f2 k o d k1 o1 hd) ?_;unfold aP ints;rw[DL];rfl
theorem Zdm(k:Nat)(k1:k<n.Ao.length):
  Au Pg 159 [.int .i64 k,.at_ n.c,.at_ [DN N],.at_ [.int .i64 fr],.at_ [.int .i64 till]] (λr=>r=DN (I7 n N k fr till)):=by
 have hL:=hn.len;refine Au.Ak func159 rfl Ab (by kernel_rfl) ?_;conv=>whnf
 refine Aa.seq ?_;refine Aa.CF [0] ?_;refine Aa.st Ab rfl ?_;refine kW ?_;rw[Ax];refine kC (iU n.Ag.length 161 n.c [DN N] [.int .i64 k] [.int .i64 fr] [.int .i64 till] (λo=>aP n N k o fr till) (by omega) λo ho=>Zdl n hn N hN fr till f0 f1 f2 k o k1 ho) ?_;unfold I7 DN;rw[DL];rfl
theorem nQ(hs:Au Pg 141 [n.v] (λr=>r=.sl 3 []))(f3:till<=fr+60):
  Au Pg 117 [n.v,DN N,.int .i64 fr,.int .i64 till] (λr=>r=Lh (FV n N fr till)):=by
 have hL:=hn.len;refine Au.Ak func117 rfl Ab (by kernel_rfl) ?_;conv=>whnf
 refine Aa.seq ?_;refine Aa.CF [0,1,2,3] ?_;refine Aa.st Ab rfl ?_;refine kW ?_;refine⟨λ_=>?_,λh=>absurd (of_decide_eq_true h) (by omega)⟩;conv=>whnf
 refine⟨λ_=>?_,λh=>absurd (of_decide_eq_true h) (by omega)⟩;conv=>whnf
 refine⟨λ_=>?_,λh=>absurd (of_decide_eq_true h) (by omega)⟩;conv=>whnf
 rw[HE (n:=till-fr) (by omega)];refine kW ?_;refine⟨λh=>absurd (of_decide_eq_true h) (by omega),λ_=>?_⟩;refine kW ?_;refine kC (bB n hs) ?_;refine⟨λ_=>?_,λh=>absurd h (by decide)⟩;conv=>whnf
 refine kC (Yx n N hN ⟨by omega,by omega⟩) ?_;refine⟨λh=>absurd h (by decide),λ_=>?_⟩;refine kW ?_;rw[Ax];refine kC (iV n.Ao.length 159 n.c [DN N] [.int .i64 fr] [.int .i64 till] (λk=>I7 n N k fr till) (by omega) λk hk=>Zdm n hn N hN fr till f0 f1 f2 k hk) ?_;unfold Lh FV;rw[DL];rfl
end
end Go.Proofs.YtmmhehdlnjojjaaGreatDoor