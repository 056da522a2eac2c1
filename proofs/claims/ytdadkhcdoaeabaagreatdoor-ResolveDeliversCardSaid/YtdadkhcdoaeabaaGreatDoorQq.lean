/- The reference: small. -/
import Derived.Test.YtdadkhcdoaeabaaGreatDoorQr
set_option linter.unusedVariables false
set_option maxRecDepth 100000
open And renaming intro → Ao
open List renaming getElem?_eq_getElem → Aq, getElem_mem → AR, take_succ_eq_append_getElem → Ba, take_length → Bq, any_eq_true → Bu, length_cons → Bv, nil_append → BC, cons → BJ, all_cons → BV, drop_length → Cf, all_eq_true → Cm, getD → Cu, any_append → CA, map_append → CL
open Bool renaming and_eq_true → AO, eq_iff_iff → Bc, not_eq_true' → Bh, not_eq_false' → BD, eq_false_iff → Cb, and_false → CM, true_and → CW
open Nat renaming add_sub_cancel → B7
namespace Go.Proofs.YtdadkhcdoaeabaaGreatDoor.Rr
open Go.Av Go.Shelf Pl Go.RowKit
theorem LY(b:UInt8):Aw Tryz.prog 194 [.int .u8 b.toNat] (λr=>r=.int .u8 (CY b).toNat):=by
 refine Aw.Ai Tryz.func194 rfl Ae (by kernel_rfl) ?_
 conv=>whnf
 repeat(refine sT rfl ?_;conv=>whnf)
 repeat' (first|(refine Ao (λ_=>?_) (λ_=>?_)<;>conv=>whnf)|(refine sT rfl ?_;conv=>whnf))
 ·rename_i h1 h2;have h3:65≤b.toNat∧b.toNat≤90:=by simp at h1 h2;omega
  refine congrArg (AV.int IntKind.u8) ?_;unfold CY;rw[if_pos (by simpa[Gg]using h3),UInt8.toNat_add,rW _ (by omega) (by omega)]
  have:(32:UInt8).toNat=32:=rfl;omega
 ·rename_i h1 h2;unfold CY;rw[if_neg (by simp only[decide_eq_false_iff_not]at h2;simp[Gg];omega)]
 ·rename_i h1;unfold CY;rw[if_neg (by simp only[decide_eq_false_iff_not]at h1;simp[Gg];omega)]
theorem BH(n:Int):Aw Tryz.prog 154 [.int .i64 n] (λr=>r=.bool (G7 n)):=by
 refine Aw.Ai Tryz.func154 rfl Ae (by kernel_rfl) ?_
 conv=>whnf
 refine BR Ae _ ?_;conv=>whnf
 repeat' (refine Ao (λ_=>?_) (λ_=>?_)<;>conv=>whnf)
 all_goals (refine congrArg AV.bool ?_;rw[Bc];simp_all[G7]<;>omega)
theorem Tj(n t:Bs)(hn:n.length≤1000000):Aw Tryz.prog 195 [.str n,.str t] (λr=>r=.bool (gA n t)):=by
 refine Aw.Ai Tryz.func195 rfl Ae (by kernel_rfl) ?_
 conv=>whnf
 repeat(refine sT rfl ?_;conv=>whnf)
 refine⟨λh=>?_,λh=>?_⟩
 ·have h:n.length≠t.length:=by simp at h;omega
  conv=>whnf
  repeat(refine sT rfl ?_;conv=>whnf)
  rw[fZ h]
 ·have h:n.length=t.length:=by simp at h;omega
  have hlg:=eR h;conv=>whnf
  repeat(refine sT rfl ?_;conv=>whnf)
  refine Ac.AJ (λk:Nat=>mk 26 [(0,.str n),(1,.str t),(5,.int .i64 k)]) (λ_=>[]) (λk=>k≤n.length∧∀(i:Nat)(hi:i<n.length),i<k→CY n[i]=CY (t[i]'(by omega))) (λk=>n.length-k) (λ_ _=>⟨rfl,trivial⟩) ⟨0,?_⟩ (λ_=>rfl) λk hk=>?_
  ·conv=>whnf
   repeat(refine Ao ?_ ?_;(focus (first|rfl|(simp;done)));conv=>whnf)
   exact λi hi h=>by omega
  ·obtain⟨hk,ha⟩:=hk;repeat(refine sT rfl ?_;conv=>whnf)
   refine⟨λg=>?_,λg=>?_⟩
   ·have g:k<n.length:=by simpa using g
    have Bj:Wr .i64 ((k:Int)+1)=((k+1:Nat):Int):=by rw[AH _ (by omega) (by omega)];rfl
    have hgn:n.getD (k:Int).toNat 0=n[k]:=by simp[Cu,g]
    have hgt:t.getD (k:Int).toNat 0=t[k]'(by omega):=by simp[Cu,show k<t.length by omega]
    conv=>whnf
    repeat(refine sT rfl ?_;conv=>whnf)
    refine Ac.draw [] Ae mO (by kernel_rfl) ?_
    conv=>whnf
    refine⟨⟨by omega,by omega⟩,?_⟩
    rw[hgn];conv=>whnf
    refine⟨_,⟨LY n[k],rfl⟩,?_⟩;conv=>whnf
    refine⟨⟨by omega,by omega⟩,?_⟩
    rw[hgt];conv=>whnf
    refine⟨_,⟨LY (t[k]'(by omega)),rfl⟩,?_⟩
    conv=>whnf
    refine⟨λg2=>?_,λg2=>?_⟩
    ·have g2:¬CY n[k]=CY (t[k]'(by omega)):=λe=>by rw[e]at g2;simp at g2
     conv=>whnf
     repeat(refine sT rfl ?_;conv=>whnf)
     repeat' (first|(refine Ao (λ_=>?_) (λ_=>?_)<;>conv=>whnf)|(refine sT rfl ?_;conv=>whnf))
     refine congrArg AV.bool ?_;cases hq:gA n t with
     |false=>rfl
     |true=>exact absurd (hlg.1 hq k g) g2
    ·have g2:CY n[k]=CY (t[k]'(by omega)):=by
      have g3:((CY n[k]).toNat:Int)=(CY (t[k]'(by omega))).toNat:=by simpa using g2
      exact UInt8.toNat_inj.1 (by omega)
     conv=>whnf
     repeat(refine sT rfl ?_;conv=>whnf)
     repeat' (first|(refine Ao (λ_=>?_) (λ_=>?_)<;>conv=>whnf)|(refine sT rfl ?_;conv=>whnf))
     refine⟨k+1,?_⟩;conv=>whnf
     repeat(refine Ao ?_ ?_;(focus (first|rfl|(simp;done)|(first|exact Bj;done)));conv=>whnf)
     refine⟨⟨g,λi hi h2=>?_⟩,by omega⟩
     rcases Nat.lt_or_ge i k with h3|h3;·exact ha i hi h3
     ·obtain rfl:i=k:=by omega
      exact g2
   ·have g:k=n.length:=by simp at g;omega
    conv=>whnf
    repeat(refine sT rfl ?_;conv=>whnf)
    rw[hlg.2 λi hi=>ha i hi (by omega)]
theorem D1(w:Bs)(hw:w.length≤1000):Aw Tryz.prog 153 [.str w] (λr=>r=.bool (NK w)):=by
 refine Aw.Ai Tryz.func153 rfl Ae (by kernel_rfl) ?_
 conv=>whnf
 repeat(refine sT rfl ?_;conv=>whnf)
 have hl:NK w=(decide (1≤w.length)&&decide (w.length≤8)&&w.all F3):=rfl;refine Ac.AJ (λk:Nat=>mk 40 [(0,.str w),(3,.int .i64 k)]) (λ_=>[]) (λk=>k≤w.length∧(w.take k).all F3=true) (λk=>w.length-k) (λ_ _=>⟨rfl,trivial⟩) ⟨0,?_⟩ (λ_=>rfl) λk hk=>?_
 ·conv=>whnf
  repeat(refine Ao ?_ ?_;(focus (first|rfl|(simp;done)));conv=>whnf)
  simp
 ·obtain⟨hk,ha⟩:=hk;repeat(refine sT rfl ?_;conv=>whnf)
  refine⟨λh=>?_,λh=>?_⟩
  ·have h:k<w.length:=by simpa using h
   have Bj:Wr .i64 ((k:Int)+1)=((k+1:Nat):Int):=by rw[AH _ (by omega) (by omega)];rfl
   have ht:=Eu F3 w k h;have OQ:=all_false F3 w k h;have hg:w.getD (k:Int).toNat 0=w[k]:=by simp[Cu,h]
   conv=>whnf
   repeat(refine sT rfl ?_;conv=>whnf)
   repeat' (first|(refine Ao (λ_=>?_) (λ_=>?_)<;>conv=>whnf)|(refine Ao ⟨by omega,by omega⟩ ?_;(conv=>whnf);first|rw[hg])|(refine sT rfl ?_;conv=>whnf))
   all_goals first
    |(have hn:F3 w[k]=false:=by(simp only[decide_eq_true_eq,decide_eq_false_iff_not]at *;unfold F3 Gg Dx;simp;omega)
      refine congrArg AV.bool ?_
      rw[hl,OQ hn,CM])
    |(have hy:F3 w[k]=true:=by(simp only[decide_eq_true_eq,decide_eq_false_iff_not]at *;unfold F3 Gg Dx;simp;omega)
      refine⟨k+1,?_⟩
      conv=>whnf
      repeat(refine Ao ?_ ?_;(focus (first|rfl|(simp;done)|(first|exact Bj;done)));conv=>whnf)
      exact⟨⟨by omega,by rw[ht,ha,hy];rfl⟩,by omega⟩)
  ·have h:k=w.length:=by simp at h;omega
   rw[h,Bq]at ha;conv=>whnf
   repeat(refine sT rfl ?_;conv=>whnf)
   repeat' (first|(refine Ao (λ_=>?_) (λ_=>?_)<;>conv=>whnf)|(refine sT rfl ?_;conv=>whnf))
   ·rename_i h1;have h1:1≤w.length:=by simp at h1;omega
    refine congrArg AV.bool ?_;rw[hl,ha,decide_eq_true h1];simp;omega
   ·rename_i h1;have h1:¬1≤w.length:=by simp at h1;omega
    rw[hl,decide_eq_false h1];rfl
theorem Mx(s:St)(t:Bs)(hs:s.al.length≤1000)(jS:s.na.length≤1000)(yA:∀x∈s.al,x.length≤1000):Aw Tryz.prog 155 [s.v,.str t] (λr=>r=.bool (Cr s t)):=by
 refine Aw.Ai Tryz.func155 rfl Ae (by kernel_rfl) ?_
 conv=>whnf
 repeat(refine sT rfl ?_;conv=>whnf)
 refine cS (Tj s.na t (by omega)) rfl ?_;conv=>whnf
 repeat(refine sT rfl ?_;conv=>whnf)
 refine⟨λh=>?_,λh=>?_⟩
 ·conv=>whnf
  repeat(refine sT rfl ?_;conv=>whnf)
  unfold Cr;rw[h];rfl
 ·have hnn:Cr s t=s.al.any λa=>gA a t:=by unfold Cr;rw[h];rfl
  rw[hnn];conv=>whnf
  repeat(refine sT rfl ?_;conv=>whnf)
  refine Ac.AJ (λk:Nat=>mk 24 [(1,.str t),(2,.ptr 0 0),(4,.lit false),(5,.int .i64 k)]) (λ_=>[.cells (stC s)]) (λk=>k≤s.al.length∧(s.al.take k).any (λa=>gA a t)=false) (λk=>s.al.length-k) (λ_ _=>⟨rfl,rfl,trivial⟩) ⟨0,?_⟩ (λ_=>rfl) λk hk=>?_
  ·conv=>whnf
   repeat(refine Ao ?_ ?_;(focus (first|rfl|(simp;done)));conv=>whnf)
   simp
  ·obtain⟨hk,ha⟩:=hk;have bC:=CH s.al;have Bj:Wr .i64 ((k:Int)+1)=((k+1:Nat):Int):=by rw[AH _ (by omega) (by omega)];rfl
   repeat(refine sT rfl ?_;conv=>whnf)
   refine⟨λh1=>?_,λh1=>?_⟩
   ·have h1:k<s.al.length:=by simpa using h1
    conv=>whnf
    repeat(refine sT rfl ?_;conv=>whnf)
    refine⟨by omega,_,ER s.al k h1,?_⟩
    conv=>whnf
    repeat(refine sT rfl ?_;conv=>whnf)
    refine cS (Tj s.al[k] t (by have:=yA _ (AR h1);omega)) rfl ?_;conv=>whnf
    repeat(refine sT rfl ?_;conv=>whnf)
    repeat' (first|(refine Ao (λ_=>?_) (λ_=>?_)<;>conv=>whnf)|(refine sT rfl ?_;conv=>whnf))
    ·rename_i h5;rw[show(s.al.any λa=>gA a t)=true from Bu.2 ⟨s.al[k],AR h1,h5⟩]
    ·rename_i h5;refine⟨k+1,?_⟩;conv=>whnf
     repeat(refine Ao ?_ ?_;(focus (first|rfl|(simp;done)|(first|exact Bj;done)));conv=>whnf)
     exact⟨⟨by omega,by rw[Ba h1,CA,ha];simpa using h5⟩,by omega⟩
   ·have h1:k=s.al.length:=by simp at h1;omega
    rw[h1,Bq]at ha;conv=>whnf
    repeat(refine sT rfl ?_;conv=>whnf)
    rw[ha]
theorem YN(o s:St)(ho:o.al.length≤1000)(hs:s.al.length≤1000)(jS:s.na.length≤1000)(yA:∀x∈s.al,x.length≤1000):Aw Tryz.prog 196 [o.v,s.v] (λr=>r=.bool (Cr s o.na||o.al.any (Cr s))):=by
 refine Aw.Ai Tryz.func196 rfl Ae (by kernel_rfl) ?_
 conv=>whnf
 repeat(refine sT rfl ?_;conv=>whnf)
 refine cS (Mx s o.na hs jS yA) rfl ?_;conv=>whnf
 repeat(refine sT rfl ?_;conv=>whnf)
 refine⟨λh=>?_,λh=>?_⟩
 ·conv=>whnf
  repeat(refine sT rfl ?_;conv=>whnf)
  rw[h];rfl
 ·rw[h,Bool.false_or];conv=>whnf
  repeat(refine sT rfl ?_;conv=>whnf)
  refine Ac.AJ (λk:Nat=>mk 24 [(1,s.v),(2,.ptr 0 0),(3,.ptr 1 0),(4,.lit false),(5,.int .i64 k)]) (λ_=>[.cells (stC o),.cells (stC s)]) (λk=>k≤o.al.length∧(o.al.take k).any (Cr s)=false) (λk=>o.al.length-k) (λ_ _=>⟨rfl,rfl,rfl,trivial⟩) ⟨0,?_⟩ (λ_=>rfl) λk hk=>?_
  ·conv=>whnf
   repeat(refine Ao ?_ ?_;(focus (first|rfl|(simp;done)));conv=>whnf)
   simp
  ·obtain⟨hk,ha⟩:=hk;have bC:=CH o.al;have Bj:Wr .i64 ((k:Int)+1)=((k+1:Nat):Int):=by rw[AH _ (by omega) (by omega)];rfl
   repeat(refine sT rfl ?_;conv=>whnf)
   refine⟨λh1=>?_,λh1=>?_⟩
   ·have h1:k<o.al.length:=by simpa using h1
    conv=>whnf
    repeat(refine sT rfl ?_;conv=>whnf)
    refine Ac.draw [] Ae mO (by kernel_rfl) ?_
    conv=>whnf
    refine⟨by omega,_,ER o.al k h1,?_⟩
    conv=>whnf
    refine⟨_,⟨Mx s o.al[k] hs jS yA,rfl⟩,?_⟩;conv=>whnf
    repeat(refine sT rfl ?_;conv=>whnf)
    repeat' (first|(refine Ao (λ_=>?_) (λ_=>?_)<;>conv=>whnf)|(refine sT rfl ?_;conv=>whnf))
    ·rename_i h5;rw[show(o.al.any (Cr s))=true from Bu.2 ⟨o.al[k],AR h1,h5⟩]
    ·rename_i h5;refine⟨k+1,?_⟩;conv=>whnf
     repeat(refine Ao ?_ ?_;(focus (first|rfl|(simp;done)|(first|exact Bj;done)));conv=>whnf)
     exact⟨⟨by omega,by rw[Ba h1,CA,ha];simpa using h5⟩,by omega⟩
   ·have h1:k=o.al.length:=by simp at h1;omega
    rw[h1,Bq]at ha;conv=>whnf
    repeat(refine sT rfl ?_;conv=>whnf)
    rw[ha]
theorem FB(l:List St)(n:Nat)(hn:n<l.length)(hl:l.length≤1000)(hb:∀s∈l,s.al.length≤1000∧s.na.length≤1000∧∀x∈s.al,x.length≤1000):
  Aw Tryz.prog 156 [Lq l,.int .i64 n] (λr=>r=.bool (FC l n)):=by
 refine Aw.Ai Tryz.func156 rfl Ae (by kernel_rfl) ?_
 conv=>whnf
 repeat(refine sT rfl ?_;conv=>whnf)
 have hml:(l.map St.v).length=l.length:=by simp
 refine Ac.AJ (λk:Nat=>mk 79 [(0,Lq l),(1,.int .i64 n),(5,.int .i64 k)]) (λ_=>[]) (λk=>k≤l.length∧(List.range k).any (PM l n l[n])=false) (λk=>l.length-k) (λ_ _=>⟨rfl,trivial⟩) ⟨0,?_⟩ (λ_=>rfl) λk hk=>?_
 ·conv=>whnf
  repeat(refine Ao ?_ ?_;(focus (first|rfl|(simp;done)));conv=>whnf)
  rfl
 ·obtain⟨hk,ha⟩:=hk;have Bj:Wr .i64 ((k:Int)+1)=((k+1:Nat):Int):=by rw[AH _ (by omega) (by omega)];rfl
  repeat(refine sT rfl ?_;conv=>whnf)
  refine⟨λh=>?_,λh=>?_⟩
  ·have h:k<l.length:=by simpa using h
   conv=>whnf
   repeat(refine sT rfl ?_;conv=>whnf)
   refine Ac.draw [] Ae mO (by kernel_rfl) ?_
   conv=>whnf
   have gk:(List.map St.v l)[((k:Int)).toNat]?=some l[k].v:=by simp[h]
   have gn:(List.map St.v l)[((n:Int)).toNat]?=some l[n].v:=by simp[hn]
   obtain⟨c1,c2,c3⟩:=hb l[k] (AR h);obtain⟨b1,b2,b3⟩:=hb l[n] (AR hn);repeat' (first|(refine Ao (λ_=>?_) (λ_=>?_)<;>conv=>whnf)|(refine⟨by omega,l[k].v,gk,?_⟩;conv=>whnf)|(refine⟨by omega,l[n].v,gn,?_⟩;conv=>whnf)|(refine⟨_,⟨YN l[k] l[n] c1 b1 b2 b3,rfl⟩,?_⟩;conv=>whnf))
   ·rename_i g1 g2 g3 g4 g5 g6 g7;repeat(refine sT rfl ?_;conv=>whnf)
    have hit:PM l n l[n] k=true:=by
     have q1:k≠n:=λe=>by subst e;simp at g1
     have q4:l[n].co=l[k].co:=by simp only[beq_iff_eq]at g4;exact g4.symm
     rw[SA hn h];unfold bM;rw[g7,decide_eq_true q1,g3,g2,decide_eq_true q4,g5,g6];rfl
    repeat' (first|(refine Ao (λ_=>?_) (λ_=>?_)<;>conv=>whnf)|(refine sT rfl ?_;conv=>whnf))
    rw[NL hn,Bu.2 ⟨k,List.mem_range.2 h,hit⟩]
   all_goals (
    repeat(refine sT rfl ?_;conv=>whnf)
    repeat' (first|(refine Ao (λ_=>?_) (λ_=>?_)<;>conv=>whnf)|(refine sT rfl ?_;conv=>whnf))
    refine⟨k+1,?_⟩;conv=>whnf
    repeat(refine Ao ?_ ?_;(focus (first|rfl|(simp;done)|(exact Bj;done)));conv=>whnf)
    refine⟨⟨by omega,NP ha ?_⟩,by omega⟩
    rw[SA hn h];unfold bM;rw[Cb];intro hq;simp only[AO,decide_eq_true_eq]at hq;obtain⟨r1,⟨⟨⟨⟨⟨r2,r3⟩,r4⟩,r5⟩,r6⟩,r7⟩⟩:=hq;clear ha hb Bj b3 c3 gk gn;simp_all<;>omega)
  ·have h:k=l.length:=by simp at h;omega
   conv=>whnf
   repeat(refine sT rfl ?_;conv=>whnf)
   rw[NL hn,←h,ha]
namespace Pl
def FO:Nat→Nat→Bs→Bool
 |w,n,[]=>decide (0<n)&&decide (w≤4)
 |w,n,c::r=>if c=32 then (if n=0 then false else FO (w+1) 0 r)else if B2 c then (if 20≤n then false else FO w (n+1) r)else false
theorem Xc(w n:Nat):FO w n []=(decide (0<n)&&decide (w≤4)):=rfl
theorem Uo(w n:Nat)(c:UInt8)(r:Bs):FO w n (c::r)=if c=32 then (if n=0 then false else FO (w+1) 0 r)else if B2 c then (if 20≤n then false else FO w (n+1) r)else false:=rfl
end Pl
theorem uK(c:UInt8):((CY c).toNat=c.toNat+32∧65≤c.toNat∧c.toNat≤90)∨((CY c).toNat=c.toNat∧¬(65≤c.toNat∧c.toNat≤90)):=by
 unfold CY;by_cases h:Gg c=true
 ·rw[if_pos h];have h2:65≤c.toNat∧c.toNat≤90:=by simpa[Gg]using h
  refine .inl ⟨?_,h2⟩;rw[UInt8.toNat_add];have:(32:UInt8).toNat=32:=rfl;omega
 ·rw[if_neg h];refine .inr ⟨rfl,λh2=>h (by simpa[Gg]using h2)⟩
theorem Mg(c:UInt8):B2 c=true↔(65≤c.toNat∧c.toNat≤90)∨(97≤c.toNat∧c.toNat≤122)∨(48≤c.toNat∧c.toNat≤57)∨c.toNat=45∨c.toNat=39:=by
 unfold B2 Gg BY Dx;simp only[Bool.or_eq_true,AO,decide_eq_true_eq];omega
theorem XH(c:UInt8):B2 c=false↔¬((65≤c.toNat∧c.toNat≤90)∨(97≤c.toNat∧c.toNat≤122)∨(48≤c.toNat∧c.toNat≤57)∨c.toNat=45∨c.toNat=39):=by
 rw[←Mg];simp
theorem TD(s:Bs)(hs:s.length≤1000):Aw Tryz.prog 152 [.str s] (λr=>r=.bool (FO 1 0 s)):=by
 refine Aw.Ai Tryz.func152 rfl Ae (by kernel_rfl) ?_
 conv=>whnf
 repeat(refine sT rfl ?_;conv=>whnf)
 refine Ac.AJ (λx:Nat×Nat×Nat=>mk 55 [(0,.str s),(3,.int .i64 x.2.1),(4,.int .i64 x.2.2),(5,.int .i64 x.1)]) (λ_=>[]) (λx=>x.1≤s.length∧x.2.1≤x.1+1∧x.2.2≤20∧FO 1 0 s=FO x.2.1 x.2.2 (s.drop x.1)) (λx=>s.length-x.1) (λ_ _=>⟨rfl,trivial⟩) ⟨(0,1,0),?_⟩ (λ_=>rfl) λx hx=>?_
 ·conv=>whnf
  repeat(refine Ao ?_ ?_;(focus (first|rfl|(simp;done)));conv=>whnf)
  rfl
 ·obtain⟨k,w,n⟩:=x;obtain⟨hk,hw,hn,ha⟩:=hx;simp only at hk hw hn ha;repeat(refine sT rfl ?_;conv=>whnf)
  refine⟨λh=>?_,λh=>?_⟩
  ·have h:k<s.length:=by simpa using h
   have hg:s.getD (k:Int).toNat 0=s[k]:=by simp[Cu,h]
   have Bj:Wr .i64 ((k:Int)+1)=((k+1:Nat):Int):=by rw[AH _ (by omega) (by omega)];rfl
   have Gf:Wr .i64 ((w:Int)+1)=((w+1:Nat):Int):=by rw[AH _ (by omega) (by omega)];rfl
   have bB:Wr .i64 ((n:Int)+1)=((n+1:Nat):Int):=by rw[AH _ (by omega) (by omega)];rfl
   rw[List.drop_eq_getElem_cons h,Uo]at ha;conv=>whnf
   repeat(refine sT rfl ?_;conv=>whnf)
   have Zik:=uK s[k];repeat' (first|(refine Ao (λ_=>?_) (λ_=>?_)<;>conv=>whnf)|(refine Ao ⟨by omega,by omega⟩ ?_;(conv=>whnf);first|rw[hg])|(refine cS (LY s[k]) rfl ?_;conv=>whnf)|(refine sT rfl ?_;conv=>whnf))
   all_goals simp only[decide_eq_true_eq,decide_eq_false_iff_not,Bh,BD,bB]at *
   rotate_left
   ·have kH:s[k]=32:=UInt8.toNat_inj.1 (by show s[k].toNat=32;omega)
    have h0:¬n=0:=by omega
    refine⟨(k+1,w+1,0),?_⟩;conv=>whnf
    repeat(refine Ao ?_ ?_;(focus (first|rfl|(simp;done)|(first|exact Bj|exact Gf;done)));conv=>whnf)
    exact⟨(show k+1≤s.length∧w+1≤k+1+1∧0≤20∧FO 1 0 s=FO (w+1) 0 (s.drop (k+1))from ⟨by omega,by omega,by omega,by rw[ha,if_pos kH,if_neg h0]⟩),(show s.length-(k+1)<s.length-k by omega)⟩
   all_goals first
    |(have kH:s[k]=32:=UInt8.toNat_inj.1 (by show s[k].toNat=32;omega)
      have h0:n=0:=by omega
      rw[ha,if_pos kH,if_pos h0]
      done)
    |(have kH:s[k]=32:=UInt8.toNat_inj.1 (by show s[k].toNat=32;omega)
      have h0:¬n=0:=by omega
      refine⟨(k+1,w+1,0),?_⟩
      conv=>whnf
      repeat(refine Ao ?_ ?_;(focus (first|rfl|(simp;done)|(first|exact Bj|exact Gf;done)));conv=>whnf)
      exact⟨(show k+1≤s.length∧w+1≤k+1+1∧0≤20∧FO 1 0 s=FO (w+1) 0 (s.drop (k+1))from ⟨by omega,by omega,by omega,by rw[ha,if_pos kH,if_neg h0]⟩),(show s.length-(k+1)<s.length-k by omega)⟩)
    |(have kH:¬s[k]=32:=λe=>by(have e2:s[k].toNat=32:=by(rw[e];rfl));omega
      have hb:B2 s[k]=false:=by(rw[XH];omega)
      rw[ha,if_neg kH,if_neg (by rw[hb];decide)]
      done)
    |(have kH:¬s[k]=32:=λe=>by(have e2:s[k].toNat=32:=by(rw[e];rfl));omega
      have hb:B2 s[k]=true:=by(rw[Mg];omega)
      have h0:20≤n:=by omega
      rw[ha,if_neg kH,if_pos hb,if_pos h0]
      done)
    |(have kH:¬s[k]=32:=λe=>by(have e2:s[k].toNat=32:=by(rw[e];rfl));omega
      have hb:B2 s[k]=true:=by(rw[Mg];omega)
      have h0:¬20≤n:=by omega
      refine⟨(k+1,w,n+1),?_⟩
      conv=>whnf
      repeat(refine Ao ?_ ?_;(focus (first|rfl|(simp;done)|(first|exact Bj|(show Wr .i64 _=_;rw[AH _ (by omega) (by omega)];rfl);done)));conv=>whnf)
      exact⟨(show k+1≤s.length∧w≤k+1+1∧n+1≤20∧FO 1 0 s=FO w (n+1) (s.drop (k+1))from ⟨by omega,by omega,by omega,by rw[ha,if_neg kH,if_pos hb,if_neg h0]⟩),(show s.length-(k+1)<s.length-k by omega)⟩)
    |trace_state
  ·have h:k=s.length:=by simp at h;omega
   rw[h,Cf,Xc]at ha;conv=>whnf
   repeat(refine sT rfl ?_;conv=>whnf)
   rw[ha];repeat' (first|(refine Ao (λ_=>?_) (λ_=>?_)<;>conv=>whnf)|(refine sT rfl ?_;conv=>whnf))
   ·rename_i h1;have h1:0<n:=by simp at h1;omega
    refine congrArg AV.bool ?_;rw[decide_eq_true h1,CW,Bc];simp only[decide_eq_true_eq];omega
   ·rename_i h1;have h1:¬0<n:=by simp at h1;omega
    rw[decide_eq_false h1];rfl
namespace Pl
theorem Rh(s:Bs):∃y ys,splitB s=y::ys:=by
 have:=Ri s;cases h:splitB s with
 |nil=>rw[h]at this;simp at this
 |cons y ys=>exact⟨y,ys,rfl⟩
theorem L0:∀(s:Bs)(w n:Nat),n≤20→∀y ys,splitB s=y::ys→FO w n s=(decide (1≤n+y.length)&&decide (n+y.length≤20)&&y.all B2&&(ys.all Hq&&decide (w+ys.length≤4)))
 |[],w,n,hn,y,ys,h=>by
  have h2:splitB []=[[]]:=rfl;rw[h2]at h;simp only[BJ.injEq]at h;obtain⟨rfl,rfl⟩:=h;rw[Xc,Bc];simp;omega
 |c::r,w,n,hn,y,ys,h=>by
  obtain⟨y',ys',hr⟩:=Rh r;rw[Uo];rw[JY,hr]at h;by_cases hc:c=32
  ·rw[if_pos hc]at h ⊢;simp only[BJ.injEq]at h;obtain⟨rfl,rfl⟩:=h;by_cases h0:n=0
   ·rw[if_pos h0,h0];rfl
   ·rw[if_neg h0,L0 r (w+1) 0 (by omega) y' ys' hr,Bc]
    simp only[List.length_nil,List.all_nil,BV,Hq,AO,decide_eq_true_eq,Bv];constructor
    ·rintro⟨⟨⟨a1,a2⟩,a3⟩,a4,a5⟩;exact⟨⟨⟨by omega,by omega⟩,trivial⟩,⟨⟨⟨by omega,by omega⟩,a3⟩,a4⟩,by omega⟩
    ·rintro⟨_,⟨⟨⟨a1,a2⟩,a3⟩,a4⟩,a5⟩;exact⟨⟨⟨by omega,by omega⟩,a3⟩,a4,by omega⟩
  ·rw[if_neg hc]at h ⊢;simp only[BJ.injEq]at h;obtain⟨rfl,rfl⟩:=h;by_cases hb:B2 c=true
   ·rw[if_pos hb];by_cases h0:20≤n
    ·rw[if_pos h0,decide_eq_false (show ¬n+(c::y').length≤20 by simp;omega)]
     simp
    ·rw[if_neg h0,L0 r w (n+1) (by omega) y' _ hr]
     simp only[Bv,BV,hb,CW];rw[show n+1+y'.length=n+(y'.length+1) by omega]
   ·rw[if_neg hb];simp[hb]
theorem JX:∀(s:Bs)(y:Bs)(ys:List Bs),splitB s=y::ys→(∀w∈ys,w.length≤20)→s.length≤y.length+21*ys.length
 |[],y,ys,h,_=>by simp
 |c::r,y,ys,h,hw=>by
  obtain⟨y',ys',hr⟩:=Rh r;rw[JY,hr]at h;by_cases hc:c=32
  ·rw[if_pos hc]at h;simp only[BJ.injEq]at h;obtain⟨rfl,rfl⟩:=h;have h1:=JX r y' ys' hr λw h=>hw w (by simp[h])
   have h2:=hw y' (by simp)
   simp;omega
  ·rw[if_neg hc]at h;simp only[BJ.injEq]at h;obtain⟨rfl,rfl⟩:=h;have h1:=JX r y' _ hr hw;simp;omega
theorem iE(s:Bs):FO 1 0 s=G8 s:=by
 obtain⟨y,ys,h⟩:=Rh s;rw[L0 s 1 0 (by omega) y ys h]
 unfold G8;rw[h,Bc];simp only[BV,Hq,AO,decide_eq_true_eq,Bv];constructor
 ·rintro⟨⟨⟨a1,a2⟩,a3⟩,a4,a5⟩
  have hb:=JX s y ys h λw hw=>by
   have:=Cm.1 a4 w hw;simp only[Hq,AO,decide_eq_true_eq]at this;exact this.1.2
  exact⟨⟨by omega,by omega⟩,⟨⟨by omega,by omega⟩,a3⟩,a4⟩
 ·rintro⟨⟨_,a5⟩,⟨⟨a1,a2⟩,a3⟩,a4⟩;exact⟨⟨⟨by omega,by omega⟩,a3⟩,a4,by omega⟩
end Pl
theorem Bw(s:Bs)(hs:s.length≤1000):Aw Tryz.prog 152 [.str s] (λr=>r=.bool (G8 s)):=by
 rw[←iE s];exact TD s hs
open Go.Av Go.Shelf Pl Go.RowKit
abbrev lA(da ki sr:Int)(co tw na:Bs)(lo hi sh:Int):AV:=.agg [.int .i64 da,.int .i64 ki,.int .i64 sr,.str co,.str tw,.str na,.int .i64 lo,.int .i64 hi,.int .i64 sh]
set_option maxHeartbeats 4000000 in
theorem wF(da sr:Int)(co tw na:Bs)(lo hi sh:Int)(h1:na.length≤1000)(h2:co.length≤1000)(h3:tw.length≤1000):Aw Tryz.prog 118 [lA da 1 sr co tw na lo hi sh] (λr=>r=.bool (F2 da&&A8 ⟨da,1,sr,co,tw,na,lo,hi,sh⟩)):=by
 refine Aw.Ai Tryz.func118 rfl Ae (by kernel_rfl) ?_
 conv=>whnf
 repeat(refine sT rfl ?_;conv=>whnf)
 repeat' (first|(refine⟨λ_=>?_,λh=>absurd h (by decide +kernel)⟩;conv=>whnf)|(refine⟨λh=>absurd h (by decide +kernel),λ_=>?_⟩;conv=>whnf)|(refine Ao (λ_=>?_) (λ_=>?_)<;>conv=>whnf)|(refine cS (Bw na h1) rfl ?_;conv=>whnf)|(refine cS (D1 co h2) rfl ?_;conv=>whnf)|(refine cS (Bw tw h3) rfl ?_;conv=>whnf)|(refine cS (BH lo) rfl ?_;conv=>whnf)|(refine cS (BH hi) rfl ?_;conv=>whnf)|(refine sT rfl ?_;conv=>whnf))
 all_goals clear h1 h2 h3
 all_goals (refine congrArg AV.bool ?_;unfold F2 A8;simp_all<;>omega)
set_option maxHeartbeats 4000000 in
theorem wE(da sr:Int)(co tw na:Bs)(lo hi sh:Int)(h1:na.length≤1000)(h2:co.length≤1000)(h3:tw.length≤1000):Aw Tryz.prog 118 [lA da 2 sr co tw na lo hi sh] (λr=>r=.bool (F2 da&&A8 ⟨da,2,sr,co,tw,na,lo,hi,sh⟩)):=by
 refine Aw.Ai Tryz.func118 rfl Ae (by kernel_rfl) ?_
 conv=>whnf
 repeat(refine sT rfl ?_;conv=>whnf)
 repeat' (first|(refine⟨λ_=>?_,λh=>absurd h (by decide +kernel)⟩;conv=>whnf)|(refine⟨λh=>absurd h (by decide +kernel),λ_=>?_⟩;conv=>whnf)|(refine Ao (λ_=>?_) (λ_=>?_)<;>conv=>whnf)|(refine cS (Bw na h1) rfl ?_;conv=>whnf)|(refine cS (D1 co h2) rfl ?_;conv=>whnf)|(refine cS (Bw tw h3) rfl ?_;conv=>whnf)|(refine cS (BH lo) rfl ?_;conv=>whnf)|(refine cS (BH hi) rfl ?_;conv=>whnf)|(refine sT rfl ?_;conv=>whnf))
 all_goals clear h1 h2 h3
 all_goals (refine congrArg AV.bool ?_;unfold F2 A8;simp_all<;>omega)
set_option maxHeartbeats 4000000 in
theorem wD(da sr:Int)(co tw na:Bs)(lo hi sh:Int)(h1:na.length≤1000)(h2:co.length≤1000)(h3:tw.length≤1000):Aw Tryz.prog 118 [lA da 3 sr co tw na lo hi sh] (λr=>r=.bool (F2 da&&A8 ⟨da,3,sr,co,tw,na,lo,hi,sh⟩)):=by
 refine Aw.Ai Tryz.func118 rfl Ae (by kernel_rfl) ?_
 conv=>whnf
 repeat(refine sT rfl ?_;conv=>whnf)
 repeat' (first|(refine⟨λ_=>?_,λh=>absurd h (by decide +kernel)⟩;conv=>whnf)|(refine⟨λh=>absurd h (by decide +kernel),λ_=>?_⟩;conv=>whnf)|(refine Ao (λ_=>?_) (λ_=>?_)<;>conv=>whnf)|(refine cS (Bw na h1) rfl ?_;conv=>whnf)|(refine cS (D1 co h2) rfl ?_;conv=>whnf)|(refine cS (Bw tw h3) rfl ?_;conv=>whnf)|(refine cS (BH lo) rfl ?_;conv=>whnf)|(refine cS (BH hi) rfl ?_;conv=>whnf)|(refine sT rfl ?_;conv=>whnf))
 all_goals clear h1 h2 h3
 all_goals (refine congrArg AV.bool ?_;unfold F2 A8;simp_all<;>omega)
set_option maxHeartbeats 4000000 in
theorem wC(da sr:Int)(co tw na:Bs)(lo hi sh:Int)(h1:na.length≤1000)(h2:co.length≤1000)(h3:tw.length≤1000):Aw Tryz.prog 118 [lA da 4 sr co tw na lo hi sh] (λr=>r=.bool (F2 da&&A8 ⟨da,4,sr,co,tw,na,lo,hi,sh⟩)):=by
 refine Aw.Ai Tryz.func118 rfl Ae (by kernel_rfl) ?_
 conv=>whnf
 repeat(refine sT rfl ?_;conv=>whnf)
 repeat' (first|(refine⟨λ_=>?_,λh=>absurd h (by decide +kernel)⟩;conv=>whnf)|(refine⟨λh=>absurd h (by decide +kernel),λ_=>?_⟩;conv=>whnf)|(refine Ao (λ_=>?_) (λ_=>?_)<;>conv=>whnf)|(refine cS (Bw na h1) rfl ?_;conv=>whnf)|(refine cS (D1 co h2) rfl ?_;conv=>whnf)|(refine cS (Bw tw h3) rfl ?_;conv=>whnf)|(refine cS (BH lo) rfl ?_;conv=>whnf)|(refine cS (BH hi) rfl ?_;conv=>whnf)|(refine sT rfl ?_;conv=>whnf))
 all_goals clear h1 h2 h3
 all_goals (refine congrArg AV.bool ?_;unfold F2 A8;simp_all<;>omega)
set_option maxHeartbeats 4000000 in
theorem wB(da sr:Int)(co tw na:Bs)(lo hi sh:Int)(h1:na.length≤1000)(h2:co.length≤1000)(h3:tw.length≤1000):Aw Tryz.prog 118 [lA da 5 sr co tw na lo hi sh] (λr=>r=.bool (F2 da&&A8 ⟨da,5,sr,co,tw,na,lo,hi,sh⟩)):=by
 refine Aw.Ai Tryz.func118 rfl Ae (by kernel_rfl) ?_
 conv=>whnf
 repeat(refine sT rfl ?_;conv=>whnf)
 repeat' (first|(refine⟨λ_=>?_,λh=>absurd h (by decide +kernel)⟩;conv=>whnf)|(refine⟨λh=>absurd h (by decide +kernel),λ_=>?_⟩;conv=>whnf)|(refine Ao (λ_=>?_) (λ_=>?_)<;>conv=>whnf)|(refine cS (Bw na h1) rfl ?_;conv=>whnf)|(refine cS (D1 co h2) rfl ?_;conv=>whnf)|(refine cS (Bw tw h3) rfl ?_;conv=>whnf)|(refine cS (BH lo) rfl ?_;conv=>whnf)|(refine cS (BH hi) rfl ?_;conv=>whnf)|(refine sT rfl ?_;conv=>whnf))
 all_goals clear h1 h2 h3
 all_goals (refine congrArg AV.bool ?_;unfold F2 A8;simp_all<;>omega)
set_option maxHeartbeats 4000000 in
theorem wA(da sr:Int)(co tw na:Bs)(lo hi sh:Int)(h1:na.length≤1000)(h2:co.length≤1000)(h3:tw.length≤1000):Aw Tryz.prog 118 [lA da 6 sr co tw na lo hi sh] (λr=>r=.bool (F2 da&&A8 ⟨da,6,sr,co,tw,na,lo,hi,sh⟩)):=by
 refine Aw.Ai Tryz.func118 rfl Ae (by kernel_rfl) ?_
 conv=>whnf
 repeat(refine sT rfl ?_;conv=>whnf)
 repeat' (first|(refine⟨λ_=>?_,λh=>absurd h (by decide +kernel)⟩;conv=>whnf)|(refine⟨λh=>absurd h (by decide +kernel),λ_=>?_⟩;conv=>whnf)|(refine Ao (λ_=>?_) (λ_=>?_)<;>conv=>whnf)|(refine cS (Bw na h1) rfl ?_;conv=>whnf)|(refine cS (D1 co h2) rfl ?_;conv=>whnf)|(refine cS (Bw tw h3) rfl ?_;conv=>whnf)|(refine cS (BH lo) rfl ?_;conv=>whnf)|(refine cS (BH hi) rfl ?_;conv=>whnf)|(refine sT rfl ?_;conv=>whnf))
 all_goals clear h1 h2 h3
 all_goals (refine congrArg AV.bool ?_;unfold F2 A8;simp_all<;>omega)
set_option maxHeartbeats 4000000 in
theorem wG(da ki sr:Int)(co tw na:Bs)(lo hi sh:Int)(k1:ki≠1)(k2:ki≠2)(k3:ki≠3)(k4:ki≠4)(k5:ki≠5)(k6:ki≠6):Aw Tryz.prog 118 [lA da ki sr co tw na lo hi sh] (λr=>r=.bool (F2 da&&A8 ⟨da,ki,sr,co,tw,na,lo,hi,sh⟩)):=by
 have hu:A8 ⟨da,ki,sr,co,tw,na,lo,hi,sh⟩=false:=by unfold A8;simp[k1,k2,k3,k4,k5,k6]
 rw[hu,CM];refine Aw.Ai Tryz.func118 rfl Ae (by kernel_rfl) ?_
 conv=>whnf
 repeat(refine sT rfl ?_;conv=>whnf)
 repeat' (first|(refine ZgV ?_ (λ_=>?_);(focus (simp[k1,k2,k3,k4,k5,k6];done));conv=>whnf)|(refine Zex ?_ (λ_=>?_);(focus (simp[k1,k2,k3,k4,k5,k6];done));conv=>whnf)|(refine Ao (λ_=>?_) (λ_=>?_)<;>conv=>whnf)|(refine sT rfl ?_;conv=>whnf))
 all_goals first
  |(exfalso;clear hu;simp_all;done)
  |(refine congrArg AV.bool ?_;simp_all<;>omega)
theorem PV(c:Ch)(h1:c.na.length≤1000)(h2:c.co.length≤1000)(h3:c.to.length≤1000):Aw Tryz.prog 118 [c.v] (λr=>r=.bool (F2 c.da&&A8 c)):=by
 obtain⟨da,ki,sr,co,tw,na,lo,hi,sh⟩:=c;by_cases k1:ki=1;·subst k1;exact wF da sr co tw na lo hi sh h1 h2 h3
 by_cases k2:ki=2;·subst k2;exact wE da sr co tw na lo hi sh h1 h2 h3
 by_cases k3:ki=3;·subst k3;exact wD da sr co tw na lo hi sh h1 h2 h3
 by_cases k4:ki=4;·subst k4;exact wC da sr co tw na lo hi sh h1 h2 h3
 by_cases k5:ki=5;·subst k5;exact wB da sr co tw na lo hi sh h1 h2 h3
 by_cases k6:ki=6;·subst k6;exact wA da sr co tw na lo hi sh h1 h2 h3
 exact wG da ki sr co tw na lo hi sh k1 k2 k3 k4 k5 k6
namespace Pl
def GS(c:Ch):Bool:=decide (c.na.length≤100)&&decide (c.to.length≤100)&&decide (c.co.length≤20)
def DH(r:List Ch):Bool:=decide (r.length≤70)&&r.all GS
end Pl
theorem Td(r:List Ch):Aw Tryz.prog 38 [E6 r] (λx=>x=.bool (DH r)):=by
 refine Aw.Ai Tryz.func38 rfl Ae (by kernel_rfl) ?_
 conv=>whnf
 repeat(refine sT rfl ?_;conv=>whnf)
 refine⟨λh=>?_,λh=>?_⟩
 ·have h:¬r.length≤70:=by simp at h;omega
  conv=>whnf
  repeat(refine sT rfl ?_;conv=>whnf)
  unfold DH;rw[decide_eq_false h];rfl
 ·have h:r.length≤70:=by simp at h;omega
  have hr:DH r=r.all GS:=by unfold DH;rw[decide_eq_true h];rfl
  conv=>whnf
  repeat(refine sT rfl ?_;conv=>whnf)
  refine Ac.AJ (λk:Nat=>mk 38 [(0,E6 r),(3,.int .i64 k)]) (λ_=>[]) (λk=>k≤r.length∧(r.take k).all GS=true) (λk=>r.length-k) (λ_ _=>⟨rfl,trivial⟩) ⟨0,?_⟩ (λ_=>rfl) λk hk=>?_
  ·conv=>whnf
   repeat(refine Ao ?_ ?_;(focus (first|rfl|(simp;done)));conv=>whnf)
   simp
  ·obtain⟨hk,ha⟩:=hk;have Bj:Wr .i64 ((k:Int)+1)=((k+1:Nat):Int):=by rw[AH _ (by omega) (by omega)];rfl
   repeat(refine sT rfl ?_;conv=>whnf)
   refine⟨λh1=>?_,λh1=>?_⟩
   ·have h1:k<r.length:=by simpa using h1
    have gk:(List.map Ch.v r)[((k:Int)).toNat]?=some (r[k]).v:=by simp[h1]
    have ht:(r.take (k+1)).all GS=((r.take k).all GS&&GS r[k]):=by rw[Ba h1,List.all_append];simp
    conv=>whnf
    repeat(refine sT rfl ?_;conv=>whnf)
    repeat' (first|(refine Ao (λ_=>?_) (λ_=>?_)<;>conv=>whnf)|(refine⟨by omega,(r[k]).v,gk,?_⟩;conv=>whnf))
    all_goals (
     repeat(refine sT rfl ?_;conv=>whnf)
     try (repeat' (first|(refine Ao (λ_=>?_) (λ_=>?_)<;>conv=>whnf)|(refine⟨by omega,(r[k]).v,gk,?_⟩;conv=>whnf))))
    all_goals (
     repeat' (first|(refine Ao (λ_=>?_) (λ_=>?_)<;>conv=>whnf)|(refine sT rfl ?_;conv=>whnf))
     skip)
    all_goals first
     |(refine congrArg AV.bool ?_
       have hn:GS r[k]=false:=by(rw[Cb];intro hq;clear ha ht hr gk;unfold GS at hq;simp only[AO,decide_eq_true_eq,decide_eq_false_iff_not]at *;omega)
       rw[hr,List.all_eq_false.2 ⟨r[k],AR h1,by simp[hn]⟩])
     |(have hy:GS r[k]=true:=by(clear ha ht hr gk;unfold GS;simp only[AO,decide_eq_true_eq,decide_eq_false_iff_not]at *;omega)
       refine⟨k+1,?_⟩
       conv=>whnf
       repeat(refine Ao ?_ ?_;(focus (first|rfl|(simp;done)|(first|exact Bj;done)));conv=>whnf)
       exact⟨⟨by omega,by rw[ht,ha,hy];rfl⟩,by omega⟩)
     |trace_state
   ·have h1:k=r.length:=by simp at h1;omega
    rw[h1,Bq]at ha;conv=>whnf
    repeat(refine sT rfl ?_;conv=>whnf)
    rw[hr,ha]
open Go.Av Go.Shelf Pl Go.RowKit
namespace Pl
def FV(l:List St)(c:Ch):Except Int (List St):=match K5 l c with
 |.error e=>.error e
 |.ok (l',n)=>if FC l' n then .error 51 else .ok l'
end Pl
def ZR:Except Int (List St)→AV
 |.ok l=>.tuple [Lq l,.int .i64 0]
 |.error e=>.tuple [Lq [],.int .i64 e]
theorem CI(l:List St)(x:AV):([]++List.map St.v l++[x])[0+((([]++List.map St.v l).length:Nat):Int).toNat]?=some x:=by simp
theorem Us(l:List St):(l.map St.v).map DN=l.map St.v:=by
 rw[List.map_map];rfl
theorem iA(l:List St)(x y:AV)(s:St)(h:DN y=s.v):(([]++List.map St.v l++[x]).set (0+((([]++List.map St.v l).length:Nat):Int).toNat) y).map DN=(l++[s]).map St.v:=by
 have e:0+((([]++List.map St.v l).length:Nat):Int).toNat=(l.map St.v).length:=by simp
 rw[e,BC,List.set_append_right _ _ (Nat.le_refl _),Nat.sub_self,List.set_cons_zero,CL,Us,CL];simp[h]
theorem Fj(l:List St):∀e∈l.map St.v,closed e=true:=by
 intro e he;obtain⟨s,_,rfl⟩:=List.mem_map.1 he;show closed (.sl 1 (strs s.al))=true
 rfl
theorem eP{da:Int}{co tw na:Bs}{lo hi sh:Int}(l:List St)(sr:Int){ki:Int}(hk:ki=1):K5 l ⟨da,ki,sr,co,tw,na,lo,hi,sh⟩=.ok (l++[Qt ⟨da,ki,sr,co,tw,na,lo,hi,sh⟩],l.length):=by
 unfold K5;rw[if_pos hk]
theorem K8{l l':List St}{c:Ch}{n:Nat}(hu:A8 c=true)(D5:∀s∈l,BW s 60)(hm:K5 l c=.ok (l',n)):∀s∈l',s.al.length≤1000∧s.na.length≤1000∧∀x∈s.al,x.length≤1000:=λs hs=>by
 have h:=(oR hu D5 hm).1 s hs;exact⟨by have:=h.al;omega,by have:=h.na;omega,λx hx=>by have:=h.lV x hx;omega⟩
theorem Iq{l l':List St}{c:Ch}{n:Nat}(hm:K5 l c=.ok (l',n))(h:FC l' n=true):FV l c=.error 51:=by
 unfold FV;rw[hm];simp[h]
theorem GH{l l':List St}{c:Ch}{n:Nat}(hm:K5 l c=.ok (l',n))(h:FC l' n=false):FV l c=.ok l':=by
 unfold FV;rw[hm];simp[h]
theorem B4{l:List St}{c:Ch}{e:Int}(hm:K5 l c=.error e):FV l c=.error e:=by
 unfold FV;rw[hm]
theorem EC(l:List St)(n:Nat)(h:n<l.length):([]++List.map St.v l)[0+n]?=some (l[n]).v:=by simp[h]
theorem NG(l:List St)(n:Nat)(y:AV)(s:St)(h:DN y=s.v):(([]++List.map St.v l).set (0+n) y).map DN=(l.set n s).map St.v:=by
 rw[BC,Nat.zero_add,List.map_set,Us,List.map_set,h]
theorem Ng{l:List St}{c:Ch}{s':St}(hk:c.ki≠1)(h0:0≤c.sr)(h:c.sr.toNat<l.length)(ho:l[c.sr.toNat].op=true)(he:Dd l[c.sr.toNat] c=.ok s'):K5 l c=.ok (l.set c.sr.toNat s',c.sr.toNat):=by
 have N1:En l c.sr=true:=by
  unfold En;rw[Aq h,decide_eq_true h0];exact ho
 unfold K5;rw[if_neg hk,if_pos N1,Aq h];simp only[he]
theorem eQ{l:List St}{c:Ch}{e:Int}(hk:c.ki≠1)(h0:0≤c.sr)(h:c.sr.toNat<l.length)(ho:l[c.sr.toNat].op=true)(he:Dd l[c.sr.toNat] c=.error e):K5 l c=.error e:=by
 have N1:En l c.sr=true:=by
  unfold En;rw[Aq h,decide_eq_true h0];exact ho
 unfold K5;rw[if_neg hk,if_pos N1,Aq h];simp only[he]
theorem Nb{l:List St}{n:Int}(h:(l.length:Int)≤n):En l n=false:=by
 unfold En;rw[List.getElem?_eq_none (by omega)]
 simp
theorem Im{l:List St}{n:Int}(h:n.toNat<l.length)(ho:l[n.toNat].op=false):En l n=false:=by
 unfold En;rw[Aq h];simp[ho]
theorem ZcE(l:List St)(da sr:Int)(co tw na:Bs)(lo hi sh:Int)(hl:l.length≤60)(D5:∀s∈l,BW s 60)(hu:A8 ⟨da,1,sr,co,tw,na,lo,hi,sh⟩=true):
  Aw Tryz.prog 119 [Lq l,lA da 1 sr co tw na lo hi sh] (λx=>x=ZR (FV l ⟨da,1,sr,co,tw,na,lo,hi,sh⟩)):=by
 refine Aw.Ai Tryz.func119 rfl Ae (by kernel_rfl) ?_
 conv=>whnf
 repeat(refine sT rfl ?_;conv=>whnf)
 refine⟨⟨rfl,by simp;omega⟩,?_⟩
 conv=>whnf
 repeat(refine sT rfl ?_;conv=>whnf)
 refine⟨λ_=>?_,λh=>absurd h (by decide +kernel)⟩
 conv=>whnf
 repeat(refine sT rfl ?_;conv=>whnf)
 refine⟨rfl,⟨rfl,by simp;omega⟩,?_⟩
 conv=>whnf
 repeat(refine sT rfl ?_;conv=>whnf)
 refine⟨by simp;omega,?_⟩
 conv=>whnf
 repeat(refine sT rfl ?_;conv=>whnf)
 refine⟨_,CI l _,?_⟩;conv=>whnf
 repeat(refine sT rfl ?_;conv=>whnf)
 repeat' (first|(refine⟨λ_=>?_,λh=>absurd h (by decide +kernel)⟩;conv=>whnf)|(refine⟨λh=>absurd h (by decide +kernel),λ_=>?_⟩;conv=>whnf)|(refine Ao (λ_=>?_) (λ_=>?_)<;>conv=>whnf)|(refine sT rfl ?_;conv=>whnf))
 refine⟨by simp;omega,?_⟩
 conv=>whnf
 repeat(refine sT rfl ?_;conv=>whnf)
 refine⟨_,CI l _,?_⟩;conv=>whnf
 repeat(refine sT rfl ?_;conv=>whnf)
 refine Ak.DN 1 rfl (iA l _ _ (Qt ⟨da,1,sr,co,tw,na,lo,hi,sh⟩) rfl) ?_;refine Ak.freeze 1 ?_ (by kernel_rfl)
 conv=>whnf
 refine⟨Fj _,?_⟩;conv=>whnf
 repeat(refine⟨(by first|rfl|(simp;done):(_:Nat)=_),?_⟩;conv=>whnf)
 refine cS (FB (l++[Qt ⟨da,1,sr,co,tw,na,lo,hi,sh⟩]) (([]:List AV)++List.map St.v l).length (by simp) (by simp;omega) (K8 hu D5 (eP l sr rfl))) rfl ?_;conv=>whnf
 repeat(refine sT rfl ?_;conv=>whnf)
 have hm:=eP (da:=da) (co:=co) (tw:=tw) (na:=na) (lo:=lo) (hi:=hi) (sh:=sh) l sr rfl;refine⟨λh=>?_,λh=>?_⟩
 ·conv=>whnf
  repeat(refine sT rfl ?_;conv=>whnf)
  refine⟨8,?_⟩;conv=>whnf
  rw[Iq hm (by simpa using h)]
  rfl
 ·conv=>whnf
  repeat(refine sT rfl ?_;conv=>whnf)
  rw[GH hm (by simpa using h)]
  rfl
set_option maxHeartbeats 4000000 in
theorem ZcD(l:List St)(da sr:Int)(co tw na:Bs)(lo hi sh:Int)(hl:l.length≤60)(D5:∀s∈l,BW s 60)(hu:A8 ⟨da,2,sr,co,tw,na,lo,hi,sh⟩=true):
  Aw Tryz.prog 119 [Lq l,lA da 2 sr co tw na lo hi sh] (λx=>x=ZR (FV l ⟨da,2,sr,co,tw,na,lo,hi,sh⟩)):=by
 refine Aw.Ai Tryz.func119 rfl Ae (by kernel_rfl) ?_
 conv=>whnf
 repeat(refine sT rfl ?_;conv=>whnf)
 refine⟨⟨rfl,by simp;omega⟩,?_⟩
 conv=>whnf
 repeat(refine sT rfl ?_;conv=>whnf)
 refine⟨λh=>absurd h (by decide +kernel),λ_=>?_⟩
 conv=>whnf
 repeat(refine sT rfl ?_;conv=>whnf)
 refine⟨λh1=>?_,λh1=>?_⟩;rotate_left
 ·have h1:sr<0:=by simpa using h1
  conv=>whnf
  repeat(refine sT rfl ?_;conv=>whnf)
  refine⟨8,?_⟩;conv=>whnf
  rw[B4 (Cz (by simp) (K3 h1))]
  rfl
 have h1:0≤sr:=by simp at h1;omega
 conv=>whnf
 repeat(refine sT rfl ?_;conv=>whnf)
 refine⟨λh2=>?_,λh2=>?_⟩;rotate_left
 ·have h2:(l.length:Int)≤sr:=by simpa using h2
  conv=>whnf
  repeat(refine sT rfl ?_;conv=>whnf)
  refine⟨8,?_⟩;conv=>whnf
  rw[B4 (Cz (by simp) (Nb h2))]
  rfl
 have h2:sr.toNat<l.length:=by simp at h2;omega
 conv=>whnf
 repeat(refine sT rfl ?_;conv=>whnf)
 refine⟨by simp;omega,?_⟩
 conv=>whnf
 repeat(refine sT rfl ?_;conv=>whnf)
 refine⟨_,EC l _ h2,?_⟩;conv=>whnf
 repeat(refine sT rfl ?_;conv=>whnf)
 refine⟨λh3=>?_,λh3=>?_⟩
 ·have h3:l[sr.toNat].op=false:=by simpa using h3
  conv=>whnf
  repeat(refine sT rfl ?_;conv=>whnf)
  refine⟨8,?_⟩;conv=>whnf
  rw[B4 (Cz (by simp) (Im h2 h3))]
  rfl
 have h3:l[sr.toNat].op=true:=by simpa using h3
 conv=>whnf
 repeat(refine sT rfl ?_;conv=>whnf)
 refine⟨by simp;omega,?_⟩
 conv=>whnf
 repeat(refine sT rfl ?_;conv=>whnf)
 refine⟨_,EC l _ h2,?_⟩;conv=>whnf
 repeat(refine sT rfl ?_;conv=>whnf)
 have hm:K5 l ⟨da,2,sr,co,tw,na,lo,hi,sh⟩=.ok (l.set sr.toNat {l[sr.toNat]with na:=na},sr.toNat):=Ng (by simp) h1 h2 h3 (by unfold Dd;simp)
 repeat' (first|(refine⟨λ_=>?_,λh=>absurd h (by decide +kernel)⟩;conv=>whnf)|(refine⟨λh=>absurd h (by decide +kernel),λ_=>?_⟩;conv=>whnf)|(refine Ao (λ_=>?_) (λ_=>?_)<;>conv=>whnf)|(refine sT rfl ?_;conv=>whnf))
 refine⟨by simp;omega,?_⟩
 conv=>whnf
 repeat(refine sT rfl ?_;conv=>whnf)
 refine⟨_,EC l _ h2,?_⟩;conv=>whnf
 repeat(refine sT rfl ?_;conv=>whnf)
 refine Ak.DN 1 rfl (NG l _ _ ({l[sr.toNat]with na:=na}) (rfl)) ?_
 refine Ak.freeze 1 ?_ (by kernel_rfl)
 conv=>whnf
 refine⟨Fj _,?_⟩;conv=>whnf
 repeat(refine⟨(by first|rfl|(simp;done):(_:Nat)=_),?_⟩;conv=>whnf)
 have hn:sr=(sr.toNat:Int):=by omega
 have spec:=FB (l.set sr.toNat ({l[sr.toNat]with na:=na})) sr.toNat (by simpa using h2) (by simp;omega) (K8 hu D5 hm)
 rw[←hn]at spec;refine cS (spec) rfl ?_;conv=>whnf
 repeat(refine sT rfl ?_;conv=>whnf)
 refine⟨λh=>?_,λh=>?_⟩
 ·conv=>whnf
  repeat(refine sT rfl ?_;conv=>whnf)
  refine⟨8,?_⟩;conv=>whnf
  rw[Iq hm (by simpa using h)]
  rfl
 ·conv=>whnf
  repeat(refine sT rfl ?_;conv=>whnf)
  rw[GH hm (by simpa using h)]
  rfl
set_option maxHeartbeats 4000000 in
theorem ZcC(l:List St)(da sr:Int)(co tw na:Bs)(lo hi sh:Int)(hl:l.length≤60)(D5:∀s∈l,BW s 60)(hu:A8 ⟨da,3,sr,co,tw,na,lo,hi,sh⟩=true):
  Aw Tryz.prog 119 [Lq l,lA da 3 sr co tw na lo hi sh] (λx=>x=ZR (FV l ⟨da,3,sr,co,tw,na,lo,hi,sh⟩)):=by
 refine Aw.Ai Tryz.func119 rfl Ae (by kernel_rfl) ?_
 conv=>whnf
 repeat(refine sT rfl ?_;conv=>whnf)
 refine⟨⟨rfl,by simp;omega⟩,?_⟩
 conv=>whnf
 repeat(refine sT rfl ?_;conv=>whnf)
 refine⟨λh=>absurd h (by decide +kernel),λ_=>?_⟩
 conv=>whnf
 repeat(refine sT rfl ?_;conv=>whnf)
 refine⟨λh1=>?_,λh1=>?_⟩;rotate_left
 ·have h1:sr<0:=by simpa using h1
  conv=>whnf
  repeat(refine sT rfl ?_;conv=>whnf)
  refine⟨8,?_⟩;conv=>whnf
  rw[B4 (Cz (by simp) (K3 h1))]
  rfl
 have h1:0≤sr:=by simp at h1;omega
 conv=>whnf
 repeat(refine sT rfl ?_;conv=>whnf)
 refine⟨λh2=>?_,λh2=>?_⟩;rotate_left
 ·have h2:(l.length:Int)≤sr:=by simpa using h2
  conv=>whnf
  repeat(refine sT rfl ?_;conv=>whnf)
  refine⟨8,?_⟩;conv=>whnf
  rw[B4 (Cz (by simp) (Nb h2))]
  rfl
 have h2:sr.toNat<l.length:=by simp at h2;omega
 conv=>whnf
 repeat(refine sT rfl ?_;conv=>whnf)
 refine⟨by simp;omega,?_⟩
 conv=>whnf
 repeat(refine sT rfl ?_;conv=>whnf)
 refine⟨_,EC l _ h2,?_⟩;conv=>whnf
 repeat(refine sT rfl ?_;conv=>whnf)
 refine⟨λh3=>?_,λh3=>?_⟩
 ·have h3:l[sr.toNat].op=false:=by simpa using h3
  conv=>whnf
  repeat(refine sT rfl ?_;conv=>whnf)
  refine⟨8,?_⟩;conv=>whnf
  rw[B4 (Cz (by simp) (Im h2 h3))]
  rfl
 have h3:l[sr.toNat].op=true:=by simpa using h3
 conv=>whnf
 repeat(refine sT rfl ?_;conv=>whnf)
 refine⟨by simp;omega,?_⟩
 conv=>whnf
 repeat(refine sT rfl ?_;conv=>whnf)
 refine⟨_,EC l _ h2,?_⟩;conv=>whnf
 repeat(refine sT rfl ?_;conv=>whnf)
 have hm:K5 l ⟨da,3,sr,co,tw,na,lo,hi,sh⟩=.ok (l.set sr.toNat {l[sr.toNat]with co:=co},sr.toNat):=Ng (by simp) h1 h2 h3 (by unfold Dd;simp)
 repeat' (first|(refine⟨λ_=>?_,λh=>absurd h (by decide +kernel)⟩;conv=>whnf)|(refine⟨λh=>absurd h (by decide +kernel),λ_=>?_⟩;conv=>whnf)|(refine Ao (λ_=>?_) (λ_=>?_)<;>conv=>whnf)|(refine sT rfl ?_;conv=>whnf))
 refine⟨by simp;omega,?_⟩
 conv=>whnf
 repeat(refine sT rfl ?_;conv=>whnf)
 refine⟨_,EC l _ h2,?_⟩;conv=>whnf
 repeat(refine sT rfl ?_;conv=>whnf)
 refine Ak.DN 1 rfl (NG l _ _ ({l[sr.toNat]with co:=co}) (rfl)) ?_
 refine Ak.freeze 1 ?_ (by kernel_rfl)
 conv=>whnf
 refine⟨Fj _,?_⟩;conv=>whnf
 repeat(refine⟨(by first|rfl|(simp;done):(_:Nat)=_),?_⟩;conv=>whnf)
 have hn:sr=(sr.toNat:Int):=by omega
 have spec:=FB (l.set sr.toNat ({l[sr.toNat]with co:=co})) sr.toNat (by simpa using h2) (by simp;omega) (K8 hu D5 hm)
 rw[←hn]at spec;refine cS (spec) rfl ?_;conv=>whnf
 repeat(refine sT rfl ?_;conv=>whnf)
 refine⟨λh=>?_,λh=>?_⟩
 ·conv=>whnf
  repeat(refine sT rfl ?_;conv=>whnf)
  refine⟨8,?_⟩;conv=>whnf
  rw[Iq hm (by simpa using h)]
  rfl
 ·conv=>whnf
  repeat(refine sT rfl ?_;conv=>whnf)
  rw[GH hm (by simpa using h)]
  rfl
set_option maxHeartbeats 4000000 in
theorem Zcz(l:List St)(da sr:Int)(co tw na:Bs)(lo hi sh:Int)(hl:l.length≤60)(D5:∀s∈l,BW s 60)(hu:A8 ⟨da,6,sr,co,tw,na,lo,hi,sh⟩=true):
  Aw Tryz.prog 119 [Lq l,lA da 6 sr co tw na lo hi sh] (λx=>x=ZR (FV l ⟨da,6,sr,co,tw,na,lo,hi,sh⟩)):=by
 refine Aw.Ai Tryz.func119 rfl Ae (by kernel_rfl) ?_
 conv=>whnf
 repeat(refine sT rfl ?_;conv=>whnf)
 refine⟨⟨rfl,by simp;omega⟩,?_⟩
 conv=>whnf
 repeat(refine sT rfl ?_;conv=>whnf)
 refine⟨λh=>absurd h (by decide +kernel),λ_=>?_⟩
 conv=>whnf
 repeat(refine sT rfl ?_;conv=>whnf)
 refine⟨λh1=>?_,λh1=>?_⟩;rotate_left
 ·have h1:sr<0:=by simpa using h1
  conv=>whnf
  repeat(refine sT rfl ?_;conv=>whnf)
  refine⟨8,?_⟩;conv=>whnf
  rw[B4 (Cz (by simp) (K3 h1))]
  rfl
 have h1:0≤sr:=by simp at h1;omega
 conv=>whnf
 repeat(refine sT rfl ?_;conv=>whnf)
 refine⟨λh2=>?_,λh2=>?_⟩;rotate_left
 ·have h2:(l.length:Int)≤sr:=by simpa using h2
  conv=>whnf
  repeat(refine sT rfl ?_;conv=>whnf)
  refine⟨8,?_⟩;conv=>whnf
  rw[B4 (Cz (by simp) (Nb h2))]
  rfl
 have h2:sr.toNat<l.length:=by simp at h2;omega
 conv=>whnf
 repeat(refine sT rfl ?_;conv=>whnf)
 refine⟨by simp;omega,?_⟩
 conv=>whnf
 repeat(refine sT rfl ?_;conv=>whnf)
 refine⟨_,EC l _ h2,?_⟩;conv=>whnf
 repeat(refine sT rfl ?_;conv=>whnf)
 refine⟨λh3=>?_,λh3=>?_⟩
 ·have h3:l[sr.toNat].op=false:=by simpa using h3
  conv=>whnf
  repeat(refine sT rfl ?_;conv=>whnf)
  refine⟨8,?_⟩;conv=>whnf
  rw[B4 (Cz (by simp) (Im h2 h3))]
  rfl
 have h3:l[sr.toNat].op=true:=by simpa using h3
 conv=>whnf
 repeat(refine sT rfl ?_;conv=>whnf)
 refine⟨by simp;omega,?_⟩
 conv=>whnf
 repeat(refine sT rfl ?_;conv=>whnf)
 refine⟨_,EC l _ h2,?_⟩;conv=>whnf
 repeat(refine sT rfl ?_;conv=>whnf)
 have hm:K5 l ⟨da,6,sr,co,tw,na,lo,hi,sh⟩=.ok (l.set sr.toNat {l[sr.toNat]with op:=false},sr.toNat):=Ng (by simp) h1 h2 h3 (by unfold Dd;simp)
 repeat' (first|(refine⟨λ_=>?_,λh=>absurd h (by decide +kernel)⟩;conv=>whnf)|(refine⟨λh=>absurd h (by decide +kernel),λ_=>?_⟩;conv=>whnf)|(refine Ao (λ_=>?_) (λ_=>?_)<;>conv=>whnf)|(refine sT rfl ?_;conv=>whnf))
 refine⟨by simp;omega,?_⟩
 conv=>whnf
 repeat(refine sT rfl ?_;conv=>whnf)
 refine⟨_,EC l _ h2,?_⟩;conv=>whnf
 repeat(refine sT rfl ?_;conv=>whnf)
 refine Ak.DN 1 rfl (NG l _ _ ({l[sr.toNat]with op:=false}) (rfl)) ?_
 refine Ak.freeze 1 ?_ (by kernel_rfl)
 conv=>whnf
 refine⟨Fj _,?_⟩;conv=>whnf
 repeat(refine⟨(by first|rfl|(simp;done):(_:Nat)=_),?_⟩;conv=>whnf)
 have hn:sr=(sr.toNat:Int):=by omega
 have spec:=FB (l.set sr.toNat ({l[sr.toNat]with op:=false})) sr.toNat (by simpa using h2) (by simp;omega) (K8 hu D5 hm)
 rw[←hn]at spec;refine cS (spec) rfl ?_;conv=>whnf
 repeat(refine sT rfl ?_;conv=>whnf)
 refine⟨λh=>?_,λh=>?_⟩
 ·conv=>whnf
  repeat(refine sT rfl ?_;conv=>whnf)
  refine⟨8,?_⟩;conv=>whnf
  rw[Iq hm (by simpa using h)]
  rfl
 ·conv=>whnf
  repeat(refine sT rfl ?_;conv=>whnf)
  rw[GH hm (by simpa using h)]
  rfl
open Go.Av Go.Shelf Pl Go.RowKit
theorem N7(l:List Bs)(x:Bs):∀e∈[]++strs l++[AV.str x],closed e=true:=by
 intro e he;simp only[BC,List.mem_append,List.mem_singleton]at he;rcases he with he|rfl;·exact FM l e he
 ·rfl
theorem iD{s:St}{c:Ch}(hk:c.ki=4)(hs:BW s 60)(h:c.sh < -9999∨9999<c.sh∨G7 (Wr .i64 (s.lo+c.sh))=false∨G7 (Wr .i64 (s.hi+c.sh))=false):Dd s c=.error 1:=by
 obtain⟨q1,q2⟩:=hs.lo;obtain⟨q3,q4⟩:=hs.hi;unfold Dd;rw[if_neg (by omega),if_neg (by omega),if_pos hk,if_neg]
 intro hh;simp only[AO]at hh;obtain⟨g1,g2⟩:=hh;have r1:=Ga g1;have r2:=Ga g2;rw[AH (s.lo+c.sh) (by omega) (by omega),AH (s.hi+c.sh) (by omega) (by omega),g1,g2]at h
 rcases h with h|h|h|h;·omega
 ·omega
 ·cases h
 ·cases h
theorem mZ{s:St}{c:Ch}(hk:c.ki=4)(hs:BW s 60)(h1:¬c.sh < -9999)(h2:¬9999<c.sh)(h3:G7 (Wr .i64 (s.lo+c.sh))=true)(h4:G7 (Wr .i64 (s.hi+c.sh))=true):
  Dd s c=.ok {s with lo:=Wr .i64 (s.lo+c.sh),hi:=Wr .i64 (s.hi+c.sh),sh:=Wr .i64 (s.sh+c.sh)}:=by
 obtain⟨q1,q2⟩:=hs.lo;obtain⟨q3,q4⟩:=hs.hi;obtain⟨q5,q6⟩:=hs.sh;have e1:Wr .i64 (s.lo+c.sh)=s.lo+c.sh:=AH _ (by omega) (by omega)
 have e2:Wr .i64 (s.hi+c.sh)=s.hi+c.sh:=AH _ (by omega) (by omega)
 have e3:Wr .i64 (s.sh+c.sh)=s.sh+c.sh:=AH _ (by omega) (by omega)
 rw[e1]at h3 ⊢;rw[e2]at h4 ⊢;rw[e3];unfold Dd;rw[if_neg (by omega),if_neg (by omega),if_pos hk,if_pos (by rw[h3,h4];rfl)]
set_option maxHeartbeats 4000000 in
theorem ZcB(l:List St)(da sr:Int)(co tw na:Bs)(lo hi sh:Int)(hl:l.length≤60)(D5:∀s∈l,BW s 60)(hu:A8 ⟨da,4,sr,co,tw,na,lo,hi,sh⟩=true):
  Aw Tryz.prog 119 [Lq l,lA da 4 sr co tw na lo hi sh] (λx=>x=ZR (FV l ⟨da,4,sr,co,tw,na,lo,hi,sh⟩)):=by
 refine Aw.Ai Tryz.func119 rfl Ae (by kernel_rfl) ?_
 conv=>whnf
 repeat(refine sT rfl ?_;conv=>whnf)
 refine⟨⟨rfl,by simp;omega⟩,?_⟩
 conv=>whnf
 repeat(refine sT rfl ?_;conv=>whnf)
 refine⟨λh=>absurd h (by decide +kernel),λ_=>?_⟩
 conv=>whnf
 repeat(refine sT rfl ?_;conv=>whnf)
 refine⟨λh1=>?_,λh1=>?_⟩;rotate_left
 ·have h1:sr<0:=by simpa using h1
  conv=>whnf
  repeat(refine sT rfl ?_;conv=>whnf)
  refine⟨8,?_⟩;conv=>whnf
  rw[B4 (Cz (by simp) (K3 h1))]
  rfl
 have h1:0≤sr:=by simp at h1;omega
 conv=>whnf
 repeat(refine sT rfl ?_;conv=>whnf)
 refine⟨λh2=>?_,λh2=>?_⟩;rotate_left
 ·have h2:(l.length:Int)≤sr:=by simpa using h2
  conv=>whnf
  repeat(refine sT rfl ?_;conv=>whnf)
  refine⟨8,?_⟩;conv=>whnf
  rw[B4 (Cz (by simp) (Nb h2))]
  rfl
 have h2:sr.toNat<l.length:=by simp at h2;omega
 conv=>whnf
 repeat(refine sT rfl ?_;conv=>whnf)
 refine⟨by simp;omega,?_⟩
 conv=>whnf
 repeat(refine sT rfl ?_;conv=>whnf)
 refine⟨_,EC l _ h2,?_⟩;conv=>whnf
 repeat(refine sT rfl ?_;conv=>whnf)
 refine⟨λh3=>?_,λh3=>?_⟩
 ·have h3:l[sr.toNat].op=false:=by simpa using h3
  conv=>whnf
  repeat(refine sT rfl ?_;conv=>whnf)
  refine⟨8,?_⟩;conv=>whnf
  rw[B4 (Cz (by simp) (Im h2 h3))]
  rfl
 have h3:l[sr.toNat].op=true:=by simpa using h3
 conv=>whnf
 repeat(refine sT rfl ?_;conv=>whnf)
 refine⟨by simp;omega,?_⟩
 conv=>whnf
 repeat(refine sT rfl ?_;conv=>whnf)
 refine⟨_,EC l _ h2,?_⟩;conv=>whnf
 repeat(refine sT rfl ?_;conv=>whnf)
 have Ah:=D5 _ (AR h2);have bad:(sh < -9999∨9999<sh∨G7 (Wr .i64 (l[sr.toNat].lo+sh))=false∨G7 (Wr .i64 (l[sr.toNat].hi+sh))=false)→FV l ⟨da,4,sr,co,tw,na,lo,hi,sh⟩=.error 1:=λh=>B4 (eQ (by simp) h1 h2 h3 (iD (c:=⟨da,4,sr,co,tw,na,lo,hi,sh⟩) rfl Ah h))
 repeat' (first|(refine⟨λ_=>?_,λh=>absurd h (by decide +kernel)⟩;conv=>whnf)|(refine⟨λh=>absurd h (by decide +kernel),λ_=>?_⟩;conv=>whnf)|(refine Ao (λ_=>?_) (λ_=>?_)<;>conv=>whnf)|(refine cS (BH (Wr .i64 (l[sr.toNat].lo+sh))) rfl ?_;conv=>whnf)|(refine cS (BH (Wr .i64 (l[sr.toNat].hi+sh))) rfl ?_;conv=>whnf)|(refine sT rfl ?_;conv=>whnf))
 all_goals first
  |(refine⟨8,?_⟩
    conv=>whnf
    rw[bad (by simp_all)]
    rfl)
  |skip
 rename_i k1 k2 k3 k4
 have hm:K5 l ⟨da,4,sr,co,tw,na,lo,hi,sh⟩=.ok (l.set sr.toNat {l[sr.toNat]with lo:=Wr .i64 (l[sr.toNat].lo+sh),hi:=Wr .i64 (l[sr.toNat].hi+sh),sh:=Wr .i64 (l[sr.toNat].sh+sh)},sr.toNat):=
  Ng (by simp) h1 h2 h3 (mZ (c:=⟨da,4,sr,co,tw,na,lo,hi,sh⟩) rfl Ah (by simpa using k1) (by simpa using k2) (by simpa using k3) (by simpa using k4))
 refine⟨by simp;omega,?_⟩
 conv=>whnf
 repeat(refine sT rfl ?_;conv=>whnf)
 refine⟨_,EC l _ h2,?_⟩;conv=>whnf
 repeat(refine sT rfl ?_;conv=>whnf)
 refine Ak.DN 1 rfl (NG l _ _ {l[sr.toNat]with lo:=Wr .i64 (l[sr.toNat].lo+sh),hi:=Wr .i64 (l[sr.toNat].hi+sh),sh:=Wr .i64 (l[sr.toNat].sh+sh)} rfl) ?_
 refine Ak.freeze 1 ?_ (by kernel_rfl)
 conv=>whnf
 refine⟨Fj _,?_⟩;conv=>whnf
 repeat(refine⟨(by first|rfl|(simp;done):(_:Nat)=_),?_⟩;conv=>whnf)
 have hn:sr=(sr.toNat:Int):=by omega
 have spec:=FB (l.set sr.toNat {l[sr.toNat]with lo:=Wr .i64 (l[sr.toNat].lo+sh),hi:=Wr .i64 (l[sr.toNat].hi+sh),sh:=Wr .i64 (l[sr.toNat].sh+sh)}) sr.toNat (by simpa using h2) (by simp;omega) (K8 hu D5 hm)
 rw[←hn]at spec;refine cS (spec) rfl ?_;conv=>whnf
 repeat(refine sT rfl ?_;conv=>whnf)
 refine⟨λh=>?_,λh=>?_⟩
 ·conv=>whnf
  repeat(refine sT rfl ?_;conv=>whnf)
  refine⟨8,?_⟩;conv=>whnf
  rw[Iq hm (by simpa using h)]
  rfl
 ·conv=>whnf
  repeat(refine sT rfl ?_;conv=>whnf)
  rw[GH hm (by simpa using h)]
  rfl
set_option maxHeartbeats 4000000 in
theorem ZcA(l:List St)(da sr:Int)(co tw na:Bs)(lo hi sh:Int)(hl:l.length≤60)(D5:∀s∈l,BW s 60)(hu:A8 ⟨da,5,sr,co,tw,na,lo,hi,sh⟩=true):
  Aw Tryz.prog 119 [Lq l,lA da 5 sr co tw na lo hi sh] (λx=>x=ZR (FV l ⟨da,5,sr,co,tw,na,lo,hi,sh⟩)):=by
 refine Aw.Ai Tryz.func119 rfl Ae (by kernel_rfl) ?_
 conv=>whnf
 repeat(refine sT rfl ?_;conv=>whnf)
 refine⟨⟨rfl,by simp;omega⟩,?_⟩
 conv=>whnf
 repeat(refine sT rfl ?_;conv=>whnf)
 refine⟨λh=>absurd h (by decide +kernel),λ_=>?_⟩
 conv=>whnf
 repeat(refine sT rfl ?_;conv=>whnf)
 refine⟨λh1=>?_,λh1=>?_⟩;rotate_left
 ·have h1:sr<0:=by simpa using h1
  conv=>whnf
  repeat(refine sT rfl ?_;conv=>whnf)
  refine⟨8,?_⟩;conv=>whnf
  rw[B4 (Cz (by simp) (K3 h1))]
  rfl
 have h1:0≤sr:=by simp at h1;omega
 conv=>whnf
 repeat(refine sT rfl ?_;conv=>whnf)
 refine⟨λh2=>?_,λh2=>?_⟩;rotate_left
 ·have h2:(l.length:Int)≤sr:=by simpa using h2
  conv=>whnf
  repeat(refine sT rfl ?_;conv=>whnf)
  refine⟨8,?_⟩;conv=>whnf
  rw[B4 (Cz (by simp) (Nb h2))]
  rfl
 have h2:sr.toNat<l.length:=by simp at h2;omega
 conv=>whnf
 repeat(refine sT rfl ?_;conv=>whnf)
 refine⟨by simp;omega,?_⟩
 conv=>whnf
 repeat(refine sT rfl ?_;conv=>whnf)
 refine⟨_,EC l _ h2,?_⟩;conv=>whnf
 repeat(refine sT rfl ?_;conv=>whnf)
 refine⟨λh3=>?_,λh3=>?_⟩
 ·have h3:l[sr.toNat].op=false:=by simpa using h3
  conv=>whnf
  repeat(refine sT rfl ?_;conv=>whnf)
  refine⟨8,?_⟩;conv=>whnf
  rw[B4 (Cz (by simp) (Im h2 h3))]
  rfl
 have h3:l[sr.toNat].op=true:=by simpa using h3
 conv=>whnf
 repeat(refine sT rfl ?_;conv=>whnf)
 refine⟨by simp;omega,?_⟩
 conv=>whnf
 repeat(refine sT rfl ?_;conv=>whnf)
 refine⟨_,EC l _ h2,?_⟩;conv=>whnf
 repeat(refine sT rfl ?_;conv=>whnf)
 have Ah:=D5 _ (AR h2);repeat' (first|(refine⟨λ_=>?_,λh=>absurd h (by decide +kernel)⟩;conv=>whnf)|(refine⟨λh=>absurd h (by decide +kernel),λ_=>?_⟩;conv=>whnf)|(refine Ao (λ_=>?_) (λ_=>?_)<;>conv=>whnf)|(refine cS (Mx l[sr.toNat] na (by have:=Ah.al;omega) (by have:=Ah.na;omega) (λx hx=>by have:=Ah.lV x hx;omega)) rfl ?_;conv=>whnf)|(refine sT rfl ?_;conv=>whnf))
 ·rename_i h5;refine⟨8,?_⟩;conv=>whnf
  rw[B4 (eQ (by simp) h1 h2 h3 (e:=4) (by unfold Dd;simp[h5]))]
  rfl
 ·rename_i h5;refine Ac.yT [0,1,2,4,5,6,3,7,8,9] [6] [3,7,9] [4,5,6] Ae mO (by kernel_rfl) ?_
  conv=>whnf
  have EN:=Ah.al;refine⟨rfl,?_⟩;conv=>whnf
  refine⟨⟨rfl,rfl⟩,?_⟩;conv=>whnf
  refine⟨rfl,?_⟩;conv=>whnf
  refine⟨⟨rfl,rfl⟩,?_⟩;conv=>whnf
  refine⟨rfl,?_⟩;conv=>whnf
  refine⟨⟨rfl,rfl⟩,?_⟩;conv=>whnf
  refine⟨⟨rfl,by simp;omega⟩,?_⟩
  conv=>whnf
  refine⟨⟨rfl,by simp;omega⟩,?_⟩
  conv=>whnf
  refine Ac.freeze 3 ?_;conv=>whnf
  refine⟨N7 _ _,?_⟩;conv=>whnf
  repeat(refine⟨(by first|rfl|(simp;done):(_:Nat)=_),?_⟩;conv=>whnf)
  repeat(refine sT rfl ?_;conv=>whnf)
  have hm:K5 l ⟨da,5,sr,co,tw,na,lo,hi,sh⟩=.ok (l.set sr.toNat {l[sr.toNat]with al:=l[sr.toNat].al++[na]},sr.toNat):=Ng (by simp) h1 h2 h3 (by unfold Dd;simp[h5])
  refine⟨by simp;omega,?_⟩
  conv=>whnf
  repeat(refine sT rfl ?_;conv=>whnf)
  refine⟨_,EC l _ h2,?_⟩;conv=>whnf
  repeat(refine sT rfl ?_;conv=>whnf)
  refine Ak.DN 1 rfl (NG l _ _ {l[sr.toNat]with al:=l[sr.toNat].al++[na]} (by simp[St.v,DN,LN,strs])) ?_
  refine Ak.freeze 1 ?_ (by kernel_rfl)
  conv=>whnf
  refine⟨Fj _,?_⟩;conv=>whnf
  repeat(refine⟨(by first|rfl|(simp;done):(_:Nat)=_),?_⟩;conv=>whnf)
  have hn:sr=(sr.toNat:Int):=by omega
  have spec:=FB (l.set sr.toNat {l[sr.toNat]with al:=l[sr.toNat].al++[na]}) sr.toNat (by simpa using h2) (by simp;omega) (K8 hu D5 hm)
  rw[←hn]at spec;refine cS (spec) rfl ?_;conv=>whnf
  repeat(refine sT rfl ?_;conv=>whnf)
  refine⟨λh=>?_,λh=>?_⟩
  ·conv=>whnf
   repeat(refine sT rfl ?_;conv=>whnf)
   refine⟨8,?_⟩;conv=>whnf
   rw[Iq hm (by simpa using h)]
   rfl
  ·conv=>whnf
   repeat(refine sT rfl ?_;conv=>whnf)
   rw[GH hm (by simpa using h)]
   rfl
theorem Vj(l:List St)(c:Ch)(hl:l.length≤60)(D5:∀s∈l,BW s 60)(hu:A8 c=true):Aw Tryz.prog 119 [Lq l,c.v] (λx=>x=ZR (FV l c)):=by
 obtain⟨da,ki,sr,co,tw,na,lo,hi,sh⟩:=c;rcases Mm hu with h|h|h|h|h|h<;>(simp only at h;subst h)
 ·exact ZcE l da sr co tw na lo hi sh hl D5 hu
 ·exact ZcD l da sr co tw na lo hi sh hl D5 hu
 ·exact ZcC l da sr co tw na lo hi sh hl D5 hu
 ·exact ZcB l da sr co tw na lo hi sh hl D5 hu
 ·exact ZcA l da sr co tw na lo hi sh hl D5 hu
 ·exact Zcz l da sr co tw na lo hi sh hl D5 hu
theorem Uh{p:Option Int}{i:Nat}{l:List St}{c:Ch}(h:¬60≤i)(hd:Jw p c.da=false)(hu:(F2 c.da&&A8 c)=true):Gi p i l c=FV l c:=by
 rw[step_mk h hd hu];rfl
theorem mX{r:List Ch}(h:DH r=true){c:Ch}(hc:c∈r):c.na.length≤1000∧c.co.length≤1000∧c.to.length≤1000:=by
 unfold DH at h;simp only[AO,decide_eq_true_eq]at h;have:=Cm.1 h.2 c hc;unfold GS at this;simp only[AO,decide_eq_true_eq]at this;omega
structure ZdZ(r:List Ch)(i:Nat)(l:List St):Prop where
 le:i≤r.length
 cnt:l.length≤i
 m:i≤60
 ok:∀s∈l,BW s i
 run:DU r=L1 (r.drop i) i (DL r i) l
theorem X4{r:List Ch}{i:Nat}{l l':List St}(h:i<r.length)(hl:l.length≤i)(D5:∀s∈l,BW s i)(AZ:DU r=L1 (r.drop i) i (DL r i) l)(hs:Gi (DL r i) i l r[i]=.ok l'):ZdZ r (i+1) l':=by
 obtain⟨h1,_,_,h4,n,h5,_⟩:=dQ hs;obtain⟨k1,k2⟩:=oR h4 D5 h5;refine⟨by omega,by omega,by omega,k1,?_⟩
 rw[AZ,nF h hs];unfold DL;rw[if_neg (by omega),B7,Aq h]
 rfl
theorem nE(r:List Ch)(hs:DH r=true):Aw Tryz.prog 74 [E6 r,.lit true,.int .i64 0] (λx=>x=tQ (DU r)):=by
 refine Aw.Ai Tryz.func74 rfl Ae (by kernel_rfl) ?_
 conv=>whnf
 repeat(refine sT rfl ?_;conv=>whnf)
 refine Ac.Zcw 9 8 rfl ?_;conv=>whnf
 refine Ac.AJ (λx:Nat×List St=>mk 73 [(0,E6 r),(1,.lit true),(2,.int .i64 0),(6,.raw (.slice none 0 0)),(7,.int .i64 0),(8,.int .i64 0),(9,Lq x.2),(10,.int .i64 x.1)]) (λ_=>[]) (λx=>ZdZ r x.1 x.2) (λx=>r.length-x.1) (λ_ _=>⟨rfl,trivial⟩) ⟨(0,[]),?_⟩ (λ_=>rfl) λx hx=>?_
 ·conv=>whnf
  repeat(refine Ao ?_ ?_;(focus (first|rfl|(simp;done)));conv=>whnf)
  exact⟨Nat.zero_le _,Nat.le_refl _,by omega,λs hs=>(by cases hs),rfl⟩
 ·obtain⟨i,l⟩:=x;simp only at hx;obtain⟨hi,hl,h60,D5,AZ⟩:=hx;have Bj:Wr .i64 ((i:Int)+1)=((i+1:Nat):Int):=by rw[AH _ (by omega) (by omega)];rfl
  repeat(refine sT rfl ?_;conv=>whnf)
  refine⟨λh=>?_,λh=>?_⟩
  ·have h:i<r.length:=by simpa using h
   have gi:(List.map Ch.v r)[((i:Int)).toNat]?=some (r[i]).v:=by simp[h]
   have hup:DL r (i+1)=some r[i].da:=by unfold DL;rw[if_neg (by omega),B7,Aq h];rfl
   have bad:∀e,Gi (DL r i) i l r[i]=.error e→DU r=([],e,(i:Int)):=λe he=>by rw[AZ,eB h he]
   conv=>whnf
   repeat(refine sT rfl ?_;conv=>whnf)
   refine⟨λk1=>?_,λk1=>?_⟩
   ·have k1:60≤i:=by simp at k1;omega
    conv=>whnf
    repeat(refine sT rfl ?_;conv=>whnf)
    refine⟨8,?_⟩;conv=>whnf
    rw[bad _ (Re k1)];rfl
   have k1:¬60≤i:=by simp at k1;omega
   conv=>whnf
   repeat(refine sT rfl ?_;conv=>whnf)
   refine Ac.draw [] Ae mO (by kernel_rfl) ?_
   conv=>whnf
   have pN:=mX hs (AR h)
   have gp:0<i→(List.map Ch.v r)[(Wr .i64 ((i:Int)-1)).toNat]?=some (r[i-1]).v:=λk=>by
    rw[AH _ (by omega) (by omega),show((i:Int)-1).toNat=i-1 by omega]
    simp[show i-1<r.length by omega]
   have yN:0<i→Jw (DL r i) r[i].da=decide (r[i].da<r[i-1].da):=λk=>by
    unfold DL;rw[if_neg (by omega),Aq (by omega)]
    rfl
   refine⟨λk2=>?_,λk2=>?_⟩
   ·have k2:0<i:=by simpa using k2
    conv=>whnf
    refine⟨by omega,(r[i]).v,gi,?_⟩
    conv=>whnf
    have Gf:Wr .i64 ((i:Int)-1)=((i:Int)-1):=AH _ (by omega) (by omega)
    refine⟨by simp only[Gf];omega,(r[i-1]).v,gp k2,?_⟩
    conv=>whnf
    repeat(refine sT rfl ?_;conv=>whnf)
    refine⟨λk3=>?_,λk3=>?_⟩
    ·have hd:Jw (DL r i) r[i].da=true:=by rw[yN k2,k3]
     conv=>whnf
     repeat(refine sT rfl ?_;conv=>whnf)
     refine⟨8,?_⟩;conv=>whnf
     rw[bad _ (Ui k1 hd)];rfl
    ·have hd:Jw (DL r i) r[i].da=false:=by rw[yN k2,k3]
     conv=>whnf
     repeat(refine sT rfl ?_;conv=>whnf)
     refine⟨by omega,(r[i]).v,gi,?_⟩
     conv=>whnf
     repeat(refine sT rfl ?_;conv=>whnf)
     refine cS (PV r[i] pN.1 pN.2.1 pN.2.2) rfl ?_;conv=>whnf
     repeat(refine sT rfl ?_;conv=>whnf)
     refine⟨λk4=>?_,λk4=>?_⟩
     ·have k4:(F2 r[i].da&&A8 r[i])=false:=by rw[Bh]at k4;exact k4
      conv=>whnf
      repeat(refine sT rfl ?_;conv=>whnf)
      refine⟨8,?_⟩;conv=>whnf
      rw[bad _ (MO k1 hd k4)];rfl
     ·have k4:(F2 r[i].da&&A8 r[i])=true:=by simpa using k4
      have k5:A8 r[i]=true:=by rw[AO]at k4;exact k4.2
      conv=>whnf
      repeat(refine sT rfl ?_;conv=>whnf)
      refine⟨by omega,(r[i]).v,gi,?_⟩
      conv=>whnf
      repeat(refine sT rfl ?_;conv=>whnf)
      refine Ak.D3 (Vj l r[i] (by omega) (λs hs=>(D5 s hs).mono h60) k5) rfl λx hx=>?_
      have Kh:=Uh k1 hd k4 (l:=l);cases hm:FV l r[i]with
      |error e=>
       rw[hm]at hx Kh;subst hx;have he:e≠0:=Vr Kh;conv=>whnf
       repeat(refine sT rfl ?_;conv=>whnf)
       refine⟨λ_=>?_,λh=>absurd h (by simp[he])⟩
       conv=>whnf
       repeat(refine sT rfl ?_;conv=>whnf)
       refine⟨8,?_⟩;conv=>whnf
       rw[bad _ Kh];rfl
      |ok l'=>
       rw[hm]at hx Kh;subst hx;conv=>whnf
       repeat(refine sT rfl ?_;conv=>whnf)
       refine⟨λh=>absurd h (by decide),λ_=>?_⟩
       conv=>whnf
       repeat(refine sT rfl ?_;conv=>whnf)
       refine⟨(i+1,l'),?_⟩;conv=>whnf
       repeat(refine Ao ?_ ?_;(focus (first|rfl|(simp;done)|(first|exact Bj;done)));conv=>whnf)
       exact⟨X4 h hl D5 AZ Kh,by omega⟩
   ·have k2:i=0:=by simp at k2;omega
    have hd:Jw (DL r i) r[i].da=false:=by subst k2;rfl
    conv=>whnf
    repeat(refine sT rfl ?_;conv=>whnf)
    refine⟨by omega,(r[i]).v,gi,?_⟩
    conv=>whnf
    repeat(refine sT rfl ?_;conv=>whnf)
    refine cS (PV r[i] pN.1 pN.2.1 pN.2.2) rfl ?_;conv=>whnf
    repeat(refine sT rfl ?_;conv=>whnf)
    refine⟨λk4=>?_,λk4=>?_⟩
    ·have k4:(F2 r[i].da&&A8 r[i])=false:=by rw[Bh]at k4;exact k4
     conv=>whnf
     repeat(refine sT rfl ?_;conv=>whnf)
     refine⟨8,?_⟩;conv=>whnf
     rw[bad _ (MO k1 hd k4)];rfl
    ·have k4:(F2 r[i].da&&A8 r[i])=true:=by simpa using k4
     have k5:A8 r[i]=true:=by rw[AO]at k4;exact k4.2
     conv=>whnf
     repeat(refine sT rfl ?_;conv=>whnf)
     refine⟨by omega,(r[i]).v,gi,?_⟩
     conv=>whnf
     repeat(refine sT rfl ?_;conv=>whnf)
     refine Ak.D3 (Vj l r[i] (by omega) (λs hs=>(D5 s hs).mono h60) k5) rfl λx hx=>?_
     have Kh:=Uh k1 hd k4 (l:=l);cases hm:FV l r[i]with
     |error e=>
      rw[hm]at hx Kh;subst hx;have he:e≠0:=Vr Kh;conv=>whnf
      repeat(refine sT rfl ?_;conv=>whnf)
      refine⟨λ_=>?_,λh=>absurd h (by simp[he])⟩
      conv=>whnf
      repeat(refine sT rfl ?_;conv=>whnf)
      refine⟨8,?_⟩;conv=>whnf
      rw[bad _ Kh];rfl
     |ok l'=>
      rw[hm]at hx Kh;subst hx;conv=>whnf
      repeat(refine sT rfl ?_;conv=>whnf)
      refine⟨λh=>absurd h (by decide),λ_=>?_⟩
      conv=>whnf
      repeat(refine sT rfl ?_;conv=>whnf)
      refine⟨(i+1,l'),?_⟩;conv=>whnf
      repeat(refine Ao ?_ ?_;(focus (first|rfl|(simp;done)|(first|exact Bj;done)));conv=>whnf)
      exact⟨X4 h hl D5 AZ Kh,by omega⟩
  ·have h:i=r.length:=by simp at h;omega
   conv=>whnf
   repeat(refine sT rfl ?_;conv=>whnf)
   rw[AZ,h,Cf];rfl
theorem Xt(r:List Ch)(hs:DH r=true):Aw Tryz.prog 39 [E6 r] (λx=>x=.tuple [.int .i64 (DU r).2.1,.int .i64 (DU r).2.2]):=by
 refine Aw.Ai Tryz.func39 rfl Ae (by kernel_rfl) ?_
 conv=>whnf
 repeat(refine sT rfl ?_;conv=>whnf)
 refine cS (nE r hs) rfl ?_;conv=>whnf
 repeat(refine sT rfl ?_;conv=>whnf)
theorem dJ(r:List Ch):Aw Tryz.prog 20 [E6 r] (λx=>x=.bool (DH r&&AY r)):=by
 refine Aw.Ai Tryz.func20 rfl Ae (by kernel_rfl) ?_
 conv=>whnf
 repeat(refine sT rfl ?_;conv=>whnf)
 refine cS (Td r) rfl ?_;conv=>whnf
 repeat(refine sT rfl ?_;conv=>whnf)
 refine⟨λh=>?_,λh=>?_⟩
 ·conv=>whnf
  repeat(refine sT rfl ?_;conv=>whnf)
  rw[Bh]at h;rw[h];rfl
 ·rw[BD]at h;conv=>whnf
  repeat(refine sT rfl ?_;conv=>whnf)
  refine cS (Xt r h) rfl ?_;conv=>whnf
  repeat(refine sT rfl ?_;conv=>whnf)
  rw[h];rfl
end Go.Proofs.YtdadkhcdoaeabaaGreatDoor.Rr