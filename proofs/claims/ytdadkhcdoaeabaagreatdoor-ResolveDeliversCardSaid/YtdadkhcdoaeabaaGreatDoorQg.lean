/- What is printed takes the parts. -/
import Derived.Test.YtdadkhcdoaeabaaGreatDoorQf
set_option linter.unusedVariables false
set_option maxRecDepth 100000
set_option linter.unusedSimpArgs false
open And renaming intro → Ah
open List renaming take_succ_eq_append_getElem → Ao, take_length → Aq, getElem_mem → AZ, all_cons → Ba, all_eq_false → Bc, length_append → Bh, length_map → Bq, all_append → Bu, foldl_cons → Bv, foldl_nil → BC, flatten_cons → Cf, mem_map → Cm, mem_flatten → Cu, all_eq_true → CA, getD → CM
open Bool renaming and_eq_true → AO, eq_iff_iff → AR, and_false → BV, true_and → B7, not_eq_true' → Cb
open Nat renaming mul_zero → BD, zero_add → BJ, zero_le → CL
namespace Go.Proofs.YtdadkhcdoaeabaaGreatDoor.Ff
open Go.Av Pl
theorem pD(u:Nat):Lib.itoa (u:Int)=Lib.decDigits u:=by unfold Lib.itoa;rw[if_neg (by omega)];simp
theorem S4(u d:Nat)(h:1≤u)(hd:d<10):Lib.decDigits (10*u+d)=Lib.decDigits u++[UInt8.ofNat (48+d)]:=by
 conv=>lhs;rw[Lib.decDigits]
 rw[dif_neg (by omega),show(10*u+d)/10=u by omega,show(10*u+d)%10=d by omega]
theorem Jf{c:UInt8}(h:Dx c=true):UInt8.ofNat (48+(c.toNat-48))=c:=by
 have:=(F1 c).1 h;rw[show 48+(c.toNat-48)=c.toNat by omega]
 simp
theorem mG{w:Bs}(h:Fe w=true):Lib.itoa (Lp w:Int)=w∧1≤Lp w∧Lp w≤9999:=by
 unfold Fe at h;simp only[AO,decide_eq_true_eq,Cb,decide_eq_false_iff_not]at h;obtain⟨⟨⟨h1,h2⟩,h3⟩,h4⟩:=h;rw[pD];cases w with
 |nil=>simp at h4
 |cons a w=>
  simp only[Ba,AO]at h3;obtain⟨ha,h3⟩:=h3;have ba:=(F1 a).1 ha
  have a0:1≤a.toNat-48:=by
   have h2:a≠48:=by simpa using h2
   have:a.toNat≠48:=λe=>h2 (UInt8.toNat_inj.1 e)
   omega
  have va:Lib.decDigits (a.toNat-48)=[a]:=by rw[Lib.decDigits,dif_pos (by omega),Jf ha]
  cases w with
  |nil=>
   unfold Lp;simp only[Bv,BC,BD,BJ];exact⟨va,by omega,by omega⟩
  |cons b w=>
   simp only[Ba,AO]at h3;obtain⟨hb,h3⟩:=h3;have bb:=(F1 b).1 hb;have vb:=S4 (a.toNat-48) (b.toNat-48) a0 (by omega)
   rw[va,Jf hb]at vb;cases w with
   |nil=>
    unfold Lp;simp only[Bv,BC,BD,BJ];exact⟨vb,by omega,by omega⟩
   |cons c w=>
    simp only[Ba,AO]at h3;obtain⟨hc,h3⟩:=h3;have bc:=(F1 c).1 hc;have vc:=S4 (10*(a.toNat-48)+(b.toNat-48)) (c.toNat-48) (by omega) (by omega)
    rw[vb,Jf hc]at vc;cases w with
    |nil=>
     unfold Lp;simp only[Bv,BC,BD,BJ];exact⟨vc,by omega,by omega⟩
    |cons d w=>
     simp only[Ba,AO]at h3;obtain⟨hd,h3⟩:=h3;have bd:=(F1 d).1 hd;have vd:=S4 (10*(10*(a.toNat-48)+(b.toNat-48))+(c.toNat-48)) (d.toNat-48) (by omega) (by omega)
     rw[vc,Jf hd]at vd;cases w with
     |nil=>
      unfold Lp;simp only[Bv,BC,BD,BJ];exact⟨vd,by omega,by omega⟩
     |cons e w=>simp at h1
theorem Zt{f:Fm}(h:By f=true):PR f.lines.flatten∧(EB f.lines.flatten).Nodup∧∀p∈f.lines.flatten,D7 p=true:=by
 have hp:∀p∈f.lines.flatten,D7 p=true:=λp hp=>by
  obtain⟨l,hl,hp⟩:=Cu.1 hp;exact Pa h l hl p hp
 refine⟨λp hq=>Fo (hp p hq),?_,hp⟩
 unfold By at h;simp only[AO,decide_eq_true_eq]at h;exact h.2
open Go.Av Go.Shelf Pl
theorem Vz(b:UInt8):Aw Tryz.prog 133 [.int .u8 b.toNat] (λr=>r=.bool (Ew b)):=by
 refine Aw.Ai Tryz.func133 rfl Ae (by kernel_rfl) ?_
 conv=>whnf
 repeat(refine sT rfl ?_;conv=>whnf)
 repeat' (first|(refine Ah (λ_=>?_) (λ_=>?_)<;>conv=>whnf)|(refine sT rfl ?_;conv=>whnf))
 all_goals (refine congrArg AV.bool ?_;rw[AR];simp_all[Ew,BY,Gg]<;>omega)
theorem Pn(b:UInt8):Aw Tryz.prog 99 [.int .u8 b.toNat] (λr=>r=.bool (Dx b)):=by
 refine Aw.Ai Tryz.func99 rfl Ae (by kernel_rfl) ?_
 conv=>whnf
 repeat(refine sT rfl ?_;conv=>whnf)
 repeat' (first|(refine Ah (λ_=>?_) (λ_=>?_)<;>conv=>whnf)|(refine sT rfl ?_;conv=>whnf))
 all_goals (refine congrArg AV.bool ?_;rw[AR];simp_all[Dx]<;>omega)
theorem iN(w:Bs)(hw:w.length≤100000):Aw Tryz.prog 100 [.str w] (λr=>r=.bool (HX w)):=by
 refine Aw.Ai Tryz.func100 rfl Ae (by kernel_rfl) ?_
 conv=>whnf
 repeat(refine sT rfl ?_;conv=>whnf)
 repeat' (first|(refine Ah (λ_=>?_) (λ_=>?_)<;>conv=>whnf)|(refine sT rfl ?_;conv=>whnf))
 ·exact congrArg AV.bool (by rename_i h1 h2;simp at h2;unfold HX;rw[decide_eq_false (show ¬w.length≤20 by omega)];simp)
 ·rename_i h1 h2;have h1:1≤w.length:=by simp at h1;omega
  have h2:w.length≤20:=by simp at h2;omega
  have hf:HX w=w.all Ku:=by unfold HX;simp[h1,h2]
  refine Ac.AJ (λk:Nat=>mk 48 [(0,.str w),(2,.lit false),(3,.int .i64 k)]) (λ_=>[]) (λk=>k≤w.length∧(w.take k).all Ku=true) (λk=>w.length-k) (λ_ _=>⟨rfl,trivial⟩) ⟨0,?_⟩ (λ_=>rfl) λk hk=>?_
  ·conv=>whnf
   repeat(refine Ah ?_ ?_;(focus (first|rfl|(simp;done)));conv=>whnf)
   simp
  ·obtain⟨hk,ha⟩:=hk;repeat(refine sT rfl ?_;conv=>whnf)
   refine⟨λh=>?_,λh=>?_⟩
   ·have h:k<w.length:=by simpa using h
    have Bj:Wr .i64 ((k:Int)+1)=((k+1:Nat):Int):=by rw[AH _ (by omega) (by omega)];rfl
    have vN:w.getD (k:Int).toNat 0=w[k]:=by simp[CM,h]
    have WB:Ku w[k]=(Ew w[k]||Dx w[k]||decide (w[k].toNat=45)||decide (w[k].toNat=39)||decide (w[k].toNat=46)):=rfl
    have ht:=Eu Ku w k h;have OQ:=all_false Ku w k h;conv=>whnf
    repeat(refine sT rfl ?_;conv=>whnf)
    repeat' (first|(refine Ah (λ_=>?_) (λ_=>?_)<;>conv=>whnf)|(refine Ah ⟨by omega,by omega⟩ ?_;(conv=>whnf);first|rw[vN])|(refine cS (Vz w[k]) rfl ?_;conv=>whnf)|(refine cS (Pn w[k]) rfl ?_;conv=>whnf)|(refine sT rfl ?_;conv=>whnf))
    all_goals first
     |(refine congrArg AV.bool ?_
       have hn:Ku w[k]=false:=by rw[WB];clear ha ht OQ hf;simp_all<;>omega
       rw[hf,OQ hn])
     |(have hy:Ku w[k]=true:=by rw[WB];clear ha ht OQ hf;simp_all<;>omega
       refine⟨k+1,?_⟩
       conv=>whnf
       repeat(refine Ah ?_ ?_;(focus (first|rfl|(simp;done)|(first|exact Bj;done)));conv=>whnf)
       exact⟨⟨by omega,by rw[ht,ha,hy];rfl⟩,by omega⟩)
     |trace_state
   ·have h:k=w.length:=by simp at h;omega
    rw[h,Aq]at ha;conv=>whnf
    repeat(refine sT rfl ?_;conv=>whnf)
    exact congrArg AV.bool (by rw[hf,ha])
 ·exact congrArg AV.bool (by rename_i h1;simp at h1;unfold HX;rw[decide_eq_false (show ¬1≤w.length by omega)];simp)
theorem TC(w:Bs)(hw:w.length≤100000):Aw Tryz.prog 101 [.str w] (λr=>r=.bool (iS w)):=by
 refine Aw.Ai Tryz.func101 rfl Ae (by kernel_rfl) ?_
 conv=>whnf
 repeat(refine sT rfl ?_;conv=>whnf)
 refine Ac.AJ (λk:Nat=>mk 28 [(0,.str w),(2,.lit false),(3,.int .i64 k)]) (λ_=>[]) (λk=>k≤w.length∧(w.take k).all M9=true) (λk=>w.length-k) (λ_ _=>⟨rfl,trivial⟩) ⟨0,?_⟩ (λ_=>rfl) λk hk=>?_
 ·conv=>whnf
  repeat(refine Ah ?_ ?_;(focus (first|rfl|(simp;done)));conv=>whnf)
  simp
 ·obtain⟨hk,ha⟩:=hk;repeat(refine sT rfl ?_;conv=>whnf)
  refine⟨λh=>?_,λh=>?_⟩
  ·have h:k<w.length:=by simpa using h
   have Bj:Wr .i64 ((k:Int)+1)=((k+1:Nat):Int):=by rw[AH _ (by omega) (by omega)];rfl
   have vN:w.getD (k:Int).toNat 0=w[k]:=by simp[CM,h]
   have WB:M9 w[k]=(decide (w[k].toNat=57)||decide (w[k].toNat=65)):=rfl
   have ht:=Eu M9 w k h;have OQ:=all_false M9 w k h;conv=>whnf
   repeat(refine sT rfl ?_;conv=>whnf)
   repeat' (first|(refine Ah (λ_=>?_) (λ_=>?_)<;>conv=>whnf)|(refine Ah ⟨by omega,by omega⟩ ?_;(conv=>whnf);first|rw[vN])|(refine sT rfl ?_;conv=>whnf))
   all_goals first
    |(refine congrArg AV.bool ?_
      have hn:M9 w[k]=false:=by rw[WB];clear ha ht OQ;simp_all<;>omega
      unfold iS;rw[OQ hn,BV])
    |(have hy:M9 w[k]=true:=by rw[WB];clear ha ht OQ;simp_all<;>omega
      refine⟨k+1,?_⟩
      conv=>whnf
      repeat(refine Ah ?_ ?_;(focus (first|rfl|(simp;done)|(first|exact Bj;done)));conv=>whnf)
      exact⟨⟨by omega,by rw[ht,ha,hy];rfl⟩,by omega⟩)
    |trace_state
  ·have h:k=w.length:=by simp at h;omega
   rw[h,Aq]at ha;conv=>whnf
   repeat(refine sT rfl ?_;conv=>whnf)
   repeat' (first|(refine Ah (λ_=>?_) (λ_=>?_)<;>conv=>whnf)|(refine sT rfl ?_;conv=>whnf))
   ·rename_i h1;refine congrArg AV.bool ?_;unfold iS;rw[ha,decide_eq_true (p:=1≤w.length) (by simp at h1;omega)]
    rw[AR];simp;omega
   ·rename_i h1;refine congrArg AV.bool ?_;unfold iS;rw[decide_eq_false (p:=1≤w.length) (by simp at h1;omega)]
    simp
def fJ(s:Bs):Bool:=match s with|c::_=>BY c|[]=>false
theorem R2(s:Bs):Hv s=(decide (1≤s.length)&&decide (s.length≤16)&&fJ s&&s.all B2):=rfl
theorem Xk(w:Bs)(hw:w.length≤100000):Aw Tryz.prog 62 [.str w] (λr=>r=.bool (Hv w)):=by
 refine Aw.Ai Tryz.func62 rfl Ae (by kernel_rfl) ?_
 conv=>whnf
 repeat(refine sT rfl ?_;conv=>whnf)
 refine Ac.AJ (λk:Nat=>mk 48 [(0,.str w),(2,.lit false),(3,.int .i64 k)]) (λ_=>[]) (λk=>k≤w.length∧(w.take k).all B2=true∧(1≤k→fJ w=true)) (λk=>w.length-k) (λ_ _=>⟨rfl,trivial⟩) ⟨0,?_⟩ (λ_=>rfl) λk hk=>?_
 ·conv=>whnf
  repeat(refine Ah ?_ ?_;(focus (first|rfl|(simp;done)));conv=>whnf)
  simp
 ·obtain⟨hk,ha,hs⟩:=hk;repeat(refine sT rfl ?_;conv=>whnf)
  refine⟨λh=>?_,λh=>?_⟩
  ·have h:k<w.length:=by simpa using h
   have Bj:Wr .i64 ((k:Int)+1)=((k+1:Nat):Int):=by rw[AH _ (by omega) (by omega)];rfl
   have vN:w.getD (k:Int).toNat 0=w[k]:=by simp[CM,h]
   have WB:B2 w[k]=(BY w[k]||Dx w[k]||decide (w[k].toNat=95)):=rfl
   have pN:BY w[k]=(decide (97≤w[k].toNat)&&decide (w[k].toNat≤122)):=rfl;have hs0:k=0→fJ w=BY w[k]:=λe=>by subst e;cases w with|nil=>simp at h|cons c r=>rfl
   have hh:BY w[k]=true→fJ w=true:=λe=>by
    by_cases h0:k=0;·rw[hs0 h0,e]
    ·exact hs (by omega)
   have ht:=Eu B2 w k h;have OQ:=all_false B2 w k h;conv=>whnf
   repeat(refine sT rfl ?_;conv=>whnf)
   repeat' (first|(refine Ah (λ_=>?_) (λ_=>?_)<;>conv=>whnf)|(refine Ah ⟨by omega,by omega⟩ ?_;(conv=>whnf);first|rw[vN])|(refine cS (Pn w[k]) rfl ?_;conv=>whnf)|(refine sT rfl ?_;conv=>whnf))
   all_goals first
    |(refine congrArg AV.bool ?_
      have hn:(k=0∧BY w[k]=false)∨B2 w[k]=false:=by rw[WB,pN];clear ha hs ht OQ hs0 hh WB pN;simp_all<;>omega
      rw[R2]
      rcases hn with⟨h0,hn⟩|hn
      · rw[hs0 h0,hn,BV,Bool.false_and]
      · rw[OQ hn,BV])
    |(have hy:B2 w[k]=true∧(k=0→BY w[k]=true):=by
         rw[WB,pN];clear ha hs ht OQ hs0 hh WB pN
         first|(simp_all<;>omega;done)|(simp only[decide_eq_true_eq,decide_eq_false_iff_not,Cb,Bool.not_eq_false',Bool.or_eq_true,AO]at *;refine⟨?_,λ_=>?_⟩<;>omega)
      refine⟨k+1,?_⟩
      conv=>whnf
      repeat(refine Ah ?_ ?_;(focus (first|rfl|(simp;done)|(first|exact Bj;done)));conv=>whnf)
      refine⟨⟨by omega,by rw[ht,ha,hy.1];rfl,λ_=>?_⟩,by omega⟩
      by_cases h0:k=0
      · rw[hs0 h0];exact hy.2 h0
      · exact hs (by omega))
    |trace_state
  ·have h:k=w.length:=by simp at h;omega
   rw[h,Aq]at ha;conv=>whnf
   repeat(refine sT rfl ?_;conv=>whnf)
   repeat' (first|(refine Ah (λ_=>?_) (λ_=>?_)<;>conv=>whnf)|(refine sT rfl ?_;conv=>whnf))
   ·rename_i h1;refine congrArg AV.bool ?_;rw[R2,ha,hs (by simp at h1;omega),decide_eq_true (p:=1≤w.length) (by simp at h1;omega)]
    rw[AR];simp;omega
   ·rename_i h1;refine congrArg AV.bool ?_;rw[R2,decide_eq_false (p:=1≤w.length) (by simp at h1;omega)]
    simp
theorem ZO(p:Pt)(ht:p.t.length≤1000):Aw Tryz.prog 63 [p.v] (λr=>r=.bool (D7 p)):=by
 refine Aw.Ai Tryz.func63 rfl Ae (by kernel_rfl) ?_
 conv=>whnf
 repeat(refine sT rfl ?_;conv=>whnf)
 repeat' (first|(refine Ah (λ_=>?_) (λ_=>?_)<;>conv=>whnf)|(refine cS (iN p.t (by omega)) rfl ?_;conv=>whnf)|(refine cS (TC p.t (by omega)) rfl ?_;conv=>whnf)|(refine sT rfl ?_;conv=>whnf))
 all_goals
  refine congrArg AV.bool ?_;unfold D7;try simp only[decide_eq_true_eq,decide_eq_false_iff_not]at *
  try simp only[*,if_true,if_false,reduceIte,or_self,or_false,false_or,true_or,or_true]
  try first|done|(rw[AR];simp_all;done)|(rw[AR];simp_all<;>omega)|trace_state
theorem RF(l:List Pt):∀x∈l.map Pt.v,closed x=true:=by
 intro x hx;obtain⟨y,_,rfl⟩:=Cm.1 hx;rfl
theorem SU:∀(ls:List (List Pt)),(∀l∈ls,l.length≤1000)→∀i,(ls.take i).flatten.length≤1000*i
 |[],_,i=>by simp
 |l::ls,h,0=>by simp
 |l::ls,h,i+1=>by
  have:=SU ls (λx hx=>h x (by simp[hx])) i
  have h1:=h l (by simp)
  rw[List.take_succ_cons,Cf,Bh];omega
theorem OX(ls:List (List Pt))(h:∀l∈ls,l.length≤1000):ls.flatten.length≤1000*ls.length:=by
 have:=SU ls h ls.length;rwa [Aq]at this
theorem JZ(f:Fm)(hl:f.lines.length≤1000)(Y8:∀l∈f.lines,l.length≤1000):Aw Tryz.prog 56 [f.v] (λr=>r=D2 f.lines.flatten):=by
 refine Aw.Ai Tryz.func56 rfl Ae (by kernel_rfl) ?_
 conv=>whnf
 repeat(refine sT rfl ?_;conv=>whnf)
 have hml:(f.lines.map D2).length=f.lines.length:=by simp
 refine Ac.AJ (λi:Nat=>mk 21 [(1,.ptr 0 0),(3,.own 1 2 0 (f.lines.take i).flatten.length),(4,.int .i64 i)]) (λi=>[.cells [.str f.name,.sl 1 (f.lines.map D2)],.arr 124 2 ((f.lines.take i).flatten.map Pt.v)]) (λi=>i≤f.lines.length) (λi=>f.lines.length-i) (λ_ _=>⟨rfl,rfl,RF _,trivial⟩) ⟨0,?_⟩ (λ_=>rfl) λi hi=>?_
 ·conv=>whnf
  repeat(refine Ah ?_ ?_;(focus (first|rfl|(simp;done)));conv=>whnf)
  exact CL _
 ·repeat(refine sT rfl ?_;conv=>whnf)
  refine⟨λh=>?_,λh=>?_⟩
  ·have h:i<f.lines.length:=by have:=of_decide_eq_true h;omega
   have Bj:Wr .i64 ((i:Int)+1)=((i+1:Nat):Int):=by rw[AH _ (by omega) (by omega)];rfl
   have JF:=SU f.lines Y8 (i+1);have WA:(f.lines.take (i+1)).flatten=(f.lines.take i).flatten++f.lines[i]:=by rw[Ao h,List.flatten_append,Cf,List.flatten_nil,List.append_nil]
   rw[WA]at JF;rw[Bh]at JF;conv=>whnf
   repeat(refine sT rfl ?_;conv=>whnf)
   refine⟨by omega,_,GI f i h,?_⟩
   conv=>whnf
   repeat(refine sT rfl ?_;conv=>whnf)
   refine⟨⟨by rw[Bq],by rw[Bh,Bq,Bq];omega⟩,?_⟩
   rw[←List.map_append,←WA];conv=>whnf
   repeat(refine sT rfl ?_;conv=>whnf)
   refine⟨i+1,?_⟩;conv=>whnf
   repeat(refine Ah ?_ ?_;(focus (first|rfl|(simp;done)|(first|exact Bj|exact congrArg (AV.own 1 2 0) (Bq ..);done)));conv=>whnf)
   exact⟨h,by omega⟩
  ·have h:i=f.lines.length:=by have:=of_decide_eq_false h;omega
   rw[h,Aq];conv=>whnf
   repeat(refine sT rfl ?_;conv=>whnf)
   refine⟨⟨by rw[Bq],RF _⟩,?_⟩
   rfl
def Nw(l:List Pt)(k:Int):Nat:=(l.filter λp=>decide (p.k=k)).length
theorem kC(L:List Pt)(k:Int)(i:Nat)(h:i<L.length):Nw (L.take (i+1)) k=Nw (L.take i) k+(if L[i].k=k then 1 else 0):=by
 unfold Nw;rw[Ao h,List.filter_append,Bh];by_cases hk:L[i].k=k;·simp[hk]
 ·simp[hk]
theorem iM(f:Fm)(k:Int)(hl:f.lines.length≤1000)(Y8:∀l∈f.lines,l.length≤1000):Aw Tryz.prog 29 [f.v,.int .i64 k] (λr=>r=.int .i64 (Nw f.lines.flatten k)):=by
 refine Aw.Ai Tryz.func29 rfl Ae (by kernel_rfl) ?_
 conv=>whnf
 repeat(refine sT rfl ?_;conv=>whnf)
 refine cS (JZ f hl Y8) rfl ?_;conv=>whnf
 repeat(refine sT rfl ?_;conv=>whnf)
 have JF:=OX f.lines Y8;have Zds:f.lines.flatten.length≤1000000:=Nat.le_trans JF (Nat.mul_le_mul_left 1000 hl)
 have IJ:∀x∈f.lines.map D2,closed x=true:=λx hx=>by
  obtain⟨y,_,rfl⟩:=Cm.1 hx;rfl
 generalize f.lines.map D2=M at*;generalize f.lines.flatten=L at*;have hmL:(L.map Pt.v).length=L.length:=by simp
 refine Ac.AJ (λi:Nat=>mk 26 [(1,.int .i64 k),(5,.int .i64 (Nw (L.take i) k)),(6,D2 L),(7,.int .i64 i)]) (λi=>[.cells [.str f.name,.sl 1 M]]) (λi=>i≤L.length) (λi=>L.length-i) (λ_ _=>⟨rfl,rfl,trivial⟩) ⟨0,?_⟩ (λ_=>rfl) λi hi=>?_
 ·conv=>whnf
  repeat(refine Ah ?_ ?_;(focus (first|rfl|(simp;done)));conv=>whnf)
  exact CL _
 ·repeat(refine sT rfl ?_;conv=>whnf)
  refine⟨λh=>?_,λh=>?_⟩
  ·have h:i<L.length:=by have:=of_decide_eq_true h;omega
   have Bj:Wr .i64 ((i:Int)+1)=((i+1:Nat):Int):=by rw[AH _ (by omega) (by omega)];rfl
   have hn:=kC L k i h
   have lO:Nw (L.take i) k≤i:=by
    unfold Nw;refine Nat.le_trans (List.length_filter_le _ _) ?_;rw[List.length_take];omega
   have Gf:Wr .i64 (((Nw (L.take i) k:Nat):Int)+1)=((Nw (L.take i) k+1:Nat):Int):=by rw[AH _ (by omega) (by omega)];rfl
   conv=>whnf
   repeat(refine sT rfl ?_;conv=>whnf)
   refine⟨by omega,_,FH L i h,?_⟩
   conv=>whnf
   repeat(refine sT rfl ?_;conv=>whnf)
   repeat' (first|(refine Ah (λ_=>?_) (λ_=>?_)<;>conv=>whnf)|(refine sT rfl ?_;conv=>whnf))
   ·rename_i hk;have hk:L[i].k=k:=by simpa using hk
    rw[if_pos hk]at hn;refine⟨i+1,?_⟩;conv=>whnf
    repeat(refine Ah ?_ ?_;(focus (first|rfl|(simp;done)|(first|exact Bj|(rw[Gf,hn]);done)));conv=>whnf)
    exact⟨h,by omega⟩
   ·rename_i hk;have hk:¬L[i].k=k:=by simpa using hk
    rw[if_neg hk]at hn;refine⟨i+1,?_⟩;conv=>whnf
    repeat(refine Ah ?_ ?_;(focus (first|rfl|(simp;done)|(first|exact Bj|(rw[hn];rfl);done)));conv=>whnf)
    exact⟨h,by omega⟩
  ·have h:i=L.length:=by have:=of_decide_eq_false h;omega
   rw[h,Aq];conv=>whnf
   repeat(refine sT rfl ?_;conv=>whnf)
theorem Ve(L:List Pt)(k:Int)(hk:k≠1):(EB L).count k=Nw L k:=by
 unfold EB Nw;rw[List.count_eq_countP,List.countP_map,List.countP_filter,List.countP_eq_length_filter];congr 1;refine List.filter_congr λp _=>?_
 simp only[Function.comp];by_cases h:p.k=k;·simp[h,hk]
 ·simp[h]
def Jv(L:List Pt)(p:Pt):Bool:=D7 p&&(decide (p.k=1)||decide (Nw L p.k≤1))
theorem jC(L:List Pt):decide (EB L).Nodup=L.all λp=>decide (p.k=1)||decide (Nw L p.k≤1):=by
 rw[AR,decide_eq_true_eq,CA,List.nodup_iff_count];constructor
 ·intro h p hp;by_cases hk:p.k=1;·simp[hk]
  ·have:=h p.k;rw[Ve L p.k hk]at this;simp[this]
 ·intro h k;by_cases hm:k∈EB L
  ·unfold EB at hm;obtain⟨p,hp,rfl⟩:=Cm.1 hm;obtain⟨h1,h2⟩:=List.mem_filter.1 hp;have hk:p.k≠1:=by simpa using h2
   have:=h p h1;rw[Ve L p.k hk];simpa[hk]using this
  ·rw[List.count_eq_zero.2 hm];exact CL _
theorem IS(f:Fm):By f=(Hv f.name&&decide (1≤f.lines.length)&&decide (f.lines.length≤8)&&f.lines.all FW&&f.lines.flatten.all (Jv f.lines.flatten)):=by
 unfold By;rw[jC,Bool.and_assoc _ (f.lines.flatten.all D7)];congr 1;generalize f.lines.flatten=L;generalize hg:(λp:Pt=>decide (p.k=1)||decide (Nw L p.k≤1))=g
 have:Jv L=λp=>D7 p&&g p:=by funext p;unfold Jv;rw[←hg]
 rw[this];clear this hg;induction L with
 |nil=>rfl
 |cons p L ih=>
  rw[Ba,Ba,Ba,←ih];cases D7 p<;>cases g p<;>simp
theorem Xf(f:Fm)(hf:Te f):Aw Tryz.prog 35 [f.v] (λr=>r=.bool (By f)):=by
 refine Aw.Ai Tryz.func35 rfl Ae (by kernel_rfl) ?_
 conv=>whnf
 repeat(refine sT rfl ?_;conv=>whnf)
 repeat' (first|(refine Ah (λ_=>?_) (λ_=>?_)<;>conv=>whnf)|(refine cS (Xk f.name (by have:=hf.n;omega)) rfl ?_;conv=>whnf)|(refine sT rfl ?_;conv=>whnf))
 ·rename_i h0 h1 h2;refine congrArg AV.bool ?_;rw[IS,decide_eq_false (p:=f.lines.length≤8) (by simp at h2;omega)];simp
 rotate_left
 ·rename_i h0 h1;refine congrArg AV.bool ?_;rw[IS,decide_eq_false (p:=1≤f.lines.length) (by simp at h1;omega)];simp
 ·rename_i h0;refine congrArg AV.bool ?_;rw[IS,show Hv f.name=false by simpa using h0];simp
 ·rename_i h0 h1 h2
  have hv:By f=(f.lines.all FW&&f.lines.flatten.all (Jv f.lines.flatten)):=by
   rw[IS,decide_eq_true (p:=f.lines.length≤8) (by simp at h2;omega),decide_eq_true (p:=1≤f.lines.length) (by simp at h1;omega),show Hv f.name=true by simpa using h0];simp
  have hL8:f.lines.length≤8:=by simp at h2;omega
  have bI:(f.lines.map D2).length=f.lines.length:=by simp
  conv=>whnf
  refine Ac.AJ (λi:Nat=>mk 77 [(1,.ptr 0 0),(2,.lit false),(3,.int .i64 i)]) (λi=>[.cells [.str f.name,.sl 1 (f.lines.map D2)]]) (λi=>i≤f.lines.length∧(f.lines.take i).all FW=true) (λi=>f.lines.length-i) (λ_ _=>⟨rfl,rfl,trivial⟩) ⟨0,?_⟩ (λ_=>rfl) λi hi=>?_
  ·conv=>whnf
   repeat(refine Ah ?_ ?_;(focus (first|rfl|(simp;done)));conv=>whnf)
   rfl
  ·obtain⟨hi,ha⟩:=hi;repeat(refine sT rfl ?_;conv=>whnf)
   refine⟨λh=>?_,λh=>?_⟩
   ·have h:i<f.lines.length:=by have:=of_decide_eq_true h;omega
    have Bj:Wr .i64 ((i:Int)+1)=((i+1:Nat):Int):=by rw[AH _ (by omega) (by omega)];rfl
    have Qy:f.lines.take (i+1)=f.lines.take i++[f.lines[i]]:=Ao h
    have Yk:¬FW f.lines[i]=true→By f=false:=λhx=>by
     rw[hv,show f.lines.all FW=false from Bc.2 ⟨f.lines[i],AZ h,by simpa using hx⟩];rfl
    repeat(refine sT rfl ?_;conv=>whnf)
    refine⟨by omega,_,GI f i h,?_⟩
    repeat(refine sT rfl ?_;conv=>whnf)
    refine⟨λg1=>?_,λg1=>?_⟩
    ·conv=>whnf
     refine⟨by omega,_,GI f i h,?_⟩
     repeat(refine sT rfl ?_;conv=>whnf)
     repeat' (first|(refine Ah (λ_=>?_) (λ_=>?_)<;>conv=>whnf)|(refine sT rfl ?_;conv=>whnf))
     ·rename_i g2;exact congrArg AV.bool (Yk (by simp at g2;simp[FW];omega)).symm
     ·rename_i g2;refine⟨i+1,?_⟩;conv=>whnf
      repeat(refine Ah ?_ ?_;(focus (first|rfl|(simp;done)|(first|exact Bj;done)));conv=>whnf)
      refine⟨⟨h,?_⟩,by omega⟩
      rw[Qy,Bu,ha];simp at g1 g2;simp[FW];omega
    ·repeat(refine sT rfl ?_;conv=>whnf)
     repeat' (first|(refine Ah (λ_=>?_) (λ_=>?_)<;>conv=>whnf)|(refine sT rfl ?_;conv=>whnf))
     exact congrArg AV.bool (Yk (by simp at g1;simp[FW];omega)).symm
   ·have h:i=f.lines.length:=by have:=of_decide_eq_false h;omega
    subst h;rw[Aq]at ha;rw[ha,B7]at hv;repeat(refine sT rfl ?_;conv=>whnf)
    refine cS (JZ f hf.l hf.l2) rfl ?_;conv=>whnf
    repeat(refine sT rfl ?_;conv=>whnf)
    have JF:=OX f.lines hf.l2;have Zds:f.lines.flatten.length≤8000:=by omega
    have hpt:∀p∈f.lines.flatten,p.t.length≤1000:=λp hp=>by
     obtain⟨l,hl,hp⟩:=Cu.1 hp;exact hf.t l hl p hp
    have hrh:=λk=>iM f k hf.l hf.l2
    generalize hL:f.lines.flatten=L at*;have hmL:(L.map Pt.v).length=L.length:=by simp
    refine Ac.AJ (λi:Nat=>mk 77 [(1,.ptr 0 0),(4,D2 L),(5,.int .i64 i)]) (λi=>[.cells [.str f.name,.sl 1 (f.lines.map D2)]]) (λi=>i≤L.length∧(L.take i).all (Jv L)=true) (λi=>L.length-i) (λ_ _=>⟨rfl,rfl,trivial⟩) ⟨0,?_⟩ (λ_=>rfl) λi hi=>?_
    ·conv=>whnf
     repeat(refine Ah ?_ ?_;(focus (first|rfl|(simp;done)));conv=>whnf)
     rfl
    ·obtain⟨hi,hb⟩:=hi;repeat(refine sT rfl ?_;conv=>whnf)
     refine⟨λh=>?_,λh=>?_⟩
     ·have h:i<L.length:=by have:=of_decide_eq_true h;omega
      have Bj:Wr .i64 ((i:Int)+1)=((i+1:Nat):Int):=by rw[AH _ (by omega) (by omega)];rfl
      have Qy:L.take (i+1)=L.take i++[L[i]]:=Ao h
      have Yr:¬Jv L L[i]=true→By f=false:=λhx=>by
       rw[hv];exact Bc.2 ⟨L[i],AZ h,by simpa using hx⟩
      have U1:Jv L L[i]=true→(L.take (i+1)).all (Jv L)=true:=λhx=>by
       rw[Qy,Bu,hb];simpa using hx
      conv=>whnf
      repeat(refine sT rfl ?_;conv=>whnf)
      refine Ac.draw [] Ae mO (by kernel_rfl) ?_
      conv=>whnf
      refine⟨by omega,_,FH L i h,?_⟩
      conv=>whnf
      refine⟨_,⟨ZO L[i] (hpt _ (AZ h)),rfl⟩,?_⟩;conv=>whnf
      refine⟨λg1=>?_,λg1=>?_⟩
      ·conv=>whnf
       repeat(refine sT rfl ?_;conv=>whnf)
       refine⟨by omega,_,FH L i h,?_⟩
       conv=>whnf
       refine⟨λg2=>?_,λg2=>?_⟩
       ·conv=>whnf
        repeat(refine sT rfl ?_;conv=>whnf)
        refine⟨by omega,_,FH L i h,?_⟩
        conv=>whnf
        refine⟨_,⟨hrh L[i].k,rfl⟩,?_⟩
        conv=>whnf
        refine⟨λg3=>?_,λg3=>?_⟩
        ·conv=>whnf
         repeat(refine sT rfl ?_;conv=>whnf)
         repeat' (first|(refine Ah (λ_=>?_) (λ_=>?_)<;>conv=>whnf)|(refine sT rfl ?_;conv=>whnf))
         exact congrArg AV.bool (Yr (by have:=of_decide_eq_true g3;unfold Jv;simp at g2;simp[g2];omega)).symm
        ·conv=>whnf
         repeat(refine sT rfl ?_;conv=>whnf)
         repeat' (first|(refine Ah (λ_=>?_) (λ_=>?_)<;>conv=>whnf)|(refine sT rfl ?_;conv=>whnf))
         refine⟨i+1,?_⟩
         conv=>whnf
         repeat(refine Ah ?_ ?_;(focus (first|rfl|(simp;done)|(first|exact Bj;done)));conv=>whnf)
         exact⟨⟨h,U1 (by have:=of_decide_eq_false g3;unfold Jv;rw[g1];simp;omega)⟩,by omega⟩
       ·conv=>whnf
        repeat(refine sT rfl ?_;conv=>whnf)
        repeat' (first|(refine Ah (λ_=>?_) (λ_=>?_)<;>conv=>whnf)|(refine sT rfl ?_;conv=>whnf))
        refine⟨i+1,?_⟩
        conv=>whnf
        repeat(refine Ah ?_ ?_;(focus (first|rfl|(simp;done)|(first|exact Bj;done)));conv=>whnf)
        exact⟨⟨h,U1 (by unfold Jv;rw[g1];simp at g2;simp[g2])⟩,by omega⟩
      ·conv=>whnf
       repeat(refine sT rfl ?_;conv=>whnf)
       repeat' (first|(refine Ah (λ_=>?_) (λ_=>?_)<;>conv=>whnf)|(refine sT rfl ?_;conv=>whnf))
       exact congrArg AV.bool (Yr (by unfold Jv;simp[g1])).symm
     ·have h:i=L.length:=by have:=of_decide_eq_false h;omega
      rw[h,Aq]at hb;conv=>whnf
      repeat(refine sT rfl ?_;conv=>whnf)
      rw[hv,hb]
def ND(f:Fm)(ls:List Bs):Bool:=decide (ls.length≤8)&&decide (f.lines.length≤10)&&decide (f.name.length≤40)&&f.lines.all (λl=>decide (l.length≤10))&&f.lines.flatten.all (λp=>decide (p.t.length≤40))&&ls.all (λl=>decide (l.length≤200))
theorem SY(f:Fm)(ls:List Bs):Aw Tryz.prog 60 [f.v,A3 ls] (λr=>r=.bool (ND f ls)):=by
 refine Aw.Ai Tryz.func60 rfl Ae (by kernel_rfl) ?_
 conv=>whnf
 repeat(refine sT rfl ?_;conv=>whnf)
 have bI:(f.lines.map D2).length=f.lines.length:=by simp
 have bC:(strs ls).length=ls.length:=by simp
 repeat' (first|(refine Ah (λ_=>?_) (λ_=>?_)<;>conv=>whnf)|(refine sT rfl ?_;conv=>whnf))
 ·rename_i h0 h1 h2;exact congrArg AV.bool (by unfold ND;rw[decide_eq_false (p:=f.name.length≤40) (by simp at h2;omega)];simp)
 rotate_left
 ·rename_i h0 h1;exact congrArg AV.bool (by unfold ND;rw[decide_eq_false (p:=f.lines.length≤10) (by simp at h1;omega)];simp)
 ·rename_i h0;exact congrArg AV.bool (by unfold ND;rw[decide_eq_false (p:=ls.length≤8) (by simp at h0;omega)];simp)
 ·rename_i h0 h1 h2
  have hv:ND f ls=(f.lines.all (λl=>decide (l.length≤10))&&f.lines.flatten.all (λp=>decide (p.t.length≤40))&&ls.all (λl=>decide (l.length≤200))):=by
   unfold ND;rw[decide_eq_true (p:=f.name.length≤40) (by simp at h2;omega),decide_eq_true (p:=f.lines.length≤10) (by simp at h1;omega),decide_eq_true (p:=ls.length≤8) (by simp at h0;omega)];simp
  have ZiU:f.lines.length≤10:=by simp at h1;omega
  have hS8:ls.length≤8:=by simp at h0;omega
  conv=>whnf
  refine Ac.AJ (λi:Nat=>mk 65 [(1,A3 ls),(2,.ptr 0 0),(4,.lit false),(5,.int .i64 i)]) (λi=>[.cells [.str f.name,.sl 1 (f.lines.map D2)]]) (λi=>i≤f.lines.length∧(f.lines.take i).all (λl=>decide (l.length≤10))=true) (λi=>f.lines.length-i) (λ_ _=>⟨rfl,rfl,trivial⟩) ⟨0,?_⟩ (λ_=>rfl) λi hi=>?_
  ·conv=>whnf
   repeat(refine Ah ?_ ?_;(focus (first|rfl|(simp;done)));conv=>whnf)
   rfl
  ·obtain⟨hi,ha⟩:=hi;repeat(refine sT rfl ?_;conv=>whnf)
   refine⟨λh=>?_,λh=>?_⟩
   ·have h:i<f.lines.length:=by have:=of_decide_eq_true h;omega
    have Bj:Wr .i64 ((i:Int)+1)=((i+1:Nat):Int):=by rw[AH _ (by omega) (by omega)];rfl
    have Qy:f.lines.take (i+1)=f.lines.take i++[f.lines[i]]:=Ao h;conv=>whnf
    repeat(refine sT rfl ?_;conv=>whnf)
    refine⟨by omega,_,GI f i h,?_⟩
    conv=>whnf
    repeat(refine sT rfl ?_;conv=>whnf)
    repeat' (first|(refine Ah (λ_=>?_) (λ_=>?_)<;>conv=>whnf)|(refine sT rfl ?_;conv=>whnf))
    ·rename_i g;rw[hv,Bc.2 ⟨f.lines[i],AZ h,by simp at g;simp;omega⟩]
     rfl
    ·rename_i g;refine⟨i+1,?_⟩;conv=>whnf
     repeat(refine Ah ?_ ?_;(focus (first|rfl|(simp;done)|(first|exact Bj;done)));conv=>whnf)
     refine⟨⟨h,?_⟩,by omega⟩
     rw[Qy,Bu,ha];simp at g;simp;omega
   ·have h:i=f.lines.length:=by have:=of_decide_eq_false h;omega
    subst h;rw[Aq]at ha;rw[ha,B7]at hv;have Y8:∀l∈f.lines,l.length≤1000:=λl hl=>by have:=CA.1 ha l hl;simp at this;omega
    repeat(refine sT rfl ?_;conv=>whnf)
    refine cS (JZ f (by omega) Y8) rfl ?_;conv=>whnf
    repeat(refine sT rfl ?_;conv=>whnf)
    have JF:=OX f.lines Y8;have Zds:f.lines.flatten.length≤10000:=by omega
    generalize hL:f.lines.flatten=L at*;have hmL:(L.map Pt.v).length=L.length:=by simp
    refine Ac.AJ (λi:Nat=>mk 65 [(1,A3 ls),(4,.lit false),(6,D2 L),(7,.int .i64 i)]) (λi=>[.cells [.str f.name,.sl 1 (f.lines.map D2)]]) (λi=>i≤L.length∧(L.take i).all (λp=>decide (p.t.length≤40))=true) (λi=>L.length-i) (λ_ _=>⟨rfl,rfl,trivial⟩) ⟨0,?_⟩ (λ_=>rfl) λi hi=>?_
    ·conv=>whnf
     repeat(refine Ah ?_ ?_;(focus (first|rfl|(simp;done)));conv=>whnf)
     rfl
    ·obtain⟨hi,hb⟩:=hi;repeat(refine sT rfl ?_;conv=>whnf)
     refine⟨λh=>?_,λh=>?_⟩
     ·have h:i<L.length:=by have:=of_decide_eq_true h;omega
      have Bj:Wr .i64 ((i:Int)+1)=((i+1:Nat):Int):=by rw[AH _ (by omega) (by omega)];rfl
      have Qy:L.take (i+1)=L.take i++[L[i]]:=Ao h;conv=>whnf
      repeat(refine sT rfl ?_;conv=>whnf)
      refine⟨by omega,_,FH L i h,?_⟩
      conv=>whnf
      repeat(refine sT rfl ?_;conv=>whnf)
      repeat' (first|(refine Ah (λ_=>?_) (λ_=>?_)<;>conv=>whnf)|(refine sT rfl ?_;conv=>whnf))
      ·rename_i g
       rw[hv,Bc.2 ⟨L[i],AZ h,by simp at g;simp;omega⟩]
       rfl
      ·rename_i g
       refine⟨i+1,?_⟩
       conv=>whnf
       repeat(refine Ah ?_ ?_;(focus (first|rfl|(simp;done)|(first|exact Bj;done)));conv=>whnf)
       refine⟨⟨h,?_⟩,by omega⟩
       rw[Qy,Bu,hb]
       simp at g
       simp
       omega
     ·have h:i=L.length:=by have:=of_decide_eq_false h;omega
      rw[h,Aq]at hb;rw[hb,B7]at hv;repeat(refine sT rfl ?_;conv=>whnf)
      refine Ac.AJ (λi:Nat=>mk 65 [(1,A3 ls),(4,.lit false),(8,.int .i64 i)]) (λi=>[.cells [.str f.name,.sl 1 (f.lines.map D2)]]) (λi=>i≤ls.length∧(ls.take i).all (λl=>decide (l.length≤200))=true) (λi=>ls.length-i) (λ_ _=>⟨rfl,rfl,trivial⟩) ⟨0,?_⟩ (λ_=>rfl) λi hi=>?_
      ·conv=>whnf
       repeat(refine Ah ?_ ?_;(focus (first|rfl|(simp;done)));conv=>whnf)
       rfl
      ·obtain⟨hi,hb⟩:=hi
       repeat(refine sT rfl ?_;conv=>whnf)
       refine⟨λh=>?_,λh=>?_⟩
       ·have h:i<ls.length:=by have:=of_decide_eq_true h;omega
        have Bj:Wr .i64 ((i:Int)+1)=((i+1:Nat):Int):=by rw[AH _ (by omega) (by omega)];rfl
        have Qy:ls.take (i+1)=ls.take i++[ls[i]]:=Ao h
        conv=>whnf
        repeat(refine sT rfl ?_;conv=>whnf)
        refine⟨by omega,_,ER ls i h,?_⟩
        conv=>whnf
        repeat(refine sT rfl ?_;conv=>whnf)
        repeat' (first|(refine Ah (λ_=>?_) (λ_=>?_)<;>conv=>whnf)|(refine sT rfl ?_;conv=>whnf))
        ·rename_i g
         rw[hv,Bc.2 ⟨ls[i],AZ h,by simp at g;simp;omega⟩]
        ·rename_i g
         refine⟨i+1,?_⟩
         conv=>whnf
         repeat(refine Ah ?_ ?_;(focus (first|rfl|(simp;done)|(first|exact Bj;done)));conv=>whnf)
         refine⟨⟨h,?_⟩,by omega⟩
         rw[Qy,Bu,hb]
         simp at g
         simp
         omega
       ·have h:i=ls.length:=by have:=of_decide_eq_false h;omega
        rw[h,Aq]at hb
        conv=>whnf
        repeat(refine sT rfl ?_;conv=>whnf)
        rw[hv,hb]
end Go.Proofs.YtdadkhcdoaeabaaGreatDoor.Ff