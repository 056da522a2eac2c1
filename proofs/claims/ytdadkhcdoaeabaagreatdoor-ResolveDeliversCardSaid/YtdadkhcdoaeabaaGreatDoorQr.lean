/- Bytes. -/
import Derived.Test.YtdadkhcdoaeabaaGreatDoorQx
import Derived.Test.YtdadkhcdoaeabaaGreatDoorQp
import Derived.Test.YtdadkhcdoaeabaaGreatDoorKg2
import Derived.Test.YtdadkhcdoaeabaaGreatDoorQs
set_option linter.unusedVariables false
set_option maxRecDepth 100000
open And renaming intro → Ao
open List renaming getElem?_eq_getElem → Aq, getElem_mem → AO, take_succ_eq_append_getElem → Ba, drop_eq_getElem_cons → Bh, getElem?_eq_some_iff → Bq, replicate → Bu, getElem?_eq_none → BC, take_length → BD, mem_map → BV, mem_append → B7, mem_singleton → Cb, findIdx?_eq_some_iff_getElem → Cf, takeWhile_append_of_pos → Cu, takeWhile_cons → CM, getElem_of_mem → CW, map_set → C0, mem_or_eq_of_mem_set → C1, getElem?_set_self → C3, length_map → C4, count_le_length → Ds, mem_of_getElem? → DC, mem_cons → D0, all_eq_false → Ec, range → Ed, any_eq_true → EM, getElem_map → EN, drop_length → EX, all_append → EY, any_append → E0, map_append → E1, map_take → E9
open Bool renaming and_eq_true → AZ, eq_iff_iff → Bv, not_eq_true' → Eh, not_eq_false → Ei
open Prod renaming fst → Bc
open Nat renaming le_succ → BJ, zero_add → Cm, le_refl → CA, lt_or_ge → CX, le_succ_of_le → Ef, zero_le → E2
open Option renaming some → CL
open Int renaming toNat_natCast → C2, toNat → E4
open Go.IntKind renaming signed → DG, bits → Ep, min → Ff, max → Fv, i64 → Fw
namespace Go.Proofs.YtdadkhcdoaeabaaGreatDoor.Rr
open Go.Av Go.Shelf Pl Go.RowKit
theorem EW(b:UInt8):Aw Tryz.prog 192 [.int .u8 b.toNat] (λr=>r=.bool (BY b)):=by
 refine Aw.Ai Tryz.func192 rfl Ae (by kernel_rfl) ?_
 conv=>whnf
 refine BR Ae _ ?_;conv=>whnf
 repeat' (refine Ao (λ_=>?_) (λ_=>?_)<;>conv=>whnf)
 all_goals (refine congrArg AV.bool ?_;rw[Bv];simp_all[BY]<;>omega)
theorem Ha(b:UInt8):Aw Tryz.prog 189 [.int .u8 b.toNat] (λr=>r=.bool (Gg b)):=by
 refine Aw.Ai Tryz.func189 rfl Ae (by kernel_rfl) ?_
 conv=>whnf
 refine BR Ae _ ?_;conv=>whnf
 repeat' (refine Ao (λ_=>?_) (λ_=>?_)<;>conv=>whnf)
 all_goals (refine congrArg AV.bool ?_;rw[Bv];simp_all[Gg]<;>omega)
theorem Dl(b:UInt8):Aw Tryz.prog 191 [.int .u8 b.toNat] (λr=>r=.bool (Dx b)):=by
 refine Aw.Ai Tryz.func191 rfl Ae (by kernel_rfl) ?_
 conv=>whnf
 refine BR Ae _ ?_;conv=>whnf
 repeat' (refine Ao (λ_=>?_) (λ_=>?_)<;>conv=>whnf)
 all_goals (refine congrArg AV.bool ?_;rw[Bv];simp_all[Dx]<;>omega)
theorem FJ(n:Int):Aw Tryz.prog 144 [.int .i64 n] (λr=>r=.bool (G7 n)):=by
 refine Aw.Ai Tryz.func144 rfl Ae (by kernel_rfl) ?_
 conv=>whnf
 refine BR Ae _ ?_;conv=>whnf
 repeat' (refine Ao (λ_=>?_) (λ_=>?_)<;>conv=>whnf)
 all_goals (refine congrArg AV.bool ?_;rw[Bv];simp_all[G7]<;>omega)
theorem aZ(n:Int):Aw Tryz.prog 114 [.int .i64 n] (λr=>r=.bool (F2 n)):=by
 refine Aw.Ai Tryz.func114 rfl Ae (by kernel_rfl) ?_
 conv=>whnf
 refine BR Ae _ ?_;conv=>whnf
 repeat' (refine Ao (λ_=>?_) (λ_=>?_)<;>conv=>whnf)
 all_goals (refine congrArg AV.bool ?_;rw[Bv];simp_all[F2]<;>omega)
abbrev H3(w:Bs):List AV:=w.map λb=>AV.int .u8 b.toNat
theorem EJ(w:Bs)(k:Nat)(h:k<w.length):(H3 w)[k]?=some (.int .u8 w[k].toNat):=by simp[h]
theorem CH(l:List Bs):(strs l).length=l.length:=by simp
theorem ER(l:List Bs)(k:Nat)(h:k<l.length):(strs l)[k]?=some (.str l[k]):=by simp[h]
theorem Eu(p:UInt8→Bool)(w:Bs)(k:Nat)(h:k<w.length):(w.take (k+1)).all p=((w.take k).all p&&p w[k]):=by
 rw[Ba h,EY];simp
theorem all_false(p:UInt8→Bool)(w:Bs)(k:Nat)(h:k<w.length)(hp:p w[k]=false):w.all p=false:=Ec.2 ⟨w[k],AO h,by simp[hp]⟩
theorem X1(w:Bs):Aw Tryz.prog 148 [.str w] (λr=>r=.bool (NK w)):=by
 refine Aw.Ai Tryz.func148 rfl Ae (by kernel_rfl) ?_
 conv=>whnf
 repeat(refine sT rfl ?_;conv=>whnf)
 repeat' (first|(refine Ao (λ_=>?_) (λ_=>?_)<;>conv=>whnf)|(refine sT rfl ?_;conv=>whnf))
 ·exact congrArg AV.bool (by rename_i h1 h2;simp at h2;unfold NK;rw[decide_eq_false (show ¬w.length≤8 by omega)];simp)
 ·rename_i h1 h2;have h1:1≤w.length:=by simp at h1;omega
  have h2:w.length≤8:=by simp at h2;omega
  have hf:NK w=w.all F3:=by unfold NK;simp[h1,h2]
  refine Ac.AJ (λk:Nat=>mk 29 [(0,.str w),(2,.lit false),(14,.sl 1 (H3 w)),(15,.int .i64 w.length),(16,.int .i64 k)]) (λ_=>[]) (λk=>k≤w.length∧(w.take k).all F3=true) (λk=>w.length-k) (λ_ _=>⟨rfl,trivial⟩) ⟨0,?_⟩ (λ_=>rfl) λk hk=>?_
  ·conv=>whnf
   repeat(refine Ao ?_ ?_;(focus (first|rfl|(simp;done)));conv=>whnf)
   simp
  ·obtain⟨hk,ha⟩:=hk;repeat(refine sT rfl ?_;conv=>whnf)
   refine⟨λh=>?_,λh=>?_⟩
   ·have h:k<w.length:=by simpa using h
    have Bj:Wr .i64 ((k:Int)+1)=((k+1:Nat):Int):=by rw[AH _ (by omega) (by omega)];rfl
    have ht:=Eu F3 w k h;have OQ:=all_false F3 w k h;conv=>whnf
    repeat(refine sT rfl ?_;conv=>whnf)
    refine⟨by omega,_,EJ w k h,?_⟩
    conv=>whnf
    repeat(refine sT rfl ?_;conv=>whnf)
    repeat' (first|(refine Ao (λ_=>?_) (λ_=>?_)<;>conv=>whnf)|(refine cS (Ha w[k]) rfl ?_;conv=>whnf)|(refine cS (Dl w[k]) rfl ?_;conv=>whnf)|(refine sT rfl ?_;conv=>whnf))
    all_goals first
     |(refine congrArg AV.bool ?_
       have hn:F3 w[k]=false:=by unfold F3;simp_all
       rw[hf,OQ hn])
     |(have hy:F3 w[k]=true:=by unfold F3;simp_all
       refine⟨k+1,?_⟩
       conv=>whnf
       repeat(refine Ao ?_ ?_;(focus (first|rfl|(simp;done)|(first|exact Bj;done)));conv=>whnf)
       exact⟨⟨by omega,by rw[ht,ha,hy];rfl⟩,by omega⟩)
   ·have h:k=w.length:=by simp at h;omega
    rw[h,BD]at ha;conv=>whnf
    repeat(refine sT rfl ?_;conv=>whnf)
    exact congrArg AV.bool (by rw[hf,ha])
 ·exact congrArg AV.bool (by rename_i h1;simp at h1;unfold NK;rw[decide_eq_false (show ¬1≤w.length by omega)];simp)
theorem cQ(s:Bs):Aw Tryz.prog 209 [.str s,.str [32]] (λr=>r=.int .i64 (Lib.countByte s 32)):=by
 refine⟨by kernel_rfl,λC w vs AR hr=>?_⟩
 unfold Aa at hr;obtain⟨v1,_,rfl,h2,hr⟩:=hr;unfold Aa at hr;obtain⟨v2,_,rfl,h3,hr⟩:=hr;unfold Aa at hr;subst hr;unfold Aj at h2 h3;obtain⟨rfl,hs⟩:=h2;obtain⟨rfl,_⟩:=h3;refine(Tryz.strings_Count_one ⟨s.toArray⟩ 32 w).mono λe w' ⟨h3,h4⟩=>?_
 subst h4;have hc:Lib.countByte s 32≤s.length:=Ds;exact⟨_,_,h3,rfl,Below.refl _ _,by unfold Aj;exact⟨rfl,by constructor<;>simp[Ff,Fv,Ep,DG]<;>omega⟩⟩
theorem index_spec(s:Bs):Aw Tryz.prog 210 [.str s,.str [32]] (λr=>r=.int .i64 (Lib.indexByte s 32)):=by
 refine⟨by kernel_rfl,λC w vs AR hr=>?_⟩
 unfold Aa at hr;obtain⟨v1,_,rfl,h2,hr⟩:=hr;unfold Aa at hr;obtain⟨v2,_,rfl,h3,hr⟩:=hr;unfold Aa at hr;subst hr;unfold Aj at h2 h3;obtain⟨rfl,hs⟩:=h2;obtain⟨rfl,_⟩:=h3;refine(Tryz.strings_Index_one ⟨s.toArray⟩ 32 w).mono λe w' ⟨h3,h4⟩=>?_
 subst h4;have hc:-1≤Lib.indexByte s 32:=Lib.indexByte_ge s 32
 have hd:Lib.indexByte s 32≤s.length:=by
  by_cases h:Lib.indexByte s 32=-1;·omega
  ·obtain⟨o,ho⟩:∃o:Nat,Lib.indexByte s 32=o:=⟨(Lib.indexByte s 32).toNat,by omega⟩
   have:=(Bq.1 (Lib.indexByte_some ho).1).1;omega
 exact⟨_,_,h3,rfl,Below.refl _ _,by unfold Aj;exact⟨rfl,by constructor<;>simp[Ff,Fv,Ep,DG]<;>omega⟩⟩
theorem dD(d:List Bs)(n:Nat):∀a∈strs d++Bu n (AV.str []),closed a=true:=by
 intro a ha;rcases B7.1 ha with ha|ha;·obtain⟨x,_,rfl⟩:=BV.1 ha;rfl
 ·rw[List.eq_of_mem_replicate ha];rfl
theorem gG(d:List Bs)(N:Nat)(h:d.length<N):(strs d++Bu (N-d.length) (AV.str []))[0+((d.length:Nat):Int).toNat]?=some (AV.str []):=by
 obtain⟨k,hk⟩:∃k,N-d.length=k+1:=⟨N-d.length-1,by omega⟩
 rw[Cm,C2,List.getElem?_append_right (by simp[strs]),hk]
 simp[strs]
theorem gF(d:List Bs)(N:Nat)(t:Bs)(h:d.length<N):(strs d++Bu (N-d.length) (AV.str [])).set (0+((d.length:Nat):Int).toNat) (.str t)=strs (d++[t])++Bu (N-(d++[t]).length) (AV.str []):=by
 obtain⟨k,hk⟩:∃k,N-d.length=k+1:=⟨N-d.length-1,by omega⟩
 have sQ:N-(d++[t]).length=k:=by simp;omega
 rw[Cm,C2,List.set_append_right (h:=by simp[strs]),hk,sQ]
 simp[strs,List.replicate_succ]
theorem TU(s:Bs)(hs:s.length≤100000):Aw Tryz.prog 171 [.str s,.str [32],.int .i64 0,.int .i64 (-1)] (λr=>r=.sl 1 (strs (splitB s))):=by
 refine Aw.Ai Tryz.func171 rfl Ae (by kernel_rfl) ?_
 conv=>whnf
 repeat(refine sT rfl ?_;conv=>whnf)
 refine⟨λh=>absurd h (by decide),λ_=>?_⟩
 conv=>whnf
 repeat(refine sT rfl ?_;conv=>whnf)
 refine⟨λh=>absurd h (by decide),λ_=>?_⟩
 conv=>whnf
 repeat(refine sT rfl ?_;conv=>whnf)
 refine⟨λ_=>?_,λh=>absurd h (by decide)⟩
 conv=>whnf
 repeat(refine sT rfl ?_;conv=>whnf)
 refine cS (cQ s) rfl ?_;conv=>whnf
 repeat(refine sT rfl ?_;conv=>whnf)
 have hc:Lib.countByte s 32≤s.length:=Ds;have hn:(splitB s).length=Lib.countByte s 32+1:=LX s
 have hm:min (Wr Fw ((Lib.countByte s 32:Nat)+1)) (Wr Fw ((s.length:Nat)+1))=(((splitB s).length:Nat):Int):=by
  rw[AH _ (by omega) (by omega),AH _ (by omega) (by omega)];omega
 rw[hm,C2];refine⟨by omega,?_⟩
 conv=>whnf
 repeat(refine sT rfl ?_;conv=>whnf)
 generalize hN:(splitB s).length=N at*;have hN1:1≤N:=by omega
 refine Ac.AJ (λd:List Bs×Bs=>mk 66 [(0,.str d.2),(1,.str [32]),(2,.int .i64 0),(3,.int .i64 ((N:Int)-1)),(8,.raw (Value.slice none 0 0)),(9,.own 0 1 0 N),(10,.int .i64 d.1.length)]) (λd=>[.arr 9 1 (strs d.1++Bu (N-d.1.length) (AV.str []))])
  (λd=>splitB s=d.1++splitB d.2∧d.2.length≤s.length) (λd=>N-d.1.length) (λ_ _=>⟨rfl,dD _ _,trivial⟩) ⟨([],s),?_⟩ (λ_=>rfl) λ⟨d,t⟩ hd=>?_
 ·conv=>whnf
  repeat(refine Ao ?_ ?_;(focus (first|rfl|(simp;done)|(first|(rw[AH _ (by omega) (by omega)];done)|(simp[strs];done);done)));conv=>whnf)
  exact CA _
 ·obtain⟨hd,ht⟩:=hd;simp only at hd ht;have QA:d.length+(splitB t).length=N:=by rw[←hN,hd];simp
  have htp:=Ri t;repeat(refine sT rfl ?_;conv=>whnf)
  refine⟨λh=>?_,λh=>?_⟩
  ·have h:d.length<N-1:=by simp at h;omega
   conv=>whnf
   repeat(refine sT rfl ?_;conv=>whnf)
   refine cS (index_spec t) rfl ?_;conv=>whnf
   repeat(refine sT rfl ?_;conv=>whnf)
   refine⟨λh2=>?_,λh2=>?_⟩
   ·exfalso;have h2:Lib.indexByte t 32=-1:=by have:=Lib.indexByte_ge t 32;simp at h2;omega
    have:=Pf (Lib.indexByte_none h2);rw[this]at QA;simp at QA;omega
   ·obtain⟨m,hm2⟩:∃m:Nat,Lib.indexByte t 32=m:=⟨(Lib.indexByte t 32).toNat,by simp at h2;omega⟩
    rw[hm2];obtain⟨i1,i2⟩:=Lib.indexByte_some hm2;have hml:m<t.length:=(Bq.1 i1).1;have hmm:(m:Int)+0=m:=by omega
    conv=>whnf
    repeat(refine sT rfl ?_;conv=>whnf)
    rw[hmm,AH _ (by omega) (by omega)]
    refine⟨by simp only;omega,?_⟩
    conv=>whnf
    repeat(refine sT rfl ?_;conv=>whnf)
    refine⟨by simp only;omega,?_⟩
    conv=>whnf
    repeat(refine sT rfl ?_;conv=>whnf)
    refine⟨_,gG d N (by omega),?_⟩
    conv=>whnf
    repeat(refine sT rfl ?_;conv=>whnf)
    have kH:(m:Int)+((([32]:List UInt8).length:Nat):Int)=((m+1:Nat):Int):=rfl;rw[kH,AH _ (by omega) (by omega)]
    refine⟨by simp only;omega,?_⟩
    conv=>whnf
    repeat(refine sT rfl ?_;conv=>whnf)
    refine⟨(d++[t.take m],t.drop (m+1)),?_⟩;have lL:=gY i1 i2;conv=>whnf
    repeat(refine Ao ?_ ?_;(focus (first|rfl|(simp;done)|(first|(rw[AH _ (by simp only;omega) (by simp only;omega)];simp;done)|(simp;omega);done)));conv=>whnf)
    refine⟨congrArg (HO.arr _ 1) (gF d N (t.take m) (by omega)),⟨?_,by simp;omega⟩,by simp;omega⟩
    rw[hd,lL];simp
  ·have h:d.length=N-1:=by simp at h;omega
   have h1:(splitB t).length=1:=by omega
   have ht1:splitB t=[t]:=by
    refine Pf λk hk=>?_
    have h2:=LX t;have h3:0<List.count 32 t:=List.count_pos_iff.2 (DC hk);omega
   conv=>whnf
   repeat(refine sT rfl ?_;conv=>whnf)
   refine⟨by simp only;omega,?_⟩
   conv=>whnf
   repeat(refine sT rfl ?_;conv=>whnf)
   refine⟨_,gG d N (by omega),?_⟩
   conv=>whnf
   repeat(refine sT rfl ?_;conv=>whnf)
   rw[AH _ (by simp only;omega) (by simp only;omega)]
   refine⟨by simp only;omega,?_⟩
   conv=>whnf
   repeat(refine sT rfl ?_;conv=>whnf)
   have e:(strs d++Bu (N-d.length) (AV.str [])).set (0+((d.length:Nat):Int).toNat) (.str t)=strs (splitB s):=by
    have h2:N-(d++[t]).length=0:=by simp;omega
    rw[gF d N t (by omega),h2,hd,ht1]
    simp
   refine⟨⟨?_,?_⟩,?_⟩
   ·show _=((strs d++Bu (N-d.length) (AV.str [])).set (0+((d.length:Nat):Int).toNat) (.str t)).length
    rw[e,CH,hN];simp only;omega
   ·show ∀a∈(strs d++Bu (N-d.length) (AV.str [])).set (0+((d.length:Nat):Int).toNat) (.str t),closed a=true
    rw[e];intro a ha;obtain⟨x,_,rfl⟩:=BV.1 ha;rfl
   ·exact congrArg (AV.sl 1) e
theorem ZA(s:Bs)(hs:s.length≤100000):Aw Tryz.prog 129 [.str s,.str [32]] (λr=>r=.sl 1 (strs (splitB s))):=by
 refine Aw.Ai Tryz.func129 rfl Ae (by kernel_rfl) ?_
 conv=>whnf
 repeat(refine sT rfl ?_;conv=>whnf)
 repeat(first|(refine cS (TU s hs) rfl ?_;conv=>whnf)|(refine sT rfl ?_;conv=>whnf))
theorem FM(l:List Bs):∀x∈strs l,closed x=true:=by
 intro x hx;obtain⟨y,_,rfl⟩:=BV.1 hx;rfl
theorem Hy(s:Bs):Aw Tryz.prog 149 [.str s] (λr=>r=.bool (G8 s)):=by
 refine Aw.Ai Tryz.func149 rfl Ae (by kernel_rfl) ?_
 conv=>whnf
 repeat(refine sT rfl ?_;conv=>whnf)
 refine⟨λh1=>?_,λh1=>?_⟩
 ·conv=>whnf
  repeat(refine sT rfl ?_;conv=>whnf)
  exact congrArg AV.bool (by unfold G8;rw[decide_eq_false (p:=s.length≤84) (by simp at h1;omega)];rfl)
 ·have h1:s.length≤84:=by simp at h1;omega
  conv=>whnf
  repeat(refine sT rfl ?_;conv=>whnf)
  refine cS (ZA s (by omega)) rfl ?_;conv=>whnf
  repeat(refine sT rfl ?_;conv=>whnf)
  refine⟨λh2=>?_,λh2=>?_⟩
  ·conv=>whnf
   repeat(refine sT rfl ?_;conv=>whnf)
   exact congrArg AV.bool (by unfold G8;rw[decide_eq_false (p:=(splitB s).length≤4) (by simp at h2;omega)];simp)
  ·have h2:(splitB s).length≤4:=by simp at h2;omega
   have hb:G8 s=(splitB s).all Hq:=by unfold G8;rw[decide_eq_true h1,decide_eq_true h2];rfl
   generalize splitB s=L at*;conv=>whnf
   repeat(refine sT rfl ?_;conv=>whnf)
   refine Ac.AJ (λk:Nat=>mk 60 [(2,.lit false),(16,.sl 1 (strs L)),(17,.int .i64 L.length),(18,.int .i64 k)]) (λ_=>[]) (λk=>k≤L.length∧(L.take k).all Hq=true) (λk=>L.length-k) (λ_ _=>⟨rfl,trivial⟩) ⟨0,?_⟩ (λ_=>rfl) λk hk=>?_
   ·conv=>whnf
    repeat(refine Ao ?_ ?_;(focus (first|rfl|(simp;done)));conv=>whnf)
    simp
   ·obtain⟨hk,ha⟩:=hk;repeat(refine sT rfl ?_;conv=>whnf)
    refine⟨λh=>?_,λh=>?_⟩
    ·have h:k<L.length:=by simpa using h
     have Bj:Wr .i64 ((k:Int)+1)=((k+1:Nat):Int):=by rw[AH _ (by omega) (by omega)];rfl
     have D6:=ER L k h;have Qy:L.take (k+1)=L.take k++[L[k]]:=Ba h
     have Mz:Hq L[k]=false→AV.bool false=.bool (G8 s):=λhx=>by
      rw[hb,Ec.2 ⟨L[k],AO h,by simp[hx]⟩]
     have hgo:Hq L[k]=true→(L.take (k+1)).all Hq=true:=λhx=>by
      rw[Qy,EY,ha];simpa using hx
     generalize L[k]=w at*;conv=>whnf
     repeat(refine sT rfl ?_;conv=>whnf)
     refine⟨by omega,_,D6,?_⟩
     conv=>whnf
     repeat(refine sT rfl ?_;conv=>whnf)
     repeat' (first|(refine Ao (λ_=>?_) (λ_=>?_)<;>conv=>whnf)|(refine sT rfl ?_;conv=>whnf))
     ·rename_i q1 q2;exact Mz (by unfold Hq;rw[decide_eq_false (p:=w.length≤20) (by simp at q2;omega)];simp)
     ·rename_i q1 q2;have q1:1≤w.length:=by simp at q1;omega
      have q2:w.length≤20:=by simp at q2;omega
      have hf:Hq w=w.all B2:=by unfold Hq;simp[q1,q2]
      refine Ac.AJ (λj:Nat=>mk 60 [(2,.lit false),(16,.sl 1 (strs L)),(17,.int .i64 L.length),(18,.int .i64 k),(31,.sl 1 (H3 w)),(32,.int .i64 w.length),(33,.int .i64 j)]) (λ_=>[]) (λj=>j≤w.length∧(w.take j).all B2=true) (λj=>w.length-j) (λ_ _=>⟨rfl,trivial⟩) ⟨0,?_⟩ (λ_=>rfl) λj hj=>?_
      ·conv=>whnf
       repeat(refine Ao ?_ ?_;(focus (first|rfl|(simp;done)));conv=>whnf)
       simp
      ·obtain⟨hj,GA⟩:=hj
       repeat(refine sT rfl ?_;conv=>whnf)
       refine⟨λg=>?_,λg=>?_⟩
       ·have g:j<w.length:=by simpa using g
        have Gf:Wr .i64 ((j:Int)+1)=((j+1:Nat):Int):=by rw[AH _ (by omega) (by omega)];rfl
        have ht:=Eu B2 w j g
        have OQ:=all_false B2 w j g
        conv=>whnf
        repeat(refine sT rfl ?_;conv=>whnf)
        refine⟨by omega,_,EJ w j g,?_⟩
        conv=>whnf
        repeat(refine sT rfl ?_;conv=>whnf)
        repeat' (first|(refine Ao (λ_=>?_) (λ_=>?_)<;>conv=>whnf)|(refine cS (Ha w[j]) rfl ?_;conv=>whnf)|(refine cS (EW w[j]) rfl ?_;conv=>whnf)|(refine cS (Dl w[j]) rfl ?_;conv=>whnf)|(refine sT rfl ?_;conv=>whnf))
        all_goals first
         |(refine Mz ?_
           have hn:B2 w[j]=false:=by unfold B2;simp_all<;>omega
           rw[hf,OQ hn])
         |(have hy:B2 w[j]=true:=by unfold B2;simp_all<;>omega
           refine⟨j+1,?_⟩
           conv=>whnf
           repeat(refine Ao ?_ ?_;(focus (first|rfl|(simp;done)|(first|exact Gf;done)));conv=>whnf)
           exact⟨⟨by omega,by rw[ht,GA,hy];rfl⟩,by omega⟩)
       ·have g:j=w.length:=by simp at g;omega
        rw[g,BD]at GA
        conv=>whnf
        repeat(refine sT rfl ?_;conv=>whnf)
        refine⟨k+1,?_⟩
        conv=>whnf
        repeat(refine Ao ?_ ?_;(focus (first|rfl|(simp;done)|(first|exact Bj;done)));conv=>whnf)
        exact⟨⟨by omega,hgo (by rw[hf,GA])⟩,by omega⟩
     ·rename_i q1;exact Mz (by unfold Hq;rw[decide_eq_false (p:=1≤w.length) (by simp at q1;omega)];simp)
    ·have h:k=L.length:=by simp at h;omega
     rw[h,BD]at ha;conv=>whnf
     repeat(refine sT rfl ?_;conv=>whnf)
     exact congrArg AV.bool (by rw[hb,ha])
theorem Du(b:UInt8):Aw Tryz.prog 188 [.int .u8 b.toNat] (λr=>r=.int .u8 (CY b).toNat):=by
 refine Aw.Ai Tryz.func188 rfl Ae (by kernel_rfl) ?_
 conv=>whnf
 repeat(refine sT rfl ?_;conv=>whnf)
 repeat' (first|(refine Ao (λ_=>?_) (λ_=>?_)<;>conv=>whnf)|(refine cS (Ha b) rfl ?_;conv=>whnf)|(refine sT rfl ?_;conv=>whnf))
 ·rename_i h;have h2:65≤b.toNat∧b.toNat≤90:=by simpa[Gg]using h
  refine congrArg (AV.int IntKind.u8) ?_;unfold CY;rw[if_pos h,UInt8.toNat_add];have e1:Wr .u8 ((b.toNat:Int)-65)=(b.toNat:Int)-65:=rW _ (by omega) (by omega)
  rw[e1,rW _ (by omega) (by omega)]
  have:(32:UInt8).toNat=32:=rfl;omega
 ·rename_i h;unfold CY;rw[if_neg (by simp[h])]
theorem eR{a b:Bs}(hl:a.length=b.length):gA a b=true↔∀(i:Nat)(h:i<a.length),CY a[i]=CY (b[i]'(by omega)):=by
 unfold gA;rw[decide_eq_true_eq];constructor
 ·intro h i hi;have:=congrArg (·[i]?) h;simpa[DO,hi,show i<b.length by omega]using this
 ·intro h;refine List.ext_getElem (by simp[DO,hl]) λi h1 h2=>?_
  simpa[DO]using h i (by simpa[DO]using h1)
theorem fZ{a b:Bs}(h:a.length≠b.length):gA a b=false:=by
 unfold gA;refine decide_eq_false λe=>h ?_
 have:=congrArg List.length e;simpa[DO]using this
theorem EF(n t:Bs)(hn:n.length≤1000000):Aw Tryz.prog 190 [.str n,.at_ [.str t],.at_ [.fn 188 []]] (λr=>r=.bool (gA n t)):=by
 refine Aw.Ai Tryz.func190 rfl Ae (by kernel_rfl) ?_
 conv=>whnf
 repeat(refine sT rfl ?_;conv=>whnf)
 refine⟨λh=>?_,λh=>?_⟩
 ·have h:n.length≠t.length:=by simp at h;omega
  conv=>whnf
  repeat(refine sT rfl ?_;conv=>whnf)
  rw[fZ h]
 ·have h:n.length=t.length:=by simp at h;omega
  have hlg:=eR h;conv=>whnf
  repeat(refine sT rfl ?_;conv=>whnf)
  refine Ac.AJ (λk:Nat=>mk 30 [(0,.str n),(1,.at_ [.str t]),(2,.at_ [.fn 188 []]),(4,.lit false),(13,.sl 1 (H3 n)),(14,.int .i64 n.length),(15,.int .i64 k)]) (λ_=>[]) (λk=>k≤n.length∧∀(i:Nat)(hi:i<n.length),i<k→CY n[i]=CY (t[i]'(by omega))) (λk=>n.length-k) (λ_ _=>⟨rfl,trivial⟩) ⟨0,?_⟩ (λ_=>rfl) λk hk=>?_
  ·conv=>whnf
   repeat(refine Ao ?_ ?_;(focus (first|rfl|(simp;done)));conv=>whnf)
   exact λi hi h=>by omega
  ·obtain⟨hk,ha⟩:=hk;repeat(refine sT rfl ?_;conv=>whnf)
   refine⟨λg=>?_,λg=>?_⟩
   ·have g:k<n.length:=by simpa using g
    have Bj:Wr .i64 ((k:Int)+1)=((k+1:Nat):Int):=by rw[AH _ (by omega) (by omega)];rfl
    conv=>whnf
    repeat(refine sT rfl ?_;conv=>whnf)
    refine⟨by omega,_,EJ n k g,?_⟩
    conv=>whnf
    repeat(refine sT rfl ?_;conv=>whnf)
    have hgt:t.getD (k:Int).toNat 0=t[k]'(by omega):=by simp[List.getD,show k<t.length by omega]
    refine Ac.draw [] Ae mO (by kernel_rfl) ?_
    conv=>whnf
    refine⟨_,⟨Du n[k],rfl⟩,?_⟩;conv=>whnf
    refine⟨⟨by omega,by omega⟩,?_⟩
    rw[hgt];conv=>whnf
    refine⟨_,⟨Du (t[k]'(by omega)),rfl⟩,?_⟩
    conv=>whnf
    refine⟨λg2=>?_,λg2=>?_⟩
    ·have g2:¬CY n[k]=CY (t[k]'(by omega)):=λe=>by rw[e]at g2;simp at g2
     conv=>whnf
     repeat(refine sT rfl ?_;conv=>whnf)
     repeat' (first|(refine Ao (λ_=>?_) (λ_=>?_)<;>conv=>whnf)|(refine sT rfl ?_;conv=>whnf))
     refine congrArg AV.bool ?_;cases hq:gA n t with
     |false=>rfl
     |true=>exact absurd (hlg.1 hq k g) g2
    ·have g2:CY n[k]=CY (t[k]'(by omega)):=by
      have g3:((CY n[k]).toNat:Int)=(CY (t[k]'(by omega))).toNat:=by simpa using g2
      exact UInt8.toNat_inj.1 (by omega)
     conv=>whnf
     repeat(refine sT rfl ?_;conv=>whnf)
     repeat' (first|(refine Ao (λ_=>?_) (λ_=>?_)<;>conv=>whnf)|(refine sT rfl ?_;conv=>whnf))
     refine⟨k+1,?_⟩;conv=>whnf
     repeat(refine Ao ?_ ?_;(focus (first|rfl|(simp;done)|(first|exact Bj;done)));conv=>whnf)
     refine⟨⟨g,λi hi h2=>?_⟩,by omega⟩
     rcases CX i k with h3|h3;·exact ha i hi h3
     ·obtain rfl:i=k:=by omega
      exact g2
   ·have g:k=n.length:=by simp at g;omega
    conv=>whnf
    repeat(refine sT rfl ?_;conv=>whnf)
    rw[hlg.2 λi hi=>ha i hi (by omega)]
theorem Sl(l:List Bs)(g:Nat)(cap:List AV)(p:Bs→Bool)(hl:l.length≤100000)(hc:Ap cap=true)(hw:Bn [] cap=true)(hp:∀x∈l,Aw Tryz.prog g (.str x::cap) (λr=>r=.bool (p x))):
  Aw Tryz.prog 193 [.sl 1 (strs l),.fn g cap] (λr=>∃i:Int,r=.int .i64 i∧decide (0≤i)=l.any p):=by
 refine Aw.Ai Tryz.func193 rfl Ae (by kernel_rfl) ?_
 conv=>whnf
 repeat(refine sT rfl ?_;conv=>whnf)
 have bC:=CH l;refine Ac.AJ (λk:Nat=>mk 19 [(0,.sl 1 (strs l)),(1,.fn g cap),(7,.int .i64 l.length),(8,.int .i64 k)]) (λ_=>[]) (λk=>k≤l.length∧(l.take k).any p=false) (λk=>l.length-k) (λ_ _=>⟨by show(Bn [] cap&&_)=true;rw[hw];rfl,trivial⟩) ⟨0,?_⟩ (λ_=>rfl) λk hk=>?_
 ·conv=>whnf
  repeat(refine Ao ?_ ?_;(focus (first|rfl|(simp;done)));conv=>whnf)
  rfl
 ·obtain⟨hk,ha⟩:=hk;repeat(refine sT rfl ?_;conv=>whnf)
  refine⟨λh=>?_,λh=>?_⟩
  ·have h:k<l.length:=by simpa using h
   have Bj:Wr .i64 ((k:Int)+1)=((k+1:Nat):Int):=by rw[AH _ (by omega) (by omega)];rfl
   conv=>whnf
   repeat(refine sT rfl ?_;conv=>whnf)
   refine⟨by omega,_,ER l k h,?_⟩
   conv=>whnf
   repeat(refine sT rfl ?_;conv=>whnf)
   refine Ak.D3 (hp l[k] (AO h)) (by simp[Ap,closed,hc]) λr hr=>?_
   subst hr;conv=>whnf
   repeat(refine sT rfl ?_;conv=>whnf)
   repeat' (first|(refine Ao (λ_=>?_) (λ_=>?_)<;>conv=>whnf)|(refine sT rfl ?_;conv=>whnf))
   ·rename_i h5;exact⟨_,rfl,by rw[show l.any p=true from EM.2 ⟨l[k],AO h,h5⟩];simp⟩
   ·rename_i h5;refine⟨k+1,?_⟩;conv=>whnf
    repeat(refine Ao ?_ ?_;(focus (first|rfl|(simp;done)|(first|exact Bj;done)));conv=>whnf)
    exact⟨⟨by omega,by rw[Ba h,E0,ha];simpa using h5⟩,by omega⟩
  ·have h:k=l.length:=by simp at h;omega
   rw[h,BD]at ha;conv=>whnf
   repeat(refine sT rfl ?_;conv=>whnf)
   exact⟨_,rfl,by rw[ha];decide⟩
theorem E3(l:List Bs)(g:Nat)(cap:List AV)(p:Bs→Bool)(hl:l.length≤100000)(hc:Ap cap=true)(hw:Bn [] cap=true)(hp:∀x∈l,Aw Tryz.prog g (.str x::cap) (λr=>r=.bool (p x))):
  Aw Tryz.prog 150 [.sl 1 (strs l),.fn g cap] (λr=>r=.bool (l.any p)):=by
 refine Aw.Ai Tryz.func150 rfl Ae (by kernel_rfl) ?_
 conv=>whnf
 repeat(refine sT rfl ?_;conv=>whnf)
 refine Ak.D3 (Sl l g cap p hl hc hw hp) (by simp[Ap,closed,hc]) λr hr=>?_
 obtain⟨i,rfl,hi⟩:=hr;conv=>whnf
 repeat(refine sT rfl ?_;conv=>whnf)
 rw[←hi]
theorem GB(s:St)(t:Bs)(hs:s.al.length≤1000)(jS:s.na.length≤1000)(yA:∀x∈s.al,x.length≤1000):Aw Tryz.prog 146 [s.v,.str t] (λr=>r=.bool (Cr s t)):=by
 refine Aw.Ai Tryz.func146 rfl Ae (by kernel_rfl) ?_
 conv=>whnf
 repeat(refine sT rfl ?_;conv=>whnf)
 refine Ak.QO (as':=[.str s.na,.at_ [.str t],.at_ [.fn 188 []]]) ⟨gQ rfl,Zb9 rfl (CP _ rfl),Zb9 rfl (CP _ rfl),trivial⟩ (EF s.na t (by omega)) rfl ?_
 conv=>whnf
 refine⟨λh=>?_,λh=>?_⟩
 ·conv=>whnf
  repeat(refine sT rfl ?_;conv=>whnf)
  refine Ak.QO (as':=[.sl 1 (strs s.al),.fn 190 [.at_ [.str t],.at_ [.fn 188 []]]]) ⟨gQ rfl,yZ ⟨mD rfl (CP _ rfl),mD rfl (CP _ rfl),trivial⟩,trivial⟩ (E3 s.al _ _ (λa=>gA a t) (by omega) rfl rfl λx hx=>EF x t (by have:=yA x hx;omega)) rfl ?_
  conv=>whnf
  repeat(refine sT rfl ?_;conv=>whnf)
  unfold Cr;rw[h];rfl
 ·conv=>whnf
  repeat(refine sT rfl ?_;conv=>whnf)
  unfold Cr;rw[h];rfl
theorem gT(c:Ch):Aw Tryz.prog 115 [c.v] (λr=>r=.bool (A8 c)):=by
 refine Aw.Ai Tryz.func115 rfl Ae (by kernel_rfl) ?_
 conv=>whnf
 repeat(refine sT rfl ?_;conv=>whnf)
 repeat' (first|(refine Ao (λ_=>?_) (λ_=>?_)<;>conv=>whnf)|(refine cS (X1 c.co) rfl ?_;conv=>whnf)|(refine cS (Hy c.to) rfl ?_;conv=>whnf)|(refine cS (Hy c.na) rfl ?_;conv=>whnf)|(refine cS (FJ c.lo) rfl ?_;conv=>whnf)|(refine cS (FJ c.hi) rfl ?_;conv=>whnf)|(refine sT rfl ?_;conv=>whnf))
 all_goals (refine congrArg AV.bool ?_;simp only[decide_eq_false_iff_not,decide_eq_true_eq]at *;simp_all[A8])
 all_goals (intro h;omega)
def I8:AV:=.mp [.int .i64 1,.int .i64 2,.int .i64 3,.int .i64 4,.int .i64 5,.int .i64 6]
 [.fn 140 [],.fn 141 [],.fn 142 [],
  .fn 143 [],.fn 145 [],.fn 147 []]
theorem XO:Aw Tryz.prog 112 [] (λr=>r=I8):=by
 refine Aw.Ai Tryz.func112 rfl Ae (by kernel_rfl) ?_
 conv=>whnf
 repeat(refine sT rfl ?_;conv=>whnf)
 repeat(refine⟨by intro a ha;(repeat(rcases D0.1 ha with rfl|ha;(first|exact rfl|skip)))<;>first|rfl|(cases ha;done),?_⟩;(conv=>whnf))
 repeat(refine sT rfl ?_;conv=>whnf)
 rfl
abbrev TI:AV:=.raw (.slice none 0 0)
def RH(n:AV)(e p:Int):List HO:=[.dead,.cells [n],.cells [.int .i64 e],.cells [.int .i64 p]]
theorem YS(e p:Int)(l:List AV):dK Tryz.prog 111 [.ptr 1 0,.ptr 2 0,.ptr 3 0] (RH (.sl 8 l) e p) none (λH=>H=RH (.sl 8 l) e p):=by
 refine dK.Ai Tryz.func111 rfl rfl Ae (by kernel_rfl) rfl ?_
 conv=>whnf
 refine⟨⟨by kernel_rfl,rfl⟩,?_⟩
 conv=>whnf
 refine FN Ae _ ?_;conv=>whnf
 rfl
set_option maxHeartbeats 4000000 in
theorem YR(e p e' p':Int):dK Tryz.prog 111 [.ptr 1 0,.ptr 2 0,.ptr 3 0] (RH TI e p) (some (.iface 170 (.agg [.int .i64 e',.int .i64 p']))) (λH=>H=RH TI e' p'):=by
 refine dK.Ai Tryz.func111 rfl rfl Ae (by kernel_rfl) rfl ?_
 conv=>whnf
 refine⟨⟨by kernel_rfl,rfl⟩,?_⟩
 conv=>whnf
 refine FN Ae _ ?_;conv=>whnf
 refine Th.wQ (.one 0 (.one 1 (.one 2 (.one 3 (.one 4 (.one 5 (.one 6 .done .none) .none) .none) (.one 4 (.one 3 (.one 5 (.one 6 .done .none) .none) (.one 5 (.one 3 (.one 6 .done .none) .none) .none)) .none)) (.one 4 (.one 2 (.one 3 (.one 5 (.one 6 .done .none) .none) (.one 5 (.one 3 (.one 6 .done .none) .none) .none)) (.one 5 (.one 2 (.one 3 (.one 6 .done .none) .none) .none) .none)) .none)) (.one 2 (.one 1 (.one 3 (.one 4 (.one 5 (.one 6 .done .none) .none) .none) (.one 4 (.one 3 (.one 5 (.one 6 .done .none) .none) (.one 5 (.one 3 (.one 6 .done .none) .none) .none)) .none)) (.one 3 (.one 1 (.one 4 (.one 5 (.one 6 .done .none) .none) .none) (.one 4 (.one 1 (.one 5 (.one 6 .done .none) .none) .none) .none)) (.one 4 (.one 1 (.one 3 (.one 5 (.one 6 .done .none) .none) (.one 5 (.one 3 (.one 6 .done .none) .none) .none)) (.one 3 (.one 1 (.one 5 (.one 6 .done .none) .none) .none) .none)) .none))) (.one 4 (.one 1 (.one 2 (.one 3 (.one 5 (.one 6 .done .none) .none) (.one 5 (.one 3 (.one 6 .done .none) .none) .none)) (.one 5 (.one 2 (.one 3 (.one 6 .done .none) .none) .none) .none)) (.one 2 (.one 1 (.one 3 (.one 5 (.one 6 .done .none) .none) (.one 5 (.one 3 (.one 6 .done .none) .none) .none)) (.one 3 (.one 1 (.one 5 (.one 6 .done .none) .none) .none) .none)) .none)) .none))) (.one 2 (.one 0 (.one 1 (.one 3 (.one 4 (.one 5 (.one 6 .done .none) .none) .none) (.one 4 (.one 3 (.one 5 (.one 6 .done .none) .none) (.one 5 (.one 3 (.one 6 .done .none) .none) .none)) .none)) (.one 3 (.one 1 (.one 4 (.one 5 (.one 6 .done .none) .none) .none) (.one 4 (.one 1 (.one 5 (.one 6 .done .none) .none) .none) .none)) (.one 4 (.one 1 (.one 3 (.one 5 (.one 6 .done .none) .none) (.one 5 (.one 3 (.one 6 .done .none) .none) .none)) (.one 3 (.one 1 (.one 5 (.one 6 .done .none) .none) .none) .none)) .none))) (.one 3 (.one 0 (.one 1 (.one 4 (.one 5 (.one 6 .done .none) .none) .none) (.one 4 (.one 1 (.one 5 (.one 6 .done .none) .none) .none) .none)) (.one 4 (.one 0 (.one 1 (.one 5 (.one 6 .done .none) .none) .none) .none) .none)) (.one 4 (.one 0 (.one 1 (.one 3 (.one 5 (.one 6 .done .none) .none) (.one 5 (.one 3 (.one 6 .done .none) .none) .none)) (.one 3 (.one 1 (.one 5 (.one 6 .done .none) .none) .none) .none)) (.one 3 (.one 0 (.one 1 (.one 5 (.one 6 .done .none) .none) .none) .none) .none)) .none))) (.one 4 (.one 0 (.one 1 (.one 2 (.one 3 (.one 5 (.one 6 .done .none) .none) (.one 5 (.one 3 (.one 6 .done .none) .none) .none)) (.one 5 (.one 2 (.one 3 (.one 6 .done .none) .none) .none) .none)) (.one 2 (.one 1 (.one 3 (.one 5 (.one 6 .done .none) .none) (.one 5 (.one 3 (.one 6 .done .none) .none) .none)) (.one 3 (.one 1 (.one 5 (.one 6 .done .none) .none) .none) .none)) .none)) (.one 2 (.one 0 (.one 1 (.one 3 (.one 5 (.one 6 .done .none) .none) (.one 5 (.one 3 (.one 6 .done .none) .none) .none)) (.one 3 (.one 1 (.one 5 (.one 6 .done .none) .none) .none) .none)) (.one 3 (.one 0 (.one 1 (.one 5 (.one 6 .done .none) .none) .none) .none) .none)) .none)) .none))) Ae (by kernel_rfl) (by kernel_rfl) (by kernel_rfl) ?_
 repeat' (first|exact True.intro|(refine EnF.step ?_;conv=>whnf)|(refine Ao ?_ ?_<;>conv=>whnf))
 all_goals rfl
theorem R7(F:List HO):∀(rest:List HO)(K:List HO→Prop),BO F [] [] rest K↔K (rest.map (Gr F))
 |[],K=>by simp[BO]
 |o::r,K=>by
  rw[BO,KU,R7 F r];simp
theorem oS(F:List HO)(a b c:List AV)(o0 o1 o2 o3 x0 x1 x2 x3:HO)(r:List HO)(K:List HO→Prop):BO F [.dead,.cells a,.cells b,.cells c] [o0,o1,o2,o3] (x0::x1::x2::x3::r) K↔K (Gr F x0::o1::o2::o3::r.map (Gr F)):=by
 simp only[BO,R7,KU]
theorem nJ(n:AV)(e p:Int):∀i,HK (RH n e p) i=false
 |0=>rfl
 |1=>rfl
 |2=>rfl
 |3=>rfl
 |i+4=>rfl
def FL(L:List (St×Sv)):Tok:=L.map λx=>(x.2,x.1.al)
def Ce(L:List (St×Sv)):List AV:=L.map λx=>x.1.r x.2
def Wq(vs:List Value)(L:List (St×Sv)):List HO:=
 [.inv (Gh 9 (FL L)),.cells [TI],.cells [.int .i64 0],.cells [.int .i64 0],.ghost [.ptr 1 0,.ptr 2 0,.ptr 3 0] vs [],.cells [.own 6 8 0 L.length],.arr 97 8 (Ce L)]
theorem ZgE{P:Program}{c:Code}{E:List AV}{H:List HO}{K:KK}{X:XX}(h:∀K' X',K'=K→X'=X→Ac P c E H K' X'):Ac P c E H K X:=h K X rfl rfl
theorem Gs(L:List (St×Sv)):∀a∈Ce L,closed a=true:=by
 intro a ha;obtain⟨x,_,rfl⟩:=BV.1 ha;rfl
structure BW(s:St)(n:Nat):Prop where
 na:s.na.length≤84
 al:s.al.length≤n
 lV:∀a∈s.al,a.length≤84
 lo:1≤s.lo∧s.lo≤9999
 hi:1≤s.hi∧s.hi≤9999
 sh:1≤s.lo-s.sh∧s.lo-s.sh≤9999
def DL(r:List Ch)(i:Nat):Option Int:=if i=0 then none else (r[i-1]?).map Ch.da
structure ZgK(r:List Ch)(i:Nat)(L:List (St×Sv)):Prop where
 le:i≤r.length
 cnt:L.length≤i
 m:L.length≤60
 ok:∀x∈L,BW x.1 i
 run:L1 (r.drop i) i (DL r i) (L.map Bc)=DU r
def tQ(x:List St×Int×Int):AV:=.tuple [Lq x.1,.int .i64 x.2.1,.int .i64 x.2.2]
theorem Zgj(r:List Ch)(R:AV→Prop)(vs:List Value)(o:HO){E:List AV}(rest:List HO)(e p:Int)(hR:R (.tuple [.sl 8 [],.int .i64 e,.int .i64 p])):
  Wk Tryz.prog II Tryz.f73.results.toList R 111 4 (some (.iface 170 (.agg [.int .i64 e,.int .i64 p]))) (E6 r::.any::.ptr 1 0::.ptr 2 0::.ptr 3 0::E) (o::.cells [TI]::.cells [.int .i64 0]::.cells [.int .i64 0]::.ghost [.ptr 1 0,.ptr 2 0,.ptr 3 0] vs []::rest):=by
 unfold Wk;refine(Ab _ _ _).2 ⟨.ghost [.ptr 1 0,.ptr 2 0,.ptr 3 0] vs [],rfl,?_⟩;refine Vk.Zcu (YR 0 0 e p) rfl rfl ⟨rfl,rfl,rfl,rfl,rfl,rfl,trivial⟩ ?_;rintro H1 rfl;rw[GX,FF (nJ _ _ _)];show BO (RH TI 0 0) [.dead,.cells [TI],.cells [.int .i64 0],.cells [.int .i64 0]] [.dead,.cells [TI],.cells [.int .i64 e],.cells [.int .i64 p]] (o::.cells [TI]::.cells [.int .i64 0]::.cells [.int .i64 0]::.ghost [.ptr 1 0,.ptr 2 0,.ptr 3 0] vs []::rest) _
 rw[oS];generalize List.map (Gr (RH TI 0 0)) (HO.ghost [.ptr 1 0,.ptr 2 0,.ptr 3 0] vs []::rest)=r2;conv=>whnf
 refine⟨8,?_⟩;conv=>whnf
 exact hR
theorem Zgk(r:List Ch)(R:AV→Prop)(vs:List Value)(o:HO){E:List AV}(rest:List HO)(l:List AV)(e p:Int)(hR:R (.tuple [.sl 8 l,.int .i64 e,.int .i64 p])):
  Wk Tryz.prog II Tryz.f73.results.toList R 111 4 none (E6 r::.any::.ptr 1 0::.ptr 2 0::.ptr 3 0::E) (o::.cells [.sl 8 l]::.cells [.int .i64 e]::.cells [.int .i64 p]::.ghost [.ptr 1 0,.ptr 2 0,.ptr 3 0] vs []::rest):=by
 unfold Wk;refine(Ab _ _ _).2 ⟨.ghost [.ptr 1 0,.ptr 2 0,.ptr 3 0] vs [],rfl,?_⟩;refine Vk.Zcu (YS e p l) rfl rfl ⟨rfl,rfl,rfl,rfl,rfl,rfl,trivial⟩ ?_;rintro H1 rfl;rw[GX,FF (nJ _ _ _)];show BO (RH (.sl 8 l) e p) [.dead,.cells [.sl 8 l],.cells [.int .i64 e],.cells [.int .i64 p]] [.dead,.cells [.sl 8 l],.cells [.int .i64 e],.cells [.int .i64 p]] (o::.cells [.sl 8 l]::.cells [.int .i64 e]::.cells [.int .i64 p]::.ghost [.ptr 1 0,.ptr 2 0,.ptr 3 0] vs []::rest) _
 rw[oS];generalize List.map _ (HO.ghost [.ptr 1 0,.ptr 2 0,.ptr 3 0] vs []::rest)=r2;conv=>whnf
 exact hR
def stC(s:St):List AV:=[.str s.co,.str s.to,.str s.na,.sl 1 (strs s.al),.int .i64 s.lo,.int .i64 s.hi,.int .i64 s.sh,.bool s.op]
theorem pX(s:St)(t:Bs)(hs:s.al.length≤1000)(jS:s.na.length≤1000)(yA:∀x∈s.al,x.length≤1000):Aw Tryz.prog 151 [.str t,.at_ (stC s)] (λr=>r=.bool (Cr s t)):=by
 refine Aw.Ai Tryz.func151 rfl Ae (by kernel_rfl) ?_
 conv=>whnf
 repeat(refine sT rfl ?_;conv=>whnf)
 refine cS (GB s t hs jS yA) rfl ?_;conv=>whnf
 repeat(refine sT rfl ?_;conv=>whnf)
theorem NP{f:Nat→Bool}{k:Nat}(h:(Ed k).any f=false)(hk:f k=false):(Ed (k+1)).any f=false:=by
 rw[List.range_succ,E0,h];simp[hk]
theorem SA{l:List St}{n k:Nat}(hn:n<l.length)(hk:k<l.length):PM l n l[n] k=(decide (k≠n)&&bM l[n] l[k]):=by
 unfold PM;rw[Aq hk]
theorem NL{l:List St}{n:Nat}(hn:n<l.length):FC l n=(Ed l.length).any (PM l n l[n]):=by
 unfold FC;rw[Aq hn]
theorem Wp(l:List St)(n:Nat)(hn:n<l.length)(hl:l.length≤1000)(hb:∀s∈l,s.al.length≤1000∧s.na.length≤1000∧∀x∈s.al,x.length≤1000):
  Aw Tryz.prog 117 [.at_ [Lq l],.int .i64 n] (λr=>r=.bool (FC l n)):=by
 refine Aw.Ai Tryz.func117 rfl Ae (by kernel_rfl) ?_
 conv=>whnf
 repeat(refine sT rfl ?_;conv=>whnf)
 refine⟨by omega,(l[n]).v,by simp[hn],?_⟩
 conv=>whnf
 conv=>whnf
 repeat(refine sT rfl ?_;conv=>whnf)
 obtain⟨b1,b2,b3⟩:=hb l[n] (AO hn);refine Ac.AJ (λk:Nat=>mk 70 [(0,.at_ [Lq l]),(1,.int .i64 n),(5,.ptr 0 0),(18,Lq l),(19,.int .i64 l.length),(20,.int .i64 k)]) (λk=>[.cells (stC l[n])]) (λk=>k≤l.length∧(Ed k).any (PM l n l[n])=false) (λk=>l.length-k) (λ_ _=>⟨rfl,rfl,trivial⟩) ⟨0,?_⟩ (λ_=>rfl) λk hk=>?_
 ·conv=>whnf
  repeat(refine Ao ?_ ?_;(focus (first|rfl|(simp;done)|(simp;done)));conv=>whnf)
  rfl
 ·obtain⟨hk,ha⟩:=hk;have Bj:Wr .i64 ((k:Int)+1)=((k+1:Nat):Int):=by rw[AH _ (by omega) (by omega)];rfl
  repeat(refine sT rfl ?_;conv=>whnf)
  refine⟨λh=>?_,λh=>?_⟩
  ·have h:k<l.length:=by simpa using h
   repeat(refine sT rfl ?_;conv=>whnf)
   refine⟨by omega,(l[k]).v,by simp[h],?_⟩
   conv=>whnf
   repeat(refine sT rfl ?_;conv=>whnf)
   repeat' (first|(refine Ao (λ_=>?_) (λ_=>?_)<;>conv=>whnf)|(refine sT rfl ?_;conv=>whnf))
   ·refine⟨k+1,?_⟩;conv=>whnf
    repeat(refine Ao ?_ ?_;(focus (first|rfl|(simp;done)|(exact Bj;done)));conv=>whnf)
    exact⟨⟨by omega,NP ha (by rw[SA hn h];unfold bM;simp_all<;>omega)⟩,by omega⟩
   ·rename_i h1 h2 h3 h4 h5 h6
    have hit:∀b,(Cr l[n] l[k].na||l[k].al.any (Cr l[n]))=b→PM l n l[n] k=b:=λb hb=>by
     have q1:k≠n:=λe=>by subst e;simp at h1
     have q2:l[n].op=true:=by simpa using h2
     have q3:l[k].op=true:=by simpa using h3
     have q4:l[n].co=l[k].co:=by simpa using h4
     have q5:l[n].lo≤l[k].hi:=by simp at h5;omega
     have q6:l[k].lo≤l[n].hi:=by simp at h6;omega
     rw[SA hn h];unfold bM;rw[hb,decide_eq_true q1,q2,q3,decide_eq_true q4,decide_eq_true q5,decide_eq_true q6];rfl
    have yes:(Cr l[n] l[k].na||l[k].al.any (Cr l[n]))=true→FC l n=true:=λe=>by
     rw[NL hn];exact EM.2 ⟨k,List.mem_range.2 h,hit true e⟩
    obtain⟨c1,c2,c3⟩:=hb l[k] (AO h);refine cS (GB l[n] l[k].na b1 b2 b3) rfl ?_;conv=>whnf
    repeat(refine sT rfl ?_;conv=>whnf)
    refine⟨λh7=>?_,λh7=>?_⟩
    ·conv=>whnf
     repeat(refine sT rfl ?_;conv=>whnf)
     refine Ak.QO (as':=[.sl 1 (strs l[k].al),.fn 151 [.at_ (stC l[n])]]) ⟨gQ rfl,yZ ⟨mD rfl (CP _ rfl),trivial⟩,trivial⟩ (E3 l[k].al _ _ (Cr l[n]) (by omega) rfl rfl λx hx=>pX l[n] x b1 b2 b3) rfl ?_
     conv=>whnf
     repeat(refine sT rfl ?_;conv=>whnf)
     refine⟨λh8=>?_,λh8=>?_⟩
     ·conv=>whnf
      repeat(refine sT rfl ?_;conv=>whnf)
      rw[yes (by rw[h7,h8];rfl)]
     ·conv=>whnf
      repeat(refine sT rfl ?_;conv=>whnf)
      refine⟨k+1,?_⟩;conv=>whnf
      repeat(refine Ao ?_ ?_;(focus (first|rfl|(simp;done)|(exact Bj;done)));conv=>whnf)
      exact⟨⟨by omega,NP ha (hit false (by rw[h7,h8];rfl))⟩,by omega⟩
    ·conv=>whnf
     repeat(refine sT rfl ?_;conv=>whnf)
     rw[yes (by rw[h7];rfl)]
   all_goals first
    |(refine⟨k+1,?_⟩
      conv=>whnf
      repeat(refine Ao ?_ ?_;(focus (first|rfl|(simp;done)|(exact Bj;done)));conv=>whnf)
      exact⟨⟨by omega,NP ha (by rw[SA hn h];unfold bM;simp_all<;>omega)⟩,by omega⟩)
  ·have h:k=l.length:=by simp at h;omega
   repeat(refine sT rfl ?_;conv=>whnf)
   rw[NL hn,←h,ha]
def chC(c:Ch):List AV:=[.int .i64 c.da,.int .i64 c.ki,.int .i64 c.sr,.str c.co,.str c.to,.str c.na,.int .i64 c.lo,.int .i64 c.hi,.int .i64 c.sh]
def Jw(p:Option Int)(d:Int):Bool:=match p with|some x=>decide (d<x)|none=>false
theorem step_eq(p:Option Int)(i:Nat)(l:List St)(c:Ch):Gi p i l c=if 60≤i then .error 2 else if Jw p c.da then .error 50 else if !(F2 c.da&&A8 c)then .error 1
  else match K5 l c with
  |.error e=>.error e
  |.ok (l',n)=>if FC l' n then .error 51 else .ok l':=by cases p<;>rfl
theorem Re{p:Option Int}{i:Nat}{l:List St}{c:Ch}(h:60≤i):Gi p i l c=.error 2:=by rw[step_eq,if_pos h]
theorem Ui{p:Option Int}{i:Nat}{l:List St}{c:Ch}(h:¬60≤i)(hd:Jw p c.da=true):Gi p i l c=.error 50:=by rw[step_eq,if_neg h,if_pos hd]
theorem MO{p:Option Int}{i:Nat}{l:List St}{c:Ch}(h:¬60≤i)(hd:Jw p c.da=false)(hu:(F2 c.da&&A8 c)=false):Gi p i l c=.error 1:=by
 rw[step_eq,if_neg h,if_neg (by simp[hd]),if_pos (by simp[hu])]
theorem step_mk{p:Option Int}{i:Nat}{l:List St}{c:Ch}(h:¬60≤i)(hd:Jw p c.da=false)(hu:(F2 c.da&&A8 c)=true):Gi p i l c=match K5 l c with
  |.error e=>.error e
  |.ok (l',n)=>if FC l' n then .error 51 else .ok l':=by
 rw[step_eq,if_neg h,if_neg (by simp[hd]),if_neg (by simp[hu])]
theorem Cz{l:List St}{c:Ch}(h:c.ki≠1)(ho:En l c.sr=false):K5 l c=.error 3:=by
 unfold K5;rw[if_neg h,if_neg (by simp[ho])]
theorem K3{l:List St}{n:Int}(h:n<0):En l n=false:=by
 unfold En;rw[decide_eq_false (by omega)]
 rfl
theorem tW{L:List (St×Sv)}{n:Int}(h0:0≤n)(h:(L.length:Int)≤n):En (L.map Bc) n=false:=by
 unfold En;rw[BC (by simp;omega)]
 simp
theorem eK{L:List (St×Sv)}{n:Int}(h0:0≤n)(h:n.toNat<L.length):En (L.map Bc) n=L[n.toNat].1.op:=by
 unfold En;rw[Aq (by simpa using h),decide_eq_true h0]
 simp
theorem Nc{L:List (St×Sv)}{n:Int}(h:En (L.map Bc) n=true):(0≤n∧n<L.length)∧n.toNat<L.length:=by
 unfold En at h;simp only[AZ,decide_eq_true_eq]at h;obtain⟨h0,h1⟩:=h;split at h1
 ·rename_i s hs;have:=(Bq.1 hs).1;simp at this;omega
 ·cases h1
theorem nH(L:List (St×Sv))(c:Ch):(Ce L++[AV.agg [.str c.co,.str c.to,.str c.na,.raw (Value.slice none 0 0),.int .i64 c.lo,.int .i64 c.hi,.int .i64 0,.lit true]]).map Dj=Ce (L++[(Qt c,Sv.nil)]):=by
 unfold Ce;simp only[E1,List.map_map,List.map_cons,List.map_nil];rfl
theorem Z6(L:List (St×Sv)):(Ce L).map Dj=Ce L:=by
 unfold Ce;rw[List.map_map];rfl
theorem Ih(L:List (St×Sv))(n:Nat)(s:St)(x:Sv):(Ce L).set (0+n) (s.r x)=Ce (L.set n (s,x)):=by
 unfold Ce;rw[Cm,C0]
theorem iI(L:List (St×Sv))(n:Nat)(s:St)(x:Sv):((Ce L).set (0+n) (AV.agg [.str s.co,.str s.to,.str s.na,.raw x.v,.int .i64 s.lo,.int .i64 s.hi,.int .i64 s.sh,.lit s.op])).map Dj=Ce (L.set n (s,x)):=by
 rw[C0,Z6];exact Ih L n s x
theorem MK{L:List (St×Sv)}{n:Nat}(h:n<L.length){s:St}(hs:s.al=L[n].1.al):FL (L.set n (s,L[n].2))=FL L:=by
 unfold FL;rw[C0];simp only[hs];apply List.ext_getElem?;intro k;rw[List.getElem?_set];split
 ·rename_i e;subst e;simp[h]
 ·rfl
theorem mL(L:List (St×Sv))(c:Ch):FL L++[(Sv.nil,[])]=FL (L++[(Qt c,Sv.nil)]):=by
 unfold FL;rw[E1];rfl
theorem tT(L:List (St×Sv))(x:AV)(y:St×Sv):HO.cells [AV.own 6 8 0 (Ce L++[x]).length]=.cells [.own 6 8 0 (L++[y]).length]:=by
 simp[Ce]
theorem yY(L:List (St×Sv))(x:AV)(h:L.length≤60):Wr .i64 (((Ce L++[x]).length:Int)-1)=(L.length:Int):=by
 have e:(Ce L++[x]).length=L.length+1:=by simp[Ce]
 rw[e,AH _ (by omega) (by omega)]
 omega
theorem WR{L:List (St×Sv)}{n:Nat}(h:n<L.length):(FL L)[n]?=some (L[n].2,L[n].1.al):=by
 unfold FL;simp[h]
theorem ZQ{L:List (St×Sv)}{n:Nat}(h:n<L.length){a:AV}:((Ce L).set (0+n) a)[0+n]?=some a:=by
 rw[Cm,C3 (by simpa[Ce]using h)]
theorem Xi{L:List (St×Sv)}{n:Nat}(h:n<L.length){a b:AV}:(((Ce L).set (0+n) b).set (0+n) a)[0+n]?=some a:=by
 rw[Cm,C3 (by simpa[Ce]using h)]
theorem iJ(L:List (St×Sv))(n:Nat)(s:St)(x:Sv){a b c:AV}(hc:c=s.r x):(((Ce L).set (0+n) a).set (0+n) b).set (0+n) c=Ce (L.set n (s,x)):=by
 rw[List.set_set,List.set_set,hc];exact Ih L n s x
theorem mK(L:List (St×Sv))(n:Nat)(s:St)(x:Sv):(FL L).set n (x,s.al)=FL (L.set n (s,x)):=by
 unfold FL;rw[C0]
theorem C7{L:List (St×Sv)}{n:Nat}(h:n<L.length):(Ce L)[0+n]?=some (L[n].1.r L[n].2):=by
 rw[Cm];simp[Ce,h]
theorem eB{r:List Ch}{i:Nat}{l:List St}{p:Option Int}(hi:i<r.length){e:Int}(h:Gi p i l r[i]=.error e):L1 (r.drop i) i p l=([],e,(i:Int)):=by
 rw[Bh hi];unfold L1;rw[h]
theorem nF{r:List Ch}{i:Nat}{l l':List St}{p:Option Int}(hi:i<r.length)(h:Gi p i l r[i]=.ok l'):L1 (r.drop i) i p l=L1 (r.drop (i+1)) (i+1) (some r[i].da) l':=by
 rw[Bh hi];conv=>lhs;unfold L1
 rw[h]
structure Zd3(r:List Ch)(i:Nat)(hi:i<r.length)(l:List St):Prop where
 step:Gi (DL r i) i l r[i]=match K5 l r[i]with
  |.error e=>.error e
  |.ok (l',n)=>if FC l' n then .error 51 else .ok l'
 mH:A8 r[i]=true
 opn:r[i].ki=1∨En l r[i].sr=true
 lt:i<60
def gJ(n:Nat)(l:List St)(c:Ch)(y:List (St×Sv)×Int×Int):Prop:=
 (y.2.2=0∧∃m:Nat,y.2.1=m∧m<y.1.length∧K5 l c=.ok (y.1.map Bc,m)∧y.1.length≤n∧∀x∈y.1,BW x.1 n)∨(y.2.2≠0∧K5 l c=.error y.2.2)
def oZ:List AV:=[.int .i64 1,.int .i64 2,.int .i64 3,.int .i64 4,.int .i64 5,.int .i64 6]
def pA:List AV:=[.fn 140 [],.fn 141 [],.fn 142 [],.fn 143 [],.fn 145 [],.fn 147 []]
theorem Mm{c:Ch}(h:A8 c=true):c.ki=1∨c.ki=2∨c.ki=3∨c.ki=4∨c.ki=5∨c.ki=6:=by
 rcases Decidable.em (c.ki=1∨c.ki=2∨c.ki=3∨c.ki=4∨c.ki=5∨c.ki=6)with k|k;·exact k
 ·simp only[not_or]at k;unfold A8 at h;simp[k]at h
theorem jL{c:Ch}(h:A8 c=true):OG (.int .i64 c.ki) oZ pA≠none:=by
 rcases Mm h with k|k|k|k|k|k<;>rw[k]<;>exact λh=>nomatch h
theorem pB{c:Ch}(h:A8 c=true){v:AV}(hv:OG (.int .i64 c.ki) oZ pA=some v):((c.ki=1∧v=.fn 140 [])∨(c.ki=2∧v=.fn 141 [])∨(c.ki=3∧v=.fn 142 [])∨
  (c.ki=4∧v=.fn 143 [])∨(c.ki=5∧v=.fn 145 [])∨(c.ki=6∧v=.fn 147 []))∧True:=by
 refine⟨?_,trivial⟩;rcases Mm h with k|k|k|k|k|k;·exact .inl ⟨k,by rw[k]at hv;exact(CL.inj hv).symm⟩
 ·exact .inr (.inl ⟨k,by rw[k]at hv;exact(CL.inj hv).symm⟩)
 ·exact .inr (.inr (.inl ⟨k,by rw[k]at hv;exact(CL.inj hv).symm⟩))
 ·exact .inr (.inr (.inr (.inl ⟨k,by rw[k]at hv;exact(CL.inj hv).symm⟩)))
 ·exact .inr (.inr (.inr (.inr (.inl ⟨k,by rw[k]at hv;exact(CL.inj hv).symm⟩))))
 ·exact .inr (.inr (.inr (.inr (.inr ⟨k,by rw[k]at hv;exact(CL.inj hv).symm⟩))))
theorem BW.mono{s:St}{n m:Nat}(h:BW s n)(hn:n≤m):BW s m:={h with al:=Nat.le_trans h.al hn}
theorem BW.mB{s:St}{n:Nat}(h:BW s n){t:Bs}(ht:t.length≤84):BW {s with na:=t} n:=⟨ht,h.al,h.lV,h.lo,h.hi,h.sh⟩
theorem BW.mC{s:St}{n:Nat}(h:BW s n)(t:Bs):BW {s with co:=t} n:=⟨h.na,h.al,h.lV,h.lo,h.hi,h.sh⟩
theorem BW.mA{s:St}{n:Nat}(h:BW s n)(b:Bool):BW {s with op:=b} n:=⟨h.na,h.al,h.lV,h.lo,h.hi,h.sh⟩
theorem Vl{a b:Int}(ha:1≤a∧a≤9999)(hb:DF .i64 b):G7 (Wr .i64 (a+b))=G7 (a+b):=by
 rw[PG]at hb;by_cases h:a+b≤9223372036854775807;·rw[AH _ (by omega) h]
 ·have e:Wr .i64 (a+b)=a+b-18446744073709551616:=by
   unfold Wr IntKind.wrap;simp[DG,Ep];split<;>omega
  rw[e];unfold G7;rw[Bv];simp;omega
theorem dM{a b:Int}(ha:1≤a∧a≤9999)(h:G7 (a+b)=true):Wr .i64 (a+b)=a+b:=by
 have:=h;unfold G7 at this;simp only[AZ,decide_eq_true_eq]at this;rw[AH _ (by omega) (by omega)]
theorem R1{s:Bs}(h:G8 s=true):s.length≤84:=by
 unfold G8 at h;simp only[AZ,decide_eq_true_eq]at h;exact h.1.1
theorem Ga{n:Int}(h:G7 n=true):1≤n∧n≤9999:=by
 unfold G7 at h;simpa using h
theorem Ue{c:Ch}(h:A8 c=true)(hk:c.ki=1):G8 c.na=true∧G7 c.lo=true∧G7 c.hi=true:=by
 unfold A8 at h;rw[if_pos hk]at h;simp only[AZ]at h;exact⟨h.1.1.1.1.2,h.1.1.1.2,h.1.1.2⟩
theorem VR{c:Ch}(h:A8 c=true)(hk:c.ki=2∨c.ki=5):c.na.length≤84:=by
 unfold A8 at h;rw[if_neg (by omega),if_pos hk]at h
 simp only[AZ]at h;exact R1 h.1
theorem jJ{L:List (St×Sv)}{c:Ch}{i:Nat}(hk:c.ki=1)(hu:A8 c=true)(hn:L.length≤i)(ok:∀x∈L,BW x.1 i):gJ (i+1) (L.map Bc) c (L++[(Qt c,Sv.nil)],(L.length:Int),0):=by
 obtain⟨h1,h2,h3⟩:=Ue hu hk;refine .inl ⟨rfl,L.length,rfl,by simp,by simp[K5,hk],by simpa using hn,λx hx=>?_⟩
 rcases B7.1 hx with hx|hx;·exact(ok x hx).mono (BJ i)
 ·rw[Cb]at hx;subst hx;exact⟨R1 h1,E2 _,λa ha=>by simp[Qt]at ha,Ga h2,Ga h3,by have:=Ga h2;simp only[Qt];omega⟩
theorem Ir{L:List (St×Sv)}{c:Ch}{i n:Nat}{s':St}{x:Sv}(h:n<L.length)(hn:(n:Int)=c.sr)(ho:En (L.map Bc) c.sr=true)(hk:c.ki≠1)(he:Dd L[n].1 c=.ok s')(hs:BW s' (i+1))
  (hl:L.length≤i) (ok:∀x∈L,BW x.1 i):gJ (i+1) (L.map Bc) c (L.set n (s',x),c.sr,0):=by
 have vG:c.sr.toNat=n:=by omega
 refine .inl ⟨rfl,n,hn.symm,by simpa using h,?_,by simp;omega,λy hy=>?_⟩
 ·unfold K5;rw[if_neg hk,if_pos ho,vG,Aq (by simpa using h)]
  simp only[EN,he,C0]
 ·rcases C1 hy with hy|rfl;·exact(ok y hy).mono (BJ i)
  ·exact hs
theorem Sa{L:List (St×Sv)}{c:Ch}{i n:Nat}{e k:Int}(h:n<L.length)(hn:(n:Int)=c.sr)(ho:En (L.map Bc) c.sr=true)(hk:c.ki≠1)(he:Dd L[n].1 c=.error e)(h0:e≠0):gJ (i+1) (L.map Bc) c (L,k,e):=by
 have vG:c.sr.toNat=n:=by omega
 refine .inr ⟨h0,?_⟩;unfold K5;rw[if_neg hk,if_pos ho,vG,Aq (by simpa using h)]
 simp only[EN,he]
theorem iL(L:List (St×Sv)):(Ce L).length=L.length:=by simp[Ce]
theorem Ro{ts:Tok}:∀M:List (St×Sv),(∀x∈M,(x.2,x.1.al)∈ts)→GM ts (Ce M) ((M.map Bc).map St.v)
 |[],_=>trivial
 |x::M,h=>by
  obtain⟨j,hj⟩:=List.mem_iff_getElem?.1 (h x (by simp))
  exact⟨⟨_,_,rfl,rfl,MG rfl,MG rfl,MG rfl,Zcb hj,MG rfl,MG rfl,MG rfl,MG rfl,trivial⟩,Ro M λy hy=>h y (by simp[hy])⟩
theorem Uq(L:List (St×Sv)):GM (FL L) (Ce L) ((L.map Bc).map St.v):=Ro L λx hx=>BV.2 ⟨x,hx,rfl⟩
set_option maxHeartbeats 4000000 in
theorem Jh(r:List Ch):Aw Tryz.prog 73 [E6 r] (λx=>x=tQ (DU r)):=by
 refine Aw.TH Tryz.func73 rfl Ae (by kernel_rfl) ?_
 conv=>whnf
 refine KL.zH 9 ?_;refine KL.seq1 (BR Ae _ ?_);conv=>whnf
 refine KL.ZeC (KL.region Ae ?_);conv=>whnf
 refine⟨by kernel_rfl,?_⟩
 conv=>whnf
 intro vs;repeat(refine sT rfl ?_;conv=>whnf)
 refine Ak.Gv 5 0 97 8 rfl rfl ?_;refine cS (XO) rfl ?_;conv=>whnf
 repeat(refine sT rfl ?_;conv=>whnf)
 refine Ac.AJ (λx:Nat×List (St×Sv)=>mk 95 [(0,E6 r),(2,.ptr 1 0),(3,.ptr 2 0),(4,.ptr 3 0),(5,.ptr 5 0),(6,I8),(16,E6 r),(17,.int .i64 r.length),(18,.int .i64 x.1)])
  (λx=>Wq vs x.2)
  (λx=>ZgK r x.1 x.2) (λx=>r.length-x.1) (λx _=>⟨rfl,by(conv=>whnf);exact⟨rfl,rfl,rfl,rfl,rfl,Gs _,trivial⟩⟩) ⟨(0,[]),?_⟩ (λ_=>rfl) λx hx=>?_
 ·conv=>whnf
  repeat(refine Ao ?_ ?_;(focus (first|rfl|(simp;done)|(simp[C4];done)));conv=>whnf)
  exact⟨E2 _,CA _,by simp,λx hx=>by simp at hx,rfl⟩
 ·obtain⟨i,L⟩:=x;simp only at hx;refine ZgE λK' X' hK hX=>?_
  have hP:∀(o:HO)(E:List AV)(rest:List HO)(e:Int)(hi:i<r.length),Gi (DL r i) i (L.map Bc) r[i]=.error e→X' (.panic (.iface 170 (.agg [.int .i64 e,.int .i64 i]))) (E6 r::.any::.ptr 1 0::.ptr 2 0::.ptr 3 0::E) (o::.cells [TI]::.cells [.int .i64 0]::.cells [.int .i64 0]::.ghost [.ptr 1 0,.ptr 2 0,.ptr 3 0] vs []::rest):=λo E rest e hi h=>by
   rw[hX];exact⟨⟨_,rfl⟩,Zgj r _ vs _ rest e i (by rw[←hx.run,eB hi h];rfl)⟩
  repeat(refine sT rfl ?_;conv=>whnf)
  refine⟨λhi=>?_,λhi=>?_⟩
  ·have hi:i<r.length:=by simp at hi;omega
   clear hX;repeat(refine sT rfl ?_;conv=>whnf)
   refine⟨by simp,(r[i]).v,by simp[hi],?_⟩
   conv=>whnf
   refine Ac.seq ?_;refine Ac.xG Ae ?_;conv=>whnf
   refine Ac.seq ?_
   refine Ac.cP (λ_:Unit=>mk 95 [(0,E6 r),(2,.ptr 1 0),(3,.ptr 2 0),(4,.ptr 3 0),(5,.ptr 5 0),(6,I8),(7,.ptr 7 0),(8,.ptr 8 0),(9,.fn 113 [.ptr 7 0]),(16,E6 r),(17,.int .i64 r.length),(18,.int .i64 i)])
    (λ_=>Wq vs L++[.cells [.int .i64 i],.cells (chC (r[i]'hi))]) (λ_=>Zd3 r i hi (L.map Bc)) (λ_ _=>⟨rfl,by(conv=>whnf);exact⟨rfl,rfl,rfl,rfl,rfl,Gs _,rfl,by exact⟨rfl,trivial⟩⟩⟩) (λ_=>CA _) ?_ λ_ hc=>?_
   ·clear hK;repeat(refine sT rfl ?_;conv=>whnf)
    refine⟨λh6=>?_,λh6=>?_⟩
    ·conv=>whnf
     repeat(refine sT rfl ?_;conv=>whnf)
     refine Ak.inline rfl rfl Ae rfl (λus ms=>?_)
     conv=>whnf
     repeat(refine sT rfl ?_;conv=>whnf)
     refine⟨⟨rfl,rfl⟩,?_⟩;conv=>whnf
     exact hP _ _ _ _ hi (Re (by simp at h6;omega))
    replace h6:¬60≤i:=by simp at h6;omega
    repeat(refine sT rfl ?_;conv=>whnf)
    refine Ac.cP (λ_:Unit=>mk 95 [(0,E6 r),(2,.ptr 1 0),(3,.ptr 2 0),(4,.ptr 3 0),(5,.ptr 5 0),(6,I8),(7,.ptr 7 0),(8,.ptr 8 0),(9,.fn 113 [.ptr 7 0]),(16,E6 r),(17,.int .i64 r.length),(18,.int .i64 i),(29,.bool (Jw (DL r i) (r[i]'hi).da))])
     (λ_=>Wq vs L++[.cells [.int .i64 i],.cells (chC (r[i]'hi))]) (λ_=>True) (λ_ _=>⟨rfl,by(conv=>whnf);exact⟨rfl,rfl,rfl,rfl,rfl,Gs _,rfl,by exact⟨rfl,trivial⟩⟩⟩) (λ_=>CA _) ?_ λ_ _=>?_
    ·refine Ac.draw [] Ae mO (by kernel_rfl) ?_
     conv=>whnf
     refine⟨λh0=>?_,λh0=>?_⟩
     ·have h0:0<i:=by simp at h0;omega
      have hp:DL r i=some (r[i-1]).da:=by unfold DL;rw[if_neg (by omega),Aq (by omega)];rfl
      have e1:Wr .i64 ((i:Int)-1)=((i-1:Nat):Int):=by rw[AH _ (by omega) (by omega)];omega
      conv=>whnf
      repeat(refine sT rfl ?_;conv=>whnf)
      refine⟨(by rw[show(((i,L):Nat×List (St×Sv)).1:Int)=(i:Int)from rfl,e1];omega),(r[i-1]).v,by(rw[show(((i,L):Nat×List (St×Sv)).1:Int)=(i:Int)from rfl,e1];simp[show i-1<r.length by omega]),?_⟩
      conv=>whnf
      refine Ao (λh=>?_) (λh=>?_)
      all_goals (conv=>whnf)
      all_goals refine⟨(),?_⟩
      all_goals rw[hp,show Jw (some r[i-1].da) r[i].da=decide (r[i].da<r[i-1].da)from rfl,h]
      ·conv=>whnf
       repeat(refine Ao ?_ ?_;(focus (first|rfl|(simp;done)));conv=>whnf)
       exact trivial
      ·conv=>whnf
       repeat(refine Ao ?_ ?_;(focus (first|rfl|(simp;done)));conv=>whnf)
       exact trivial
     ·have h0:i=0:=by simp at h0;omega
      have hp:DL r i=none:=by unfold DL;rw[if_pos h0]
      conv=>whnf
      repeat(refine sT rfl ?_;conv=>whnf)
      refine⟨(),?_⟩;rw[hp];conv=>whnf
      repeat(refine Ao ?_ ?_;(focus (first|rfl|(simp;done)));conv=>whnf)
      exact trivial
    repeat(refine sT rfl ?_;conv=>whnf)
    refine⟨λhd=>?_,λhd=>?_⟩
    ·conv=>whnf
     repeat(refine sT rfl ?_;conv=>whnf)
     refine Ak.inline rfl rfl Ae rfl (λus ms=>?_)
     conv=>whnf
     repeat(refine sT rfl ?_;conv=>whnf)
     refine⟨⟨rfl,rfl⟩,?_⟩;conv=>whnf
     exact hP _ _ _ _ hi (Ui h6 hd)
    repeat' (first|(refine Ao (λ_=>?_) (λ_=>?_)<;>conv=>whnf)|(refine cS (aZ (r[i]).da) rfl ?_;conv=>whnf)|(refine cS (gT r[i]) rfl ?_;conv=>whnf)|(refine sT rfl ?_;conv=>whnf))
    ·rename_i h1 h2;refine Ak.inline rfl rfl Ae rfl (λus ms=>?_)
     conv=>whnf
     repeat(refine sT rfl ?_;conv=>whnf)
     refine⟨⟨rfl,rfl⟩,?_⟩;conv=>whnf
     exact hP _ _ _ _ hi (MO h6 hd (by simp at h1 h2;simp[h1,h2]))
    ·rename_i h1 h2 h3;refine Ak.inline rfl rfl Ae rfl (λus ms=>?_)
     conv=>whnf
     repeat(refine sT rfl ?_;conv=>whnf)
     refine⟨λh4=>?_,λh4=>?_⟩
     ·conv=>whnf
      repeat(refine sT rfl ?_;conv=>whnf)
      refine⟨λh5=>?_,λh5=>?_⟩
      ·conv=>whnf
       repeat(refine sT rfl ?_;conv=>whnf)
       simp only[decide_eq_true_eq]at h4 h5
       refine⟨⟨h4,h5⟩,?_⟩
       conv=>whnf
       have AR:(r[i]).sr.toNat<L.length:=by omega
       refine⟨_,C7 AR,?_⟩
       conv=>whnf
       repeat(refine sT rfl ?_;conv=>whnf)
       refine⟨⟨rfl,rfl⟩,?_⟩
       conv=>whnf
       repeat(refine sT rfl ?_;conv=>whnf)
       refine⟨λh7=>?_,λh7=>?_⟩
       ·conv=>whnf
        repeat(refine sT rfl ?_;conv=>whnf)
        refine Ak.inline rfl rfl Ae rfl (λus ms=>?_)
        conv=>whnf
        repeat(refine sT rfl ?_;conv=>whnf)
        refine⟨⟨rfl,rfl⟩,?_⟩
        conv=>whnf
        exact hP _ _ _ _ hi (by rw[step_mk h6 hd (by simp at h1 h2;simp[h1,h2]),Cz (by simpa using h3) (by rw[eK h4 AR];simpa using h7)])
       ·conv=>whnf
        repeat(refine sT rfl ?_;conv=>whnf)
        refine⟨(),?_⟩
        conv=>whnf
        repeat(refine Ao ?_ ?_;(focus (first|rfl|(simp;done)));conv=>whnf)
        exact⟨step_mk h6 hd (by simp at h1 h2;simp[h1,h2]),by simpa using h2,.inr (by rw[eK h4 AR];simpa using h7),by omega⟩
      ·conv=>whnf
       repeat(refine sT rfl ?_;conv=>whnf)
       refine⟨⟨rfl,rfl⟩,?_⟩
       conv=>whnf
       repeat(refine sT rfl ?_;conv=>whnf)
       refine Ak.inline rfl rfl Ae rfl (λus ms=>?_)
       conv=>whnf
       repeat(refine sT rfl ?_;conv=>whnf)
       refine⟨⟨rfl,rfl⟩,?_⟩
       conv=>whnf
       exact hP _ _ _ _ hi (by rw[step_mk h6 hd (by simp at h1 h2;simp[h1,h2]),Cz (by simpa using h3) (tW (by simpa using h4) (by simp at h5;simpa using h5))])
     ·conv=>whnf
      repeat(refine sT rfl ?_;conv=>whnf)
      refine⟨⟨rfl,rfl⟩,?_⟩;conv=>whnf
      repeat(refine sT rfl ?_;conv=>whnf)
      refine Ak.inline rfl rfl Ae rfl (λus ms=>?_)
      conv=>whnf
      repeat(refine sT rfl ?_;conv=>whnf)
      refine⟨⟨rfl,rfl⟩,?_⟩;conv=>whnf
      exact hP _ _ _ _ hi (by rw[step_mk h6 hd (by simp at h1 h2;simp[h1,h2]),Cz (by simpa using h3) (K3 (by simpa using h4))])
    ·rename_i h1 h2 h3;refine⟨(),?_⟩;conv=>whnf
     repeat(refine Ao ?_ ?_;(focus (first|rfl|(simp;done)));conv=>whnf)
     exact⟨step_mk h6 hd (by simp at h1 h2;simp[h1,h2]),by simpa using h2,.inl (by simpa using h3),by omega⟩
    ·rename_i h1;refine Ak.inline rfl rfl Ae rfl (λus ms=>?_)
     conv=>whnf
     repeat(refine sT rfl ?_;conv=>whnf)
     refine⟨⟨rfl,rfl⟩,?_⟩;conv=>whnf
     exact hP _ _ _ _ hi (MO h6 hd (by simp at h1;simp[h1]))
   ·refine Ac.seq ?_
    refine Ac.cP (λy:List (St×Sv)×Int×Int=>mk 95 [(0,E6 r),(2,.ptr 1 0),(3,.ptr 2 0),(4,.ptr 3 0),(5,.ptr 5 0),(6,I8),(7,.ptr 7 0),(8,.ptr 8 0),(9,.fn 113 [.ptr 7 0]),(10,.int .i64 y.2.1),(11,.int .i64 y.2.2),(16,E6 r),(17,.int .i64 r.length),(18,.int .i64 i)])
     (λy=>Wq vs y.1++[.cells [.int .i64 i],.cells (chC (r[i]'hi))]) (gJ (i+1) (L.map Bc) (r[i]'hi)) (λ_ _=>⟨rfl,by(conv=>whnf);exact⟨rfl,rfl,rfl,rfl,rfl,Gs _,rfl,by exact⟨rfl,trivial⟩⟩⟩) (λ_=>CA _) ?_ λy hy=>?_
    ·clear hP hK;repeat(refine sT rfl ?_;conv=>whnf)
     refine⟨by intro a ha;simp only[D0,List.not_mem_nil,or_false]at ha;rcases ha with rfl|rfl|rfl|rfl|rfl|rfl<;>rfl,λh=>absurd h (jL hc.mH),λv hv=>?_⟩
     conv=>whnf
     obtain⟨hv,hs⟩:=pB hc.mH hv;rcases hv with⟨hk,rfl⟩|⟨hk,rfl⟩|⟨hk,rfl⟩|⟨hk,rfl⟩|⟨hk,rfl⟩|⟨hk,rfl⟩;all_goals (conv=>whnf)
     all_goals refine Ak.inline rfl rfl Ae rfl (λus ms=>?_)
     all_goals (conv=>whnf)
     ·refine Ac.zG (e0:=9) (ts:=FL L) rfl ?_;conv=>whnf
      repeat(refine sT rfl ?_;conv=>whnf)
      refine Ac.P0 [16] [17,20] Ae mO (by kernel_rfl) ?_
      conv=>whnf
      refine⟨⟨by simp[Ce],by simp[Ce];have:=hx.m;omega⟩,?_⟩
      conv=>whnf
      refine Ac.Dj 6 rfl (nH L r[i]) ?_;conv=>whnf
      repeat(refine sT rfl ?_;conv=>whnf)
      refine⟨⟨rfl,rfl⟩,?_⟩;conv=>whnf
      repeat(refine sT rfl ?_;conv=>whnf)
      refine⟨(L++[(Qt r[i],Sv.nil)],L.length,0),?_⟩;conv=>whnf
      repeat(refine Ao ?_ ?_;(focus (first|rfl|(simp;done)|(first|exact yY _ _ hx.m|exact congrArg (λx=>HO.inv (Gh 9 x)) (mL _ _)|exact tT _ _ _;done)));conv=>whnf)
      exact jJ hk hc.mH hx.cnt hx.ok
     ·repeat(refine sT rfl ?_;conv=>whnf)
      refine Ac.draw [10] Ae mO (by kernel_rfl) ?_
      conv=>whnf
      have N1:=hc.opn.resolve_left (by rw[hk];decide)
      have Dt:=Nc N1;refine⟨Dt.1,?_⟩;conv=>whnf
      refine⟨_,C7 Dt.2,?_⟩;conv=>whnf
      repeat(refine sT rfl ?_;conv=>whnf)
      refine⟨⟨rfl,rfl⟩,?_⟩;conv=>whnf
      repeat(refine sT rfl ?_;conv=>whnf)
      refine⟨(L.set (r[i]).sr.toNat ({L[(r[i]).sr.toNat].1 with na:=(r[i]).na},L[(r[i]).sr.toNat].2),(r[i]).sr,0),?_⟩
      conv=>whnf
      repeat(refine Ao ?_ ?_;(focus (first|rfl|(simp;done)|(first|exact congrArg (HO.arr 97 8) (Ih L _ {L[(r[i]).sr.toNat].1 with na:=(r[i]).na} L[(r[i]).sr.toNat].2)|exact congrArg (λx=>HO.inv (Gh 9 x)) (MK Dt.2 (by rfl)).symm;done)));conv=>whnf)
      exact Ir (s':={L[(r[i]).sr.toNat].1 with na:=(r[i]).na}) Dt.2 (by have:=Dt.1.1;omega) N1 (by rw[hk];decide) (by simp[Dd,hk]) (((hx.ok _ (AO Dt.2)).mono (BJ i)).mB (VR hc.mH (.inl hk))) hx.cnt hx.ok
     ·repeat(refine sT rfl ?_;conv=>whnf)
      refine Ac.draw [10] Ae mO (by kernel_rfl) ?_
      conv=>whnf
      have N1:=hc.opn.resolve_left (by rw[hk];decide)
      have Dt:=Nc N1;refine⟨Dt.1,?_⟩;conv=>whnf
      refine⟨_,C7 Dt.2,?_⟩;conv=>whnf
      repeat(refine sT rfl ?_;conv=>whnf)
      refine⟨⟨rfl,rfl⟩,?_⟩;conv=>whnf
      repeat(refine sT rfl ?_;conv=>whnf)
      refine⟨(L.set (r[i]).sr.toNat ({L[(r[i]).sr.toNat].1 with co:=(r[i]).co},L[(r[i]).sr.toNat].2),(r[i]).sr,0),?_⟩
      conv=>whnf
      repeat(refine Ao ?_ ?_;(focus (first|rfl|(simp;done)|(first|exact congrArg (HO.arr 97 8) (Ih L _ {L[(r[i]).sr.toNat].1 with co:=(r[i]).co} L[(r[i]).sr.toNat].2)|exact congrArg (λx=>HO.inv (Gh 9 x)) (MK Dt.2 (by rfl)).symm;done)));conv=>whnf)
      exact Ir (s':={L[(r[i]).sr.toNat].1 with co:=(r[i]).co}) Dt.2 (by have:=Dt.1.1;omega) N1 (by rw[hk];decide) (by simp[Dd,hk]) (((hx.ok _ (AO Dt.2)).mono (BJ i)).mC _) hx.cnt hx.ok
     ·refine Ac.wT (cs:=chC (r[i])) 8 8 (k:=.i64) (v:=(r[i]).sh) rfl rfl λvL=>?_
      repeat(refine sT rfl ?_;conv=>whnf)
      refine Ac.draw [] Ae mO (by kernel_rfl) ?_
      conv=>whnf
      have N1:=hc.opn.resolve_left (by rw[hk];decide)
      have Dt:=Nc N1;refine⟨Dt.1,?_⟩;conv=>whnf
      repeat(refine sT rfl ?_;conv=>whnf)
      refine Ac.draw [] Ae mO (by kernel_rfl) ?_
      conv=>whnf
      refine⟨_,C7 Dt.2,?_⟩;conv=>whnf
      refine⟨_,⟨FJ _,rfl⟩,?_⟩;conv=>whnf
      refine⟨λh7=>?_,λh7=>?_⟩
      ·conv=>whnf
       repeat(refine sT rfl ?_;conv=>whnf)
       refine⟨_,C7 Dt.2,?_⟩
       conv=>whnf
       refine⟨_,⟨FJ _,rfl⟩,?_⟩
       conv=>whnf
       repeat(refine sT rfl ?_;conv=>whnf)
       refine⟨λh8=>?_,λh8=>?_⟩
       ·conv=>whnf
        repeat(refine sT rfl ?_;conv=>whnf)
        refine Ac.yS (λ_=>6) [0,1,2,3,4,5,6,7,8,9,10,11,12,13,14,15,16,17,18,19,20,21,22,23,24,25,26,27,28,29,30,31,32] [] [26,29,32] [14,15,21,22] Ae (by kernel_rfl) (by kernel_rfl) rfl ?_
        conv=>whnf
        refine⟨_,C7 Dt.2,?_⟩
        conv=>whnf
        refine⟨_,C7 Dt.2,?_⟩
        conv=>whnf
        refine⟨rfl,?_⟩
        conv=>whnf
        refine⟨rfl,?_⟩
        conv=>whnf
        refine⟨_,C7 Dt.2,?_⟩
        conv=>whnf
        refine⟨rfl,?_⟩
        conv=>whnf
        refine⟨rfl,?_⟩
        conv=>whnf
        refine⟨⟨rfl,rfl⟩,?_⟩
        conv=>whnf
        refine⟨_,C7 Dt.2,?_⟩
        conv=>whnf
        refine⟨⟨rfl,rfl⟩,?_⟩
        conv=>whnf
        refine⟨_,ZQ Dt.2,?_⟩
        conv=>whnf
        refine⟨⟨rfl,rfl⟩,?_⟩
        conv=>whnf
        refine⟨_,Xi Dt.2,?_⟩
        conv=>whnf
        have Ah:=hx.ok _ (AO Dt.2)
        rw[Vl Ah.lo vL]at h7
        rw[Vl Ah.hi vL]at h8
        have e1:=dM Ah.lo h7
        have e2:=dM Ah.hi h8
        have n1:=Ga h7
        have n2:=Ga h8
        have n3:=Ah.sh
        have n4:=Ah.lo
        have e3:Wr .i64 (L[(r[i]).sr.toNat].1.sh+(r[i]).sh)=L[(r[i]).sr.toNat].1.sh+(r[i]).sh:=AH _ (by omega) (by omega)
        repeat(refine sT rfl ?_;conv=>whnf)
        refine⟨⟨rfl,rfl⟩,?_⟩
        conv=>whnf
        repeat(refine sT rfl ?_;conv=>whnf)
        refine⟨(L.set (r[i]).sr.toNat ({L[(r[i]).sr.toNat].1 with lo:=L[(r[i]).sr.toNat].1.lo+(r[i]).sh,hi:=L[(r[i]).sr.toNat].1.hi+(r[i]).sh,sh:=L[(r[i]).sr.toNat].1.sh+(r[i]).sh},L[(r[i]).sr.toNat].2),(r[i]).sr,0),?_⟩
        conv=>whnf
        repeat(refine Ao ?_ ?_;(focus (first|rfl|(simp;done)|(first|exact congrArg (HO.arr 97 8) (iJ L _ {L[(r[i]).sr.toNat].1 with lo:=L[(r[i]).sr.toNat].1.lo+(r[i]).sh,hi:=L[(r[i]).sr.toNat].1.hi+(r[i]).sh,sh:=L[(r[i]).sr.toNat].1.sh+(r[i]).sh} L[(r[i]).sr.toNat].2 (by rw[e1,e2,e3];rfl))|exact congrArg (λx=>HO.inv (Gh 9 x)) (MK Dt.2 (by rfl)).symm;done)));conv=>whnf)
        exact Ir (s':={L[(r[i]).sr.toNat].1 with lo:=L[(r[i]).sr.toNat].1.lo+(r[i]).sh,hi:=L[(r[i]).sr.toNat].1.hi+(r[i]).sh,sh:=L[(r[i]).sr.toNat].1.sh+(r[i]).sh}) Dt.2 (by have:=Dt.1.1;omega) N1 (by rw[hk];decide) (by simp[Dd,hk,h7,h8])
         ⟨Ah.na,Ef Ah.al,Ah.lV,n1,n2,by simp only;omega⟩ hx.cnt hx.ok
       ·conv=>whnf
        repeat(refine sT rfl ?_;conv=>whnf)
        refine⟨⟨rfl,rfl⟩,?_⟩
        conv=>whnf
        repeat(refine sT rfl ?_;conv=>whnf)
        refine⟨(L,(r[i]).sr,1),?_⟩
        conv=>whnf
        repeat(refine Ao ?_ ?_;(focus (first|rfl|(simp;done)));conv=>whnf)
        exact Sa Dt.2 (by have:=Dt.1.1;omega) N1 (by rw[hk];decide) (by simp[Dd,hk,←Vl (hx.ok _ (AO Dt.2)).hi vL,h8]) (by decide)
      ·conv=>whnf
       repeat(refine sT rfl ?_;conv=>whnf)
       refine⟨⟨rfl,rfl⟩,?_⟩
       conv=>whnf
       repeat(refine sT rfl ?_;conv=>whnf)
       refine⟨(L,(r[i]).sr,1),?_⟩
       conv=>whnf
       repeat(refine Ao ?_ ?_;(focus (first|rfl|(simp;done)));conv=>whnf)
       exact Sa Dt.2 (by have:=Dt.1.1;omega) N1 (by rw[hk];decide) (by simp[Dd,hk,←Vl (hx.ok _ (AO Dt.2)).lo vL,h7]) (by decide)
     ·repeat(refine sT rfl ?_;conv=>whnf)
      refine Ac.draw [] Ae mO (by kernel_rfl) ?_
      conv=>whnf
      have N1:=hc.opn.resolve_left (by rw[hk];decide)
      have Dt:=Nc N1;refine⟨Dt.1,?_⟩;conv=>whnf
      repeat(refine sT rfl ?_;conv=>whnf)
      refine Ac.draw [5] Ae mO (by kernel_rfl) ?_
      conv=>whnf
      refine⟨_,C7 Dt.2,?_⟩;conv=>whnf
      have Ah:=hx.ok _ (AO Dt.2)
      refine Ak.Zag (e0:=9) (ts:=FL L) (as':=[L[(r[i]).sr.toNat].1.v,.str (r[i]).na]) rfl ⟨Zey ⟨MG rfl,MG rfl,MG rfl,Zcb (WR Dt.2),MG rfl,MG rfl,MG rfl,MG rfl,trivial⟩,gQ rfl,trivial⟩
       (GB L[(r[i]).sr.toNat].1 (r[i]).na (by have:=Ah.al;have:=hc.lt;omega) (by have:=Ah.na;omega) (λa ha=>by have:=Ah.lV a ha;omega)) rfl ?_
      conv=>whnf
      repeat(refine sT rfl ?_;conv=>whnf)
      refine⟨λh7=>?_,λh7=>?_⟩
      ·conv=>whnf
       repeat(refine sT rfl ?_;conv=>whnf)
       refine⟨⟨rfl,rfl⟩,?_⟩
       conv=>whnf
       repeat(refine sT rfl ?_;conv=>whnf)
       refine⟨(L,(r[i]).sr,4),?_⟩
       conv=>whnf
       repeat(refine Ao ?_ ?_;(focus (first|rfl|(simp;done)));conv=>whnf)
       exact Sa Dt.2 (by have:=Dt.1.1;omega) N1 (by rw[hk];decide) (by simp[Dd,hk,h7]) (by decide)
      ·conv=>whnf
       repeat(refine sT rfl ?_;conv=>whnf)
       refine Ac.yS (λk=>match k with|8=>0|_=>6) [0,1,2,3,4,5,6,7,8,9,10,11] [7] [8,11] [] Ae (by kernel_rfl) (by kernel_rfl) rfl ?_
       conv=>whnf
       refine⟨_,C7 Dt.2,?_⟩
       conv=>whnf
       refine⟨rfl,?_⟩
       conv=>whnf
       refine⟨FL L,(r[i]).sr.toNat,L[(r[i]).sr.toNat].2,L[(r[i]).sr.toNat].1.al,[(r[i]).na],⟨rfl,rfl,WR Dt.2,rfl,by simp,by have:=Ah.al;have:=hc.lt;simp;omega⟩,λs'=>?_⟩
       conv=>whnf
       refine⟨⟨rfl,rfl⟩,?_⟩
       conv=>whnf
       refine⟨_,C7 Dt.2,?_⟩
       conv=>whnf
       repeat(refine sT rfl ?_;conv=>whnf)
       refine⟨⟨rfl,rfl⟩,?_⟩
       conv=>whnf
       repeat(refine sT rfl ?_;conv=>whnf)
       refine⟨(L.set (r[i]).sr.toNat ({L[(r[i]).sr.toNat].1 with al:=L[(r[i]).sr.toNat].1.al++[(r[i]).na]},s'),(r[i]).sr,0),?_⟩
       conv=>whnf
       repeat(refine Ao ?_ ?_;(focus (first|rfl|(simp;done)|(first|exact congrArg (HO.arr 97 8) (Ih L _ {L[(r[i]).sr.toNat].1 with al:=L[(r[i]).sr.toNat].1.al++[(r[i]).na]} s')|exact congrArg (λx=>HO.inv (Gh 9 x)) (mK L _ {L[(r[i]).sr.toNat].1 with al:=L[(r[i]).sr.toNat].1.al++[(r[i]).na]} s');done)));conv=>whnf)
       exact Ir (s':={L[(r[i]).sr.toNat].1 with al:=L[(r[i]).sr.toNat].1.al++[(r[i]).na]}) Dt.2 (by have:=Dt.1.1;omega) N1 (by rw[hk];decide) (by simp[Dd,hk,h7])
        ⟨Ah.na,by have:=Ah.al;simp;omega,λa ha=>by(simp only[B7,Cb]at ha;rcases ha with ha|rfl;exact Ah.lV a ha;exact VR hc.mH (.inr hk)),Ah.lo,Ah.hi,Ah.sh⟩ hx.cnt hx.ok
     ·repeat(refine sT rfl ?_;conv=>whnf)
      refine Ac.draw [8] Ae mO (by kernel_rfl) ?_
      conv=>whnf
      have N1:=hc.opn.resolve_left (by rw[hk];decide)
      have Dt:=Nc N1;refine⟨Dt.1,?_⟩;conv=>whnf
      refine⟨_,C7 Dt.2,?_⟩;conv=>whnf
      refine Ac.Dj 6 rfl (iI L _ {L[(r[i]).sr.toNat].1 with op:=false} _) ?_
      conv=>whnf
      repeat(refine sT rfl ?_;conv=>whnf)
      refine⟨⟨rfl,rfl⟩,?_⟩;conv=>whnf
      repeat(refine sT rfl ?_;conv=>whnf)
      refine⟨(L.set (r[i]).sr.toNat ({L[(r[i]).sr.toNat].1 with op:=false},L[(r[i]).sr.toNat].2),(r[i]).sr,0),?_⟩
      conv=>whnf
      repeat(refine Ao ?_ ?_;(focus (first|rfl|(simp;done)|(first|exact congrArg (HO.arr 97 8) (Ih L _ {L[(r[i]).sr.toNat].1 with op:=false} L[(r[i]).sr.toNat].2)|exact congrArg (λx=>HO.inv (Gh 9 x)) (MK Dt.2 (by rfl)).symm;done)));conv=>whnf)
      exact Ir (s':={L[(r[i]).sr.toNat].1 with op:=false}) Dt.2 (by have:=Dt.1.1;omega) N1 (by rw[hk];decide) (by simp[Dd,hk]) (((hx.ok _ (AO Dt.2)).mono (BJ i)).mA _) hx.cnt hx.ok
    ·repeat(refine sT rfl ?_;conv=>whnf)
     refine⟨λhe=>?_,λhe=>?_⟩
     ·have he:y.2.2≠0:=by simpa using he
      have hm:K5 (L.map Bc) r[i]=.error y.2.2:=by
       rcases hy with hy|hy;·exact absurd hy.1 he
       ·exact hy.2
      conv=>whnf
      repeat(refine sT rfl ?_;conv=>whnf)
      refine Ak.inline rfl rfl Ae rfl (λus ms=>?_)
      conv=>whnf
      repeat(refine sT rfl ?_;conv=>whnf)
      refine⟨⟨rfl,rfl⟩,?_⟩;conv=>whnf
      exact hP _ _ _ _ hi (by rw[hc.step,hm])
     ·have he:y.2.2=0:=by simpa using he
      obtain⟨-,m,hm,AR,UZ,Wb,ok1⟩:y.2.2=0∧∃m:Nat,y.2.1=m∧m<y.1.length∧K5 (L.map Bc) r[i]=.ok (y.1.map Bc,m)∧y.1.length≤i+1∧∀x∈y.1,BW x.1 (i+1):=by
       rcases hy with hy|hy;·exact hy
       ·exact absurd he hy.1
      have Zit:=hc.lt;conv=>whnf
      repeat(refine sT rfl ?_;conv=>whnf)
      refine Ak.uD (e0:=9) (ts:=FL y.1) (as':=[.at_ [Lq (y.1.map Bc)],.int .i64 (m:Int)]) rfl
       ⟨.inr ⟨5,_,_,rfl,rfl,rfl,⟨.inr ⟨6,8,_,Ce y.1,_,by rw[iL],rfl,rfl,Uq y.1⟩,trivial⟩⟩,.inl (by rw[hm];exact gQ rfl),trivial⟩
       (Wp (y.1.map Bc) m (by simpa using AR) (by simp;omega) λs hs=>by
        obtain⟨x,TN,rfl⟩:=BV.1 hs
        have q:=ok1 x TN
        exact⟨by have:=q.al;omega,by have:=q.na;omega,λa ha=>by have:=q.lV a ha;omega⟩) rfl ?_
      conv=>whnf
      repeat(refine sT rfl ?_;conv=>whnf)
      refine⟨λh9=>?_,λh9=>?_⟩
      ·conv=>whnf
       repeat(refine sT rfl ?_;conv=>whnf)
       refine Ak.inline rfl rfl Ae rfl (λus ms=>?_)
       conv=>whnf
       repeat(refine sT rfl ?_;conv=>whnf)
       refine⟨⟨rfl,rfl⟩,?_⟩
       conv=>whnf
       exact hP _ _ _ _ hi (by rw[hc.step,UZ];simp only;rw[if_pos h9])
      ·conv=>whnf
       repeat(refine sT rfl ?_;conv=>whnf)
       rw[hK]
       refine⟨(i+1,y.1),?_⟩
       clear hP hK
       conv=>whnf
       repeat(refine Ao ?_ ?_;(focus (first|rfl|(simp;done)|(first|(show Wr .i64 _=_;rw[AH _ (by omega) (by omega)];rfl);done)));conv=>whnf)
       refine⟨⟨by simp only;omega,Wb,by simp only;omega,ok1,?_⟩,by simp only;omega⟩
       rw[←hx.run,nF hi (show Gi (DL r i) i (L.map Bc) r[i]=.ok (y.1.map Bc) by rw[hc.step,UZ];simp only;rw[if_neg (by rw[h9];simp)])]
       have hp:DL r (i+1)=some r[i].da:=by unfold DL;rw[if_neg (by omega),Nat.add_sub_cancel,Aq hi];rfl
       rw[←hp]
  ·have hi:i=r.length:=by have:=hx.le;simp at hi;omega
   repeat(refine sT rfl ?_;conv=>whnf)
   rw[hX];conv=>whnf
   refine Ac.Zck (l:=6) (rows':=(L.map Bc).map St.v) rfl rfl (Uq L) ?_;conv=>whnf
   clear hX hP hK;refine Ac.freeze 6 ?_;conv=>whnf
   refine⟨λa ha=>by obtain⟨s,_,rfl⟩:=BV.1 ha;rfl,?_⟩
   conv=>whnf
   repeat(refine⟨(by first|rfl|(simp;done):(_:Nat)=_),?_⟩;conv=>whnf)
   repeat(refine sT rfl ?_;conv=>whnf)
   refine⟨⟨_,rfl⟩,Zgk r _ vs _ _ _ 0 (-1) ?_⟩;rw[←hx.run,hi,EX];rfl
def F8(r:List Ch)(day:Int):List Ch:=r.takeWhile λc=>decide (c.da≤day)
def AY(r:List Ch):Bool:=decide ((DU r).2.1=0)
def JH(r:List Ch)(day:Int):List St:=if AY r then (DU (F8 r day)).1 else []
theorem wP{s:St}{c:Ch}{e:Int}(h:Dd s c=.error e):e≠0:=by
 unfold Dd at h;repeat' (first|(cases h;done)|(cases h;decide)|split at h)
theorem Zcy{l:List St}{c:Ch}{e:Int}(h:K5 l c=.error e):e≠0:=by
 unfold K5 at h;split at h;·cases h
 ·split at h
  ·split at h
   ·split at h;·cases h
    ·rename_i he;cases h;exact wP he
   ·cases h;decide
  ·cases h;decide
theorem Vr{p:Option Int}{i:Nat}{l:List St}{c:Ch}{e:Int}(h:Gi p i l c=.error e):e≠0:=by
 rw[step_eq]at h;split at h;·cases h;decide
 ·split at h;·cases h;decide
  ·split at h;·cases h;decide
   ·split at h
    ·rename_i he;cases h;exact Zcy he
    ·split at h;·cases h;decide
     ·cases h
theorem QI:∀(r:List Ch)(i:Nat)(p:Option Int)(l:List St),(L1 r i p l).2.1=0→i≤60→i+r.length≤60
 |[],i,p,l,_,hi=>by simpa using hi
 |c::r,i,p,l,h,hi=>by
  unfold L1 at h;split at h
  ·rename_i he;exact absurd h (Vr he)
  ·rename_i hs
   have h60:i<60:=by
    rcases CX i 60 with k|k;·exact k
    ·rw[Re k]at hs;cases hs
   have:=QI r (i+1) _ _ h (by omega)
   simp;omega
theorem hZ{r:List Ch}(h:AY r=true):r.length≤60:=by
 have:=QI r 0 none [] (by unfold AY DU at h;simpa using h) (by omega)
 omega
theorem dL(r:List Ch):Aw Tryz.prog 102 [E6 r] (λx=>x=.tuple [.int .i64 (DU r).2.1,.int .i64 (DU r).2.2]):=by
 refine Aw.Ai Tryz.func102 rfl Ae (by kernel_rfl) ?_
 conv=>whnf
 repeat(refine sT rfl ?_;conv=>whnf)
 refine cS (Jh r) rfl ?_;conv=>whnf
 repeat(refine sT rfl ?_;conv=>whnf)
theorem Wt(r:List Ch)(day:Int):Aw Tryz.prog 37 [E6 r,.int .i64 day] (λx=>x=.tuple [Lq (JH r day),.bool (AY r)]):=by
 refine Aw.Ai Tryz.func37 rfl Ae (by kernel_rfl) ?_
 conv=>whnf
 repeat(refine sT rfl ?_;conv=>whnf)
 refine cS (Jh r) rfl ?_;conv=>whnf
 repeat(refine sT rfl ?_;conv=>whnf)
 refine⟨λh=>?_,λh=>?_⟩
 ·have hs:AY r=false:=by unfold AY;simpa using h
  conv=>whnf
  repeat(refine sT rfl ?_;conv=>whnf)
  refine⟨8,?_⟩;conv=>whnf
  unfold JH;rw[hs];rfl
 ·have hs:AY r=true:=by unfold AY;simpa using h
  have hl:=hZ hs;conv=>whnf
  repeat(refine sT rfl ?_;conv=>whnf)
  refine Ac.AJ (λk:Nat=>mk 45 [(0,E6 r),(1,.int .i64 day),(9,.int .i64 k)]) (λ_=>[]) (λk=>k≤r.length∧F8 r day=r.take k++F8 (r.drop k) day) (λk=>r.length-k) (λ_ _=>⟨rfl,trivial⟩) ⟨0,?_⟩ (λ_=>rfl) λk hk=>?_
  ·conv=>whnf
   repeat(refine Ao ?_ ?_;(focus (first|rfl|(simp;done)|(simp;done)));conv=>whnf)
   rfl
  ·obtain⟨hk,ha⟩:=hk;repeat(refine sT rfl ?_;conv=>whnf)
   refine⟨λh1=>?_,λh1=>?_⟩
   ·have h1:k<r.length:=by simpa using h1
    conv=>whnf
    repeat(refine sT rfl ?_;conv=>whnf)
    refine⟨by omega,(r[k]).v,by simp[h1],?_⟩
    conv=>whnf
    repeat(refine sT rfl ?_;conv=>whnf)
    refine⟨λh2=>?_,λh2=>?_⟩
    ·have h2:(r[k]).da≤day:=by simpa using h2
     conv=>whnf
     repeat(refine sT rfl ?_;conv=>whnf)
     refine⟨k+1,?_⟩;conv=>whnf
     repeat(refine Ao ?_ ?_;(focus (first|rfl|(simp;done)|((show Wr .i64 _=_;rw[AH _ (by omega) (by omega)];rfl);done)));conv=>whnf)
     exact⟨⟨by omega,by rw[ha,Bh h1,Ba h1];unfold F8;rw[CM];simp only[h2,decide_true,if_true,List.append_assoc,List.singleton_append]⟩,by omega⟩
    ·have h2:¬(r[k]).da≤day:=by simpa using h2
     have hu:F8 r day=r.take k:=by rw[ha,Bh h1];unfold F8;rw[CM];simp[h2]
     conv=>whnf
     repeat(refine sT rfl ?_;conv=>whnf)
     have e2:AV.sl 9 (List.drop (E4 0) (List.take ((k:Int)).toNat (List.map Ch.v r)))=E6 (F8 r day):=by rw[hu];simp[E6,E9]
     have spec:Aw Tryz.prog 73 [AV.sl 9 (List.drop (E4 0) (List.take ((k:Int)).toNat (List.map Ch.v r)))] (λx=>x=tQ (DU (F8 r day))):=by rw[e2];exact Jh _
     refine⟨⟨by omega,by omega,by simp;omega⟩,?_⟩
     conv=>whnf
     repeat(refine sT rfl ?_;conv=>whnf)
     refine Ak.D3 spec rfl λx hx=>?_
     subst hx;conv=>whnf
     repeat(refine sT rfl ?_;conv=>whnf)
     unfold JH;rw[hs];rfl
   ·have h1:k=r.length:=by simp at h1;omega
    have hu:F8 r day=r.take k:=by rw[ha,h1,EX];simp[F8]
    conv=>whnf
    repeat(refine sT rfl ?_;conv=>whnf)
    have e2:AV.sl 9 (List.drop (E4 0) (List.take ((k:Int)).toNat (List.map Ch.v r)))=E6 (F8 r day):=by rw[hu];simp[E6,E9]
    have spec:Aw Tryz.prog 73 [AV.sl 9 (List.drop (E4 0) (List.take ((k:Int)).toNat (List.map Ch.v r)))] (λx=>x=tQ (DU (F8 r day))):=by rw[e2];exact Jh _
    refine⟨⟨by omega,by omega,by simp;omega⟩,?_⟩
    conv=>whnf
    repeat(refine sT rfl ?_;conv=>whnf)
    refine Ak.D3 spec rfl λx hx=>?_
    subst hx;conv=>whnf
    repeat(refine sT rfl ?_;conv=>whnf)
    unfold JH;rw[hs];rfl
namespace Pl
structure Ad where
 pe:Bs
 st:Bs
 nu:Int
 co:Bs
 tw:Bs
deriving DecidableEq
def Ad.v(a:Ad):AV:=.agg [.str a.pe,.str a.st,.int .i64 a.nu,.str a.co,.str a.tw]
structure Pt where
 s:Int
 n:Int
deriving DecidableEq
def Pt.v(p:Pt):AV:=.agg [.int .i64 p.s,.int .i64 p.n]
def My:Pt:=⟨0,0⟩
def Mw:Ad:=⟨[],[],0,[],[]⟩
def Fq(a:Ad)(s:St):Bool:=s.op&&decide (s.co=a.co)&&decide (s.lo≤a.nu)&&decide (a.nu≤s.hi)&&Cr s a.st
def NB(l:List St)(a:Ad):Pt×Int:=match l.findIdx? (Fq a)with
 |some i=>(match l[i]? with|some s=>(⟨i,a.nu-s.sh⟩,0)|none=>(My,3))
 |none=>(My,3)
def DD(r:List Ch)(day:Int)(a:Ad):Pt×Int:=if AY r then NB (JH r day) a else (My,1)
def Js(l:List St)(p:Pt):Ad×Int:=if p.s<0 then (Mw,3)else match l[p.s.toNat]? with
 |some s=>if !s.op||decide (p.n<s.lo-s.sh)||decide (s.hi-s.sh<p.n)then (Mw,3)else (⟨[],s.na,p.n+s.sh,s.co,s.to⟩,0)
 |none=>(Mw,3)
def Bm(r:List Ch)(day:Int)(p:Pt):Ad×Int:=if AY r then Js (JH r day) p else (Mw,1)
end Pl
theorem wO{s s':St}{c:Ch}{i:Nat}(hu:A8 c=true)(hk:c.ki≠1)(hs:BW s i)(h:Dd s c=.ok s'):BW s' (i+1):=by
 have hm:=hs.mono (BJ i);unfold Dd at h;split at h
 ·rename_i h2;cases h;exact hm.mB (VR hu (.inl h2))
 ·split at h
  ·cases h;exact hm.mC _
  ·split at h
   ·split at h
    ·rename_i hb;cases h;simp only[AZ]at hb;have:=hs.sh;exact⟨hs.na,Ef hs.al,hs.lV,Ga hb.1,Ga hb.2,by simp only;omega⟩
    ·cases h
   ·split at h
    ·rename_i h5;split at h;·cases h
     ·cases h;exact⟨hs.na,by have:=hs.al;simp;omega,λa ha=>by(simp only[B7,Cb]at ha;rcases ha with ha|rfl;exact hs.lV a ha;exact VR hu (.inr h5)),hs.lo,hs.hi,hs.sh⟩
    ·cases h;exact hm.mA _
theorem oR{l l':List St}{c:Ch}{i n:Nat}(hu:A8 c=true)(hs:∀s∈l,BW s i)(h:K5 l c=.ok (l',n)):(∀s∈l',BW s (i+1))∧l'.length≤l.length+1:=by
 unfold K5 at h;split at h
 ·rename_i hk;cases h;obtain⟨h1,h2,h3⟩:=Ue hu hk;refine⟨λs hx=>?_,by simp⟩
  rcases B7.1 hx with hx|hx;·exact(hs s hx).mono (BJ i)
  ·rw[Cb]at hx;subst hx;exact⟨R1 h1,E2 _,λa ha=>by simp[Qt]at ha,Ga h2,Ga h3,by have:=Ga h2;simp only[Qt];omega⟩
 ·rename_i hk;split at h
  ·split at h
   ·rename_i s hg;split at h
    ·rename_i s' he;cases h;refine⟨λy hy=>?_,by simp⟩
     rcases C1 hy with hy|rfl;·exact(hs y hy).mono (BJ i)
     ·exact wO hu hk (hs s (DC hg)) he
    ·cases h
   ·cases h
  ·cases h
theorem dQ{p:Option Int}{i:Nat}{l l':List St}{c:Ch}(h:Gi p i l c=.ok l'):i<60∧Jw p c.da=false∧F2 c.da=true∧A8 c=true∧∃n,K5 l c=.ok (l',n)∧FC l' n=false:=by
 rw[step_eq]at h;split at h;·cases h
 ·rename_i h60;split at h;·cases h
  ·rename_i hd;split at h;·cases h
   ·rename_i hu;simp only[Eh,Ei,AZ]at hu;split at h;·cases h
    ·rename_i l2 n hm;split at h;·cases h
     ·rename_i hc;cases h;exact⟨by omega,by simpa using hd,hu.1,hu.2,n,hm,by simpa using hc⟩
theorem Xh:∀(r:List Ch)(i:Nat)(p:Option Int)(l:List St),(∀s∈l,BW s i)→l.length≤i→i≤60→(∀s∈(L1 r i p l).1,BW s 60)∧(L1 r i p l).1.length≤60
 |[],i,p,l,h,hl,hi=>⟨λs hs=>(h s hs).mono hi,by show l.length≤60;omega⟩
 |c::r,i,p,l,h,hl,hi=>by
  unfold L1;split;·exact⟨λs hs=>(by cases hs),by simp⟩
  ·rename_i l' hs;obtain⟨h1,_,_,h4,n,h5,_⟩:=dQ hs;obtain⟨k1,k2⟩:=oR h4 h h5;exact Xh r (i+1) _ l' k1 (by omega) (by omega)
theorem dA(r:List Ch):(∀s∈(DU r).1,BW s 60)∧(DU r).1.length≤60:=Xh r 0 none [] (λs hs=>by cases hs) (CA _) (by omega)
theorem NO(r:List Ch)(day:Int):(∀s∈JH r day,BW s 60)∧(JH r day).length≤60:=by
 unfold JH;split;·exact dA _
 ·exact⟨λs hs=>(by cases hs),by simp⟩
theorem wI{l:List St}{a:Ad}{k:Nat}(hk:k<l.length)(h:∀j (hj:j<l.length),j<k→Fq a l[j]=false)(hm:Fq a l[k]=true):NB l a=(⟨k,a.nu-l[k].sh⟩,0):=by
 unfold NB;rw[Cf.2 ⟨hk,hm,λj hj=>by rw[h j (by omega) hj];decide⟩]
 simp only;rw[Aq hk]
theorem wH{l:List St}{a:Ad}(h:∀j (hj:j<l.length),Fq a l[j]=false):NB l a=(My,3):=by
 unfold NB;rw[List.findIdx?_eq_none_iff.2 λx hx=>by obtain⟨i,hi,rfl⟩:=CW hx;exact h i hi]
theorem gL(r:List Ch)(day:Int):Aw Tryz.prog 49 [E6 r,.int .i64 day] (λx=>x=Lq (JH r day)):=by
 refine Aw.Ai Tryz.func49 rfl Ae (by kernel_rfl) ?_
 conv=>whnf
 repeat(refine sT rfl ?_;conv=>whnf)
 refine cS (Wt r day) rfl ?_;conv=>whnf
 repeat(refine sT rfl ?_;conv=>whnf)
 rfl
theorem FD(r:List Ch)(day:Int)(p:Pt):Aw Tryz.prog 16 [E6 r,.int .i64 day,p.v] (λx=>x=.tuple [(Bm r day p).1.v,.int .i64 (Bm r day p).2]):=by
 refine Aw.Ai Tryz.func16 rfl Ae (by kernel_rfl) ?_
 conv=>whnf
 repeat(refine sT rfl ?_;conv=>whnf)
 refine cS (Wt r day) rfl ?_;conv=>whnf
 repeat(refine sT rfl ?_;conv=>whnf)
 refine⟨λh=>?_,λh=>?_⟩
 ·have hs:AY r=false:=by simpa using h
  conv=>whnf
  repeat(refine sT rfl ?_;conv=>whnf)
  unfold Bm;rw[hs];rfl
 ·have hs:AY r=true:=by simpa using h
  obtain⟨D5,hlen⟩:=NO r day;have hn:Bm r day p=Js (JH r day) p:=by unfold Bm;rw[hs];rfl
  rw[hn];generalize JH r day=l at*;conv=>whnf
  repeat(refine sT rfl ?_;conv=>whnf)
  repeat' (first|(refine Ao (λ_=>?_) (λ_=>?_)<;>conv=>whnf)|(refine sT rfl ?_;conv=>whnf))
  ·rename_i h1 h2;simp only[decide_eq_false_iff_not,decide_eq_true_eq,C4]at h1 h2;unfold Js;rw[if_neg h1,BC (by omega)]
   rfl
  ·rename_i h1 h2;simp only[decide_eq_false_iff_not,C4]at h1 h2;have AR:p.s.toNat<l.length:=by omega
   have Ah:=D5 _ (AO AR);obtain⟨q1,q2⟩:=Ah.lo;obtain⟨q3,q4⟩:=Ah.hi;obtain⟨q5,q6⟩:=Ah.sh;have e1:Wr .i64 (l[p.s.toNat].lo-l[p.s.toNat].sh)=l[p.s.toNat].lo-l[p.s.toNat].sh:=AH _ (by omega) (by omega)
   have e2:Wr .i64 (l[p.s.toNat].hi-l[p.s.toNat].sh)=l[p.s.toNat].hi-l[p.s.toNat].sh:=AH _ (by omega) (by omega)
   have lO:Js l p=if !l[p.s.toNat].op||decide (p.n<l[p.s.toNat].lo-l[p.s.toNat].sh)||decide (l[p.s.toNat].hi-l[p.s.toNat].sh<p.n)then (Mw,3)else (⟨[],l[p.s.toNat].na,p.n+l[p.s.toNat].sh,l[p.s.toNat].co,l[p.s.toNat].to⟩,0):=by
    unfold Js;rw[if_neg h1,Aq AR]
   rw[lO];refine⟨by omega,l[p.s.toNat].v,by simp[AR],?_⟩
   conv=>whnf
   repeat(refine sT rfl ?_;conv=>whnf)
   repeat' (first|(refine Ao (λ_=>?_) (λ_=>?_)<;>conv=>whnf)|(refine sT rfl ?_;conv=>whnf))
   ·rename_i a1 a2 a3;rw[e2]at a3;rw[if_pos (by rw[a3];simp)]
    rfl
   ·rename_i a1 a2 a3;rw[e1]at a2;rw[e2]at a3;have e3:Wr .i64 (p.n+l[p.s.toNat].sh)=p.n+l[p.s.toNat].sh:=by simp only[decide_eq_false_iff_not]at a2 a3;exact AH _ (by omega) (by omega)
    rw[if_neg (by rw[a1,a2,a3];decide),e3]
    rfl
   ·rename_i a1 a2;rw[e1]at a2;rw[if_pos (by rw[a2];simp)]
    rfl
   ·rename_i a1;rw[if_pos (by rw[a1];simp)]
    rfl
  ·rename_i h1;unfold Js;rw[if_pos (by simpa using h1)]
   rfl
theorem lF(r:List Ch)(day:Int)(a:Ad):Aw Tryz.prog 135 [E6 r,.int .i64 day,a.v] (λx=>x=.tuple [(DD r day a).1.v,.int .i64 (DD r day a).2]):=by
 refine Aw.Ai Tryz.func135 rfl Ae (by kernel_rfl) ?_
 conv=>whnf
 repeat(refine sT rfl ?_;conv=>whnf)
 refine cS (Wt r day) rfl ?_;conv=>whnf
 repeat(refine sT rfl ?_;conv=>whnf)
 refine⟨λh=>?_,λh=>?_⟩
 ·have hs:AY r=false:=by simpa using h
  conv=>whnf
  repeat(refine sT rfl ?_;conv=>whnf)
  unfold DD;rw[hs];rfl
 ·have hs:AY r=true:=by simpa using h
  obtain⟨D5,hlen⟩:=NO r day;have hn:DD r day a=NB (JH r day) a:=by unfold DD;rw[hs];rfl
  rw[hn];generalize JH r day=l at*;conv=>whnf
  repeat(refine sT rfl ?_;conv=>whnf)
  refine Ac.AJ (λk:Nat=>mk 66 [(0,E6 r),(5,.ptr 0 0),(6,.ptr 1 0),(8,Lq l),(21,Lq l),(22,.int .i64 l.length),(23,.int .i64 k)]) (λ_=>[.cells [.str a.pe,.str a.st,.int .i64 a.nu,.str a.co,.str a.tw],.cells [.int .i64 0,.int .i64 0]]) (λk=>k≤l.length∧∀j (hj:j<l.length),j<k→Fq a l[j]=false) (λk=>l.length-k) (λ_ _=>⟨rfl,rfl,rfl,trivial⟩) ⟨0,?_⟩ (λ_=>rfl) λk hk=>?_
  ·conv=>whnf
   repeat(refine Ao ?_ ?_;(focus (first|rfl|(simp;done)|(simp;done)));conv=>whnf)
   exact λj hj hn=>absurd hn (Nat.not_lt_zero _)
  ·obtain⟨hk,ha⟩:=hk;have Bj:Wr .i64 ((k:Int)+1)=((k+1:Nat):Int):=by rw[AH _ (by omega) (by omega)];rfl
   repeat(refine sT rfl ?_;conv=>whnf)
   refine⟨λh1=>?_,λh1=>?_⟩
   ·have h1:k<l.length:=by simpa using h1
    conv=>whnf
    repeat(refine sT rfl ?_;conv=>whnf)
    refine⟨by omega,(l[k]).v,by simp[h1],?_⟩
    conv=>whnf
    have Ah:=D5 _ (AO h1);obtain⟨q1,q2⟩:=Ah.lo;obtain⟨q3,q4⟩:=Ah.hi;obtain⟨q5,q6⟩:=Ah.sh
    have no:Fq a l[k]=false→∀j (hj:j<l.length),j<k+1→Fq a l[j]=false:=λh j hj PL=>by
     rcases CX j k with h3|h3;·exact ha j hj h3
     ·obtain rfl:j=k:=by omega
      exact h
    conv=>whnf
    repeat(refine sT rfl ?_;conv=>whnf)
    repeat' (first|(refine Ao (λ_=>?_) (λ_=>?_)<;>conv=>whnf)|(refine cS (GB l[k] a.st (by have:=Ah.al;omega) (by have:=Ah.na;omega) (λx hx=>by have:=Ah.lV x hx;omega)) rfl ?_;conv=>whnf)|(refine sT rfl ?_;conv=>whnf))
    ·rename_i g1 g2 g3 g4 g5;simp only[decide_eq_true_eq,beq_iff_eq]at g1 g2 g3 g4 g5;have hm:Fq a l[k]=true:=by unfold Fq;simp_all
     rw[wI h1 ha hm,show Wr .i64 (a.nu-l[k].sh)=a.nu-l[k].sh from AH _ (by omega) (by omega)]
     rfl
    all_goals (
     refine⟨k+1,?_⟩;conv=>whnf
     repeat(refine Ao ?_ ?_;(focus (first|rfl|(simp;done)|(exact Bj;done)));conv=>whnf)
     refine⟨⟨by omega,no ?_⟩,by omega⟩
     unfold Fq;simp_all<;>intros<;>omega)
   ·have h1:k=l.length:=by simp at h1;omega
    conv=>whnf
    repeat(refine sT rfl ?_;conv=>whnf)
    rw[wH λj hj=>ha j hj (by omega)]
    rfl
open Go.Av Go.Shelf Pl Go.RowKit
namespace Pl
theorem Za8{l l':List St}{c:Ch}{n:Nat}(h:K5 l c=.ok (l',n)):n<l'.length∧(∀j,j≠n→l'[j]?=l[j]?)∧
  ((c.ki=1∧n=l.length∧l'=l++[Qt c])∨(c.ki≠1∧(n:Int)=c.sr∧∃s s',l[n]?=some s∧s.op=true∧Dd s c=.ok s'∧l'=l.set n s')):=by
 unfold K5 at h;split at h
 ·rename_i hk;cases h;refine⟨by simp,λj hj=>?_,.inl ⟨hk,rfl,rfl⟩⟩
  rcases CX j l.length with h1|h1;·rw[List.getElem?_append_left h1]
  ·rw[BC (by simp;omega),BC (by omega)]
 ·rename_i hk;split at h
  ·rename_i ho;split at h
   ·rename_i s hg;split at h
    ·rename_i s' he;cases h;have hl:c.sr.toNat<l.length:=(Bq.1 hg).1;unfold En at ho;rw[hg]at ho;simp only[AZ,decide_eq_true_eq]at ho;refine⟨by simpa using hl,λj hj=>?_,.inr ⟨hk,by omega,s,s',hg,ho.2,he,rfl⟩⟩
     rw[List.getElem?_set_ne (Ne.symm hj)]
    ·cases h
   ·cases h
  ·cases h
def ZaT:List Ch→Nat→Option Int→List St→List St→Prop
 |[],_,_,l,L=>L=l
 |c::r,i,p,l,L=>∃l',Gi p i l c=.ok l'∧ZaT r (i+1) (some c.da) l' L
def Za1:Option Int→List Ch→Option Int
 |p,[]=>p
 |_,c::r=>Za1 (some c.da) r
theorem ZaJ:∀{r:List Ch}{i:Nat}{p:Option Int}{l L:List St},ZaT r i p l L→L1 r i p l=(L,0,-1)
 |[],i,p,l,L,h=>by rw[show L=l from h];rfl
 |c::r,i,p,l,L,h=>by
  obtain⟨l',h1,h2⟩:=h;unfold L1;rw[h1];exact ZaJ h2
theorem Zbi:∀{r:List Ch}{i:Nat}{p:Option Int}{l:List St},(L1 r i p l).2.1=0→ZaT r i p l (L1 r i p l).1
 |[],i,p,l,h=>rfl
 |c::r,i,p,l,h=>by
  unfold L1 at h⊢;split at h
  ·rename_i he;exact absurd h (Vr he)
  ·rename_i l' hs;exact⟨l',hs,Zbi h⟩
theorem ZaL:∀{a b:List Ch}{i:Nat}{p:Option Int}{l L:List St},ZaT (a++b) i p l L↔∃m,ZaT a i p l m∧ZaT b (i+a.length) (Za1 p a) m L
 |[],b,i,p,l,L=>by
  simp only[List.nil_append,List.length_nil,Nat.add_zero,Za1];exact⟨λh=>⟨l,rfl,h⟩,λ⟨m,h1,h2⟩=>by rw[show m=l from h1]at h2;exact h2⟩
 |c::a,b,i,p,l,L=>by
  simp only[List.cons_append,ZaT,List.length_cons,Za1];constructor
  ·rintro⟨l',h1,h2⟩;obtain⟨m,h3,h4⟩:=ZaL.1 h2;exact⟨m,⟨l',h1,h3⟩,by rw[show i+(a.length+1)=i+1+a.length by omega];exact h4⟩
  ·rintro⟨m,⟨l',h1,h2⟩,h3⟩;exact⟨l',h1,ZaL.2 ⟨m,h2,by rw[show i+(a.length+1)=i+1+a.length by omega]at h3;exact h3⟩⟩
theorem ZaT.sorted:∀{r:List Ch}{i:Nat}{p:Option Int}{l L:List St},ZaT r i p l L→(∀d,p=some d→∀c∈r,d≤c.da)∧r.Pairwise λa b=>a.da≤b.da
 |[],i,p,l,L,h=>⟨λ_ _ c hc=>(by cases hc),List.Pairwise.nil⟩
 |c::r,i,p,l,L,h=>by
  obtain⟨l',h1,h2⟩:=h;obtain⟨h3,h4⟩:=ZaT.sorted h2;obtain⟨_,hd,_⟩:=dQ h1;refine⟨λd hp x hx=>?_,List.pairwise_cons.2 ⟨λx hx=>h3 _ rfl x hx,h4⟩⟩
  subst hp
  have hcd:d≤c.da:=by
   unfold Jw at hd;simp at hd;exact hd
  rcases D0.1 hx with rfl|hx;·exact hcd
  ·exact Int.le_trans hcd (h3 _ rfl x hx)
theorem ZaX{r:List Ch}:AY r=true↔∃L,ZaT r 0 none [] L:=by
 unfold AY DU;simp only[decide_eq_true_eq];exact⟨λh=>⟨_,Zbi h⟩,λ⟨L,h⟩=>by rw[ZaJ h]⟩
theorem Za4(r:List Ch)(day:Int):∃z,r=F8 r day++z:=⟨r.dropWhile λc=>decide (c.da≤day),(List.takeWhile_append_dropWhile).symm⟩
theorem ZbR{r:List Ch}(h:AY r=true)(day:Int):ZaT (F8 r day) 0 none [] (JH r day):=by
 obtain⟨L,hL⟩:=ZaX.1 h;obtain⟨z,hz⟩:=Za4 r day;rw[hz]at hL;obtain⟨m,h1,h2⟩:=ZaL.1 hL
 have:JH r day=m:=by
  unfold JH;rw[h,if_pos rfl];unfold DU;rw[ZaJ h1]
 rw[this];exact h1
theorem Zbg{r:List Ch}{day:Int}{e:Nat}(h1:∀j (hj:j<r.length),j<e→r[j].da≤day)(h2:∀he:e<r.length,day<r[e].da):F8 r day=r.take e:=by
 unfold F8;rcases CX e r.length with h|h
 ·conv=>lhs;rw[←List.take_append_drop e r]
  rw[Cu,Bh h,CM]
  ·have:=h2 h;rw[if_neg (by simp;omega),List.append_nil]
  ·intro c hc;obtain⟨j,hj,rfl⟩:=CW hc;simp only[List.length_take]at hj;rw[List.getElem_take];exact decide_eq_true (h1 j (by omega) (by omega))
 ·rw[List.take_of_length_le h]
  have:=Cu (p:=λc:Ch=>decide (c.da≤day)) (l₁:=r) (l₂:=[]) λc hc=>by
   obtain⟨j,hj,rfl⟩:=CW hc;exact decide_eq_true (h1 j hj (by omega))
  simpa using this
theorem Zbm{r:List Ch}{day:Int}(h:∀c∈r,c.da≤day):F8 r day=r:=by
 have:=Zbg (r:=r) (day:=day) (e:=r.length) (λj hj _=>h _ (AO hj)) (λhe=>absurd he (Nat.lt_irrefl _))
 rwa [BD]at this
theorem jI{a:Ad}{s:St}:Fq a s=true↔s.op=true∧s.co=a.co∧s.lo≤a.nu∧a.nu≤s.hi∧Cr s a.st=true:=by
 unfold Fq;simp only[AZ,decide_eq_true_eq];constructor
 ·rintro⟨⟨⟨⟨h1,h2⟩,h3⟩,h4⟩,h5⟩;exact⟨h1,h2,h3,h4,h5⟩
 ·rintro⟨h1,h2,h3,h4,h5⟩;exact⟨⟨⟨⟨h1,h2⟩,h3⟩,h4⟩,h5⟩
theorem NA{l:List St}{a:Ad}{q:Pt}(h:NB l a=(q,0)):∃(k:Nat) (s:St),l[k]?=some s∧Fq a s=true∧q=⟨k,a.nu-s.sh⟩:=by
 unfold NB at h;split at h
 ·rename_i i hi;obtain⟨h1,h2,_⟩:=Cf.1 hi;rw[Aq h1]at h;cases h;exact⟨i,_,Aq h1,h2,rfl⟩
 ·cases h
structure Has(l:List St)(p:Pt)(s:St):Prop where
 pos:0≤p.s
 at_:l[p.s.toNat]?=some s
 op:s.op=true
 lo:s.lo-s.sh≤p.n
 hi:p.n≤s.hi-s.sh
def adS(s:St)(p:Pt):Ad:=⟨[],s.na,p.n+s.sh,s.co,s.to⟩
theorem oL{l:List St}{p:Pt}{s:St}(h:Has l p s):Js l p=(adS s p,0):=by
 obtain⟨h1,h2,h3,h4,h5⟩:=h;unfold Js;rw[if_neg (by omega),h2]
 simp only;rw[if_neg (by rw[h3,decide_eq_false (by omega),decide_eq_false (by omega)];decide)]
 rfl
theorem ZbQ{l:List St}{p:Pt}{a:Ad}(h:Js l p=(a,0)):∃s,Has l p s∧a=adS s p:=by
 unfold Js at h;split at h;·cases h
 ·split at h
  ·rename_i h0 s hs;split at h;·cases h
   ·rename_i hb;cases h;simp only[Eh,Bool.or_eq_true,decide_eq_true_eq,not_or,Ei]at hb;obtain⟨⟨h1,h2⟩,h3⟩:=hb;exact⟨s,⟨by omega,hs,h1,by omega,by omega⟩,rfl⟩
  ·cases h
theorem oM(l:List St)(p:Pt):(Js l p).2=0∨Js l p=(Mw,3):=by
 unfold Js;split;·exact .inr rfl
 ·split
  ·split;·exact .inr rfl
   ·exact .inl rfl
  ·exact .inr rfl
end Pl
open Go.Av Go.Shelf Pl Go.RowKit
namespace Pl
theorem XF{r:List Ch}(h:AY r=true)(day:Int)(p:Pt):Bm r day p=Js (JH r day) p:=by unfold Bm;rw[h,if_pos rfl]
theorem qS{r:List Ch}(h:AY r=true)(day:Int)(a:Ad):DD r day a=NB (JH r day) a:=by unfold DD;rw[h,if_pos rfl]
theorem ZaY{r:List Ch}(h:AY r=true){day:Int}(hd:∀c∈r,c.da≤day):ZaT r 0 none [] (JH r day):=by
 have:=ZbR h day;rwa [Zbm hd]at this
end Pl
end Go.Proofs.YtdadkhcdoaeabaaGreatDoor.Rr