/- Bytes. -/
import Derived.Test.YtdadkhcdoaeabaaGreatDoorQx
import Derived.Test.YtdadkhcdoaeabaaGreatDoorQe
import Derived.Test.YtdadkhcdoaeabaaGreatDoorKg2
import Derived.Test.YtdadkhcdoaeabaaGreatDoorQs
import Derived.Shelf.Strings.SlTrimAscii
set_option linter.unusedVariables false
set_option maxRecDepth 100000
set_option linter.unusedSimpArgs false
open And renaming intro → Ah
open List renaming getElem_mem → Ao, take_succ_eq_append_getElem → Aq, drop_eq_getElem_cons → AO, take_length → AZ, drop_length → Bc, all_append → Bh, mem_map → Bq, all_eq_true → BC, map_append → BD, all_eq_false → BJ, append_assoc → BV, append_nil → Cf, getElem?_eq_getElem → Cm, range → Cu, mem_cons → CA, length_take → CL, length_cons → CM, take_append_drop → C0, length_nil → C1, mem_of_getElem? → C2, mem_of_mem_take → C4, flatMap_append → Ds, mem_singleton → Dt, filter_append → DC, map_cons → D0, sum_cons → D6, length_append → Ec, flatMap_assoc → Ef, nodup_append → Eh, mem_flatten → EM, flatMap_nil → EX, mem_filter → E1, length_map → E2, range_succ → E4, nil_append → E9, replicate → Fv, drop_zero → Fw, all_cons → Fy, getD → FP
open Bool renaming eq_iff_iff → Ba, and_eq_true → Bv, and_true → DG, true_and → Fx
open Int renaming toNat_natCast → B7
open Nat renaming zero_le → Cb, le_trans → CW, zero_add → CX, mul_le_mul_right → C3, le_add_right → Ei, le_refl → EY
open Option renaming some → E0
namespace Go.Proofs.YtdadkhcdoaeabaaGreatDoor.Ff
open Go.Av Pl
theorem EW(b:UInt8):Aw Tryz.prog 120 [.int .u8 b.toNat] (λr=>r=.bool (BY b)):=by
 refine Aw.Ai Tryz.func120 rfl Ae (by kernel_rfl) ?_
 conv=>whnf
 refine BR Ae _ ?_;conv=>whnf
 repeat' (refine Ah (λ_=>?_) (λ_=>?_)<;>conv=>whnf)
 all_goals (refine congrArg AV.bool ?_;rw[Ba];simp_all[BY]<;>omega)
theorem Dl(b:UInt8):Aw Tryz.prog 121 [.int .u8 b.toNat] (λr=>r=.bool (Dx b)):=by
 refine Aw.Ai Tryz.func121 rfl Ae (by kernel_rfl) ?_
 conv=>whnf
 refine BR Ae _ ?_;conv=>whnf
 repeat' (refine Ah (λ_=>?_) (λ_=>?_)<;>conv=>whnf)
 all_goals (refine congrArg AV.bool ?_;rw[Ba];simp_all[Dx]<;>omega)
theorem LO(b:UInt8):Aw Tryz.prog 123 [.int .u8 b.toNat] (λr=>r=.bool (Ew b)):=by
 refine Aw.Ai Tryz.func123 rfl Ae (by kernel_rfl) ?_
 conv=>whnf
 repeat(refine sT rfl ?_;conv=>whnf)
 repeat' (first|(refine Ah (λ_=>?_) (λ_=>?_)<;>conv=>whnf)|(refine cS (EW b) rfl ?_;conv=>whnf)|(refine sT rfl ?_;conv=>whnf))
 all_goals (refine congrArg AV.bool ?_;rw[Ba];simp_all[Ew,Gg]<;>omega)
abbrev H3(w:Bs):List AV:=w.map λb=>AV.int .u8 b.toNat
theorem EJ(w:Bs)(k:Nat)(h:k<w.length):(H3 w)[k]?=some (.int .u8 w[k].toNat):=by simp[h]
theorem Eu(p:UInt8→Bool)(w:Bs)(k:Nat)(h:k<w.length):(w.take (k+1)).all p=((w.take k).all p&&p w[k]):=by
 rw[Aq h,Bh];simp
theorem all_false(p:UInt8→Bool)(w:Bs)(k:Nat)(h:k<w.length)(hp:p w[k]=false):w.all p=false:=BJ.2 ⟨w[k],Ao h,by simp[hp]⟩
theorem Si(w:Bs)(hw:w.length≤9223372036854775807):Aw Tryz.prog 83 [.str w] (λr=>r=.bool (HX w)):=by
 refine Aw.Ai Tryz.func83 rfl Ae (by kernel_rfl) ?_
 conv=>whnf
 repeat(refine sT rfl ?_;conv=>whnf)
 repeat' (first|(refine Ah (λ_=>?_) (λ_=>?_)<;>conv=>whnf)|(refine sT rfl ?_;conv=>whnf))
 ·exact congrArg AV.bool (by rename_i h1 h2;simp at h2;unfold HX;rw[decide_eq_false (show ¬w.length≤20 by omega)];simp)
 ·rename_i h1 h2;have h1:1≤w.length:=by simp at h1;omega
  have h2:w.length≤20:=by simp at h2;omega
  have hf:HX w=w.all Ku:=by unfold HX;simp[h1,h2]
  refine Ac.AJ (λk:Nat=>mk 41 [(0,.str w),(2,.lit false),(14,.sl 1 (H3 w)),(15,.int .i64 w.length),(16,.int .i64 k)]) (λ_=>[]) (λk=>k≤w.length∧(w.take k).all Ku=true) (λk=>w.length-k) (λ_ _=>⟨rfl,trivial⟩) ⟨0,?_⟩ (λ_=>rfl) λk hk=>?_
  ·conv=>whnf
   repeat(refine Ah ?_ ?_;(focus (first|rfl|(simp;done)));conv=>whnf)
   simp
  ·obtain⟨hk,ha⟩:=hk;repeat(refine sT rfl ?_;conv=>whnf)
   refine⟨λh=>?_,λh=>?_⟩
   ·have h:k<w.length:=by simpa using h
    have Bj:Wr .i64 ((k:Int)+1)=((k+1:Nat):Int):=by rw[AH _ (by omega) (by omega)];rfl
    have WB:Ku w[k]=(Ew w[k]||Dx w[k]||decide (w[k].toNat=45)||decide (w[k].toNat=39)||decide (w[k].toNat=46)):=rfl
    have ht:=Eu Ku w k h;have OQ:=all_false Ku w k h;conv=>whnf
    repeat(refine sT rfl ?_;conv=>whnf)
    refine⟨by omega,_,EJ w k h,?_⟩
    conv=>whnf
    repeat(refine sT rfl ?_;conv=>whnf)
    repeat' (first|(refine Ah (λ_=>?_) (λ_=>?_)<;>conv=>whnf)|(refine cS (LO w[k]) rfl ?_;conv=>whnf)|(refine cS (Dl w[k]) rfl ?_;conv=>whnf)|(refine sT rfl ?_;conv=>whnf))
    all_goals first
     |(refine congrArg AV.bool ?_
       have hn:Ku w[k]=false:=by rw[WB];simp_all<;>omega
       rw[hf,OQ hn])
     |(have hy:Ku w[k]=true:=by rw[WB];simp_all<;>omega
       refine⟨k+1,?_⟩
       conv=>whnf
       repeat(refine Ah ?_ ?_;(focus (first|rfl|(simp;done)|(first|exact Bj;done)));conv=>whnf)
       exact⟨⟨by omega,by rw[ht,ha,hy];rfl⟩,by omega⟩)
   ·have h:k=w.length:=by simp at h;omega
    rw[h,AZ]at ha;conv=>whnf
    repeat(refine sT rfl ?_;conv=>whnf)
    exact congrArg AV.bool (by rw[hf,ha])
 ·exact congrArg AV.bool (by rename_i h1;simp at h1;unfold HX;rw[decide_eq_false (show ¬1≤w.length by omega)];simp)
theorem UQ:∀{w p:Bs},w.length≠p.length→Gd w p=false
 |[],[],h=>absurd rfl h
 |[],_::_,_=>rfl
 |_::_,[],_=>rfl
 |c::w,d::p,h=>by
  unfold Gd;rw[UQ (w:=w) (p:=p) (by simpa using h)]
  simp
theorem Hy(w:Bs)(hw:w.length≤9223372036854775807):Aw Tryz.prog 76 [.str w] (λr=>r=.bool (Hv w)):=by
 refine Aw.Ai Tryz.func76 rfl Ae (by kernel_rfl) ?_
 conv=>whnf
 repeat(refine sT rfl ?_;conv=>whnf)
 repeat' (first|(refine Ah (λ_=>?_) (λ_=>?_)<;>conv=>whnf)|(refine sT rfl ?_;conv=>whnf))
 ·rename_i h1 h2;have h1:1≤w.length:=by simp at h1;omega
  have h2:w.length≤16:=by simp at h2;omega
  have hg0:w.getD (Int.toNat 0) 0=w[0]:=by simp[FP,show 0<w.length by omega]
  have hf:Hv w=(BY w[0]&&w.all B2):=by
   cases w with
   |nil=>simp at h1
   |cons c r=>simp only[Hv,decide_eq_true h1,decide_eq_true h2,Fx];rfl
  refine⟨⟨by omega,by omega⟩,?_⟩
  rw[hg0];conv=>whnf
  repeat(refine sT rfl ?_;conv=>whnf)
  repeat' (first|(refine Ah (λ_=>?_) (λ_=>?_)<;>conv=>whnf)|(refine cS (EW w[0]) rfl ?_;conv=>whnf)|(refine sT rfl ?_;conv=>whnf))
  ·rename_i h3;have h3:BY w[0]=false:=by simpa using h3
   exact congrArg AV.bool (by rw[hf,h3];rfl)
  ·rename_i h3;have h3:BY w[0]=true:=by simpa using h3
   rw[h3,Fx]at hf;refine Ac.AJ (λk:Nat=>mk 39 [(0,.str w),(2,.lit false),(20,.sl 1 (H3 w)),(21,.int .i64 w.length),(22,.int .i64 k)]) (λ_=>[]) (λk=>k≤w.length∧(w.take k).all B2=true) (λk=>w.length-k) (λ_ _=>⟨rfl,trivial⟩) ⟨0,?_⟩ (λ_=>rfl) λk hk=>?_
   ·conv=>whnf
    repeat(refine Ah ?_ ?_;(focus (first|rfl|(simp;done)));conv=>whnf)
    simp
   ·obtain⟨hk,ha⟩:=hk;repeat(refine sT rfl ?_;conv=>whnf)
    refine⟨λh=>?_,λh=>?_⟩
    ·have h:k<w.length:=by simpa using h
     have Bj:Wr .i64 ((k:Int)+1)=((k+1:Nat):Int):=by rw[AH _ (by omega) (by omega)];rfl
     have WB:B2 w[k]=(BY w[k]||Dx w[k]||decide (w[k].toNat=95)):=rfl
     have ht:=Eu B2 w k h;have OQ:=all_false B2 w k h;conv=>whnf
     repeat(refine sT rfl ?_;conv=>whnf)
     refine⟨by omega,_,EJ w k h,?_⟩
     conv=>whnf
     repeat(refine sT rfl ?_;conv=>whnf)
     repeat' (first|(refine Ah (λ_=>?_) (λ_=>?_)<;>conv=>whnf)|(refine cS (EW w[k]) rfl ?_;conv=>whnf)|(refine cS (Dl w[k]) rfl ?_;conv=>whnf)|(refine sT rfl ?_;conv=>whnf))
     all_goals first
      |(refine congrArg AV.bool ?_
        have hn:B2 w[k]=false:=by rw[WB];simp_all<;>omega
        rw[hf,OQ hn])
      |(have hy:B2 w[k]=true:=by rw[WB];simp_all<;>omega
        refine⟨k+1,?_⟩
        conv=>whnf
        repeat(refine Ah ?_ ?_;(focus (first|rfl|(simp;done)|(first|exact Bj;done)));conv=>whnf)
        exact⟨⟨by omega,by rw[ht,ha,hy];rfl⟩,by omega⟩)
    ·have h:k=w.length:=by simp at h;omega
     rw[h,AZ]at ha;conv=>whnf
     repeat(refine sT rfl ?_;conv=>whnf)
     exact congrArg AV.bool (by rw[hf,ha])
 ·exact congrArg AV.bool (by rename_i h1 h2;simp at h2;unfold Hv;rw[decide_eq_false (show ¬w.length≤16 by omega)];simp)
 ·exact congrArg AV.bool (by rename_i h1;simp at h1;unfold Hv;rw[decide_eq_false (show ¬1≤w.length by omega)];simp)
theorem VU(w p:Bs)(hw:w.length≤9223372036854775807):Aw Tryz.prog 90 [.str w,.str p] (λr=>r=.bool (Gd w p)):=by
 refine Aw.Ai Tryz.func90 rfl Ae (by kernel_rfl) ?_
 conv=>whnf
 repeat(refine sT rfl ?_;conv=>whnf)
 repeat' (first|(refine Ah (λ_=>?_) (λ_=>?_)<;>conv=>whnf)|(refine sT rfl ?_;conv=>whnf))
 ·rename_i h1;have h1:w.length≠p.length:=by simp at h1;omega
  exact congrArg AV.bool (UQ h1).symm
 ·rename_i h1;have h1:w.length=p.length:=by simp at h1;omega
  refine Ac.AJ (λk:Nat=>mk 41 [(0,.str w),(1,.str p),(4,.lit false),(13,.sl 1 (H3 w)),(14,.int .i64 w.length),(15,.int .i64 k)]) (λ_=>[]) (λk=>k≤w.length∧Gd w p=Gd (w.drop k) (p.drop k)) (λk=>w.length-k) (λ_ _=>⟨rfl,trivial⟩) ⟨0,?_⟩ (λ_=>rfl) λk hk=>?_
  ·conv=>whnf
   repeat(refine Ah ?_ ?_;(focus (first|rfl|(simp;done)));conv=>whnf)
   simp
  ·obtain⟨hk,ha⟩:=hk;repeat(refine sT rfl ?_;conv=>whnf)
   refine⟨λh=>?_,λh=>?_⟩
   ·have h:k<w.length:=by simpa using h
    have Bj:Wr .i64 ((k:Int)+1)=((k+1:Nat):Int):=by rw[AH _ (by omega) (by omega)];rfl
    have hgp:p.getD (k:Int).toNat 0=p[k]:=by simp[FP,show k<p.length by omega]
    have hm:Gd w p=((!decide (p[k].toNat=57)||Dx w[k])&&(!decide (p[k].toNat=65)||Ew w[k])&&Gd (w.drop (k+1)) (p.drop (k+1))):=by
     rw[ha,AO h,AO (by omega:k<p.length)];rfl
    conv=>whnf
    repeat(refine sT rfl ?_;conv=>whnf)
    refine⟨by omega,_,EJ w k h,?_⟩
    conv=>whnf
    repeat(refine sT rfl ?_;conv=>whnf)
    repeat' (first|(refine Ah (λ_=>?_) (λ_=>?_)<;>conv=>whnf)|(refine Ah ⟨by omega,by omega⟩ ?_;(conv=>whnf);first|rw[hgp])|(refine cS (LO w[k]) rfl ?_;conv=>whnf)|(refine cS (Dl w[k]) rfl ?_;conv=>whnf)|(refine sT rfl ?_;conv=>whnf))
    all_goals first
     |(refine congrArg AV.bool ?_
       have hn:((!decide (p[k].toNat=57)||Dx w[k])&&(!decide (p[k].toNat=65)||Ew w[k]))=false:=by clear hm ha;simp_all<;>omega
       rw[hm,hn];rfl)
     |(have hy:((!decide (p[k].toNat=57)||Dx w[k])&&(!decide (p[k].toNat=65)||Ew w[k]))=true:=by clear hm ha;simp_all<;>omega
       refine⟨k+1,?_⟩
       conv=>whnf
       repeat(refine Ah ?_ ?_;(focus (first|rfl|(simp;done)|(first|exact Bj;done)));conv=>whnf)
       exact⟨⟨by omega,by rw[hm,hy];rfl⟩,by omega⟩)
     |trace_state
   ·have h:k=w.length:=by simp at h;omega
    rw[h,Bc,h1,Bc]at ha;conv=>whnf
    repeat(refine sT rfl ?_;conv=>whnf)
    exact congrArg AV.bool ha.symm
open Go.Av Pl Go.RowKit Go.Sort
theorem GK(l:List Bs)(hN:l.length≤140737488355328)(hlen:(Lib.join l [32]).length≤140737488355328):Aw Tryz.prog 59 [.sl 1 (strs l),.str [32]] (λr=>r=.str (Lib.join l [32])):=
 pC Tryz.uT Tryz.NX rfl (by kernel_rfl) l [32] hN hlen
theorem Vq(s:Bs)(hs:s.length≤1000)(ha:∀c∈s,c.toNat<128):Aw Tryz.prog 89 [.str s] (λr=>r=.str (xD s)):=by
 refine⟨by kernel_rfl,λC w vs AR hr=>?_⟩
 unfold Aa at hr;obtain⟨v1,_,rfl,h2,hr⟩:=hr;unfold Aa at hr;subst hr;unfold Aj at h2;obtain⟨rfl,_⟩:=h2;refine(Tryz.strings_ToUpper_ascii ⟨s.toArray⟩ w (by simp[ByteArray.size];omega) (λj b hj=>ha b (by simp at hj;exact C2 hj))).mono λe w' ⟨h3,h4⟩=>?_
 exact⟨_,_,h3,rfl,h4,by unfold Aj;exact⟨by simp[Zcc],by simp[xD];omega⟩⟩
theorem ML(s:Bs)(hs:s.length≤1000)(ha:∀c∈s,c.toNat<128):Aw Tryz.prog 85 [.str s] (λr=>r=.str (DO s)):=by
 refine⟨by kernel_rfl,λC w vs AR hr=>?_⟩
 unfold Aa at hr;obtain⟨v1,_,rfl,h2,hr⟩:=hr;unfold Aa at hr;subst hr;unfold Aj at h2;obtain⟨rfl,_⟩:=h2;refine(Tryz.strings_ToLower_ascii ⟨s.toArray⟩ w (by simp[ByteArray.size];omega) (λj b hj=>ha b (by simp at hj;exact C2 hj))).mono λe w' ⟨h3,h4⟩=>?_
 exact⟨_,_,h3,rfl,h4,by unfold Aj;exact⟨by simp[Zam],by simp[DO];omega⟩⟩
theorem Je(p:UInt8→Bool):∀l:Bs,(l.dropWhile p).length≤l.length
 |[]=>by simp
 |c::r=>by
  rw[List.dropWhile_cons];split;·have:=Je p r;simp;omega
  ·simp
theorem mJ(l cs:Bs):(Lib.trimS l cs).length≤l.length:=by
 unfold Lib.trimS Lib.trimLeftS Lib.trimRightS;refine CW (Je _ _) ?_;rw[List.length_reverse];refine CW (Je _ _) ?_;simp
theorem gW(s:Bs)(hs:s.length≤1000):Aw Tryz.prog 122 [.str s,.str [57,65]] (λr=>r=.str (Lib.trimS s [57,65])):=by
 refine⟨by kernel_rfl,λC w vs AR hr=>?_⟩
 unfold Aa at hr;obtain⟨v1,_,rfl,h2,hr⟩:=hr;unfold Aa at hr;obtain⟨v2,_,rfl,h3,hr⟩:=hr;unfold Aa at hr;subst hr;unfold Aj at h2 h3;obtain⟨rfl,_⟩:=h2;obtain⟨rfl,_⟩:=h3;refine(Any.strings_Trim_laid Tryz.uQ (by kernel_rfl) ⟨s.toArray⟩ ⟨[57,65].toArray⟩ w (by simp[ByteArray.size];omega) (by decide) (ascii_of_all (by decide))).mono λe w' ⟨h3,h4⟩=>?_
 exact⟨_,_,h3,rfl,h4,by unfold Aj;exact⟨rfl,by have:=mJ s [57,65];omega⟩⟩
theorem WL(x:Nat)(hx:x≤1114111):Aw Tryz.prog 82 [.int .i32 x] (λr=>r=.bool (DW x)):=by
 refine Aw.Ai Tryz.func82 rfl Ae (by kernel_rfl) ?_
 conv=>whnf
 repeat(refine sT rfl ?_;conv=>whnf)
 repeat' (first|(refine Ah (λ_=>?_) (λ_=>?_)<;>conv=>whnf)|(refine sT rfl ?_;conv=>whnf))
 all_goals (refine congrArg AV.bool ?_;rw[Ba];simp_all[DW]<;>omega)
theorem CH(l:List Bs):(strs l).length=l.length:=by simp
theorem MD:∀(l cur:Bs),∀w∈IN cur l,w.length≤cur.length+l.length
 |[],cur,w,h=>by
  unfold IN at h;split at h;·simp at h
  ·rw[Dt]at h;subst h;exact Ei _ _
 |c::r,cur,w,h=>by
  unfold IN at h;split at h
  ·split at h;·have:=MD r [] w h;simp at this⊢;omega
   ·rcases CA.1 h with rfl|h;·exact Ei _ _
    ·have:=MD r [] w h;simp at this⊢;omega
  ·have:=MD r _ w h;simp at this⊢;omega
theorem QZ(l:Bs):∀w∈Bk l,w.length≤l.length:=λw h=>by have:=MD l [] w h;simpa using this
theorem QC(s:Bs)(hs:s.length≤100000):Aw Tryz.prog 81 [.str s,.fn 82 []] (λr=>r=A3 (Bk s)):=by
 refine⟨by kernel_rfl,λC w vs AR hr=>?_⟩
 unfold Aa at hr;obtain⟨v1,_,rfl,h2,hr⟩:=hr;unfold Aa at hr;obtain⟨v2,_,rfl,h3,hr⟩:=hr;unfold Aa at hr;subst hr;unfold Aj at h2 h3;obtain⟨rfl,_⟩:=h2;obtain⟨us,rfl,hu⟩:=h3;have hj:=Tryz.strings_FieldsFunc_grows 82 us.toArray (enters_of Tryz.func82 (by kernel_rfl) rfl) DW ⟨s.toArray⟩ w (by simp[ByteArray.size];omega) (Il WL AR hu)
 have hw:(Lib.goFieldsP DW ⟨s.toArray⟩).map (λx=>x.data.toList)=Bk s:=Wf ⟨s.toArray⟩
 generalize Lib.goFieldsP DW ⟨s.toArray⟩=L at hj hw;have hlen:L.length=(Bk s).length:=by rw[←hw];simp
 refine hj.mono λe w' ⟨A,h3,h4,h5,h6⟩=>?_
 refine⟨_,_,h3,rfl,h6,?_⟩;rcases h5.2 with⟨h7,_⟩|⟨g,YP,cur,h7,h8,h9,h10,h11,h12,h13⟩;·cases h7
 ·injection h7 with h7 _ h7c
  injection h7 with h7;injection h7 with h7
  subst h7 h7c;unfold A3 Aj;refine .inr ⟨A,0,L.length,?_,?_,?_,?_⟩;·rw[CH,hlen]
  ·rw[CH,hlen];exact EY _
  ·simp only[maxLen]at h11;omega
  ·refine(DJ _ _).2 λi hi=>?_
   have Yl:i<(Bk s).length:=by rw[CH]at hi;exact hi
   have hgs:A<w'.heap.size:=(Array.getElem?_eq_some_iff.1 h9).1
   have hlb:((Bk s)[i]).length≤9223372036854775807:=by
    have:=QZ s _ (Ao Yl);omega
   have Ep:w'.cell? ⟨A,i,none⟩=some (.string ⟨((Bk s)[i]).toArray⟩):=by
    rw[cell_of_row w' A i cur _ _ h9];have h14:=congrArg (·[i]?) h13;simp only[Nat.mul_one]at h14;rw[List.getElem?_take_of_lt (by omega)]at h14
    rw[←Array.getElem?_toList,h14];have hiL:i<L.length:=by omega
    have Gf:(Bk s)[i]=L[i].data.toList:=by
     have:=congrArg (·[i]?) hw;simp only[List.getElem?_map,Cm hiL,Cm Yl,Option.map_some,E0.injEq]at this;exact this.symm
    rw[Gf];simp[hiL]
   simp only[strs,List.getElem_map];refine⟨rfl,?_⟩;simp only[AV.cells];unfold Cells;refine⟨⟨_,rfl,⟨.inr ⟨h8,hgs⟩,by rw[CX,Nat.mul_one];exact Ep⟩,by unfold Aj;exact⟨rfl,hlb⟩⟩,by unfold Cells;trivial⟩
theorem Zl(s:Bs)(hs:s.length≤100000):Aw Tryz.prog 51 [.str s] (λr=>r=A3 (Bk s)):=by
 refine Aw.Ai Tryz.func51 rfl Ae (by kernel_rfl) ?_
 conv=>whnf
 repeat(refine sT rfl ?_;conv=>whnf)
 repeat(first|(refine cS (QC s hs) rfl ?_;conv=>whnf)|(refine sT rfl ?_;conv=>whnf))
 rfl
theorem Q8(p:Pt)(ht:p.t.length≤1000):Aw Tryz.prog 77 [p.v] (λr=>r=.bool (D7 p)):=by
 refine Aw.Ai Tryz.func77 rfl Ae (by kernel_rfl) ?_
 conv=>whnf
 repeat(refine sT rfl ?_;conv=>whnf)
 repeat' (first|(refine Ah (λ_=>?_) (λ_=>?_)<;>conv=>whnf)|(refine cS (Si p.t (by omega)) rfl ?_;conv=>whnf)|(refine cS (gW p.t ht) rfl ?_;conv=>whnf)|(refine sT rfl ?_;conv=>whnf))
 all_goals
  refine congrArg AV.bool ?_;have htr:=mI p.t;unfold D7 iS;try simp only[decide_eq_true_eq,decide_eq_false_iff_not]at *
  try simp only[*,if_true,if_false,reduceIte,or_self,or_false,false_or,true_or,or_true]
  try first|done|(rw[Ba];simp_all;done)|(rw[Ba];simp_all<;>omega)|trace_state
def LK(l:List Pt)(j:Nat):Bool:=l.any λp=>decide (p.k=(j:Int))
theorem KS(l:List Pt)(p:Pt)(j:Nat):LK (l++[p]) j=(LK l j||decide (p.k=(j:Int))):=by unfold LK;rw[List.any_append];simp
def Y4(l:List Pt):Bool:=l.all D7&&decide (EB l).Nodup
theorem uC(l:List Pt)(p:Pt):Y4 (l++[p])=(Y4 l&&D7 p&&(decide (p.k=1)||!l.any λq=>decide (q.k=p.k))):=by
 unfold Y4 EB;rw[Bh,DC,BD];by_cases h:p.k=1
 ·have e:([p].filter λp=>decide (p.k≠1))=[]:=by simp[h]
  rw[e];simp only[List.map_nil,Cf,Fy,List.all_nil,DG,decide_eq_true h,Bool.true_or];cases l.all D7<;>cases D7 p<;>simp
 ·have e:([p].filter λp=>decide (p.k≠1))=[p]:=by simp[h]
  rw[e,Ba];simp only[D0,List.map_nil,Bv,decide_eq_true_eq,Eh,Fy,List.all_nil,DG,Bool.or_eq_true,h,false_or,Bool.not_eq_true',List.any_eq_false];constructor
  ·rintro⟨⟨h1,h2⟩,h3,_,h5⟩;refine⟨⟨⟨h1,h3⟩,h2⟩,λq hq hk=>?_⟩
   have hk:q.k=p.k:=by simpa using hk
   exact h5 q.k (Bq.2 ⟨q,E1.2 ⟨hq,by simp;omega⟩,rfl⟩) p.k (by simp) hk
  ·rintro⟨⟨⟨h1,h3⟩,h2⟩,h4⟩;refine⟨⟨h1,h2⟩,h3,by simp,λa ha b hb vR=>?_⟩
   obtain⟨q,hq,rfl⟩:=Bq.1 ha;simp only[Dt]at hb;exact h4 q (E1.1 hq).1 (by first|omega|exact decide_eq_true (by omega))
theorem uB(l r:List Pt)(h:Y4 l=false):Y4 (l++r)=false:=by
 unfold Y4 EB at*;rw[Bh,DC,BD];rw[Bool.and_eq_false_iff]at *;rcases h with h|h;·left;rw[h];rfl
 ·right;simp only[decide_eq_false_iff_not]at *;intro hn;exact h (Eh.1 hn).1
theorem Fo{p:Pt}(h:D7 p=true):p.k=1∨p.k=2∨p.k=3∨p.k=4∨p.k=5∨p.k=6:=by
 unfold D7 at h;split at h;·omega
 ·split at h;·omega
  ·split at h;·omega
   ·cases h
def FW(l:List Pt):Bool:=decide (1≤l.length)&&decide (l.length≤8)
theorem GC(f:Fm):By f=(Hv f.name&&decide (1≤f.lines.length)&&decide (f.lines.length≤8)&&f.lines.all FW&&Y4 f.lines.flatten):=by
 unfold By Y4;rw[Bool.and_assoc];rfl
abbrev Xb(l:List Pt):List AV:=[.bool (LK l 0),.bool (LK l 1),.bool (LK l 2),.bool (LK l 3),.bool (LK l 4),.bool (LK l 5),.bool (LK l 6)]
theorem GI(f:Fm)(k:Nat)(h:k<f.lines.length):(f.lines.map D2)[k]?=some (D2 f.lines[k]):=by simp[h]
theorem FH(l:List Pt)(k:Nat)(h:k<l.length):(l.map Pt.v)[k]?=some l[k].v:=by simp[h]
theorem Dg(f:Fm)(hn:f.name.length≤1000)(ht:∀l∈f.lines,∀p∈l,p.t.length≤1000)(hl:f.lines.length≤1000)(Y8:∀l∈f.lines,l.length≤1000):Aw Tryz.prog 46 [f.v] (λr=>r=.bool (By f)):=by
 refine Aw.Ai Tryz.func46 rfl Ae (by kernel_rfl) ?_
 conv=>whnf
 repeat(refine sT rfl ?_;conv=>whnf)
 repeat' (first|(refine Ah (λ_=>?_) (λ_=>?_)<;>conv=>whnf)|(refine cS (Hy f.name (by omega)) rfl ?_;conv=>whnf)|(refine sT rfl ?_;conv=>whnf))
 ·rename_i h0 h1 h2;refine congrArg AV.bool ?_;rw[GC,decide_eq_false (p:=f.lines.length≤8) (by simp at h2;omega)];simp
 rotate_left
 ·rename_i h0 h1;refine congrArg AV.bool ?_;rw[GC,decide_eq_false (p:=1≤f.lines.length) (by simp at h1;omega)];simp
 ·rename_i h0;refine congrArg AV.bool ?_;rw[GC,show Hv f.name=false by simpa using h0];simp
 ·rename_i h0 h1 h2
  have hv:By f=(f.lines.all FW&&Y4 f.lines.flatten):=by
   rw[GC,decide_eq_true (p:=f.lines.length≤8) (by simp at h2;omega),decide_eq_true (p:=1≤f.lines.length) (by simp at h1;omega),show Hv f.name=true by simpa using h0];simp
  refine Ac.WM 1 rfl (cs':=Xb []) (by repeat' first|exact trivial|exact O9.lit rfl|constructor) ?_
  conv=>whnf
  have bI:(f.lines.map D2).length=f.lines.length:=by simp
  refine Ac.AJ (λi:Nat=>mk 64 [(1,.ptr 0 0),(3,.ptr 1 0),(25,.sl 1 (f.lines.map D2)),(26,.int .i64 f.lines.length),(27,.int .i64 i)]) (λi=>[.cells [.str f.name,.sl 1 (f.lines.map D2)],.cells (Xb (f.lines.take i).flatten)]) (λi=>i≤f.lines.length∧(f.lines.take i).all FW=true∧Y4 (f.lines.take i).flatten=true) (λi=>f.lines.length-i) (λ_ _=>⟨rfl,rfl,rfl,trivial⟩) ⟨0,?_⟩ (λ_=>rfl) λi hi=>?_
  ·conv=>whnf
   repeat(refine Ah ?_ ?_;(focus (first|rfl|(simp;done)));conv=>whnf)
   exact(by decide:Y4 []=true)
  ·obtain⟨hi,ha,hb⟩:=hi;repeat(refine sT rfl ?_;conv=>whnf)
   refine⟨λh=>?_,λh=>?_⟩
   ·have h:i<f.lines.length:=by simp at h;omega
    have Bj:Wr .i64 ((i:Int)+1)=((i+1:Nat):Int):=by rw[AH _ (by omega) (by omega)];rfl
    have Qy:f.lines.take (i+1)=f.lines.take i++[f.lines[i]]:=Aq h;conv=>whnf
    repeat(refine sT rfl ?_;conv=>whnf)
    refine⟨by omega,_,GI f i h,?_⟩
    conv=>whnf
    repeat(refine sT rfl ?_;conv=>whnf)
    have Yk:¬FW f.lines[i]=true→By f=false:=λhx=>by
     rw[hv,show f.lines.all FW=false from BJ.2 ⟨f.lines[i],Ao h,by simpa using hx⟩];rfl
    have bH:∀k,k<f.lines[i].length→Y4 ((f.lines.take i).flatten++f.lines[i].take (k+1))=false→By f=false:=λk hk hx=>by
     have e:f.lines.flatten=((f.lines.take i).flatten++f.lines[i].take (k+1))++(f.lines[i].drop (k+1)++(f.lines.drop (i+1)).flatten):=by
      have e1:f.lines=f.lines.take i++f.lines[i]::f.lines.drop (i+1):=by
       rw[←AO h,C0]
      conv=>lhs;rw[e1]
      rw[List.flatten_append,List.flatten_cons];simp only[BV];congr 1;rw[←BV,C0]
     rw[hv,e,uB _ _ hx,Bool.and_false]
    repeat' (first|(refine Ah (λ_=>?_) (λ_=>?_)<;>conv=>whnf)|(refine sT rfl ?_;conv=>whnf))
    ·rename_i g1 g2;exact congrArg AV.bool (Yk (by simp at g2;simp[FW];omega)).symm
    rotate_left
    ·rename_i g1;exact congrArg AV.bool (Yk (by simp at g1;simp[FW];omega)).symm
    ·rename_i g1 g2;have hlo:FW f.lines[i]=true:=by simp at g1 g2;simp[FW];omega
     have hLl:f.lines[i].length≤8:=by simp at g2;omega
     have Nr:=Ao h;generalize f.lines[i]=L at*;have hBL:(f.lines.take (i+1)).flatten=(f.lines.take i).flatten++L:=by rw[Qy];simp
     generalize (f.lines.take i).flatten=B at*;refine Ac.AJ (λk:Nat=>mk 64 [(1,.ptr 0 0),(3,.ptr 1 0),(25,.sl 1 (f.lines.map D2)),(26,.int .i64 f.lines.length),(27,.int .i64 i),(39,.sl 2 (L.map Pt.v)),(40,.int .i64 L.length),(41,.int .i64 k)]) (λk=>[.cells [.str f.name,.sl 1 (f.lines.map D2)],.cells (Xb (B++L.take k))]) (λk=>k≤L.length∧Y4 (B++L.take k)=true) (λk=>L.length-k) (λ_ _=>⟨rfl,rfl,rfl,trivial⟩) ⟨0,?_⟩ (λ_=>rfl) λk hk=>?_
     ·conv=>whnf
      repeat(refine Ah ?_ ?_;(focus (first|rfl|(simp;done)));conv=>whnf)
      rw[List.take_zero,Cf];exact hb
     ·obtain⟨hk,hc⟩:=hk;repeat(refine sT rfl ?_;conv=>whnf)
      refine⟨λh3=>?_,λh3=>?_⟩
      ·have h3:k<L.length:=by simp at h3;omega
       conv=>whnf
       repeat(refine sT rfl ?_;conv=>whnf)
       refine⟨by omega,_,FH L k h3,?_⟩
       conv=>whnf
       repeat(refine sT rfl ?_;conv=>whnf)
       refine Ak.D3 (Q8 L[k] (ht _ Nr _ (Ao h3))) rfl λr hr=>?_
       subst hr
       have pL:B++L.take (k+1)=(B++L.take k)++[L[k]]:=by rw[Aq h3,BV]
       have vE:=uC (B++L.take k) L[k]
       have bH:=bH k h3
       rw[pL,vE,hc]at bH
       have Gf:Wr .i64 ((k:Int)+1)=((k+1:Nat):Int):=by rw[AH _ (by omega) (by omega)];rfl
       conv=>whnf
       repeat(refine sT rfl ?_;conv=>whnf)
       refine⟨λh4=>?_,λh4=>?_⟩
       ·have h4:D7 L[k]=true:=by simpa using h4
        have sP:=Fo h4
        rw[h4]at bH
        conv=>whnf
        repeat(refine sT rfl ?_;conv=>whnf)
        refine⟨λh5=>?_,λh5=>?_⟩
        ·have h5:¬L[k].k=1:=by simpa using h5
         generalize hK:L[k].k=K at*
         rcases sP with rfl|rfl|rfl|rfl|rfl|rfl
         ·exact absurd rfl h5
         all_goals
          rw[←hK]at bH vE;conv=>whnf
          repeat(refine sT rfl ?_;conv=>whnf)
          refine⟨⟨by decide,by decide⟩,?_⟩
          conv=>whnf
          repeat(refine sT rfl ?_;conv=>whnf)
          refine⟨λh6=>?_,λh6=>?_⟩
          ·have h6:((B++L.take k).any λq=>decide (q.k=L[k].k))=true:=by rw[hK];exact h6
           conv=>whnf
           repeat(refine sT rfl ?_;conv=>whnf)
           exact congrArg AV.bool (bH (by rw[h6,hK];rfl)).symm
          ·have h6:((B++L.take k).any λq=>decide (q.k=L[k].k))=false:=by rw[hK];exact h6
           conv=>whnf
           repeat(refine sT rfl ?_;conv=>whnf)
           refine⟨⟨by decide,by decide⟩,?_⟩
           conv=>whnf
           refine Ac.WM 1 rfl (cs':=Xb (B++L.take (k+1))) ?_ ?_
           ·rw[pL]
            repeat' first|exact trivial|(refine O9.lit ?_;rw[KS,hK];simp;done)|(refine O9.bool ?_;rw[KS,hK];simp;done)|refine Ah ?_ ?_
           conv=>whnf
           repeat(refine sT rfl ?_;conv=>whnf)
           refine⟨k+1,?_⟩
           conv=>whnf
           repeat(refine Ah ?_ ?_;(focus (first|rfl|(simp;done)|(first|exact Gf;done)));conv=>whnf)
           exact⟨⟨by omega,by rw[pL,vE,hc,h4,h6];simp⟩,by omega⟩
        ·have h5:L[k].k=1:=by simpa using h5
         rw[h5]
         conv=>whnf
         repeat(refine sT rfl ?_;conv=>whnf)
         refine⟨⟨by decide,by decide⟩,?_⟩
         conv=>whnf
         refine Ac.WM 1 rfl (cs':=Xb (B++L.take (k+1))) ?_ ?_
         ·rw[pL]
          repeat' first|exact trivial|(refine O9.lit ?_;rw[KS,h5];simp;done)|(refine O9.bool ?_;rw[KS,h5];simp;done)|refine Ah ?_ ?_
         conv=>whnf
         repeat(refine sT rfl ?_;conv=>whnf)
         refine⟨k+1,?_⟩
         conv=>whnf
         repeat(refine Ah ?_ ?_;(focus (first|rfl|(simp;done)|(first|exact Gf;done)));conv=>whnf)
         exact⟨⟨by omega,by rw[pL,vE,hc,h4,h5];rfl⟩,by omega⟩
       ·conv=>whnf
        repeat(refine sT rfl ?_;conv=>whnf)
        exact congrArg AV.bool (bH (by simp at h4;simp[h4])).symm
      ·have h3:k=L.length:=by simp at h3;omega
       conv=>whnf
       repeat(refine sT rfl ?_;conv=>whnf)
       refine⟨i+1,?_⟩
       conv=>whnf
       repeat(refine Ah ?_ ?_;(focus (first|rfl|(simp;done)|(first|exact Bj;done)));conv=>whnf)
       rw[h3,AZ]at hc
       rw[h3,AZ]
       refine⟨by rw[hBL],⟨by omega,?_,by rw[hBL];exact hc⟩,by omega⟩
       rw[Qy,Bh,ha]
       simp[hlo]
   ·have h:i=f.lines.length:=by simp at h;omega
    rw[h,AZ]at ha hb;conv=>whnf
    repeat(refine sT rfl ?_;conv=>whnf)
    exact congrArg AV.bool (by rw[hv,ha,hb];rfl)
open Go.Av Go.Shelf Pl Go.RowKit
theorem bytesWorld_below(w:World)(e:TypeId)(s:ByteArray):Below w.heap.size w (Lib.bytesWorld w e s):=
 ⟨rfl,rfl,rfl,by rw[Lib.bytesWorld_size];omega,λk hk=>Lib.bytesWorld_at_old w e s k (by omega)⟩
theorem rP{s:Bs}{v:Int}(h:Lib.atoiAll s=.ok v):DF .i64 v:=by
 unfold Lib.atoiAll at h;split at h;·cases h
 ·simp only at h;split at h;·cases h
  ·cases h
  ·split at h;·cases h
   ·split at h;·cases h
    ·injection h with h
     constructor<;>simp[IntKind.min,IntKind.max,IntKind.bits,IntKind.signed]<;>split at h<;>omega
theorem lC(s:Bs)(hs:s.length≤100000)(v:Int)(hv:Lib.atoiAll s=.ok v):Aw Tryz.prog 127 [.str s] (λr=>r=.tuple [.int .i64 v,.raw .nilIface]):=by
 refine⟨by kernel_rfl,λC w vs AR hr=>?_⟩
 unfold Aa at hr;obtain⟨v1,_,rfl,h2,hr⟩:=hr;unfold Aa at hr;subst hr;unfold Aj at h2;obtain⟨rfl,hl⟩:=h2;refine(Tryz.strconv_Atoi_ok ⟨s.toArray⟩ (by simp[ByteArray.size];omega) v (by simpa using hv) w).mono λe w' ⟨h3,h4⟩=>?_
 refine⟨_,_,h3,rfl,?_,?_⟩
 ·rcases h4 with rfl|⟨t,rfl⟩;·exact Below.refl _ _
  ·exact bytesWorld_below _ _ _
 ·unfold Aj;refine⟨_,rfl,?_⟩;unfold Aa;refine⟨_,_,rfl,?_,?_⟩;·unfold Aj;exact⟨rfl,rP hv⟩
  ·unfold Aa;refine⟨_,_,rfl,?_,?_⟩;·unfold Aj;rfl
   ·unfold Aa;rfl
theorem ON(w:Bs)(h0:1≤w.length)(hw:w.length≤1000):Aw Tryz.prog 87 [.str w] (λr=>r=.tuple [.int .i64 (if Fe w then (Lp w:Int)else 0),.bool (Fe w)]):=by
 refine Aw.Ai Tryz.func87 rfl Ae (by kernel_rfl) ?_
 conv=>whnf
 repeat(refine sT rfl ?_;conv=>whnf)
 have Yr:Fe w=false→AV.tuple [AV.int IntKind.i64 0,AV.bool false]=AV.tuple [.int .i64 (if Fe w then (Lp w:Int)else 0),.bool (Fe w)]:=λh=>by rw[h];rfl
 have jW:Fe w=(decide (w.length≤4)&&!decide (w[0]=48)&&w.all Dx):=by
  unfold Fe;rw[decide_eq_true h0,DG];cases w with
  |nil=>simp at h0
  |cons c r=>simp only[List.head?_cons,E0.injEq,List.getElem_cons_zero]
 repeat' (first|(refine Ah (λ_=>?_) (λ_=>?_)<;>conv=>whnf)|(refine sT rfl ?_;conv=>whnf))
 rotate_left
 ·rename_i h1;exact Yr (by rw[jW,decide_eq_false (p:=w.length≤4) (by simp at h1;omega)];rfl)
 ·rename_i h1;have h1:w.length≤4:=by simp at h1;omega
  have hg0:w.getD (Int.toNat 0) 0=w[0]:=by simp[FP,show 0<w.length by omega]
  refine⟨⟨by omega,by omega⟩,?_⟩
  rw[hg0];conv=>whnf
  repeat(refine sT rfl ?_;conv=>whnf)
  refine⟨λh2=>?_,λh2=>?_⟩
  ·have h2:w[0]=48:=by
    have:w[0].toNat=48:=by simp at h2;omega
    exact UInt8.toNat_inj.1 this
   conv=>whnf
   repeat(refine sT rfl ?_;conv=>whnf)
   exact Yr (by rw[jW,decide_eq_true h2];simp)
  ·have h2:¬w[0]=48:=λe=>by simp[e]at h2
   have jW:Fe w=w.all Dx:=by rw[jW,decide_eq_true h1,decide_eq_false h2];simp
   conv=>whnf
   repeat(refine sT rfl ?_;conv=>whnf)
   refine Ac.AJ (λk:Nat=>mk 35 [(0,.str w),(2,.int .i64 0),(3,.lit false),(17,.sl 1 (H3 w)),(18,.int .i64 w.length),(19,.int .i64 k)]) (λ_=>[]) (λk=>k≤w.length∧(w.take k).all Dx=true) (λk=>w.length-k) (λ_ _=>⟨rfl,trivial⟩) ⟨0,?_⟩ (λ_=>rfl) λk hk=>?_
   ·conv=>whnf
    repeat(refine Ah ?_ ?_;(focus (first|rfl|(simp;done)));conv=>whnf)
    simp
   ·obtain⟨hk,ha⟩:=hk;repeat(refine sT rfl ?_;conv=>whnf)
    refine⟨λh=>?_,λh=>?_⟩
    ·have h:k<w.length:=by simpa using h
     have Bj:Wr .i64 ((k:Int)+1)=((k+1:Nat):Int):=by rw[AH _ (by omega) (by omega)];rfl
     have ht:=Eu Dx w k h;have OQ:=all_false Dx w k h;conv=>whnf
     repeat(refine sT rfl ?_;conv=>whnf)
     refine⟨by omega,_,EJ w k h,?_⟩
     conv=>whnf
     repeat(refine sT rfl ?_;conv=>whnf)
     repeat' (first|(refine Ah (λ_=>?_) (λ_=>?_)<;>conv=>whnf)|(refine cS (Dl w[k]) rfl ?_;conv=>whnf)|(refine sT rfl ?_;conv=>whnf))
     all_goals first
      |(have hn:Dx w[k]=false:=by simp_all
        exact Yr (by rw[jW,OQ hn]))
      |(have hy:Dx w[k]=true:=by simp_all
        refine⟨k+1,?_⟩
        conv=>whnf
        repeat(refine Ah ?_ ?_;(focus (first|rfl|(simp;done)|(first|exact Bj;done)));conv=>whnf)
        exact⟨⟨by omega,by rw[ht,ha,hy];rfl⟩,by omega⟩)
    ·have h:k=w.length:=by simp at h;omega
     rw[h,AZ]at ha;have hav:=rO ha h0 h1;conv=>whnf
     repeat(refine sT rfl ?_;conv=>whnf)
     refine cS (lC w (by omega) _ hav.1) rfl ?_;conv=>whnf
     repeat(refine sT rfl ?_;conv=>whnf)
     rw[←jW]at ha;refine Ac.draw [] Ae mO (by kernel_rfl) ?_
     conv=>whnf
     repeat(refine sT rfl ?_;conv=>whnf)
     rw[ha];rfl
theorem ER(l:List Bs)(k:Nat)(h:k<l.length):(strs l)[k]?=some (.str l[k]):=by simp[h]
def HM(ls:List (List Bs)):Bool:=ls.all λl=>l.all HX
theorem eT(L:List (List Bs))(k:Nat)(h:k<L.length):(L.map A3)[k]?=some (A3 L[k]):=by simp[h]
theorem YY(L:List (List Bs))(h0:L.length≤1000)(h1:∀l∈L,l.length≤1000)(h2:∀l∈L,∀w∈l,w.length≤1000):Aw Tryz.prog 52 [.sl 1 (L.map A3)] (λr=>r=.bool (HM L)):=by
 refine Aw.Ai Tryz.func52 rfl Ae (by kernel_rfl) ?_
 conv=>whnf
 repeat(refine sT rfl ?_;conv=>whnf)
 have bI:(L.map A3).length=L.length:=by simp
 refine Ac.AJ (λi:Nat=>mk 24 [(2,.lit false),(7,.sl 1 (L.map A3)),(8,.int .i64 L.length),(9,.int .i64 i)]) (λ_=>[]) (λi=>i≤L.length∧HM (L.take i)=true) (λi=>L.length-i) (λ_ _=>⟨rfl,trivial⟩) ⟨0,?_⟩ (λ_=>rfl) λi hi=>?_
 ·conv=>whnf
  repeat(refine Ah ?_ ?_;(focus (first|rfl|(simp;done)));conv=>whnf)
  rfl
 ·obtain⟨hi,ha⟩:=hi;repeat(refine sT rfl ?_;conv=>whnf)
  refine⟨λh=>?_,λh=>?_⟩
  ·have h:i<L.length:=by simp at h;omega
   have Bj:Wr .i64 ((i:Int)+1)=((i+1:Nat):Int):=by rw[AH _ (by omega) (by omega)];rfl
   have Qy:L.take (i+1)=L.take i++[L[i]]:=Aq h;conv=>whnf
   repeat(refine sT rfl ?_;conv=>whnf)
   refine⟨by omega,_,eT L i h,?_⟩
   conv=>whnf
   repeat(refine sT rfl ?_;conv=>whnf)
   have hf:(L[i]).all HX=false→HM L=false:=λhx=>BJ.2 ⟨L[i],Ao h,by simp[hx]⟩
   have h1:=h1 _ (Ao h);have h2:=h2 _ (Ao h)
   have EN:HM (L.take (i+1))=(L[i]).all HX:=by
    unfold HM at ha⊢;rw[Qy,Bh,ha];simp
   generalize L[i]=l at*;refine Ac.AJ (λk:Nat=>mk 24 [(2,.lit false),(7,.sl 1 (L.map A3)),(8,.int .i64 L.length),(9,.int .i64 i),(13,.sl 1 (strs l)),(14,.int .i64 l.length),(15,.int .i64 k)]) (λ_=>[]) (λk=>k≤l.length∧(l.take k).all HX=true) (λk=>l.length-k) (λ_ _=>⟨rfl,trivial⟩) ⟨0,?_⟩ (λ_=>rfl) λk hk=>?_
   ·conv=>whnf
    repeat(refine Ah ?_ ?_;(focus (first|rfl|(simp;done)));conv=>whnf)
    rfl
   ·obtain⟨hk,hc⟩:=hk;repeat(refine sT rfl ?_;conv=>whnf)
    refine⟨λh3=>?_,λh3=>?_⟩
    ·have h3:k<l.length:=by simp at h3;omega
     have Gf:Wr .i64 ((k:Int)+1)=((k+1:Nat):Int):=by rw[AH _ (by omega) (by omega)];rfl
     have hlk:=h2 _ (Ao h3);conv=>whnf
     repeat(refine sT rfl ?_;conv=>whnf)
     refine⟨by omega,_,ER l k h3,?_⟩
     conv=>whnf
     repeat(refine sT rfl ?_;conv=>whnf)
     repeat' (first|(refine Ah (λ_=>?_) (λ_=>?_)<;>conv=>whnf)|(refine cS (Si l[k] (by omega)) rfl ?_;conv=>whnf)|(refine sT rfl ?_;conv=>whnf))
     ·rename_i h5;exact congrArg AV.bool (hf (BJ.2 ⟨l[k],Ao h3,by simpa using h5⟩)).symm
     ·rename_i h5;refine⟨k+1,?_⟩;conv=>whnf
      repeat(refine Ah ?_ ?_;(focus (first|rfl|(simp;done)|(first|exact Gf;done)));conv=>whnf)
      exact⟨⟨by omega,by rw[Aq h3,Bh,hc];simpa using h5⟩,by omega⟩
    ·have h3:k=l.length:=by simp at h3;omega
     rw[h3,AZ]at hc;conv=>whnf
     repeat(refine sT rfl ?_;conv=>whnf)
     refine⟨i+1,?_⟩;conv=>whnf
     repeat(refine Ah ?_ ?_;(focus (first|rfl|(simp;done)|(first|exact Bj;done)));conv=>whnf)
     exact⟨⟨by omega,by rw[EN];exact hc⟩,by omega⟩
  ·have h:i=L.length:=by simp at h;omega
   rw[h,AZ]at ha;conv=>whnf
   repeat(refine sT rfl ?_;conv=>whnf)
   exact congrArg AV.bool ha.symm
open Go.Av Go.Shelf Pl
structure Te(f:Fm):Prop where
 n:f.name.length≤1000
 l:f.lines.length≤1000
 l2:∀l∈f.lines,l.length≤1000
 t:∀l∈f.lines,∀p∈l,p.t.length≤1000
theorem FM(l:List Bs):∀x∈strs l,closed x=true:=by
 intro x hx;obtain⟨y,_,rfl⟩:=Bq.1 hx;rfl
theorem Pa{f:Fm}(h:By f=true):∀l∈f.lines,∀p∈l,D7 p=true:=by
 rw[GC]at h;simp only[Bv,Y4]at h;exact λl hl p hp=>BC.1 h.2.1 p (EM.2 ⟨l,hl,hp⟩)
def I8:AV:=.mp [.int .i64 1,.int .i64 2,.int .i64 3,.int .i64 4,.int .i64 5,.int .i64 6]
 [.agg [.int .i64 1,.fn 84 []],.agg [.int .i64 1,.fn 86 []],.agg [.int .i64 1,.fn 88 []],
  .agg [.int .i64 4,.fn 91 []],.agg [.int .i64 4,.fn 92 []],.agg [.int .i64 4,.fn 93 []]]
theorem Z7:Aw Tryz.prog 53 [] (λr=>r=I8):=by
 refine Aw.Ai Tryz.func53 rfl Ae (by kernel_rfl) ?_
 conv=>whnf
 repeat(refine sT rfl ?_;conv=>whnf)
 repeat(refine⟨by intro a ha;(repeat(rcases CA.1 ha with rfl|ha;(first|exact rfl|skip)))<;>first|rfl|(cases ha;done),?_⟩;(conv=>whnf))
 repeat(refine sT rfl ?_;conv=>whnf)
 rfl
def C6(ls:List Bs)(i:Nat):List AV:=(ls.take i).map (λl=>A3 (Bk l))++Fv (ls.length-i) (.raw (Value.slice none 0 0))
def EZ(ls:List Bs):Nat:=(ls.map λl=>(Bk l).length).sum
theorem Zo(ls:List Bs)(i:Nat)(h:i≤ls.length):(C6 ls i).length=ls.length:=by unfold C6;simp;omega
theorem Tv(ls:List Bs)(i:Nat):∀x∈C6 ls i,closed x=true:=by
 intro x hx;unfold C6 at hx;rcases List.mem_append.1 hx with hx|hx;·obtain⟨l,_,rfl⟩:=Bq.1 hx;rfl
 ·rw[List.eq_of_mem_replicate hx];rfl
theorem Zm(ls:List Bs)(i:Nat)(h:i<ls.length):(C6 ls i).set i (A3 (Bk ls[i]))=C6 ls (i+1):=by
 unfold C6;obtain⟨k,hk⟩:∃k,ls.length-i=k+1:=⟨ls.length-i-1,by omega⟩
 have sQ:ls.length-(i+1)=k:=by omega
 rw[List.set_append_right (h:=by simp;omega),hk,sQ,Aq h,BD]
 simp[List.replicate_succ,Nat.min_eq_left (Nat.le_of_lt h)]
theorem WJ(ls:List Bs)(i:Nat)(h:i<ls.length):(C6 ls i).set (0+((i:Nat):Int).toNat) (A3 (Bk ls[i]))=C6 ls (i+1):=by
 rw[CX,B7];exact Zm ls i h
theorem Zn(ls:List Bs)(i:Nat)(h:i<ls.length):(C6 ls i)[0+((i:Nat):Int).toNat]?=some (.raw (Value.slice none 0 0)):=by
 rw[CX,B7];unfold C6;rw[List.getElem?_append_right (by rw[E2,CL];omega),List.getElem?_replicate]
 simp;omega
theorem Zp(ls:List Bs)(i:Nat)(h:i<ls.length):(C6 ls (i+1))[i]?=some (A3 (Bk ls[i])):=by
 unfold C6;rw[List.getElem?_append_left (by simp;omega)]
 simp[h]
theorem WK(ls:List Bs)(i:Nat)(h:i<ls.length):(C6 ls (i+1))[0+((i:Nat):Int).toNat]?=some (A3 (Bk ls[i])):=by
 rw[CX,B7];exact Zp ls i h
theorem IM:∀(l cur:Bs),(IN cur l).length≤l.length+1
 |[],cur=>by unfold IN;split<;>simp
 |c::r,cur=>by
  unfold IN;split
  ·split;·have:=IM r [];simp;omega
   ·have:=IM r [];simp;omega
  ·have:=IM r (cur++[c]);simp;omega
theorem ME(l:Bs):(Bk l).length≤l.length+1:=IM l []
theorem YM(ls:List Bs)(i:Nat)(h:i<ls.length):EZ (ls.take (i+1))=EZ (ls.take i)+(Bk ls[i]).length:=by
 unfold EZ;rw[Aq h,BD,List.sum_append];simp
theorem Se:∀{l:List Nat}{n:Nat},n∈l→n≤l.sum
 |x::l,n,h=>by
  rw[D6];rcases CA.1 h with rfl|h;·omega
  ·have:=Se h;omega
theorem Lh:∀(ls:List Bs),(∀l∈ls,l.length≤1000)→EZ ls≤ls.length*1001
 |[],_=>by simp[EZ]
 |l::ls,h=>by
  have:=Lh ls λx hx=>h x (by simp[hx])
  have h1:=ME l;have h2:=h l (by simp)
  unfold EZ at*;simp only[D0,D6,CM];omega
abbrev ZH(a:Ad)(n:Nat):List AV:=[.str a.pe,.str a.st,.str a.co,.str a.to,.int .i64 a.nu,.own 7 5 0 n]
abbrev HS(a:Ad)(es:List Ad):List HO:=[.dead,.dead,.dead,.cells (ZH a es.length),.dead,.dead,.dead,.arr 38 5 (es.map Ad.v)]
theorem A7(es:List Ad):∀x∈es.map Ad.v,closed x=true:=by
 intro x hx;obtain⟨y,_,rfl⟩:=Bq.1 hx;rfl
theorem jN(a:Ad)(es:List Ad)(hl:es.length≤1000):FE Tryz.prog 55 [.ptr 3 0] (HS a es) (λr H=>r=.tuple []∧H=HS a (es++[a])) (λ_ _=>False):=by
 refine FE.Ai Tryz.func55 rfl Ae (by kernel_rfl) rfl ?_
 conv=>whnf
 repeat(refine sT rfl ?_;conv=>whnf)
 refine Ac.P0 [31] [32,35] Ae mO (by kernel_rfl) ?_
 conv=>whnf
 refine⟨⟨by simp,by simp;omega⟩,?_⟩
 conv=>whnf
 repeat(refine sT rfl ?_;conv=>whnf)
 have e:es.map Ad.v++[AV.agg [.str a.pe,.str a.st,.int .i64 a.nu,.str a.co,.str a.to]]=(es++[a]).map Ad.v:=by rw[BD];rfl
 rw[e];have e2:((es++[a]).map Ad.v).length=(es++[a]).length:=E2 ..;rw[e2];refine⟨A7 _,?_⟩;conv=>whnf
 exact⟨rfl,rfl⟩
theorem Z2(a:Ad)(es:List Ad)(p:Pt)(w:Bs)(hw:w.length≤20)(sI:∀c∈w,c.toNat<128)(ht:p.t.length≤20)(hta:∀c∈p.t,c.toNat<128):FE Tryz.prog 84 [.ptr 3 0,.str p.t,A3 [w]] (HS a es) (λr H=>r=.bool (decide (DO w=DO p.t))∧H=HS a es) (λ_ _=>False):=by
 refine FE.Ai Tryz.func84 rfl Ae (by kernel_rfl) rfl ?_
 conv=>whnf
 repeat(refine sT rfl ?_;conv=>whnf)
 refine⟨by omega,_,rfl,?_⟩
 conv=>whnf
 repeat(refine sT rfl ?_;conv=>whnf)
 refine cS (ML w (by omega) sI) rfl ?_;conv=>whnf
 repeat(refine sT rfl ?_;conv=>whnf)
 refine cS (ML p.t (by omega) hta) rfl ?_;conv=>whnf
 repeat(refine sT rfl ?_;conv=>whnf)
 refine⟨A7 _,?_⟩;conv=>whnf
 refine⟨congrArg AV.bool ?_,rfl⟩;rw[Ba];simp
theorem Z1(a:Ad)(es:List Ad)(p:Pt)(w:Bs)(Bj:1≤w.length)(hw:w.length≤20):FE Tryz.prog 86 [.ptr 3 0,.str p.t,A3 [w]] (HS a es) (λr H=>r=.bool (Fe w)∧H=HS ⟨a.pe,a.st,if Fe w then Lp w else 0,a.co,a.to⟩ es) (λ_ _=>False):=by
 refine FE.Ai Tryz.func86 rfl Ae (by kernel_rfl) rfl ?_
 conv=>whnf
 repeat(refine sT rfl ?_;conv=>whnf)
 refine⟨by omega,_,rfl,?_⟩
 conv=>whnf
 repeat(refine sT rfl ?_;conv=>whnf)
 refine cS (ON w Bj (by omega)) rfl ?_;conv=>whnf
 repeat(refine sT rfl ?_;conv=>whnf)
 refine⟨A7 _,?_⟩;conv=>whnf
 exact⟨rfl,rfl⟩
theorem Z0(a:Ad)(es:List Ad)(p:Pt)(w:Bs)(hw:w.length≤20)(sI:∀c∈w,c.toNat<128):FE Tryz.prog 88 [.ptr 3 0,.str p.t,A3 [w]] (HS a es) (λr H=>r=.bool (Gd w p.t)∧H=HS ⟨a.pe,a.st,a.nu,xD w,a.to⟩ es) (λ_ _=>False):=by
 refine FE.Ai Tryz.func88 rfl Ae (by kernel_rfl) rfl ?_
 conv=>whnf
 repeat(refine sT rfl ?_;conv=>whnf)
 refine⟨by omega,_,rfl,?_⟩
 conv=>whnf
 repeat(refine sT rfl ?_;conv=>whnf)
 refine cS (Vq w (by omega) sI) rfl ?_;conv=>whnf
 repeat(refine sT rfl ?_;conv=>whnf)
 refine⟨by omega,_,rfl,?_⟩
 conv=>whnf
 repeat(refine sT rfl ?_;conv=>whnf)
 refine cS (VU w p.t (by omega)) rfl ?_;conv=>whnf
 repeat(refine sT rfl ?_;conv=>whnf)
 refine⟨A7 _,?_⟩;conv=>whnf
 exact⟨rfl,rfl⟩
theorem ZZ(a:Ad)(es:List Ad)(p:Pt)(l:List Bs)(hl:l.length≤1000)(hj:(Lib.join l [32]).length≤100000):FE Tryz.prog 91 [.ptr 3 0,.str p.t,A3 l] (HS a es) (λr H=>r=.lit true∧H=HS ⟨a.pe,Lib.join l [32],a.nu,a.co,a.to⟩ es) (λ_ _=>False):=by
 refine FE.Ai Tryz.func91 rfl Ae (by kernel_rfl) rfl ?_
 conv=>whnf
 repeat(refine sT rfl ?_;conv=>whnf)
 refine cS (GK l (by omega) (by omega)) rfl ?_;conv=>whnf
 repeat(refine sT rfl ?_;conv=>whnf)
 refine⟨A7 _,?_⟩;conv=>whnf
 exact⟨rfl,rfl⟩
theorem ZY(a:Ad)(es:List Ad)(p:Pt)(l:List Bs)(hl:l.length≤1000)(hj:(Lib.join l [32]).length≤100000):FE Tryz.prog 92 [.ptr 3 0,.str p.t,A3 l] (HS a es) (λr H=>r=.lit true∧H=HS ⟨a.pe,a.st,a.nu,a.co,Lib.join l [32]⟩ es) (λ_ _=>False):=by
 refine FE.Ai Tryz.func92 rfl Ae (by kernel_rfl) rfl ?_
 conv=>whnf
 repeat(refine sT rfl ?_;conv=>whnf)
 refine cS (GK l (by omega) (by omega)) rfl ?_;conv=>whnf
 repeat(refine sT rfl ?_;conv=>whnf)
 refine⟨A7 _,?_⟩;conv=>whnf
 exact⟨rfl,rfl⟩
theorem ZX(a:Ad)(es:List Ad)(p:Pt)(l:List Bs)(hl:l.length≤1000)(hj:(Lib.join l [32]).length≤100000):FE Tryz.prog 93 [.ptr 3 0,.str p.t,A3 l] (HS a es) (λr H=>r=.lit true∧H=HS ⟨Lib.join l [32],a.st,a.nu,a.co,a.to⟩ es) (λ_ _=>False):=by
 refine FE.Ai Tryz.func93 rfl Ae (by kernel_rfl) rfl ?_
 conv=>whnf
 repeat(refine sT rfl ?_;conv=>whnf)
 refine cS (GK l (by omega) (by omega)) rfl ?_;conv=>whnf
 repeat(refine sT rfl ?_;conv=>whnf)
 refine⟨A7 _,?_⟩;conv=>whnf
 exact⟨rfl,rfl⟩
theorem _root_.Go.Av.FE.lits{P:Go.Program}{f:Go.FuncId}{args:List AV}{H0:List HO}{R':Bool→List HO→Prop}{X:AV→List HO→Prop}(h:FE P f args H0 (λr H=>∃b,(r=.lit b∨r=.bool b)∧R' b H) X):
  FE P f args H0 (λr H=>∃b,r=.bool b∧R' b H) X:=
 ⟨h.Ed,λC mu w vs h1 h2 h3=>(h.out C mu w vs h1 h2 h3).mono λe w' hp=>by
  obtain⟨r,v,H1,C',mu',ho,hp,hh,hr,rest⟩:=hp
  rcases ho with⟨he,b,hb,hR⟩|⟨he,hX⟩
  ·refine⟨.bool b,v,H1,C',mu',.inl ⟨he,b,rfl,hR⟩,hp,hh,?_,rest⟩
   rcases hb with rfl|rfl<;>(unfold Aj at*;exact hr)
  ·exact⟨r,v,H1,C',mu',.inr ⟨he,hX⟩,hp,hh,hr,rest⟩⟩
theorem _root_.Go.Av.FE.gO{P:Go.Program}{f:Go.FuncId}{args:List AV}{H0:List HO}{R R':AV→List HO→Prop}{X:AV→List HO→Prop}(h:FE P f args H0 R X)(hR:∀r H,R r H→R' r H):FE P f args H0 R' X:=
 ⟨h.Ed,λC mu w vs h1 h2 h3=>(h.out C mu w vs h1 h2 h3).mono λe w' hp=>by
  obtain⟨r,v,H1,C',mu',ho,rest⟩:=hp
  exact⟨r,v,H1,C',mu',ho.imp (λ⟨x,y⟩=>⟨x,hR _ _ y⟩) id,rest⟩⟩
def gP(p:Pt):Nat:=if p.k=1 then 84 else if p.k=2 then 86 else if p.k=3 then 88 else if p.k=4 then 91 else if p.k=5 then 92 else 93
theorem qN(p:Pt)(h:p.k=1∨p.k=2∨p.k=3∨p.k=4∨p.k=5∨p.k=6):OG (.int .i64 p.k) [.int .i64 1,.int .i64 2,.int .i64 3,.int .i64 4,.int .i64 5,.int .i64 6]
 [.agg [.int .i64 1,.fn 84 []],.agg [.int .i64 1,.fn 86 []],.agg [.int .i64 1,.fn 88 []],
  .agg [.int .i64 4,.fn 91 []],.agg [.int .i64 4,.fn 92 []],.agg [.int .i64 4,.fn 93 []]]=some (.agg [.int .i64 (DB p:Nat),.fn (gP p) []]):=by
 unfold DB gP;rcases h with h|h|h|h|h|h<;>rw[h]<;>rfl
theorem IC{w:Bs}(h:HX w=true):(1≤w.length∧w.length≤20)∧∀c∈w,c.toNat<128:=by
 unfold HX at h;simp only[Bv,decide_eq_true_eq]at h;exact⟨h.1,λc hc=>cC (BC.1 h.2 c hc)⟩
theorem R3{p:Pt}{l:List Bs}(hk:p.k=1∨p.k=2∨p.k=3)(h1:1≤l.length)(h2:l.length≤DB p):∃w,l=[w]:=by
 unfold DB at h2;rw[if_pos hk]at h2;match l,h1,h2 with
 |[w],_,_=>exact⟨w,rfl⟩
 |_::_::_,_,h2=>simp at h2
theorem eO(p:Pt):DB p≤4:=by unfold DB;split<;>omega
theorem ZV(p:Pt)(hp:D7 p=true)(a:Ad)(es:List Ad)(l:List Bs)(h1:1≤l.length)(h2:l.length≤DB p)(hf:∀x∈l,HX x=true):
  FE Tryz.prog (gP p) [.ptr 3 0,.str p.t,A3 l] (HS a es) (λr H=>∃b,r=.bool b∧(b=Wy p l∧H=HS (Dw p l a) es)) (λ_ _=>False):=by
 refine FE.lits ?_;have U0:=XZ [32] 20 l λx hx=>(IC (hf x hx)).1.2
 have hl4:=eO p
 have ZaU:(Lib.join l [32]).length≤100000:=by
  refine CW U0 ?_;have:l.length*(20+([32]:Bs).length)≤4*(20+([32]:Bs).length):=C3 _ (by omega)
  simp only[CM,C1]at this;simp only[CM,C1];omega
 rcases Fo hp with hk|hk|hk|hk|hk|hk
 ·obtain⟨w,rfl⟩:=R3 (.inl hk) h1 h2;have hw:=IC (hf w (by simp))
  have ht:HX p.t=true:=by unfold D7 at hp;rwa [if_pos hk]at hp
  have ht:=IC ht;have h:=Z2 a es p w hw.1.2 hw.2 ht.1.2 ht.2;have hg:gP p=84:=by unfold gP;rw[hk];rfl
  have ho:Wy p [w]=decide (DO w=DO p.t):=by unfold Wy;rw[hk];rfl
  have hu:Dw p [w] a=a:=by unfold Dw;rw[hk];rfl
  rw[hg,ho,hu];exact h.gO λr H ⟨x,y⟩=>⟨_,.inr x,rfl,y⟩
 ·obtain⟨w,rfl⟩:=R3 (.inr (.inl hk)) h1 h2;have hw:=IC (hf w (by simp))
  have h:=Z1 a es p w hw.1.1 hw.1.2;have hg:gP p=86:=by unfold gP;rw[hk];rfl
  have ho:Wy p [w]=Fe w:=by unfold Wy;rw[hk];rfl
  have hu:Dw p [w] a=⟨a.pe,a.st,if Fe w then Lp w else 0,a.co,a.to⟩:=by unfold Dw;rw[hk];rfl
  rw[hg,ho,hu];exact h.gO λr H ⟨x,y⟩=>⟨_,.inr x,rfl,y⟩
 ·obtain⟨w,rfl⟩:=R3 (.inr (.inr hk)) h1 h2;have hw:=IC (hf w (by simp))
  have h:=Z0 a es p w hw.1.2 hw.2;have hg:gP p=88:=by unfold gP;rw[hk];rfl
  have ho:Wy p [w]=Gd w p.t:=by unfold Wy;rw[hk];rfl
  have hu:Dw p [w] a=⟨a.pe,a.st,a.nu,xD w,a.to⟩:=by unfold Dw;rw[hk];rfl
  rw[hg,ho,hu];exact h.gO λr H ⟨x,y⟩=>⟨_,.inr x,rfl,y⟩
 ·have h:=ZZ a es p l (by omega) ZaU
  have hg:gP p=91:=by unfold gP;rw[hk];rfl
  have ho:Wy p l=true:=by unfold Wy;rw[hk];rfl
  have hu:Dw p l a=⟨a.pe,Lib.join l [32],a.nu,a.co,a.to⟩:=by unfold Dw;rw[hk];rfl
  rw[hg,ho,hu];exact h.gO λr H ⟨x,y⟩=>⟨_,.inl x,rfl,y⟩
 ·have h:=ZY a es p l (by omega) ZaU
  have hg:gP p=92:=by unfold gP;rw[hk];rfl
  have ho:Wy p l=true:=by unfold Wy;rw[hk];rfl
  have hu:Dw p l a=⟨a.pe,a.st,a.nu,a.co,Lib.join l [32]⟩:=by unfold Dw;rw[hk];rfl
  rw[hg,ho,hu];exact h.gO λr H ⟨x,y⟩=>⟨_,.inl x,rfl,y⟩
 ·have h:=ZX a es p l (by omega) ZaU
  have hg:gP p=93:=by unfold gP;rw[hk];rfl
  have ho:Wy p l=true:=by unfold Wy;rw[hk];rfl
  have hu:Dw p l a=⟨Lib.join l [32],a.st,a.nu,a.co,a.to⟩:=by unfold Dw;rw[hk];rfl
  rw[hg,ho,hu];exact h.gO λr H ⟨x,y⟩=>⟨_,.inl x,rfl,y⟩
abbrev rH:List AV:=[.ptr 0 0,.ptr 4 0,.ptr 2 0,.ptr 6 0,.ptr 5 0]
abbrev HD(f:Fm)(W:List (List Bs))(a:Ad)(es:List Ad):List HO:=
 [.cells [.str f.name,.sl 1 (f.lines.map D2)],.dead,.cells [.sl 1 (W.map A3)],.cells (ZH a es.length),.cells [.ptr 3 0],.cells [I8],.cells [.fn 54 rH],.arr 38 5 (es.map Ad.v)]
abbrev HL(f:Fm)(W:List (List Bs))(p:Pt)(a:Ad)(es:List Ad):List HO:=
 [.cells [.str f.name,.sl 1 (f.lines.map D2)],.dead,.cells [.sl 1 (W.map A3)],.cells (ZH a es.length),.cells [.ptr 3 0],.cells [I8],.cells [.fn 54 rH],.arr 38 5 (es.map Ad.v),
  .cells [.int .i64 p.k,.str p.t],.cells [.int .i64 (DB p:Nat),.fn (gP p) []]]
theorem TV(g:Nat→List Ad)(m:Nat):∀N,m≤N→((Cu m).flatMap g).length≤((Cu N).flatMap g).length:=by
 intro N;induction N with
 |zero=>intro h;rw[Nat.le_zero.1 h];exact EY _
 |succ N ih=>
  intro h;by_cases h2:m≤N
  ·rw[E4 (n:=N),Ds,Ec];have:=ih h2;omega
  ·rw[show m=N+1 by omega];exact EY _
def ZT(F:List (List Pt))(i:Nat):Nat:=((F.drop i).map λl=>l.length+1).sum
theorem tR{F:List (List Pt)}{i:Nat}(h:i<F.length):ZT F i=F[i].length+1+ZT F (i+1):=by
 unfold ZT;rw[AO h,D0,D6]
structure yX(f:Fm)(W:List (List Bs)):Prop where
 s:Te f
 p:∀l∈f.lines,∀p∈l,D7 p=true
 e:f.lines.length=W.length
 w:∀l∈W,∀x∈l,HX x=true
 n:∀l∈W,l.length≤1000
def Zd2(f:Fm)(W:List (List Bs))(i j w:Nat)(a:Ad)(es:List Ad):Prop:=
 FE Tryz.prog 54 ([.int .i64 i,.int .i64 j,.int .i64 w]++rH) (HD f W a es) (λr H=>r=.tuple []∧∃a',NY (ZS f.lines i j) a a'∧H=HD f W a' (es++HB f.lines W i j w a)) (λ_ _=>False)
theorem YL(f:Fm)(W:List (List Bs))(hd:yX f W):∀(n i j w:Nat)(a:Ad)(es:List Ad),ZT f.lines i-j=n→i≤f.lines.length→(∀h:i<f.lines.length,j≤f.lines[i].length∧w≤(W[i]'(by have:=hd.e;omega)).length)→
  es.length+(HB f.lines W i j w a).length≤1000→Zd2 f W i j w a es:=by
 intro n;induction n using Nat.strongRecOn with
 |_ n ih=>
  intro i j w a es hn hi vL Y9;have bI:=hd.s.l;have hml:(f.lines.map D2).length=f.lines.length:=by simp
  unfold Zd2;refine FE.Ai Tryz.func54 rfl Ae (by kernel_rfl) rfl ?_
  conv=>whnf
  repeat(refine sT rfl ?_;conv=>whnf)
  refine⟨λh1=>?_,λh1=>?_⟩
  ·have h1:i=f.lines.length:=by simp at h1;omega
   rw[OW (by omega)]at Y9
   rw[OW (by omega)]
   conv=>whnf
   repeat(refine sT rfl ?_;conv=>whnf)
   refine Ak.oE (jN a es (by simp at Y9;omega)) rfl ⟨rfl,rfl,rfl,A7 _,trivial⟩ ?_ (λ_ _ h=>h.elim)
   rintro r H1 ⟨rfl,rfl⟩;conv=>whnf
   repeat(refine sT rfl ?_;conv=>whnf)
   refine⟨A7 _,?_⟩;conv=>whnf
   exact⟨rfl,a,NY.refl _ _,rfl⟩
  ·have h1:i<f.lines.length:=by simp at h1;omega
   have h1W:i<W.length:=by have:=hd.e;omega
   obtain⟨hj,hw⟩:=vL h1;have hLl:=hd.s.l2 _ (Ao h1);have hWl:=hd.n _ (Ao h1W);have hLg:=GI f i h1;have hWg:=eT W i h1W;have Ze5:=tR h1;have hfd:=λj w a=>YA (j:=j) (w:=w) h1 h1W a
   have hrp:=λj=>eE (j:=j) h1
   have vN:PR f.lines.flatten:=λq hq=>by
    obtain⟨l,hl,hq⟩:=EM.1 hq;exact Fo (hd.p l hl q hq)
   rw[Ze5]at hn;rw[hfd]at Y9;rw[hfd,hrp];have hpL:=hd.p _ (Ao h1);have htL:=hd.s.t _ (Ao h1);have hfW:=hd.w _ (Ao h1W);generalize hLe:f.lines[i]=L at*;generalize hYe:W[i]=Y at*;conv=>whnf
   repeat(refine sT rfl ?_;conv=>whnf)
   refine⟨by omega,_,hLg,?_⟩
   conv=>whnf
   repeat(refine sT rfl ?_;conv=>whnf)
   refine⟨λh2=>?_,λh2=>?_⟩
   ·have h2:j=L.length:=by simp at h2;omega
    subst h2;rw[Bc,E9];rw[Bc]at Y9;conv=>whnf
    repeat(refine sT rfl ?_;conv=>whnf)
    refine⟨by omega,_,hWg,?_⟩
    conv=>whnf
    repeat(refine sT rfl ?_;conv=>whnf)
    refine⟨λh3=>?_,λh3=>?_⟩
    ·have h3:w=Y.length:=by simp at h3;omega
     subst h3;rw[Bc];rw[Bc]at Y9;have Bj:Wr .i64 ((i:Int)+1)=((i+1:Nat):Int):=by rw[AH _ (by omega) (by omega)];rfl
     have hnx:=SO hd.e (i+1) (by omega) a
     have hrn:=iP (F:=f.lines) (i+1) (by omega)
     have e0:(EG [] [] a).flatMap (Fc (f.lines.drop (i+1)) (W.drop (i+1)))=HB f.lines W (i+1) 0 0 a:=by rw[hnx];show List.flatMap _ [a]=_;simp
     rw[e0]at Y9;rw[e0,←hrn];conv=>whnf
     repeat(refine sT rfl ?_;conv=>whnf)
     rw[Bj];refine Ak.oE (ih (ZT f.lines (i+1)-0) (by omega) (i+1) 0 0 a es rfl (by omega) (λh=>⟨Cb _,Cb _⟩) Y9) rfl ⟨rfl,rfl,rfl,rfl,rfl,rfl,rfl,rfl,rfl,rfl,rfl,rfl,rfl,A7 _,trivial⟩ ?_ (λ_ _ h=>h.elim)
     rintro r H1 ⟨rfl,a',bV,rfl⟩;conv=>whnf
     repeat(refine sT rfl ?_;conv=>whnf)
     refine⟨A7 _,?_⟩;conv=>whnf
     exact⟨rfl,a',bV,rfl⟩
    ·have e0:EG [] (Y.drop w) a=[]:=by
      have h4:w<Y.length:=by
       have:¬w=Y.length:=λe=>by subst e;simp at h3
       omega
      rw[AO h4];rfl
     rw[e0,EX,Cf];conv=>whnf
     repeat(refine sT rfl ?_;conv=>whnf)
     refine⟨A7 _,?_⟩;conv=>whnf
     exact⟨rfl,a,NY.refl _ _,rfl⟩
   ·have h2:j<L.length:=by simp at h2;omega
    conv=>whnf
    repeat(refine sT rfl ?_;conv=>whnf)
    refine⟨by omega,_,hLg,?_⟩
    conv=>whnf
    repeat(refine sT rfl ?_;conv=>whnf)
    refine⟨by omega,_,FH L j h2,?_⟩
    have pQ:=hpL _ (Ao h2);have htp:=htL _ (Ao h2);have hdr:L.drop j=L[j]::L.drop (j+1):=AO h2;rw[hdr]at Y9;rw[hdr];generalize L[j]=p at*;generalize Y7:L.drop (j+1)=ps at*;conv=>whnf
    repeat(refine sT rfl ?_;conv=>whnf)
    have hk:=qN p (Fo pQ);refine⟨λx hx=>?_,λe=>absurd (hk.symm.trans e) (by simp),λv hv=>?_⟩
    ·simp only[CA,List.not_mem_nil,or_false]at hx;rcases hx with rfl|rfl|rfl|rfl|rfl|rfl<;>rfl
    obtain rfl:=E0.inj (hk.symm.trans hv);clear hv;conv=>whnf
    repeat(refine sT rfl ?_;conv=>whnf)
    have hyl:(Y.drop w).length=Y.length-w:=List.length_drop;rw[Fl]at Y9;rw[Fl];rw[hyl,Ef]at Y9;rw[hyl,Ef];generalize hg:(λx=>(JW p ps (Y.drop w) a x).flatMap (Fc (f.lines.drop (i+1)) (W.drop (i+1))))=g at*
    have Zig:=eO p
    refine Ac.AJ (λx:Nat×Ad×List Ad=>mk 94 [(0,.int .i64 i),(1,.int .i64 j),(2,.int .i64 w),(3,.ptr 0 0),(4,.ptr 4 0),(5,.ptr 2 0),(6,.ptr 6 0),(7,.ptr 5 0),(11,.ptr 8 0),(12,.ptr 9 0),(13,.int .i64 ((x.1+1:Nat):Int))])
     (λx=>HL f W p x.2.1 x.2.2)
     (λx=>x.1≤min (DB p) (Y.length-w)∧NY (p::ps++(f.lines.drop (i+1)).flatten) a x.2.1∧x.2.2=es++(Cu x.1).flatMap g) (λx=>5-x.1) (λx _=>⟨rfl,rfl,rfl,rfl,rfl,rfl,rfl,A7 _,rfl,rfl,trivial⟩) ⟨(0,a,es),?_⟩ (λ_=>rfl) ?_
    ·conv=>whnf
     repeat(refine Ah ?_ ?_;(focus (first|rfl|(simp;done)));conv=>whnf)
     exact⟨NY.refl _ _,by simp⟩
    ·rintro⟨m,b,fs⟩ ⟨hm,vR,yL⟩;simp only at hm vR yL;dsimp only;have hmY:Y.length≤1000:=hWl;have xY:m=min (DB p) (Y.length-w)→NY (p::ps++(f.lines.drop (i+1)).flatten) a b∧fs=es++(Cu (min (DB p) (Y.length-w))).flatMap g:=λe=>⟨vR,by rw[←e];exact yL⟩
     repeat(refine sT rfl ?_;conv=>whnf)
     refine⟨λh3=>?_,λh3=>?_⟩
     ·have h3:m+1≤DB p:=by have:=of_decide_eq_true h3;omega
      have Bj:Wr .i64 ((w:Int)+((m+1:Nat):Int))=((w+m+1:Nat):Int):=by rw[AH _ (by omega) (by omega)];omega
      conv=>whnf
      repeat(refine sT rfl ?_;conv=>whnf)
      refine⟨by omega,_,hWg,?_⟩
      conv=>whnf
      repeat(refine sT rfl ?_;conv=>whnf)
      rw[Bj];refine⟨λh4=>?_,λh4=>?_⟩
      ·have h4:w+m+1≤Y.length:=by have:=of_decide_eq_true h4;rw[CH]at this;omega
       conv=>whnf
       repeat(refine sT rfl ?_;conv=>whnf)
       refine Ac.draw [14] Ae mO (by kernel_rfl) ?_
       conv=>whnf
       refine⟨by omega,_,hWg,?_⟩
       conv=>whnf
       have bC:List.drop ((w:Nat):Int).toNat (List.take (((w+m+1:Nat):Nat):Int).toNat (strs Y))=strs ((Y.drop w).take (m+1)):=by
        simp only[B7,strs,List.map_take,List.map_drop]
        rw[List.drop_take,show w+m+1-w=m+1 by omega]
       rw[Bj,bC]
       refine⟨⟨by omega,by omega,by rw[CH];omega⟩,?_⟩
       conv=>whnf
       have Zil:((Y.drop w).take (m+1)).length=m+1:=by rw[CL,hyl];omega
       have bN:∀x∈(Y.drop w).take (m+1),HX x=true:=λx hx=>hfW x (List.mem_of_mem_drop (C4 hx))
       have hgm:g m=(JW p ps (Y.drop w) a m).flatMap (Fc (f.lines.drop (i+1)) (W.drop (i+1))):=by rw[←hg]
       unfold JW at hgm
       rw[List.drop_drop,show w+(m+1)=w+m+1 by omega]at hgm
       have ZaD:=Y7
       generalize (Y.drop w).take (m+1)=l at*
       have lN:=Fo pQ
       have N5:NY (p::ps++(f.lines.drop (i+1)).flatten) b (Dw p l b):=(nP lN).mono (by simp)
       have GA:NY (ps++(f.lines.drop (i+1)).flatten) (Dw p l a) (Dw p l b):=eF lN vR
       have hrm:=E4 (n:=m)
       have SB:(Cu (m+1)).flatMap g=(Cu m).flatMap g++g m:=by rw[hrm,Ds];simp
       have hle:=TV g (m+1) (min (DB p) (Y.length-w)) (by omega)
       rw[SB]at hle
       have Gf:Wr .i64 (((m+1:Nat):Int)+1)=((m+1+1:Nat):Int):=by rw[AH _ (by omega) (by omega)];rfl
       have bB:Wr .i64 ((j:Int)+1)=((j+1:Nat):Int):=by rw[AH _ (by omega) (by omega)];rfl
       refine Ak.oE (ZV p pQ b fs l (by omega) (by omega) bN) rfl ⟨rfl,rfl,rfl,A7 _,trivial⟩ ?_ (λ_ _ h=>h.elim)
       rintro r H1 ⟨bb,rfl,rfl,rfl⟩
       conv=>whnf
       repeat(refine sT rfl ?_;conv=>whnf)
       refine⟨λh5=>?_,λh5=>?_⟩
       ·rw[if_pos h5]at hgm
        have Zdp:g m=HB f.lines W i (j+1) (w+m+1) (Dw p l b):=by
         rw[hgm,←kN hd.e vN (i:=i) (j:=j+1) (w:=w+m+1) (a:=Dw p l a) (by rw[hrp,ZaD];exact GA),hfd,ZaD]
        have Bu:NY (p::ps++(f.lines.drop (i+1)).flatten) a (Dw p l b):=vR.trans N5
        have hbd:fs.length+(HB f.lines W i (j+1) (w+m+1) (Dw p l b)).length≤1000:=by
         rw[←Zdp,yL];rw[Ec]at hle ⊢
         omega
        have hIH:=ih (ZT f.lines i-(j+1)) (by omega) i (j+1) (w+m+1) (Dw p l b) fs rfl hi (λh=>⟨by rw[hLe];omega,by rw[hYe];omega⟩) hbd
        conv=>whnf
        repeat(refine sT rfl ?_;conv=>whnf)
        rw[bB,Bj]
        refine Ak.oE hIH rfl ⟨rfl,rfl,rfl,rfl,rfl,rfl,rfl,rfl,rfl,rfl,rfl,rfl,rfl,A7 _,trivial⟩ ?_ (λ_ _ h=>h.elim)
        rintro r H1 ⟨rfl,c,hc,rfl⟩
        rw[hrp,ZaD]at hc
        conv=>whnf
        repeat(refine sT rfl ?_;conv=>whnf)
        refine⟨(m+1,c,fs++HB f.lines W i (j+1) (w+m+1) (Dw p l b)),?_⟩
        conv=>whnf
        repeat(refine Ah ?_ ?_;(focus (first|rfl|(simp;done)|(first|exact Gf;done)));conv=>whnf)
        dsimp only
        refine⟨⟨by omega,Bu.trans (hc.mono λq hq=>List.mem_cons_of_mem _ hq),?_⟩,by omega⟩
        rw[SB,←BV,←yL,←Zdp]
       ·rw[if_neg (by rw[h5];simp)]at hgm
        conv=>whnf
        repeat(refine sT rfl ?_;conv=>whnf)
        refine⟨(m+1,Dw p l b,fs),?_⟩
        conv=>whnf
        repeat(refine Ah ?_ ?_;(focus (first|rfl|(simp;done)|(first|exact Gf;done)));conv=>whnf)
        dsimp only
        refine⟨⟨by omega,vR.trans N5,?_⟩,by omega⟩
        rw[SB,hgm,EX,Cf]
        exact yL
      ·have h4:Y.length<w+m+1:=by have:=of_decide_eq_false h4;rw[CH]at this;omega
       obtain⟨TL,rfl⟩:=xY (by omega)
       conv=>whnf
       repeat(refine sT rfl ?_;conv=>whnf)
       refine⟨A7 _,?_⟩
       conv=>whnf
       exact⟨rfl,b,TL,rfl⟩
     ·have h3:DB p<m+1:=by have:=of_decide_eq_false h3;omega
      obtain⟨TL,rfl⟩:=xY (by omega)
      conv=>whnf
      repeat(refine sT rfl ?_;conv=>whnf)
      refine⟨A7 _,?_⟩;conv=>whnf
      exact⟨rfl,b,TL,rfl⟩
def Ca(f:Fm)(ls:List Bs):List Ad×Int:=
 if By f=true then
  if EZ ls≤40 then
   if ls.length=f.lines.length∧HM (ls.map Bk)=true then (Fc f.lines (ls.map Bk) Mw,0)else ([],0)
  else ([],2)
 else ([],1)
theorem RG(f:Fm)(ls:List Bs)(hf:Te f)(hl:ls.length≤1000)(Y8:∀l∈ls,l.length≤1000):Aw Tryz.prog 26 [f.v,A3 ls]
  (λr=>r=.tuple [.sl 5 ((Ca f ls).1.map Ad.v),.int .i64 (Ca f ls).2]):=by
 refine Aw.Ai Tryz.func26 rfl Ae (by kernel_rfl) ?_
 conv=>whnf
 repeat(refine sT rfl ?_;conv=>whnf)
 refine cS (Dg f hf.n hf.t hf.l hf.l2) rfl ?_;conv=>whnf
 repeat(refine sT rfl ?_;conv=>whnf)
 refine⟨λh1=>?_,λh1=>?_⟩
 ·have h1:By f=false:=by simpa using h1
  have hR:Ca f ls=([],1):=by unfold Ca;rw[h1];rfl
  rw[hR];conv=>whnf
  repeat(refine sT rfl ?_;conv=>whnf)
  refine⟨5,?_⟩;conv=>whnf
  rfl
 ·have h1:By f=true:=by simpa using h1
  have hp:=Pa h1;have bC:(strs ls).length=ls.length:=CH ls;have hml:(f.lines.map D2).length=f.lines.length:=by simp
  conv=>whnf
  repeat(refine sT rfl ?_;conv=>whnf)
  refine⟨⟨by omega,by omega,by omega⟩,?_⟩
  conv=>whnf
  repeat(refine sT rfl ?_;conv=>whnf)
  refine Ac.AJ (λi:Nat=>mk 62 [(1,A3 ls),(2,.ptr 0 0),(4,.raw (Value.slice none 0 0)),(5,.int .i64 0),(6,.ptr 2 0),(7,.int .i64 (EZ (ls.take i))),(19,A3 ls),(20,.int .i64 ls.length),(21,.int .i64 i)]) (λi=>[.cells [.str f.name,.sl 1 (f.lines.map D2)],.arr 25 1 (C6 ls i),.cells [.own 1 1 0 ls.length]]) (λi=>i≤ls.length) (λi=>ls.length-i) (λ_ _=>⟨rfl,rfl,Tv _ _,rfl,trivial⟩) ⟨0,?_⟩ (λ_=>rfl) λi hi=>?_
  ·conv=>whnf
   repeat(refine Ah ?_ ?_;(focus (first|rfl|(simp;done)|(first|exact congrArg (AV.int .i64) (by omega)|exact congrArg (AV.own 1 1 0) (by simp)|(refine congrArg (HO.arr _ 1) ?_;simp[C6];done)|(refine congrArg HO.cells ?_;simp;done);done)));conv=>whnf)
   refine⟨?_,Cb _⟩;have e1:((strs ls).length:Int).toNat=ls.length:=by simp
   rw[e1];have e2:C6 ls 0=Fv ls.length (.raw (Value.slice none 0 0)):=by simp[C6]
   rw[e2]
  ·repeat(refine sT rfl ?_;conv=>whnf)
   refine⟨λh=>?_,λh=>?_⟩
   ·have h:i<ls.length:=by simp at h;omega
    have Bj:Wr .i64 ((i:Int)+1)=((i+1:Nat):Int):=by rw[AH _ (by omega) (by omega)];rfl
    conv=>whnf
    repeat(refine sT rfl ?_;conv=>whnf)
    refine⟨by omega,_,ER ls i h,?_⟩
    conv=>whnf
    repeat(refine sT rfl ?_;conv=>whnf)
    have hwl:=Zo ls i hi;have hli:=Y8 _ (Ao h);refine Ac.draw [5] Ae mO (by kernel_rfl) ?_
    conv=>whnf
    refine⟨_,⟨Zl ls[i] (by omega),rfl⟩,?_⟩
    conv=>whnf
    refine⟨⟨by omega,by omega⟩,?_⟩
    conv=>whnf
    repeat(refine sT rfl ?_;conv=>whnf)
    refine⟨_,Zn ls i h,?_⟩;conv=>whnf
    rw[WJ ls i h];conv=>whnf
    repeat(refine sT rfl ?_;conv=>whnf)
    refine⟨⟨by omega,by omega⟩,?_⟩
    conv=>whnf
    repeat(refine sT rfl ?_;conv=>whnf)
    refine⟨_,WK ls i h,?_⟩;conv=>whnf
    repeat(refine sT rfl ?_;conv=>whnf)
    refine⟨i+1,?_⟩;have hct:=YM ls i h;have IJ:=Lh ls Y8
    have ZiI:EZ (ls.take i)≤1000*1001:=by
     refine CW (Lh _ λl hl=>Y8 l (C4 hl)) ?_
     rw[CL];exact C3 _ (by omega)
    have hwc:=ME ls[i]
    have Gf:Wr .i64 (((EZ (ls.take i):Nat):Int)+(((strs (Bk ls[i])).length:Nat):Int))=((EZ (ls.take (i+1)):Nat):Int):=by
     rw[hct,CH,AH _ (by omega) (by omega)];rfl
    conv=>whnf
    repeat(refine Ah ?_ ?_;(focus (first|rfl|(simp;done)|(first|exact Bj|exact Gf;done)));conv=>whnf)
    exact⟨by omega,by omega⟩
   ·have h:i=ls.length:=by simp at h;omega
    subst h;rw[AZ];have IJ:=Lh ls Y8;have hwA:C6 ls ls.length=(ls.map Bk).map A3:=by unfold C6;simp
    rw[hwA];conv=>whnf
    repeat(refine sT rfl ?_;conv=>whnf)
    refine⟨λh2=>?_,λh2=>?_⟩
    ·have h2:¬EZ ls≤40:=by simp at h2;omega
     have hR:Ca f ls=([],2):=by unfold Ca;rw[h1,if_pos rfl,if_neg h2]
     rw[hR];conv=>whnf
     repeat(refine sT rfl ?_;conv=>whnf)
     refine⟨5,?_⟩;conv=>whnf
     rfl
    ·have h2:EZ ls≤40:=by simp at h2;omega
     conv=>whnf
     have hLl:((ls.map Bk).map A3).length=ls.length:=by simp
     refine Ac.freeze 1 ?_;conv=>whnf
     refine⟨(λx hx=>by obtain⟨y,_,rfl⟩:=Bq.1 hx;rfl),?_⟩
     conv=>whnf
     repeat(refine⟨(by first|rfl|(simp;done):(_:Nat)=_),?_⟩;conv=>whnf)
     have OQ:∀l∈ls.map Bk,l.length≤1000∧∀w∈l,w.length≤1000:=λl hl=>by
      obtain⟨x,hx,rfl⟩:=Bq.1 hl;have hm:(Bk x).length∈ls.map λl=>(Bk l).length:=Bq.2 ⟨x,hx,rfl⟩
      have h3:=Se hm;unfold EZ at h2;exact⟨by omega,λw hw=>by have:=QZ x w hw;have:=Y8 x hx;omega⟩
     have hR0:¬(ls.length=f.lines.length∧HM (ls.map Bk)=true)→Ca f ls=([],0):=λh=>by unfold Ca;rw[h1,if_pos rfl,if_pos h2,if_neg h]
     repeat' (first|(refine Ah (λ_=>?_) (λ_=>?_)<;>conv=>whnf)|(refine cS (YY (ls.map Bk) (by simp;omega) (λl hl=>(OQ l hl).1) (λl hl=>(OQ l hl).2)) rfl ?_;conv=>whnf)|(refine cS (Z7) rfl ?_;conv=>whnf)|(refine sT rfl ?_;conv=>whnf))
     ·rename_i h3 h4;rw[hR0 λh=>by rw[h.2]at h4;simp at h4]
      refine⟨5,?_⟩;conv=>whnf
      rfl
     ·rename_i h3 h4;have h3:ls.length=f.lines.length:=by simp at h3;omega
      have h4:HM (ls.map Bk)=true:=by simpa using h4
      have hR:Ca f ls=(Fc f.lines (ls.map Bk) Mw,0):=by unfold Ca;rw[h1,if_pos rfl,if_pos h2,if_pos ⟨h3,h4⟩]
      rw[hR];have D5:=GC f;rw[h1]at D5
      have D5:Y4 f.lines.flatten=true:=by
       have:=D5.symm;simp only[Bv]at this;exact this.2
      unfold Y4 at D5;simp only[Bv,decide_eq_true_eq]at D5;have vN:PR f.lines.flatten:=λq hq=>Fo (BC.1 D5.1 q hq)
      have hdv:yX f (ls.map Bk):=⟨hf,hp,by simp[h3],λl hl x hx=>BC.1 (BC.1 h4 l hl) x hx,λl hl=>(OQ l hl).1⟩
      have hnx:=SO (F:=f.lines) (W:=ls.map Bk) (by simp[h3]) 0 (Cb _) Mw
      rw[Fw,Fw]at hnx;have Zdt:=UD vN D5.2 (ls.map Bk) Mw;refine Ak.Gv 3 5 38 5 rfl rfl ?_;refine Ak.oE (YL f (ls.map Bk) hdv (ZT f.lines 0-0) 0 0 0 Mw [] rfl (Cb _) (λ_=>⟨Cb _,Cb _⟩) (by rw[hnx,C1];omega)) rfl ⟨rfl,rfl,rfl,rfl,rfl,rfl,rfl,rfl,rfl,rfl,rfl,rfl,rfl,A7 _,trivial⟩ ?_ (λ_ _ h=>h.elim)
      rintro r H1 ⟨rfl,c,hc,rfl⟩;rw[hnx,E9];conv=>whnf
      repeat(refine sT rfl ?_;conv=>whnf)
      refine⟨⟨by simp,A7 _⟩,?_⟩
      conv=>whnf
     ·rename_i h3;rw[hR0 λh=>by rw[CH,hml,h.1]at h3;simp at h3]
      refine⟨5,?_⟩;conv=>whnf
      rfl
end Go.Proofs.YtdadkhcdoaeabaaGreatDoor.Ff