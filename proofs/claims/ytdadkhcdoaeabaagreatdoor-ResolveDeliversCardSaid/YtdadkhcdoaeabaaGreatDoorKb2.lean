/- AV: the operations that make or write memory are run as they say. -/
import Derived.Test.YtdadkhcdoaeabaaGreatDoorKa2
set_option linter.unusedVariables false
set_option maxRecDepth 100000
set_option linter.unusedSimpArgs false
open Nat renaming eq_of_beq_eq_true → Ao, le_of_ble_eq_true → BC, mul_le_mul_right → CX, add_mul → C1, ne_of_beq_eq_false → E1, min_eq_left → Hs, add_zero → H2, le_mul_of_pos_right → Jb, beq → Ju, zero_add → JC, le_refl → J4, add_left_comm → J6, le_trans → Kj, mul_eq_zero → Kw, mod_lt → K1
open Bool renaming and_eq_true → AO
open List renaming getElem?_set_ne → AZ, length_append → Bj, replicate → Cb, getElem?_map → Cu, length_take → CL, getElem?_eq_some_iff → CW, mem_of_mem_take → C0, size_toArray → C3, mem_append → C4, getElem?_set_self → DC, eq_of_mem_replicate → D0, getElem?_eq_getElem → D5, length_drop → Ec, mem_of_mem_drop → Ed, length_replicate → E4, ext_getElem? → Ff, take_of_length_le → F0, take_left → Gj, take_append_drop → Gk, length_cons → Gz, eq_nil_of_length_eq_zero → G1, getElem_mem → G2, map_cons → Hm, take_set_of_le → Hp, length_nil → Hx, flatMap_append → HW, mem_or_eq_of_mem_set → H4, take_add_one → Ix, drop_eq_nil_of_le → JA, nil_append → JB, append_nil → JD, mem_map → JE, length_map → JG, mem_of_getElem? → JK, drop_set_of_lt → J2, foldl_toArray' → J3, getElem?_take → J5, drop_append → Km, take_append → Kn, length_set → Kr, drop_drop → KT, take_take → K0, all_cons → K2
open Option renaming some → Bv, map_some → DG
open Go.Builtin renaming zeroCells → CM, append_ → Ds, firstCells → FP, lenOf → Ho, clear_ → It
open Go.Result renaming andThen_ok → Ef
open Array renaming toList_map → Ei, range → E0, getElem?_modify → E2, length_toList → Fv, toArray_toList → G4, toList_setIfInBounds → H0, getElem?_toList → JJ, zipIdx_toArray → J1, toList_push → Kh, toList_inj → Ko
open Go.Sem renaming run_bind → Fy, run_pure → Ki
open Go.Program renaming bytesOf → Ky, built → Lo
open Go.IntKind renaming i64 → Lr
namespace Go.Av
section
variable {C C':Ag}{w w':World}{mu mu':Mu}
mutual
theorem A9:∀(x:AV){v:Value},Bi x=true→Aj C w x mu v→Aj C' w' x mu' v
 |.any,_,_,_=>by unfold Aj;trivial
 |.int _ _,_,_,h=>by unfold Aj at*;exact h
 |.bool _,_,_,h=>by unfold Aj at*;exact h
 |.lit _,_,_,h=>by unfold Aj at*;exact h
 |.str _,_,_,h=>by unfold Aj at*;exact h
 |.raw _,_,_,h=>by unfold Aj at*;exact h
 |.sl _ _,_,hn,_=>by unfold Bi at hn;cases hn
 |.at_ _,_,hn,_=>by unfold Bi at hn;cases hn
 |.ptr _ _,_,hn,_=>by unfold Bi at hn;cases hn
 |.el _ _ _ _,_,hn,_=>by unfold Bi at hn;cases hn
 |.own _ _ _ _,_,hn,_=>by unfold Bi at hn;cases hn
 |.mp _ _,_,hn,_=>by unfold Bi at hn;cases hn
 |.om _,_,hn,_=>by unfold Bi at hn;cases hn
 |.fn f cap,_,hn,h=>by
  unfold Bi at hn;unfold Aj at*;obtain⟨vs,h1,h2⟩:=h;exact⟨vs,h1,Cj cap hn h2⟩
 |.mv f cap,_,hn,h=>by
  unfold Bi at hn;unfold Aj at*;obtain⟨vs,h1,h2⟩:=h;exact⟨vs,h1,Cj cap hn h2⟩
 |.iface t x,_,hn,h=>by
  unfold Bi at hn;unfold Aj at*;obtain⟨y,h1,h2⟩:=h;exact⟨y,h1,A9 x hn h2⟩
 |.agg cs,_,hn,h=>by
  unfold Bi at hn;unfold Aj at*;obtain⟨vs,h1,h2⟩:=h;exact⟨vs,h1,Cj cs hn h2⟩
 |.tuple cs,_,hn,h=>by
  unfold Bi at hn;unfold Aj at*;obtain⟨vs,h1,h2⟩:=h;exact⟨vs,h1,Cj cs hn h2⟩
theorem Cj:∀(xs:List AV){vs:List Value},Ct xs=true→Aa C w xs mu vs→Aa C' w' xs mu' vs
 |[],_,_,h=>by unfold Aa at*;exact h
 |x::xs,_,hn,h=>by
  unfold Ct at hn;simp only[AO]at hn;unfold Aa at*;obtain⟨v,BV,h1,h2,h3⟩:=h;exact⟨v,BV,h1,A9 x hn.1 h2,Cj xs hn.2 h3⟩
end
end
section
variable {G:Cx}{C:Ag}{w:World}{mu:Mu}{H:List HO}{E:List AV}{a:Act}{T:List TY}
def Gn(G:Cx)(a:Act)(w:World)(K:AV→KK)(s:Sem Value):Prop:=
 ∃r v E' H' C' mu' w',K r E' H'∧s.run G.P w=.ok v w'∧Az G C' mu' E' H' a w'∧Aj C' w' r mu' v
theorem Xd{x:AV}{v:Value}(h:Aj C w x mu v)(hs:CJ x=true):v.oneCell'=true:=by
 cases x<;>simp[CJ]at hs<;>unfold Aj at h
 case int=>rw[h.1];rfl
 case bool=>rw[h];rfl
 case lit=>rw[h];rfl
 case str=>rw[h.1];rfl
 case sl=>rcases h with⟨⟨_,rfl⟩,_⟩|⟨_,_,_,rfl,_⟩<;>rfl
 case at_=>obtain⟨_,_,rfl,_⟩:=h;rfl
 case fn=>obtain⟨_,rfl,_⟩:=h;rfl
 case mv=>obtain⟨_,rfl,_⟩:=h;rfl
 case iface=>obtain⟨_,rfl,_⟩:=h;rfl
 case raw=>rw[h];exact hs
 case ptr=>obtain⟨_,_,rfl⟩:=h;rfl
 case el=>obtain⟨_,_,_,_,rfl⟩:=h;rfl
 case own=>obtain⟨_,_,_,_,rfl⟩:=h;unfold BP;split<;>rfl
 case mp=>rcases h with⟨rfl,_⟩|⟨_,_,_,rfl,_⟩<;>rfl
 case om=>obtain⟨_,_,rfl⟩:=h;rfl
theorem FQ{cs:List AV}{vs:List Value}(h:Aa C w cs mu vs)(hs:cs.all CJ=true):∀v∈vs,v.oneCell'=true:=by
 induction cs generalizing vs with
 |nil=>unfold Aa at h;subst h;simp
 |cons c cs ih=>
  unfold Aa at h;obtain⟨v,BV,rfl,h2,h3⟩:=h;simp only[K2,AO]at hs;intro u hu;simp only[List.mem_cons]at hu;rcases hu with rfl|hu;·exact Xd h2 hs.1
  ·exact ih h3 hs.2 u hu
theorem Li{x:AV}{v:Value}(h:Aj C w x mu v)(hs:x.cells.all CJ=true):∃vs:List Value,v.cells=vs.toArray∧Aa C w x.cells mu vs:=by
 by_cases hx:∃cs,x=.agg cs
 ·obtain⟨cs,rfl⟩:=hx;unfold Aj at h;obtain⟨vs,rfl,h⟩:=h;exact⟨vs,rfl,h⟩
 ·have hc:x.cells=[x]:=by cases x<;>first|rfl|exact absurd ⟨_,rfl⟩ hx
  rw[hc]at hs ⊢;simp only[K2,List.all_nil,Bool.and_true]at hs;have h1:=Xd h hs;have hv:v.cells=#[v]:=by cases v<;>first|rfl|simp[Value.oneCell']at h1
  exact⟨[v],by rw[hv],by unfold Aa;exact⟨v,[],rfl,h,by unfold Aa;rfl⟩⟩
mutual
theorem UK:∀(x:AV){v:Value},EH x=true→Aj C w x mu v→Aj C w x (Bb mu) v
 |.any,_,_,_=>by unfold Aj;trivial
 |.int _ _,_,_,h=>by unfold Aj at*;exact h
 |.bool _,_,_,h=>by unfold Aj at*;exact h
 |.lit _,_,_,h=>by unfold Aj at*;exact h
 |.str _,_,_,h=>by unfold Aj at*;exact h
 |.sl _ _,_,_,h=>by unfold Aj at*;exact h
 |.at_ _,_,_,h=>by unfold Aj at*;exact h
 |.raw _,_,_,h=>by unfold Aj at*;exact h
 |.ptr l o,_,_,h=>by
  unfold Aj at*;obtain⟨b,h1,h2⟩:=h;exact⟨b,by simp[Bb,h1],h2⟩
 |.fn f cap,_,hn,h=>by
  unfold EH at hn;unfold Aj at*;obtain⟨vs,h1,h2⟩:=h;exact⟨vs,h1,EA cap hn h2⟩
 |.mv f cap,_,hn,h=>by
  unfold EH at hn;unfold Aj at*;obtain⟨vs,h1,h2⟩:=h;exact⟨vs,h1,EA cap hn h2⟩
 |.iface t x,_,hn,h=>by
  unfold EH at hn;unfold Aj at*;obtain⟨y,h1,h2⟩:=h;exact⟨y,h1,UK x hn h2⟩
 |.agg cs,_,hn,h=>by
  unfold EH at hn;unfold Aj at*;obtain⟨vs,h1,h2⟩:=h;exact⟨vs,h1,EA cs hn h2⟩
 |.tuple cs,_,hn,h=>by
  unfold EH at hn;unfold Aj at*;obtain⟨vs,h1,h2⟩:=h;exact⟨vs,h1,EA cs hn h2⟩
 |.el _ _ _ _,_,hn,_=>by unfold EH at hn;cases hn
 |.own _ _ _ _,_,hn,_=>by unfold EH at hn;cases hn
 |.mp _ _,_,_,h=>by unfold Aj at*;exact h
 |.om l,_,_,h=>by
  unfold Aj at*;obtain⟨b,h1,h2⟩:=h;exact⟨b,by simp[Bb,h1],h2⟩
theorem EA:∀(xs:List AV){vs:List Value},I5 xs=true→Aa C w xs mu vs→Aa C w xs (Bb mu) vs
 |[],_,_,h=>by unfold Aa at*;exact h
 |x::xs,_,hn,h=>by
  unfold I5 at hn;simp only[AO]at hn;unfold Aa at*;obtain⟨v,BV,h1,h2,h3⟩:=h;exact⟨v,BV,h1,UK x hn.1 h2,EA xs hn.2 h3⟩
end
mutual
theorem A6:∀(x:AV){v:Value},closed x=true→Aj C w x mu v→Aj C w x Mu.none v
 |.any,_,_,_=>by unfold Aj;trivial
 |.int _ _,_,_,h=>by unfold Aj at*;exact h
 |.bool _,_,_,h=>by unfold Aj at*;exact h
 |.lit _,_,_,h=>by unfold Aj at*;exact h
 |.str _,_,_,h=>by unfold Aj at*;exact h
 |.sl _ _,_,_,h=>by unfold Aj at*;exact h
 |.at_ _,_,_,h=>by unfold Aj at*;exact h
 |.raw _,_,_,h=>by unfold Aj at*;exact h
 |.ptr l o,_,hn,h=>by unfold closed at hn;cases hn
 |.fn f cap,_,hn,h=>by
  unfold closed at hn;unfold Aj at*;obtain⟨vs,h1,h2⟩:=h;exact⟨vs,h1,A1 cap hn h2⟩
 |.mv f cap,_,hn,h=>by
  unfold closed at hn;unfold Aj at*;obtain⟨vs,h1,h2⟩:=h;exact⟨vs,h1,A1 cap hn h2⟩
 |.iface t x,_,hn,h=>by
  unfold closed at hn;unfold Aj at*;obtain⟨y,h1,h2⟩:=h;exact⟨y,h1,A6 x hn h2⟩
 |.agg cs,_,hn,h=>by
  unfold closed at hn;unfold Aj at*;obtain⟨vs,h1,h2⟩:=h;exact⟨vs,h1,A1 cs hn h2⟩
 |.tuple cs,_,hn,h=>by
  unfold closed at hn;unfold Aj at*;obtain⟨vs,h1,h2⟩:=h;exact⟨vs,h1,A1 cs hn h2⟩
 |.el _ _ _ _,_,hn,_=>by unfold closed at hn;cases hn
 |.own _ _ _ _,_,hn,_=>by unfold closed at hn;cases hn
 |.mp _ _,_,_,h=>by unfold Aj at*;exact h
 |.om _,_,hn,_=>by unfold closed at hn;cases hn
theorem A1:∀(xs:List AV){vs:List Value},Ap xs=true→Aa C w xs mu vs→Aa C w xs Mu.none vs
 |[],_,_,h=>by unfold Aa at*;exact h
 |x::xs,_,hn,h=>by
  unfold Ap at hn;simp only[AO]at hn;unfold Aa at*;obtain⟨v,BV,h1,h2,h3⟩:=h;exact⟨v,BV,h1,A6 x hn.1 h2,A1 xs hn.2 h3⟩
end
mutual
theorem Un{l:Nat}{g:Option GO}:∀(x:AV){v:Value},(∀b,mu l=some (.CU b)→g=some (.CU b))→Aj C w x mu v→Aj C w (Bd l x) (mu.set l g) v
 |.any,_,_,_=>by unfold Bd Aj;trivial
 |.int _ _,_,_,h=>by unfold Bd;unfold Aj at*;exact h
 |.bool _,_,_,h=>by unfold Bd;unfold Aj at*;exact h
 |.lit _,_,_,h=>by unfold Bd;unfold Aj at*;exact h
 |.str _,_,_,h=>by unfold Bd;unfold Aj at*;exact h
 |.sl _ _,_,_,h=>by unfold Bd;unfold Aj at*;exact h
 |.at_ _,_,_,h=>by unfold Bd;unfold Aj at*;exact h
 |.raw _,_,_,h=>by unfold Bd;unfold Aj at*;exact h
 |.ptr k o,_,hg,h=>by
  unfold Bd;unfold Aj at*
  obtain⟨b,h1,h2⟩:=h;refine⟨b,?_,h2⟩;by_cases e:k=l;·subst e;rw[Mu.Au];exact hg b h1
  ·rw[Mu.AB _ _ e];exact h1
 |.fn f cap,_,hg,h=>by
  unfold Bd;unfold Aj at*
  obtain⟨vs,h1,h2⟩:=h;exact⟨vs,h1,CQ cap hg h2⟩
 |.mv f cap,_,hg,h=>by
  unfold Bd;unfold Aj at*
  obtain⟨vs,h1,h2⟩:=h;exact⟨vs,h1,CQ cap hg h2⟩
 |.iface t x,_,hg,h=>by
  unfold Bd;unfold Aj at*
  obtain⟨y,h1,h2⟩:=h;exact⟨y,h1,Un x hg h2⟩
 |.agg cs,_,hg,h=>by
  unfold Bd;unfold Aj at*
  obtain⟨vs,h1,h2⟩:=h;exact⟨vs,h1,CQ cs hg h2⟩
 |.tuple cs,_,hg,h=>by
  unfold Bd;unfold Aj at*
  obtain⟨vs,h1,h2⟩:=h;exact⟨vs,h1,CQ cs hg h2⟩
 |.mp _ _,_,_,h=>by unfold Bd;unfold Aj at*;exact h
 |.om k,_,hg,h=>by
  unfold Bd;unfold Aj at*
  obtain⟨b,h1,h2⟩:=h;refine⟨b,?_,h2⟩;by_cases e:k=l;·subst e;rw[Mu.Au];exact hg b h1
  ·rw[Mu.AB _ _ e];exact h1
 |.el k sz i o,_,_,h=>by
  unfold Bd;split;·unfold Aj;trivial
  ·rename_i hb;have e:k≠l:=E1 hb;unfold Aj at*;obtain⟨b,n,c,h1,h2⟩:=h;exact⟨b,n,c,by rw[Mu.AB _ _ e];exact h1,h2⟩
 |.own k sz lo n,_,_,h=>by
  unfold Bd;split;·unfold Aj;trivial
  ·rename_i hb;have e:k≠l:=E1 hb;unfold Aj at*;obtain⟨x,h1,h2⟩:=h;exact⟨x,by rw[Mu.AB _ _ e];exact h1,h2⟩
theorem CQ{l:Nat}{g:Option GO}:∀(xs:List AV){vs:List Value},(∀b,mu l=some (.CU b)→g=some (.CU b))→Aa C w xs mu vs→Aa C w (BN l xs) (mu.set l g) vs
 |[],_,_,h=>by unfold BN;unfold Aa at*;exact h
 |x::xs,_,hg,h=>by
  unfold BN;unfold Aa at*
  obtain⟨v,BV,h1,h2,h3⟩:=h;exact⟨v,BV,h1,Un x hg h2,CQ xs hg h3⟩
end
theorem UN(h:Az G C mu E H a w){n:Nat}{H':List HO}{cs:List AV}{vs:List Value}(hr:Aa C w cs mu vs)(EN:Al H n H' (.cells cs))(hs:cs.all CJ=true)(e:TypeId):
  Az G C (mu.set n (some (.CU w.heap.size))) E H' a (w.alloc (.cells vs.toArray e))∧
  Aj C (w.alloc (.cells vs.toArray e)) (.ptr n 0) (mu.set n (some (.CU w.heap.size))) (.pointer (some ⟨w.heap.size,0,none⟩)):=by
 refine⟨h.alloc _ (.cells cs) EN (.CU w.heap.size) (by simp[GO.As]) (by simp) ?_ (by simp),?_⟩
 ·intro cs' hc;simp only[HO.cells.injEq]at hc;subst hc;exact⟨vs.toArray,e,rfl,rfl,by simpa using hr,by simpa using FQ hr hs⟩
 ·unfold Aj;exact⟨_,Mu.Au _ _ _,rfl⟩
theorem ZbB{al:Option Nat}(h:Az G C mu E H a w){t:TypeId}{x:Operand}{K:AV→KK}(hk:ZbC al E H x K):Gn G a w K (Instr.box t (a.eval x)):=by
 unfold ZbC Ws at hk;rw[Af,Am]at hk;split at hk
 ·rename_i hs;obtain⟨H',n,EN,hk⟩:=O7 hk;obtain⟨vs,hv,hr⟩:=Li (AT h.env x) hs;obtain⟨h1,h2⟩:=UN h hr EN hs t;exact⟨_,_,_,_,_,_,_,hk,by simp[Instr.box,newVar,newRow,hv],h1,h2⟩
 ·exact hk.elim
theorem ED(hT:BL G.P T){t:TypeId}{y:TY}(hy:T[t]?=some y)(hl:y.zero.length=y.size)(hp:1≤y.size):∃z,(zeroValue t).run G.P w=.ok z w∧Aa C w y.zero mu z.cells.toList:=by
 obtain⟨i,d,h1,h2,rfl⟩:=hT.facts hy;simp only at hl hp⊢;rcases IK (AU G.P t) i.zero with hz|⟨z,hz,e,_⟩;·rw[hz]at hl;simp at hl;omega
 ·refine⟨z,by simp[zeroValue,typeInfo,h1,hz],?_⟩
  rw[e];refine(AI _).2 ⟨by simp,λj h3 h4=>?_⟩
  simp only[List.getElem_map];exact QK _
theorem rS{al:Option Nat}(hT:BL G.P T)(h:Az G C mu E H a w){t:TypeId}{K:AV→KK}(hk:Mv al T E H t K):Gn G a w K (Instr.alloc t true (.tuple #[])):=by
 unfold Mv Ji at hk;replace hk:=(Ab _ _ _).1 hk;obtain⟨y,hy,hk⟩:=hk
 split at hk
 ·rename_i hs;simp only[AO]at hs;obtain⟨H',n,EN,hk⟩:=O7 hk;obtain⟨z,h1,h2⟩:=ED (C:=C) (w:=w) (mu:=mu) hT hy (Ao hs.1.2) (BC hs.2);obtain⟨h3,h4⟩:=UN h h2 EN hs.1.1 t;refine⟨_,_,_,_,_,_,_,hk,?_,h3,h4⟩;simp[Instr.alloc,h1,newVar,newRow]
 ·exact hk.elim
end
end Go.Av
namespace Go.Av
section
variable {G:Cx}{C:Ag}{w:World}{mu:Mu}{H:List HO}{E:List AV}{a:Act}{T:List TY}
theorem Mf:∀(cs:List AV),I5 cs=cs.all EH
 |[]=>rfl
 |c::cs=>by simp[I5,Mf cs]
theorem Po:∀(vs l:List AV)(o:Nat),(Ik l o vs).length=l.length
 |[],_,_=>rfl
 |v::vs,l,o=>by simp[Ik,Po vs]
theorem Ox{cs:List AV}{us:List Value}(hc:Aa C w cs mu us):∀{Gu:List AV}{vs:List Value}{o:Nat},Aa C w Gu mu vs→o+cs.length≤Gu.length→
  Aa C w (Ik Gu o cs) mu (vs.take o++us++vs.drop (o+us.length)):=by
 induction cs generalizing us with
 |nil=>intro Gu vs o h hl;unfold Aa at hc;subst hc;simpa[Ik]using h
 |cons c cs ih=>
  intro Gu vs o h hl;unfold Aa at hc;obtain⟨u,Tw,rfl,h2,h3⟩:=hc;simp only[Ik];have hlen:=Ar _ h;simp only[Gz]at hl
  have h':Aa C w (Gu.set o c) mu (vs.set o u):=by
   have:=Aa.put (vs:=vs.toArray) (by simpa using h) o h2
   simpa using this
  have:=ih h3 (o:=o+1) h' (by simp;omega)
  have e:(vs.set o u).take (o+1)++Tw++(vs.set o u).drop (o+1+Tw.length)=vs.take o++(u::Tw)++vs.drop (o+(u::Tw).length):=by
   have ho:o<vs.length:=by omega
   rw[J2 (by omega),Ix,Hp (by omega)]
   simp[ho,Nat.add_comm,J6]
  rw[e]at this;exact this
theorem WW(h:Az G C mu E H a w){l:Nat}{Gu:List AV}(hl:H[l]?=some (.cells Gu)){b:Nat}(hm:mu l=some (.CU b)){o:Nat}{cs:List AV}{us:List Value}
  (hu:Aa C w cs mu us) (hs:cs.all CJ=true) (hle:o+cs.length≤Gu.length) (t:TypeId) (v:Value) (hv:v.cells=us.toArray) (Eh:(sizeOf t).run G.P w=.ok us.length w):
  ∃w',(Instr.storeAt t (.pointer (some ⟨b,o,none⟩)) v).run G.P w=.ok () w'∧Az G C mu E (H.set l (.cells (Ik Gu o cs))) a w':=by
 obtain⟨b',cur,e,V8,hb,hr,h1⟩:=h.heap.Cm l Gu hl;rw[hm]at V8;simp only[Bv.injEq,GO.CU.injEq]at V8;subst V8;have hlc:us.length=cs.length:=Ar _ hu;have hlo:=Ar _ hr
 have Ah:=run_storeCells_at G.P b o e us 0 cur w hb (by have:cur.size=cur.toList.length:=by simp
                                                        omega) (FQ hu hs)
 simp only[H2]at Ah
 have Kl:mu.set l (some (.CU b))=mu:=by
  funext i;by_cases e:i=l
  ·subst e;rw[Mu.Au,hm]
  ·rw[Mu.AB _ _ e]
 refine⟨w.setRow b (cur.toList.take o++us++cur.toList.drop (o+us.length)).toArray,?_,?_⟩;·simp only[Instr.storeAt,Instr.sureAddr,storeVar,Fy,Ki,Ef,Eh,hv,C3,ne_eq,not_true_eq_false,if_false,Ah]
 ·have hx:=FA (w:=w) (h.heap.fresh _ _ _ hm rfl).2.2 ((cur.toList.take o++us++cur.toList.drop (o+us.length)).toArray);have AR:l<H.length:=(CW.1 hl).1
  have:=Az.write (g:=.CU b) (g':=.CU b) h hm rfl (new:=(cur.toList.take o++us++cur.toList.drop (o+us.length)).toArray) hb (.cells (Ik Gu o cs)) rfl (λ_ h=>h) (λ_ h=>h) (E':=E)
   (by rw[Kl];exact Aa.mono hx _ (Ay.refl _) h.env) (H.set l (.cells (Ik Gu o cs))) (by simp)
   (λi hi=>by
    rw[AZ (Ne.symm hi),Kl]
    exact⟨λh=>h,λcs h=>⟨cs,h,λ_ h=>h⟩,λ_ _ _ h=>h,λcs _ _ h=>⟨cs,h,λ_ h=>h⟩,λ_ h=>h⟩)
   (by simp) (by simp[AR])
   (λcs' hc=>by
    simp only[HO.cells.injEq]at hc
    subst hc
    refine⟨rfl,by simpa using Ox hu hr hle,?_⟩
    intro x hx
    simp only[C4]at hx
    rcases hx with (hx|hx)|hx
    ·exact h1 x (C0 hx)
    ·exact FQ hu hs x hx
    ·exact h1 x (Ed hx))
   (by simp)
   (λi hi ks vs h=>by rw[AZ (Ne.symm hi)]at h;exact h)
  rw[Kl]at this;exact this
theorem SR{sz:Nat}:∀(es:List AV)(i:Nat)(e:AV),(∀a∈es,a.cells.length=sz)→i<es.length→e.cells.length=sz→
  flat (es.set i e)=(flat es).take (i*sz)++e.cells++(flat es).drop (i*sz+sz)
 |[],i,e,_,h,_=>by simp at h
 |a::es,0,e,hs,_,he=>by
  have e1:flat (a::es)=a.cells++flat es:=by simp[flat]
  have e2:flat (e::es)=e.cells++flat es:=by simp[flat]
  simp only[List.set_cons_zero,Nat.zero_mul,List.take_zero,JB,JC];rw[e1,e2,Km,JA (by rw[hs a (by simp)];omega),hs a (by simp)]
  simp
 |a::es,i+1,e,hs,h,he=>by
  have e1:flat (a::es)=a.cells++flat es:=by simp[flat]
  have e2:flat (a::es.set i e)=a.cells++flat (es.set i e):=by simp[flat]
  have ha:=hs a (by simp)
  simp only[List.set_cons_succ]
  have t1:(a.cells++flat es).take ((i+1)*sz)=a.cells++(flat es).take (i*sz):=by
   rw[Kn,F0 (l:=a.cells) (by rw[ha,C1];omega),ha]
   congr 2;rw[C1];omega
  have t2:(a.cells++flat es).drop ((i+1)*sz+sz)=(flat es).drop (i*sz+sz):=by
   rw[Km,JA (as:=a.cells) (by rw[ha,C1];omega),ha,JB]
   congr 1;rw[C1];omega
  rw[e1,e2,SR es i e (λb hb=>hs b (by simp[hb])) (by simpa using h) he,t1,t2]
  simp
theorem zK(M us:List Value)(p o sz:Nat)(h1:o+us.length≤sz)(h2:p+sz≤M.length):
  M.take p++(((M.drop p).take sz).take o++us++((M.drop p).take sz).drop (o+us.length))++M.drop (p+sz)=M.take (p+o)++us++M.drop (p+o+us.length):=by
 have e1:M.take (p+o)=M.take p++(M.drop p).take o:=List.take_add
 have e2:M.drop (p+o+us.length)=((M.drop p).take sz).drop (o+us.length)++M.drop (p+sz):=by
  rw[show p+o+us.length=p+(o+us.length) by omega,←KT,←KT (i:=sz) (j:=p)]
  conv=>lhs;rw[←Gk sz (M.drop p)]
  rw[List.drop_append_of_le_length (by simp only[CL,Ec];omega)]
 rw[e1,e2,K0,Hs (by omega)]
 simp
theorem dU(cur us:List Value)(N q:Nat)(h1:q+us.length≤N)(h2:N≤cur.length):
  (cur.take N).take q++us++(cur.take N).drop (q+us.length)=List.take N (cur.take q++us++cur.drop (q+us.length)):=by
 rw[Kn,K0,Hs (by omega),List.drop_take,F0 (l:=cur.take q++us) (by simp only[Bj,CL];omega)]
 congr 1;simp only[Bj,CL];congr 1;omega
theorem T4.size{Gu new:Array Value}{fz:Nat×Nat}(h:T4 Gu fz)(hs:new.size=Gu.size):T4 new fz:=by
 unfold T4 at*;rw[hs];exact h
theorem PU{w:World}{g off:Nat}{cur:Array Value}{t:TypeId}{fz:Nat×Nat}(hg:w.heap[g]?=some (.cells cur t fz))(hf:T4 cur fz)(h:off<cur.size):w.frozen? ⟨g,off,none⟩=false:=by
 simp only[World.frozen?,hg];rcases hf with rfl|rfl;·simp
 ·simp;omega
theorem CZ(P:Program)(g o:Nat)(t:TypeId)(fz:Nat×Nat):∀(vs:List Value)(i:Nat)(cur:Array Value)(w:World),w.heap[g]?=some (.cells cur t fz)→T4 cur fz→o+i+vs.length≤cur.size→(∀v∈vs,v.oneCell'=true)→
  (storeCells ⟨g,o,none⟩ vs i).run P w=.ok () (w.setRow g (cur.toList.take (o+i)++vs++cur.toList.drop (o+i+vs.length)).toArray)
 |[],i,cur,w,hg,_,_,_=>by
  simp only[storeCells,JD,Hx,H2,Gk,G4];rw[setRow_self w g cur t fz hg];rfl
 |v::rest,i,cur,w,hg,Nu,hl,h1=>by
  have hi:o+i<cur.size:=by simp at hl;omega
  have Zbf:(⟨g,o,none⟩:Addr).add i=⟨g,o+i,none⟩:=by unfold Addr.add;split<;>simp_all
  have Ep:w.cell? ⟨g,o+i,none⟩=some cur[o+i]:=by simp[World.cell?,hg,hi]
  have ZfE:w.frozen? ⟨g,o+i,none⟩=false:=PU hg Nu hi
  have Ah:(store ((⟨g,o,none⟩:Addr).add i) v).run P w=.ok () (w.setRow g (cur.setIfInBounds (o+i) v)):=by
   rw[Zbf,run_store P w _ v _ (h1 v (by simp)),Ep]
   simp[ZfE,setCell_eq_setRow w g (o+i) cur t fz v hg]
  have ih:=CZ P g o t fz rest (i+1) (cur.setIfInBounds (o+i) v) (w.setRow g (cur.setIfInBounds (o+i) v)) (setRow_heap w g cur _ t _ hg) (Nu.size (by simp)) (by simp at hl⊢;omega) (λx hx=>h1 x (by simp[hx]))
  simp only[storeCells,Fy,Ah,Ef,ih,setRow_setRow];congr 3;have e:=list_seg_step cur.toList (o+i) v rest (by simp at hl⊢;omega)
  simpa[H0,Nat.add_assoc]using e
theorem WV(h:Az G C mu E H a w){l:Nat}{e:TypeId}{sz:Nat}{es:List AV}(hl:H[l]?=some (.arr e sz es)){b n c:Nat}(hm:mu l=some (.arr (.slice (some ⟨b,0,none⟩) n c)))
  {i o:Nat} {Gu new:AV} (hi:es[i]?=some Gu) {cs:List AV} {us:List Value} (hu:Aa C w cs mu us) (hs:cs.all CJ=true) (hna:cs.all EH=true) (hle:o+cs.length≤Gu.cells.length)
  (Fx:new.cells=Ik Gu.cells o cs) (t:TypeId) (v:Value) (hv:v.cells=us.toArray) (Eh:(sizeOf t).run G.P w=.ok us.length w):
  ∃w',(Instr.storeAt t (.pointer (some ⟨b,i*sz+o,none⟩)) v).run G.P w=.ok () w'∧Az G C mu E (H.set l (.arr e sz (es.set i new))) a w':=by
 obtain⟨hz,h2⟩:=h.heap.BJ l e sz es hl;have Yl:i<es.length:=(CW.1 hi).1;have hold:Gu∈es:=JK hi;have ZaG:=hz Gu hold;rcases h2 with⟨h2,rfl⟩|⟨b',cap,cur,h3,⟨fz,hb,Nu⟩,h5,h6,h7,h8,h9⟩;·simp at Yl
 ·rw[hm]at h3;simp only[Bv.injEq,GO.arr.injEq,Value.slice.injEq,Addr.mk.injEq]at h3;obtain⟨⟨rfl,_⟩,rfl,rfl⟩:=h3;have hlc:us.length=cs.length:=Ar _ hu;have yI:new.cells.length=sz:=by rw[Fx,Po,ZaG]
  have hmul:(i+1)*sz≤es.length*sz:=CX _ Yl;have UY:es.length*sz≤c*sz:=CX _ h5;rw[C1]at hmul;have bN:i*sz+o+us.length≤cur.size:=by omega
  have Ah:=CZ G.P b (i*sz+o) e fz us 0 cur w hb Nu (by omega) (FQ hu hs)
  simp only[H2]at Ah
  have Kl:mu.set l (some (.arr (.slice (some ⟨b,0,none⟩) es.length c)))=mu:=by
   funext j;by_cases e:j=l
   ·subst e;rw[Mu.Au,hm]
   ·rw[Mu.AB _ _ e]
  refine⟨w.setRow b (cur.toList.take (i*sz+o)++us++cur.toList.drop (i*sz+o+us.length)).toArray,?_,?_⟩;·simp only[Instr.storeAt,Instr.sureAddr,storeVar,Fy,Ki,Ef,Eh,hv,C3,ne_eq,not_true_eq_false,if_false,Ah]
  ·have hx:=FA (w:=w) (h.heap.fresh _ _ _ hm rfl).2.2 ((cur.toList.take (i*sz+o)++us++cur.toList.drop (i*sz+o+us.length)).toArray);have AR:l<H.length:=(CW.1 hl).1;have hub:Aa C w cs (Bb mu) us:=EA cs (by rw[Mf];exact hna) hu
   have:=Az.write (g:=.arr (.slice (some ⟨b,0,none⟩) es.length c)) (g':=.arr (.slice (some ⟨b,0,none⟩) es.length c)) h hm rfl
    (new:=(cur.toList.take (i*sz+o)++us++cur.toList.drop (i*sz+o+us.length)).toArray) hb (.arr e sz (es.set i new)) rfl (by simp) (by simp) (E':=E)
    (by rw[Kl];exact Aa.mono hx _ (Ay.refl _) h.env) (H.set l (.arr e sz (es.set i new))) (by simp)
    (λj hj=>by
     rw[AZ (Ne.symm hj),Kl]
     exact⟨λh=>h,λcs h=>⟨cs,h,λ_ h=>h⟩,λ_ _ _ h=>h,λcs _ _ h=>⟨cs,h,λ_ h=>h⟩,λ_ h=>h⟩)
    (by simp) (by simp[AR])
    (by simp)
    (λe' BD Cf hc=>by
     simp only[HO.arr.injEq]at hc
     obtain⟨rfl,rfl,rfl⟩:=hc
     refine⟨λx hx=>?_,c,by simp,rfl,by simpa using h5,h6,?_,?_,?_⟩
     ·rcases H4 hx with hx|rfl
      ·exact hz x hx
      ·exact yI
     ·simp only[C3,Bj,CL,Ec,Fv];omega
     ·simp only[Kr]
      rw[SR es i new hz Yl yI];have hf:=BA es hz
      -- lI values: xE before,xE of lI element,xE behind
      obtain⟨r,hr⟩:=GL es hz i Gu hi;have Wd:((flat es).drop (i*sz)).take sz=Gu.cells:=by rw[hr,←ZaG];simp
      have hA:=h8.take (i*sz);have hB:=(h8.drop (i*sz)).take sz;rw[Wd]at hB;have hC:=h8.drop (i*sz+sz);have hB':=Ox hub hB hle;rw[←Fx]at hB';have B7:=AF (AF hA hB') hC
      have e1:(((cur.toList.take (es.length*sz)).take (i*sz)++((((cur.toList.take (es.length*sz)).drop (i*sz)).take sz).take o++us++(((cur.toList.take (es.length*sz)).drop (i*sz)).take sz).drop (o+us.length)))++(cur.toList.take (es.length*sz)).drop (i*sz+sz))=
        List.take (es.length*sz) (cur.toList.take (i*sz+o)++us++cur.toList.drop (i*sz+o+us.length)):=by
       have IJ:cur.toList.length=c*sz:=by simpa using h7
       rw[zK _ us _ _ _ (by omega) (by simp only[CL];omega),dU _ us _ _ (by omega) (by omega)]
      rw[e1]at B7
      simpa using B7
     ·intro x hx
      simp only[C4]at hx;rcases hx with (hx|hx)|hx;·exact h9 x (C0 hx)
      ·exact FQ hu hs x hx
      ·exact h9 x (Ed hx))
    (λi hi ks vs h=>by rw[AZ (Ne.symm hi)]at h;exact h) (by simp)
    ⟨λ_ h=>(by cases h),λ_ _ _ _=>Nu.size (by simp only[C3,Bj,CL,Ec,Fv];omega)⟩
   rw[Kl]at this;exact this
end
open Go.MapKept
section
variable {G:Cx}{C:Ag}{w:World}{mu:Mu}{H:List HO}{E:List AV}{a:Act}{T:List TY}
theorem mQ(hT:BL G.P T)(h:Az G C mu E H a w){t:TypeId}{ad x:Operand}{K:AV→KK}(hk:Cg T E H t ad x K):
  ∃E' H' C' mu' w',K (.raw undef) E' H'∧(Instr.storeAt t (a.eval ad) (a.eval x)).run G.P w=.ok () w'∧Az G C' mu' E' H' a w':=by
 unfold Cg at hk;replace hk:=(Ab _ _ _).1 hk;obtain⟨y,hy,hk⟩:=hk
 rw[Af,Af,Am]at hk;split at hk
 ·rename_i hs;simp only[AO]at hs;have hp:=AT h.env ad;obtain⟨us,hv,hu⟩:=Li (AT h.env x) hs.1;have xW:=Ar _ hu;have xP:=Ao hs.2;obtain⟨i,d,hi,hd,TM⟩:=hT.facts hy
  have Eh:(sizeOf t).run G.P w=.ok us.length w:=by
   have:i.size=us.length:=by rw[xW,xP,TM]
   simp[sizeOf,typeInfo,hi,this]
  generalize jZ:AM E ad=p at hk hp;cases p with
  |ptr l o=>
   simp only at hk;replace hk:=(Ab _ _ _).1 hk;obtain⟨ob,Ba,hk⟩:=hk
   cases ob with
   |arr _ _ _=>exact hk.elim
   |dead=>exact hk.elim
   |ghost _ _ _=>exact hk.elim
   |inv _=>exact hk.elim
   |map _ _=>exact hk.elim
   |cells Gu=>
    simp only at hk;split at hk
    ·rename_i hle;rw[Cn,AD]at hk;unfold Aj at hp;obtain⟨b,hm,hp⟩:=hp;obtain⟨w',h1,h2⟩:=WW h Ba hm hu hs.1 (BC hle) t (a.eval x) hv Eh;exact⟨_,_,_,_,w',hk,by rw[hp];exact h1,h2⟩
    ·exact hk.elim
  |el l sz i o=>
   simp only at hk;replace hk:=(Ab _ _ _).1 hk;obtain⟨ob,Ba,hk⟩:=hk
   cases ob with
   |cells _=>exact hk.elim
   |dead=>exact hk.elim
   |ghost _ _ _=>exact hk.elim
   |inv _=>exact hk.elim
   |map _ _=>exact hk.elim
   |arr e BD es=>
    simp only at hk;split at hk
    ·rename_i hz;simp only[AO]at hz;obtain rfl:=Ao hz.1;obtain⟨Gu,hold,hk⟩:=hk;rw[Am]at hk;split at hk
     ·rename_i hle;have hle:=BC hle;have ZaG:=(h.heap.BJ l e sz es Ba).1 Gu (JK hold);unfold Aj at hp;obtain⟨b,n,c,hm,hp⟩:=hp;split at hk
      ·rename_i pJ
       have pJ:=Ao pJ
       rw[AD]at hk
       obtain rfl:o=0:=by omega
       have hpu:(AM E x).cells=Ik Gu.cells 0 (AM E x).cells:=by
        have key:∀(cs l:List AV)(o:Nat),o+cs.length=l.length→Ik l o cs=l.take o++cs:=by
         intro cs;induction cs with
         |nil=>intro l o ho;simp only[Ik,JD];rw[F0 (by simp at ho;omega)]
         |cons c cs ih=>
          intro l o ho;simp only[Ik,Gz]at ho ⊢;rw[ih _ _ (by simp;omega),Ix,Hp (by omega)]
          simp[show o<l.length by omega]
        rw[key _ _ _ (by omega)];simp
       obtain⟨w',h1,h2⟩:=WV h Ba hm hold hu hs.1 hz.2 hle hpu t (a.eval x) hv Eh
       exact⟨_,_,_,_,w',hk,by rw[hp];exact h1,h2⟩
      ·rw[Cn,AD]at hk
       obtain⟨w',h1,h2⟩:=WV (new:=.agg (Ik Gu.cells o (AM E x).cells)) h Ba hm hold hu hs.1 hz.2 hle rfl t (a.eval x) hv Eh
       exact⟨_,_,_,_,w',hk,by rw[hp];exact h1,h2⟩
     ·exact hk.elim
    ·exact hk.elim
  |_=>exact hk.elim
 ·exact hk.elim
theorem QP(h:Az G C mu E H a w){n:Nat}{H':List HO}{e:TypeId}{sz cap:Nat}{es:List AV}{vs:List Value}(EN:Al H n H' (.arr e sz es))(hz:∀a∈es,a.cells.length=sz)(hr:Aa C w (flat es) (Bb mu) (vs.take (es.length*sz)))
  (h1:∀v∈vs,v.oneCell'=true) (hc:es.length≤cap) (hm:cap≤9223372036854775807) (hl:vs.length=cap*sz):
  ∃mu',Az G C mu' E H' a (w.alloc (.cells vs.toArray e))∧
  Aj C (w.alloc (.cells vs.toArray e)) (.own n sz 0 es.length) mu' (.slice (some ⟨w.heap.size,0,none⟩) es.length cap):=by
 refine⟨mu.set n (some (.arr (.slice (some ⟨w.heap.size,0,none⟩) es.length cap))),h.alloc _ (.arr e sz es) EN (.arr (.slice (some ⟨w.heap.size,0,none⟩) es.length cap)) (by simp[GO.As]) (by simp) (by simp) ?_,?_⟩
 ·intro e' BD Cf yO;simp only[HO.arr.injEq]at yO;obtain⟨rfl,rfl,rfl⟩:=yO;exact⟨hz,cap,vs.toArray,rfl,⟨_,rfl,.inl rfl⟩,hc,hm,by simpa using hl,by simpa using hr,by simpa using h1⟩
 ·unfold Aj;exact⟨_,Mu.Au _ _ _,by simp[Da],by simp only[Da,Jx];exact⟨hc,hm⟩,by simp[BP]⟩
theorem SP:∀(us:List Value)(off k:Nat)(vs:Array Value),off+k+us.length≤vs.size→
  ((us.zipIdx k).foldl (λcs (x:Value×Nat)=>cs.setIfInBounds (off+x.2) x.1) vs).toList=vs.toList.take (off+k)++us++vs.toList.drop (off+k+us.length)
 |[],off,k,vs,_=>by simp
 |u::us,off,k,vs,h=>by
  simp only[Gz]at h;simp only[List.zipIdx_cons,List.foldl_cons];rw[SP us off (k+1) _ (by simp;omega)]
  have ho:off+k<vs.toList.length:=by simp;omega
  simp only[H0];rw[show off+(k+1)=(off+k)+1 by omega,J2 (by omega),Ix,Hp (by omega)]
  have yH:off+k<vs.size:=by simpa using ho
  simp[yH,Nat.add_comm,J6]
theorem OY{fs:List (Nat×Nat×Bool)}{place:Nat→Option (Nat×Nat)}(hp:∀i f,fs[i]?=some f→place i=some (f.1,f.2.1))(he:Aa C w E mu a.tmps.toList):
  ∀(parts:List (Nat×Operand)) (cells:List AV) (vs:List Value) {K:List AV→Prop},Aa C w cells mu vs→NC E fs parts cells K→
  ∃O2 us,K O2∧Aa C w O2 mu us∧Instr.fill place vs.toArray (parts.map λp=>(p.1,a.eval p.2))=some us.toArray
 |[],cells,vs,K,hr,hk=>⟨cells,vs,hk,hr,rfl⟩
 |(i,x)::r,cells,vs,K,hr,hk=>by
  unfold NC at hk;replace hk:=(Ab _ _ _).1 hk;obtain⟨⟨off,size,ag⟩,hf,hk⟩:=hk
  simp only at hk;rw[Af,Am]at hk;split at hk
  ·rename_i hb;simp only[AO]at hb;have h1:=Ao hb.1.1;have h2:=BC hb.1.2;rw[Cn]at hk;have hx:=AT he x;have hlen:=Ar _ hr;obtain⟨us,hv,hu⟩:=Li hx hb.2;have xW:=Ar _ hu;have Ye:place i=some (off,size):=hp i _ hf;have Nq:=Ox hu hr (o:=off) (by omega)
   obtain⟨O2,Tw,k1,k2,k3⟩:=OY hp he r _ _ Nq hk;refine⟨O2,Tw,k1,k2,?_⟩;simp only[Hm,Instr.fill,Ye,hv,C3];rw[if_neg (by simp;omega)]
   have pZ:(us.toArray.zipIdx.foldl (λcs (x:Value×Nat)=>cs.setIfInBounds (off+x.2) x.1) vs.toArray)=(vs.take off++us++vs.drop (off+us.length)).toArray:=by
    rw[←Ko,J1];simp only[J3];have:=SP us off 0 vs.toArray (by simp;omega)
    simpa using this
   rw[pZ];exact k3
  ·exact hk.elim
theorem UH{P:Program}:∀(fs:List Field),(∀f∈fs,1≤Fi P f.type)→fs.mapM (λf=>(P.info? f.type).map λi=>(f.offset,i.size))=some (fs.map λf=>(f.offset,Fi P f.type))
 |[],_=>rfl
 |f::fs,h=>by
  obtain⟨n,hn⟩:∃n,Fi P f.type=n+1:=⟨Fi P f.type-1,by have:=h f (by simp);omega⟩
  obtain⟨i,d,h1,_,h2⟩:=JU hn;have:=UH fs (λg hg=>h g (by simp[hg]))
  simp[List.mapM_cons,h1,h2,hn,this]
theorem rL(hT:BL G.P T)(he:Aa C w E mu a.tmps.toList){t:TypeId}{parts:Array (Nat×Operand)}{K:AV→Prop}(hk:Hi T E t parts.toList K):
  ∃r v,K r∧Aj C w r mu v∧(Instr.build t (parts.map λp=>(p.1,a.eval p.2))).run G.P w=.ok v w:=by
 unfold Hi at hk;replace hk:=(Ab _ _ _).1 hk;obtain⟨y,hy,hk⟩:=hk
 split at hk
 ·rename_i fs hf;split at hk
  ·rename_i hb;simp only[AO]at hb;obtain⟨fields,hu,yL⟩:=hT.struct hy hf;obtain⟨z,TL,Qv⟩:=ED (C:=C) (w:=w) (mu:=mu) hT hy (Ao hb.1.2) (BC hb.2);obtain⟨i,d,hi,hd,TM⟩:=hT.facts hy
   have B7:∀f∈fields.toList,1≤Fi G.P f.type:=λf hf'=>by
    have:=List.all_eq_true.1 hb.1.1 (f.offset,Fi G.P f.type,AU G.P f.type) (by rw[yL];exact JE.2 ⟨f,hf',rfl⟩)
    exact BC this
   have Ye:=UH fields.toList B7
   obtain⟨O2,us,k1,k2,k3⟩:=OY (place:=((fields.toList.map λf=>(f.offset,Fi G.P f.type)).toArray[·]?)) (λi f hif=>by
    rw[yL,Cu]at hif;simp only[List.getElem?_toArray,Cu];cases fI:fields.toList[i]? with
    |none=>rw[fI]at hif;simp at hif
    |some fd=>rw[fI]at hif;simp only[DG,Bv.injEq]at hif ⊢;subst hif;rfl) he parts.toList y.zero z.cells.toList (by simpa using Qv) hk
   refine⟨_,.agg us.toArray,k1,by unfold Aj;exact⟨us,rfl,k2⟩,run_build w t _ us.toArray ?_⟩
   have hiz:i.zero=some z:=by
    cases hz:i.zero with
    |none=>simp[zeroValue,typeInfo,hi,hz]at TL
    |some z'=>simp[zeroValue,typeInfo,hi,hz]at TL;rw[TL]
   unfold Lo;simp only[hi,hu,hiz,Ye,Ei];simpa using k3
  ·exact hk.elim
 ·rename_i n sz ag hf;split at hk
  ·rename_i hb;simp only[AO]at hb;have Eh:=BC hb.1.1;obtain⟨z,TL,Qv⟩:=ED (C:=C) (w:=w) (mu:=mu) hT hy (Ao hb.1.2) (BC hb.2);obtain⟨i,d,hi,hd,TM⟩:=hT.facts hy
   obtain⟨e,rfl,U3,_⟩:∃e,d=.array n e∧Fi G.P e=sz∧AU G.P e=ag:=by
    rw[TM]at hf;cases d<;>simp[kindOf]at hf
    rename_i m' e;exact⟨e,by rw[hf.1],hf.2.1,hf.2.2⟩
   obtain⟨m,rfl⟩:∃m,sz=m+1:=⟨sz-1,by omega⟩
   obtain⟨ie,de,h1,_,h2⟩:=JU U3
   have Ye:∀(n k j:Nat) f,(plA n (m+1) ag k)[j]?=some f→f=(k+j*(m+1),m+1,ag):=by
    intro n;induction n with
    |zero=>intro k j f h;unfold plA at h;simp at h
    |succ n ih=>
     intro k j f h;unfold plA at h;cases j with
     |zero=>simp at h;rw[←h];simp
     |succ j=>
      simp only[List.getElem?_cons_succ]at h;rw[ih _ _ _ h];congr 1;rw[C1];omega
   obtain⟨O2,us,k1,k2,k3⟩:=OY (place:=λj=>some (j*(m+1),m+1)) (λj f hjf=>by
    have:=Ye n 0 j f hjf;rw[this];simp) he parts.toList y.zero z.cells.toList (by simpa using Qv) hk
   refine⟨_,.agg us.toArray,k1,by unfold Aj;exact⟨us,rfl,k2⟩,run_build w t _ us.toArray ?_⟩
   have hiz:i.zero=some z:=by
    cases hz:i.zero with
    |none=>simp[zeroValue,typeInfo,hi,hz]at TL
    |some z'=>simp[zeroValue,typeInfo,hi,hz]at TL;rw[TL]
   unfold Lo;simp only[hi,hd,hiz,h1,h2,Ei];simpa using k3
  ·exact hk.elim
 ·exact hk.elim
theorem aS{al:Option Nat}(h:Az G C mu E H a w){t:TypeId}{K:AV→KK}(hk:R9 al E H K):Gn G a w K (Instr.makeMap t none):=by
 unfold R9 at hk;obtain⟨H',n,EN,hk⟩:=O7 hk;refine⟨_,.map (some w.heap.size),_,_,_,mu.set n (some (.CU w.heap.size)),w.alloc (.map #[] 0),hk,?_,h.alloc _ (.map [] []) EN (.CU w.heap.size) (by simp[GO.As]) (by simp) (by simp) (by simp) ?_,?_⟩
 ·simp[Instr.makeMap]
 ·intro ks vs hc;simp only[HO.map.injEq]at hc;obtain⟨rfl,rfl⟩:=hc;exact⟨#[],0,rfl,rfl,E8.nil 0,λ_ _=>⟨by unfold Aa;rfl,by unfold Aa;rfl⟩⟩
 ·unfold Aj;exact⟨_,Mu.Au _ _ _,rfl⟩
theorem Xm{C:Ag}{w:World}{mu:Mu}{vs:List AV}{us:List Value}(h:Aa C w vs mu us){v:AV}{u:Value}(hv:Aj C w v mu u)(j:Nat):Aa C w (vs.set j v) mu (us.set j u):=by
 have:=Aa.put (vs:=us.toArray) (by simpa using h) j hv
 simpa using this
theorem UR(hT:BL G.P T)(h:Az G C mu E H a w){t:TypeId}{m k x:Operand}{K:AV→KK}(hk:QQ T E H t m k x K):
  ∃E' H' C' mu' w',K (.raw undef) E' H'∧(Instr.mapUpdate t (a.eval m) (a.eval k) (a.eval x)).run G.P w=.ok () w'∧Az G C' mu' E' H' a w':=by
 unfold QQ at hk;replace hk:=(Ab _ _ _).1 hk;obtain⟨y,hy,hk⟩:=hk
 split at hk
 ·rename_i kt vt V5;have hu:=hT.map hy V5;replace hk:=(Ab _ _ _).1 hk;obtain⟨yk,Zau,hk⟩:=hk
  rw[Af,Af,Af]at hk;split at hk
  ·rename_i hko;simp only[AO]at hko;obtain⟨d,hd,lR⟩:=eW hT Zau hko.1;have hm:=AT h.env m;have sN:=AT h.env k;have Qw:=AT h.env x;split at hk
   ·rename_i l hme;rw[hme]at hm;replace hk:=(Ab _ _ _).1 hk;obtain⟨ob,Ba,hk⟩:=hk
    cases ob<;>first|exact hk.elim|skip
    rename_i ks vs;simp only at hk;obtain⟨hl,hk⟩:=hk;rw[AD]at hk;obtain⟨b,es,clock,h1,h2,h3⟩:=h.heap.maps l ks vs Ba;unfold Aj at hm;obtain⟨b',h4,h5⟩:=hm;rw[h1]at h4;simp only[Bv.injEq,GO.CU.injEq]at h4;subst h4;obtain⟨f1,f2⟩:=NA lR sN ks es.toList 0 hl (h3.2 C w).1;have hik:=lR.isKey sN;have qF:(Instr.checkKey false 10000 kt (a.eval k)).run G.P w=.ok () w:=run_checkKey (P:=G.P) (w:=w) hd hik false 9999;have fG:=run_findKey (w:=w) hd f1
    have hkm:Bi (AM E k)=true:=by
     rcases lR with⟨_,s,e⟩|⟨_,_,_,e⟩<;>rw[e]<;>rfl
    have MB:=Ar _ (h3.2 C w).1;have V7:=Ar _ (h3.2 C w).2;simp only[JG,Fv]at MB V7;cases N3:OF (AM E k) ks with
    |none=>
     rw[N3]at fG;refine⟨_,_,C,mu,w.putObj b (.map (es.push {key:=a.eval k,val:=a.eval x,born:=clock}) (clock+1)),hk,?_,h.RE h1 h2 Ba ?_⟩
     ·simp only[Instr.mapUpdate,Fy,run_underlying hu,Ef,h5,Go.MapKept.run_getObj_map h2,qF,fG,Option.bind_none];exact Go.MapKept.run_setObj_map _ h2
     ·refine⟨by rw[Kh];exact h3.1.push _ _,λC' w'=>?_⟩
      unfold oQ oN;rw[N3];simp only[Kh,List.map_append,Hm,List.map_nil]
      exact⟨AF (h3.2 C' w').1 (by unfold Aa;exact⟨_,_,rfl,A9 _ hkm sN,by unfold Aa;rfl⟩),
       AF (h3.2 C' w').2 (by unfold Aa;exact⟨_,_,rfl,A9 _ hko.2 Qw,by unfold Aa;rfl⟩)⟩
    |some j=>
     rw[N3]at fG;obtain⟨e,g1,g2,g3⟩:=f2 j N3;have vZ:es[j]?=some e:=by simpa using g1
     simp only[Option.bind_some,g1,DG,JC]at fG;refine⟨_,_,C,mu,w.putObj b (.map (es.modify j λe=>{e with key:=a.eval k,val:=a.eval x}) clock),hk,?_,h.RE h1 h2 Ba ?_⟩
     ·simp only[Instr.mapUpdate,Fy,run_underlying hu,Ef,h5,Go.MapKept.run_getObj_map h2,qF,fG,vZ,DG,Option.getD_some,g2,run_keyThatStays hik];exact Go.MapKept.run_setObj_map _ h2
     ·refine⟨h3.1.of_map ?_,λC' w'=>?_⟩
      ·apply Ff
       intro i
       simp only[Cu,JJ,E2]
       by_cases N4:j=i
       ·subst N4;rw[vZ];simp
       ·simp[N4]
      unfold oQ oN;rw[N3]
      have e1:(es.modify j λe=>{e with key:=a.eval k,val:=a.eval x}).toList.map MapEntry.key=es.toList.map MapEntry.key:=modify_keys j _ (λe' he=>by
       rw[vZ]at he;simp only[Bv.injEq]at he;subst he;exact g2.symm)
      have e2:(es.modify j λe=>{e with key:=a.eval k,val:=a.eval x}).toList.map MapEntry.val=(es.toList.map MapEntry.val).set j (a.eval x):=by
       apply Ff;intro i;simp only[Cu,JJ,E2,List.getElem?_set,JG,Fv];by_cases N4:j=i
       ·subst N4
        have AR:j<es.size:=by have:=(CW.1 g1).1;simpa using this
        simp[vZ,AR]
       ·simp[N4]
      rw[e1,e2];exact⟨(h3.2 C' w').1,Xm (h3.2 C' w').2 (A9 _ hko.2 Qw) j⟩
   ·exact hk.elim
  ·exact hk.elim
 ·exact hk.elim
end
section
variable {G:Cx}{C:Ag}{w:World}{mu:Mu}{H:List HO}{E:List AV}{a:Act}{T:List TY}
theorem jA(u:Value):(lK u).cells=[lK u]:=by
 unfold lK;split;·rename_i k n;cases (decide (k.min≤n)&&decide (n≤k.max))<;>rfl
 ·rfl
 ·rename_i s;cases Nat.ble s.data.toList.length 9223372036854775807<;>rfl
 ·rfl
theorem H8(hT:BL G.P T){e:TypeId}{K:AV→Prop}(h:Ej T e K):∃z y,T[e]?=some y∧K z∧z.cells=y.zero:=by
 unfold Ej at h;replace h:=(Ab _ _ _).1 h;obtain⟨y,hy,h⟩:=h
 split at h;·exact⟨_,y,hy,h,rfl⟩
 ·split at h
  ·rename_i z hz;rw[AV.AK]at h;refine⟨z,y,hy,h,?_⟩;rw[hz];obtain⟨i,d,_,_,rfl⟩:=hT.facts hy;simp only at hz;rcases IK (AU G.P e) i.zero with h0|⟨v,_,e1,_⟩;·rw[h0]at hz;cases hz
   ·have hm:z∈v.cells.toList.map lK:=by rw[←e1,hz];simp
    obtain⟨u,_,rfl⟩:=JE.1 hm;exact jA u
  ·exact h.elim
theorem Hf(z:AV):∀(n i:Nat),i<n*z.cells.length→(flat (Cb n z))[i]?=z.cells[i%z.cells.length]?
 |0,i,h=>by simp at h
 |n+1,i,h=>by
  have e1:flat (Cb (n+1) z)=z.cells++flat (Cb n z):=by simp[flat,List.replicate_succ]
  rw[e1,List.getElem?_append];split;·rename_i AR;rw[Nat.mod_eq_of_lt AR]
  ·rename_i fF;rw[C1,Nat.one_mul]at h;rw[Hf z n (i-z.cells.length) (by omega)]
   congr 1;exact(Nat.mod_eq_sub_mod (by omega)).symm
theorem LU{z:AV}{zv:Value}{sz:Nat}(hz:Aa C w z.cells mu zv.cells.toList)(hs:z.cells.length=sz)(hp:1≤sz)(n:Nat):
  Aa C w (flat (Cb n z)) mu ((E0 (n*sz)).map (zv.cells[·%zv.cells.size]!)).toList:=by
 have hl:=Ar _ hz
 have vI:(flat (Cb n z)).length=n*sz:=by
  have:=BA (sz:=sz) (Cb n z) (λa ha=>by rw[D0 ha,hs])
  simpa using this
 obtain⟨h1,h2⟩:=(AI _).1 hz;refine(AI _).2 ⟨by simp[vI],λi h3 h4=>?_⟩
 have hzs:zv.cells.size=sz:=by simpa[hs]using h1
 have him:i%sz<sz:=K1 _ (by omega)
 have e1:(flat (Cb n z))[i]=z.cells[i%sz]'(by omega):=by
  have:=Hf z n i (by rw[hs];omega)
  rw[D5 h3,hs,D5 (by omega)]at this
  simpa using this
 rw[e1]
 have e2:((E0 (n*sz)).map (zv.cells[·%zv.cells.size]!)).toList[i]=zv.cells.toList[i%sz]'(by simp;omega):=by
  simp[hzs,him]
 rw[e2];exact h2 _ _ _
theorem cells_one{z:AV}{zv:Value}(hz:Aa C w z.cells mu zv.cells.toList)(hs:z.cells.all CJ=true)(n:Nat):∀v∈((E0 n).map (zv.cells[·%zv.cells.size]!)).toList,0<zv.cells.size→v.oneCell'=true:=by
 intro v hv hp;simp only[Ei,JE]at hv;obtain⟨i,_,rfl⟩:=hv;have him:i%zv.cells.size<zv.cells.size:=K1 _ hp;rw[getElem!_pos zv.cells _ him];exact FQ hz hs _ (by simp)
theorem PY{sz:Nat}(he:Aa C w E mu a.tmps.toList):
  ∀(parts:List (Nat×Operand)) (es:List AV) (vs:List Value) {K:List AV→Prop},(∀x∈es,x.cells.length=sz)→Aa C w (flat es) (Bb mu) vs→(∀v∈vs,v.oneCell'=true)→HF E sz parts es K→
  ∃Cf us,K Cf∧Cf.length=es.length∧(∀x∈Cf,x.cells.length=sz)∧Aa C w (flat Cf) (Bb mu) us∧(∀v∈us,v.oneCell'=true)∧Instr.fill (λi=>some (i*sz,sz)) vs.toArray (parts.map λp=>(p.1,a.eval p.2))=some us.toArray
 |[],es,vs,K,hz,hr,h1,hk=>⟨es,vs,hk,rfl,hz,hr,h1,rfl⟩
 |(i,x)::r,es,vs,K,hz,hr,h1,hk=>by
  unfold HF at hk;rw[Af,Am]at hk;split at hk
  ·rename_i hb;simp only[AO]at hb;obtain⟨⟨⟨b1,b2⟩,b3⟩,b4⟩:=hb;have b1:=Ao b1;have b4:i<es.length:=by have:=b4;simp[Nat.blt]at this;omega
   rw[AD]at hk;obtain⟨us,hv,hu⟩:=Li (AT he x) b2;have xW:=Ar _ hu;have hub:Aa C w (AM E x).cells (Bb mu) us:=EA _ (by rw[Mf];exact b3) hu
   have hlen:=Ar _ hr;have JF:=BA es hz;have hmul:(i+1)*sz≤es.length*sz:=CX _ b4;rw[C1]at hmul
   have Nq:Aa C w (flat (es.set i (AM E x))) (Bb mu) (vs.take (i*sz)++us++vs.drop (i*sz+us.length)):=by
    rw[SR es i _ hz b4 b1,show us.length=sz by omega]
    exact AF (AF (hr.take _) hub) (hr.drop _)
   have h1':∀v∈vs.take (i*sz)++us++vs.drop (i*sz+us.length),v.oneCell'=true:=by
    intro x hx;simp only[C4]at hx;rcases hx with (hx|hx)|hx;·exact h1 x (C0 hx)
    ·exact FQ hu b2 x hx
    ·exact h1 x (Ed hx)
   obtain⟨Cf,Tw,k1,k2,k3,k4,k5,k6⟩:=PY he r _ _ (λy hy=>by
    rcases H4 hy with hy|rfl;·exact hz y hy
    ·exact b1) Nq h1' hk
   refine⟨Cf,Tw,k1,by simpa using k2,k3,k4,k5,?_⟩
   simp only[Hm,Instr.fill,hv,C3];rw[if_neg (by simp;omega)]
   have pZ:(us.toArray.zipIdx.foldl (λcs (x:Value×Nat)=>cs.setIfInBounds (i*sz+x.2) x.1) vs.toArray)=(vs.take (i*sz)++us++vs.drop (i*sz+us.length)).toArray:=by
    rw[←Ko,J1];simp only[J3];have:=SP us (i*sz) 0 vs.toArray (by simp;omega)
    simpa using this
   rw[pZ];exact k6
  ·exact hk.elim
theorem KE(hT:BL G.P T)(h:Az G C mu E H a w){t:TypeId}{n:Nat}{parts:Array (Nat×Operand)}{K:HO→(Nat→AV)→Prop}(hk:BM T E t n parts.toList K):
  ∃e Bh es us,K (.arr e Bh es) (λl=>.own l Bh 0 n)∧es.length=n∧(∀x∈es,x.cells.length=Bh)∧Aa C w (flat es) (Bb mu) us∧(∀v∈us,v.oneCell'=true)∧us.length=n*Bh∧n≤16777216∧
   (Instr.buildSlice t n (parts.map λp=>(p.1,a.eval p.2))).run G.P w=.ok (.slice (some ⟨w.heap.size,0,none⟩) n n) (w.alloc (.cells us.toArray e)):=by
 unfold BM at hk;replace hk:=(Ab _ _ _).1 hk;obtain⟨y,hy,hk⟩:=hk
 split at hk
 ·rename_i e Bh by' ag hs
  obtain⟨hu,Eh,_⟩:=hT.slice hy hs;obtain⟨z,ye,PH,hk,Ya⟩:=H8 hT hk;rw[Am]at hk;split at hk
  ·rename_i hb;simp only[AO]at hb;obtain⟨⟨⟨⟨b1,b2⟩,b3⟩,b4⟩,b5⟩:=hb;have b1:=Ao b1;have b4:=BC b4;have b5:=BC b5;rw[Dn]at hk;have HV:=run_sizeOf (P:=G.P) (w:=w) Eh b4;obtain⟨i,d,hi,hd,TM⟩:=hT.facts PH
   have Mq:i.size=Bh:=by
    simp[sizeOf,typeInfo,hi]at HV;exact HV
   obtain⟨zv,TL,Qv⟩:=ED (C:=C) (w:=w) (mu:=Bb mu) hT PH (by rw[←Ya,b1,TM];exact Mq.symm) (by rw[TM];simp only[Mq];exact b4)
   rw[←Ya]at Qv;have hz3:=LU Qv b1 b4 n;have Gm:zv.cells.size=Bh:=by have:=Ar _ Qv;simpa[b1]using this
   have h1:=cells_one Qv b2 (n*Bh);obtain⟨Cf,us,k1,k2,k3,k4,k5,k6⟩:=PY h.env parts.toList (Cb n z) _ (λx hx=>by rw[D0 hx,b1]) hz3 (λv hv=>h1 v hv (by omega)) hk
   have xW:=Ar _ k4;have JF:=BA Cf k3;simp only[E4]at k2;have Zic:n≤n*Bh:=Jb _ (by omega)
   refine⟨e,Bh,Cf,us,k1,k2,k3,k4,k5,by rw[xW,JF,k2],by omega,?_⟩
   have fH:Instr.fill (λi=>some (i*Bh,Bh)) ((E0 (n*Bh)).map (zv.cells[·%zv.cells.size]!)) (parts.map λp=>(p.1,a.eval p.2)).toList=some us.toArray:=by
    rw[G4]at k6;rw[Ei];exact k6
   by_cases hn:n*Bh=0
   ·obtain rfl:n=0:=by rcases Kw.1 hn with h|h<;>omega
    have ZfH:(E0 (0*Bh)).map (zv.cells[·%zv.cells.size]!)=#[]:=by simp
    rw[ZfH,Ei]at fH;have LP:E0 0=#[]:=rfl;simp[Instr.buildSlice,run_underlying hu,HV,LP,fH,newRow]
   ·simp only[Ei]at fH;simp[Instr.buildSlice,run_underlying hu,HV,hn,TL,newRow,show ¬(16777216<n*Bh) by omega,fH]
  ·exact hk.elim
 ·exact hk.elim
theorem T0{al:Option Nat}(hT:BL G.P T)(h:Az G C mu E H a w){t:TypeId}{n:Nat}{parts:Array (Nat×Operand)}{K:AV→KK}(hk:F4 al T E H t n parts.toList K):
  Gn G a w K (Instr.buildSlice t n (parts.map λp=>(p.1,a.eval p.2))):=by
 unfold F4 at hk;obtain⟨e,Bh,es,us,k1,k2,k3,k4,k5,k6,k7,k8⟩:=KE hT h hk;obtain⟨H',nn,EN,k1⟩:=O7 k1;obtain⟨mu',m1,m2⟩:=QP (cap:=n) h EN k3 (e:=e) (vs:=us) (by rw[k2,←k6,List.take_length];exact k4) k5 (by omega) (by omega) k6
 rw[k2]at m2;exact⟨_,_,_,_,_,_,_,k1,k8,m1,m2⟩
theorem VV{al:Option Nat}(hT:BL G.P T)(h:Az G C mu E H a w){t:TypeId}{ln cp:Operand}{K:AV→KK}(hk:Mk al T E H t ln cp K):
  Gn G a w K (Instr.makeSlice t (a.eval ln) (a.eval cp)):=by
 unfold Mk Dk at hk;replace hk:=(Ab _ _ _).1 hk;obtain⟨y,hy,hk⟩:=hk
 split at hk
 ·rename_i e Bh by' ag hs
  obtain⟨hu,Eh,vQ,_⟩:=hT.slice hy hs;obtain⟨z,ye,PH,hk,Ya⟩:=H8 hT hk;rw[Am]at hk;split at hk
  ·rename_i hb;simp only[AO]at hb;obtain⟨⟨⟨b1,b2⟩,b3⟩,b4⟩:=hb;have b1:=Ao b1;have b4:=BC b4;rw[Af,Af]at hk;have hln:=AT h.env ln;have hcp:=AT h.env cp;split at hk
   ·rename_i n c e1 e2;rw[e1]at hln;rw[e2]at hcp;obtain⟨⟨hn0,hnc,hcb⟩,hk⟩:=hk;obtain⟨H',nn,EN,hk⟩:=O7 hk;obtain⟨v1,r1⟩:=AG hln;obtain⟨v2,r2⟩:=AG hcp;have w1:Lr.wrap n=n:=by have:=Cy _ _ r1;unfold Wr at this;exact this
    have w2:Lr.wrap c=c:=by have:=Cy _ _ r2;unfold Wr at this;exact this
    have r2':=PG.1 r2;have HV:=run_sizeOf (P:=G.P) (w:=w) Eh b4;obtain⟨i,d,hi,hd,TM⟩:=hT.facts PH;have Mq:i.size=Bh:=by simp[sizeOf,typeInfo,hi]at HV;exact HV
    have ZaV:i.bytes=by':=by unfold Ky at vQ;simpa[hi]using vQ
    obtain⟨zv,TL,Qv⟩:=ED (C:=C) (w:=w) (mu:=Bb mu) hT PH (by rw[←Ya,b1,TM];exact Mq.symm) (by rw[TM];simp only[Mq];exact b4)
    rw[←Ya]at Qv;have hz3:=LU Qv b1 b4 c.toNat;have Gm:zv.cells.size=Bh:=by have:=Ar _ Qv;simpa[b1]using this
    have h1:=cells_one Qv b2 (c.toNat*Bh)
    have hz4:Aa C w (flat (Cb n.toNat z)) (Bb mu) (((E0 (c.toNat*Bh)).map (zv.cells[·%zv.cells.size]!)).toList.take (n.toNat*Bh)):=by
     have:=hz3.take (n.toNat*Bh)
     have e:(flat (Cb c.toNat z)).take (n.toNat*Bh)=flat (Cb n.toNat z):=by
      have:Cb c.toNat z=Cb n.toNat z++Cb (c.toNat-n.toNat) z:=by rw[List.replicate_append_replicate];congr 1;omega
      rw[this];have hf:flat (Cb n.toNat z++Cb (c.toNat-n.toNat) z)=flat (Cb n.toNat z)++flat (Cb (c.toNat-n.toNat) z):=by unfold flat;rw[HW]
      have JF:(flat (Cb n.toNat z)).length=n.toNat*Bh:=by
       have:=BA (sz:=Bh) (Cb n.toNat z) (λa ha=>by rw[D0 ha,b1])
       simpa using this
      rw[hf,←JF,Gj]
     rw[e]at this;exact this
    obtain⟨mu',m1,m2⟩:=QP (cap:=c.toNat) (es:=Cb n.toNat z) h EN (λx hx=>by rw[D0 hx,b1]) (e:=e) (vs:=((E0 (c.toNat*Bh)).map (zv.cells[·%zv.cells.size]!)).toList)
     (by rw[E4];exact hz4) (λv hv=>h1 v hv (by omega)) (by simp;omega) (by omega) (by simp)
    rw[E4]at m2;rw[G4]at m1 m2;refine⟨_,_,_,_,_,_,_,hk,?_,m1,m2⟩;have bT:¬c<0:=by omega
    have Zc8:¬n<0:=by omega
    have Zfg:¬c<n:=by omega
    have ZfR:¬((281474976710656:Int)<(by':Int)*c):=by omega
    rw[v1,v2];by_cases hn:c.toNat*Bh=0
    ·have hc:c=0:=by
      rcases Kw.1 hn with h|h;·omega
      ·omega
     subst hc;have LP:E0 0=#[]:=rfl;simp[Instr.makeSlice,run_underlying hu,HV,asInt,asIntOf,typeInfo,hi,w1,w2,Zc8,newRow,show ¬(0<n) by omega,show n=0 by omega,LP]
    ·simp[Instr.makeSlice,run_underlying hu,HV,asInt,asIntOf,typeInfo,hi,ZaV,w1,w2,bT,Zc8,Zfg,ZfR,newRow,hn,TL]
   ·exact hk.elim
  ·exact hk.elim
 ·exact hk.elim
theorem rF(hT:BL G.P T)(h:Az G C mu E H a w){t ty:TypeId}{x:Operand}{K:AV→KK}(hk:cU T E H t x K):
  Gn G a w K (It #[t] ty #[a.eval x]):=by
 unfold cU at hk;replace hk:=(Ab _ _ _).1 hk;obtain⟨y,hy,hk⟩:=hk
 split at hk
 ·rename_i e Bh by' ag hs
  obtain⟨hu,Eh,_⟩:=hT.slice hy hs;obtain⟨z,ye,PH,hk,Ya⟩:=H8 hT hk;rw[Am]at hk;split at hk
  ·rename_i hb;simp only[AO]at hb;obtain⟨⟨⟨b1,b2⟩,b3⟩,b4⟩:=hb;have b1:=Ao b1;have b4:=BC b4;rw[Af]at hk;have hx:=AT h.env x;split at hk
   ·rename_i l sz lo n Yb;rw[Yb]at hx;replace hk:=(Ab _ _ _).1 hk;obtain⟨ob,Ba,hk⟩:=hk
    cases ob<;>first|exact hk.elim|skip
    rename_i e' BD es;simp only at hk;split at hk
    ·rename_i hc;simp only[AO]at hc;obtain⟨⟨c1,c2⟩,c3⟩:=hc;obtain rfl:=Ao c1;obtain rfl:=Ao c2;obtain rfl:=Ao c3;rw[AD]at hk;have ZcO:Aj C w (.tuple []) mu (.tuple #[]):=by unfold Aj;exact⟨[],rfl,by unfold Aa;rfl⟩
     obtain⟨hz,h2⟩:=h.heap.BJ l e' BD es Ba;unfold Aj at hx;obtain⟨xv,hm,hle,MA,sH⟩:=hx;have AR:l<H.length:=(CW.1 Ba).1;rcases h2 with⟨h2,rfl⟩|⟨b,cap,cur,h3,⟨fz,h4,Nu⟩,h5,h6,h7,h8,h9⟩
     ·rw[hm]at h2;simp only[Bv.injEq,GO.arr.injEq]at h2;subst h2;simp only[Da]at hle;obtain rfl:n=0:=by omega
      obtain rfl:lo=0:=by omega
      have bF:H.set l (.arr e' BD (Hh [] 0 0 z))=H:=by
       apply Ff;intro i;by_cases hi:i=l;·subst hi;rw[DC AR,Ba];rfl
       ·rw[AZ (Ne.symm hi)]
      rw[bF]at hk;exact⟨_,.tuple #[],_,_,C,mu,w,hk,by rw[sH];simp[It,BP,run_underlying hu],h,ZcO⟩
     ·rw[hm]at h3;simp only[Bv.injEq,GO.arr.injEq]at h3;subst h3;simp only[Da]at hle;have HV:=run_sizeOf (P:=G.P) (w:=w) Eh b4;obtain⟨i,d,hi,hd,TM⟩:=hT.facts PH;have Mq:i.size=BD:=by simp[sizeOf,typeInfo,hi]at HV;exact HV
      obtain⟨zv,TL,Qv⟩:=ED (C:=C) (w:=w) (mu:=Bb mu) hT PH (by rw[←Ya,b1,TM];exact Mq.symm) (by rw[TM];simp only[Mq];exact b4)
      rw[←Ya]at Qv;have hz3:=LU Qv b1 b4 n;have Gm:zv.cells.size=BD:=by have:=Ar _ Qv;simpa[b1]using this
      have Y6:(CM zv.cells n).toList=((E0 (n*BD)).map (zv.cells[·%zv.cells.size]!)).toList:=by
       simp only[CM,Gm]
      have TR:∀v∈(CM zv.cells n).toList,v.oneCell'=true:=by
       rw[Y6];exact λv hv=>cells_one Qv b2 (n*BD) v hv (by omega)
      have xW:(CM zv.cells n).toList.length=n*BD:=by rw[Y6];simp
      have IJ:cur.toList.length=cap*BD:=by simpa using h7
      have m1:(lo+n)*BD≤es.length*BD:=CX _ hle;have m2:es.length*BD≤cap*BD:=CX _ h5;rw[C1]at m1;have JF:=BA es hz;generalize hU:(CM zv.cells n).toList=us at Y6 TR xW;rw[←Y6]at hz3;by_cases hn:n=0
      ·subst hn
       have bF:H.set l (.arr e' BD (Hh es lo 0 z))=H:=by
        apply Ff;intro i;by_cases hi:i=l;·subst hi;rw[DC AR,Ba];simp[Hh]
        ·rw[AZ (Ne.symm hi)]
       rw[bF]at hk
       refine⟨_,.tuple #[],_,_,C,mu,w,hk,?_,h,ZcO⟩
       rw[sH]
       simp[It,BP,run_underlying hu]
      ·have bR:cur.size=cur.toList.length:=by simp
       have Ah:=CZ G.P b (lo*BD) e' fz us 0 cur w h4 Nu (by omega) TR
       simp only[H2]at Ah
       have Kl:mu.set l (some (.arr (.slice (some ⟨b,0,none⟩) es.length cap)))=mu:=by
        funext j;by_cases e:j=l
        ·subst e;rw[Mu.Au,hm]
        ·rw[Mu.AB _ _ e]
       have hx:=FA (w:=w) (h.heap.fresh _ _ _ hm rfl).2.2 ((cur.toList.take (lo*BD)++us++cur.toList.drop (lo*BD+us.length)).toArray)
       have Za7:(Hh es lo n z).length=es.length:=by
        unfold Hh;simp only[Bj,CL,E4,Ec];omega
       have:=Az.write (g:=.arr (.slice (some ⟨b,0,none⟩) es.length cap)) (g':=.arr (.slice (some ⟨b,0,none⟩) es.length cap)) h hm rfl
        (new:=(cur.toList.take (lo*BD)++us++cur.toList.drop (lo*BD+us.length)).toArray) h4 (.arr e' BD (Hh es lo n z)) rfl (by simp) (by simp) (E':=E)
        (by rw[Kl];exact Aa.mono hx _ (Ay.refl _) h.env) (H.set l (.arr e' BD (Hh es lo n z))) (by simp)
        (λj hj=>by
         rw[AZ (Ne.symm hj),Kl]
         exact⟨λh=>h,λcs h=>⟨cs,h,λ_ h=>h⟩,λ_ _ _ h=>h,λcs _ _ h=>⟨cs,h,λ_ h=>h⟩,λ_ h=>h⟩)
        (by simp) (by simp[AR])
        (by simp)
        (λe2 sz2 es2 hc=>by
         simp only[HO.arr.injEq]at hc
         obtain⟨rfl,rfl,rfl⟩:=hc
         refine⟨λx hx=>?_,cap,by rw[Za7],rfl,by rw[Za7];exact h5,h6,?_,?_,?_⟩
         ·unfold Hh at hx
          rcases C4.1 hx with hx|hx
          ·exact hz x (C0 hx)
          ·rcases C4.1 hx with hx|hx
           ·rw[D0 hx,b1]
           ·exact hz x (Ed hx)
         ·simp only[C3,Bj,CL,Ec];omega
         ·have WB:flat (Hh es lo n z)=(flat es).take (lo*BD)++flat (Cb n z)++(flat es).drop (lo*BD+n*BD):=by
           have fa:∀(xs ys:List AV),flat (xs++ys)=flat xs++flat ys:=λxs ys=>by unfold flat;rw[HW]
           have ft:∀(k:Nat)(xs:List AV),(∀a∈xs,a.cells.length=BD)→k≤xs.length→flat (xs.take k)=(flat xs).take (k*BD)∧flat (xs.drop k)=(flat xs).drop (k*BD):=λk xs xR hk=>by
            have e0:flat xs=flat (xs.take k)++flat (xs.drop k):=by rw[←fa,Gk]
            have e1:(flat (xs.take k)).length=k*BD:=by
             rw[BA (sz:=BD) _ λa ha=>xR a (C0 ha),CL,Hs hk]
            constructor;·rw[e0,List.take_left' e1]
            ·rw[e0,List.drop_left' e1]
           unfold Hh
           rw[fa,fa,(ft lo es hz (by omega)).1,(ft (lo+n) es hz (by omega)).2,C1,List.append_assoc]
          rw[WB,Za7]
          have hA:=h8.take (lo*BD)
          have hC:=h8.drop (lo*BD+n*BD)
          have B7:=AF (AF hA hz3) hC
          have e1:(cur.toList.take (es.length*BD)).take (lo*BD)++us++(cur.toList.take (es.length*BD)).drop (lo*BD+n*BD)=List.take (es.length*BD) (cur.toList.take (lo*BD)++us++cur.toList.drop (lo*BD+us.length)):=by
           have:=dU cur.toList us (es.length*BD) (lo*BD) (by omega) (by omega)
           rw[xW]at this ⊢
           exact this
          rw[e1]at B7
          simpa using B7
         ·intro x hx
          simp only[C4]at hx
          rcases hx with (hx|hx)|hx
          ·exact h9 x (C0 hx)
          ·exact TR x hx
          ·exact h9 x (Ed hx))
        (λi hi ks vs h=>by rw[AZ (Ne.symm hi)]at h;exact h) (by simp)
        ⟨λ_ h=>(by cases h),λ_ _ _ _=>Nu.size (by simp only[C3,Bj,CL,Ec];omega)⟩
       rw[Kl]at this
       refine⟨_,.tuple #[],_,_,C,mu,_,hk,?_,this,by unfold Aj;exact⟨[],rfl,by unfold Aa;rfl⟩⟩
       rw[sH];obtain⟨n',rfl⟩:∃n',n=n'+1:=⟨n-1,by omega⟩
       simp[It,BP,run_underlying hu,TL,hU,Ah]
    ·exact hk.elim
   ·exact hk.elim
  ·exact hk.elim
 ·exact hk.elim
end
section
variable {G:Cx}{C:Ag}{w:World}{mu:Mu}{H:List HO}{E:List AV}{a:Act}{T:List TY}
theorem NM{b:Nat}:∀(xs ys:List AV){o:Nat},Cells C w xs b o→Cells C w ys b (o+xs.length)→Cells C w (xs++ys) b o
 |[],ys,o,_,h=>by simpa using h
 |x::xs,ys,o,h,k=>by
  simp only[List.cons_append];unfold Cells at h⊢;exact⟨h.1,NM xs ys h.2 (by rw[show o+1+xs.length=o+(x::xs).length by simp;omega];exact k)⟩
theorem MT{H:List HO}{l i:Nat}{cs:List AV}{vs:List Value}{ms:List Nat}(hi:(H.map (AA l))[i]?=some (.ghost cs vs ms)):∃E9,H[i]?=some (.ghost E9 vs ms)∧cs=BN l E9:=by
 rw[Cu]at hi;cases ho:H[i]? with
 |none=>rw[ho]at hi;simp at hi
 |some ob=>
  rw[ho]at hi;cases ob<;>simp[AA]at hi
  obtain⟨rfl,rfl,rfl⟩:=hi;exact⟨_,rfl,rfl⟩
theorem LZ{H:List HO}{l i:Nat}{ks vs:List AV}(hi:(H.map (AA l))[i]?=some (.map ks vs)):H[i]?=some (.map ks vs):=by
 rw[Cu]at hi;cases ho:H[i]? with
 |none=>rw[ho]at hi;simp at hi
 |some ob=>
  rw[ho]at hi;cases ob<;>simp[AA]at hi
  obtain⟨rfl,rfl⟩:=hi;rfl
theorem Rm{H:List HO}{l i:Nat}{I:Inv}(hi:(H.map (AA l))[i]?=some (.inv I)):H[i]?=some (.inv I):=by
 rw[Cu]at hi;cases ho:H[i]? with
 |none=>rw[ho]at hi;simp at hi
 |some ob=>
  rw[ho]at hi;cases ob<;>simp[AA]at hi
  subst hi;rfl
theorem Az.renew(h:Az G C mu E H a w){l:Nat}{e:TypeId}{sz:Nat}{lU:List AV}(hl:H[l]?=some (.arr e sz lU)){es:List AV}{vs:List Value}{cap:Nat}
  (hz:∀a∈es,a.cells.length=sz) (hr:Aa C w (flat es) (Bb mu) (vs.take (es.length*sz))) (h1:∀v∈vs,v.oneCell'=true) (hc:es.length≤cap) (hm:cap≤9223372036854775807) (hv:vs.length=cap*sz):
  Az G C (mu.set l (some (.arr (.slice (some ⟨w.heap.size,0,none⟩) es.length cap)))) (BN l E) ((H.map (AA l)).set l (.arr e sz es)) a (w.alloc (.cells vs.toArray e)):=by
 have AR:l<H.length:=(CW.1 hl).1
 have lP:∀b,mu l≠some (.CU b):=λb hb=>by
  obtain⟨_,h2⟩:=h.heap.BJ l e sz lU hl;rcases h2 with⟨h2,_⟩|⟨_,_,_,h2,_⟩<;>(rw[hb]at h2;cases h2)
 have hx:=IF (C:=C) (w:=w) h.lt (.cells vs.toArray e);have JF:∀{g':GO}{i b},mu i=some g'→g'.As=some b→b<w.heap.size:=λhm hb=>(h.heap.fresh _ _ _ hm hb).2.1
 have hblk:Ay (Bb mu) (Bb (mu.set l (some (.arr (.slice (some ⟨w.heap.size,0,none⟩) es.length cap))))):=DV λi b hb=>by
  rw[Mu.AB _ _ (λee=>by subst ee;exact lP b hb)];exact hb
 have pO:∀{cs:List AV}{us:List Value},Aa C w cs mu us→Aa C (w.alloc (.cells vs.toArray e)) (BN l cs) (mu.set l (some (.arr (.slice (some ⟨w.heap.size,0,none⟩) es.length cap)))) us:=λk=>
  Aa.mono hx _ (Ay.refl _) (CQ _ (λb hb=>absurd hb (lP b)) k)
 refine⟨h.c0,h.c1,λb o hc=>by have:=h.lt b o hc;simp;omega,⟨?_,?_,?_,?_,?_,?_,?_⟩,pO h.env,?_,h.Aq.alloc _,by simpa using h.CA.1,λi k hn hi=>by
  have hp:=h.CA.2 i k hn hi;by_cases e:i=l
  ·subst e;obtain⟨_,q⟩:=h.heap.BJ _ _ _ _ hl;rcases q with⟨q,_⟩|⟨_,_,_,q,_⟩;·rw[hp]at q;cases q
   ·rw[hp]at q;cases q
  ·rw[Mu.AB _ _ e];exact hp⟩
 rotate_right
 ·obtain⟨ms,k1,k2⟩:=h.defers;refine⟨ms,k1,k2.step (GY (λb hb=>hb.1) _) (λi x b hi hb=>?_) (λ_ _ h=>.inl h) (λi cs us ms hi=>?_) (λi I hi=>?_)⟩
  ·by_cases ei:i=l
   ·subst ei;rw[Mu.Au]at hi;simp only[Bv.injEq]at hi;subst hi;simp only[GO.As,Bv.injEq]at hb;exact .inr (Nat.le_of_eq hb)
   ·rw[Mu.AB _ _ ei]at hi;exact .inl ⟨i,x,hi,hb⟩
  ·by_cases ei:i=l;·subst ei;simp[AR]at hi
   ·rw[AZ (Ne.symm ei)]at hi;obtain⟨E9,k1,rfl⟩:=MT hi;exact⟨E9,k1,pO⟩
  ·by_cases ei:i=l;·subst ei;simp[AR]at hi
   ·rw[AZ (Ne.symm ei)]at hi;exact Rm hi
 ·intro i x hi;simp only[Kr,JG];by_cases ei:i=l;·subst ei;exact AR
  ·rw[Mu.AB _ _ ei]at hi;exact h.heap.HH _ _ hi
 ·intro i x b hi hb;by_cases ei:i=l
  ·subst ei;rw[Mu.Au]at hi;simp only[Bv.injEq]at hi;subst hi;simp only[GO.As,Bv.injEq]at hb;subst hb;exact⟨.inl h.Aq.size,by simp,λo hc=>absurd (h.lt _ _ hc) (by omega)⟩
  ·rw[Mu.AB _ _ ei]at hi;obtain⟨k1,k2,k3⟩:=h.heap.fresh _ _ _ hi hb;exact⟨k1,by simp;omega,k3⟩
 ·intro i x b i' x' hi hb EY LG;by_cases ei:i=l
  ·subst ei;rw[Mu.Au]at hi;simp only[Bv.injEq]at hi;subst hi;simp only[GO.As,Bv.injEq]at hb;subst hb;by_cases ei':i'=i;·exact ei'
   ·rw[Mu.AB _ _ ei']at EY;exact absurd (JF EY LG) (by omega)
  ·rw[Mu.AB _ _ ei]at hi;by_cases ei':i'=l
   ·subst ei';rw[Mu.Au]at EY;simp only[Bv.injEq]at EY;subst EY;simp only[GO.As,Bv.injEq]at LG;subst LG;exact absurd (JF hi hb) (by omega)
   ·rw[Mu.AB _ _ ei']at EY;exact h.heap.sep _ _ _ _ _ hi hb EY LG
 ·intro i hi;by_cases ei:i=l;·subst ei;simp[AR]at hi
  ·rw[AZ (Ne.symm ei),Cu]at hi;rw[Mu.AB _ _ ei];cases ho:H[i]? with
   |none=>rw[ho]at hi;simp at hi
   |some ob=>
    rw[ho]at hi;cases ob with
    |dead=>exact h.heap.dead i ho
    |arr _ _ _=>simp[AA]at hi
    |cells _=>simp[AA]at hi
    |ghost _ _ _=>simp[AA]at hi
    |inv _=>simp[AA]at hi
    |map _ _=>simp[AA]at hi
 ·intro i cs hi;by_cases ei:i=l;·subst ei;simp[AR]at hi
  ·rw[AZ (Ne.symm ei),Cu]at hi;cases ho:H[i]? with
   |none=>rw[ho]at hi;simp at hi
   |some ob=>
    rw[ho]at hi;cases ob with
    |arr _ _ _=>simp[AA]at hi
    |dead=>simp[AA]at hi
    |ghost _ _ _=>simp[AA]at hi
    |inv _=>simp[AA]at hi
    |map _ _=>simp[AA]at hi
    |cells E9=>
     simp only[DG,AA,Bv.injEq,HO.cells.injEq]at hi;subst hi;obtain⟨b,cur,e',k1,k2,k3,k4⟩:=h.heap.Cm i E9 ho;exact⟨b,cur,e',by rw[Mu.AB _ _ ei];exact k1,by rw[heap_alloc_old _ _ (JF k1 rfl)];exact k2,pO k3,k4⟩
 ·intro i e' BD Cf hi;by_cases ei:i=l
  ·subst ei;simp only[DC (show i<(H.map (AA i)).length by simpa using AR),Bv.injEq,HO.arr.injEq]at hi
   obtain⟨rfl,rfl,rfl⟩:=hi;exact⟨hz,.inr ⟨w.heap.size,cap,vs.toArray,Mu.Au _ _ _,⟨_,heap_alloc_new _ _,.inl rfl⟩,hc,hm,by simpa using hv,by simpa using Aa.mono hx _ hblk hr,by simpa using h1⟩⟩
  ·rw[AZ (Ne.symm ei),Cu]at hi;cases ho:H[i]? with
   |none=>rw[ho]at hi;simp at hi
   |some ob=>
    rw[ho]at hi;cases ob with
    |cells _=>simp[AA]at hi
    |dead=>simp[AA]at hi
    |ghost _ _ _=>simp[AA]at hi
    |inv _=>simp[AA]at hi
    |map _ _=>simp[AA]at hi
    |arr e0 sz0 Zgu=>
     simp only[DG,AA,Bv.injEq,HO.arr.injEq]at hi;obtain⟨rfl,rfl,rfl⟩:=hi;obtain⟨k0,k⟩:=h.heap.BJ i _ _ _ ho;refine⟨k0,k.imp (λ⟨k1,k2⟩=>⟨by rw[Mu.AB _ _ ei];exact k1,k2⟩) λ⟨b,YP,cur,k1,k2,k3,k4,k5,k6,k7⟩=>⟨b,YP,cur,by rw[Mu.AB _ _ ei];exact k1,?_,k3,k4,k5,Aa.mono hx _ hblk k6,k7⟩⟩
     exact k2.of_eq (heap_alloc_old _ _ (JF k1 rfl))
 ·intro i ks us hi;by_cases ei:i=l;·subst ei;simp[AR]at hi
  ·rw[AZ (Ne.symm ei)]at hi;obtain⟨b,es,cl,h1,h2,h3⟩:=h.heap.maps i ks us (LZ hi);exact⟨b,es,cl,by rw[Mu.AB _ _ ei];exact h1,by rw[heap_alloc_old _ _ (JF h1 rfl)];exact h2,h3⟩
theorem Az.Bd(h:Az G C mu E H a w)(l:Nat):Az G C mu (BN l E) (H.map (AA l)) a w:=by
 have Kl:mu.set l (mu l)=mu:=by
  funext i;by_cases e:i=l
  ·subst e;rw[Mu.Au]
  ·rw[Mu.AB _ _ e]
 have pO:∀{cs:List AV}{us:List Value},Aa C w cs mu us→Aa C w (BN l cs) mu us:=λk=>by
  have:=CQ (l:=l) (g:=mu l) _ (λb hb=>hb) k
  rwa [Kl]at this
 refine⟨h.c0,h.c1,h.lt,⟨λi x hi=>by simpa using h.heap.HH i x hi,h.heap.fresh,h.heap.sep,?_,?_,?_,λi ks us hi=>h.heap.maps i ks us (LZ hi)⟩,pO h.env,?_,h.Aq,by simpa using h.CA.1,h.CA.2⟩
 rotate_right
 ·obtain⟨ms,k1,k2⟩:=h.defers;refine⟨ms,k1,k2.step ⟨rfl,rfl,rfl,J4 _,λ_ _=>rfl⟩ (λi x b hi hb=>.inl ⟨i,x,hi,hb⟩) (λ_ _ h=>.inl h) (λi cs us ms hi=>?_) (λi I hi=>Rm hi)⟩
  obtain⟨E9,k1,rfl⟩:=MT hi;exact⟨E9,k1,pO⟩
 ·intro i hi;rw[Cu]at hi;cases ho:H[i]? with
  |none=>rw[ho]at hi;simp at hi
  |some ob=>
   rw[ho]at hi;cases ob with
   |dead=>exact h.heap.dead i ho
   |arr _ _ _=>simp[AA]at hi
   |cells _=>simp[AA]at hi
   |ghost _ _ _=>simp[AA]at hi
   |inv _=>simp[AA]at hi
   |map _ _=>simp[AA]at hi
 ·intro i cs hi;rw[Cu]at hi;cases ho:H[i]? with
  |none=>rw[ho]at hi;simp at hi
  |some ob=>
   rw[ho]at hi;cases ob with
   |arr _ _ _=>simp[AA]at hi
   |dead=>simp[AA]at hi
   |ghost _ _ _=>simp[AA]at hi
   |inv _=>simp[AA]at hi
   |map _ _=>simp[AA]at hi
   |cells E9=>
    simp only[DG,AA,Bv.injEq,HO.cells.injEq]at hi;subst hi;obtain⟨b,cur,e',k1,k2,k3,k4⟩:=h.heap.Cm i E9 ho;exact⟨b,cur,e',k1,k2,pO k3,k4⟩
 ·intro i e' BD Cf hi;rw[Cu]at hi;cases ho:H[i]? with
  |none=>rw[ho]at hi;simp at hi
  |some ob=>
   rw[ho]at hi;cases ob with
   |cells _=>simp[AA]at hi
   |dead=>simp[AA]at hi
   |ghost _ _ _=>simp[AA]at hi
   |inv _=>simp[AA]at hi
   |map _ _=>simp[AA]at hi
   |arr e0 sz0 Zgu=>
    simp only[DG,AA,Bv.injEq,HO.arr.injEq]at hi;obtain⟨rfl,rfl,rfl⟩:=hi;exact h.heap.BJ i _ _ _ ho
theorem Az.OD(h:Az G C mu E H a w){n:Nat}{H':List HO}{e:TypeId}{sz:Nat}(EN:Al H n H' (.arr e sz [])):Az G C (mu.set n (some (.arr (.slice none 0 0)))) E H' a w∧
  Aj C w (.own n sz 0 0) (mu.set n (some (.arr (.slice none 0 0)))) (.slice none 0 0):=by
 have Sy:mu n=none:=by
  rcases EN.free with hf|hf
  ·cases hm:mu n with
   |none=>rfl
   |some x=>exact absurd (h.heap.HH _ _ hm) (by have:=List.getElem?_eq_none_iff.1 hf;omega)
  ·exact h.heap.dead n hf
 have hle:=Nf (mu:=mu) (l:=n) (some (.arr (.slice none 0 0))) Sy;have hblk:Ay (Bb mu) (Bb (mu.set n (some (.arr (.slice none 0 0))))):=DV λl b e=>hle l _ e
 refine⟨⟨h.c0,h.c1,h.lt,⟨?_,?_,?_,?_,?_,?_,?_⟩,Aa.mono (Ext.refl _ _) _ hle h.env,?_,h.Aq,Kj h.CA.1 EN.len,λi b hn hi=>hle i _ (h.CA.2 i b hn hi)⟩,?_⟩
 rotate_right 2
 ·obtain⟨ms,k1,k2⟩:=h.defers;refine⟨ms,k1,k2.step ⟨rfl,rfl,rfl,J4 _,λ_ _=>rfl⟩ (λi x b hi hb=>?_) (λ_ _ h=>.inl h) (λi cs us ms hi=>?_) (λi I hi=>?_)⟩
  ·by_cases ei:i=n
   ·subst ei;rw[Mu.Au]at hi;simp only[Bv.injEq]at hi;subst hi;cases hb
   ·rw[Mu.AB _ _ ei]at hi;exact .inl ⟨i,x,hi,hb⟩
  ·by_cases ei:i=n;·subst ei;rw[EN.get]at hi;cases hi
   ·rw[EN.other i ei]at hi;exact⟨cs,hi,Aa.mono (Ext.refl _ _) _ hle⟩
  ·by_cases ei:i=n;·subst ei;rw[EN.get]at hi;cases hi
   ·rw[EN.other i ei]at hi;exact hi
 rotate_left
 ·intro l x hl;by_cases e:l=n;·subst e;exact EN.lt
  ·rw[Mu.AB _ _ e]at hl;have:=h.heap.HH _ _ hl;have:=EN.len;omega
 ·intro l x b hl hb;by_cases e:l=n
  ·subst e;rw[Mu.Au]at hl;simp only[Bv.injEq]at hl;subst hl;simp[GO.As]at hb
  ·rw[Mu.AB _ _ e]at hl;exact h.heap.fresh _ _ _ hl hb
 ·intro l x b l' x' hl hb Bq LG
  have aux:∀{i x},mu.set n (some (.arr (.slice none 0 0))) i=some x→x.As=some b→mu i=some x:=λ{i x} hi hb=>by
   by_cases e:i=n
   ·subst e;rw[Mu.Au]at hi;simp only[Bv.injEq]at hi;subst hi;simp[GO.As]at hb
   ·rw[Mu.AB _ _ e]at hi;exact hi
  exact h.heap.sep _ _ _ _ _ (aux hl hb) hb (aux Bq LG) LG
 ·intro l hl;by_cases e:l=n;·subst e;rw[EN.get]at hl;simp at hl
  ·rw[EN.other l e]at hl;rw[Mu.AB _ _ e];exact h.heap.dead l hl
 ·intro l cs hl;by_cases e:l=n;·subst e;rw[EN.get]at hl;simp at hl
  ·rw[EN.other l e]at hl;obtain⟨b,cur,e,h1,h2,h3,h4⟩:=h.heap.Cm l cs hl;exact⟨b,cur,e,hle _ _ h1,h2,Aa.mono (Ext.refl _ _) _ hle h3,h4⟩
 ·intro l e' BD es hl;by_cases e:l=n
  ·subst e;rw[EN.get]at hl;simp only[Bv.injEq,HO.arr.injEq]at hl;obtain⟨_,_,rfl⟩:=hl;exact⟨by simp,.inl ⟨Mu.Au _ _ _,rfl⟩⟩
  ·rw[EN.other l e]at hl;obtain⟨h1,h2⟩:=h.heap.BJ l e' BD es hl;exact⟨h1,h2.imp (λ⟨k1,k2⟩=>⟨hle _ _ k1,k2⟩) λ⟨b,cap,cur,k1,k2,k3,k4,k5,k6,k7⟩=>⟨b,cap,cur,hle _ _ k1,k2,k3,k4,k5,Aa.mono (Ext.refl _ _) _ hblk k6,k7⟩⟩
 ·intro l ks us hl;by_cases e:l=n;·subst e;rw[EN.get]at hl;simp at hl
  ·rw[EN.other l e]at hl;obtain⟨b,es,cl,h1,h2,h3⟩:=h.heap.maps l ks us hl;exact⟨b,es,cl,hle _ _ h1,h2,h3⟩
 ·unfold Aj;exact⟨_,Mu.Au _ _ _,by simp[Da],by simp[Da,Jx],by simp[BP]⟩
theorem S2(h:Az G C mu E H a w){x:AV}{u:Value}(hx:Aj C w x mu u){K:Nat→List AV→Prop}(hk:Ee H x K):
  ∃sz xs,K sz xs∧(∀a∈xs,a.cells.length=sz)∧((u=.slice none 0 0∧xs=[])∨∃ad c vs,u=.slice (some ad) xs.length c∧vs.length=xs.length*sz∧Aa C w (flat xs) (Bb mu) vs∧
   (∀j v,vs[j]?=some v→w.cell? (ad.add j)=some v)∧∀v∈vs,v.oneCell'=true):=by
 cases x with
 |sl sz es=>
  simp only[Ee]at hk;unfold Aj at hx;rcases hx with⟨⟨ad,rfl⟩,rfl⟩|⟨b,o,cap,rfl,h1,h2,h3⟩
  ·cases ad with
   |none=>exact⟨sz,[],hk,by simp,.inl ⟨rfl,rfl⟩⟩
   |some ad=>exact⟨sz,[],hk,by simp,.inr ⟨ad,0,[],rfl,by simp,by simp[flat,Aa],by simp,by simp⟩⟩
  ·have hz:∀a∈es,a.cells.length=sz:=λx hx=>by
    obtain⟨i,hi,rfl⟩:=List.getElem_of_mem hx;exact((DJ es o).1 h3 i hi).1
   have hc:Cells C w (flat es) b o:=by
    clear hk h1;induction es generalizing o with
    |nil=>simp[flat,Cells]
    |cons e es ih=>
     rw[Ut]at h3;have e1:flat (e::es)=e.cells++flat es:=by simp[flat]
     rw[e1];exact NM _ _ h3.1.2 (by rw[h3.1.1];exact ih _ h3.2 (λx hx=>hz x (by simp[hx])))
   obtain⟨vs,k1,k2,k3⟩:=hc.gS;refine⟨sz,es,hk,hz,.inr ⟨_,cap,vs,rfl,by rw[Ar _ k2,BA es hz],k2.up,λj v hv=>?_,k3⟩⟩
   rw[add_lit];exact k1 j v hv
 |own l sz lo n=>
  simp only[Ee]at hk;replace hk:=(Ab _ _ _).1 hk;obtain⟨ob,Ba,hk⟩:=hk
  cases ob with
  |cells _=>exact hk.elim
  |dead=>exact hk.elim
  |ghost _ _ _=>exact hk.elim
  |inv _=>exact hk.elim
  |map _ _=>exact hk.elim
  |arr e BD es=>
   simp only at hk;split at hk
   ·rename_i hb;simp only[AO]at hb;obtain rfl:=Ao hb.1;obtain rfl:=Ao hb.2;obtain⟨rfl,hk⟩:=hk;unfold Aj at hx;obtain⟨x,hm,hle,MA,rfl⟩:=hx;obtain⟨hz,h2⟩:=h.heap.BJ l e sz es Ba;rcases h2 with⟨h2,rfl⟩|⟨b,cap,cur,h3,⟨fz,h4,Nu⟩,h5,h6,h7,h8,h9⟩
    ·rw[hm]at h2;simp only[Bv.injEq,GO.arr.injEq]at h2;subst h2;exact⟨sz,[],hk,by simp,.inl ⟨rfl,rfl⟩⟩
    ·rw[hm]at h3;simp only[Bv.injEq,GO.arr.injEq]at h3;subst h3;have IJ:cur.toList.length=cap*sz:=by simpa using h7
     have hmul:es.length*sz≤cap*sz:=CX _ h5;refine⟨sz,es,hk,hz,.inr ⟨⟨b,0,none⟩,cap,cur.toList.take (es.length*sz),by simp[BP],by rw[CL];omega,h8,λj v hv=>?_,λv hv=>h9 v (C0 hv)⟩⟩
     rw[add_lit];have:=(Ij h4) j v;rw[J5]at hv;split at hv;·exact this hv
     ·cases hv
   ·exact hk.elim
 |_=>exact hk.elim
end
section
variable {G:Cx}{C:Ag}{w:World}{mu:Mu}{H:List HO}{E:List AV}{a:Act}{T:List TY}
theorem Tu{z:Value}{zc:List AV}(hz:Aa C w zc mu z.cells.toList)(hs:zc.all CJ=true)(n:Nat)(hp:0<z.cells.size):∀v∈(CM z.cells n).toList,v.oneCell'=true:=by
 intro v hv;simp only[CM,Ei,JE]at hv;obtain⟨i,_,rfl⟩:=hv;have him:i%z.cells.size<z.cells.size:=K1 _ hp;rw[getElem!_pos z.cells _ him];exact FQ hz hs _ (by simp)
theorem Ll(vs:List Value)(Z:Array Value):vs.toArray++Z=(vs++Z.toList).toArray:=by cases Z;simp
theorem YD(xs ys:List AV):flat (xs++ys)=flat xs++flat ys:=by unfold flat;rw[HW]
structure Y1(P:Program)(t e:TypeId)(sz by':Nat)(z:Value)(i:TypeInfo):Prop where
 ht:P.underlying t=some (.slice e)
 hi:P.info? e=some i
 hz:i.zero=some z
 hs:i.size=sz
 hb:i.bytes=by'
 hzs:z.cells.size=sz
 hp:1≤sz
 one:∀n,∀v∈(CM z.cells n).toList,v.oneCell'=true
theorem Ib{P:Program}{t e:TypeId}{sz by':Nat}{z:Value}{i:TypeInfo}(A:Y1 P t e sz by' z i)(n:Nat):(CM z.cells n).toList.length=n*sz:=by
 simp[CM,A.hzs]
theorem wZ(h:Az G C mu E H a w){n:Nat}{H':List HO}{t ty e:TypeId}{sz by':Nat}{z:Value}{i:TypeInfo}(A:Y1 G.P t e sz by' z i){xs:List AV}(EN:Al H n H' (.arr e sz xs)){u:Value}(jR:∀a∈xs,a.cells.length=sz)
  (hu:(u=.slice none 0 0∧xs=[])∨∃ad c vs,u=.slice (some ad) xs.length c∧vs.length=xs.length*sz∧Aa C w (flat xs) (Bb mu) vs∧(∀j v,vs[j]?=some v→w.cell? (ad.add j)=some v)∧∀v∈vs,v.oneCell'=true)
  (hb:xs.length*by'≤140737488355328) (hm:xs.length≤9223372036854775807):
  ∃mu' w' v,(Ds #[t,t] ty #[.slice none 0 0,u]).run G.P w=.ok v w'∧Az G C mu' E H' a w'∧Aj C w' (.own n sz 0 xs.length) mu' v:=by
 have ZaI:xs.length=0→∀u',(∃ad,u'=.slice ad 0 0∨∃c,u'=.slice ad 0 c)→(Ds #[t,t] ty #[.slice none 0 0,u']).run G.P w=.ok (.slice none 0 0) w:=by
  rintro _ u' ⟨ad,rfl|⟨c,rfl⟩⟩<;>cases ad<;>simp[Ds,run_underlying A.ht,sizeOf,typeInfo,A.hi,Ho,FP,loadCells,loadCellsFrom]
 by_cases hx:xs.length=0
 ·have LB:xs=[]:=G1 hx;subst LB;obtain⟨h1,h2⟩:=h.OD EN;refine⟨_,w,_,ZaI hx u ?_,h1,h2⟩;rcases hu with⟨rfl,_⟩|⟨ad,c,vs,rfl,_⟩;·exact⟨none,.inl rfl⟩
  ·exact⟨some ad,.inr ⟨c,rfl⟩⟩
 ·rcases hu with⟨_,rfl⟩|⟨ad,c,vs,rfl,hl,hr,Ep,h1⟩;·simp at hx
  ·have LP:=run_append_nil (P:=G.P) w t ty e i z A.ht A.hi A.hz ad xs.length c vs (by rw[hl,A.hs]) Ep (by omega) (by omega) (by rw[A.hb];omega)
   have fF:=grownCap_ge w xs.length 0 e;have hle:=grownCap_le_maxLen w xs.length 0 e (by simp only[maxLen];omega)
   simp only[maxLen]at hle
   obtain⟨mu',m1,m2⟩:=QP (e:=e) (cap:=grownCap w xs.length 0 e) (vs:=vs++(CM z.cells (grownCap w xs.length 0 e-xs.length)).toList) h.drew EN jR
    (by rw[←hl,Gj];exact Aa.mono Hg _ (Ay.refl _) hr)
    (λv hv=>by
     rcases C4.1 hv with hv|hv
     ·exact h1 v hv
     ·exact A.one _ v hv)
    fF (by omega) (by rw[Bj,hl,Ib A,←C1];congr 1;omega)
   refine⟨mu',_,_,?_,m1,m2⟩;rw[LP,Ll];rfl
theorem Qa{P:Program}(w:World)(t ty e:TypeId)(i:TypeInfo)(ht:P.underlying t=some (.slice e))(hi:P.info? e=some i)
  (g ZG zT:Nat) (cur:Array Value) {fz:Nat×Nat} (hg:w.heap[g]?=some (.cells cur e fz)) (Nu:T4 cur fz)
  (a:Addr) (m c:Nat) (news:List Value) (hl:news.length=m*i.size) (Zc7:∀j u,news[j]?=some u→w.cell? (a.add j)=some u) (h1:∀u∈news,u.oneCell'=true)
  (Su:ZG+m≤zT) (bN:ZG*i.size+news.length≤cur.size):
  (Ds #[t,t] ty #[.slice (some ⟨g,0,none⟩) ZG zT,.slice (some a) m c]).run P w=
   .ok (.slice (some ⟨g,0,none⟩) (ZG+m) zT) (w.setRow g (cur.toList.take (ZG*i.size)++news++cur.toList.drop (ZG*i.size+news.length)).toArray):=by
 have hf:=run_firstCells_some (P:=P) w i.size m a m c news hl Zc7;have Ah:=CZ P g (ZG*i.size) e fz news 0 cur w hg Nu (by simpa using bN) h1
 simp only[H2]at Ah;simp[Ds,run_underlying ht,sizeOf,typeInfo,hi,Ho,Su,hf,add_lit,Ah]
theorem wY(h:Az G C mu E H a w){t ty e:TypeId}{sz by':Nat}{z:Value}{i:TypeInfo}(A:Y1 G.P t e sz by' z i){l:Nat}{es:List AV}(hl:H[l]?=some (.arr e sz es)){s:Value}
  (hs:Aj C w (.own l sz 0 es.length) mu s) {xs:List AV} {u:Value} (jR:∀a∈xs,a.cells.length=sz)
  (hu:(u=.slice none 0 0∧xs=[])∨∃ad c vs,u=.slice (some ad) xs.length c∧vs.length=xs.length*sz∧Aa C w (flat xs) (Bb mu) vs∧(∀j v,vs[j]?=some v→w.cell? (ad.add j)=some v)∧∀v∈vs,v.oneCell'=true)
  (hb:(es++xs).length*by'≤140737488355328) (hm:(es++xs).length≤9223372036854775807):
  ∃mu' w' v,(Ds #[t,t] ty #[s,u]).run G.P w=.ok v w'∧Az G C mu' (BN l E) ((H.map (AA l)).set l (.arr e sz (es++xs))) a w'∧Aj C w' (.own l sz 0 (es++xs).length) mu' v:=by
 obtain⟨hz,h2⟩:=h.heap.BJ l e sz es hl;have AR:l<H.length:=(CW.1 hl).1;have ZcI:∀a∈es++xs,a.cells.length=sz:=λx hx=>(C4.1 hx).elim (hz x) (jR x)
 have bE:∀{ob:HO},H[l]?=some ob→AA l ob=ob→(H.map (AA l)).set l ob=H.map (AA l):=λ{ob} ho pO=>by
  apply Ff;intro j;by_cases e:j=l;·subst e;rw[DC (by simpa using AR),Cu,ho];simp[pO]
  ·rw[AZ (Ne.symm e)]
 unfold Aj at hs;obtain⟨x,MA,hle,Zfh,rfl⟩:=hs
 -- nothing is appended
 by_cases hx:xs.length=0
 ·have LB:xs=[]:=G1 hx;subst LB;simp only[JD];rw[bE hl rfl];refine⟨mu,w,BP x sz 0 es.length,?_,h.Bd l,by unfold Aj;exact⟨x,MA,hle,Zfh,rfl⟩⟩
  have hu':∃ad c,u=.slice ad 0 c:=by
   rcases hu with⟨rfl,_⟩|⟨ad,c,vs,rfl,_⟩;·exact⟨none,0,rfl⟩
   ·exact⟨some ad,c,rfl⟩
  obtain⟨ad,c,rfl⟩:=hu';rcases h2 with⟨h2,rfl⟩|⟨b,cap,cur,h3,h4,h5,h6,h7,h8,h9⟩
  ·rw[MA]at h2;simp only[Bv.injEq,GO.arr.injEq]at h2;subst h2;cases ad<;>simp[BP,Ds,run_underlying A.ht,sizeOf,typeInfo,A.hi,Ho,FP,loadCells,loadCellsFrom]
  ·rw[MA]at h3;simp only[Bv.injEq,GO.arr.injEq]at h3;subst h3;cases ad<;>simp[BP,Ds,run_underlying A.ht,sizeOf,typeInfo,A.hi,Ho,FP,loadCells,loadCellsFrom,h5,storeCells]
 ·rcases hu with⟨_,rfl⟩|⟨ad,c,vs,rfl,V7,hr,Ep,h1⟩;·simp at hx
  rw[Bj]at hb hm;rcases h2 with⟨h2,rfl⟩|⟨b,cap,cur,h3,⟨fz,h4,Nu⟩,h5,h6,h7,h8,h9⟩
  ·-- it was nil
   rw[MA]at h2;simp only[Bv.injEq,GO.arr.injEq]at h2;subst h2;simp only[Hx,JC]at hb hm;have LP:=run_append_nil (P:=G.P) w t ty e i z A.ht A.hi A.hz ad xs.length c vs (by rw[V7,A.hs]) Ep (by omega) (by omega) (by rw[A.hb];omega)
   have fF:=grownCap_ge w xs.length 0 e;have hle:=grownCap_le_maxLen w xs.length 0 e (by simp only[maxLen];omega)
   simp only[maxLen]at hle
   have m1:=h.drew.renew hl (es:=xs) (cap:=grownCap w xs.length 0 e) (vs:=vs++(CM z.cells (grownCap w xs.length 0 e-xs.length)).toList) jR
    (by rw[←V7,Gj];exact Aa.mono Hg _ (Ay.refl _) hr)
    (λv hv=>by
     rcases C4.1 hv with hv|hv
     ·exact h1 v hv
     ·exact A.one _ v hv)
    fF (by omega) (by rw[Bj,V7,Ib A,←C1];congr 1;omega)
   refine⟨_,_,.slice (some ⟨w.heap.size,0,none⟩) xs.length (grownCap w xs.length 0 e),?_,m1,?_⟩;·simp only[BP,Hx];rw[LP,Ll]
   ·simp only[JB];unfold Aj;exact⟨_,Mu.Au _ _ _,by simp[Da],by simp only[Da,Jx];omega,by simp[BP]⟩
  ·rw[MA]at h3;simp only[Bv.injEq,GO.arr.injEq]at h3;subst h3;have IJ:cur.toList.length=cap*sz:=by simpa using h7
   have hmul:es.length*sz≤cap*sz:=CX _ h5;have OK:BP (.slice (some ⟨b,0,none⟩) es.length cap) sz 0 es.length=.slice (some ⟨b,0,none⟩) es.length cap:=by simp[BP]
   rw[OK];have Zdw:Aa C w (flat (es++xs)) (Bb mu) (cur.toList.take (es.length*sz)++vs):=by rw[YD];exact AF h8 hr
   by_cases Su:es.length+xs.length≤cap
   ·-- there is room
    have UY:(es.length+xs.length)*sz≤cap*sz:=CX _ Su;rw[C1]at UY;have LP:=Qa (P:=G.P) w t ty e i A.ht A.hi b es.length cap cur h4 Nu ad xs.length c vs (by rw[V7,A.hs]) Ep h1 Su (by rw[A.hs,V7];omega)
    rw[A.hs]at LP;have hx:=FA (w:=w) (h.heap.fresh _ _ _ MA rfl).2.2 ((cur.toList.take (es.length*sz)++vs++cur.toList.drop (es.length*sz+vs.length)).toArray)
    have m1:=Az.write (g:=.arr (.slice (some ⟨b,0,none⟩) es.length cap)) (g':=.arr (.slice (some ⟨b,0,none⟩) (es.length+xs.length) cap)) h MA rfl
     (new:=(cur.toList.take (es.length*sz)++vs++cur.toList.drop (es.length*sz+vs.length)).toArray) h4 (.arr e sz (es++xs)) rfl (by simp) (by simp) (E':=BN l E)
     (Aa.mono hx _ (Ay.refl _) (CQ _ (λb hb=>by rw[MA]at hb;cases hb) h.env)) ((H.map (AA l)).set l (.arr e sz (es++xs))) (by simp)
     (λj hj=>by
      rw[AZ (Ne.symm hj),Cu]
      cases ho:H[j]? with
      |none=>simp
      |some ob=>
       cases ob with
       |cells E9=>
        simp only[DG,AA,Bv.injEq,HO.cells.injEq,reduceCtorEq,false_implies,implies_true,and_true];refine⟨trivial,?_⟩;rintro cs rfl;exact⟨E9,rfl,λus k=>CQ _ (λb hb=>by rw[MA]at hb;cases hb) k⟩
       |dead=>simp[AA]
       |inv I=>simp[AA]
       |map ks0 lH=>simp[AA]
       |ghost E9 lH ms0=>
        simp only[DG,AA,Bv.injEq,HO.ghost.injEq,reduceCtorEq,false_implies,implies_true,and_true,true_and];rintro cs vs ms ⟨rfl,rfl,rfl⟩;exact⟨E9,⟨rfl,rfl,rfl⟩,λus k=>CQ _ (λb hb=>by rw[MA]at hb;cases hb) k⟩
       |arr e0 sz0 lU=>simp[AA])
     (by simp) (by rw[DC (by simpa using AR)])
     (by simp)
     (λe' BD Cf hc=>by
      simp only[HO.arr.injEq]at hc
      obtain⟨rfl,rfl,rfl⟩:=hc
      refine⟨ZcI,cap,by simp,rfl,by simpa using Su,h6,?_,?_,?_⟩
      ·simp only[C3,Bj,CL,Ec];omega
      ·have e1:(es++xs).length*sz=(cur.toList.take (es.length*sz)++vs).length:=by
        rw[Bj,Bj,CL,C1];omega
       rw[e1]
       simp only[Gj]
       exact Zdw
      ·intro v hv
       simp only[C4]at hv
       rcases hv with (hv|hv)|hv
       ·exact h9 v (C0 hv)
       ·exact h1 v hv
       ·exact h9 v (Ed hv))
     (λi hi ks vs hh=>by rw[AZ (Ne.symm hi)]at hh;exact LZ hh) (by simp)
     ⟨λ_ h=>(by cases h),λ_ _ _ _=>Nu.size (by simp only[C3,Bj,CL,Ec];omega)⟩
    refine⟨_,_,_,LP,m1,?_⟩;unfold Aj;exact⟨_,Mu.Au _ _ _,by simp[Da],by simp only[Da,Jx];omega,by simp[BP]⟩
   ·-- a new array
    have LP:=run_append_grow (P:=G.P) w t ty e i z A.ht A.hi A.hz ⟨b,0,none⟩ es.length cap (cur.toList.take (es.length*sz)) (by rw[CL,A.hs];omega)
     (λj v hv=>by
      rw[add_lit]
      have:=(Ij h4) j v
      rw[J5]at hv
      split at hv
      ·exact this hv
      ·cases hv)
     ad xs.length c vs (by rw[V7,A.hs]) Ep (by omega) (by omega) (growslice_fits (by omega) (by rw[A.hb];exact hb))
    have fF:=grownCap_ge w (es.length+xs.length) cap e;have hle:=grownCap_le_maxLen w (es.length+xs.length) cap e (by simp only[maxLen];omega)
    simp only[maxLen]at hle
    have m1:=h.drew.renew hl (es:=es++xs) (cap:=grownCap w (es.length+xs.length) cap e)
     (vs:=cur.toList.take (es.length*sz)++vs++(CM z.cells (grownCap w (es.length+xs.length) cap e-(es.length+xs.length))).toList) ZcI
     (by
      have e1:(es++xs).length*sz=(cur.toList.take (es.length*sz)++vs).length:=by
       rw[Bj,Bj,CL,C1];omega
      rw[e1,Gj];exact Aa.mono Hg _ (Ay.refl _) Zdw)
     (λv hv=>by
      simp only[C4]at hv
      rcases hv with (hv|hv)|hv
      ·exact h9 v (C0 hv)
      ·exact h1 v hv
      ·exact A.one _ v hv)
     (by rw[Bj];exact fF) (by omega)
     (by rw[Bj,Bj,CL,V7,Ib A,Hs (by omega),←C1,←C1];congr 1;omega)
    refine⟨_,_,.slice (some ⟨w.heap.size,0,none⟩) (es.length+xs.length) (grownCap w (es.length+xs.length) cap e),?_,m1,?_⟩;·rw[LP,Ll,List.append_toArray,←Ll]
    ·unfold Aj;exact⟨_,Mu.Au _ _ _,by simp[Da],by simp only[Da,Jx,Bj];omega,by simp[BP]⟩
end
section
variable {G:Cx}{C:Ag}{w:World}{mu:Mu}{H:List HO}{E:List AV}{a:Act}{T:List TY}
theorem rR(C:Ag)(w:World)(hT:BL G.P T){t e:TypeId}{y:TY}{Bh by':Nat}{ag:Bool}(hy:T[t]?=some y)(hs:y.k=.slice e Bh by' ag)(hp:1≤Bh){z:AV}{ye:TY}(PH:T[e]?=some ye)(Ya:z.cells=ye.zero)
  (hl:z.cells.length=Bh) (pO:z.cells.all CJ=true):∃zv i,Y1 G.P t e Bh by' zv i:=by
 obtain⟨hu,Eh,vQ,_⟩:=hT.slice hy hs;have HV:=run_sizeOf (P:=G.P) (w:=w) Eh hp;obtain⟨i,d,hi,hd,TM⟩:=hT.facts PH;have Mq:i.size=Bh:=by simp[sizeOf,typeInfo,hi]at HV;exact HV
 have ZaV:i.bytes=by':=by unfold Ky at vQ;simpa[hi]using vQ
 obtain⟨zv,TL,Qv⟩:=ED (C:=C) (w:=w) (mu:=Mu.none) hT PH (by rw[←Ya,hl,TM];exact Mq.symm) (by rw[TM];simp only[Mq];exact hp)
 rw[←Ya]at Qv;have Gm:zv.cells.size=Bh:=by have:=Ar _ Qv;simpa[hl]using this
 have hiz:i.zero=some zv:=by
  cases hz:i.zero with
  |none=>simp[zeroValue,typeInfo,hi,hz]at TL
  |some z'=>simp[zeroValue,typeInfo,hi,hz]at TL;rw[TL]
 exact⟨zv,i,hu,hi,hiz,Mq,ZaV,Gm,hp,λn=>Tu Qv pO n (by omega)⟩
theorem O5{t ty e:TypeId}{by':Nat}{i:TypeInfo}(hu:G.P.underlying t=some (.slice e))(hi:G.P.info? e=some i)(b:Option Addr)(n c:Nat)(hn:n≤c):
  (Ds #[t,t] ty #[.slice b n c,.slice none 0 0]).run G.P w=.ok (.slice b n c) w:=by
 cases b<;>simp[Ds,run_underlying hu,sizeOf,typeInfo,hi,Ho,FP,loadCells,loadCellsFrom,hn,storeCells]
theorem lD{al:Option Nat}(hT:BL G.P T)(h:Az G C mu E H a w){t t' ty:TypeId}{s x:Operand}{K:AV→KK}(hk:CN al T E H t t' s x K):
  Gn G a w K (Ds #[t,t'] ty #[a.eval s,a.eval x]):=by
 unfold CN at hk;split at hk
 ·rename_i htt;obtain rfl:=Ao htt;replace hk:=(Ab _ _ _).1 hk;obtain⟨y,hy,hk⟩:=hk
  split at hk
  ·rename_i e Bh by' ag hs
   split at hk
   ·rename_i hp;simp only[AO]at hp;have ZfU:=BC hp.2;have hp:=BC hp.1
    have bN:∀n,n*by'≤140737488355328→n≤9223372036854775807:=λn hn=>by
     have:=Jb n (show 0<by' by omega)
     omega
    rw[Af,Af]at hk;have Dt:=AT h.env s;have Qw:=AT h.env x;obtain⟨hu,Eh,vQ,_⟩:=hT.slice hy hs
    obtain⟨i,d,hi,hd,Mq⟩:∃i d,G.P.info? e=some i∧G.P.underlying e=some d∧i.size=Bh:=by
     obtain⟨n,rfl⟩:∃n,Bh=n+1:=⟨Bh-1,by omega⟩
     exact JU Eh
    split at hk
    ·rename_i Yb;rw[Yb]at Qw;have sH:a.eval x=.slice none 0 0:=by unfold Aj at Qw;exact Qw
     split at hk
     ·rename_i l sz lo n bF;have vC:=Dt;rw[bF]at vC;have ZcS:=vC;replace hk:=(Ab _ _ _).1 hk;obtain⟨ob,Ba,hk⟩:=hk
      cases ob with
      |cells _=>exact hk.elim
      |dead=>exact hk.elim
      |ghost _ _ _=>exact hk.elim
      |inv _=>exact hk.elim
      |map _ _=>exact hk.elim
      |arr e0 sz0 lU=>
       simp only at hk;unfold Aj at vC;obtain⟨v,hm,hle,MA,hv⟩:=vC;refine⟨_,a.eval s,_,_,C,mu,w,hk,?_,h,ZcS⟩;rw[sH,hv];obtain⟨_,h2⟩:=h.heap.BJ l _ _ _ Ba;rcases h2 with⟨h2,_⟩|⟨b,cap,cur,h3,h4,h5,_⟩
       ·rw[hm]at h2
        simp only[Bv.injEq,GO.arr.injEq]at h2
        subst h2
        exact O5 (by':=by') hu hi none 0 0 (J4 _)
       ·rw[hm]at h3
        simp only[Bv.injEq,GO.arr.injEq]at h3
        subst h3
        simp only[Da]at hle
        exact O5 (by':=by') hu hi _ n (cap-lo) (by omega)
     ·rename_i bF;rw[bF]at Dt;have xX:a.eval s=.slice none 0 0:=by unfold Aj at Dt;exact Dt
      refine⟨_,.slice none 0 0,_,_,C,mu,w,hk,?_,h,by unfold Aj;rfl⟩
      rw[sH,xX];exact O5 (by':=by') hu hi none 0 0 (J4 _)
     ·exact hk.elim
    ·obtain⟨sz,xs,hk,jR,xR⟩:=S2 h Qw hk;split at hk
     ·rename_i bF;obtain rfl:=Ao bF;split at hk
      ·rename_i bF
       rw[bF]at Dt
       have xX:a.eval s=.slice none 0 0:=by unfold Aj at Dt;exact Dt
       obtain⟨hb,hk⟩:=hk
       obtain⟨z,ye,PH,hk,Ya⟩:=H8 hT hk
       rw[Am]at hk
       split at hk
       ·rename_i GA
        simp only[AO]at GA
        obtain⟨zv,i',A⟩:=rR C w hT hy hs hp PH Ya (Ao GA.1) GA.2
        obtain⟨H',nn,EN,hk⟩:=O7 hk
        obtain⟨mu',w',v,h1,h2,h3⟩:=wZ (ty:=ty) h A EN jR xR hb (bN _ hb)
        exact⟨_,v,_,_,C,mu',w',hk,by rw[xX];exact h1,h2,h3⟩
       ·exact hk.elim
      ·rename_i l BD lo n bF
       replace hk:=(Ab _ _ _).1 hk;obtain⟨ob,Ba,hk⟩:=hk
       cases ob with
       |cells _=>exact hk.elim
       |dead=>exact hk.elim
       |ghost _ _ _=>exact hk.elim
       |inv _=>exact hk.elim
       |map _ _=>exact hk.elim
       |arr e' P8 es=>
        simp only at hk;split at hk
        ·rename_i N5
         simp only[AO]at N5
         obtain⟨⟨⟨q1,q2⟩,q3⟩,q4⟩:=N5
         obtain rfl:=Ao q1
         obtain rfl:=Ao q2
         obtain rfl:=Ao q3
         obtain rfl:=Ao q4
         obtain⟨⟨rfl,hb⟩,hk⟩:=hk
         rw[bF]at Dt
         obtain⟨z,ye,PH,hk,Ya⟩:=H8 hT hk
         rw[Am]at hk
         split at hk
         ·rename_i GA
          simp only[AO]at GA
          obtain⟨zv,i',A⟩:=rR C w hT hy hs hp PH Ya (Ao GA.1) GA.2
          rw[DI,BZ,AD]at hk
          obtain⟨mu',w',v,h1,h2,h3⟩:=wY (ty:=ty) h A Ba Dt jR xR hb (bN _ hb)
          exact⟨_,v,_,_,C,mu',w',hk,h1,h2,h3⟩
         ·exact hk.elim
        ·exact hk.elim
      ·exact hk.elim
     ·exact hk.elim
   ·exact hk.elim
  ·exact hk.elim
 ·exact hk.elim
end
open Go.RowKit (Below)
section
variable {G:Cx}{C:Ag}{w w':World}{mu:Mu}{H:List HO}{E:List AV}{a:Act}{T:List TY}
def Kc(C:Ag)(n m:Nat):Ag:=λb o=>C b o∨(n≤b∧b<m)
theorem kV(AR:∀b o,C b o→b<w.heap.size)(hb:Below w.heap.size w w'):Ext C (Kc C w.heap.size w'.heap.size) w w':=
 Ext.of_block (λ_ _ h=>.inl h) λb o hc=>hb.block b (AR b o hc)
theorem Jl.below(h:Jl G w)(hb:Below w.heap.size w w'):Jl G w':=
 ⟨hb.os.trans h.os,hb.tape.trans h.tape,hb.output.trans h.output,Kj h.size hb.size,λk hk hm=>(hb.block k (by have:=h.size;omega)).trans (h.block k hk hm)⟩
theorem Az.below(h:Az G C mu E H a w)(hb:Below w.heap.size w w'):Az G (Kc C w.heap.size w'.heap.size) mu E H a w':=by
 have hx:=kV h.lt hb;have hs:=hb.size;refine⟨λb o hc=>.inl (h.c0 b o hc),λb o hc=>?_,λb o hc=>?_,⟨h.heap.HH,λl g b hm hg=>?_,h.heap.sep,h.heap.dead,λl cs hl=>?_,λl e sz es hl=>?_,λl ks vs hl=>?_⟩,Aa.mono hx _ (Ay.refl _) h.env,?_,h.Aq.below hb,h.CA⟩
 rotate_right
 ·obtain⟨ms,k1,k2⟩:=h.defers
  exact⟨ms,k1,k2.step ⟨hb.os,hb.tape,hb.output,hb.size,λb WC=>hb.block b WC.1⟩ (λl g b hm hg=>.inl ⟨l,g,hm,hg⟩)
   (λb o hc=>hc.imp id λk=>.inl k.1) (λl cs vs ms hl=>⟨cs,hl,Aa.mono hx _ (Ay.refl _)⟩) (λ_ _ h=>h)⟩
 ·rcases hc with hc|hc;·exact h.c1 b o hc
  ·exact .inr (.inl (by have:=h.Aq.size;omega))
 ·rcases hc with hc|hc;·have:=h.lt b o hc;omega
  ·exact hc.2
 ·obtain⟨k1,k2,k3⟩:=h.heap.fresh l g b hm hg;exact⟨k1,by omega,λo hc=>hc.elim (k3 o) (λhc=>by omega)⟩
 ·obtain⟨b,cur,e,h1,h2,h3,h4⟩:=h.heap.Cm l cs hl;exact⟨b,cur,e,h1,(hb.block b (h.heap.fresh _ _ _ h1 rfl).2.1).trans h2,Aa.mono hx _ (Ay.refl _) h3,h4⟩
 ·obtain⟨h1,h2⟩:=h.heap.BJ l e sz es hl;exact⟨h1,h2.imp id λ⟨b,cap,cur,k1,k2,k3,k4,k5,k6,k7⟩=>⟨b,cap,cur,k1,k2.of_eq (hb.block b (h.heap.fresh _ _ _ k1 rfl).2.1),k3,k4,k5,Aa.mono hx _ (Ay.refl _) k6,k7⟩⟩
 ·obtain⟨b,es,cl,h1,h2,h3⟩:=h.heap.maps l ks vs hl;exact⟨b,es,cl,h1,(hb.block b (h.heap.fresh _ _ _ h1 rfl).2.1).trans h2,h3⟩
theorem SV(l:List UInt8):flat (l.map λb=>AV.int .u8 b.toNat)=l.map λb=>AV.int .u8 b.toNat:=by
 induction l with
 |nil=>rfl
 |cons b l ih=>
  have e1:flat ((b::l).map λb=>AV.int .u8 b.toNat)=AV.int .u8 b.toNat::flat (l.map λb=>AV.int .u8 b.toNat):=by simp[flat,AV.cells]
  rw[e1,ih];rfl
theorem Rq{sz:Nat}(Eh:sz=1){cells:List Value}:∀(l:List UInt8)(b o:Nat),(∀i (h:i<l.length),Cl C w b (o+i) (.int .u8 (l[i]).toNat))→Rows C w sz (l.map λb=>.int .u8 b.toNat) b o
 |[],_,_,_=>by simp only[List.map_nil];unfold Rows;trivial
 |x::l,b,o,h=>by
  subst Eh;simp only[Hm];unfold Rows;refine⟨rfl,⟨_,rfl,by simpa using h 0 (by simp),by unfold Aj;exact⟨rfl,pE.2 ⟨by omega,by have:=x.toNat_lt;omega⟩⟩⟩,Rq rfl (cells:=cells) l b (o+1) (λi hi=>?_)⟩
  have:=h (i+1) (by simpa using hi)
  rw[show o+1+i=o+(i+1) by omega]
  simpa using this
theorem YB(w:World)(b n:Nat)(cur:Array Value)(e:TypeId)(h:w.heap[b]?=some (.cells cur e (0,0))):
  (w.freeze ⟨b,n,none⟩ 1).heap[b]?=some (.cells cur e (n,n+1))∧(∀k,k≠b→(w.freeze ⟨b,n,none⟩ 1).heap[k]?=w.heap[k]?)∧(w.freeze ⟨b,n,none⟩ 1).heap.size=w.heap.size:=by
 have hb:b<w.heap.size:=(Array.getElem?_eq_some_iff.1 h).1;refine⟨?_,λk hk=>?_,?_⟩
 ·simp[World.freeze,E2,h]
 ·simp only[World.freeze,Nat.one_ne_zero,if_false];rw[E2,if_neg (λe=>hk e.symm)]
 ·simp[World.freeze]
theorem Rx:∀(l:List UInt8){mu:Mu}{vs:List Value},Aa C w (l.map λb=>AV.int .u8 b.toNat) mu vs→vs=l.map λb=>Value.int .u8 b.toNat
 |[],_,_,h=>by simpa[Aa]using h
 |b::l,_,_,h=>by
  simp only[Hm]at h ⊢;unfold Aa at h;obtain⟨v,BV,rfl,h2,h3⟩:=h;rw[(AG h2).1,Rx l h3]
theorem rJ(hT:BL G.P T)(h:Az G C mu E H a w){s d:TypeId}{x:Operand}{K:AV→KK}(hk:S7 T E H s d x K):Gn G a w K (convert s d (a.eval x)):=by
 unfold S7 at hk;replace hk:=(Ab _ _ _).1 hk;obtain⟨ys,xP,hk⟩:=hk
 replace hk:=(Ab _ _ _).1 hk;obtain⟨yd,xQ,hk⟩:=hk
 rw[Af]at hk;have Qw:=AT h.env x;split at hk
 ·rename_i e Bh by' ag h1 h2
  have Y6:=hT.string xP h1;obtain⟨hud,Eh,vQ,_⟩:=hT.slice xQ h2;split at hk
  ·rename_i l Yb;rw[Yb]at Qw;obtain⟨sH,bI⟩:=Bt Qw;split at hk
   ·rename_i hb;obtain rfl:=Ao hb;replace hk:=(Ab _ _ _).1 hk;obtain⟨ye,PH,hk⟩:=hk
    split at hk
    ·rename_i vK;have Wz:=hT.int PH vK;rw[sH]
     -- lI run
     obtain⟨w1,cap,hch,PO,EM,Ze0,hcm⟩:∃w1 cap,(choose (.appendCap l.length 0 e)).run G.P w=.ok cap w1∧Below w.heap.size w w1∧(l.length≤cap∨l.length=0)∧w1.heap.size=w.heap.size∧cap≤9223372036854775807:=by
      rw[run_choose];split
      ·rename_i hf
       refine⟨w,0,rfl,Below.refl _ _,?_,rfl,by omega⟩
       simp[Question.forced]at hf
      ·refine⟨w.drew,_,rfl,(Below.refl _ _).drew,.inl ?_,rfl,?_⟩
       ·exact grownCap_ge w l.length 0 e
       ·exact Kj (grownCap_le_maxLen w l.length 0 e (by simp only[maxLen];omega)) (by simp[maxLen])
     have fL:l.length≤cap:=by omega
     obtain⟨cur,hcd⟩:∃c:Array Value,(l.toArray.map λb=>Value.int .u8 b.toNat)++Array.replicate (cap-l.length) (.int .u8 0)=c:=⟨_,rfl⟩
     have Yo:cur.size=cap:=by rw[←hcd];simp;omega
     obtain⟨w2,pK⟩:∃w2,(w1.alloc (.cells cur e)).freeze ⟨w1.heap.size,cur.size,none⟩ 1=w2:=⟨_,rfl⟩;have EN:(w1.alloc (.cells cur e)).heap[w1.heap.size]?=some (.cells cur e (0,0)):=heap_alloc_new _ _;obtain⟨Gf,bB,hw4⟩:=YB (w1.alloc (.cells cur e)) w1.heap.size cur.size cur e EN;have bD:(w1.alloc (.cells cur e)).shape? w1.heap.size=some (e,cur.size):=by unfold World.shape?;rw[EN]
     rw[pK]at Gf bB hw4
     have GA:Below w.heap.size w w2:=by
      refine PO.trans ⟨by rw[←pK];rfl,by rw[←pK];rfl,by rw[←pK];rfl,?_,λk hk=>?_⟩
      ·show _≤w2.heap.size
       rw[hw4];simp
      ·show w2.heap[k]?=_
       rw[bB k (by omega),heap_alloc_old _ _ (by omega)]
     have ZhZ:w2.heap.size=w.heap.size+1:=by rw[hw4];simp[Ze0]
     have Ah:=h.below GA;refine⟨_,.slice (some ⟨w1.heap.size,0,none⟩) l.length cap,_,_,_,mu,w2,hk,?_,Ah,?_⟩
     ·simp only[convert,Fy,run_underlying Y6,run_underlying hud,run_underlying Wz,Ef,Conv.stringToBytes,DZ,hch];simp only[hcd,newRow,markStringish,Fy,run_newObj,World.alloc_eq,Ki,Ef,run_shape,bD,run_freeze,pK]
     ·unfold Aj;refine .inr ⟨w1.heap.size,0,cap,by simp,by simpa using fL,hcm,Rq rfl (cells:=[]) l _ 0 (λi hi=>⟨.inr ⟨by omega,by omega⟩,?_⟩)⟩
      rw[JC,cell_of_row w2 _ i cur e _ Gf];rw[←hcd];rw[Array.getElem?_append_left (by simpa using hi)]
      simp[hi]
    ·exact hk.elim
   ·exact hk.elim
  ·exact hk.elim
 ·rename_i e Bh by' ag h1 h2
  have hud:=hT.string xQ h2;obtain⟨Y6,Eh,vQ,_⟩:=hT.slice xP h1;replace hk:=S2 h Qw hk;obtain⟨sz,xs,hk,jR,xR⟩:=hk;split at hk
  ·rename_i hb;simp only[AO]at hb;obtain rfl:=Ao hb.1;obtain rfl:=Ao hb.2;replace hk:=(Ab _ _ _).1 hk;obtain⟨ye,PH,hk⟩:=hk
   split at hk
   ·rename_i vK;have Wz:=hT.int PH vK;obtain⟨l,⟨rfl,bI⟩,hk⟩:=hk;refine⟨_,.string ⟨l.toArray⟩,_,_,C,mu,w,hk,?_,h,QJ bI⟩;rcases xR with⟨hv,hx⟩|⟨ad,c,vs,hv,V7,hr,Ep,h1⟩
    ·simp only[List.map_eq_nil_iff]at hx;subst hx;rw[hv,run_convert_bytes_nil w s e Y6 Wz 0 0 d hud];rfl
    ·rw[SV]at hr;have La:=Rx l hr;subst La
     have lL:ad.spot=none∨l=[]:=by
      cases l with
      |nil=>exact .inr rfl
      |cons b l=>
       left;have:=Ep 0 _ rfl;simp only[Addr.add,if_true]at this;unfold World.cell? at this;split at this
       ·split at this
        ·cases this
        ·rename_i lL;simpa using lL
       ·cases this
     rw[hv]
     rw[run_convert_bytes_string w s d e _ _ c Y6 Wz hud,run_bytesToString w ad _ c (l.map λb=>(b.toNat:Int)) (by
      have:=run_loadCells_list (P:=G.P) w ad _ Ep;simpa[List.map_map,Function.comp_def]using this),foldl_push_bytes]
     simp[ByteArray.empty,ByteArray.emptyWithCapacity,Function.comp_def];rfl
   ·exact hk.elim
  ·exact hk.elim
 ·exact hk.elim
end
mutual
def To(l sz:Nat)(es:List AV):AV→AV
 |.own k BD lo n=>match Ju k l with
  |true=>(match Ju BD sz&&Ju lo 0 with|true=>.sl sz es|false=>.any)
  |false=>.own k BD lo n
 |.el k BD i o=>match Ju k l with|true=>.any|false=>.el k BD i o
 |.fn f cap=>.fn f (OU l sz es cap)
 |.mv f cap=>.mv f (OU l sz es cap)
 |.iface t x=>.iface t (To l sz es x)
 |.agg cs=>.agg (OU l sz es cs)
 |.tuple vs=>.tuple (OU l sz es vs)
 |a=>a
def OU(l sz:Nat)(es:List AV):List AV→List AV
 |[]=>[]
 |a::as=>To l sz es a::OU l sz es as
end
mutual
def Bz(l sz m:Nat):AV→Prop→Prop
 |.own k BD lo n,Q=>match Ju k l with
  |true=>(match Ju BD sz&&Ju lo 0 with|true=>n=m∧Q|false=>Q)
  |false=>Q
 |.fn f cap,Q=>Es l sz m cap Q
 |.mv f cap,Q=>Es l sz m cap Q
 |.iface t x,Q=>Bz l sz m x Q
 |.agg cs,Q=>Es l sz m cs Q
 |.tuple vs,Q=>Es l sz m vs Q
 |_,Q=>Q
def Es(l sz m:Nat):List AV→Prop→Prop
 |[],Q=>Q
 |a::as,Q=>Bz l sz m a (Es l sz m as Q)
end
def SL(l sz:Nat)(es:List AV):List AV→(List AV→Prop)→Prop
 |[],K=>K []
 |a::as,K=>Bz l sz es.length a ((To l sz es a).force λb=>SL l sz es as λbs=>K (b::bs))
def HA(l sz:Nat)(es:List AV):List HO→(List HO→Prop)→Prop
 |[],K=>K []
 |.cells cs::r,K=>SL l sz es cs λcs=>HA l sz es r λr=>K (.cells cs::r)
 |.arr e s xs::r,K=>HA l sz es r λr=>K (.arr e s xs::r)
 |.dead::r,K=>HA l sz es r λr=>K (.dead::r)
 |.ghost cs vs ms::r,K=>SL l sz es cs λcs=>HA l sz es r λr=>K (.ghost cs vs ms::r)
 |.inv I::r,K=>HA l sz es r λr=>K (.inv I::r)
 |.map ks vs::r,K=>HA l sz es r λr=>K (.map ks vs::r)
def kM(l:Nat)(E:List AV)(H:List HO)(K:KK):Prop:=
 B6 H l λob=>match ob with
  |.arr e sz es=>(∀e∈es,closed e=true)∧SL l sz es E λE=>HA l sz es H λH=>EK H l .dead λH=>K E H
  |_=>False
section
variable {G:Cx}{C C2:Ag}{w:World}{mu:Mu}{H:List HO}{E:List AV}{a:Act}{l sz:Nat}{es:List AV}
mutual
theorem fU(hx:Ext C C2 w w)(hl:∀b,mu l≠some (.CU b))(Fw:∀v,Aj C w (.own l sz 0 es.length) mu v→Aj C2 w (.sl sz es) Mu.none v):∀(x:AV){v:Value}{Q:Prop},Bz l sz es.length x Q→Aj C w x mu v→Aj C2 w (To l sz es x) (mu.set l none) v∧Q
 |.any,_,_,q,_=>⟨by unfold To Aj;trivial,by unfold Bz at q;exact q⟩
 |.int _ _,_,_,q,h=>⟨by unfold To;unfold Aj at*;exact h,by unfold Bz at q;exact q⟩
 |.bool _,_,_,q,h=>⟨by unfold To;unfold Aj at*;exact h,by unfold Bz at q;exact q⟩
 |.lit _,_,_,q,h=>⟨by unfold To;unfold Aj at*;exact h,by unfold Bz at q;exact q⟩
 |.str _,_,_,q,h=>⟨by unfold To;unfold Aj at*;exact h,by unfold Bz at q;exact q⟩
 |.sl _ _,_,_,q,h=>⟨by unfold To;exact Aj.mono hx _ (Ay.none _) (A6 _ rfl h),by unfold Bz at q;exact q⟩
 |.at_ _,_,_,q,h=>⟨by unfold To;exact Aj.mono hx _ (Ay.none _) (A6 _ rfl h),by unfold Bz at q;exact q⟩
 |.raw _,_,_,q,h=>⟨by unfold To;unfold Aj at*;exact h,by unfold Bz at q;exact q⟩
 |.mp _ _,_,_,q,h=>⟨by unfold To;exact Aj.mono hx _ (Ay.none _) (A6 _ rfl h),by unfold Bz at q;exact q⟩
 |.om k,_,_,q,h=>⟨by
   unfold To;unfold Aj at*
   obtain⟨b,h1,h2⟩:=h;refine⟨b,?_,h2⟩;rw[Mu.AB];·exact h1
   ·rintro rfl;exact hl b h1,by unfold Bz at q;exact q⟩
 |.ptr k o,_,_,q,h=>⟨by
   unfold To;unfold Aj at*
   obtain⟨b,h1,h2⟩:=h;refine⟨b,?_,h2⟩;rw[Mu.AB];·exact h1
   ·rintro rfl;exact hl b h1,by unfold Bz at q;exact q⟩
 |.el k BD i o,_,_,q,h=>⟨by
   unfold To;split;·unfold Aj;trivial
   ·rename_i hb;unfold Aj at*;obtain⟨b,n,c,h1,h2⟩:=h;refine⟨b,n,c,?_,h2⟩;rw[Mu.AB _ _ (E1 hb)];exact h1,by unfold Bz at q;exact q⟩
 |.own k BD lo n,_,_,q,h=>by
   unfold Bz at q;unfold To;cases hb:Ju k l with
   |false=>
    rw[hb]at q;refine⟨?_,q⟩;simp only;unfold Aj at*;obtain⟨x,h1,h2⟩:=h;refine⟨x,?_,h2⟩;rw[Mu.AB _ _ (E1 hb)];exact h1
   |true=>
    rw[hb]at q;obtain rfl:=Ao hb;cases hc:Ju BD sz&&Ju lo 0 with
    |false=>rw[hc]at q;exact⟨by simp only;unfold Aj;trivial,q⟩
    |true=>
     rw[hc]at q;simp only[AO]at hc;obtain rfl:=Ao hc.1;obtain rfl:=Ao hc.2;obtain⟨rfl,q⟩:=q;exact⟨Aj.mono (Ext.refl _ _) _ (Ay.none _) (Fw _ h),q⟩
 |.fn f cap,_,_,q,h=>by
   unfold Bz at q;unfold To;unfold Aj at*
   obtain⟨vs,h1,h2⟩:=h;have:=FY hx hl Fw cap q h2;exact⟨⟨vs,h1,this.1⟩,this.2⟩
 |.mv f cap,_,_,q,h=>by
   unfold Bz at q;unfold To;unfold Aj at*
   obtain⟨vs,h1,h2⟩:=h;have:=FY hx hl Fw cap q h2;exact⟨⟨vs,h1,this.1⟩,this.2⟩
 |.iface t x,_,_,q,h=>by
   unfold Bz at q;unfold To;unfold Aj at*
   obtain⟨vs,h1,h2⟩:=h;have:=fU hx hl Fw x q h2;exact⟨⟨vs,h1,this.1⟩,this.2⟩
 |.agg cs,_,_,q,h=>by
   unfold Bz at q;unfold To;unfold Aj at*
   obtain⟨vs,h1,h2⟩:=h;have:=FY hx hl Fw cs q h2;exact⟨⟨vs,h1,this.1⟩,this.2⟩
 |.tuple cs,_,_,q,h=>by
   unfold Bz at q;unfold To;unfold Aj at*
   obtain⟨vs,h1,h2⟩:=h;have:=FY hx hl Fw cs q h2;exact⟨⟨vs,h1,this.1⟩,this.2⟩
theorem FY(hx:Ext C C2 w w)(hl:∀b,mu l≠some (.CU b))(Fw:∀v,Aj C w (.own l sz 0 es.length) mu v→Aj C2 w (.sl sz es) Mu.none v):∀(xs:List AV){vs:List Value}{Q:Prop},Es l sz es.length xs Q→Aa C w xs mu vs→Aa C2 w (OU l sz es xs) (mu.set l none) vs∧Q
 |[],_,_,q,h=>⟨by unfold OU;unfold Aa at*;exact h,by unfold Es at q;exact q⟩
 |x::xs,_,_,q,h=>by
  unfold Es at q;unfold OU;unfold Aa at*
  obtain⟨v,BV,h1,h2,h3⟩:=h;have k:=fU hx hl Fw x q h2;have k':=FY hx hl Fw xs k.2 h3;exact⟨⟨v,BV,h1,k.1,k'.1⟩,k'.2⟩
end
theorem J0{fr:Nat→Prop}(hh:AX C w fr mu H)(hx:Ext C C2 w w){l:Nat}(hB:∀g b o,mu l=some g→g.As=some b→C2 b o){e:TypeId}{sz:Nat}{es:List AV}(hl:H[l]?=some (.arr e sz es))(hc:∀e∈es,closed e=true){u:Value}
  (hu:Aj C w (.own l sz 0 es.length) mu u):Aj C2 w (.sl sz es) Mu.none u:=by
 unfold Aj at hu⊢;obtain⟨x,hm,hle,MA,rfl⟩:=hu;obtain⟨hz,h2⟩:=hh.BJ l e sz es hl;rcases h2 with⟨h2,rfl⟩|⟨b,cap,cur,h3,⟨fz,h4,Nu⟩,h5,h6,h7,h8,h9⟩
 ·rw[hm]at h2;simp only[Bv.injEq,GO.arr.injEq]at h2;subst h2;exact .inl ⟨⟨_,rfl⟩,rfl⟩
 ·rw[hm]at h3;simp only[Bv.injEq,GO.arr.injEq]at h3;subst h3;obtain⟨f1,f2,_⟩:=hh.fresh l _ b hm rfl;refine .inr ⟨b,0,cap,by simp[BP],h5,h6,(DJ es 0).2 λi hi=>⟨hz _ (G2 hi),(Co _ _).2 λj hj=>?_⟩⟩
  have hei:es[i]?=some es[i]:=D5 hi;obtain⟨r,hr⟩:=GL es hz i _ hei;have N0:=(AI _).1 h8;have Eh:=hz _ (G2 hi);have JF:=BA es hz;have hmul:(i+1)*sz≤es.length*sz:=CX _ hi;rw[C1]at hmul;have UY:es.length*sz≤cap*sz:=CX _ h5;have IJ:cur.toList.length=cap*sz:=by simpa using h7
  have hk:i*sz+j<(flat es).length:=by omega
  have Hc:i*sz+j<(cur.toList.take (es.length*sz)).length:=by rw[N0.1];exact hk
  have EX:=N0.2 (i*sz+j) hk Hc
  have U3:(flat es)[i*sz+j]=es[i].cells[j]:=by
   have e1:((flat es).drop (i*sz))[j]?=(es[i].cells++r)[j]?:=by rw[hr]
   rw[List.getElem?_drop,D5 hk,List.getElem?_append_left hj,D5 hj]at e1;simpa using e1
  rw[U3]at EX
  have qG:closed es[i].cells[j]=true:=by
   have:=hc _ (G2 hi);generalize es[i]=q at this hj⊢;cases q with
   |agg cs=>
    unfold closed at this
    have key:∀(cs:List AV),Ap cs=true→∀j (hj:j<cs.length),closed cs[j]=true:=by
     intro cs;induction cs with
     |nil=>intro _ j hj;simp at hj
     |cons c cs ih=>
      intro h j hj;unfold Ap at h;simp only[AO]at h;cases j with
      |zero=>exact h.1
      |succ j=>exact ih h.2 j (by simpa using hj)
    exact key cs this j hj
   |_=>
    simp only[AV.cells,Gz,Hx]at hj;obtain rfl:j=0:=by omega
    exact this
  have AR:i*sz+j<cur.toList.length:=by omega
  have fF:(cur.toList.take (es.length*sz))[i*sz+j]=cur.toList[i*sz+j]:=by simp
  refine⟨cur.toList[i*sz+j],h9 _ (G2 AR),⟨hB _ _ _ hm rfl,?_⟩,?_⟩
  ·rw[show 0+i*sz+j=i*sz+j by omega,cell_of_row w b _ cur e _ h4]
   simp at AR⊢
  ·rw[fF]at EX;exact Aj.mono hx _ (Ay.refl _) (A6 _ qG EX)
mutual
theorem SK{l sz m:Nat}:∀(x:AV)(Q:Prop),Bz l sz m x Q→Bz l sz m x True∧Q
 |.any,_,q=>by unfold Bz at*;exact⟨trivial,q⟩
 |.int _ _,_,q=>by unfold Bz at*;exact⟨trivial,q⟩
 |.bool _,_,q=>by unfold Bz at*;exact⟨trivial,q⟩
 |.lit _,_,q=>by unfold Bz at*;exact⟨trivial,q⟩
 |.str _,_,q=>by unfold Bz at*;exact⟨trivial,q⟩
 |.sl _ _,_,q=>by unfold Bz at*;exact⟨trivial,q⟩
 |.at_ _,_,q=>by unfold Bz at*;exact⟨trivial,q⟩
 |.raw _,_,q=>by unfold Bz at*;exact⟨trivial,q⟩
 |.mp _ _,_,q=>by unfold Bz at*;exact⟨trivial,q⟩
 |.om _,_,q=>by unfold Bz at*;exact⟨trivial,q⟩
 |.ptr _ _,_,q=>by unfold Bz at*;exact⟨trivial,q⟩
 |.el _ _ _ _,_,q=>by unfold Bz at*;exact⟨trivial,q⟩
 |.own k s lo n,_,q=>by
  unfold Bz at*;split at q
  ·split at q;·exact⟨⟨q.1,trivial⟩,q.2⟩
   ·exact⟨trivial,q⟩
  ·exact⟨trivial,q⟩
 |.fn f cap,_,q=>by unfold Bz at*;exact IA cap _ q
 |.mv f cap,_,q=>by unfold Bz at*;exact IA cap _ q
 |.iface t x,_,q=>by unfold Bz at*;exact SK x _ q
 |.agg cs,_,q=>by unfold Bz at*;exact IA cs _ q
 |.tuple cs,_,q=>by unfold Bz at*;exact IA cs _ q
theorem IA{l sz m:Nat}:∀(xs:List AV)(Q:Prop),Es l sz m xs Q→Es l sz m xs True∧Q
 |[],_,q=>by unfold Es at*;exact⟨trivial,q⟩
 |x::xs,_,q=>by
  unfold Es at*;obtain⟨q1,q2⟩:=SK x _ q;obtain⟨q3,q4⟩:=IA xs _ q2;refine⟨?_,q4⟩;exact Ld x q1 (λ_=>q3)
theorem Ld{l sz m:Nat}:∀(x:AV){Q Q':Prop},Bz l sz m x Q→(Q→Q')→Bz l sz m x Q'
 |.any,_,_,q,h=>by unfold Bz at*;exact h q
 |.int _ _,_,_,q,h=>by unfold Bz at*;exact h q
 |.bool _,_,_,q,h=>by unfold Bz at*;exact h q
 |.lit _,_,_,q,h=>by unfold Bz at*;exact h q
 |.str _,_,_,q,h=>by unfold Bz at*;exact h q
 |.sl _ _,_,_,q,h=>by unfold Bz at*;exact h q
 |.at_ _,_,_,q,h=>by unfold Bz at*;exact h q
 |.raw _,_,_,q,h=>by unfold Bz at*;exact h q
 |.mp _ _,_,_,q,h=>by unfold Bz at*;exact h q
 |.om _,_,_,q,h=>by unfold Bz at*;exact h q
 |.ptr _ _,_,_,q,h=>by unfold Bz at*;exact h q
 |.el _ _ _ _,_,_,q,h=>by unfold Bz at*;exact h q
 |.own k s lo n,_,_,q,h=>by
  unfold Bz at*;split at q
  ·split at q;·simp_all
   ·simp_all
  ·simp_all
 |.fn f cap,_,_,q,h=>by unfold Bz at*;exact He cap q h
 |.mv f cap,_,_,q,h=>by unfold Bz at*;exact He cap q h
 |.iface t x,_,_,q,h=>by unfold Bz at*;exact Ld x q h
 |.agg cs,_,_,q,h=>by unfold Bz at*;exact He cs q h
 |.tuple cs,_,_,q,h=>by unfold Bz at*;exact He cs q h
theorem He{l sz m:Nat}:∀(xs:List AV){Q Q':Prop},Es l sz m xs Q→(Q→Q')→Es l sz m xs Q'
 |[],_,_,q,h=>by unfold Es at*;exact h q
 |x::xs,_,_,q,h=>by
  unfold Es at*;exact Ld x q λq=>He xs q h
end
theorem Lf{l sz:Nat}{es:List AV}:∀(as:List AV){K:List AV→Prop},SL l sz es as K→Es l sz es.length as True∧K (OU l sz es as)
 |[],K,h=>⟨by unfold Es;trivial,by unfold SL at h;unfold OU;exact h⟩
 |a::as,K,h=>by
  unfold SL at h;obtain⟨h1,h2⟩:=SK a _ h;rw[AV.AK]at h2;obtain⟨h3,h4⟩:=Lf as h2;unfold Es OU;exact⟨Ld a h1 λ_=>h3,h4⟩
def Jc(l sz:Nat)(es:List AV):HO→HO
 |.cells cs=>.cells (OU l sz es cs)
 |.ghost cs vs ms=>.ghost (OU l sz es cs) vs ms
 |o=>o
theorem Fz{l sz:Nat}{es:List AV}:∀(H:List HO){K:List HO→Prop},HA l sz es H K→(∀(i:Nat) cs,H[i]?=some (.cells cs)→Es l sz es.length cs True)∧
   (∀(i:Nat) cs vs ms,H[i]?=some (.ghost cs vs ms)→Es l sz es.length cs True)∧K (H.map (Jc l sz es))
 |[],K,h=>⟨λi cs hi=>by simp at hi,λi cs vs ms hi=>by simp at hi,h⟩
 |o::r,K,h=>by
  cases o with
  |cells E9=>
   unfold HA at h;obtain⟨h1,h2⟩:=Lf E9 h;obtain⟨h3,h4,h5⟩:=Fz r h2;refine⟨λi cs hi=>?_,λi cs vs ms hi=>?_,h5⟩
   ·cases i with
    |zero=>simp at hi;subst hi;exact h1
    |succ i=>exact h3 i cs (by simpa using hi)
   ·cases i with
    |zero=>simp at hi
    |succ i=>exact h4 i cs vs ms (by simpa using hi)
  |ghost E9 lH ms0=>
   unfold HA at h;obtain⟨h1,h2⟩:=Lf E9 h;obtain⟨h3,h4,h5⟩:=Fz r h2;refine⟨λi cs hi=>?_,λi cs vs ms hi=>?_,h5⟩
   ·cases i with
    |zero=>simp at hi
    |succ i=>exact h3 i cs (by simpa using hi)
   ·cases i with
    |zero=>simp at hi;obtain⟨rfl,_,_⟩:=hi;exact h1
    |succ i=>exact h4 i cs vs ms (by simpa using hi)
  |arr e s xs=>
   unfold HA at h;obtain⟨h3,h4,h5⟩:=Fz r h;refine⟨λi cs hi=>?_,λi cs vs ms hi=>?_,h5⟩
   ·cases i with
    |zero=>simp at hi
    |succ i=>exact h3 i cs (by simpa using hi)
   ·cases i with
    |zero=>simp at hi
    |succ i=>exact h4 i cs vs ms (by simpa using hi)
  |dead=>
   unfold HA at h;obtain⟨h3,h4,h5⟩:=Fz r h;refine⟨λi cs hi=>?_,λi cs vs ms hi=>?_,h5⟩
   ·cases i with
    |zero=>simp at hi
    |succ i=>exact h3 i cs (by simpa using hi)
   ·cases i with
    |zero=>simp at hi
    |succ i=>exact h4 i cs vs ms (by simpa using hi)
  |map _ _=>
   unfold HA at h;obtain⟨h3,h4,h5⟩:=Fz r h;refine⟨λi cs hi=>?_,λi cs vs ms hi=>?_,h5⟩
   ·cases i with
    |zero=>simp at hi
    |succ i=>exact h3 i cs (by simpa using hi)
   ·cases i with
    |zero=>simp at hi
    |succ i=>exact h4 i cs vs ms (by simpa using hi)
  |inv I=>
   unfold HA at h;obtain⟨h3,h4,h5⟩:=Fz r h;refine⟨λi cs hi=>?_,λi cs vs ms hi=>?_,h5⟩
   ·cases i with
    |zero=>simp at hi
    |succ i=>exact h3 i cs (by simpa using hi)
   ·cases i with
    |zero=>simp at hi
    |succ i=>exact h4 i cs vs ms (by simpa using hi)
theorem Az.freeze(h:Az G C mu E H a w){K:KK}(hk:kM l E H K):∃E' H' C' mu',K E' H'∧Az G C' mu' E' H' a w:=by
 unfold kM at hk;replace hk:=(Ab _ _ _).1 hk;obtain⟨ob,Ba,hk⟩:=hk
 cases ob<;>first|exact hk.elim|skip
 rename_i e sz es;obtain⟨IJ,hk⟩:=hk;obtain⟨hE,hk⟩:=Lf E hk;obtain⟨kE,hH2,hk⟩:=Fz H hk;rw[AD]at hk;let C2:Ag:=λb o=>C b o∨∃g,mu l=some g∧g.As=some b
 have hx:Ext C C2 w w:=⟨λ_ _ h=>.inl h,λ_ _ _=>rfl⟩
 have hl:∀b,mu l≠some (.CU b):=λb hb=>by
  obtain⟨_,k⟩:=h.heap.BJ l e sz es Ba;rcases k with⟨k,_⟩|⟨_,_,_,k,_⟩;·rw[hb]at k;cases k
  ·rw[hb]at k;cases k
 have Fw:∀v,Aj C w (.own l sz 0 es.length) mu v→Aj C2 w (.sl sz es) Mu.none v:=λv hv=>
  J0 h.heap hx (λg b o hm hb=>.inr ⟨g,hm,hb⟩) Ba IJ hv
 have hbm:∀i b,mu i=some (.CU b)→(mu.set l none) i=some (.CU b):=λi b hi=>by
  rw[Mu.AB];·exact hi
  ·rintro rfl;exact hl b hi
 have lO:∀{i g},(mu.set l none) i=some g→i≠l∧mu i=some g:=λ{i g} hi=>by
  have Bu:i≠l:=by rintro rfl;rw[Mu.Au]at hi;cases hi
  rw[Mu.AB _ _ Bu]at hi;exact⟨Bu,hi⟩
 have hnB:∀{i g b},i≠l→mu i=some g→g.As=some b→∀o,¬C2 b o:=λ{i g b} Bu hi hg o hc=>by
  rcases hc with hc|⟨g',h1,h2⟩;·exact(h.heap.fresh i g b hi hg).2.2 o hc
  ·exact Bu (h.heap.sep l g' b i g h1 h2 hi hg)
 have D6:∀{i:Nat}{ob:HO},((H.map (Jc l sz es)).set l .dead)[i]?=some ob→(i=l∧ob=.dead)∨(i≠l∧∃o,H[i]?=some o∧ob=Jc l sz es o):=λ{i ob} hi=>by
  by_cases e:i=l
  ·subst e;have AR:i<H.length:=(CW.1 Ba).1;rw[DC (by simpa using AR)]at hi
   exact .inl ⟨rfl,by simpa using hi.symm⟩
  ·rw[AZ (λe'=>e e'.symm),Cu]at hi
   cases ho:H[i]? with
   |none=>simp[ho]at hi
   |some o=>exact .inr ⟨e,o,rfl,by simpa[ho]using hi.symm⟩
 have hmd:∀{D:Nat×Obj},Ck C w G.fresh mu D→Ck C2 w G.fresh (mu.set l none) D:=λ{D} k=>
  ⟨k.at_,λo hc=>hc.elim (k.Gy o) (λ⟨g,h1,h2⟩=>k.own l g h1 h2),λi g hi=>k.own i g (lO hi).2,k.fr⟩
 refine⟨_,_,C2,mu.set l none,hk,λb o hc=>.inl (h.c0 b o hc),λb o hc=>?_,λb o hc=>?_,⟨λi g hi=>?_,λi g b hi hg=>?_,λi g b i' g' hi hg EY QT=>?_,λi hi=>?_,λi cs hi=>?_,λi e' s' Cf hi=>?_,λi ks' BV hi=>?_⟩,(FY hx hl Fw E hE h.env).1,?_,h.Aq,by simpa using h.CA.1,λi b hn hi=>hbm i b (h.CA.2 i b hn hi)⟩
 ·rcases hc with hc|⟨g,h1,h2⟩;·exact h.c1 b o hc
  ·exact .inr (h.heap.fresh l g b h1 h2).1
 ·rcases hc with hc|⟨g,h1,h2⟩;·exact h.lt b o hc
  ·exact(h.heap.fresh l g b h1 h2).2.1
 ·simpa using h.heap.HH i g (lO hi).2
 ·obtain⟨k1,k2,k3⟩:=h.heap.fresh i g b (lO hi).2 hg;exact⟨k1,k2,hnB (lO hi).1 (lO hi).2 hg⟩
 ·exact h.heap.sep i g b i' g' (lO hi).2 hg (lO EY).2 QT
 ·rcases D6 hi with⟨rfl,_⟩|⟨Bu,o,ho,he⟩;·exact Mu.Au _ _ _
  ·rw[Mu.AB _ _ Bu];cases o with
   |dead=>exact h.heap.dead i ho
   |_=>simp[Jc]at he
 ·rcases D6 hi with⟨rfl,he⟩|⟨Bu,o,ho,he⟩;·cases he
  ·cases o with
   |cells E9=>
    simp only[Jc,HO.cells.injEq]at he;subst he;obtain⟨b,cur,e',k1,k2,k3,k4⟩:=h.heap.Cm i E9 ho;exact⟨b,cur,e',hbm i b k1,k2,(FY hx hl Fw E9 (kE i E9 ho) k3).1,k4⟩
   |_=>simp[Jc]at he
 ·rcases D6 hi with⟨rfl,he⟩|⟨Bu,o,ho,he⟩;·cases he
  ·cases o with
   |arr e0 s0 lU=>
    simp only[Jc,HO.arr.injEq]at he;obtain⟨rfl,rfl,rfl⟩:=he;obtain⟨k0,k⟩:=h.heap.BJ i _ _ _ ho;refine⟨k0,?_⟩;rw[Mu.AB _ _ Bu];exact k.imp id λ⟨b,cap,cur,k1,k2,k3,k4,k5,k6,k7⟩=>⟨b,cap,cur,k1,k2,k3,k4,k5,Aa.mono hx _ (DV hbm) k6,k7⟩
   |_=>simp[Jc]at he
 ·rcases D6 hi with⟨rfl,he⟩|⟨Bu,o,ho,he⟩;·cases he
  ·cases o with
   |map ks0 lH=>
    simp only[Jc,HO.map.injEq]at he;obtain⟨rfl,rfl⟩:=he;obtain⟨b,es,cl,k1,k2,k3⟩:=h.heap.maps i _ _ ho;exact⟨b,es,cl,hbm i b k1,k2,k3⟩
   |_=>simp[Jc]at he
 ·obtain⟨ms,d1,d2⟩:=h.defers;refine⟨ms,d1,⟨λi cs vs gm hi=>?_,λi I hi=>?_,λd hd=>hmd (d2.marks d hd),d2.nd,λi i' cs vs gm cs' BV gm' hi EY Bu=>?_⟩⟩
  ·rcases D6 hi with⟨rfl,he⟩|⟨Bu,o,ho,he⟩;·cases he
   ·cases o with
    |ghost E9 lH ms0=>
     simp only[Jc,HO.ghost.injEq]at he;obtain⟨rfl,rfl,rfl⟩:=he;obtain⟨k1,k2,k3⟩:=d2.Bc i _ _ _ ho;exact⟨(FY hx hl Fw E9 (hH2 i _ _ _ ho) k1).1,k2,λD hD=>⟨hmd (k3 D hD).1,(k3 D hD).2⟩⟩
    |_=>simp[Jc]at he
  ·rcases D6 hi with⟨rfl,he⟩|⟨Bu,o,ho,he⟩;·cases he
   ·cases o with
    |inv I0=>
     simp only[Jc,HO.inv.injEq]at he;subst he;obtain⟨h0,Sw,Sr,f,k2,k3,k4⟩:=d2.Gx i _ ho;refine⟨h0,Sw,Sr,⟨f.fr,f.base,λb o hc=>?_,λi g b hi hg=>f.ob i g b (lO hi).2 hg,f.sub,f.lt,λb hb i g hi=>f.own b hb i g (lO hi).2,λb o hb hc=>?_⟩,k2,k3,λi' cs vs gm EY=>?_⟩
     ·rcases hc with hc|⟨g,h1,h2⟩;·exact f.cb b o hc
      ·exact .inr (f.ob l g b h1 h2)
     ·rcases hc with hc|⟨g,h1,h2⟩;·exact f.Gy b o hb hc
      ·exact f.own b (f.sub b hb) l g h1 h2
     ·rcases D6 EY with⟨rfl,he⟩|⟨Bu,o,yH,he⟩;·cases he
      ·cases o with
       |ghost E9 lH ms0=>
        simp only[Jc,HO.ghost.injEq]at he;obtain⟨rfl,rfl,rfl⟩:=he
        exact k4 i' _ _ _ yH
       |_=>simp[Jc]at he
    |_=>simp[Jc]at he
  ·rcases D6 hi with⟨rfl,he⟩|⟨_,o,ho,he⟩;·cases he
   ·rcases D6 EY with⟨rfl,qB⟩|⟨_,o',yH,qB⟩;·cases qB
    ·cases o with
     |ghost E9 lH ms0=>
      cases o' with
      |ghost cs1 vs1 oO=>
       simp only[Jc,HO.ghost.injEq]at he qB;obtain⟨rfl,rfl,rfl⟩:=he;obtain⟨rfl,rfl,rfl⟩:=qB;exact d2.sep i i' _ _ _ _ _ _ ho yH Bu
      |_=>simp[Jc]at qB
     |_=>simp[Jc]at he
def Kq:List AV→List AV→List HO→KK→Prop
 |[],E,H,K=>K E H
 |v::r,E,H,K=>match v with
  |.own l _ _ _=>kM l E H λE H=>Kq r E H K
  |_=>Kq r E H K
def U6(v:AV)(E:List AV)(H:List HO)(K:KK):Prop:=
 match v with
 |.own l _ _ _=>kM l E H K
 |.agg cs=>Kq cs E H K
 |_=>K E H
def Lc:List (Nat×Operand)→List AV→List HO→KK→Prop
 |[],E,H,K=>K E H
 |(_,x)::r,E,H,K=>Dc E x λv=>U6 v E H λE H=>Lc r E H K
theorem SM:∀(cs:List AV){C:Ag}{mu:Mu}{E:List AV}{H:List HO}{K:KK},Az G C mu E H a w→Kq cs E H K→∃E' H' C' mu',K E' H'∧Az G C' mu' E' H' a w
 |[],C,mu,E,H,K,h,hk=>⟨E,H,C,mu,hk,h⟩
 |v::r,C,mu,E,H,K,h,hk=>by
  unfold Kq at hk;split at hk
  ·obtain⟨E',H',C',mu',hk,h⟩:=h.freeze hk;exact SM r h hk
  ·exact SM r h hk
theorem fV{v:AV}{K:KK}(h:Az G C mu E H a w)(hk:U6 v E H K):∃E' H' C' mu',K E' H'∧Az G C' mu' E' H' a w:=by
 unfold U6 at hk;split at hk;·exact h.freeze hk
 ·exact SM _ h hk
 ·exact⟨E,H,C,mu,hk,h⟩
theorem PT:∀(ps:List (Nat×Operand)) {C:Ag} {mu:Mu} {E:List AV} {H:List HO} {K:KK},Az G C mu E H a w→Lc ps E H K→∃E' H' C' mu',K E' H'∧Az G C' mu' E' H' a w
 |[],C,mu,E,H,K,h,hk=>⟨E,H,C,mu,hk,h⟩
 |(i,x)::r,C,mu,E,H,K,h,hk=>by
  unfold Lc at hk;rw[Af]at hk;obtain⟨E',H',C',mu',hk,h⟩:=fV h hk;exact PT r h hk
end
end Go.Av