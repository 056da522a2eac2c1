/- AV: contracts of the library's functions. -/
import Derived.Shelf.Strings.FuncGrows
import Derived.Shelf.Strings.OnBuilder
import Derived.Shelf.Strconv.Itoa3
import Derived.Test.YtdadkhcdoaeabaaGreatDoorKf2
import Derived.Calls
import Derived.Shelf.SlSortCmp.NoneTotal
set_option linter.unusedVariables false
set_option maxRecDepth 100000
set_option linter.unusedSectionVars false
set_option linter.unusedSimpArgs false
open Nat renaming le_trans → Ak, le_refl → Cb, lt_of_lt_of_le → D0, eq_of_beq_eq_true → Ef, le_of_eq → Fl, mul_le_mul_right → II, eq_zero_or_pos → Jg, le_of_not_lt → KT, div_eq_of_lt → Li, le_succ → MP, beq → M0
open List renaming getElem?_set_ne → Bv, getElem?_set_self → C0, getD_eq_getElem?_getD → C2, getElem?_eq_none → C4, getElem?_eq_some_iff → Eu, getElem?_eq_getElem → E0, mem_singleton → E8, ext_getElem? → F0, set_eq_of_length_le → Gt, flatten_cons → GW, getElem?_take_of_lt → G1, map_cons → G2, mem_cons → Hs, mem_append_right → HQ, mem_append_left → Ix, getElem?_map → JV, all_eq_true → K0, flatMap_nil → K2
open Bool renaming and_eq_true → C1, false_eq_true → E4, or_eq_true → H0, not_eq_true' → Kf
open Array renaming getElem?_eq_getElem → C3, getElem?_toList → DG, getElem?_eq_none → Ff, mem_toList_iff → Fy, getElem?_eq_some_iff → FB, getElem?_append_left → FX, setIfInBounds_comm → GK, getElem?_extract → Hx, replicate → H4, ext_getElem? → Jh, getElem_mem → Kr
open Option renaming some → DE, map_some → MJ
open Go.Region renaming ready → Eg, binds → KA, wanted → MQ
open Int renaming fdiv_eq_ediv_of_nonneg → FY
open Go.IntKind renaming bits → HM, signed → I0, min → LA, max → Mx
open Go.Sem renaming run → It, runT → Ll
open Go.Builtin renaming len_ → KG
open Go.Oper renaming apart_spec → MB
namespace Go.Av
open Go.RowKit (Below)
open Go.Proofs Go.Shelf
theorem qB{C:Ae}{w W:World}(AP:∀b o,C b o->b<w.heap.size)(hb:Below w.heap.size w W):Ext C C w W:=
 Ext.of_block (λ_ _ h=>h) λb o hc=>hb.block b (AP b o hc)
theorem I5{P:Program}{g:Nat}{p:Nat->Bool}{cap:List AV}(h:∀x:Nat,x<=1114111->AO P g (.int .i32 x::cap) (λr=>r=.bool (p x)))
  {C:Ae} {w:World} {vs:List Value} (AP:cM C w) (hr:Ab C w cap Mu.none vs):PredGrows P g vs.toArray p w:=by
 intro W x hx hb;have Mw:Ext C C w W:=qB AP.lt hb;have HR:=Ab.mono Mw cap (AI.refl Mu.none) hr
 have BW:Ab C W (.int .i32 x::cap) Mu.none (encR x::vs):=by
  unfold Ab;refine⟨encR x,vs,rfl,?_,HR⟩;unfold Ah;refine⟨rfl,?_⟩;unfold DJ LA Mx;simp[I0,HM];omega
 have hc:=(h x hx).out C W (encR x::vs) (AP.mono Mw λb o hc=>D0 (AP.lt b o hc) hb.size) BW
 have e:(encR x::vs).toArray=#[encR x]++vs.toArray:=by simp
 rw[e]at hc;refine hc.mono λe w' ⟨r,v,h1,h2,h3,h4⟩=>?_
 subst h2;unfold Ah at h4;exact⟨by rw[h1,h4],h3⟩
theorem Wb{C:Ae}{w:World}:∀{l:List (List UInt8)} {b o:Nat},Rows C w 1 (l.map AV.str) b o->
  ∀(j:Nat) x,(l.map λs=>(⟨s.toArray⟩:ByteArray))[j]?=some x->C b (o+j)/\w.cell? ⟨b,o+j,none⟩=some (.string x)
 |[],_,_,_,j,x,hj=>by simp at hj
 |s::l,b,o,h,j,x,hj=>by
  simp only[G2]at h hj;unfold Rows at h;obtain⟨_,⟨v,_,hc,hv⟩,hr⟩:=h;cases j with
  |zero=>
   unfold Ah at hv;obtain⟨rfl,_⟩:=hv;simp at hj;subst hj
   exact hc
  |succ j=>
   have:=Wb hr j x (by simpa using hj)
   rw[show o+(j+1)=o+1+j by omega];exact this
theorem uV{P:Program}{ρ:Ren}(L:Lays.n156 P ρ)(X:Builder.Extra P ρ){f:Nat}(hf:ρ.f 156=f)(hg:Cq P f=true)(l:List (List UInt8))(sep:List UInt8)
  (hN:l.length<=140737488355328) (hlen:(Lib.join l sep).length<=140737488355328):
  AO P f [.sl 1 (l.map AV.str),.str sep] (λr=>r=.str (Lib.join l sep)):=by
 refine⟨hg,λC w vs AP hr=>?_⟩
 unfold Ab at hr;obtain⟨v1,_,rfl,h1,hr⟩:=hr;unfold Ab at hr;obtain⟨v2,_,rfl,h2,hr⟩:=hr;unfold Ab at hr;subst hr;unfold Ah at h1 h2;obtain⟨rfl,_⟩:=h2;subst hf;have e0:(l.map λs=>(⟨s.toArray⟩:ByteArray)).map (·.data.toList)=l:=by rw[List.map_map];simp[Function.comp_def]
 have ZbH:∀a c,l=[]->Calls P (ρ.f 156) [Value.slice a 0 c,Value.string ⟨sep.toArray⟩].toArray w λe w'=>∃r v,e=.returned v/\r=AV.str (Lib.join l sep)/\Below w.heap.size w w'/\Ah (Ld C w.heap.size w'.heap.size) w' r Mu.none v:=λa c hl=>by
  refine(Any.strings_Join_none L X a c ⟨sep.toArray⟩ w).mono λe w' ⟨h3,h4⟩=>?_
  subst h4;subst hl
  exact⟨_,_,h3,rfl,Below.refl _ _,by unfold Ah;exact⟨rfl,by simp[Lib.join]⟩⟩
 rcases h1 with⟨⟨a,rfl⟩,he⟩|⟨b,o,cap,rfl,HR,_,vH⟩;·exact ZbH a 0 (by simpa using he)
 ·by_cases hl:l=[];·subst hl;exact ZbH _ _ rfl
  ·have hc:=Wb vH
   have hb:b<w.heap.size:=by
    cases l with
    |nil=>exact absurd rfl hl
    |cons s l=>exact AP.lt b _ (hc 0 _ rfl).1
   have hj:=Any.strings_Join L X b o cap (l.map λs=>(⟨s.toArray⟩:ByteArray)) ⟨sep.toArray⟩ w (λj x h=>(hc j x h).2) hb (by simpa using hN) (by simpa using HR) (by rw[e0];exact hlen)
   rw[e0]at hj;have e1:(l.map λs=>(⟨s.toArray⟩:ByteArray)).length=(l.map AV.str).length:=by simp
   rw[e1]at hj;refine hj.mono λe w' ⟨h3,h4⟩=>?_
   exact⟨_,_,h3,rfl,h4,by unfold Ah;exact⟨rfl,by omega⟩⟩
section
variable {G:Cx}{C:Ae}{w w':World}{mu:Mu}{H:List HO}{E:List AV}{a:Act}{T:List TY}{P:Program}{ops:Array Oper}{n0 i j:Nat}{o oi oj:Oper}{we pu:List Nat}{K:KK}{X:XX}
mutual
theorem No(l:Nat):∀x:AV,closed x=true->ED l x=false
 |.own _ _ _ _,h|.el _ _ _ _,h|.ptr _ _,h|.om _,h=>by unfold closed at h;cases h
 |.fn f cap,h|.mv f cap,h=>by unfold closed at h;unfold ED;exact K6 l cap h
 |.iface t x,h=>by unfold closed at h;unfold ED;exact No l x h
 |.agg cs,h|.tuple cs,h=>by unfold closed at h;unfold ED;exact K6 l cs h
 |.any,_|.int _ _,_|.bool _,_|.lit _,_|.str _,_|.sl _ _,_|.at_ _,_|.raw _,_|.mp _ _,_=>by unfold ED;rfl
theorem K6(l:Nat):∀xs:List AV,An xs=true->K7 l xs=false
 |[],_=>by unfold K7;rfl
 |x::xs,h=>by
  unfold An at h;simp only[C1]at h;unfold K7;rw[No l x h.1,K6 l xs h.2];rfl
end
def aA:List HO->Nat->Option HO
 |[],_=>none
 |x::_,0=>some x
 |_::r,n+1=>aA r n
theorem L5:∀(H:List HO)(l:Nat),aA H l=H[l]?
 |[],l=>by simp[aA]
 |x::r,0=>rfl
 |x::r,n+1=>by unfold aA;rw[L5 r n];rfl
def S9(H:List HO):AV->Bool
 |.ptr l _=>match aA H l with|some (.cells cs)=>An cs|_=>false
 |v=>closed v
def V2(E:List AV)(H:List HO):List Operand->Bool
 |[]=>true
 |y::r=>S9 H (AM E y)&&V2 E H r
theorem LH:∀{l:List Operand}{y:Operand},V2 E H l=true->y∈l->S9 H (AM E y)=true
 |[],y,_,h=>by cases h
 |x::l,y,hs,h=>by
  unfold V2 at hs;simp only[C1]at hs;rcases Hs.1 h with rfl|h;·exact hs.1
  ·exact LH hs.2 h
theorem YV:∀{l:List Operand},(∀y∈l,S9 H (AM E y)=true)->V2 E H l=true
 |[],_=>rfl
 |x::l,h=>by
  unfold V2;rw[h x (by simp),YV λy hy=>h y (by simp[hy])];rfl
theorem S8{x:AV}(h:S9 H x=true):closed x=true\/∃l o cs,x=.ptr l o/\H[l]?=some (.cells cs)/\An cs=true:=by
 cases x with
 |ptr l o=>
  have h:(match aA H l with|some (.cells cs)=>An cs|_=>false)=true:=h
  rw[L5]at h;split at h;·rename_i cs hc;exact .inr ⟨l,o,cs,rfl,hc,h⟩
  ·cases h
 |_=>exact .inl h
def Ys(H H1:List HO):Prop:=∀(l:Nat) cs,H[l]?=some (.cells cs)->An cs=true->H1[l]?=some (.cells cs)
theorem jM{H1:List HO}(hc:Ys H H1){x:AV}(h:S9 H x=true):S9 H1 x=true/\VM x H H1:=by
 rcases S8 h with k|⟨l,o,cs,rfl,k1,k2⟩
 ·refine⟨?_,λl ob hr _=>by rw[No l x k]at hr;cases hr⟩
  cases x<;>first|exact k|(unfold closed at k;cases k)
 ·have e:S9 H1 (.ptr l o)=(match aA H1 l with|some (.cells cs)=>An cs|_=>false):=rfl
  refine⟨by rw[e,L5,hc l cs k1 k2];exact k2,λl' ob hr hl=>?_⟩
  unfold ED at hr;have:l=l':=Ef hr;subst this;rw[k1]at hl;injection hl with hl
  subst hl;exact hc l cs k1 k2
def Xt(H:List HO)(s:Nat):Bool:=match aA H s with|some .dead=>true|some (.ghost [] [] [])=>true|_=>false
theorem Zr{s:Nat}(h:Xt H s=true):H[s]?=some .dead\/H[s]?=some (.ghost [] [] []):=by
 unfold Xt at h;rw[L5]at h;split at h;·exact .inl (by assumption)
 ·exact .inr (by assumption)
 ·cases h
def clP:AV->Bool
 |.ptr _ _=>true
 |x=>closed x
theorem Zbi{f:AV->AV}{H1:List HO}(hf:U5 H f H1){v:AV}(h:clP v=true):f v=v:=by
 cases v<;>first|exact hf.ptr _ _|exact hf.cl _ h
def iI(o:Oper)(E:List AV):Bool:=match o.dst with|some d=>clP (E.getD d .any)|none=>false
def apG(o:Oper):Bool:=match o.op with
 |.call c=>(match c.callee with|.builtin .append=>M0 c.args.size 2&&M0 c.argTypes.size 2|_=>false)
 |_=>false
def tM:List Oper->Nat->Option Oper
 |[],_=>none
 |x::_,0=>some x
 |_::r,n+1=>tM r n
theorem Xw:∀(l:List Oper)(n:Nat),tM l n=l[n]?
 |[],n=>by simp[tM]
 |x::r,0=>rfl
 |x::r,n+1=>by unfold tM;rw[Xw r n];rfl
def aO(ops:List Oper)(E:List AV)(g:Option (Nat×Bool)):Bool:=match g with
 |none=>true
 |some (j,_)=>match tM ops j with
  |some oj=>(match oj.dst with|some d=>closed (E.getD d .any)|none=>true)
  |none=>true
theorem aN{E':List AV}(h:Ek ops.toList E E' oi):aO ops.toList E' oi.guard=aO ops.toList E oi.guard:=by
 unfold aO;cases hg:oi.guard with
 |none=>rfl
 |some x=>
  obtain⟨j,want⟩:=x;simp only;rw[Xw];cases ho:ops.toList[j]? with
  |none=>rfl
  |some oj=>
   simp only;cases hd:oj.dst with
   |none=>rfl
   |some d=>
    have:=h.2 j want oj d hg ho hd;simp only[C2,this]
theorem pO{E':List AV}(h:Ek ops.toList E E' oi){Ky Kn Vf U3:Prop}(hy:Ky->Vf)(hn:Kn->U3)(hk:Vb ops.toList E' oi.guard Ky Kn):Vb ops.toList E oi.guard Vf U3:=by
 cases hg:oi.guard with
 |none=>rw[hg]at hk;exact hy hk
 |some x=>
  obtain⟨j,want⟩:=x;rw[hg]at hk;unfold Vb at hk⊢;simp only at hk⊢;replace hk:=AL.1 hk;obtain⟨oj,ho,hk⟩:=hk
  refine AL.2 ⟨oj,ho,?_⟩;cases hd:oj.dst with
  |none=>rw[hd]at hk;exact hk.elim
  |some d=>
   rw[hd]at hk;simp only at hk⊢;replace hk:=AL.1 hk;obtain⟨v,hv,hk⟩:=hk
   refine AL.2 ⟨v,by rw[<-h.2 j want oj d hg ho hd];exact hv,?_⟩
   split at hk
   ·rename_i b;cases b<;>cases want<;>simp only at hk⊢<;>first|exact hy hk|exact hn hk
   ·exact hn hk
   ·exact hk.elim
def Sb(P:Program)(T:List TY)(ops:List Oper)(n0 i:Nat)(o:Oper)(E:List AV)(H:List HO)(K:KK):Prop:=
 (V2 E H o.op.operands.toList&&Xt H (n0+i)&&aO ops E o.guard)=true/\FA P T ops n0 i o E H λE' H'=>(H'=H/\iI o E'=true)/\K E' H'
theorem Wp{K K':KK}(h:Sb P T ops.toList n0 i oi E H K)(hk:∀E' H',K E' H'->K' E' H'):Sb P T ops.toList n0 i oi E H K':=
 ⟨h.1,BA h.2 λE' H' k=>⟨k.1,hk _ _ k.2⟩⟩
theorem wZ{s:Nat}{x:HO}(h1:H.set s x=H)(h2:H[s]?=some .dead):x=.dead:=by
 have:(H.set s x)[s]?=H[s]?:=by rw[h1]
 rw[C0 (Eu.1 h2).1,h2]at this;injection this
theorem Sy{Ki:KK}(h:Sb P T ops.toList n0 i oi E H Ki):∃v,Ki (A6 E oi.dst v) H/\iI oi (A6 E oi.dst v)=true/\
  ∀E' H',Ek ops.toList E E' oi->Ys H H'->H'[n0+i]?=H[n0+i]?->(∀y∈oi.op.operands,AM E' y=AM E y)->∀K':KK,iI oi (A6 E' oi.dst v)=true->K' (A6 E' oi.dst v) H'->Sb P T ops.toList n0 i oi E' H' K':=by
 obtain⟨h1,h2⟩:=h;simp only[C1]at h1;obtain⟨v,ob,hd,⟨⟨hH,hv⟩,hk⟩,ht⟩:=DD h2
 have Bh:∀H':List HO,H'[n0+i]?=H[n0+i]?->BP H' (n0+i) ob=H':=λH' he=>by
  cases ob with
  |none=>rfl
  |some x=>
   have hx:=wZ hH (hd x rfl);subst hx;have:H'[n0+i]?=some .dead:=by rw[he];exact hd _ rfl
   obtain⟨hl,hg⟩:=Eu.1 this
   exact F0 λk=>by
    by_cases hkk:n0+i=k;·subst hkk;simp only[BP];rw[C0 hl,this]
    ·simp only[BP];rw[Bv hkk]
 rw[Bh H rfl]at hk;refine⟨v,hk,hv,λE' H' ha hc hp pC K' hv' k'=>⟨?_,?_⟩⟩
 ·simp only[C1];refine⟨⟨YV λy hy=>?_,?_⟩,by rw[aN ha];exact h1.2⟩
  ·have hy':y∈oi.op.operands:=by simpa using hy
   rw[pC y hy'];exact(jM hc (LH h1.1.1 hy)).1
  ·unfold Xt;rw[L5,hp,<-L5];exact h1.1.2
 ·refine ht E' H' ha (λy hy=>(jM hc (LH h1.1.1 (by simpa using hy))).2) hp _ ?_
  rw[Bh H' hp];exact⟨⟨rfl,hv'⟩,k'⟩
theorem UM{v:AV}{E1:List AV}(hl:E1.length=E.length)(h:iI oi (A6 E oi.dst v)=true)(hc:∀d,oi.dst=some d->¬d<E.length->True):iI oi (A6 E1 oi.dst v)=true:=by
 unfold iI at h⊢;cases hi:oi.dst with
 |none=>rw[hi]at h;exact h
 |some d=>
  rw[hi]at h;simp only[A6,C2]at h ⊢;by_cases SE:d<E.length
  ·rw[C0 SE]at h;have Qt:d<E1.length:=Nat.lt_of_lt_of_eq SE hl.symm;rw[C0 Qt];exact h
  ·have Qt:(E1.set d v).length<=d:=by rw[List.length_set,hl];exact KT SE
   rw[C4 Qt];rfl
theorem SY(E:List AV)(d:Option Tmp)(v:AV):(A6 E d v).length=E.length:=by cases d<;>simp[A6]
theorem tG(hT:BG P T)(hs:Sat P E H)(hi:ops[i]?=some oi)(hj:ops[j]?=some oj)(PB:i≠j)(Ut:oi.apart ops oj=true){Ki Kj:KK}
  (h:Sb P T ops.toList n0 i oi E H Ki) (hk:∀E' H',Sat P E' H'->Ki E' H'->FA P T ops.toList n0 j oj E' H' Kj):
  FA P T ops.toList n0 j oj E H λE1 H1=>Sb P T ops.toList n0 i oi E1 H1 Kj:=by
 obtain⟨p1,p2,p3⟩:=MB Ut;obtain⟨vi,ki,U9,ti⟩:=Sy h;have refl:Ek ops.toList E E oi:=⟨λ_ _=>rfl,λ_ _ _ _ _ _ _=>rfl⟩
 have Gs:Sat P (A6 E oi.dst vi) H:=by
  have h0:=(ti E H refl (λ_ _ h _=>h) rfl (λ_ _=>rfl) (λE' H'=>E'=A6 E oi.dst vi/\H'=BP H (n0+i) none) U9 ⟨rfl,rfl⟩).2
  exact Hg hT hi (BA h0 λ_ _ k=>k.2) hs
 have h2:=hk _ _ Gs ki;obtain⟨vj,obj,dj,kj,tj⟩:=DD h2;have ag:=CH (x:=vi) (E:=E) p1;have agi:Ek ops.toList E (A6 E oj.dst vj) oi:=CH p3;refine tj E H ag.symm (λy hy l ob _ hl=>hl) rfl _ ?_
 have Zj5:Ys H (BP H (n0+j) obj):=λl cs hl hc=>by
  cases obj with
  |none=>exact hl
  |some y=>
   have Bq:n0+j≠l:=λe=>by have:=dj y rfl;rw[e,hl]at this;cases this
   simp only[BP];rw[Bv Bq];exact hl
 have Lj:(BP H (n0+j) obj)[n0+i]?=H[n0+i]?:=by
  cases obj with
  |none=>rfl
  |some y=>simp only[BP];rw[Bv (by omega)]
 refine ti _ _ agi Zj5 Lj agi.1 _ (UM (SY _ _ _) U9 (λ_ _ _=>trivial)) ?_
 rw[IU p2]at kj;exact kj
theorem tF(Mz:apG oj=true)(p1:∀t,oi.dst=some t->t∉oj.looksAt ops)(p2:∀t,oi.dst=some t->oj.dst≠some t)(p3:∀t,oj.dst=some t->t∉oi.looksAt ops){Kw:KK}
  (h:Sb P T ops.toList n0 i oi E H λE' H'=>D6 P T ops.toList oj E' H' Kw X):D6 P T ops.toList oj E H (λE1 H1=>Sb P T ops.toList n0 i oi E1 H1 Kw) X:=by
 obtain⟨vi,hk,U9,ti⟩:=Sy h;have ag0:=CH (x:=vi) (E:=E) p1;have Af:=h.1;clear h;simp only[C1]at Af;unfold D6 at hk⊢;refine pO ag0 (λlG=>?_) (λlG=>?_) hk<;>clear hk<;>have hk:=lG<;>clear lG
 rotate_left
 ·rw[Au]at hk ⊢;have agi:Ek ops.toList E (A6 E oj.dst (.raw undef)) oi:=CH p3;refine ti _ _ agi (λ_ _ h _=>h) rfl agi.1 _ (UM (SY _ _ _) U9 (λ_ _ _=>trivial)) ?_
  rw[IU p2]at hk;exact hk
 obtain⟨Kz,jop,jty,fQ,fR,jgd⟩:=oj;unfold apG at Mz;simp only at Mz;cases jop<;>first|cases Mz|skip
 rename_i c;obtain⟨cK,args,Jt⟩:=c;simp only at Mz;cases cK<;>first|cases Mz|skip
 rename_i bi;cases bi<;>first|cases Mz|skip
 rw[C1]at Mz;obtain⟨ha,ht⟩:=Mz;have ha:=Ef ha;have ht:=Ef ht
 obtain⟨sx,xx,rfl⟩:∃sx xx,args=#[sx,xx]:=by
  match args,ha with
  |⟨[a,b]⟩,_=>exact⟨a,b,rfl⟩
 obtain⟨t1,t2,rfl⟩:∃t1 t2,Jt=#[t1,t2]:=by
  match Jt,ht with
  |⟨[a,b]⟩,_=>exact⟨a,b,rfl⟩
 have Ve:AM (A6 E oi.dst vi) sx=AM E sx:=ag0.1 sx (by simp[Op.operands,Call.operands])
 have ev2:AM (A6 E oi.dst vi) xx=AM E xx:=ag0.1 xx (by simp[Op.operands,Call.operands])
 have ap:∀{E:List AV}{H:List HO}{K:AV->KK},Ty none P T E H (.call ⟨.builtin .append,#[sx,xx],#[t1,t2]⟩) K X↔Ft none T E H t1 t2 sx xx K:=λ{E H K}=>by
  unfold Ty;exact Iff.rfl
 simp only at hk⊢;rw[ap]at hk ⊢;obtain⟨r,f,H',hf,hk,hto⟩:=OH hk;refine hto E Ve.symm ev2.symm _ ?_;obtain⟨u,hu,hu2,_,_⟩:=H6 hk;refine hu2 _ ?_;rw[Au]at hu ⊢
 have pC:∀y∈oi.op.operands,AM (A6 (E.map f) Kz u) y=AM E y:=λy hy=>by
  have yB:AM (A6 (E.map f) Kz u) y=AM (E.map f) y:=L9 λt ht he=>p3 t ht (by
   subst he;unfold Oper.looksAt;exact Ix _ (List.mem_filterMap.2 ⟨.tmp t,by simpa using hy,rfl⟩))
  rw[yB];have Af:=LH Af.1.1 (by simpa using hy)
  cases y with
  |tmp t=>
   have e1:AM (E.map f) (.tmp t)=f (AM E (.tmp t)):=by
    simp only[AM,C2,JV];cases E[t]? with
    |none=>exact hf.nat.any.symm
    |some x=>rfl
   rw[e1];rcases S8 Af with k|⟨l,o,cs,k,_⟩;·exact hf.cl _ k
   ·rw[k];exact hf.ptr l o
  |_=>rfl
 refine ti _ _ ⟨pC,λg want og t hg hog ht=>by
  have hgc:=Af.2;unfold aO at hgc;rw[hg]at hgc;simp only[Xw,hog,ht]at hgc
  have hmp:(E.map f)[t]?=E[t]?:=by
   rw[JV];cases hx:E[t]? with
   |none=>rfl
   |some x=>
    rw[C2,hx]at hgc;rw[MJ,hf.cl x hgc]
  cases Kz with
  |none=>exact hmp
  |some d=>
   have Bq:d≠t:=λhe=>p3 d rfl (by
    subst he;unfold Oper.looksAt;refine HQ _ ?_;have:ops[g]?=some og:=by simpa using hog
    simp[hg,this,ht])
   simp only[A6];rw[Bv Bq];exact hmp⟩ (λl cs hl hc=>hf.cells l cs hl hc) (hf.place _ (Zr Af.1.2)) pC _ (UM (by rw[SY];simp) U9 (λ_ _ _=>trivial)) ?_
 have e2:A6 (A6 (E.map f) Kz u) oi.dst vi=A6 ((A6 E oi.dst vi).map f) Kz u:=by
  cases hd:oi.dst with
  |none=>rfl
  |some d=>
   have HC:(E.set d vi).map f=(E.map f).set d vi:=by
    rw[List.map_set];by_cases SE:d<E.length
    ·have:clP vi=true:=by
      unfold iI at U9;rw[hd]at U9;simp only[A6,C2]at U9;rw[C0 SE]at U9;exact U9
     rw[Zbi hf this]
    ·have h1:(E.map f).length<=d:=by rw[List.length_map];exact KT SE
     rw[Gt h1,Gt h1]
   simp only[A6];rw[HC];cases Kz with
   |none=>rfl
   |some j=>
    have Bq:j≠d:=λe=>p2 d hd (by rw[e])
    simp only;exact List.set_comm _ _ Bq
 rw[e2];exact hu
theorem bQ(hT:BG P T)(hi:ops[i]?=some oi)(XV:A4 we i=false){U:Nat->Bool}(hUi:U i=true)
  (hUp:∀j oj,U j=true->j≠i->ops[j]?=some oj->∃e∈oj.after,KA .any e=true/\U e.on=true):
  ∀(fuel:Nat)(listed:Array Bool)(E:List AV)(H:List HO),(∀j,U j=true->listed.getD j false=false)->
   (∀j oj,ops[j]?=some oj->U j=false->listed.getD j true=false->(A4 we j=false\/apG oj=true)/\oi.apart ops oj=true)->
   i∈Eg .any ops listed->Sb P T ops.toList n0 i oi E H (Dc P T ops n0 we K X fuel (listed.setIfInBounds i true))->Dc P T ops n0 we K X (fuel+1) listed E H:=by
 intro fuel
 have sat:∀{E:List AV}{H:List HO}{Ki:KK},Sat P E H->Sb P T ops.toList n0 i oi E H Ki->∃v,Ki (A6 E oi.dst v) H/\Sat P (A6 E oi.dst v) H:=λ{E H Ki} hs h=>by
  obtain⟨vi,ki,U9,ti⟩:=Sy h;have h0:=(ti E H ⟨λ_ _=>rfl,λ_ _ _ _ _ _ _=>rfl⟩ (λ_ _ h _=>h) rfl (λ_ _=>rfl) (λE' H'=>E'=A6 E oi.dst vi/\H'=BP H (n0+i) none) U9 ⟨rfl,rfl⟩).2
  exact⟨vi,ki,Hg hT hi (BA h0 λ_ _ k=>k.2) hs⟩
 induction fuel with
 |zero=>
  intro listed E H hU Ut hr h;unfold Dc;intro hs;refine⟨λh0=>(by rw[h0]at hr;cases hr),λj hj=>?_⟩
  by_cases GZ:j=i;·subst GZ;unfold WV;rw[hi];simp only;rw[XV];exact BA h.2 λ_ _ k=>k.2
  ·obtain⟨Lk,oj,El,BW⟩:=mem_ready.1 hj;exfalso;obtain⟨vi,ki,Gs⟩:=sat hs h;unfold Dc at ki;have:=ready_mono hj GZ;rw[(ki Gs).1]at this;cases this
 |succ fuel ih=>
  intro listed E H hU Ut hr h;unfold Dc;intro hs;refine⟨λh0=>(by rw[h0]at hr;cases hr),λj hj=>?_⟩
  by_cases GZ:j=i;·subst GZ;unfold WV;rw[hi];simp only;rw[XV];exact BA h.2 λ_ _ k=>k.2
  ·obtain⟨Lk,oj,El,BW⟩:=mem_ready.1 hj
   have gS:U j=false:=by
    cases hu:U j with
    |false=>rfl
    |true=>
     obtain⟨e,he,hb,Yt⟩:=hUp j oj hu GZ El;have:=BW e he hb;rw[hU _ Yt]at this;cases this
   obtain⟨fW,Qu⟩:=Ut j oj El gS Lk
   have rest:∀E1 H1,Sb P T ops.toList n0 i oi E1 H1 (Dc P T ops n0 we K X fuel ((listed.setIfInBounds j true).setIfInBounds i true))->Dc P T ops n0 we K X (fuel+1) (listed.setIfInBounds j true) E1 H1:=λE1 H1 k=>by
    refine ih (listed.setIfInBounds j true) E1 H1 (λk hk=>?_) (λk ok hk hu Vy=>?_) (ready_mono hr (Ne.symm GZ)) k
    ·have Bq:j≠k:=λhe=>by subst he;rw[gS]at hk;cases hk
     rw[getD_set_ne false Bq];exact hU k hk
    ·refine Ut k ok hk hu ?_;by_cases O1:j=k;·subst O1;exact Lk
     ·rw[getD_set_ne true O1]at Vy;exact Vy
   unfold WV;rw[El];simp only
   cases aC:A4 we j with
   |false=>
    simp only
    have hc:=tG (Kj:=Dc P T ops n0 we K X fuel ((listed.setIfInBounds i true).setIfInBounds j true)) hT hs hi El (Ne.symm GZ) Qu h λE' H' Gs k=>by
     unfold Dc at k;have:=(k Gs).2 j (ready_mono hj GZ);unfold WV at this;rw[El]at this;simp only at this;rw[aC]at this;exact this
    refine BA hc λE1 H1 k=>rest E1 H1 ?_
    rw[GK _ _ GZ];exact k
   |true=>
    simp only
    have Zki:apG oj=true:=by
     rcases fW with k|k;·rw[aC]at k;cases k
     ·exact k
    obtain⟨p1,p2,p3⟩:=MB Qu;obtain⟨vi,ki,U9,ti⟩:=Sy h;have h0:=(ti E H ⟨λ_ _=>rfl,λ_ _ _ _ _ _ _=>rfl⟩ (λ_ _ h _=>h) rfl (λ_ _=>rfl) (λE' H'=>E'=A6 E oi.dst vi/\H'=BP H (n0+i) none) U9 ⟨rfl,rfl⟩).2
    have Gs:=Hg hT hi (BA h0 λ_ _ k=>k.2) hs
    unfold Dc at ki;have hd:=(ki Gs).2 j (ready_mono hj GZ);unfold WV at hd;rw[El]at hd;simp only at hd;rw[aC]at hd
    obtain⟨Kw,A7,E5⟩:=hd;have h3:=ti E H ⟨λ_ _=>rfl,λ_ _ _ _ _ _ _=>rfl⟩ (λ_ _ h _=>h) rfl (λ_ _=>rfl) (λE' H'=>D6 P T ops.toList oj E' H' Kw X) U9 A7
    refine⟨_,tF Zki p1 p2 p3 h3,λE1 H1 k=>rest E1 H1 (Wp k λE2 H2 k2=>?_)⟩
    rw[GK _ _ GZ];exact E5 _ _ k2
def wG(ops:Array Oper)(we pu:List Nat)(listed:Array Bool)(k:Nat)(U:List Nat):Bool:=
 match ops[k]? with
 |none=>false
 |some ok=>A4 U k&&(List.range ops.size).all (λj=>(!A4 U j||(!listed.getD j false))&&match ops[j]? with
   |none=>true
   |some oj=>(match A4 U j with
    |true=>M0 j k||oj.after.any (λe=>KA .any e&&A4 U e.on)
    |false=>listed.getD j true||((!A4 we j||(match A4 pu k with|true=>apG oj|false=>mvB ok&&apB oj))&&ok.apart ops oj)))&&U.all λj=>decide (j<ops.size)
def tK(ops:Array Oper)(we pu:List Nat):List Nat->Array Bool->Bool
 |[],listed=>(Eg .any ops listed).isEmpty
 |k::r,listed=>(match A4 we k with
  |true=>(Eg .any ops listed == [k])
  |false=>(Eg .any ops listed).contains k&&wG ops we pu listed k (En ops k))&&tK ops we pu r (listed.setIfInBounds k true)
def roK(P:Program)(T:List TY)(ops:List Oper)(n0:Nat)(we pu:List Nat):List Nat->List AV->List HO->KK->XX->Prop
 |[],E,H,K,_=>K E H
 |k::r,E,H,K,X=>Cm ops k λo=>match A4 we k with
  |false=>(match A4 pu k with
   |true=>Sb P T ops n0 k o E H λE H=>roK P T ops n0 we pu r E H K X
   |false=>FA P T ops n0 k o E H λE H=>roK P T ops n0 we pu r E H K X)
  |true=>D6 P T ops o E H (λE H=>roK P T ops n0 we pu r E H K X) X
theorem Pp(hT:BG P T):∀(l:List Nat)(listed:Array Bool)(E:List AV)(H:List HO),
  tK ops we pu l listed=true->roK P T ops.toList n0 we pu l E H K X->Dc P T ops n0 we K X l.length listed E H
 |[],listed,E,H,hB,h=>by
  unfold Dc;unfold roK at h;exact λ_=>⟨by simpa[tK]using hB,h⟩
 |k::l,listed,E,H,hB,h=>by
  simp only[tK,C1]at hB;obtain⟨O5,pJ⟩:=hB;unfold roK at h;replace h:=AL.1 h;obtain⟨o,h0,h⟩:=h
  have h0:ops[k]?=some o:=by simpa using h0
  cases hw:A4 we k with
  |false=>
   rw[hw]at h O5;simp only[C1]at O5 h;obtain⟨hr,hf⟩:=O5;unfold wG at hf;rw[h0]at hf;simp only[C1,K0,List.mem_range]at hf;obtain⟨⟨hUk,BW⟩,AP⟩:=hf;have lt:∀j,A4 (En ops k) j=true->j<ops.size:=λj hj=>by simpa using AP j (Hv hj)
   have up:∀j oj,A4 (En ops k) j=true->j≠k->ops[j]?=some oj->∃e∈oj.after,KA .any e=true/\A4 (En ops k) e.on=true:=λj oj hu O1 El=>by
    have:=(BW j (lt j hu)).2;rw[El]at this;simp only[hu]at this;simp only[H0]at this;rcases this with h1|h1;·exact absurd (Ef h1) O1
    ·obtain⟨e,he,h2⟩:=Array.any_eq_true'.1 h1;simp only[C1]at h2;exact⟨e,he,h2⟩
   have un:∀j,A4 (En ops k) j=true->listed.getD j false=false:=λj hu=>by
    have:=(BW j (lt j hu)).1;simpa[hu]using this
   cases hp:A4 pu k with
   |false=>
    rw[hp]at h;refine UY hT h0 hw (U:=A4 (En ops k)) hUk up l.length listed E H un (λj oj El hu Vy=>?_) (by simpa using hr) (BA h λE' H' h'=>Pp hT l _ E' H' pJ h')
    have Va:=(FB.1 El).1;have:=(BW j Va).2;rw[El]at this;simp only[hu,hp]at this;simp only[Vy,H0,C1,Kf,E4,false_or]at this;simpa using this
   |true=>
    rw[hp]at h;refine bQ hT h0 hw (U:=A4 (En ops k)) hUk up l.length listed E H un (λj oj El hu Vy=>?_) (by simpa using hr) (Wp h λE' H' h'=>Pp hT l _ E' H' pJ h')
    have Va:=(FB.1 El).1;have:=(BW j Va).2;rw[El]at this;simp only[hu,hp]at this;simp only[Vy,H0,C1,Kf,E4,false_or]at this;simpa using this
  |true=>
   rw[hw]at h O5;simp only at h O5;have hr:Eg .any ops listed=[k]:=by simpa using O5
   show Dc P T ops n0 we K X (l.length+1) listed E H
   unfold Dc;intro hs;refine⟨λh0=>(by rw[hr]at h0;cases h0),λj hj=>?_⟩
   rw[hr]at hj;obtain rfl:j=k:=by simpa using hj
   unfold WV;rw[h0];simp only;rw[hw];simp only
   exact⟨_,h,λE1 H1 hh=>Pp hT l _ E1 H1 pJ hh⟩
theorem Aa.wS{id:Nat}(l im we pu:List Nat)(hT:BG P T)(hm:P.follows .mixedOrders=true)(hB:(M0 l.length ops.size&&tK ops we pu l (H4 ops.size false))=true)
  (h:roK P T ops.toList H.length we pu l E (H++Xu im ops.size) K X):Aa P (.region id ops true) E H K X:=by
 refine⟨λn G a w hP Af=>?_⟩
 subst hP;obtain⟨C,mu,Af⟩:=Af;have CL:Az G C mu E H a w.drew:=Af.drew;have cE:=CL.pad im ops.size;simp only[C1]at hB;have hl:=Ef hB.1;have h1:=Pp (ops:=ops) (n0:=H.length) (we:=we) (pu:=pu) (K:=K) (X:=X) hT l (H4 ops.size false) E _ hB.2 h;rw[hl]at h1;refine wpIn_region_any hm ?_;have h2:=HK (r:=G.rd) (n:=n) hT _ _ _ _ a _ h1 ⟨C,mu,cE⟩;simpa using h2
end
end Go.Av
namespace Go.Av
section
variable {G:Cx}{C:Ae}{w:World}{mu:Mu}{H:List HO}{E:List AV}{a:Act}{P:Program}
def QP(x y:AV):Prop:=∀(C:Ae)(w:World)(mu:Mu)(v:Value),Ah C w x mu v->Ah C w y mu v
def jJ:List AV->List AV->Prop
 |[],[]=>True
 |x::xs,y::ys=>QP x y/\jJ xs ys
 |_,_=>False
theorem SO:∀{xs ys:List AV}{vs:List Value},jJ xs ys->Ab C w xs mu vs->Ab C w ys mu vs
 |[],[],_,_,h=>h
 |x::xs,y::ys,vs,hw,h=>by
  unfold Ab at h⊢;obtain⟨v,BY,rfl,h2,h3⟩:=h;exact⟨v,BY,rfl,hw.1 _ _ _ _ h2,SO hw.2 h3⟩
 |[],_::_,_,hw,_|_::_,[],_,hw,_=>hw.elim
theorem Az.YI(Af:Az G C mu E H a w)(l:Nat){cs cs':List AV}(hl:H[l]?=some (.cells cs))(hw:jJ cs cs'):Az G C mu E (H.set l (.cells cs')) a w:=by
 have AP:l<H.length:=(Eu.1 hl).1
 have hg:∀{k:Nat}{ob:HO},(H.set l (.cells cs'))[k]?=some ob->(k=l/\ob=.cells cs')\/H[k]?=some ob:=λ{k ob} hk=>by
  by_cases NU:k=l
  ·subst NU;rw[C0 AP]at hk;exact .inl ⟨rfl,(DE.inj hk).symm⟩
  ·rw[Bv (λe=>NU e.symm)]at hk;exact .inr hk
 have Ji:∀{k:Nat}{ob:HO},(H.set l (.cells cs'))[k]?=some ob->(∀es,ob≠.cells es)->H[k]?=some ob:=λ{k ob} hk Bq=>by
  rcases hg hk with⟨_,h⟩|h;·exact absurd h (Bq _)
  ·exact h
 refine⟨Af.c0,Af.c1,Af.lt,⟨λi g hi=>by simpa using Af.heap.Is i g hi,Af.heap.fresh,Af.heap.sep,λk hk=>Af.heap.dead k (Ji hk (by intros;simp)),λk cs2 hk=>?_,λk e' BI Cg hk=>Af.heap.BM k e' BI Cg (Ji hk (by intros;simp)),λk ks vs hk=>Af.heap.maps k ks vs (Ji hk (by intros;simp))⟩,Af.env,?_,Af.Ax,by simpa using Af.Ds.1,Af.Ds.2⟩
 ·rcases hg hk with⟨rfl,h⟩|h
  ·cases h;obtain⟨b,cur,e,k1,k2,k3,k4⟩:=Af.heap.Cr k cs hl;exact⟨b,cur,e,k1,k2,SO hw k3,k4⟩
  ·exact Af.heap.Cr k cs2 h
 ·obtain⟨ms,d1,d2⟩:=Af.defers
  exact⟨ms,d1,⟨λk cs' vs gm hk=>d2.Bl k cs' vs gm (Ji hk (by intros;simp)),λk I hk=>by
   obtain⟨h0,Sw,Sr,q1,q2,q3,q4⟩:=d2.Hz k I (Ji hk (by intros;simp))
   exact⟨h0,Sw,Sr,q1,q2,q3,λk' cs' vs gm HB=>q4 k' cs' vs gm (Ji HB (by intros;simp))⟩,d2.marks,d2.nd,λk k' cs' vs gm cs2 zA gm2 hk HB=>d2.sep k k' cs' vs gm cs2 zA gm2 (Ji hk (by intros;simp)) (Ji HB (by intros;simp))⟩⟩
theorem Aa.YI(l:Nat){cs cs':List AV}{c:Code}{K:KK}{X:XX}(hl:H[l]?=some (.cells cs))(hw:jJ cs cs')(h:Aa P c E (H.set l (.cells cs')) K X):Aa P c E H K X:=by
 refine⟨λn G a w hP Af=>?_⟩
 obtain⟨C,mu,Af⟩:=Af;exact h.out n G a w hP ⟨C,mu,Af.YI l hl hw⟩
theorem QP.lit{b c:Bool}(h:b=c):QP (.lit b) (.bool c):=λ_ _ _ _ h2=>by subst h;unfold Ah at*;exact h2
end
theorem Zeg{α:Type}:∀(a:Ask α)(w:World),w.drawn<=(w.ask a).2.drawn:=by
 intro a;induction a with
 |done a=>intro w;unfold World.ask;exact Cb _
 |ask Zme range k ih=>
  intro w;unfold World.ask;simp only;split;·exact ih _ w
  ·exact Ak (MP _) (ih _ {w with drawn:=w.drawn+1})
theorem sA(w:World)(c:Sys):w.drawn<=(w.sys c).2.drawn:=by
 have h:=Zeg (Kernel.perform c w.os) w;unfold World.sys;split;·exact Cb _
 ·rename_i r os w1 _ e;rw[e]at h;exact h
theorem O7(w:World)(a:Addr)(n:Nat):(w.freeze a n).drawn=w.drawn:=by
 unfold World.freeze;first|rfl|(split<;>rfl)|(split<;>(try split)<;>rfl)
theorem RI{p:Program}{w w':World}{at_:Addr}{u:TypeId}{k:Addr}{v:Value}{atomic:Bool}{l:List Addr}(h:w.viewStore p at_ u k v atomic=.ok (w',l)):w'.drawn=w.drawn:=by
 unfold World.viewStore at h;simp only[bind,Except.bind,pure,Except.pure]at h;repeat' split at h
 all_goals first|(cases h;done)|(injection h with h;injection h with h1 h2;subst h1;rfl)
theorem Lt{p:Program}{w w':World}{a:Addr}{v:Value}{atomic:Bool}{l:List Addr}(h:w.farStore p a v atomic=.ok (w',l)):w'.drawn=w.drawn:=by
 unfold World.farStore at h;split at h
 ·split at h
  ·rename_i r e;injection h with h
   subst h;exact RI e
  ·cases h
 ·cases h
def Result.w{α:Type}:Result α->World
 |.ok _ w=>w
 |.halt _ w=>w
theorem dO{α:Type}{p:Program}:∀(s:Sem α)(w:World),w.drawn<=(Result.w (s.run p w)).drawn:=by
 intro s;induction s with
 |pure a=>intro w;exact Cb _
 |load m a k ih=>
  intro w;unfold It;split
  ·exact ih _ w
  ·split;·exact ih _ w
   ·exact Cb _
 |store m a v k ih=>
  intro w;have key:∀v,w.drawn<=(Result.w (match w.cell? a with
  |some _=>if w.frozen? a then .halt (.unsupported (.unsafePointer "a write to bytes that a string shares")) w else k.run p (w.setCell a v)
  |none=>match w.farStore p a v (m == .atomic)with
   |.ok (w,_)=>k.run p w
   |.error h=>.halt h w)).drawn:=by
   intro v;split
   ·split;·exact Cb _
    ·exact ih (w.setCell a v)
   ·split
    ·rename_i e;exact Ak (Fl (Lt e).symm) (ih _)
    ·exact Cb _
  cases v<;>first|exact Cb _|(simp only[It];exact key _)
 |new o k ih=>intro w;exact ih _ {w with heap:=w.heap.push o}
 |shape r k ih=>intro w;exact ih _ w
 |freeze a n k ih=>intro w;exact Ak (Fl (O7 w a n).symm) (ih (w.freeze a n))
 |frozen a k ih=>intro w;exact ih _ w
 |getObj r k ih=>
  intro w;unfold It;split
  ·exact Cb _
  ·exact ih _ w
  ·exact Cb _
 |setObj r o k ih=>
  intro w;unfold It;split
  ·exact Cb _
  ·exact ih {w with heap:=w.heap.setIfInBounds r o}
  ·exact Cb _
 |choose q k ih=>
  intro w;unfold It;split
  ·exact ih _ w
  ·exact Ak (MP _) (ih _ {w with drawn:=w.drawn+1})
 |sys c k ih=>intro w;exact Ak (sA w c) (ih _ _)
 |program k ih=>intro w;exact ih _ w
 |mark m k ih=>intro w;exact ih w
 |halt h=>intro w;exact Cb _
theorem LP{α:Type}{p:Program}:∀(s:Sem α)(w:World)(es:Array Event),w.drawn<=(Result.w (s.runT p w es).1).drawn:=by
 intro s;induction s with
 |pure a=>intro w es;exact Cb _
 |load m a k ih=>
  intro w es;unfold Ll;split
  ·exact ih _ w _
  ·split;·exact ih _ w _
   ·exact Cb _
 |store m a v k ih=>
  intro w es
  cases v<;>first
   |exact Cb _
   |(simp only[Ll]
     split
     · split
       · exact Cb _
       · exact ih (w.setCell a _) _
     · split
       · rename_i e
         exact Ak (Fl (Lt e).symm) (ih _ _)
       · exact Cb _)
 |new o k ih=>intro w es;exact ih _ {w with heap:=w.heap.push o} _
 |shape r k ih=>intro w es;exact ih _ w _
 |freeze a n k ih=>intro w es;exact Ak (Fl (O7 w a n).symm) (ih (w.freeze a n) _)
 |frozen a k ih=>intro w es;exact ih _ w _
 |getObj r k ih=>
  intro w es;unfold Ll;split
  ·exact Cb _
  ·exact ih _ w _
  ·exact Cb _
 |setObj r o k ih=>
  intro w es;unfold Ll;split
  ·exact Cb _
  ·exact ih {w with heap:=w.heap.setIfInBounds r o} _
  ·exact Cb _
 |choose q k ih=>
  intro w es;unfold Ll;split
  ·exact ih _ w _
  ·exact Ak (MP _) (ih _ {w with drawn:=w.drawn+1} _)
 |sys c k ih=>intro w es;exact Ak (sA w c) (ih _ _ _)
 |program k ih=>intro w es;exact ih _ w _
 |mark m k ih=>intro w es;exact ih w _
 |halt h=>intro w es;exact Cb _
theorem Fb{α:Type}{p:Program}{s:Sem α}{w w':World}{a:α}(h:s.run p w=.ok a w'):w.drawn<=w'.drawn:=by
 have:=dO (p:=p) s w;rw[h]at this;exact this
theorem lQ{α:Type}{p:Program}{s:Sem α}{w w':World}{a:Halt}(h:s.run p w=.halt a w'):w.drawn<=w'.drawn:=by
 have:=dO (p:=p) s w;rw[h]at this;exact this
theorem Xy{α:Type}{p:Program}{s:Sem α}{w w':World}{a:α}{es Cg:Array Event}(h:s.runT p w es=(.ok a w',Cg)):w.drawn<=w'.drawn:=by
 have:=LP (p:=p) s w es;rw[h]at this;exact this
theorem aL{α:Type}{p:Program}{s:Sem α}{w w':World}{a:Halt}{es Cg:Array Event}(h:s.runT p w es=(.halt a w',Cg)):w.drawn<=w'.drawn:=by
 have:=LP (p:=p) s w es;rw[h]at this;exact this
theorem Xz{α:Type}{p:Program}{s:Sem α}{w w':World}{a:α}{es:Array Event}(h:(s.runT p w es).1=.ok a w'):w.drawn<=w'.drawn:=by
 have:=LP (p:=p) s w es;rw[h]at this;exact this
theorem aM{α:Type}{p:Program}{s:Sem α}{w w':World}{a:Halt}{es:Array Event}(h:(s.runT p w es).1=.halt a w'):w.drawn<=w'.drawn:=by
 have:=LP (p:=p) s w es;rw[h]at this;exact this
def YC(d:Nat):GStep->Prop
 |.go _ w _|.comm _ _ _ _ w _|.spawn _ _ w _|.count _ w _|.timer _ _ w _|.alone _ _ w _|.newcoro _ _ _ w _|.coroswitch _ _ _ w _|.collect _ w _|.watch _ w _=>d<=w.drawn
 |.ended _ _ _=>True
theorem Gz{d:Nat}{es:Array Event}:∀{g:GStep},YC d g->YC d (GStep.after es g)
 |.go ..,h|.comm ..,h|.spawn ..,h|.count ..,h|.timer ..,h|.alone ..,h|.newcoro ..,h|.coroswitch ..,h|.collect ..,h|.watch ..,h|.ended ..,h=>h
variable {p:Program}{d:Nat}{w:World}
theorem iG(fd:Nat)(t:ByteArray)(o:Outcome):YC d (endWith w fd t o):=by
 unfold endWith
 ((try simp only);repeat' (first|trivial|assumption|exact Ak (by assumption) (Xy (by assumption))|exact Ak (by assumption) (Fb (by assumption))|exact Ak (by assumption) (aL (by assumption))|exact Ak (by assumption) (lQ (by assumption))|apply Gz|(split<;>try simp only)))
theorem Gv(hd:d<=w.drawn)(fr:Frame)(m:String):YC d (endThrow fr m w):=hd
theorem Lu(hd:d<=w.drawn)(fr:Frame)(v:Value):YC d (endPrinting p fr v w):=by
 unfold endPrinting;simp only;split;·exact hd
 ·trivial
theorem Rx(hd:d<=w.drawn)(fr:Frame)(cs:List Frame)(dy:Option Dying)(m:String):YC d (endFatal p fr cs dy m w):=by
 unfold endFatal;simp only;split;·rename_i h;exact Ak hd (Fb h)
 ·trivial
 ·trivial
theorem cP(hd:d<=w.drawn)(fr:Frame)(dy:Dying)(f:Fatal):YC d (writeOn p fr dy f w):=by
 unfold writeOn;simp only;split;·trivial
 ·split;·rename_i h;exact Ak hd (Xy h)
  ·rename_i h;exact Ak hd (aL h)
  ·trivial
  ·trivial
theorem Zeb(hd:d<=w.drawn)(fr:Frame)(dy:Dying):YC d (die p fr dy w):=by
 unfold die;split;·exact cP hd _ _ _
 ·split
  ·split;·exact hd
   ·exact iG _ _ _
  ·simp only;split;·exact hd
   ·split;·rename_i h;exact Ak hd (Fb h)
    ·trivial
   ·refine Gz ?_;split<;>first|trivial|(rename_i h;exact Ak hd (Xz h))|(rename_i h;exact Lu (Ak hd (aM h)) _ _)
   ·trivial
theorem Lv(hd:d<=w.drawn)(main:Bool)(fr:Frame)(cs:List Frame)(dy:Option Dying)(v:Value):YC d (doReturn p main fr cs dy v w):=by
 unfold doReturn;repeat' split
 all_goals first|trivial|exact hd
theorem Sm(hd:d<=w.drawn)(fr:Frame)(cs:List Frame)(dy:Option Dying)(df:Deferred):YC d (callDeferred p fr cs dy df w):=by
 unfold callDeferred;generalize hr:(invoke df.target df.args).runT p w #[]=r;generalize hc:((df.target matches .nil)&&(fr.mode matches .panicking _))=c;cases c
 ·have hw:d<=(Result.w r.1).drawn:=by
   subst hr;exact Ak hd (LP _ w #[])
  clear hr;obtain⟨r,es⟩:=r;simp only[E4,if_false];refine Gz ?_;split
  all_goals first
   |trivial
   |exact hw
   |exact Rx hw _ _ _ _
   |exact Gv hw _ _
   |(split<;>exact hw)
 ·trivial
theorem mU(hd:d<=w.drawn)(main:Bool)(fr:Frame)(cs:List Frame)(dy:Option Dying):YC d (unwind p main fr cs dy w):=by
 unfold unwind;split
 ·split;rename_i h;refine Gz ?_;split;·exact Ak hd (Xy h)
  ·trivial
 ·exact Sm hd _ _ _ _
 ·split;·trivial
  ·split;·trivial
   ·split;·exact hd
    ·split
     ·split;·exact hd
      ·split
       ·rename_i h;exact Ak hd (Fb h)
       ·trivial
       ·trivial
     ·split;·exact Lu hd _ _
      ·trivial
  ·split;·exact Lv hd _ _ _ _ _
   ·split;rename_i h;refine Gz ?_;split;·exact Lv (Ak hd (Xy h)) _ _ _ _ _
    ·trivial
    ·trivial
theorem wR(hd:d<=w.drawn)(fr:Frame)(cs:List Frame)(dy:Option Dying)(g:Nat):YC d (early p fr cs dy g w):=by
 have hny:∀w:World,d<=w.drawn->YC d (match w.heap[g]? with
  |some (.pending c elem)=>
   .go {frame:=fr,callers:=cs,status:=.running,dying:=dy} {w with heap:=w.heap.setIfInBounds g (.cells c elem)}
  |_=>.ended (.stuck "early: the variable does not wait" (fr.pos p)) w):=by
  intro w h;split;·exact h
  ·trivial
 unfold early;simp only;split;·exact hny w hd
 ·split;·trivial
  ·split;·exact hny w hd
   ·split;·exact hny w hd
    ·split;·trivial
     ·exact hd
     ·trivial
     ·exact hny w hd
     ·split;·exact hd
      ·split
       ·exact hny w hd
       ·split
        ·rename_i h;exact hny _ (Ak hd (Fb h))
        ·rename_i h;exact Ak hd (Fb (by assumption))
        ·trivial
theorem LB(listen:Bool)(hd:d<=w.drawn)(fr:Frame)(cs:List Frame)(dy:Option Dying)(s:Sem Next):YC d (stepG.apply p listen fr cs dy s w):=by
 unfold stepG.apply;simp only;refine Gz ?_;generalize hr:(if listen=true then s.runT p w #[]else (s.run p w,#[]))=r
 have hw:d<=(Result.w r.1).drawn:=by
  subst hr;split;·exact Ak hd (LP s w #[])
  ·exact Ak hd (dO s w)
 clear hr;obtain⟨r,es⟩:=r;simp only at hw⊢;split
 all_goals first
  |trivial
  |exact hw
  |exact Rx hw _ _ _ _
  |exact Gv hw _ _
  |exact wR hw _ _ _ _
  |(split<;>first|exact hw|exact Gv hw _ _|(split<;>exact hw))
theorem kI(listen:Bool)(hd:d<=w.drawn)(fr:Frame)(cs:List Frame)(dy:Option Dying):YC d (stepG.oper p listen fr cs dy w):=by
 unfold stepG.oper;repeat' split
 all_goals first|trivial|exact LB listen hd _ _ _ _
theorem Za9(main listen:Bool)(hd:d<=w.drawn)(fr:Frame)(cs:List Frame)(dy:Option Dying):YC d (stepG.exec p main listen fr cs dy w):=by
 have gG:∀(c:Prop) [Decidable c] (jump:Option Code),YC d (match fr.roundOf with
   |none=>if c then .go {frame:={fr with mode:=.returning},callers:=cs,status:=.running,dying:=dy} w else .ended (.stuck "exit, goto: no such block or label" (fr.pos p)) w
   |some l=>
    GStep.after (seen p fr.fn ((Instr.endRound l jump).runT p w #[]).2) (match ((Instr.endRound l jump).runT p w #[]).1 with
    |.ok v w=>doReturn p main fr cs dy v w
    |.halt _ w=>.ended (.stuck "range over a function: no such loop" (fr.pos p)) w)):=by
  intro c _ jump;split
  ·split;·exact hd
   ·trivial
  ·refine Gz ?_;split
   ·rename_i h;exact Lv (Ak hd (Xz h)) _ _ _ _ _
   ·trivial
 unfold stepG.exec;simp only;split
 all_goals first
  |trivial
  |exact hd
  |exact gG _ _
  |exact LB listen hd _ _ _ _
  |exact kI listen hd _ _ _
  |(split<;>first|trivial|exact hd|exact LB listen hd _ _ _ _|exact kI listen hd _ _ _|(split<;>first|trivial|exact Ak hd (Fb (by assumption))))
  |(refine Gz ?_;split<;>first|trivial|exact Ak hd (Xz (by assumption))|exact LB listen (Ak hd (Xz (by assumption))) _ _ _ _|exact Ak hd (aM (by assumption)))
  |(generalize exitTo _ _=o;cases o<;>first|exact gG _ _|exact hd)
  |(generalize gotoIn _ _=o;cases o<;>first|exact gG _ _|exact hd)
  |(generalize Extern.next _=o;cases o<;>first|trivial|exact LB listen hd _ _ _ _)
theorem sE(main:Bool)(g:Goroutine)(hd:d<=w.drawn)(listen:Bool):YC d (stepG p main g w listen):=by
 unfold stepG;simp only;split;·exact Zeb hd _ _
 ·exact Za9 main listen hd _ _ _
 ·exact mU hd _ _ _ _
def MUp(d:Nat):Stepped->Prop
 |.next m=>d<=m.world.drawn
 |_=>True
def VUp(d:Nat):Move->Prop
 |.goroutine m _=>d<=m.world.drawn
 |.machine s _=>MUp d s
theorem W9{rest:Rest}{cases:Array CommCase}{w':World}(h:waitingAt rest cases w=some w'):w'.drawn=w.drawn:=by
 unfold waitingAt at h;split at h
 ·split at h;·injection h with h;subst h;rfl
  ·cases h
 ·injection h with h;subst h;rfl
theorem UQ(hd:d<=w.drawn)(rest:Rest)(gs:Array Goroutine)(i:Nat)(g:Goroutine)(cs:Array CommCase)(b:Bool)(shape:CommShape):MUp d (communicate p rest gs i g cs b shape w).1:=by
 unfold communicate;simp only;generalize cs.any _=c1;generalize List.filter _ _=ready;generalize hr:It p _ w=r;cases c1
 ·simp only[E4,if_false];split
  ·split
   ·split;·rename_i h;exact Ak hd (Fl (W9 h).symm)
    ·trivial
   ·exact hd
  ·split;·trivial
   ·rename_i k c way w1;have h1:=Ak hd (Fb hr);clear hr;generalize w1.heap[(_:Nat)]?=ho;generalize c.send=cse;split
    ·generalize gD:It p (runtimePanic _) w1=r2;split;·exact Ak h1 (lQ gD)
     ·trivial
    ·exact h1
    ·exact h1
    ·generalize partners gs _ true=ps;split;·exact h1
     ·rename_i ps _ ;generalize gD:It p (choose _) w1=r2;split;·have h2:=Fb gD;exact Ak h1 h2
      ·trivial
    ·exact h1
    ·exact h1
    ·trivial
 ·trivial
theorem kU(hd:d<=w.drawn)(gs:Array Goroutine)(rest:Rest):MUp d (look p gs rest w):=by
 unfold look;split
 ·simp only;generalize (_||_:Bool)=c1
  cases c1
  ·simp only[E4,if_false];split;·trivial
   ·generalize hr:It p _ w=r;cases r with
    |ok a w'=>have h2:=Fb hr;exact Ak hd h2
    |halt h w'=>cases h<;>trivial
  ·trivial
 ·trivial
theorem sO(m:Machine)(hd:d<=m.world.drawn)(k:Nat):MUp d (serve p m k):=by
 unfold serve;simp only;repeat' (first|trivial|exact hd|split)
theorem bF(w:World)(c:Nat):(drain w c).2.drawn=w.drawn:=by
 unfold drain;split<;>rfl
theorem Wf(m:Machine)(k:Nat)(t:Timer)(a b:Nat):(retime m k t a b).2.world.drawn=m.world.drawn:=by
 unfold retime;simp only;split;·exact bF _ _
 ·rfl
theorem dD(m:Machine)(op:TimerOp){v:Value}{m':Machine}(h:timerOp m op=.ok (v,m')):m'.world.drawn=m.world.drawn:=by
 have hn:∀(var:Addr)(f:Nat->Timer->Value×Machine),(∀k t,(f k t).2.world.drawn=m.world.drawn)->∀v m',timerOp.named m var f=.ok (v,m')->m'.world.drawn=m.world.drawn:=by
  intro var f hf v m' h;unfold timerOp.named at h;split at h
  ·injection h with h
   rename_i c _;have:=hf c (m.rest.timers.getD c default);rw[h]at this;exact this
  ·cases h
 unfold timerOp at h;split at h
 ·split at h;·injection h with h;injection h with h1 h2;subst h2;rfl
  ·split at h
   ·split at h;·cases h
    ·injection h with h;injection h with h1 h2;subst h2;rfl
   ·cases h
 ·exact hn _ _ (λk t=>Wf _ _ _ _ _) _ _ h
 ·split at h
  ·rename_i m1 e
   have h1:m1.world.drawn=m.world.drawn:=by
    unfold timerOp.opened at e;split at e
    ·split at e;·injection e with e;subst e;rfl
     ·cases e
    ·injection e with e;subst e;rfl
   exact hn _ _ (λk t=>(Wf _ _ _ _ _).trans h1) _ _ h
  ·cases h
 ·injection h with h;injection h with h1 h2;subst h2;rfl
theorem sU(m:Machine)(i:Nat)(listen:Bool)(hd:d<=m.world.drawn):MUp d (runT p m i listen).1:=by
 unfold runT;simp only;have h:=λg=>sE (p:=p) (w:=m.world) (i == 0) g hd listen
 generalize (m.gs.swapAt! i {(default:Goroutine)with status:=.finished})=gg at*
 obtain⟨g,gs⟩:=gg;simp only;have h:=h g;generalize stepG p (i == 0) g m.world listen=s at*;cases s with
 |ended o w _=>trivial
 |comm g cs b sh w _=>exact UQ h _ _ _ _ _ _ _
 |go g w _|spawn g c w _=>exact h
 |count g w _=>simp only;split<;>first|trivial|exact h
 |alone g on w _=>exact h
 |collect g w _=>exact kU h _ _
 |watch g w _|newcoro g c df w _=>exact h
 |coroswitch g c e w _=>
  simp only;split;·exact h
  ·split;·rename_i e;have:=Gv h g.frame "coroswitch on exited coro";rw[e]at this;exact this
   ·trivial
  ·trivial
 |timer g op w _=>
  simp only;split;·rename_i e;exact Ak h (Fl (dD _ _ e).symm)
  ·split;·rename_i msg _ _ _ _ _ e;have:=Gv h g.frame msg;rw[e]at this;exact this
   ·trivial
  ·trivial
  ·trivial
theorem UW(m:Machine)(hd:d<=m.world.drawn):VUp d (askOn p m):=by
 have vK:∀(m:Machine)(rs:List Nat),d<=m.world.drawn->VUp d (match (choose (.sched rs.length)).run p m.world with
   |.halt _ w=>.machine (.ended (.stuck "sched" "") w)
   |.ok k world=>
    if rs.length<=1 then .goroutine {m with world} (rs.getD k 0)else
    match (choose (.extern "sched.slice" 65536)).run p world with
    |.halt _ w=>.machine (.ended (.stuck "sched.slice" "") w)
    |.ok n world=>.goroutine {m with world,rest:={m.rest with slice:=if n=0 then none else some (rs.getD k 0,n)}} (rs.getD k 0)):=by
  intro m rs hd;split;·trivial
  ·rename_i e;split;·exact Ak hd (Fb e)
   ·split;·trivial
    ·rename_i e2;exact Ak (Ak hd (Fb e)) (Fb e2)
 unfold askOn;simp only;split;·trivial
 ·rename_i e;have h1:=Ak hd (Fb e);split;·exact sO _ h1 _
  ·split
   ·split;·exact h1
    ·split;·exact h1
     ·split<;>trivial
   ·split;·exact vK {m with world:=_} _ h1
    ·split;·trivial
     ·rename_i e2;exact vK {m with world:=_} _ (Ak h1 (Fb e2))
     ·rename_i e2;have h2:=Fb e2;exact Ak h1 h2
     ·rename_i e2;have h2:=Fb e2;exact vK (Machine.advanceTo {m with world:=_} _) _ (Ak h1 h2)
theorem mF(m:Machine)(hd:d<=m.world.drawn):VUp d (ask p m):=by
 unfold ask;split
 ·split;·trivial
  ·rename_i e;have h1:=kU (p:=p) (Ak hd (Fb e)) m.gs m.rest;split
   ·rename_i e2;rw[e2]at h1;exact UW _ h1
   ·exact h1
  ·rename_i e;exact UW _ (Ak hd (Fb (by assumption)))
 ·exact UW _ hd
theorem zL{m m':Machine}(h:step p m=.next m'):m.world.drawn<=m'.world.drawn:=by
 have hm:VUp m.world.drawn (move p m):=by
  unfold move;split
  ·split;·exact Cb _
   ·trivial
  ·split
   ·split;·exact Cb _
    ·exact mF _ (Cb _)
   ·exact mF _ (Cb _)
 unfold step stepT at h;split at h
 ·rename_i e;rw[e]at hm;have:=sU (p:=p) _ (by assumption) true hm
  rw[h]at this;exact this
 ·rename_i e;rw[e]at hm;simp only at h;subst h;exact hm
theorem jY:∀(n:Nat){m m':Machine},runN p n m=.next m'->m.world.drawn<=m'.world.drawn
 |0,m,m',h=>by
  unfold runN at h;injection h with h
  subst h;exact Cb _
 |n+1,m,m',h=>by
  unfold runN at h;split at h
  ·rename_i e;exact Ak (zL e) (jY n h)
  ·rename_i e;exact absurd h (e _)
theorem xE{f:FuncId}{args:Array Value}{w:World}{R:Ending->World->Prop}(h:Calls p f args w R):Calls p f args w λe w'=>R e w'/\((∃v,e=.returned v)->w.drawn<=w'.drawn):=by
 intro cs;obtain⟨e,w',fr,h1,h2,h3,h4⟩:=h cs;refine⟨e,w',fr,⟨h1,?_⟩,h2,h3,h4⟩;rintro⟨v,rfl⟩;obtain⟨n,hn⟩:=h2;exact jY n hn
end Go.Av
namespace Go.Av
open Go.Proofs Go.Sort Go.Shelf
section
variable {P:Program}{C:Ae}{w:World}{mu:Mu}
theorem Zh:∀(xs ys:List AV){vs:List Value},Ab C w (xs++ys) mu vs->∃us ws,vs=us++ws/\Ab C w xs mu us/\Ab C w ys mu ws
 |[],ys,vs,h=>⟨[],vs,rfl,by unfold Ab;rfl,h⟩
 |a::xs,ys,vs,h=>by
  rw[List.cons_append]at h;unfold Ab at h;obtain⟨v,BY,rfl,h1,h2⟩:=h;obtain⟨us,ws,rfl,h3,h4⟩:=Zh xs ys h2;exact⟨v::us,ws,rfl,by unfold Ab;exact⟨v,us,rfl,h1,h3⟩,h4⟩
def J6(C:Ae)(w:World){β:Type}(v:β->AV)(Ok:β->Prop):Type:={p:β×List Value // Ok p.1/\Ab C w (v p.1).cells Mu.none p.2/\∀u∈p.2,u.oneCell'=true}
def J6.enc{β:Type}{v:β->AV}{Ok:β->Prop}(x:J6 C w v Ok):List Value:=x.1.2
theorem jS{β:Type}(v:β->AV)(Ok:β->Prop)(HC:∀x,An (v x).cells=true):∀(l:List β){us:List Value},(∀x∈l,Ok x)->Ab C w (flat (l.map v)) mu us->(∀u∈us,u.oneCell'=true)->
  ∃ds:List (J6 C w v Ok),ds.map (λx=>x.1.1)=l/\us=(ds.map J6.enc).flatten
 |[],us,_,h,_=>by
  unfold flat at h;simp only[List.map_nil,K2]at h;unfold Ab at h;exact⟨[],rfl,h⟩
 |x::l,us,hx,h,h1=>by
  have e:flat ((x::l).map v)=(v x).cells++flat (l.map v):=rfl;rw[e]at h;obtain⟨u1,u2,rfl,h2,h3⟩:=Zh _ _ h;obtain⟨ds,rfl,rfl⟩:=jS v Ok HC l (λy hy=>hx y (List.mem_cons_of_mem _ hy)) h3 (λu hu=>h1 u (HQ _ hu))
  exact⟨⟨(x,u1),hx x (List.mem_cons_self ..),A8 _ (HC x) h2,λu hu=>h1 u (Ix _ hu)⟩::ds,rfl,rfl⟩
theorem V5{β:Type}{v:β->AV}{Ok:β->Prop}:∀(ds:List (J6 C w v Ok)),Ab C w (flat ((ds.map λx=>x.1.1).map v)) mu (ds.map J6.enc).flatten
 |[]=>by unfold flat;simp only[List.map_nil,K2];unfold Ab;rfl
 |x::ds=>by
  have e:flat (((x::ds).map λx=>x.1.1).map v)=(v x.1.1).cells++flat ((ds.map λx=>x.1.1).map v):=rfl
  rw[e];exact AF (Ab.mono (Ext.refl _ _) _ (AI.none _) x.2.2.1) (V5 ds)
theorem Rv{α:Type}{enc:α->List Value}{k:Nat}(hk:∀x,(enc x).length=k):∀(ds:List α)(j:Nat)(h:j<ds.length*k),∃h1:j/k<ds.length,(ds.map enc).flatten[j]?=(enc ds[j/k])[j%k]?
 |[],j,h=>by simp at h
 |x::ds,j,h=>by
  have k0:0<k:=by rcases Jg k with h'|h'
                  · subst h';simp at h
                  · exact h'
  by_cases hj:j<k
  ·refine⟨by rw[Li hj];simp,?_⟩
   simp only[G2,GW];rw[List.getElem?_append_left (by rw[hk];exact hj)]
   simp only[Li hj,Nat.mod_eq_of_lt hj,List.getElem_cons_zero]
  ·have hd:j/k=(j-k)/k+1:=by
    rw[show j=(j-k)+k by omega,Nat.add_div_right _ k0];simp
   have hm:j%k=(j-k)%k:=by rw[Nat.mod_eq_sub_mod (by omega)]
   have h':j-k<ds.length*k:=by simp[Nat.add_mul]at h;omega
   obtain⟨h1,h2⟩:=Rv hk ds (j-k) h';refine⟨by rw[hd];simp;exact h1,?_⟩
   simp only[G2,GW];rw[List.getElem?_append_right (by rw[hk];omega),hk,h2,hm]
   simp only[hd,List.getElem_cons_succ]
theorem Ru{α:Type}{enc:α->List Value}{k:Nat}(hk:∀x,(enc x).length=k):∀(ds:List α),(ds.map enc).flatten.length=ds.length*k
 |[]=>by simp
 |x::ds=>by simp only[G2,GW,List.length_append,hk,Ru hk ds,List.length_cons,Nat.add_mul];omega
theorem gY{α:Type} [Inhabited α]{enc:α->List Value}{k:Nat}(hk:∀x,(enc x).length=k)(d:Array α):(flatK enc k d).toList=(d.toList.map enc).flatten:=by
 apply F0;intro j;by_cases hj:j<d.size*k
 ·obtain⟨h1,h2⟩:=Rv hk d.toList j (by simpa using hj)
  rw[h2];have h1':j/k<d.size:=by simpa using h1
  have:=get_flatK enc k d j hj;have hs:j<(flatK enc k d).size:=by rw[size_flatK];exact hj
  rw[getElem!_pos (flatK enc k d) j hs]at this
  have k0:0<k:=by rcases Jg k with h'|h'
                  · subst h';simp at hj
                  · exact h'
  have hl:j%k<(enc d[j/k]).length:=by rw[hk];exact Nat.mod_lt _ k0
  rw[getElem!_pos d (j/k) h1',getElem!_pos _ (j%k) hl]at this;rw[DG,C3 hs,this];simp only[Array.getElem_toList];rw[E0 hl]
 ·rw[C4 (by simp;omega),C4 (by rw[Ru hk];simpa using hj)]
theorem grown_of{W W':World}(h:Go.RowKit.Below W.heap.size W W')(h4:W.drawn<=W'.drawn):∃q os,W'=grow (W.drewN q) os:=by
 refine⟨W'.drawn-W.drawn,W'.heap.extract W.heap.size W'.heap.size,?_⟩;obtain⟨h1,h2,h3,h5,h6⟩:=h;cases W' with
 |mk heap tape drawn os output=>
  simp only at h1 h2 h3 h4 h5 h6;subst h1 h2 h3;unfold grow World.drewN;simp only[World.mk.injEq,true_and,and_true];refine⟨?_,by omega⟩
  apply Jh;intro i;by_cases hi:i<W.heap.size;·rw[FX hi,h6 i hi]
  ·rw[Array.getElem?_append_right (by omega)]
   simp only[Hx];by_cases Sg:i<heap.size;·rw[if_pos (by omega)];congr 1;omega
   ·rw[if_neg (by omega),Ff (by omega)]
theorem PK{α:Type} [Inhabited α](enc:α->List Value)(k b m:Nat)(dk:Array α)(os:Array Obj){i:Nat}(hi:i<w.heap.size):
  (sortWorldK enc k w b 0 m dk os).heap[i]?=if i=b then w.heap[i]?.map (onCells (putCells id 0 (flatK enc k dk)))else w.heap[i]?:=by
 unfold sortWorldK grow putRowK putRow mapBlock Sort.ahead;simp only;rw[FX (by simpa using hi),Array.getElem?_modify]
 by_cases h:b=i;·subst h;simp
 ·rw[if_neg h,if_neg (Ne.symm h)]
theorem LJ{α:Type} [Inhabited α](enc:α->List Value)(k b m:Nat)(dk:Array α)(os:Array Obj):w.heap.size<=(sortWorldK enc k w b 0 m dk os).heap.size:=by
 unfold sortWorldK grow putRowK putRow mapBlock Sort.ahead;simp
theorem ZfD{β:Type}{ρ:Ren}(L:SlLaysF0.n6 P ρ)(k:Nat)(aE:∀w,(isAgg (ρ.t 24)).run P w=.ok true w)(zE:∀w,(Go.sizeOf (ρ.t 24)).run P w=.ok k w)(hg6:Cq P (ρ.f 6)=true)(g:Nat)
  (eg:∀args w,(callFunc g args).run P w=.ok (.enter g args) w) (v:β->AV) (Ok:β->Prop) (cf:β->β->Int) (ZjK:∀x,¬cf x x<0) (htr:∀x y z,cf x y<0->cf y z<0->cf x z<0) (Zjs:∀x y z,¬cf x y<0->¬cf y z<0->¬cf x z<0)
  (hv:∀x,∃cs,v x=.agg cs/\cs.length=k/\An cs=true) (vF:∀x y,Ok x->Ok y->AO P g [v x,v y] (λr=>r=.int .i64 (cf x y)))
  (l:List β) (hl:l.length<4611686018427387904) (hx:∀x∈l,Ok x) (e:TypeId):
  Ed P (ρ.f 6) [.own 0 k 0 l.length,.fn g []] e k (l.map v) (λr es=>r=.tuple []/\∃l':List β,es=l'.map v/\l'.Perm l/\l'.Pairwise λx y=>¬cf y x<0):=by
 refine⟨hg6,λC mu w vs AP hh hr=>?_⟩
 have hvc:∀x,An (v x).cells=true/\(v x).cells.length=k:=λx=>by
  obtain⟨cs,h1,h2,h3⟩:=hv x;rw[h1];exact⟨h3,h2⟩
 unfold Ab at hr;obtain⟨v1,_,rfl,vI,hr⟩:=hr;unfold Ab at hr;obtain⟨v2,_,rfl,gD,hr⟩:=hr;unfold Ab at hr;subst hr;unfold Ah at vI gD;obtain⟨x,hm,_,_,rfl⟩:=vI;obtain⟨cb,rfl,hcb⟩:=gD;unfold Ab at hcb;subst hcb;obtain⟨HC,ME⟩:=hh.BM 0 e k (l.map v) rfl;rcases ME with⟨m0,Zds⟩|⟨b,cap,cur,m0,⟨fz,hb,O3⟩,hle,HR,gM,Uk,VC⟩
 ·have Yv:l=[]:=by simpa using Zds
  subst Yv;rw[m0]at hm;simp only[DE.injEq,GO.arr.injEq]at hm;subst hm;refine(AnyF.slices_SortFunc_none L none 0 (.func (.func g) #[] #[]) w).mono λen w' h=>?_
  obtain⟨rfl,rfl⟩:=h;exact⟨.tuple [],_,[],C,rfl,⟨rfl,[],rfl,.nil,.nil⟩,rfl,⟨⟨rfl,rfl,rfl,Cb _,λ_ _=>rfl⟩,λ_ _ h=>h,λb o hc=>⟨AP.lt b o hc,.inl hc⟩,λ_ _ h=>h,λl g b h1 h2=>.inl ⟨l,g,h1,h2⟩⟩,hh,by unfold Ah;exact⟨[],rfl,by unfold Ab;rfl⟩⟩
 ·rw[m0]at hm;simp only[DE.injEq,GO.arr.injEq]at hm;subst hm;have hbf:=hh.fresh 0 _ b m0 rfl;have hblk:b<w.heap.size:=hbf.2.1;have hlen:(l.map v).length=l.length:=by simp
  rw[hlen]at hle Uk m0;have hrl:=Ap _ Uk;obtain⟨ds,vV,Zj1⟩:=jS v Ok (λx=>(hvc x).1) l hx Uk (λu hu=>VC u (List.mem_of_mem_take hu))
  have hk:∀x:J6 C w v Ok,x.enc.length=k:=λx=>by
   have:=Ap _ x.2.2.1;rw[(hvc _).2]at this;exact this
  have SE:ds.length=l.length:=by rw[<-vV];simp
  by_cases Yv:l=[]
  ·subst Yv;refine(AnyF.slices_SortFunc_none L (some ⟨b,0+0*k,none⟩) (cap-0) (.func (.func g) #[] #[]) w).mono λen w' h=>?_
   obtain⟨rfl,rfl⟩:=h;exact⟨.tuple [],_,[],C,rfl,⟨rfl,[],rfl,.nil,.nil⟩,rfl,⟨⟨rfl,rfl,rfl,Cb _,λ_ _=>rfl⟩,λ_ _ h=>h,λb o hc=>⟨AP.lt b o hc,.inl hc⟩,λ_ _ h=>h,λl g b h1 h2=>.inl ⟨l,g,h1,h2⟩⟩,hh,by unfold Ah;exact⟨[],rfl,by unfold Ab;rfl⟩⟩
  ·have d0:J6 C w v Ok:=ds[0]'(by rw[SE];exact List.length_pos_iff.2 Yv)
   letI:Inhabited (J6 C w v Ok):=⟨d0⟩
   have Uo:∀d:Array (J6 C w v Ok),(flatK J6.enc k d).toList=(d.toList.map J6.enc).flatten:=λd=>gY hk d
   have hH:HoldsK J6.enc k w b 0 ds.toArray:=by
    intro j hj;rw[size_flatK]at hj;simp only[List.size_toArray,SE]at hj;have gH:j<cur.size:=by rw[gM];exact D0 hj (II k hle)
    have Va:(flatK J6.enc k ds.toArray)[j]?=cur[j]?:=by
     rw[<-DG,Uo,<-Zj1,G1 hj,DG]
    have hjs:j<(flatK J6.enc k ds.toArray).size:=by rw[size_flatK];simpa[SE]using hj
    rw[getElem!_pos _ j hjs];rw[C3 hjs,C3 gH]at Va;simp only[DE.injEq]at Va;rw[Va,Nat.zero_add];refine⟨?_,?_⟩;·rw[cell_of_row w b j cur e _ hb,C3 gH];rfl
    ·exact Rq hb O3 gH
   have gK:∀m (dk:Array (J6 C w v Ok)) os,Ext C C w (sortWorldK J6.enc k w b 0 m dk os):=λm dk os=>⟨λ_ _ h=>h,λb' o hc=>by
    have Bq:b'≠b:=λh=>hbf.2.2 o (by rw[<-h];exact hc)
    rw[PK J6.enc k b m dk os (AP.lt b' o hc),if_neg Bq]⟩
   have Zj3:CmpLays P g #[] J6.enc k (λx y:J6 C w v Ok=>cf x.1.1 y.1.1) b 0 ds.toArray.size w:=by
    intro m os dk EI x y;have Mw:=gK m dk os;have Fj:cM C (sortWorldK J6.enc k w b 0 m dk os):=AP.mono Mw λb' o hc=>D0 (AP.lt b' o hc) (LJ J6.enc k b m dk os)
    have hr:∀z:J6 C w v Ok,Ah C (sortWorldK J6.enc k w b 0 m dk os) (v z.1.1) Mu.none (.agg z.enc.toArray):=λz=>by
     obtain⟨cs,h1,h2,h3⟩:=hv z.1.1;have h4:=z.2.2.1;rw[h1]at h4 ⊢;unfold Ah;exact⟨z.enc,rfl,Ab.mono Mw _ (AI.refl _) h4⟩
    have hc:=(vF x.1.1 y.1.1 x.2.1 y.2.1).out C _ [.agg x.enc.toArray,.agg y.enc.toArray] Fj (by
     unfold Ab;refine⟨_,_,rfl,hr x,?_⟩;unfold Ab;refine⟨_,_,rfl,hr y,?_⟩;unfold Ab;rfl)
    refine Calls.mono (by simpa using xE hc) λen w' h=>?_
    obtain⟨⟨r,u,rfl,rfl,MC,hu⟩,hup⟩:=h;unfold Ah at hu;obtain⟨rfl,_⟩:=hu;exact⟨rfl,grown_of MC (hup _ rfl)⟩
   have hO:SWO (ltOf λx y:J6 C w v Ok=>cf x.1.1 y.1.1):=⟨λx=>by simp[ltOf];have:=ZjK x.1.1;omega,λx y z h1 h2=>by simp only[ltOf,decide_eq_true_eq]at *;exact htr _ _ _ h1 h2,
    λx y z h1 h2=>by simp only[ltOf,decide_eq_false_iff_not]at *;exact Zjs _ _ _ h1 h2⟩
   have main:=AnyQ.slices_SortFunc L k aE zE J6.enc hk (λx=>x.2.2.2) (λx y:J6 C w v Ok=>cf x.1.1 y.1.1) hO g #[] b 0 cap ds.toArray w eg Zj3 hH hblk (by simpa[SE]using hl)
   rw[show ds.toArray.size=l.length by simpa using SE]at main
   have Zkh:[BO (.slice (some ⟨b,0,none⟩) (l.map v).length cap) k 0 l.length,Value.func (.func g) #[] #[]].toArray=#[Value.slice (some ⟨b,0,none⟩) l.length cap,.func (.func g) #[] #[]]:=by simp[BO]
   rw[Zkh];refine main.mono λen w' h=>?_
   obtain⟨rfl,d',n,os,hp,hs,rfl⟩:=h;have pD:d'.size=l.length:=by have:=hp.1;simpa[SE]using this
   have Zgo:d'.toList.Perm ds:=by
    have:=hp.2.2;rw[<-SE]at this
    have e1:d'.extract 0 ds.length=d':=by
     apply Jh;intro i
     by_cases hi:i<d'.size;·rw[Hx,if_pos (by omega)];simp
     ·rw[Ff (by simp;omega),Ff (by omega)]
    have e2:ds.toArray.extract 0 ds.length=ds.toArray:=by simp
    rw[e1,e2]at this;simpa using this
   have Mw:=gK n d' os;have Zcd:=PK (w:=w) J6.enc k b n d' os hblk;rw[if_pos rfl,hb]at Zcd
   have Zjk:(putCells id 0 (flatK J6.enc k d') cur).toList.take (l.length*k)=(d'.toList.map J6.enc).flatten:=by
    rw[<-Uo];apply F0;intro j;by_cases hj:j<l.length*k
    ·have gH:j<cur.size:=by rw[gM];exact D0 hj (II k hle)
     have hj3:j<(flatK J6.enc k d').size:=by rw[size_flatK,pD];exact hj
     rw[G1 hj,DG,DG];unfold putCells;rw[Array.getElem?_mapIdx,C3 gH,C3 hj3];simp only[MJ,DE.injEq];rw[if_pos ⟨Nat.zero_le _,by omega⟩,Nat.sub_zero,getElem!_pos _ j hj3]
     rfl
    ·rw[C4 (by simp;omega),C4 (by simp[pD];omega)]
   refine⟨.tuple [],_,(d'.toList.map λx=>x.1.1).map v,C,rfl,⟨rfl,d'.toList.map λx=>x.1.1,rfl,?_,?_⟩,by simp[pD],⟨⟨rfl,rfl,rfl,LJ J6.enc k b n d' os,λb' MC=>?_⟩,λ_ _ h=>h,λb' o hc=>⟨D0 (AP.lt b' o hc) (LJ J6.enc k b n d' os),.inl hc⟩,λ_ _ h=>h,λl g b h1 h2=>.inl ⟨l,g,h1,h2⟩⟩,⟨λi x hi=>by have:=hh.Is i x hi;simpa using this,λi x b' hi MC=>?_,hh.sep,λi hi=>?_,λi cs hi=>?_,λi e' BI Cg hi=>?_,λi ks us hi=>?_⟩,by unfold Ah;exact⟨[],rfl,by unfold Ab;rfl⟩⟩
   ·rw[<-vV];exact Zgo.map _
   ·rw[List.pairwise_map,List.pairwise_iff_getElem];intro i j hi hj PB;have Fk:i<d'.size:=by simpa using hi
    have hj':j<d'.size:=by simpa using hj
    have:=hs i j (Nat.zero_le _) PB (by omega)
    rw[getElem!_pos d' i Fk,getElem!_pos d' j hj']at this;simp only[ltOf,decide_eq_false_iff_not]at this;simpa using this
   ·rw[PK J6.enc k b n d' os MC.1,if_neg (λh=>MC.2 0 _ m0 (by rw[h];rfl))]
   ·obtain⟨k1,k2,k3⟩:=hh.fresh i x b' hi MC;exact⟨k1,D0 k2 (LJ J6.enc k b n d' os),k3⟩
   all_goals
    match i,hi with
    |0,hi=>?_
    |i+1,hi=>simp at hi
   all_goals simp only[List.getElem?_cons_zero,DE.injEq,HO.arr.injEq,reduceCtorEq]at hi
   obtain⟨rfl,rfl,rfl⟩:=hi;refine⟨λa ha=>?_,.inr ⟨b,cap,putCells id 0 (flatK J6.enc k d') cur,by simpa[pD]using m0,⟨fz,Zcd,O3.size (by unfold putCells;simp)⟩,by simpa[pD]using hle,HR,by unfold putCells;simpa using gM,?_,λu hu=>?_⟩⟩
   ·obtain⟨x,_,rfl⟩:=List.mem_map.1 ha;exact(hvc x).2
   ·rw[show((d'.toList.map λx=>x.1.1).map v).length=l.length by simp[pD],Zjk]
    exact Ab.mono Mw _ (AI.refl _) (V5 d'.toList)
   ·rw[Fy]at hu;obtain⟨j,hj,rfl⟩:=Array.mem_iff_getElem.1 hu;unfold putCells at hj⊢;have gH:j<cur.size:=by simpa using hj
    rw[Array.getElem_mapIdx];split
    ·rename_i O1;have hj3:j<(flatK J6.enc k d').size:=by omega
     rw[Nat.sub_zero,getElem!_pos _ j hj3];have MA:(flatK J6.enc k d')[j]∈(flatK J6.enc k d').toList:=by rw[Fy];exact Kr hj3
     rw[Uo]at MA;obtain⟨q,hq,hq2⟩:=List.mem_flatten.1 MA;obtain⟨y,_,rfl⟩:=List.mem_map.1 hq;exact y.2.2.2 _ hq2
    ·exact VC _ (by rw[Fy];exact Kr gH)
end
section
variable {G:Cx}{C:Ae}{w w':World}{mu:Mu}{H:List HO}{E:List AV}{a:Act}{P:Program}{K:KK}{X:XX}
theorem iO(h:Az G C mu E H a w){l1 b1 b2 n:Nat}{cs1 cs2:List AV}{Sk:Array Value}{ee:TypeId}(O0:H[l1]?=some (.cells cs1))(hm1:mu l1=some (.CS b1))(G0:w.heap[b2]?=some (.cells Sk ee (0,0)))
  (gD:Ab C w cs2 mu Sk.toList) (h12:∀v∈Sk.toList,v.oneCell'=true) (n1:cs1.length=n) (n2:cs2.length=n) {ts el ty:TypeId} (KF:G.P.underlying ts=some (.slice el)) (EI:(G.P.info? el).map (·.size)=some 1):
  ∃w',(Builtin.copy_ #[ts,ts] ty #[.slice (some ⟨b1,0,none⟩) n n,.slice (some ⟨b2,0,none⟩) n n]).run G.P w=.ok (goInt n) w'/\Az G C mu E (H.set l1 (.cells cs2)) a w':=by
 obtain⟨b',Yg,e1,VD,PC,vI,h11⟩:=h.heap.Cr l1 cs1 O0;rw[hm1]at VD;simp only[DE.injEq,GO.CS.injEq]at VD;subst VD;have k1:=Ap _ vI;have k2:=Ap _ gD
 have s1:Yg.size=n:=by have:Yg.size=Yg.toList.length:=by simp
                       omega
 have s2:Sk.toList.length=n:=by omega
 have FZ:(Yg.toList.take 0++Sk.toList++Yg.toList.drop (0+Sk.toList.length)).toArray=Sk:=by
  rw[List.drop_eq_nil_of_le (by have:Yg.toList.length=Yg.size:=by simp
                                omega)]
  simp
 have A0:=run_copy_row (P:=G.P) w ts ts ty el b1 0 n n ⟨b2,0,none⟩ n n Yg e1 Sk.toList KF EI PC (by rw[s2];simp) (λj v hj=>by
   have ZdU:(⟨b2,0,none⟩:Addr).add j=⟨b2,j,none⟩:=by unfold Addr.add;split<;>simp_all
   rw[ZdU,cell_of_row w b2 j Sk ee _ G0,<-DG,hj]) (by omega) h12
 rw[FZ,s2]at A0
 have My:mu.set l1 (some (.CS b1))=mu:=by
  funext i;by_cases e:i=l1
  ·subst e;rw[Mu.As,hm1]
  ·rw[Mu.Ay _ _ e]
 refine⟨_,A0,?_⟩;have hx:=F3 (w:=w) (h.heap.fresh _ _ _ hm1 rfl).2.2 Sk;have AP:l1<H.length:=(Eu.1 O0).1
 have:=Az.write (g:=.CS b1) (g':=.CS b1) h hm1 rfl (new:=Sk) PC (.cells cs2) rfl (λ_ h=>h) (λ_ h=>h) (E':=E)
  (by rw[My];exact Ab.mono hx _ (AI.refl _) h.env) (H.set l1 (.cells cs2)) (by simp)
  (λi hi=>by
   rw[Bv (Ne.symm hi),My]
   exact⟨λh=>h,λcs h=>⟨cs,h,λ_ h=>h⟩,λ_ _ _ h=>h,λcs _ _ h=>⟨cs,h,λ_ h=>h⟩,λ_ h=>h⟩)
  (by simp) (by simp[AP])
  (λcs' hc=>by
   simp only[HO.cells.injEq]at hc
   subst hc
   exact⟨rfl,gD,h12⟩)
  (by simp)
  (λi hi ks vs h=>by rw[Bv (Ne.symm hi)]at h;exact h)
 rw[My]at this;exact this
theorem sZ{xs ys:List AV}{vs:List Value}(h:Ab C w xs mu vs)(hl:ys.length=xs.length)(hi:∀i:Nat,ys[i]?=some .any\/ys[i]?=xs[i]?):Ab C w ys mu vs:=by
 obtain⟨h1,h2⟩:=(AH _).1 h;refine(AH _).2 ⟨by omega,λi yP Sg=>?_⟩
 rcases hi i with e|e
 ·rw[E0 yP]at e;rw[DE.inj e];unfold Ah;trivial
 ·rw[E0 yP,E0 (by omega:i<xs.length)]at e
  rw[DE.inj e];exact h2 i (by omega) Sg
theorem Aa.Zbh{id:Nat}{ops:Array Oper}{s1 s2 s3 y1 y2:Tmp}{t ts el:TypeId}{l1 l2 n:Nat}{cs1 cs2:List AV}(o1 o2 o3:Oper)(hm:P.follows .mixedOrders=true)
  (g1:ops[0]?=some o1/\o1.op=.slice t (.tmp y1) none none none/\o1.dst=some s1/\o1.guard=none) (g2:ops[1]?=some o2/\o2.op=.slice t (.tmp y2) none none none/\o2.dst=some s2/\o2.guard=none)
  (g3:ops[2]?=some o3/\o3.op=.call {callee:=.builtin .copy,args:=#[.tmp s1,.tmp s2],argTypes:=#[ts,ts]}/\o3.dst=some s3/\o3.guard=none)
  (hr:ops.size=3/\Eg .any ops #[false,false,false]=[0,1]/\Eg .any ops #[true,false,false]=[1]/\Eg .any ops #[false,true,false]=[0]/\Eg .any ops #[true,true,false]=[2]/\Eg .any ops #[true,true,true]=[])
  (yE:P.underlying t=some (.array n el)) (KF:P.underlying ts=some (.slice el)) (EI:(P.info? el).map (·.size)=some 1)
  (vB:AM E (.tmp y1)=.ptr l1 0) (hx2:AM E (.tmp y2)=.ptr l2 0) (hd:y1≠s2/\y2≠s1/\s2≠s1) (AP:s1<E.length/\s2<E.length) (O0:H[l1]?=some (.cells cs1)) (ND:H[l2]?=some (.cells cs2)) (n1:cs1.length=n) (n2:cs2.length=n)
  (hk:K (((E.set s1 .any).set s2 .any).set s3 .any) (H.set l1 (.cells cs2))):Aa P (.region id ops true) E H K X:=
 ⟨λm G a w0 hP Ui=>by
  obtain⟨C,mu,Ui⟩:=Ui
  subst hP
  have Af:Az G C mu E H a w0.drew:=Ui.drew
  refine wpIn_region_any hm ?_
  show wpAnyIn _ _ _ _ _ _ _ _ a w0.drew
  generalize w0.drew=w at Af⊢
  obtain⟨i1,p1,d1,gu1⟩:=g1
  obtain⟨i2,p2,d2,gu2⟩:=g2
  obtain⟨i3,p3,d3,gu3⟩:=g3
  obtain⟨ZbW,r0,r1,r2,r3,r4⟩:=hr
  obtain⟨Qt,X1,yQ⟩:=hd
  obtain⟨XZ,Zdx⟩:=AP
  obtain⟨b1,Yg,e1,m1,PC,q1,k1⟩:=Af.heap.Cr l1 cs1 O0
  obtain⟨b2,Sk,e2,m2,G0,q2,k2⟩:=Af.heap.Cr l2 cs2 ND
  have hlen:G.P.arrayLen t=n:=by unfold Program.arrayLen;rw[yE]
  have vT:G.P.elem t=el:=by unfold Program.elem;rw[yE]
  have Zi7:G.P.underlying t=some (.array (G.P.arrayLen t) (G.P.elem t)):=by rw[hlen,vT];exact yE
  obtain⟨inf,ZjM,NF⟩:∃i,G.P.info? el=some i/\i.size=1:=by
   cases hq:G.P.info? el with
   |none=>rw[hq]at EI;cases EI
   |some i=>rw[hq]at EI;simpa using EI
  have hso:∀w,(sizeOf (G.P.elem t)).run G.P w=.ok 1 w:=λw=>by rw[vT];simp[sizeOf,typeInfo,ZjM,NF]
  have fY:∀(b:Nat)(w:World),(Instr.sliceAt t (.pointer (some ⟨b,0,none⟩)) none none none).run G.P w=.ok (.slice (some ⟨b,0,none⟩) n n) w:=λb w=>by
   rw[run_sliceAt_array_all w t _ Zi7,hso,hlen];simp only[Result.andThen,slicedAt];have:(⟨b,0,none⟩:Addr).add (0*1)=⟨b,0,none⟩:=by unfold Addr.add;split<;>simp_all
   simp[this]
  -- a slice of one of Zmf
  have doS:∀(i:Nat)(o:Oper)(y s l b:Nat),ops[i]?=some o->o.op=.slice t (.tmp y) none none none->o.dst=some s->o.guard=none->mu l=some (.CS b)->∀(a:Act)(E1:List AV),Az G C mu E1 H a w->AM E1 (.tmp y)=.ptr l 0->
    ∀next:Act->World->Prop,(∀a',Az G C mu (E1.set s (.raw (.slice (some ⟨b,0,none⟩) n n))) H a' w->next a' w)->wpOpIn (fw G.rd) m G.P ops (Mg G K X) i next a w:=by
   intro i o y s l b ho Py ZjZ hgu yM a E1 hs1 hy next hn;have v1:=AX hs1.env (.tmp y);rw[hy]at v1;unfold Ah at v1;obtain⟨c1,j1,v1⟩:=v1;rw[yM]at j1;simp only[DE.injEq,GO.CS.injEq]at j1;subst j1;unfold wpOpIn;rw[ho];simp only;rw[if_pos (by simp[MQ,hgu])]
   refine Bz (λc hc=>by rw[Py]at hc;cases hc) ?_
   unfold Oper.wp;rw[show(execOp a.eval o).run G.P w=.ok (.value (.slice (some ⟨b,0,none⟩) n n)) w from AZ (s:=Instr.sliceAt t (a.eval (.tmp y)) none none none) (by simp[execOp,Py]) (by rw[v1];exact fY b w)]
   refine hn _ ?_;have:=hs1.frame (Bf hs1.env o.dst (x:=.raw (.slice (some ⟨b,0,none⟩) n n)) (by unfold Ah;rfl)) (put_defers a o.dst _)
   rw[ZjZ]at this ⊢
   exact this
  have do3:∀(a:Act)(E1:List AV),Az G C mu E1 H a w->AM E1 (.tmp s1)=.raw (.slice (some ⟨b1,0,none⟩) n n)->AM E1 (.tmp s2)=.raw (.slice (some ⟨b2,0,none⟩) n n)->
    (E1.length=E.length/\∀i,i≠s1->i≠s2->E1[i]?=E[i]?)->wpOpIn (fw G.rd) m G.P ops (Mg G K X) 2 (wpAnyIn (fw G.rd) m G.P .any ops (Mg G K X) 0 #[true,true,true]) a w:=by
   intro a E1 st2 x1 x2 hE;have u1:=AX st2.env (.tmp s1);have u2:=AX st2.env (.tmp s2);rw[x1]at u1;rw[x2]at u2;unfold Ah at u1 u2;obtain⟨w3,A0,st3⟩:=iO (ty:=o3.type) st2 O0 m1 G0 q2 k2 n1 n2 KF EI;unfold wpOpIn;rw[i3];simp only;rw[if_pos (by simp[MQ,gu3])]
   refine Bz (λc hc=>by rw[p3]at hc;cases hc) ?_
   unfold Oper.wp;rw[show(execOp a.eval o3).run G.P w=.ok (.value (goInt n)) w3 by simp[execOp,p3,resolve,invoke,builtin,u1,u2,A0]]
   have st4:=st3.frame (Bf st3.env o3.dst (x:=.any) (by unfold Ah;trivial)) (put_defers a o3.dst (goInt n))
   show wpAnyIn _ _ _ _ _ _ _ _ (a.put o3.dst _) w3
   unfold wpAnyIn;refine⟨r4,_,_,hk,C,mu,st4.frame ?_ rfl⟩;refine sZ st4.env (by simp[A6,d3,hE.1]) λi=>?_
   simp only[A6,d3];by_cases j3:i=s3
   ·subst j3;by_cases hi:i<E.length;·exact .inl (by rw[C0 (by simpa using hi)])
    ·exact .inr (by rw[C4 (by simp;omega),C4 (by simp[hE.1];omega)])
   ·rw[Bv (Ne.symm j3),Bv (Ne.symm j3)];by_cases j2:i=s2
    ·subst j2;exact .inl (by rw[C0 (by simpa using Zdx)])
    ·rw[Bv (Ne.symm j2)];by_cases j1:i=s1
     ·subst j1;exact .inl (by rw[C0 XZ])
     ·exact .inr (by rw[Bv (Ne.symm j1),hE.2 i j1 j2])
  have X8:∀(L:List AV)(s y:Nat)(x:AV),y≠s->AM (L.set s x) (.tmp y)=AM L (.tmp y):=λL s y x h=>by
   simp only[AM,C2];rw[Bv (Ne.symm h)]
  have SG:∀(L:List AV)(s:Nat)(x:AV),s<L.length->AM (L.set s x) (.tmp s)=x:=λL s x h=>by
   simp only[AM,C2];rw[C0 h];rfl
  have Fi:H4 ops.size false=#[false,false,false]:=by rw[ZbW];rfl
  rw[Fi,ZbW];unfold wpAnyIn;refine⟨λh=>by rw[r0]at h;(cases h),λi hi=>?_⟩
  rw[r0]at hi;simp only[Hs,List.not_mem_nil,or_false]at hi;rcases hi with rfl|rfl
  ·refine doS 0 o1 y1 s1 l1 b1 i1 p1 d1 gu1 m1 a E Af vB _ λa' st1=>?_
   show wpAnyIn _ _ _ _ _ _ _ #[true,false,false] a' w
   unfold wpAnyIn;refine⟨λh=>by rw[r1]at h;(cases h),λi hi=>?_⟩
   rw[r1]at hi;obtain rfl:=E8.1 hi;refine doS 1 o2 y2 s2 l2 b2 i2 p2 d2 gu2 m2 a' _ st1 (by rw[X8 _ _ _ _ X1];exact hx2) _ λa2 st2=>?_
   show wpAnyIn _ _ _ _ _ _ _ #[true,true,false] a2 w
   unfold wpAnyIn;refine⟨λh=>by rw[r3]at h;(cases h),λi hi=>?_⟩
   rw[r3]at hi;obtain rfl:=E8.1 hi;exact do3 a2 _ st2 (by rw[X8 _ _ _ _ (Ne.symm yQ),SG _ _ _ XZ]) (SG _ _ _ (by simpa using Zdx)) ⟨by simp,λi j1 j2=>by rw[Bv (Ne.symm j2),Bv (Ne.symm j1)]⟩
  ·refine doS 1 o2 y2 s2 l2 b2 i2 p2 d2 gu2 m2 a E Af hx2 _ λa' st1=>?_
   show wpAnyIn _ _ _ _ _ _ _ #[false,true,false] a' w
   unfold wpAnyIn;refine⟨λh=>by rw[r2]at h;(cases h),λi hi=>?_⟩
   rw[r2]at hi;obtain rfl:=E8.1 hi;refine doS 0 o1 y1 s1 l1 b1 i1 p1 d1 gu1 m1 a' _ st1 (by rw[X8 _ _ _ _ Qt];exact vB) _ λa2 st2=>?_
   show wpAnyIn _ _ _ _ _ _ _ #[true,true,false] a2 w
   unfold wpAnyIn;refine⟨λh=>by rw[r3]at h;(cases h),λi hi=>?_⟩
   rw[r3]at hi;obtain rfl:=E8.1 hi;exact do3 a2 _ st2 (SG _ _ _ (by simpa using XZ)) (by rw[X8 _ _ _ _ yQ,SG _ _ _ Zdx]) ⟨by simp,λi j1 j2=>by rw[Bv (Ne.symm j1),Bv (Ne.symm j2)]⟩⟩
end
section
variable {G:Cx}{C:Ae}{w w':World}{mu:Mu}{H:List HO}{E:List AV}{a:Act}{T:List TY}{P:Program}{K:KK}{X:XX}
def hfK(E:List AV)(H:List HO)(o:Op)(K:AV->KK):Prop:=
 match o with
 |.binOp op t x y _=>(match op with
  |.shr=>(match AM E x with
   |.int k m=>(match AM E y with
    |.int k' n=>((k=.u64/\k'=.u64)/\n=1)/\K (.int .u64 (m/2)) E H
    |_=>False)
   |_=>False)
  |_=>False)
 |_=>False
theorem gJ{o:Oper}{K:AV->KK}{Kn:KK}{r:Option Nat}{n:Nat}(h:hfK E H o.op K)(Af:Az G C mu E H a w){next:Act->World->Prop}(hn:∀a w,IQ G o K a w->next a w):
  o.wpIn (fw r) n G.P a w next (Mg G Kn X):=by
 unfold hfK at h;split at h;case h_2=>exact h.elim
 rename_i op t x y e1 ho;cases op<;>first|exact h.elim|skip
 have hx:=AX Af.env x;have hy:=AX Af.env y;simp only at h;split at h;case h_2=>exact h.elim
 rename_i k m hex;rw[hex]at hx;split at h;case h_2=>exact h.elim
 rename_i k' n' hey;rw[hey]at hy;obtain⟨⟨⟨rfl,rfl⟩,rfl⟩,hk⟩:=h;obtain⟨hx,hb⟩:=AA hx;obtain⟨hy,_⟩:=AA hy
 have G0:0<=m/\m<=18446744073709551615:=by
  unfold DJ LA Mx at hb;simpa[HM,I0]using hb
 refine Bz (λc hc=>by rw[ho]at hc;cases hc) (AK (X:=X) (Q:=Kn) (v:=.int .u64 (m/2)) hn hk ?_ Af (B7 ?_))
 ·have:m.fdiv (2^1)=m/2:=by rw[FY _ (by decide)];rfl
  simp[execOp,ho,hx,hy,eqGuard,binOp,Op.shift,HM];exact FY _ (by decide)
 ·unfold DJ LA Mx;simp[HM,I0];omega
def Wk(P:Program)(T:List TY)(ops:List Oper)(sp:List Nat):Nat->List Oper->List AV->List HO->KK->XX->Prop
 |_,[],E,H,K,_=>K E H
 |n,o::r,E,H,K,X=>gdK ops E o.guard
   (λE=>match Zar n sp with
    |true=>hfK E H o.op (λv E' H'=>Bu E' o.dst v λHU=>Wk P T ops sp (n+1) r HU H' K X)
    |false=>Ty none P T E H o.op (λv E' H'=>Bu E' o.dst v λHU=>Wk P T ops sp (n+1) r HU H' K X) X)
   (λE=>Bu E o.dst (.raw undef) λE'=>Wk P T ops sp (n+1) r E' H K X)
theorem JJ(hT:BG G.P T){r:Option Nat}{n:Nat}{ops:Array Oper}{sp:List Nat}{K:KK}{X:XX}:∀(l:List Oper)(k:Nat){C:Ae}{mu:Mu}{E:List AV}{H:List HO}{a:Act}{w:World},Wk G.P T ops.toList sp k l E H K X->Az G C mu E H a w->wpListIn (fw r) n G.P ops (Mg G K X) l a w
 |[],k,_,_,_,_,_,_,h,Af=>⟨_,_,h,_,_,Af⟩
 |o::l,k,C,mu,E,H,a,w,h,Af=>by
  unfold Wk at h;unfold wpListIn;rcases HE rfl Af h with⟨hw,E',h1,h2⟩|⟨hw,E',h1,h2⟩
  ·rw[if_pos hw];split at h1
   ·refine gJ h1 h2 λa' w' hp=>?_
    obtain⟨x,HU,H',h3,C',mu',h4⟩:=hp;rw[Au]at h3;exact JJ hT l (k+1) h3 h4
   ·refine DV hT h1 h2 λa' w' hp=>?_
    obtain⟨x,HU,H',h3,C',mu',h4⟩:=hp;rw[Au]at h3;exact JJ hT l (k+1) h3 h4
  ·rw[if_neg (by simp[hw])]
   rw[Au]at h1;exact⟨λ_ _=>trivial,JJ hT l (k+1) h1 (h2.frame (Bf h2.env o.dst (by unfold Ah;rfl)) (put_defers _ _ _))⟩
theorem Aa.Xk(sp:List Nat)(hT:BG P T){id:Nat}{ops:Array Oper}(h:Wk P T ops.toList sp 0 ops.toList E H K X):Aa P (.region id ops false) E H K X:=
 ⟨λn G a w hP Af=>by
  obtain⟨C,mu,Af⟩:=Af
  subst hP
  exact wpIn_region_list (JJ hT _ 0 h Af)⟩
end
open Go.RowKit (Below)
structure xV(P:Program)(f:FuncId)(args:List AV)(e:TypeId)(sz:Nat)(es:List AV):Prop where
 Eh:Cq P f=true
 rows:∀a∈es,a.cells.length=sz
 out:∀(C:Ae)(w:World)(us:List Value),cM C w->Ab C w args Mu.none us->Calls P f us.toArray w λen w'=>∃v,en=.returned v/\Below w.heap.size w w'/\
  ((v=.slice none 0 0/\es=[])\/∃b cap cur,v=.slice (some ⟨b,0,none⟩) es.length cap/\w.heap.size<=b/\bZ w' b cur e/\es.length<=cap/\cap<=9223372036854775807/\cur.size=cap*sz/\
   Ab C w' (flat es) Mu.none (cur.toList.take (es.length*sz))/\∀v∈cur.toList,v.oneCell'=true)
section
variable {G:Cx}{C:Ae}{w w':World}{mu:Mu}{H:List HO}{E:List AV}{a:Act}{P:Program}{K:AV->KK}{X:XX}
theorem Az.ZcX(h:Az G C mu E H a w)(hb:Below w.heap.size w w'){e:TypeId}{sz:Nat}{es:List AV}{v:Value}(vH:∀a∈es,a.cells.length=sz)
  (hv:(v=.slice none 0 0/\es=[])\/∃b cap cur,v=.slice (some ⟨b,0,none⟩) es.length cap/\w.heap.size<=b/\bZ w' b cur e/\es.length<=cap/\cap<=9223372036854775807/\cur.size=cap*sz/\
   Ab C w' (flat es) Mu.none (cur.toList.take (es.length*sz))/\∀v∈cur.toList,v.oneCell'=true):
  Az G C (mu.set H.length (some (.arr v))) E (H++[.arr e sz es]) a w':=by
 obtain⟨n,hn⟩:∃n,n=H.length:=⟨_,rfl⟩;rw[<-hn]
 have Ul:mu n=none:=by
  cases hm:mu n with
  |none=>rfl
  |some x=>exact absurd (h.heap.Is _ _ hm) (by omega)
 have hle:=OJ (mu:=mu) (l:=n) (some (.arr v)) Ul;have hx:Ext C C w w':=Ext.of_block (λ_ _ h=>h) (λb o hc=>hb.block b (h.lt b o hc))
 have KB:∀{g':GO}{l b},mu l=some g'->g'.Aq=some b->b<w.heap.size:=λhm hb=>(h.heap.fresh _ _ _ hm hb).2.1
 have hblk:AI (Bc mu) (Bc (mu.set n (some (.arr v)))):=D2 λl b e=>hle l _ e
 have FZ:∀b,(GO.arr v).Aq=some b->w.heap.size<=b/\b<w'.heap.size:=λb hg=>by
  rcases hv with⟨rfl,_⟩|⟨b',cap,cur,rfl,k1,k2,_⟩;·cases hg
  ·have:b'=b:=by simpa[GO.Aq]using hg
   subst this;exact⟨k1,k2.lt⟩
 have CM:∀{l:Nat}{ob:HO},(H++[HO.arr e sz es])[l]?=some ob->(l≠n/\H[l]?=some ob)\/(l=n/\ob=.arr e sz es):=λ{l ob} hl=>by
  rcases CI hl with⟨h1,h2⟩|⟨h1,h2⟩;·exact .inl ⟨by omega,h2⟩
  ·exact .inr ⟨by omega,h2⟩
 have hs:=hb.size;refine⟨h.c0,h.c1,λb o hc=>by have:=h.lt b o hc;omega,⟨?_,?_,?_,?_,?_,?_,?_⟩,Ab.mono hx _ hle h.env,?_,h.Ax.below hb,by have:=h.Ds.1;simp;omega,λi b hn hi=>hle i _ (h.Ds.2 i b hn hi)⟩
 rotate_right
 ·obtain⟨ms,k1,k2⟩:=h.defers;refine⟨ms,k1,k2.step ⟨hb.os,hb.tape,hb.output,hb.size,λb Yy=>hb.block b Yy.1⟩ (λl g' b hm MC=>?_) (λ_ _ h=>.inl h) (λl cs vs ms hl=>?_) (λl I hl=>?_)⟩
  ·by_cases e:l=n
   ·subst e;rw[Mu.As]at hm;simp only[DE.injEq]at hm;subst hm;exact .inr (FZ b MC).1
   ·rw[Mu.Ay _ _ e]at hm;exact .inl ⟨l,g',hm,MC⟩
  ·rcases CM hl with⟨_,hl⟩|⟨_,hl⟩;·exact⟨cs,hl,Ab.mono hx _ hle⟩
   ·cases hl
  ·rcases CM hl with⟨_,hl⟩|⟨_,hl⟩;·exact hl
   ·cases hl
 ·intro l x hl;by_cases e:l=n;·subst e;simp;omega
  ·rw[Mu.Ay _ _ e]at hl;have:=h.heap.Is _ _ hl;simp;omega
 ·intro l x b hl MC;by_cases e:l=n
  ·subst e;rw[Mu.As]at hl;simp only[DE.injEq]at hl;subst hl;obtain⟨n1,n2⟩:=FZ b MC;exact⟨.inl (Ak h.Ax.size n1),n2,λo hc=>absurd (h.lt _ _ hc) (by omega)⟩
  ·rw[Mu.Ay _ _ e]at hl;obtain⟨k1,k2,k3⟩:=h.heap.fresh _ _ _ hl MC;exact⟨k1,by omega,k3⟩
 ·intro l x b l' x' hl PC Bm G0;by_cases e:l=n
  ·by_cases e':l'=n;·omega
   ·exfalso;subst e;rw[Mu.As]at hl;simp only[DE.injEq]at hl;subst hl;rw[Mu.Ay _ _ e']at Bm;have:=KB Bm G0;have:=(FZ b PC).1;omega
  ·rw[Mu.Ay _ _ e]at hl;by_cases e':l'=n
   ·exfalso;subst e';rw[Mu.As]at Bm;simp only[DE.injEq]at Bm;subst Bm;have:=KB hl PC;have:=(FZ b G0).1;omega
   ·rw[Mu.Ay _ _ e']at Bm;exact h.heap.sep _ _ _ _ _ hl PC Bm G0
 ·intro l hl;rcases CM hl with⟨Yv,hl⟩|⟨_,hl⟩;·rw[Mu.Ay _ _ Yv];exact h.heap.dead l hl
  ·cases hl
 ·intro l cs hl;rcases CM hl with⟨Yv,hl⟩|⟨_,hl⟩
  ·obtain⟨b,cur,e,h1,h2,h3,h4⟩:=h.heap.Cr l cs hl;exact⟨b,cur,e,hle _ _ h1,(hb.block b (KB h1 rfl)).trans h2,Ab.mono hx _ hle h3,h4⟩
  ·cases hl
 ·intro l e' BI Cg hl;rcases CM hl with⟨Yv,hl⟩|⟨rfl,hl⟩
  ·obtain⟨h1,h2⟩:=h.heap.BM l e' BI Cg hl;refine⟨h1,h2.imp (λ⟨k1,k2⟩=>⟨hle _ _ k1,k2⟩) λ⟨b,cap,cur,k1,k2,k3,k4,k5,k6,k7⟩=>⟨b,cap,cur,hle _ _ k1,?_,k3,k4,k5,Ab.mono hx _ hblk k6,k7⟩⟩
   exact k2.of_eq (hb.block b (KB k1 rfl))
  ·injection hl with q1 q2 q3
   subst q1 q2 q3;refine⟨vH,?_⟩;rcases hv with⟨rfl,rfl⟩|⟨b,cap,cur,rfl,k1,k2,k3,k4,k5,k6,k7⟩;·exact .inl ⟨Mu.As _ _ _,rfl⟩
   ·exact .inr ⟨b,cap,cur,Mu.As _ _ _,k2,k3,k4,k5,Ab.mono (Ext.refl _ _) _ (AI.none _) k6,k7⟩
 ·intro l ks vs hl;rcases CM hl with⟨Yv,hl⟩|⟨_,hl⟩
  ·obtain⟨b,es,clock,h1,h2,h3⟩:=h.heap.maps l ks vs hl;exact⟨b,es,clock,hle _ _ h1,(hb.block b (KB h1 rfl)).trans h2,h3⟩
  ·cases hl
theorem Aj.Zc0{f:FuncId}{args:List AV}{e:TypeId}{sz:Nat}{es:List AV}(h:xV P f args e sz es)(hc:An args=true)(hk:K (.own H.length sz 0 es.length) E (H++[.arr e sz es])):Aj P f args E H K X:=by
 refine⟨h.Eh,λG C mu a w vs hP Af hr=>?_⟩
 refine(h.out C w vs Af.qI (A8 args hc hr)).mono λen w' ⟨v,h1,h2,h3⟩=>?_
 refine .inl ⟨_,v,E,_,_,_,h1,hk,Af.ZcX h2 h.rows h3,?_⟩;unfold Ah;refine⟨v,Mu.As _ _ _,?_⟩;rcases h3 with⟨rfl,rfl⟩|⟨b,cap,cur,rfl,_,_,k3,k4,_⟩;·simp[C8,Kk,BO]
 ·simp[C8,Kk,BO,k3,k4]
end
section
variable {G:Cx}{C:Ae}{w w':World}{mu:Mu}{H:List HO}{E:List AV}{a:Act}{T:List TY}{P:Program}{ops:Array Oper}{K:KK}{X:XX}{ι:Type}
def gRI(P:Program)(T:List TY)(Kx:List Oper)(pre:ι->Prop)(E:List AV)(H:List HO)(fE:ι->List Bool->List AV)(X:XX)(b:List Bool):List Nat->Prop
 |[]=>True
 |i::r=>(Cm Kx i λo=>D6 P T Kx o E H (λE2 H2=>∃c,pre c/\E2=fE c (dK b i)/\H2=H) X)/\gRI P T Kx pre E H fE X b r
theorem lU{Kx:List Oper}{pre:ι->Prop}{fE:ι->List Bool->List AV}{b:List Bool}:∀{rs:List Nat},gRI P T Kx pre E H fE X b rs->∀i∈rs,∃o,Kx[i]?=some o/\D6 P T Kx o E H (λE2 H2=>∃c,pre c/\E2=fE c (dK b i)/\H2=H) X
 |[],_,i,hi=>by cases hi
 |j::r,h,i,hi=>by
  obtain⟨h1,h2⟩:=h;rcases Hs.1 hi with rfl|hi;·exact AL.1 h1
  ·exact lU h2 i hi
structure GNI(P:Program)(T:List TY)(Kx:List Oper)(pre:ι->Prop)(E:List AV)(H:List HO)(fE:ι->List Bool->List AV)(K:KK)(X:XX)(b:List Bool)(rs:List Nat):Prop where
 out:match rs with|[]=>K E H|rs=>gRI P T Kx pre E H fE X b rs
def gPI(P:Program)(T:List TY)(Kx:List Oper)(pre:ι->Prop)(c:ι)(H:List HO)(fE:ι->List Bool->List AV)(K:KK)(X:XX):List (List Bool×List Nat)->Prop
 |[]=>True
 |(b,rs)::r=>GNI P T Kx pre (fE c b) H fE K X b rs/\gPI P T Kx pre c H fE K X r
theorem lV{Kx:List Oper}{pre:ι->Prop}{c:ι}{fE:ι->List Bool->List AV}:∀{L:List (List Bool×List Nat)},gPI P T Kx pre c H fE K X L->∀x∈L,GNI P T Kx pre (fE c x.1) H fE K X x.1 x.2
 |[],_,x,hx=>by cases hx
 |(b,rs)::r,h,x,hx=>by
  rcases Hs.1 hx with rfl|hx;·exact h.1
  ·exact lV h.2 x hx
theorem Aa.Zd0{id:Nat}(L:List (List Bool×List Nat))(mS:ι->List (Nat×Nat×AV))(pre:ι->Prop)(c0:ι)(hc:pre c0)(hT:BG P T)(hm:P.follows .mixedOrders=true)(hB:okL ops L=true)
  (h0:mA (mS c0) (List.replicate ops.size false) E=E) (h:∀c,pre c->gPI P T ops.toList pre c H (λc b=>mA (mS c) b E) K X L):Aa P (.region id ops true) E H K X:=by
 unfold okL at hB;simp only[C1,K0,List.any_eq_true,beq_iff_eq]at hB;obtain⟨O5,y0,yB,hy1⟩:=hB;refine Aa.graph (λb E1 H1=>∃x∈L,∃c,pre c/\x.1.toArray=b/\E1=mA (mS c) x.1 E/\H1=H) hT hm ⟨y0,yB,c0,hc,?_,?_,rfl⟩ ?_
 ·rw[UK hy1];simp
 ·rw[UK hy1];exact h0.symm
 ·rintro b E1 H1 ⟨x,hx,c,hc,rfl,rfl,rfl⟩;have hn:=(lV (h c hc) x hx).out;obtain⟨hr,BW⟩:=O5 x hx;obtain⟨xb,rs⟩:=x;simp only at hr BW hn⊢;cases rs with
  |nil=>exact⟨λ_=>hn,λi hi=>by rw[hr]at hi;cases hi⟩
  |cons i0 rs=>
   refine⟨λh0=>(by rw[hr]at h0;cases h0),λi hi=>?_⟩
   rw[hr]at hi;obtain⟨o,ho,hw⟩:=lU hn i hi;refine⟨o,_,by simpa using ho,hw,?_⟩
   rintro E2 H2 ⟨d,hd,rfl,rfl⟩;obtain⟨y,hy,Rj⟩:=BW i hi;exact⟨y,hy,d,hd,by rw[UK Rj,sN],by rw[UK Rj],rfl⟩
end
section
variable {G:Cx}{C:Ae}{w w':World}{mu:Mu}{H:List HO}{E:List AV}{a:Act}{T:List TY}{P:Program}{K:KK}{X:XX}
def fG(T:List TY)(E:List AV)(H:List HO)(o:Op)(K:AV->KK):Prop:=
 match o with
 |.call c=>(match c.callee with
  |.builtin .len=>(match c.args.toList,c.argTypes.toList with
   |[x],[t]=>Cm T t λy=>(match y.k with
    |.map _ _=>(match AM E x with
     |.mp ks _=>ks.length<=1000000000/\K (.int .i64 ks.length) E H
     |_=>False)
    |_=>False)
   |_,_=>False)
  |_=>False)
 |_=>False
theorem uG(hT:BG G.P T)(h:Az G C mu E H a w){t ty:TypeId}{x:Operand}{y:TY}{kt vt:Nat}(hy:T[t]?=some y)(XU:y.k=.map kt vt){ks vs:List AV}(hx:AM E x=.mp ks vs)(hl:ks.length<=1000000000){K:AV->KK}(hk:K (.int .i64 ks.length) E H):
  GM G a w K (KG #[t] ty #[a.eval x]):=by
 have hu:=hT.map hy XU;have hm:=AX h.env x;rw[hx]at hm;unfold Ah at hm;refine⟨_,.int .i64 ks.length,_,_,C,mu,w,hk,?_,h,B7 (Ri.2 (by omega))⟩
 rcases hm with⟨h1,rfl,rfl⟩|⟨b,es,clock,h1,h2,h3,h4,h5,h6⟩
 ·rw[h1];simp[KG,run_underlying hu,goInt]
 ·rw[h1];have hn:es.size=ks.length:=by have:=Ap _ h4;simpa using this
  simp[KG,Sem.run_bind,run_underlying hu,Go.MapKept.run_getObj_map h3,goInt,hn]
theorem ZE(hT:BG G.P T){o:Oper}{K:AV->KK}{Kn:KK}{r:Option Nat}{n:Nat}(h:fG T E H o.op K)(Af:Az G C mu E H a w){next:Act->World->Prop}(hn:∀a w,IQ G o K a w->next a w):
  o.wpIn (fw r) n G.P a w next (Mg G Kn X):=by
 unfold fG at h;cases ho:o.op<;>rw[ho]at h<;>first|exact h.elim|skip
 case call c=>
  simp only at h;split at h;case h_2=>exact h.elim
  rename_i hc;split at h;case h_2=>exact h.elim
  rename_i x t h1 h2;obtain⟨cK,args,Jt⟩:=c;simp only at hc h1 h2;subst hc;obtain rfl:args=#[x]:=by cases args;simp_all
  obtain rfl:Jt=#[t]:=by cases Jt;simp_all
  replace h:=AL.1 h;obtain⟨y,hy,h⟩:=h
  split at h;case h_2=>exact h.elim
  rename_i kt vt XU;split at h;case h_2=>exact h.elim
  rename_i ks vs hx;obtain⟨r,v,E',H',C',mu',w',k1,k2,k3,k4⟩:=uG (ty:=o.type) hT Af hy XU hx h.1 h.2;exact Bz (λc hc=>by rw[ho]at hc;cases hc) (AK (X:=X) (Q:=Kn) hn k1 (by simp[execOp,ho,resolve,invoke,builtin,k2]) k3 k4)
def Wj(P:Program)(T:List TY)(ops:List Oper)(sp:List Nat):Nat->List Oper->List AV->List HO->KK->XX->Prop
 |_,[],E,H,K,_=>K E H
 |n,o::r,E,H,K,X=>gdK ops E o.guard
   (λE=>match Zar n sp with
    |true=>fG T E H o.op (λv E' H'=>Bu E' o.dst v λHU=>Wj P T ops sp (n+1) r HU H' K X)
    |false=>Ty none P T E H o.op (λv E' H'=>Bu E' o.dst v λHU=>Wj P T ops sp (n+1) r HU H' K X) X)
   (λE=>Bu E o.dst (.raw undef) λE'=>Wj P T ops sp (n+1) r E' H K X)
theorem JI(hT:BG G.P T){r:Option Nat}{n:Nat}{ops:Array Oper}{sp:List Nat}{K:KK}{X:XX}:∀(l:List Oper)(k:Nat){C:Ae}{mu:Mu}{E:List AV}{H:List HO}{a:Act}{w:World},Wj G.P T ops.toList sp k l E H K X->Az G C mu E H a w->wpListIn (fw r) n G.P ops (Mg G K X) l a w
 |[],k,_,_,_,_,_,_,h,Af=>⟨_,_,h,_,_,Af⟩
 |o::l,k,C,mu,E,H,a,w,h,Af=>by
  unfold Wj at h;unfold wpListIn;rcases HE rfl Af h with⟨hw,E',h1,h2⟩|⟨hw,E',h1,h2⟩
  ·rw[if_pos hw];split at h1
   ·refine ZE hT h1 h2 λa' w' hp=>?_
    obtain⟨x,HU,H',h3,C',mu',h4⟩:=hp;rw[Au]at h3;exact JI hT l (k+1) h3 h4
   ·refine DV hT h1 h2 λa' w' hp=>?_
    obtain⟨x,HU,H',h3,C',mu',h4⟩:=hp;rw[Au]at h3;exact JI hT l (k+1) h3 h4
  ·rw[if_neg (by simp[hw])]
   rw[Au]at h1;exact⟨λ_ _=>trivial,JI hT l (k+1) h1 (h2.frame (Bf h2.env o.dst (by unfold Ah;rfl)) (put_defers _ _ _))⟩
theorem Aa.ZcK(sp:List Nat)(hT:BG P T){id:Nat}{ops:Array Oper}(h:Wj P T ops.toList sp 0 ops.toList E H K X):Aa P (.region id ops false) E H K X:=
 ⟨λn G a w hP Af=>by
  obtain⟨C,mu,Af⟩:=Af
  subst hP
  exact wpIn_region_list (JI hT _ 0 h Af)⟩
end
end Go.Av