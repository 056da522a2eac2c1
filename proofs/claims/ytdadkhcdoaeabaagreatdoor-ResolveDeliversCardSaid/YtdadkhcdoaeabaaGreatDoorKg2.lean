/- AV: contracts of the library's functions. -/
import Derived.Shelf.Strings.FuncGrows
import Derived.Shelf.Strings.OnBuilder
import Derived.Shelf.Strconv.Itoa3
import Derived.Test.YtdadkhcdoaeabaaGreatDoorKf2
import Derived.Calls
import Derived.Shelf.SlSortCmp.NoneTotal
set_option linter.unusedVariables false
set_option maxRecDepth 100000
open Nat renaming le_trans → Ao, le_refl → Ds, lt_of_lt_of_le → E9, eq_of_beq_eq_true → Gu, beq → HV, le_of_eq → I0, mul_le_mul_right → Lw, eq_zero_or_pos → LF, le_of_not_lt → L6, div_eq_of_lt → Mo, le_succ → MZ
open List renaming getElem?_set_ne → Cb, getElem?_set_self → D0, getD_eq_getElem?_getD → Ep, getElem?_eq_some_iff → Ff, getElem?_eq_none → F0, mem_cons → Gk, getElem?_eq_getElem → Hm, mem_singleton → H0, perm_append_comm → Ju, mem_append_left → JA, mem_cons_of_mem → JB, getElem?_append_left → J4, getElem?_map → J5, ext_getElem? → J6, set_eq_of_length_le → Kh, flatten_cons → KT, getElem?_take_of_lt → K0, map_cons → K2, mem_append_right → Ls, all_eq_true → Mi, flatMap_nil → Mn, perm_middle → Mz, mem_append → M1, Perm → M5
open Bool renaming and_eq_true → Dt, false_eq_true → Ho, or_eq_true → Lt, not_eq_true' → L2
open Array renaming getElem?_eq_some_iff → EN, getElem?_eq_getElem → Fw, getElem?_toList → Gm, getElem?_eq_none → It, mem_toList_iff → J1, getElem?_append_left → J2, setIfInBounds_comm → Kr, getElem?_extract → Lo, replicate → Lu, ext_getElem? → LP, getElem_mem → L3
open Option renaming some → FP, map_some → MY
open Go.World renaming putObj_heap_other → Gj
open Go.Region renaming ready → G4, binds → L4, wanted → M4
open Int renaming fdiv_eq_ediv_of_nonneg → J3
open Go.IntKind renaming bits → Lr, signed → Lx, min → MR, max → MW
open Go.Sem renaming run → Lv, runT → MA
open Go.Builtin renaming len_ → L5
open Go.Oper renaming apart_spec → MX
open Go.Value renaming func → M3
namespace Go.Av
open Go.RowKit (Below)
open Go.Proofs Go.Shelf
theorem kU{C:Ag}{w W:World}(AR:∀b o,C b o→b<w.heap.size)(hb:Below w.heap.size w W):Ext C C w W:=
 Ext.of_block (λ_ _ h=>h) λb o hc=>hb.block b (AR b o hc)
theorem Il{P:Program}{g:Nat}{p:Nat→Bool}{cap:List AV}(h:∀x:Nat,x≤1114111→Aw P g (.int .i32 x::cap) (λr=>r=.bool (p x)))
  {C:Ag} {w:World} {vs:List Value} (AR:Zh C w) (hr:Aa C w cap Mu.none vs):PredGrows P g vs.toArray p w:=by
 intro W x hx hb;have LB:Ext C C w W:=kU AR.lt hb;have EM:=Aa.mono LB cap (Ay.refl Mu.none) hr
 have B7:Aa C W (.int .i32 x::cap) Mu.none (encR x::vs):=by
  unfold Aa;refine⟨encR x,vs,rfl,?_,EM⟩;unfold Aj;refine⟨rfl,?_⟩;unfold DF MR MW;simp[Lx,Lr];omega
 have hc:=(h x hx).out C W (encR x::vs) (AR.mono LB λb o hc=>E9 (AR.lt b o hc) hb.size) B7
 have e:(encR x::vs).toArray=#[encR x]++vs.toArray:=by simp
 rw[e]at hc;refine hc.mono λe w' ⟨r,v,h1,h2,h3,h4⟩=>?_
 subst h2;unfold Aj at h4;exact⟨by rw[h1,h4],h3⟩
theorem Ur{C:Ag}{w:World}:∀{l:List (List UInt8)} {b o:Nat},Rows C w 1 (l.map AV.str) b o→
  ∀(j:Nat) x,(l.map λs=>(⟨s.toArray⟩:ByteArray))[j]?=some x→C b (o+j)∧w.cell? ⟨b,o+j,none⟩=some (.string x)
 |[],_,_,_,j,x,hj=>by simp at hj
 |s::l,b,o,h,j,x,hj=>by
  simp only[K2]at h hj;unfold Rows at h;obtain⟨_,⟨v,_,hc,hv⟩,hr⟩:=h;cases j with
  |zero=>
   unfold Aj at hv;obtain⟨rfl,_⟩:=hv;simp at hj;subst hj
   exact hc
  |succ j=>
   have:=Ur hr j x (by simpa using hj)
   rw[show o+(j+1)=o+1+j by omega];exact this
theorem pC{P:Program}{ρ:Ren}(L:Lays.n156 P ρ)(X:Builder.Extra P ρ){f:Nat}(hf:ρ.f 156=f)(hg:B5 P f=true)(l:List (List UInt8))(sep:List UInt8)
  (hN:l.length≤140737488355328) (hlen:(Lib.join l sep).length≤140737488355328):
  Aw P f [.sl 1 (l.map AV.str),.str sep] (λr=>r=.str (Lib.join l sep)):=by
 refine⟨hg,λC w vs AR hr=>?_⟩
 unfold Aa at hr;obtain⟨v1,_,rfl,h1,hr⟩:=hr;unfold Aa at hr;obtain⟨v2,_,rfl,h2,hr⟩:=hr;unfold Aa at hr;subst hr;unfold Aj at h1 h2;obtain⟨rfl,_⟩:=h2;subst hf;have e0:(l.map λs=>(⟨s.toArray⟩:ByteArray)).map (·.data.toList)=l:=by rw[List.map_map];simp[Function.comp_def]
 have xL:∀a c,l=[]→Calls P (ρ.f 156) [Value.slice a 0 c,Value.string ⟨sep.toArray⟩].toArray w λe w'=>∃r v,e=.returned v∧r=AV.str (Lib.join l sep)∧Below w.heap.size w w'∧Aj (Kc C w.heap.size w'.heap.size) w' r Mu.none v:=λa c hl=>by
  refine(Any.strings_Join_none L X a c ⟨sep.toArray⟩ w).mono λe w' ⟨h3,h4⟩=>?_
  subst h4;subst hl
  exact⟨_,_,h3,rfl,Below.refl _ _,by unfold Aj;exact⟨rfl,by simp[Lib.join]⟩⟩
 rcases h1 with⟨⟨a,rfl⟩,he⟩|⟨b,o,cap,rfl,EM,_,pP⟩;·exact xL a 0 (by simpa using he)
 ·by_cases hl:l=[];·subst hl;exact xL _ _ rfl
  ·have hc:=Ur pP
   have hb:b<w.heap.size:=by
    cases l with
    |nil=>exact absurd rfl hl
    |cons s l=>exact AR.lt b _ (hc 0 _ rfl).1
   have hj:=Any.strings_Join L X b o cap (l.map λs=>(⟨s.toArray⟩:ByteArray)) ⟨sep.toArray⟩ w (λj x h=>(hc j x h).2) hb (by simpa using hN) (by simpa using EM) (by rw[e0];exact hlen)
   rw[e0]at hj;have e1:(l.map λs=>(⟨s.toArray⟩:ByteArray)).length=(l.map AV.str).length:=by simp
   rw[e1]at hj;refine hj.mono λe w' ⟨h3,h4⟩=>?_
   exact⟨_,_,h3,rfl,h4,by unfold Aj;exact⟨rfl,by omega⟩⟩
section
variable {G:Cx}{C:Ag}{w w':World}{mu:Mu}{H:List HO}{E:List AV}{a:Act}{T:List TY}{P:Program}{ops:Array Oper}{n0 i j:Nat}{o oi oj:Oper}{we pu:List Nat}{K:KK}{X:XX}
mutual
theorem IT(l:Nat):∀x:AV,closed x=true→Bd l x=x
 |.own _ _ _ _,h=>by unfold closed at h;cases h
 |.el _ _ _ _,h=>by unfold closed at h;cases h
 |.ptr _ _,h=>by unfold closed at h;cases h
 |.om _,h=>by unfold closed at h;cases h
 |.fn f cap,h=>by unfold closed at h;unfold Bd;rw[Dr l cap h]
 |.mv f cap,h=>by unfold closed at h;unfold Bd;rw[Dr l cap h]
 |.iface t x,h=>by unfold closed at h;unfold Bd;rw[IT l x h]
 |.agg cs,h=>by unfold closed at h;unfold Bd;rw[Dr l cs h]
 |.tuple cs,h=>by unfold closed at h;unfold Bd;rw[Dr l cs h]
 |.any,_=>by unfold Bd;rfl
 |.int _ _,_=>by unfold Bd;rfl
 |.bool _,_=>by unfold Bd;rfl
 |.lit _,_=>by unfold Bd;rfl
 |.str _,_=>by unfold Bd;rfl
 |.sl _ _,_=>by unfold Bd;rfl
 |.at_ _,_=>by unfold Bd;rfl
 |.raw _,_=>by unfold Bd;rfl
 |.mp _ _,_=>by unfold Bd;rfl
theorem Dr(l:Nat):∀xs:List AV,Ap xs=true→BN l xs=xs
 |[],_=>by unfold BN;rfl
 |x::xs,h=>by
  unfold Ap at h;simp only[Dt]at h;unfold BN;rw[IT l x h.1,Dr l xs h.2]
end
mutual
theorem Ma(l:Nat):∀x:AV,closed x=true→C8 l x=false
 |.own _ _ _ _,h=>by unfold closed at h;cases h
 |.el _ _ _ _,h=>by unfold closed at h;cases h
 |.ptr _ _,h=>by unfold closed at h;cases h
 |.om _,h=>by unfold closed at h;cases h
 |.fn f cap,h=>by unfold closed at h;unfold C8;exact FR l cap h
 |.mv f cap,h=>by unfold closed at h;unfold C8;exact FR l cap h
 |.iface t x,h=>by unfold closed at h;unfold C8;exact Ma l x h
 |.agg cs,h=>by unfold closed at h;unfold C8;exact FR l cs h
 |.tuple cs,h=>by unfold closed at h;unfold C8;exact FR l cs h
 |.any,_=>by unfold C8;rfl
 |.int _ _,_=>by unfold C8;rfl
 |.bool _,_=>by unfold C8;rfl
 |.lit _,_=>by unfold C8;rfl
 |.str _,_=>by unfold C8;rfl
 |.sl _ _,_=>by unfold C8;rfl
 |.at_ _,_=>by unfold C8;rfl
 |.raw _,_=>by unfold C8;rfl
 |.mp _ _,_=>by unfold C8;rfl
theorem FR(l:Nat):∀xs:List AV,Ap xs=true→Jr l xs=false
 |[],_=>by unfold Jr;rfl
 |x::xs,h=>by
  unfold Ap at h;simp only[Dt]at h;unfold Jr;rw[Ma l x h.1,FR l xs h.2];rfl
end
structure Ti(H:List HO)(f:AV→AV)(H1:List HO):Prop where
 nat:rZ f
 cl:∀v,closed v=true→f v=v
 ptr:∀l o,f (.ptr l o)=.ptr l o
 cells:∀(l:Nat) cs,H[l]?=some (.cells cs)→Ap cs=true→H1[l]?=some (.cells cs)
 place:∀(l:Nat),H[l]?=some .dead∨H[l]?=some (.ghost [] [] [])→H1[l]?=H[l]?
theorem fQ(H:List HO):Ti H id H:=⟨R0,λ_ _=>rfl,λ_ _=>rfl,λ_ _ h _=>h,λ_ _=>rfl⟩
theorem W5{x:HO}{l:Nat}{y:HO}(h:H[l]?=some y):(H++[x])[l]?=some y:=by
 rw[J4 (Ff.1 h).1];exact h
theorem kI(H:List HO)(x:HO):Ti H id (H++[x]):=⟨R0,λ_ _=>rfl,λ_ _=>rfl,λ_ _ h _=>W5 h,λl h=>by
 rcases h with h|h<;>rw[W5 h,h]⟩
theorem qJ{l:Nat}{e e':TypeId}{sz BD:Nat}{es Cf:List AV}(h:H[l]?=some (.arr e sz es)):Ti H (Bd l) ((H.map (AA l)).set l (.arr e' BD Cf)):=by
 have key:∀{k:Nat}{y:HO},H[k]?=some y→(∀e sz es,y≠.arr e sz es)→AA l y=y→((H.map (AA l)).set l (.arr e' BD Cf))[k]?=some y:=λ{k y} hk Bu hy=>by
  have MB:l≠k:=λhe=>by subst he;rw[h]at hk;injection hk with hk;exact Bu _ _ _ hk.symm
  rw[Cb MB,J5,hk];simp[hy]
 refine⟨UO l,λv hv=>IT l v hv,λk o=>by unfold Bd;rfl,λk cs hk hc=>key hk (by intros;simp) (by show HO.cells (BN l cs)=_;rw[Dr l cs hc]),λk hk=>?_⟩
 rcases hk with hk|hk;·rw[key hk (by intros;simp) rfl,hk]
 ·rw[key hk (by intros;simp) (by unfold AA BN;rfl),hk]
theorem VK{t t':TypeId}{s x:Operand}{K:AV→KK}(h:CN none T E H t t' s x K):
  ∃r f H',Ti H f H'∧K r (E.map f) H'∧∀(E2:List AV),AM E2 s=AM E s→AM E2 x=AM E x→∀K':AV→KK,K' r (E2.map f) H'→CN none T E2 H t t' s x K':=by
 unfold CN at h;split at h;case h_2=>exact h.elim
 rename_i ht;replace h:=(Ab _ _ _).1 h;obtain⟨y,hy,h⟩:=h
 split at h;case h_2=>exact h.elim
 rename_i e Bh by' ag hk
 split at h;case h_2=>exact h.elim
 rename_i hb;rw[Af,Af]at h
 have fin:∀(E2:List AV),AM E2 s=AM E s→AM E2 x=AM E x→∀K':AV→KK,(match (generalizing:=false) AM E x with
    |.raw (.slice none 0 0)=>(match AM E s with
     |.own l sz lo n=>B6 H l λob=>(match ob with|.arr _ _ _=>K' (.own l sz lo n) E2 H|_=>False)
     |.raw (.slice none 0 0)=>K' (.raw (.slice none 0 0)) E2 H
     |_=>False)
    |_=>Ee H (AM E x) λsz xs=>(match HV sz Bh with
     |true=>(match AM E s with
      |.raw (.slice none 0 0)=>(xs.length*by'≤140737488355328)∧Ej T e λz=>CE z λzc=>(match HV zc.length Bh&&zc.all CJ with
       |true=>Tr none H (.arr e Bh xs) λH' l=>K' (.own l Bh 0 xs.length) E2 H'
       |false=>False)
      |.own l BD lo n=>B6 H l λob=>(match ob with
       |.arr e' P8 es=>(match HV BD Bh&&HV P8 Bh&&HV lo 0&&HV e' e with
        |true=>(n=es.length∧(es++xs).length*by'≤140737488355328)∧Ej T e λz=>CE z λzc=>(match HV zc.length Bh&&zc.all CJ with
         |true=>GW l E2 λE'=>Ci l H λH=>EK H l (.arr e Bh (es++xs)) λH'=>K' (.own l Bh 0 (es++xs).length) E' H'
         |false=>False)
        |false=>False)
       |_=>False)
      |_=>False)
     |false=>False))→CN none T E2 H t t' s x K':=λE2 h1 h2 K' k=>by
  unfold CN;simp only[ht];refine(Ab _ _ _).2 ⟨y,hy,?_⟩;simp only[hk,hb];rw[Af,Af,h1,h2];exact k
 generalize AM E s=sv at h fin;generalize AM E x=xv at h fin;split at h
 ·split at h
  ·rename_i l sz lo n;replace h:=(Ab _ _ _).1 h;obtain⟨ob,Ba,h⟩:=h
   split at h;·exact⟨_,id,H,(fQ H),by simpa using h,λE2 h1 h2 K' k=>fin E2 h1 h2 K' ((Ab _ _ _).2 ⟨_,Ba,by simpa using k⟩)⟩
   ·exact h.elim
  ·exact⟨_,id,H,(fQ H),by simpa using h,λE2 h1 h2 K' k=>fin E2 h1 h2 K' (by simpa using k)⟩
  ·exact h.elim
 ·rename_i Bu;obtain⟨sz,xs,h,he⟩:=RT h
  have We:∀(E2:List AV),AM E2 s=sv→AM E2 x=xv→∀K':AV→KK,Ee H xv (λsz xs=>(match HV sz Bh with
     |true=>(match (generalizing:=false) sv with
      |.raw (.slice none 0 0)=>(xs.length*by'≤140737488355328)∧Ej T e λz=>CE z λzc=>(match HV zc.length Bh&&zc.all CJ with
       |true=>Tr none H (.arr e Bh xs) λH' l=>K' (.own l Bh 0 xs.length) E2 H'
       |false=>False)
      |.own l BD lo n=>B6 H l λob=>(match ob with
       |.arr e' P8 es=>(match HV BD Bh&&HV P8 Bh&&HV lo 0&&HV e' e with
        |true=>(n=es.length∧(es++xs).length*by'≤140737488355328)∧Ej T e λz=>CE z λzc=>(match HV zc.length Bh&&zc.all CJ with
         |true=>GW l E2 λE'=>Ci l H λH=>EK H l (.arr e Bh (es++xs)) λH'=>K' (.own l Bh 0 (es++xs).length) E' H'
         |false=>False)
        |false=>False)
       |_=>False)
      |_=>False)
     |false=>False))→CN none T E2 H t t' s x K':=λE2 h1 h2 K' k=>fin E2 h1 h2 K' (by
   split;·exact absurd rfl Bu
   ·exact k)
  split at h;case h_2=>exact h.elim
  rename_i Eh;split at h
  ·obtain⟨hl,h⟩:=h;obtain⟨z,h,hz⟩:=Fp h;rw[Am]at h;split at h
   ·rename_i hc;unfold Tr at h;simp only at h;rw[GD]at h;refine⟨_,id,_,(kI H _),by simpa using h,λE2 h1 h2 K' k=>We E2 h1 h2 K' (he _ ?_)⟩
    simp only[Eh];refine⟨hl,hz _ ?_⟩;rw[Am];simp only[hc];unfold Tr;simp only;rw[GD];simpa using k
   ·exact h.elim
  ·rename_i l BD lo n;replace h:=(Ab _ _ _).1 h;obtain⟨ob,Ba,h⟩:=h
   split at h;case h_2=>exact h.elim
   rename_i e' P8 es;split at h;case h_2=>exact h.elim
   rename_i hq;obtain⟨hl,h⟩:=h;obtain⟨z,h,hz⟩:=Fp h;rw[Am]at h;split at h
   ·rename_i hc;rw[DI,BZ,AD]at h;rw[GV]at h;refine⟨_,Bd _,_,qJ Ba,h,λE2 h1 h2 K' k=>We E2 h1 h2 K' (he _ ?_)⟩
    simp only[Eh];refine(Ab _ _ _).2 ⟨_,Ba,?_⟩;simp only[hq];refine⟨hl,hz _ ?_⟩;rw[Am];simp only[hc];rw[DI,BZ,AD,GV];exact k
   ·exact h.elim
  ·exact h.elim
def Yg:List HO→Nat→Option HO
 |[],_=>none
 |x::_,0=>some x
 |_::r,n+1=>Yg r n
theorem Lb:∀(H:List HO)(l:Nat),Yg H l=H[l]?
 |[],l=>by simp[Yg]
 |x::r,0=>rfl
 |x::r,n+1=>by unfold Yg;rw[Lb r n];rfl
def Rg(H:List HO):AV→Bool
 |.ptr l _=>match Yg H l with|some (.cells cs)=>Ap cs|_=>false
 |v=>closed v
def Uj(E:List AV)(H:List HO):List Operand→Bool
 |[]=>true
 |y::r=>Rg H (AM E y)&&Uj E H r
theorem KP:∀{l:List Operand}{y:Operand},Uj E H l=true→y∈l→Rg H (AM E y)=true
 |[],y,_,h=>by cases h
 |x::l,y,hs,h=>by
  unfold Uj at hs;simp only[Dt]at hs;rcases Gk.1 h with rfl|h;·exact hs.1
  ·exact KP hs.2 h
theorem WZ:∀{l:List Operand},(∀y∈l,Rg H (AM E y)=true)→Uj E H l=true
 |[],_=>rfl
 |x::l,h=>by
  unfold Uj;rw[h x (by simp),WZ λy hy=>h y (by simp[hy])];rfl
theorem Rf{x:AV}(h:Rg H x=true):closed x=true∨∃l o cs,x=.ptr l o∧H[l]?=some (.cells cs)∧Ap cs=true:=by
 cases x with
 |ptr l o=>
  have h:(match Yg H l with|some (.cells cs)=>Ap cs|_=>false)=true:=h
  rw[Lb]at h;split at h;·rename_i cs hc;exact .inr ⟨l,o,cs,rfl,hc,h⟩
  ·cases h
 |_=>exact .inl h
def Wx(H H1:List HO):Prop:=∀(l:Nat) cs,H[l]?=some (.cells cs)→Ap cs=true→H1[l]?=some (.cells cs)
theorem dR{H1:List HO}(hc:Wx H H1){x:AV}(h:Rg H x=true):Rg H1 x=true∧T2 x H H1:=by
 rcases Rf h with k|⟨l,o,cs,rfl,k1,k2⟩
 ·refine⟨?_,λl ob hr _=>by rw[Ma l x k]at hr;cases hr⟩
  cases x<;>first|exact k|(unfold closed at k;cases k)
 ·have e:Rg H1 (.ptr l o)=(match Yg H1 l with|some (.cells cs)=>Ap cs|_=>false):=rfl
  refine⟨by rw[e,Lb,hc l cs k1 k2];exact k2,λl' ob hr hl=>?_⟩
  unfold C8 at hr;have:l=l':=Gu hr;subst this;rw[k1]at hl;injection hl with hl
  subst hl;exact hc l cs k1 k2
def VF(H:List HO)(s:Nat):Bool:=match Yg H s with|some .dead=>true|some (.ghost [] [] [])=>true|_=>false
theorem Xv{s:Nat}(h:VF H s=true):H[s]?=some .dead∨H[s]?=some (.ghost [] [] []):=by
 unfold VF at h;rw[Lb]at h;split at h;·exact .inl (by assumption)
 ·exact .inr (by assumption)
 ·cases h
def clP:AV→Bool
 |.ptr _ _=>true
 |x=>closed x
theorem wS{f:AV→AV}{H1:List HO}(hf:Ti H f H1){v:AV}(h:clP v=true):f v=v:=by
 cases v<;>first|exact hf.ptr _ _|exact hf.cl _ h
def cL(o:Oper)(E:List AV):Bool:=match o.dst with|some d=>clP (E.getD d .any)|none=>false
def apG(o:Oper):Bool:=match o.op with
 |.call c=>(match c.callee with|.builtin .append=>HV c.args.size 2&&HV c.argTypes.size 2|_=>false)
 |_=>false
def nX:List Oper→Nat→Option Oper
 |[],_=>none
 |x::_,0=>some x
 |_::r,n+1=>nX r n
theorem VI:∀(l:List Oper)(n:Nat),nX l n=l[n]?
 |[],n=>by simp[nX]
 |x::r,0=>rfl
 |x::r,n+1=>by unfold nX;rw[VI r n];rfl
def Yw(ops:List Oper)(E:List AV)(g:Option (Nat×Bool)):Bool:=match g with
 |none=>true
 |some (j,_)=>match nX ops j with
  |some oj=>(match oj.dst with|some d=>closed (E.getD d .any)|none=>true)
  |none=>true
theorem Yv{E':List AV}(h:Eg ops.toList E E' oi):Yw ops.toList E' oi.guard=Yw ops.toList E oi.guard:=by
 unfold Yw;cases hg:oi.guard with
 |none=>rfl
 |some x=>
  obtain⟨j,want⟩:=x;simp only;rw[VI];cases ho:ops.toList[j]? with
  |none=>rfl
  |some oj=>
   simp only;cases hd:oj.dst with
   |none=>rfl
   |some d=>
    have:=h.2 j want oj d hg ho hd;simp only[Ep,this]
theorem kL{E':List AV}(h:Eg ops.toList E E' oi){Ky Kn Tt Tg:Prop}(hy:Ky→Tt)(hn:Kn→Tg)(hk:Tn ops.toList E' oi.guard Ky Kn):Tn ops.toList E oi.guard Tt Tg:=by
 cases hg:oi.guard with
 |none=>rw[hg]at hk;exact hy hk
 |some x=>
  obtain⟨j,want⟩:=x;rw[hg]at hk;unfold Tn at hk⊢;simp only at hk⊢;replace hk:=(Ab _ _ _).1 hk;obtain⟨oj,ho,hk⟩:=hk
  refine(Ab _ _ _).2 ⟨oj,ho,?_⟩;cases hd:oj.dst with
  |none=>rw[hd]at hk;exact hk.elim
  |some d=>
   rw[hd]at hk;simp only at hk⊢;replace hk:=(Ab _ _ _).1 hk;obtain⟨v,hv,hk⟩:=hk
   refine(Ab _ _ _).2 ⟨v,by rw[←h.2 j want oj d hg ho hd];exact hv,?_⟩
   split at hk
   ·rename_i b;cases b<;>cases want<;>simp only at hk⊢<;>first|exact hy hk|exact hn hk
   ·exact hn hk
   ·exact hk.elim
def Qs(P:Program)(T:List TY)(ops:List Oper)(n0 i:Nat)(o:Oper)(E:List AV)(H:List HO)(K:KK):Prop:=
 (Uj E H o.op.operands.toList&&VF H (n0+i)&&Yw ops E o.guard)=true∧Fa P T ops n0 i o E H λE' H'=>(H'=H∧cL o E'=true)∧K E' H'
theorem UF{K K':KK}(h:Qs P T ops.toList n0 i oi E H K)(hk:∀E' H',K E' H'→K' E' H'):Qs P T ops.toList n0 i oi E H K':=
 ⟨h.1,BF h.2 λE' H' k=>⟨k.1,hk _ _ k.2⟩⟩
theorem rD{s:Nat}{x:HO}(h1:H.set s x=H)(h2:H[s]?=some .dead):x=.dead:=by
 have:(H.set s x)[s]?=H[s]?:=by rw[h1]
 rw[D0 (Ff.1 h2).1,h2]at this;injection this
theorem QM{Ki:KK}(h:Qs P T ops.toList n0 i oi E H Ki):∃v,Ki (A5 E oi.dst v) H∧cL oi (A5 E oi.dst v)=true∧
  ∀E' H',Eg ops.toList E E' oi→Wx H H'→H'[n0+i]?=H[n0+i]?→(∀y∈oi.op.operands,AM E' y=AM E y)→∀K':KK,cL oi (A5 E' oi.dst v)=true→K' (A5 E' oi.dst v) H'→Qs P T ops.toList n0 i oi E' H' K':=by
 obtain⟨h1,h2⟩:=h;simp only[Dt]at h1;obtain⟨v,ob,hd,⟨⟨hH,hv⟩,hk⟩,ht⟩:=DA h2
 have Ba:∀H':List HO,H'[n0+i]?=H[n0+i]?→BQ H' (n0+i) ob=H':=λH' he=>by
  cases ob with
  |none=>rfl
  |some x=>
   have hx:=rD hH (hd x rfl);subst hx;have:H'[n0+i]?=some .dead:=by rw[he];exact hd _ rfl
   obtain⟨hl,hg⟩:=Ff.1 this
   exact J6 λk=>by
    by_cases sP:n0+i=k;·subst sP;simp only[BQ];rw[D0 hl,this]
    ·simp only[BQ];rw[Cb sP]
 rw[Ba H rfl]at hk;refine⟨v,hk,hv,λE' H' ha hc hp jZ K' xV k'=>⟨?_,?_⟩⟩
 ·simp only[Dt];refine⟨⟨WZ λy hy=>?_,?_⟩,by rw[Yv ha];exact h1.2⟩
  ·have vA:y∈oi.op.operands:=by simpa using hy
   rw[jZ y vA];exact(dR hc (KP h1.1.1 hy)).1
  ·unfold VF;rw[Lb,hp,←Lb];exact h1.1.2
 ·refine ht E' H' ha (λy hy=>(dR hc (KP h1.1.1 (by simpa using hy))).2) hp _ ?_
  rw[Ba H' hp];exact⟨⟨rfl,xV⟩,k'⟩
theorem S3{v:AV}{E1:List AV}(hl:E1.length=E.length)(h:cL oi (A5 E oi.dst v)=true)(hc:∀d,oi.dst=some d→¬d<E.length→True):cL oi (A5 E1 oi.dst v)=true:=by
 unfold cL at h⊢;cases hi:oi.dst with
 |none=>rw[hi]at h;exact h
 |some d=>
  rw[hi]at h;simp only[A5,Ep]at h ⊢;by_cases QA:d<E.length
  ·rw[D0 QA]at h;have Wd:d<E1.length:=Nat.lt_of_lt_of_eq QA hl.symm;rw[D0 Wd];exact h
  ·have Wd:(E1.set d v).length≤d:=by rw[List.length_set,hl];exact L6 QA
   rw[F0 Wd];rfl
theorem Q9(E:List AV)(d:Option Tmp)(v:AV):(A5 E d v).length=E.length:=by cases d<;>simp[A5]
theorem nR(hT:BL P T)(hs:Sat P E H)(hi:ops[i]?=some oi)(hj:ops[j]?=some oj)(N4:i≠j)(SH:oi.apart ops oj=true){Ki Kj:KK}
  (h:Qs P T ops.toList n0 i oi E H Ki) (hk:∀E' H',Sat P E' H'→Ki E' H'→Fa P T ops.toList n0 j oj E' H' Kj):
  Fa P T ops.toList n0 j oj E H λE1 H1=>Qs P T ops.toList n0 i oi E1 H1 Kj:=by
 obtain⟨p1,p2,p3⟩:=MX SH;obtain⟨vi,ki,Tl,ti⟩:=QM h;have refl:Eg ops.toList E E oi:=⟨λ_ _=>rfl,λ_ _ _ _ _ _ _=>rfl⟩
 have Fv:Sat P (A5 E oi.dst vi) H:=by
  have h0:=(ti E H refl (λ_ _ h _=>h) rfl (λ_ _=>rfl) (λE' H'=>E'=A5 E oi.dst vi∧H'=BQ H (n0+i) none) Tl ⟨rfl,rfl⟩).2
  exact GR hT hi (BF h0 λ_ _ k=>k.2) hs
 have h2:=hk _ _ Fv ki;obtain⟨vj,obj,dj,kj,tj⟩:=DA h2;have ag:=CG (x:=vi) (E:=E) p1;have agi:Eg ops.toList E (A5 E oj.dst vj) oi:=CG p3;refine tj E H ag.symm (λy hy l ob _ hl=>hl) rfl _ ?_
 have ZfO:Wx H (BQ H (n0+j) obj):=λl cs hl hc=>by
  cases obj with
  |none=>exact hl
  |some y=>
   have Bu:n0+j≠l:=λe=>by have:=dj y rfl;rw[e,hl]at this;cases this
   simp only[BQ];rw[Cb Bu];exact hl
 have Ye:(BQ H (n0+j) obj)[n0+i]?=H[n0+i]?:=by
  cases obj with
  |none=>rfl
  |some y=>simp only[BQ];rw[Cb (by omega)]
 refine ti _ _ agi ZfO Ye agi.1 _ (S3 (Q9 _ _ _) Tl (λ_ _ _=>trivial)) ?_
 rw[H9 p2]at kj;exact kj
theorem nQ(LD:apG oj=true)(p1:∀t,oi.dst=some t→t∉oj.looksAt ops)(p2:∀t,oi.dst=some t→oj.dst≠some t)(p3:∀t,oj.dst=some t→t∉oi.looksAt ops){Kw:KK}
  (h:Qs P T ops.toList n0 i oi E H λE' H'=>DY P T ops.toList oj E' H' Kw X):DY P T ops.toList oj E H (λE1 H1=>Qs P T ops.toList n0 i oi E1 H1 Kw) X:=by
 obtain⟨vi,hk,Tl,ti⟩:=QM h;have ag0:=CG (x:=vi) (E:=E) p1;have Ah:=h.1;clear h;simp only[Dt]at Ah;unfold DY at hk⊢;refine kL ag0 (λsQ=>?_) (λsQ=>?_) hk<;>clear hk<;>have hk:=sQ<;>clear sQ
 rotate_left
 ·rw[Ax]at hk ⊢;have agi:Eg ops.toList E (A5 E oj.dst (.raw undef)) oi:=CG p3;refine ti _ _ agi (λ_ _ h _=>h) rfl agi.1 _ (S3 (Q9 _ _ _) Tl (λ_ _ _=>trivial)) ?_
  rw[H9 p2]at hk;exact hk
 obtain⟨JD,Ef,CW,aV,aW,jgd⟩:=oj;unfold apG at LD;simp only at LD;cases Ef<;>first|cases LD|skip
 rename_i c;obtain⟨Zf,args,II⟩:=c;simp only at LD;cases Zf<;>first|cases LD|skip
 rename_i bi;cases bi<;>first|cases LD|skip
 rw[Dt]at LD;obtain⟨ha,ht⟩:=LD;have ha:=Gu ha;have ht:=Gu ht
 obtain⟨sx,xx,rfl⟩:∃sx xx,args=#[sx,xx]:=by
  match args,ha with
  |⟨[a,b]⟩,_=>exact⟨a,b,rfl⟩
 obtain⟨t1,t2,rfl⟩:∃t1 t2,II=#[t1,t2]:=by
  match II,ht with
  |⟨[a,b]⟩,_=>exact⟨a,b,rfl⟩
 have Tp:AM (A5 E oi.dst vi) sx=AM E sx:=ag0.1 sx (by simp[Op.operands,Call.operands])
 have ev2:AM (A5 E oi.dst vi) xx=AM E xx:=ag0.1 xx (by simp[Op.operands,Call.operands])
 have ap:∀{E:List AV}{H:List HO}{K:AV→KK},RJ none P T E H (.call ⟨.builtin .append,#[sx,xx],#[t1,t2]⟩) K X↔CN none T E H t1 t2 sx xx K:=λ{E H K}=>by
  unfold RJ;exact Iff.rfl
 simp only at hk⊢;rw[ap]at hk ⊢;obtain⟨r,f,H',hf,hk,hto⟩:=VK hk;refine hto E Tp.symm ev2.symm _ ?_;obtain⟨u,hu,hu2,_,_⟩:=Ht hk;refine hu2 _ ?_;rw[Ax]at hu ⊢
 have jZ:∀y∈oi.op.operands,AM (A5 (E.map f) JD u) y=AM E y:=λy hy=>by
  have sG:AM (A5 (E.map f) JD u) y=AM (E.map f) y:=Lg λt ht he=>p3 t ht (by
   subst he;unfold Oper.looksAt;exact JA _ (List.mem_filterMap.2 ⟨.tmp t,by simpa using hy,rfl⟩))
  rw[sG];have Ah:=KP Ah.1.1 (by simpa using hy)
  cases y with
  |tmp t=>
   have e1:AM (E.map f) (.tmp t)=f (AM E (.tmp t)):=by
    simp only[AM,Ep,J5];cases E[t]? with
    |none=>exact hf.nat.any.symm
    |some x=>rfl
   rw[e1];rcases Rf Ah with k|⟨l,o,cs,k,_⟩;·exact hf.cl _ k
   ·rw[k];exact hf.ptr l o
  |_=>rfl
 refine ti _ _ ⟨jZ,λg want og t hg hog ht=>by
  have hgc:=Ah.2;unfold Yw at hgc;rw[hg]at hgc;simp only[VI,hog,ht]at hgc
  have hmp:(E.map f)[t]?=E[t]?:=by
   rw[J5];cases hx:E[t]? with
   |none=>rfl
   |some x=>
    rw[Ep,hx]at hgc;rw[MY,hf.cl x hgc]
  cases JD with
  |none=>exact hmp
  |some d=>
   have Bu:d≠t:=λhe=>p3 d rfl (by
    subst he;unfold Oper.looksAt;refine Ls _ ?_;have:ops[g]?=some og:=by simpa using hog
    simp[hg,this,ht])
   simp only[A5];rw[Cb Bu];exact hmp⟩ (λl cs hl hc=>hf.cells l cs hl hc) (hf.place _ (Xv Ah.1.2)) jZ _ (S3 (by rw[Q9];simp) Tl (λ_ _ _=>trivial)) ?_
 have e2:A5 (A5 (E.map f) JD u) oi.dst vi=A5 ((A5 E oi.dst vi).map f) JD u:=by
  cases hd:oi.dst with
  |none=>rfl
  |some d=>
   have IJ:(E.set d vi).map f=(E.map f).set d vi:=by
    rw[List.map_set];by_cases QA:d<E.length
    ·have:clP vi=true:=by
      unfold cL at Tl;rw[hd]at Tl;simp only[A5,Ep]at Tl;rw[D0 QA]at Tl;exact Tl
     rw[wS hf this]
    ·have h1:(E.map f).length≤d:=by rw[List.length_map];exact L6 QA
     rw[Kh h1,Kh h1]
   simp only[A5];rw[IJ];cases JD with
   |none=>rfl
   |some j=>
    have Bu:j≠d:=λe=>p2 d hd (by rw[e])
    simp only;exact List.set_comm _ _ Bu
 rw[e2];exact hu
theorem YV(hT:BL P T)(hi:ops[i]?=some oi)(V6:A4 we i=false){U:Nat→Bool}(hUi:U i=true)
  (vV:∀j oj,U j=true→j≠i→ops[j]?=some oj→∃e∈oj.after,L4 .any e=true∧U e.on=true):
  ∀(fuel:Nat)(listed:Array Bool)(E:List AV)(H:List HO),(∀j,U j=true→listed.getD j false=false)→
   (∀j oj,ops[j]?=some oj→U j=false→listed.getD j true=false→(A4 we j=false∨apG oj=true)∧oi.apart ops oj=true)→
   i∈G4 .any ops listed→Qs P T ops.toList n0 i oi E H (De P T ops n0 we K X fuel (listed.setIfInBounds i true))→De P T ops n0 we K X (fuel+1) listed E H:=by
 intro fuel
 have sat:∀{E:List AV}{H:List HO}{Ki:KK},Sat P E H→Qs P T ops.toList n0 i oi E H Ki→∃v,Ki (A5 E oi.dst v) H∧Sat P (A5 E oi.dst v) H:=λ{E H Ki} hs h=>by
  obtain⟨vi,ki,Tl,ti⟩:=QM h;have h0:=(ti E H ⟨λ_ _=>rfl,λ_ _ _ _ _ _ _=>rfl⟩ (λ_ _ h _=>h) rfl (λ_ _=>rfl) (λE' H'=>E'=A5 E oi.dst vi∧H'=BQ H (n0+i) none) Tl ⟨rfl,rfl⟩).2
  exact⟨vi,ki,GR hT hi (BF h0 λ_ _ k=>k.2) hs⟩
 induction fuel with
 |zero=>
  intro listed E H hU SH hr h;unfold De;intro hs;refine⟨λh0=>(by rw[h0]at hr;cases hr),λj hj=>?_⟩
  by_cases Gz:j=i;·subst Gz;unfold Vd;rw[hi];simp only;rw[V6];exact BF h.2 λ_ _ k=>k.2
  ·obtain⟨Km,oj,Ei,B7⟩:=mem_ready.1 hj;exfalso;obtain⟨vi,ki,Fv⟩:=sat hs h;unfold De at ki;have:=ready_mono hj Gz;rw[(ki Fv).1]at this;cases this
 |succ fuel ih=>
  intro listed E H hU SH hr h;unfold De;intro hs;refine⟨λh0=>(by rw[h0]at hr;cases hr),λj hj=>?_⟩
  by_cases Gz:j=i;·subst Gz;unfold Vd;rw[hi];simp only;rw[V6];exact BF h.2 λ_ _ k=>k.2
  ·obtain⟨Km,oj,Ei,B7⟩:=mem_ready.1 hj
   have bW:U j=false:=by
    cases hu:U j with
    |false=>rfl
    |true=>
     obtain⟨e,he,hb,Wz⟩:=vV j oj hu Gz Ei;have:=B7 e he hb;rw[hU _ Wz]at this;cases this
   obtain⟨bA,OR⟩:=SH j oj Ei bW Km
   have rest:∀E1 H1,Qs P T ops.toList n0 i oi E1 H1 (De P T ops n0 we K X fuel ((listed.setIfInBounds j true).setIfInBounds i true))→De P T ops n0 we K X (fuel+1) (listed.setIfInBounds j true) E1 H1:=λE1 H1 k=>by
    refine ih (listed.setIfInBounds j true) E1 H1 (λk hk=>?_) (λk ok hk hu TO=>?_) (ready_mono hr (Ne.symm Gz)) k
    ·have Bu:j≠k:=λhe=>by subst he;rw[bW]at hk;cases hk
     rw[getD_set_ne false Bu];exact hU k hk
    ·refine SH k ok hk hu ?_;by_cases PL:j=k;·subst PL;exact Km
     ·rw[getD_set_ne true PL]at TO;exact TO
   unfold Vd;rw[Ei];simp only
   cases Yj:A4 we j with
   |false=>
    simp only
    have hc:=nR (Kj:=De P T ops n0 we K X fuel ((listed.setIfInBounds i true).setIfInBounds j true)) hT hs hi Ei (Ne.symm Gz) OR h λE' H' Fv k=>by
     unfold De at k;have:=(k Fv).2 j (ready_mono hj Gz);unfold Vd at this;rw[Ei]at this;simp only at this;rw[Yj]at this;exact this
    refine BF hc λE1 H1 k=>rest E1 H1 ?_
    rw[Kr _ _ Gz];exact k
   |true=>
    simp only
    have ZfY:apG oj=true:=by
     rcases bA with k|k;·rw[Yj]at k;cases k
     ·exact k
    obtain⟨p1,p2,p3⟩:=MX OR;obtain⟨vi,ki,Tl,ti⟩:=QM h;have h0:=(ti E H ⟨λ_ _=>rfl,λ_ _ _ _ _ _ _=>rfl⟩ (λ_ _ h _=>h) rfl (λ_ _=>rfl) (λE' H'=>E'=A5 E oi.dst vi∧H'=BQ H (n0+i) none) Tl ⟨rfl,rfl⟩).2
    have Fv:=GR hT hi (BF h0 λ_ _ k=>k.2) hs
    unfold De at ki;have hd:=(ki Fv).2 j (ready_mono hj Gz);unfold Vd at hd;rw[Ei]at hd;simp only at hd;rw[Yj]at hd
    obtain⟨Kw,Bj,Gf⟩:=hd;have h3:=ti E H ⟨λ_ _=>rfl,λ_ _ _ _ _ _ _=>rfl⟩ (λ_ _ h _=>h) rfl (λ_ _=>rfl) (λE' H'=>DY P T ops.toList oj E' H' Kw X) Tl Bj
    refine⟨_,nQ ZfY p1 p2 p3 h3,λE1 H1 k=>rest E1 H1 (UF k λE2 H2 k2=>?_)⟩
    rw[Kr _ _ Gz];exact Gf _ _ k2
def qP(ops:Array Oper)(we pu:List Nat)(listed:Array Bool)(k:Nat)(U:List Nat):Bool:=
 match ops[k]? with
 |none=>false
 |some ok=>A4 U k&&(List.range ops.size).all (λj=>(!A4 U j||(!listed.getD j false))&&match ops[j]? with
   |none=>true
   |some oj=>(match A4 U j with
    |true=>HV j k||oj.after.any (λe=>L4 .any e&&A4 U e.on)
    |false=>listed.getD j true||((!A4 we j||(match A4 pu k with|true=>apG oj|false=>BU ok&&yU oj))&&ok.apart ops oj)))&&U.all λj=>decide (j<ops.size)
def nV(ops:Array Oper)(we pu:List Nat):List Nat→Array Bool→Bool
 |[],listed=>(G4 .any ops listed).isEmpty
 |k::r,listed=>(match A4 we k with
  |true=>(G4 .any ops listed == [k])
  |false=>(G4 .any ops listed).contains k&&qP ops we pu listed k (Ek ops k))&&nV ops we pu r (listed.setIfInBounds k true)
def zY(P:Program)(T:List TY)(ops:List Oper)(n0:Nat)(we pu:List Nat):List Nat→List AV→List HO→KK→XX→Prop
 |[],E,H,K,_=>K E H
 |k::r,E,H,K,X=>B6 ops k λo=>match A4 we k with
  |false=>(match A4 pu k with
   |true=>Qs P T ops n0 k o E H λE H=>zY P T ops n0 we pu r E H K X
   |false=>Fa P T ops n0 k o E H λE H=>zY P T ops n0 we pu r E H K X)
  |true=>DY P T ops o E H (λE H=>zY P T ops n0 we pu r E H K X) X
theorem NQ(hT:BL P T):∀(l:List Nat)(listed:Array Bool)(E:List AV)(H:List HO),
  nV ops we pu l listed=true→zY P T ops.toList n0 we pu l E H K X→De P T ops n0 we K X l.length listed E H
 |[],listed,E,H,hB,h=>by
  unfold De;unfold zY at h;exact λ_=>⟨by simpa[nV]using hB,h⟩
 |k::l,listed,E,H,hB,h=>by
  simp only[nV,Dt]at hB;obtain⟨Nx,kG⟩:=hB;unfold zY at h;replace h:=(Ab _ _ _).1 h;obtain⟨o,h0,h⟩:=h
  have h0:ops[k]?=some o:=by simpa using h0
  cases hw:A4 we k with
  |false=>
   rw[hw]at h Nx;simp only[Dt]at Nx h;obtain⟨hr,hf⟩:=Nx;unfold qP at hf;rw[h0]at hf;simp only[Dt,Mi,List.mem_range]at hf;obtain⟨⟨vW,B7⟩,AR⟩:=hf;have lt:∀j,A4 (Ek ops k) j=true→j<ops.size:=λj hj=>by simpa using AR j (G9 hj)
   have up:∀j oj,A4 (Ek ops k) j=true→j≠k→ops[j]?=some oj→∃e∈oj.after,L4 .any e=true∧A4 (Ek ops k) e.on=true:=λj oj hu PL Ei=>by
    have:=(B7 j (lt j hu)).2;rw[Ei]at this;simp only[hu]at this;simp only[Lt]at this;rcases this with h1|h1;·exact absurd (Gu h1) PL
    ·obtain⟨e,he,h2⟩:=Array.any_eq_true'.1 h1;simp only[Dt]at h2;exact⟨e,he,h2⟩
   have un:∀j,A4 (Ek ops k) j=true→listed.getD j false=false:=λj hu=>by
    have:=(B7 j (lt j hu)).1;simpa[hu]using this
   cases hp:A4 pu k with
   |false=>
    rw[hp]at h;refine Ta hT h0 hw (U:=A4 (Ek ops k)) vW up l.length listed E H un (λj oj Ei hu TO=>?_) (by simpa using hr) (BF h λE' H' h'=>NQ hT l _ E' H' kG h')
    have U0:=(EN.1 Ei).1;have:=(B7 j U0).2;rw[Ei]at this;simp only[hu,hp]at this;simp only[TO,Lt,Dt,L2,Ho,false_or]at this;simpa using this
   |true=>
    rw[hp]at h;refine YV hT h0 hw (U:=A4 (Ek ops k)) vW up l.length listed E H un (λj oj Ei hu TO=>?_) (by simpa using hr) (UF h λE' H' h'=>NQ hT l _ E' H' kG h')
    have U0:=(EN.1 Ei).1;have:=(B7 j U0).2;rw[Ei]at this;simp only[hu,hp]at this;simp only[TO,Lt,Dt,L2,Ho,false_or]at this;simpa using this
  |true=>
   rw[hw]at h Nx;simp only at h Nx;have hr:G4 .any ops listed=[k]:=by simpa using Nx
   show De P T ops n0 we K X (l.length+1) listed E H
   unfold De;intro hs;refine⟨λh0=>(by rw[hr]at h0;cases h0),λj hj=>?_⟩
   rw[hr]at hj;obtain rfl:j=k:=by simpa using hj
   unfold Vd;rw[h0];simp only;rw[hw];simp only
   exact⟨_,h,λE1 H1 hh=>NQ hT l _ E1 H1 kG hh⟩
theorem Ac.yT{id:Nat}(l im we pu:List Nat)(hT:BL P T)(hm:P.follows .mixedOrders=true)(hB:(HV l.length ops.size&&nV ops we pu l (Lu ops.size false))=true)
  (h:zY P T ops.toList H.length we pu l E (H++VG im ops.size) K X):Ac P (.region id ops true) E H K X:=by
 refine⟨λn G a w hP Ah=>?_⟩
 subst hP;obtain⟨C,mu,Ah⟩:=Ah;have CM:Az G C mu E H a w.drew:=Ah.drew;have fA:=CM.pad im ops.size;simp only[Dt]at hB;have hl:=Gu hB.1;have h1:=NQ (ops:=ops) (n0:=H.length) (we:=we) (pu:=pu) (K:=K) (X:=X) hT l (Lu ops.size false) E _ hB.2 h;rw[hl]at h1;refine wpIn_region_any hm ?_;have h2:=Hl (r:=G.rd) (n:=n) hT _ _ _ _ a _ h1 ⟨C,mu,fA⟩;simpa using h2
end
end Go.Av
namespace Go.Av
section
variable {G:Cx}{C:Ag}{w:World}{mu:Mu}{H:List HO}{E:List AV}{a:Act}{P:Program}
def O9(x y:AV):Prop:=∀(C:Ag)(w:World)(mu:Mu)(v:Value),Aj C w x mu v→Aj C w y mu v
def dN:List AV→List AV→Prop
 |[],[]=>True
 |x::xs,y::ys=>O9 x y∧dN xs ys
 |_,_=>False
theorem Q1:∀{xs ys:List AV}{vs:List Value},dN xs ys→Aa C w xs mu vs→Aa C w ys mu vs
 |[],[],_,_,h=>h
 |x::xs,y::ys,vs,hw,h=>by
  unfold Aa at h⊢;obtain⟨v,BV,rfl,h2,h3⟩:=h;exact⟨v,BV,rfl,hw.1 _ _ _ _ h2,Q1 hw.2 h3⟩
 |[],_::_,_,hw,_=>hw.elim
 |_::_,[],_,hw,_=>hw.elim
theorem Az.WM(Ah:Az G C mu E H a w)(l:Nat){cs cs':List AV}(hl:H[l]?=some (.cells cs))(hw:dN cs cs'):Az G C mu E (H.set l (.cells cs')) a w:=by
 have AR:l<H.length:=(Ff.1 hl).1
 have hg:∀{k:Nat}{ob:HO},(H.set l (.cells cs'))[k]?=some ob→(k=l∧ob=.cells cs')∨H[k]?=some ob:=λ{k ob} hk=>by
  by_cases MB:k=l
  ·subst MB;rw[D0 AR]at hk;exact .inl ⟨rfl,(FP.inj hk).symm⟩
  ·rw[Cb (λe=>MB e.symm)]at hk;exact .inr hk
 have HW:∀{k:Nat}{ob:HO},(H.set l (.cells cs'))[k]?=some ob→(∀es,ob≠.cells es)→H[k]?=some ob:=λ{k ob} hk Bu=>by
  rcases hg hk with⟨_,h⟩|h;·exact absurd h (Bu _)
  ·exact h
 refine⟨Ah.c0,Ah.c1,Ah.lt,⟨λi g hi=>by simpa using Ah.heap.HH i g hi,Ah.heap.fresh,Ah.heap.sep,λk hk=>Ah.heap.dead k (HW hk (by intros;simp)),λk cs2 hk=>?_,λk e' BD Cf hk=>Ah.heap.BJ k e' BD Cf (HW hk (by intros;simp)),λk ks vs hk=>Ah.heap.maps k ks vs (HW hk (by intros;simp))⟩,Ah.env,?_,Ah.Aq,by simpa using Ah.CA.1,Ah.CA.2⟩
 ·rcases hg hk with⟨rfl,h⟩|h
  ·cases h;obtain⟨b,cur,e,k1,k2,k3,k4⟩:=Ah.heap.Cm k cs hl;exact⟨b,cur,e,k1,k2,Q1 hw k3,k4⟩
  ·exact Ah.heap.Cm k cs2 h
 ·obtain⟨ms,d1,d2⟩:=Ah.defers
  exact⟨ms,d1,⟨λk cs' vs gm hk=>d2.Bc k cs' vs gm (HW hk (by intros;simp)),λk I hk=>by
   obtain⟨h0,Sw,Sr,q1,q2,q3,q4⟩:=d2.Gx k I (HW hk (by intros;simp))
   exact⟨h0,Sw,Sr,q1,q2,q3,λk' cs' vs gm Hc=>q4 k' cs' vs gm (HW Hc (by intros;simp))⟩,d2.marks,d2.nd,λk k' cs' vs gm cs2 sW gm2 hk Hc=>d2.sep k k' cs' vs gm cs2 sW gm2 (HW hk (by intros;simp)) (HW Hc (by intros;simp))⟩⟩
theorem Ac.WM(l:Nat){cs cs':List AV}{c:Code}{K:KK}{X:XX}(hl:H[l]?=some (.cells cs))(hw:dN cs cs')(h:Ac P c E (H.set l (.cells cs')) K X):Ac P c E H K X:=by
 refine⟨λn G a w hP Ah=>?_⟩
 obtain⟨C,mu,Ah⟩:=Ah;exact h.out n G a w hP ⟨C,mu,Ah.WM l hl hw⟩
theorem O9.lit{b c:Bool}(h:b=c):O9 (.lit b) (.bool c):=λ_ _ _ _ h2=>by subst h;unfold Aj at*;exact h2
end
theorem ZbD{α:Type}:∀(a:Ask α)(w:World),w.drawn≤(w.ask a).2.drawn:=by
 intro a;induction a with
 |done a=>intro w;unfold World.ask;exact Ds _
 |ask ZhJ range k ih=>
  intro w;unfold World.ask;simp only;split;·exact ih _ w
  ·exact Ao (MZ _) (ih _ {w with drawn:=w.drawn+1})
theorem mN(w:World)(c:Sys):w.drawn≤(w.sys c).2.drawn:=by
 have h:=ZbD (Kernel.perform c w.os) w;unfold World.sys;split;·exact Ds _
 ·rename_i r os w1 _ e;rw[e]at h;exact h
theorem Ny(w:World)(a:Addr)(n:Nat):(w.freeze a n).drawn=w.drawn:=by
 unfold World.freeze;first|rfl|(split<;>rfl)|(split<;>(try split)<;>rfl)
theorem P7{p:Program}{w w':World}{at_:Addr}{u:TypeId}{k:Addr}{v:Value}{atomic:Bool}{l:List Addr}(h:w.viewStore p at_ u k v atomic=.ok (w',l)):w'.drawn=w.drawn:=by
 unfold World.viewStore at h;simp only[bind,Except.bind,pure,Except.pure]at h;repeat' split at h
 all_goals first|(cases h;done)|(injection h with h;injection h with h1 h2;subst h1;rfl)
theorem Kx{p:Program}{w w':World}{a:Addr}{v:Value}{atomic:Bool}{l:List Addr}(h:w.farStore p a v atomic=.ok (w',l)):w'.drawn=w.drawn:=by
 unfold World.farStore at h;split at h
 ·split at h
  ·rename_i r e;injection h with h
   subst h;exact P7 e
  ·cases h
 ·cases h
def Result.w{α:Type}:Result α→World
 |.ok _ w=>w
 |.halt _ w=>w
theorem ZJ{α:Type}{p:Program}:∀(s:Sem α)(w:World),w.drawn≤(Result.w (s.run p w)).drawn:=by
 intro s;induction s with
 |pure a=>intro w;exact Ds _
 |load m a k ih=>
  intro w;unfold Lv;split
  ·exact ih _ w
  ·split;·exact ih _ w
   ·exact Ds _
 |store m a v k ih=>
  intro w;have key:∀v,w.drawn≤(Result.w (match w.cell? a with
  |some _=>if w.frozen? a then .halt (.unsupported (.unsafePointer "a write to bytes that a string shares")) w else k.run p (w.setCell a v)
  |none=>match w.farStore p a v (m == .atomic)with
   |.ok (w,_)=>k.run p w
   |.error h=>.halt h w)).drawn:=by
   intro v;split
   ·split;·exact Ds _
    ·exact ih (w.setCell a v)
   ·split
    ·rename_i e;exact Ao (I0 (Kx e).symm) (ih _)
    ·exact Ds _
  cases v<;>first|exact Ds _|(simp only[Lv];exact key _)
 |new o k ih=>intro w;exact ih _ {w with heap:=w.heap.push o}
 |shape r k ih=>intro w;exact ih _ w
 |freeze a n k ih=>intro w;exact Ao (I0 (Ny w a n).symm) (ih (w.freeze a n))
 |frozen a k ih=>intro w;exact ih _ w
 |getObj r k ih=>
  intro w;unfold Lv;split
  ·exact Ds _
  ·exact ih _ w
  ·exact Ds _
 |setObj r o k ih=>
  intro w;unfold Lv;split
  ·exact Ds _
  ·exact ih {w with heap:=w.heap.setIfInBounds r o}
  ·exact Ds _
 |choose q k ih=>
  intro w;unfold Lv;split
  ·exact ih _ w
  ·exact Ao (MZ _) (ih _ {w with drawn:=w.drawn+1})
 |sys c k ih=>intro w;exact Ao (mN w c) (ih _ _)
 |program k ih=>intro w;exact ih _ w
 |mark m k ih=>intro w;exact ih w
 |halt h=>intro w;exact Ds _
theorem KX{α:Type}{p:Program}:∀(s:Sem α)(w:World)(es:Array Event),w.drawn≤(Result.w (s.runT p w es).1).drawn:=by
 intro s;induction s with
 |pure a=>intro w es;exact Ds _
 |load m a k ih=>
  intro w es;unfold MA;split
  ·exact ih _ w _
  ·split;·exact ih _ w _
   ·exact Ds _
 |store m a v k ih=>
  intro w es
  cases v<;>first
   |exact Ds _
   |(simp only[MA]
     split
     · split
       · exact Ds _
       · exact ih (w.setCell a _) _
     · split
       · rename_i e
         exact Ao (I0 (Kx e).symm) (ih _ _)
       · exact Ds _)
 |new o k ih=>intro w es;exact ih _ {w with heap:=w.heap.push o} _
 |shape r k ih=>intro w es;exact ih _ w _
 |freeze a n k ih=>intro w es;exact Ao (I0 (Ny w a n).symm) (ih (w.freeze a n) _)
 |frozen a k ih=>intro w es;exact ih _ w _
 |getObj r k ih=>
  intro w es;unfold MA;split
  ·exact Ds _
  ·exact ih _ w _
  ·exact Ds _
 |setObj r o k ih=>
  intro w es;unfold MA;split
  ·exact Ds _
  ·exact ih {w with heap:=w.heap.setIfInBounds r o} _
  ·exact Ds _
 |choose q k ih=>
  intro w es;unfold MA;split
  ·exact ih _ w _
  ·exact Ao (MZ _) (ih _ {w with drawn:=w.drawn+1} _)
 |sys c k ih=>intro w es;exact Ao (mN w c) (ih _ _ _)
 |program k ih=>intro w es;exact ih _ w _
 |mark m k ih=>intro w es;exact ih w _
 |halt h=>intro w es;exact Ds _
theorem EU{α:Type}{p:Program}{s:Sem α}{w w':World}{a:α}(h:s.run p w=.ok a w'):w.drawn≤w'.drawn:=by
 have:=ZJ (p:=p) s w;rw[h]at this;exact this
theorem fO{α:Type}{p:Program}{s:Sem α}{w w':World}{a:Halt}(h:s.run p w=.halt a w'):w.drawn≤w'.drawn:=by
 have:=ZJ (p:=p) s w;rw[h]at this;exact this
theorem VL{α:Type}{p:Program}{s:Sem α}{w w':World}{a:α}{es Cf:Array Event}(h:s.runT p w es=(.ok a w',Cf)):w.drawn≤w'.drawn:=by
 have:=KX (p:=p) s w es;rw[h]at this;exact this
theorem Ys{α:Type}{p:Program}{s:Sem α}{w w':World}{a:Halt}{es Cf:Array Event}(h:s.runT p w es=(.halt a w',Cf)):w.drawn≤w'.drawn:=by
 have:=KX (p:=p) s w es;rw[h]at this;exact this
theorem VM{α:Type}{p:Program}{s:Sem α}{w w':World}{a:α}{es:Array Event}(h:(s.runT p w es).1=.ok a w'):w.drawn≤w'.drawn:=by
 have:=KX (p:=p) s w es;rw[h]at this;exact this
theorem Yt{α:Type}{p:Program}{s:Sem α}{w w':World}{a:Halt}{es:Array Event}(h:(s.runT p w es).1=.halt a w'):w.drawn≤w'.drawn:=by
 have:=KX (p:=p) s w es;rw[h]at this;exact this
def WG(d:Nat):GStep→Prop
 |.go _ w _=>d≤w.drawn
 |.comm _ _ _ _ w _=>d≤w.drawn
 |.spawn _ _ w _=>d≤w.drawn
 |.count _ w _=>d≤w.drawn
 |.timer _ _ w _=>d≤w.drawn
 |.alone _ _ w _=>d≤w.drawn
 |.newcoro _ _ _ w _=>d≤w.drawn
 |.coroswitch _ _ _ w _=>d≤w.drawn
 |.collect _ w _=>d≤w.drawn
 |.watch _ w _=>d≤w.drawn
 |.ended _ _ _=>True
theorem F6{d:Nat}{es:Array Event}:∀{g:GStep},WG d g→WG d (GStep.after es g)
 |.go ..,h|.comm ..,h|.spawn ..,h|.count ..,h|.timer ..,h|.alone ..,h|.newcoro ..,h|.coroswitch ..,h|.collect ..,h|.watch ..,h|.ended ..,h=>h
variable {p:Program}{d:Nat}{w:World}
macro "upl":tactic=>`(tactic| first|trivial|assumption|exact Ao (by assumption) (VL (by assumption))|exact Ao (by assumption) (EU (by assumption))|exact Ao (by assumption) (Ys (by assumption))|exact Ao (by assumption) (fO (by assumption)))
macro "ups":tactic=>`(tactic| ((try simp only);repeat' (first|upl|apply F6|(split<;>try simp only))))
theorem cJ(fd:Nat)(t:ByteArray)(o:Outcome):WG d (endWith w fd t o):=by
 unfold endWith;ups
theorem FZ(hd:d≤w.drawn)(fr:Frame)(m:String):WG d (endThrow fr m w):=hd
theorem Kz(hd:d≤w.drawn)(fr:Frame)(v:Value):WG d (endPrinting p fr v w):=by
 unfold endPrinting;simp only;split;·exact hd
 ·trivial
theorem PZ(hd:d≤w.drawn)(fr:Frame)(cs:List Frame)(dy:Option Dying)(m:String):WG d (endFatal p fr cs dy m w):=by
 unfold endFatal;simp only;split;·rename_i h;exact Ao hd (EU h)
 ·trivial
 ·trivial
theorem Zk(hd:d≤w.drawn)(fr:Frame)(dy:Dying)(f:Fatal):WG d (writeOn p fr dy f w):=by
 unfold writeOn;simp only;split;·trivial
 ·split;·rename_i h;exact Ao hd (VL h)
  ·rename_i h;exact Ao hd (Ys h)
  ·trivial
  ·trivial
theorem Zby(hd:d≤w.drawn)(fr:Frame)(dy:Dying):WG d (die p fr dy w):=by
 unfold die;split;·exact Zk hd _ _ _
 ·split
  ·split;·exact hd
   ·exact cJ _ _ _
  ·simp only;split;·exact hd
   ·split;·rename_i h;exact Ao hd (EU h)
    ·trivial
   ·refine F6 ?_;split<;>first|trivial|(rename_i h;exact Ao hd (VM h))|(rename_i h;exact Kz (Ao hd (Yt h)) _ _)
   ·trivial
theorem KA(hd:d≤w.drawn)(main:Bool)(fr:Frame)(cs:List Frame)(dy:Option Dying)(v:Value):WG d (doReturn p main fr cs dy v w):=by
 unfold doReturn;repeat' split
 all_goals first|trivial|exact hd
theorem QG(hd:d≤w.drawn)(fr:Frame)(cs:List Frame)(dy:Option Dying)(df:Deferred):WG d (callDeferred p fr cs dy df w):=by
 unfold callDeferred;generalize hr:(invoke df.target df.args).runT p w #[]=r;generalize hc:((df.target matches .nil)&&(fr.mode matches .panicking _))=c;cases c
 ·have hw:d≤(Result.w r.1).drawn:=by
   subst hr;exact Ao hd (KX _ w #[])
  clear hr;obtain⟨r,es⟩:=r;simp only[Ho,if_false];refine F6 ?_;split
  all_goals first
   |trivial
   |exact hw
   |exact PZ hw _ _ _ _
   |exact FZ hw _ _
   |(split<;>exact hw)
 ·trivial
theorem gU(hd:d≤w.drawn)(main:Bool)(fr:Frame)(cs:List Frame)(dy:Option Dying):WG d (unwind p main fr cs dy w):=by
 unfold unwind;split
 ·split;rename_i h;refine F6 ?_;split;·exact Ao hd (VL h)
  ·trivial
 ·exact QG hd _ _ _ _
 ·split;·trivial
  ·split;·trivial
   ·split;·exact hd
    ·split
     ·split;·exact hd
      ·split
       ·rename_i h;exact Ao hd (EU h)
       ·trivial
       ·trivial
     ·split;·exact Kz hd _ _
      ·trivial
  ·split;·exact KA hd _ _ _ _ _
   ·split;rename_i h;refine F6 ?_;split;·exact KA (Ao hd (VL h)) _ _ _ _ _
    ·trivial
    ·trivial
theorem qX(hd:d≤w.drawn)(fr:Frame)(cs:List Frame)(dy:Option Dying)(g:Nat):WG d (early p fr cs dy g w):=by
 have hny:∀w:World,d≤w.drawn→WG d (match w.heap[g]? with
  |some (.pending c elem)=>
   .go {frame:=fr,callers:=cs,status:=.running,dying:=dy} {w with heap:=w.heap.setIfInBounds g (.cells c elem)}
  |_=>.ended (.stuck "early: the variable does not wait" (fr.pos p)) w):=by
  intro w h;split;·exact h
  ·trivial
 unfold early;simp only;split;·exact hny w hd
 ·split;·trivial
  ·split;·exact hny w hd
   ·split;·exact hny w hd
    ·split;·trivial
     ·exact hd
     ·trivial
     ·exact hny w hd
     ·split;·exact hd
      ·split
       ·exact hny w hd
       ·split
        ·rename_i h;exact hny _ (Ao hd (EU h))
        ·rename_i h;exact Ao hd (EU (by assumption))
        ·trivial
theorem KF(listen:Bool)(hd:d≤w.drawn)(fr:Frame)(cs:List Frame)(dy:Option Dying)(s:Sem Next):WG d (stepG.apply p listen fr cs dy s w):=by
 unfold stepG.apply;simp only;refine F6 ?_;generalize hr:(if listen=true then s.runT p w #[]else (s.run p w,#[]))=r
 have hw:d≤(Result.w r.1).drawn:=by
  subst hr;split;·exact Ao hd (KX s w #[])
  ·exact Ao hd (ZJ s w)
 clear hr;obtain⟨r,es⟩:=r;simp only at hw⊢;split
 all_goals first
  |trivial
  |exact hw
  |exact PZ hw _ _ _ _
  |exact FZ hw _ _
  |exact qX hw _ _ _ _
  |(split<;>first|exact hw|exact FZ hw _ _|(split<;>exact hw))
theorem eJ(listen:Bool)(hd:d≤w.drawn)(fr:Frame)(cs:List Frame)(dy:Option Dying):WG d (stepG.oper p listen fr cs dy w):=by
 unfold stepG.oper;repeat' split
 all_goals first|trivial|exact KF listen hd _ _ _ _
theorem wK(main listen:Bool)(hd:d≤w.drawn)(fr:Frame)(cs:List Frame)(dy:Option Dying):WG d (stepG.exec p main listen fr cs dy w):=by
 have bJ:∀(c:Prop) [Decidable c] (jump:Option Code),WG d (match fr.roundOf with
   |none=>if c then .go {frame:={fr with mode:=.returning},callers:=cs,status:=.running,dying:=dy} w else .ended (.stuck "exit, goto: no such block or label" (fr.pos p)) w
   |some l=>
    GStep.after (seen p fr.fn ((Instr.endRound l jump).runT p w #[]).2) (match ((Instr.endRound l jump).runT p w #[]).1 with
    |.ok v w=>doReturn p main fr cs dy v w
    |.halt _ w=>.ended (.stuck "range over a function: no such loop" (fr.pos p)) w)):=by
  intro c _ jump;split
  ·split;·exact hd
   ·trivial
  ·refine F6 ?_;split
   ·rename_i h;exact KA (Ao hd (VM h)) _ _ _ _ _
   ·trivial
 unfold stepG.exec;simp only;split
 all_goals first
  |trivial
  |exact hd
  |exact bJ _ _
  |exact KF listen hd _ _ _ _
  |exact eJ listen hd _ _ _
  |(split<;>first|trivial|exact hd|exact KF listen hd _ _ _ _|exact eJ listen hd _ _ _|(split<;>first|trivial|exact Ao hd (EU (by assumption))))
  |(refine F6 ?_;split<;>first|trivial|exact Ao hd (VM (by assumption))|exact KF listen (Ao hd (VM (by assumption))) _ _ _ _|exact Ao hd (Yt (by assumption)))
  |(generalize exitTo _ _=o;cases o<;>first|exact bJ _ _|exact hd)
  |(generalize gotoIn _ _=o;cases o<;>first|exact bJ _ _|exact hd)
  |(generalize Extern.next _=o;cases o<;>first|trivial|exact KF listen hd _ _ _ _)
theorem mS(main:Bool)(g:Goroutine)(hd:d≤w.drawn)(listen:Bool):WG d (stepG p main g w listen):=by
 unfold stepG;simp only;split;·exact Zby hd _ _
 ·exact wK main listen hd _ _ _
 ·exact gU hd _ _ _ _
def MUp(d:Nat):Stepped→Prop
 |.next m=>d≤m.world.drawn
 |_=>True
def VUp(d:Nat):Move→Prop
 |.goroutine m _=>d≤m.world.drawn
 |.machine s _=>MUp d s
theorem Vm{rest:Rest}{cases:Array CommCase}{w':World}(h:waitingAt rest cases w=some w'):w'.drawn=w.drawn:=by
 unfold waitingAt at h;split at h
 ·split at h;·injection h with h;subst h;rfl
  ·cases h
 ·injection h with h;subst h;rfl
theorem S5(hd:d≤w.drawn)(rest:Rest)(gs:Array Goroutine)(i:Nat)(g:Goroutine)(cs:Array CommCase)(b:Bool)(shape:CommShape):MUp d (communicate p rest gs i g cs b shape w).1:=by
 unfold communicate;simp only;generalize cs.any _=c1;generalize List.filter _ _=ready;generalize hr:Lv p _ w=r;cases c1
 ·simp only[Ho,if_false];split
  ·split
   ·split;·rename_i h;exact Ao hd (I0 (Vm h).symm)
    ·trivial
   ·exact hd
  ·split;·trivial
   ·rename_i k c way w1;have h1:=Ao hd (EU hr);clear hr;generalize w1.heap[(_:Nat)]?=ho;generalize c.send=cse;split
    ·generalize bG:Lv p (runtimePanic _) w1=r2;split;·exact Ao h1 (fO bG)
     ·trivial
    ·exact h1
    ·exact h1
    ·generalize partners gs _ true=ps;split;·exact h1
     ·rename_i ps _ ;generalize bG:Lv p (choose _) w1=r2;split;·have h2:=EU bG;exact Ao h1 h2
      ·trivial
    ·exact h1
    ·exact h1
    ·trivial
 ·trivial
theorem eS(hd:d≤w.drawn)(gs:Array Goroutine)(rest:Rest):MUp d (look p gs rest w):=by
 unfold look;split
 ·simp only;generalize (_||_:Bool)=c1
  cases c1
  ·simp only[Ho,if_false];split;·trivial
   ·generalize hr:Lv p _ w=r;cases r with
    |ok a w'=>have h2:=EU hr;exact Ao hd h2
    |halt h w'=>cases h<;>trivial
  ·trivial
 ·trivial
theorem nB(m:Machine)(hd:d≤m.world.drawn)(k:Nat):MUp d (serve p m k):=by
 unfold serve;simp only;repeat' (first|trivial|exact hd|split)
theorem YK(w:World)(c:Nat):(drain w c).2.drawn=w.drawn:=by
 unfold drain;split<;>rfl
theorem Uv(m:Machine)(k:Nat)(t:Timer)(a b:Nat):(retime m k t a b).2.world.drawn=m.world.drawn:=by
 unfold retime;simp only;split;·exact YK _ _
 ·rfl
theorem Zy(m:Machine)(op:TimerOp){v:Value}{m':Machine}(h:timerOp m op=.ok (v,m')):m'.world.drawn=m.world.drawn:=by
 have hn:∀(var:Addr)(f:Nat→Timer→Value×Machine),(∀k t,(f k t).2.world.drawn=m.world.drawn)→∀v m',timerOp.named m var f=.ok (v,m')→m'.world.drawn=m.world.drawn:=by
  intro var f hf v m' h;unfold timerOp.named at h;split at h
  ·injection h with h
   rename_i c _;have:=hf c (m.rest.timers.getD c default);rw[h]at this;exact this
  ·cases h
 unfold timerOp at h;split at h
 ·split at h;·injection h with h;injection h with h1 h2;subst h2;rfl
  ·split at h
   ·split at h;·cases h
    ·injection h with h;injection h with h1 h2;subst h2;rfl
   ·cases h
 ·exact hn _ _ (λk t=>Uv _ _ _ _ _) _ _ h
 ·split at h
  ·rename_i m1 e
   have h1:m1.world.drawn=m.world.drawn:=by
    unfold timerOp.opened at e;split at e
    ·split at e;·injection e with e;subst e;rfl
     ·cases e
    ·injection e with e;subst e;rfl
   exact hn _ _ (λk t=>(Uv _ _ _ _ _).trans h1) _ _ h
  ·cases h
 ·injection h with h;injection h with h1 h2;subst h2;rfl
theorem nG(m:Machine)(i:Nat)(listen:Bool)(hd:d≤m.world.drawn):MUp d (runT p m i listen).1:=by
 unfold runT;simp only;have h:=λg=>mS (p:=p) (w:=m.world) (i == 0) g hd listen
 generalize (m.gs.swapAt! i {(default:Goroutine)with status:=.finished})=gg at*
 obtain⟨g,gs⟩:=gg;simp only;have h:=h g;generalize stepG p (i == 0) g m.world listen=s at*;cases s with
 |ended o w _=>trivial
 |comm g cs b sh w _=>exact S5 h _ _ _ _ _ _ _
 |go g w _=>exact h
 |spawn g c w _=>exact h
 |count g w _=>simp only;split<;>first|trivial|exact h
 |alone g on w _=>exact h
 |collect g w _=>exact eS h _ _
 |watch g w _=>exact h
 |newcoro g c df w _=>exact h
 |coroswitch g c e w _=>
  simp only;split;·exact h
  ·split;·rename_i e;have:=FZ h g.frame "coroswitch on exited coro";rw[e]at this;exact this
   ·trivial
  ·trivial
 |timer g op w _=>
  simp only;split;·rename_i e;exact Ao h (I0 (Zy _ _ e).symm)
  ·split;·rename_i msg _ _ _ _ _ e;have:=FZ h g.frame msg;rw[e]at this;exact this
   ·trivial
  ·trivial
  ·trivial
theorem S8(m:Machine)(hd:d≤m.world.drawn):VUp d (askOn p m):=by
 have pS:∀(m:Machine)(rs:List Nat),d≤m.world.drawn→VUp d (match (choose (.sched rs.length)).run p m.world with
   |.halt _ w=>.machine (.ended (.stuck "sched" "") w)
   |.ok k world=>
    if rs.length≤1 then .goroutine {m with world} (rs.getD k 0)else
    match (choose (.extern "sched.slice" 65536)).run p world with
    |.halt _ w=>.machine (.ended (.stuck "sched.slice" "") w)
    |.ok n world=>.goroutine {m with world,rest:={m.rest with slice:=if n=0 then none else some (rs.getD k 0,n)}} (rs.getD k 0)):=by
  intro m rs hd;split;·trivial
  ·rename_i e;split;·exact Ao hd (EU e)
   ·split;·trivial
    ·rename_i e2;exact Ao (Ao hd (EU e)) (EU e2)
 unfold askOn;simp only;split;·trivial
 ·rename_i e;have h1:=Ao hd (EU e);split;·exact nB _ h1 _
  ·split
   ·split;·exact h1
    ·split;·exact h1
     ·split<;>trivial
   ·split;·exact pS {m with world:=_} _ h1
    ·split;·trivial
     ·rename_i e2;exact pS {m with world:=_} _ (Ao h1 (EU e2))
     ·rename_i e2;have h2:=EU e2;exact Ao h1 h2
     ·rename_i e2;have h2:=EU e2;exact pS (Machine.advanceTo {m with world:=_} _) _ (Ao h1 h2)
theorem gE(m:Machine)(hd:d≤m.world.drawn):VUp d (ask p m):=by
 unfold ask;split
 ·split;·trivial
  ·rename_i e;have h1:=eS (p:=p) (Ao hd (EU e)) m.gs m.rest;split
   ·rename_i e2;rw[e2]at h1;exact S8 _ h1
   ·exact h1
  ·rename_i e;exact S8 _ (Ao hd (EU (by assumption)))
 ·exact S8 _ hd
theorem tF{m m':Machine}(h:step p m=.next m'):m.world.drawn≤m'.world.drawn:=by
 have hm:VUp m.world.drawn (move p m):=by
  unfold move;split
  ·split;·exact Ds _
   ·trivial
  ·split
   ·split;·exact Ds _
    ·exact gE _ (Ds _)
   ·exact gE _ (Ds _)
 unfold step stepT at h;split at h
 ·rename_i e;rw[e]at hm;have:=nG (p:=p) _ (by assumption) true hm
  rw[h]at this;exact this
 ·rename_i e;rw[e]at hm;simp only at h;subst h;exact hm
theorem eC:∀(n:Nat){m m':Machine},runN p n m=.next m'→m.world.drawn≤m'.world.drawn
 |0,m,m',h=>by
  unfold runN at h;injection h with h
  subst h;exact Ds _
 |n+1,m,m',h=>by
  unfold runN at h;split at h
  ·rename_i e;exact Ao (tF e) (eC n h)
  ·rename_i e;exact absurd h (e _)
theorem rI{f:FuncId}{args:Array Value}{w:World}{R:Ending→World→Prop}(h:Calls p f args w R):Calls p f args w λe w'=>R e w'∧((∃v,e=.returned v)→w.drawn≤w'.drawn):=by
 intro cs;obtain⟨e,w',fr,h1,h2,h3,h4⟩:=h cs;refine⟨e,w',fr,⟨h1,?_⟩,h2,h3,h4⟩;rintro⟨v,rfl⟩;obtain⟨n,hn⟩:=h2;exact eC n hn
end Go.Av
namespace Go.Av
open Go.Proofs Go.Sort Go.Shelf
section
variable {P:Program}{C:Ag}{w:World}{mu:Mu}
theorem Xn:∀(xs ys:List AV){vs:List Value},Aa C w (xs++ys) mu vs→∃us ws,vs=us++ws∧Aa C w xs mu us∧Aa C w ys mu ws
 |[],ys,vs,h=>⟨[],vs,rfl,by unfold Aa;rfl,h⟩
 |a::xs,ys,vs,h=>by
  rw[List.cons_append]at h;unfold Aa at h;obtain⟨v,BV,rfl,h1,h2⟩:=h;obtain⟨us,ws,rfl,h3,h4⟩:=Xn xs ys h2;exact⟨v::us,ws,rfl,by unfold Aa;exact⟨v,us,rfl,h1,h3⟩,h4⟩
def Jj(C:Ag)(w:World){β:Type}(v:β→AV)(Ok:β→Prop):Type:={p:β×List Value // Ok p.1∧Aa C w (v p.1).cells Mu.none p.2∧∀u∈p.2,u.oneCell'=true}
def Jj.enc{β:Type}{v:β→AV}{Ok:β→Prop}(x:Jj C w v Ok):List Value:=x.1.2
theorem dX{β:Type}(v:β→AV)(Ok:β→Prop)(IJ:∀x,Ap (v x).cells=true):∀(l:List β){us:List Value},(∀x∈l,Ok x)→Aa C w (flat (l.map v)) mu us→(∀u∈us,u.oneCell'=true)→
  ∃ds:List (Jj C w v Ok),ds.map (λx=>x.1.1)=l∧us=(ds.map Jj.enc).flatten
 |[],us,_,h,_=>by
  unfold flat at h;simp only[List.map_nil,Mn]at h;unfold Aa at h;exact⟨[],rfl,h⟩
 |x::l,us,hx,h,h1=>by
  have e:flat ((x::l).map v)=(v x).cells++flat (l.map v):=rfl;rw[e]at h;obtain⟨u1,u2,rfl,h2,h3⟩:=Xn _ _ h;obtain⟨ds,rfl,rfl⟩:=dX v Ok IJ l (λy hy=>hx y (JB _ hy)) h3 (λu hu=>h1 u (Ls _ hu))
  exact⟨⟨(x,u1),hx x (List.mem_cons_self ..),A1 _ (IJ x) h2,λu hu=>h1 u (JA _ hu)⟩::ds,rfl,rfl⟩
theorem Um{β:Type}{v:β→AV}{Ok:β→Prop}:∀(ds:List (Jj C w v Ok)),Aa C w (flat ((ds.map λx=>x.1.1).map v)) mu (ds.map Jj.enc).flatten
 |[]=>by unfold flat;simp only[List.map_nil,Mn];unfold Aa;rfl
 |x::ds=>by
  have e:flat (((x::ds).map λx=>x.1.1).map v)=(v x.1.1).cells++flat ((ds.map λx=>x.1.1).map v):=rfl
  rw[e];exact AF (Aa.mono (Ext.refl _ _) _ (Ay.none _) x.2.2.1) (Um ds)
theorem PX{α:Type}{enc:α→List Value}{k:Nat}(hk:∀x,(enc x).length=k):∀(ds:List α)(j:Nat)(h:j<ds.length*k),∃h1:j/k<ds.length,(ds.map enc).flatten[j]?=(enc ds[j/k])[j%k]?
 |[],j,h=>by simp at h
 |x::ds,j,h=>by
  have k0:0<k:=by rcases LF k with h'|h'
                  · subst h';simp at h
                  · exact h'
  by_cases hj:j<k
  ·refine⟨by rw[Mo hj];simp,?_⟩
   simp only[K2,KT];rw[J4 (by rw[hk];exact hj)]
   simp only[Mo hj,Nat.mod_eq_of_lt hj,List.getElem_cons_zero]
  ·have hd:j/k=(j-k)/k+1:=by
    rw[show j=(j-k)+k by omega,Nat.add_div_right _ k0];simp
   have hm:j%k=(j-k)%k:=by rw[Nat.mod_eq_sub_mod (by omega)]
   have h':j-k<ds.length*k:=by simp[Nat.add_mul]at h;omega
   obtain⟨h1,h2⟩:=PX hk ds (j-k) h';refine⟨by rw[hd];simp;exact h1,?_⟩
   simp only[K2,KT];rw[List.getElem?_append_right (by rw[hk];omega),hk,h2,hm]
   simp only[hd,List.getElem_cons_succ]
theorem PW{α:Type}{enc:α→List Value}{k:Nat}(hk:∀x,(enc x).length=k):∀(ds:List α),(ds.map enc).flatten.length=ds.length*k
 |[]=>by simp
 |x::ds=>by simp only[K2,KT,List.length_append,hk,PW hk ds,List.length_cons,Nat.add_mul];omega
theorem cB{α:Type} [Inhabited α]{enc:α→List Value}{k:Nat}(hk:∀x,(enc x).length=k)(d:Array α):(flatK enc k d).toList=(d.toList.map enc).flatten:=by
 apply J6;intro j;by_cases hj:j<d.size*k
 ·obtain⟨h1,h2⟩:=PX hk d.toList j (by simpa using hj)
  rw[h2];have h1':j/k<d.size:=by simpa using h1
  have:=get_flatK enc k d j hj;have hs:j<(flatK enc k d).size:=by rw[size_flatK];exact hj
  rw[getElem!_pos (flatK enc k d) j hs]at this
  have k0:0<k:=by rcases LF k with h'|h'
                  · subst h';simp at hj
                  · exact h'
  have hl:j%k<(enc d[j/k]).length:=by rw[hk];exact Nat.mod_lt _ k0
  rw[getElem!_pos d (j/k) h1',getElem!_pos _ (j%k) hl]at this;rw[Gm,Fw hs,this];simp only[Array.getElem_toList];rw[Hm hl]
 ·rw[F0 (by simp;omega),F0 (by rw[PW hk];simpa using hj)]
theorem grown_of{W W':World}(h:Go.RowKit.Below W.heap.size W W')(h4:W.drawn≤W'.drawn):∃q os,W'=grow (W.drewN q) os:=by
 refine⟨W'.drawn-W.drawn,W'.heap.extract W.heap.size W'.heap.size,?_⟩;obtain⟨h1,h2,h3,h5,h6⟩:=h;cases W' with
 |mk heap tape drawn os output=>
  simp only at h1 h2 h3 h4 h5 h6;subst h1 h2 h3;unfold grow World.drewN;simp only[World.mk.injEq,true_and,and_true];refine⟨?_,by omega⟩
  apply LP;intro i;by_cases hi:i<W.heap.size;·rw[J2 hi,h6 i hi]
  ·rw[Array.getElem?_append_right (by omega)]
   simp only[Lo];by_cases Qz:i<heap.size;·rw[if_pos (by omega)];congr 1;omega
   ·rw[if_neg (by omega),It (by omega)]
theorem N8{α:Type} [Inhabited α](enc:α→List Value)(k b m:Nat)(dk:Array α)(os:Array Obj){i:Nat}(hi:i<w.heap.size):
  (sortWorldK enc k w b 0 m dk os).heap[i]?=if i=b then w.heap[i]?.map (onCells (putCells id 0 (flatK enc k dk)))else w.heap[i]?:=by
 unfold sortWorldK grow putRowK putRow mapBlock Sort.ahead;simp only;rw[J2 (by simpa using hi),Array.getElem?_modify]
 by_cases h:b=i;·subst h;simp
 ·rw[if_neg h,if_neg (Ne.symm h)]
theorem KR{α:Type} [Inhabited α](enc:α→List Value)(k b m:Nat)(dk:Array α)(os:Array Obj):w.heap.size≤(sortWorldK enc k w b 0 m dk os).heap.size:=by
 unfold sortWorldK grow putRowK putRow mapBlock Sort.ahead;simp
theorem Zch{β:Type}{ρ:Ren}(L:SlLaysF0.n6 P ρ)(k:Nat)(aE:∀w,(isAgg (ρ.t 24)).run P w=.ok true w)(zE:∀w,(Go.sizeOf (ρ.t 24)).run P w=.ok k w)(hg6:B5 P (ρ.f 6)=true)(g:Nat)
  (eg:∀args w,(callFunc g args).run P w=.ok (.enter g args) w) (v:β→AV) (Ok:β→Prop) (cf:β→β→Int) (Zfu:∀x,¬cf x x<0) (htr:∀x y z,cf x y<0→cf y z<0→cf x z<0) (Zfe:∀x y z,¬cf x y<0→¬cf y z<0→¬cf x z<0)
  (hv:∀x,∃cs,v x=.agg cs∧cs.length=k∧Ap cs=true) (pM:∀x y,Ok x→Ok y→Aw P g [v x,v y] (λr=>r=.int .i64 (cf x y)))
  (l:List β) (hl:l.length<4611686018427387904) (hx:∀x∈l,Ok x) (e:TypeId):
  Ea P (ρ.f 6) [.own 0 k 0 l.length,.fn g []] e k (l.map v) (λr es=>r=.tuple []∧∃l':List β,es=l'.map v∧l'.Perm l∧l'.Pairwise λx y=>¬cf y x<0):=by
 refine⟨hg6,λC mu w vs AR hh hr=>?_⟩
 have hvc:∀x,Ap (v x).cells=true∧(v x).cells.length=k:=λx=>by
  obtain⟨cs,h1,h2,h3⟩:=hv x;rw[h1];exact⟨h3,h2⟩
 unfold Aa at hr;obtain⟨v1,_,rfl,fC,hr⟩:=hr;unfold Aa at hr;obtain⟨v2,_,rfl,bG,hr⟩:=hr;unfold Aa at hr;subst hr;unfold Aj at fC bG;obtain⟨x,hm,_,_,rfl⟩:=fC;obtain⟨cb,rfl,hcb⟩:=bG;unfold Aa at hcb;subst hcb;obtain⟨IJ,JG⟩:=hh.BJ 0 e k (l.map v) rfl;rcases JG with⟨m0,ZaI⟩|⟨b,cap,cur,m0,⟨fz,hb,Nu⟩,hle,EM,bR,Sx,TR⟩
 ·have Sz:l=[]:=by simpa using ZaI
  subst Sz;rw[m0]at hm;simp only[FP.injEq,GO.arr.injEq]at hm;subst hm;refine(AnyF.slices_SortFunc_none L none 0 (.func (.func g) #[] #[]) w).mono λen w' h=>?_
  obtain⟨rfl,rfl⟩:=h;exact⟨.tuple [],_,[],C,rfl,⟨rfl,[],rfl,.nil,.nil⟩,rfl,⟨⟨rfl,rfl,rfl,Ds _,λ_ _=>rfl⟩,λ_ _ h=>h,λb o hc=>⟨AR.lt b o hc,.inl hc⟩,λ_ _ h=>h,λl g b h1 h2=>.inl ⟨l,g,h1,h2⟩⟩,hh,by unfold Aj;exact⟨[],rfl,by unfold Aa;rfl⟩⟩
 ·rw[m0]at hm;simp only[FP.injEq,GO.arr.injEq]at hm;subst hm;have hbf:=hh.fresh 0 _ b m0 rfl;have hblk:b<w.heap.size:=hbf.2.1;have hlen:(l.map v).length=l.length:=by simp
  rw[hlen]at hle Sx m0;have hrl:=Ar _ Sx;obtain⟨ds,qC,ZfK⟩:=dX v Ok (λx=>(hvc x).1) l hx Sx (λu hu=>TR u (List.mem_of_mem_take hu))
  have hk:∀x:Jj C w v Ok,x.enc.length=k:=λx=>by
   have:=Ar _ x.2.2.1;rw[(hvc _).2]at this;exact this
  have QA:ds.length=l.length:=by rw[←qC];simp
  by_cases Sz:l=[]
  ·subst Sz;refine(AnyF.slices_SortFunc_none L (some ⟨b,0+0*k,none⟩) (cap-0) (.func (.func g) #[] #[]) w).mono λen w' h=>?_
   obtain⟨rfl,rfl⟩:=h;exact⟨.tuple [],_,[],C,rfl,⟨rfl,[],rfl,.nil,.nil⟩,rfl,⟨⟨rfl,rfl,rfl,Ds _,λ_ _=>rfl⟩,λ_ _ h=>h,λb o hc=>⟨AR.lt b o hc,.inl hc⟩,λ_ _ h=>h,λl g b h1 h2=>.inl ⟨l,g,h1,h2⟩⟩,hh,by unfold Aj;exact⟨[],rfl,by unfold Aa;rfl⟩⟩
  ·have d0:Jj C w v Ok:=ds[0]'(by rw[QA];exact List.length_pos_iff.2 Sz)
   letI:Inhabited (Jj C w v Ok):=⟨d0⟩
   have SB:∀d:Array (Jj C w v Ok),(flatK Jj.enc k d).toList=(d.toList.map Jj.enc).flatten:=λd=>cB hk d
   have hH:HoldsK Jj.enc k w b 0 ds.toArray:=by
    intro j hj;rw[size_flatK]at hj;simp only[List.size_toArray,QA]at hj;have bL:j<cur.size:=by rw[bR];exact E9 hj (Lw k hle)
    have U0:(flatK Jj.enc k ds.toArray)[j]?=cur[j]?:=by
     rw[←Gm,SB,←ZfK,K0 hj,Gm]
    have hjs:j<(flatK Jj.enc k ds.toArray).size:=by rw[size_flatK];simpa[QA]using hj
    rw[getElem!_pos _ j hjs];rw[Fw hjs,Fw bL]at U0;simp only[FP.injEq]at U0;rw[U0,Nat.zero_add];refine⟨?_,?_⟩;·rw[cell_of_row w b j cur e _ hb,Fw bL];rfl
    ·exact PU hb Nu bL
   have bP:∀m (dk:Array (Jj C w v Ok)) os,Ext C C w (sortWorldK Jj.enc k w b 0 m dk os):=λm dk os=>⟨λ_ _ h=>h,λb' o hc=>by
    have Bu:b'≠b:=λh=>hbf.2.2 o (by rw[←h];exact hc)
    rw[N8 Jj.enc k b m dk os (AR.lt b' o hc),if_neg Bu]⟩
   have ZfM:CmpLays P g #[] Jj.enc k (λx y:Jj C w v Ok=>cf x.1.1 y.1.1) b 0 ds.toArray.size w:=by
    intro m os dk Eh x y;have LB:=bP m dk os;have D5:Zh C (sortWorldK Jj.enc k w b 0 m dk os):=AR.mono LB λb' o hc=>E9 (AR.lt b' o hc) (KR Jj.enc k b m dk os)
    have hr:∀z:Jj C w v Ok,Aj C (sortWorldK Jj.enc k w b 0 m dk os) (v z.1.1) Mu.none (.agg z.enc.toArray):=λz=>by
     obtain⟨cs,h1,h2,h3⟩:=hv z.1.1;have h4:=z.2.2.1;rw[h1]at h4 ⊢;unfold Aj;exact⟨z.enc,rfl,Aa.mono LB _ (Ay.refl _) h4⟩
    have hc:=(pM x.1.1 y.1.1 x.2.1 y.2.1).out C _ [.agg x.enc.toArray,.agg y.enc.toArray] D5 (by
     unfold Aa;refine⟨_,_,rfl,hr x,?_⟩;unfold Aa;refine⟨_,_,rfl,hr y,?_⟩;unfold Aa;rfl)
    refine Calls.mono (by simpa using rI hc) λen w' h=>?_
    obtain⟨⟨r,u,rfl,rfl,LG,hu⟩,hup⟩:=h;unfold Aj at hu;obtain⟨rfl,_⟩:=hu;exact⟨rfl,grown_of LG (hup _ rfl)⟩
   have hO:SWO (ltOf λx y:Jj C w v Ok=>cf x.1.1 y.1.1):=⟨λx=>by simp[ltOf];have:=Zfu x.1.1;omega,λx y z h1 h2=>by simp only[ltOf,decide_eq_true_eq]at *;exact htr _ _ _ h1 h2,
    λx y z h1 h2=>by simp only[ltOf,decide_eq_false_iff_not]at *;exact Zfe _ _ _ h1 h2⟩
   have main:=AnyQ.slices_SortFunc L k aE zE Jj.enc hk (λx=>x.2.2.2) (λx y:Jj C w v Ok=>cf x.1.1 y.1.1) hO g #[] b 0 cap ds.toArray w eg ZfM hH hblk (by simpa[QA]using hl)
   rw[show ds.toArray.size=l.length by simpa using QA]at main
   have ZfX:[BP (.slice (some ⟨b,0,none⟩) (l.map v).length cap) k 0 l.length,M3 (.func g) #[] #[]].toArray=#[Value.slice (some ⟨b,0,none⟩) l.length cap,.func (.func g) #[] #[]]:=by simp[BP]
   rw[ZfX];refine main.mono λen w' h=>?_
   obtain⟨rfl,d',n,os,hp,hs,rfl⟩:=h;have kA:d'.size=l.length:=by have:=hp.1;simpa[QA]using this
   have ZcW:d'.toList.Perm ds:=by
    have:=hp.2.2;rw[←QA]at this
    have e1:d'.extract 0 ds.length=d':=by
     apply LP;intro i
     by_cases hi:i<d'.size;·rw[Lo,if_pos (by omega)];simp
     ·rw[It (by simp;omega),It (by omega)]
    have e2:ds.toArray.extract 0 ds.length=ds.toArray:=by simp
    rw[e1,e2]at this;simpa using this
   have LB:=bP n d' os;have yK:=N8 (w:=w) Jj.enc k b n d' os hblk;rw[if_pos rfl,hb]at yK
   have Ze6:(putCells id 0 (flatK Jj.enc k d') cur).toList.take (l.length*k)=(d'.toList.map Jj.enc).flatten:=by
    rw[←SB];apply J6;intro j;by_cases hj:j<l.length*k
    ·have bL:j<cur.size:=by rw[bR];exact E9 hj (Lw k hle)
     have hj3:j<(flatK Jj.enc k d').size:=by rw[size_flatK,kA];exact hj
     rw[K0 hj,Gm,Gm];unfold putCells;rw[Array.getElem?_mapIdx,Fw bL,Fw hj3];simp only[MY,FP.injEq];rw[if_pos ⟨Nat.zero_le _,by omega⟩,Nat.sub_zero,getElem!_pos _ j hj3]
     rfl
    ·rw[F0 (by simp;omega),F0 (by simp[kA];omega)]
   refine⟨.tuple [],_,(d'.toList.map λx=>x.1.1).map v,C,rfl,⟨rfl,d'.toList.map λx=>x.1.1,rfl,?_,?_⟩,by simp[kA],⟨⟨rfl,rfl,rfl,KR Jj.enc k b n d' os,λb' LG=>?_⟩,λ_ _ h=>h,λb' o hc=>⟨E9 (AR.lt b' o hc) (KR Jj.enc k b n d' os),.inl hc⟩,λ_ _ h=>h,λl g b h1 h2=>.inl ⟨l,g,h1,h2⟩⟩,⟨λi x hi=>by have:=hh.HH i x hi;simpa using this,λi x b' hi LG=>?_,hh.sep,λi hi=>?_,λi cs hi=>?_,λi e' BD Cf hi=>?_,λi ks us hi=>?_⟩,by unfold Aj;exact⟨[],rfl,by unfold Aa;rfl⟩⟩
   ·rw[←qC];exact ZcW.map _
   ·rw[List.pairwise_map,List.pairwise_iff_getElem];intro i j hi hj N4;have EY:i<d'.size:=by simpa using hi
    have hj':j<d'.size:=by simpa using hj
    have:=hs i j (Nat.zero_le _) N4 (by omega)
    rw[getElem!_pos d' i EY,getElem!_pos d' j hj']at this;simp only[ltOf,decide_eq_false_iff_not]at this;simpa using this
   ·rw[N8 Jj.enc k b n d' os LG.1,if_neg (λh=>LG.2 0 _ m0 (by rw[h];rfl))]
   ·obtain⟨k1,k2,k3⟩:=hh.fresh i x b' hi LG;exact⟨k1,E9 k2 (KR Jj.enc k b n d' os),k3⟩
   all_goals
    match i,hi with
    |0,hi=>?_
    |i+1,hi=>simp at hi
   all_goals simp only[List.getElem?_cons_zero,FP.injEq,HO.arr.injEq,reduceCtorEq]at hi
   obtain⟨rfl,rfl,rfl⟩:=hi;refine⟨λa ha=>?_,.inr ⟨b,cap,putCells id 0 (flatK Jj.enc k d') cur,by simpa[kA]using m0,⟨fz,yK,Nu.size (by unfold putCells;simp)⟩,by simpa[kA]using hle,EM,by unfold putCells;simpa using bR,?_,λu hu=>?_⟩⟩
   ·obtain⟨x,_,rfl⟩:=List.mem_map.1 ha;exact(hvc x).2
   ·rw[show((d'.toList.map λx=>x.1.1).map v).length=l.length by simp[kA],Ze6]
    exact Aa.mono LB _ (Ay.refl _) (Um d'.toList)
   ·rw[J1]at hu;obtain⟨j,hj,rfl⟩:=Array.mem_iff_getElem.1 hu;unfold putCells at hj⊢;have bL:j<cur.size:=by simpa using hj
    rw[Array.getElem_mapIdx];split
    ·rename_i PL;have hj3:j<(flatK Jj.enc k d').size:=by omega
     rw[Nat.sub_zero,getElem!_pos _ j hj3];have Nr:(flatK Jj.enc k d')[j]∈(flatK Jj.enc k d').toList:=by rw[J1];exact L3 hj3
     rw[SB]at Nr;obtain⟨q,hq,hq2⟩:=List.mem_flatten.1 Nr;obtain⟨y,_,rfl⟩:=List.mem_map.1 hq;exact y.2.2.2 _ hq2
    ·exact TR _ (by rw[J1];exact L3 bL)
end
section
variable {G:Cx}{C:Ag}{w w':World}{mu:Mu}{H:List HO}{E:List AV}{a:Act}{P:Program}{K:KK}{X:XX}
theorem cR(h:Az G C mu E H a w){l1 b1 b2 n:Nat}{cs1 cs2:List AV}{QE:Array Value}{ee:TypeId}(Wb:H[l1]?=some (.cells cs1))(hm1:mu l1=some (.CU b1))(GA:w.heap[b2]?=some (.cells QE ee (0,0)))
  (bG:Aa C w cs2 mu QE.toList) (h12:∀v∈QE.toList,v.oneCell'=true) (n1:cs1.length=n) (n2:cs2.length=n) {ts el ty:TypeId} (JJ:G.P.underlying ts=some (.slice el)) (Eh:(G.P.info? el).map (·.size)=some 1):
  ∃w',(Builtin.copy_ #[ts,ts] ty #[.slice (some ⟨b1,0,none⟩) n n,.slice (some ⟨b2,0,none⟩) n n]).run G.P w=.ok (goInt n) w'∧Az G C mu E (H.set l1 (.cells cs2)) a w':=by
 obtain⟨b',Wn,e1,V8,N5,fC,h11⟩:=h.heap.Cm l1 cs1 Wb;rw[hm1]at V8;simp only[FP.injEq,GO.CU.injEq]at V8;subst V8;have k1:=Ar _ fC;have k2:=Ar _ bG
 have s1:Wn.size=n:=by have:Wn.size=Wn.toList.length:=by simp
                       omega
 have s2:QE.toList.length=n:=by omega
 have Fx:(Wn.toList.take 0++QE.toList++Wn.toList.drop (0+QE.toList.length)).toArray=QE:=by
  rw[List.drop_eq_nil_of_le (by have:Wn.toList.length=Wn.size:=by simp
                                omega)]
  simp
 have AZ:=run_copy_row (P:=G.P) w ts ts ty el b1 0 n n ⟨b2,0,none⟩ n n Wn e1 QE.toList JJ Eh N5 (by rw[s2];simp) (λj v hj=>by
   have Zbf:(⟨b2,0,none⟩:Addr).add j=⟨b2,j,none⟩:=by unfold Addr.add;split<;>simp_all
   rw[Zbf,cell_of_row w b2 j QE ee _ GA,←Gm,hj]) (by omega) h12
 rw[Fx,s2]at AZ
 have Kl:mu.set l1 (some (.CU b1))=mu:=by
  funext i;by_cases e:i=l1
  ·subst e;rw[Mu.Au,hm1]
  ·rw[Mu.AB _ _ e]
 refine⟨_,AZ,?_⟩;have hx:=FA (w:=w) (h.heap.fresh _ _ _ hm1 rfl).2.2 QE;have AR:l1<H.length:=(Ff.1 Wb).1
 have:=Az.write (g:=.CU b1) (g':=.CU b1) h hm1 rfl (new:=QE) N5 (.cells cs2) rfl (λ_ h=>h) (λ_ h=>h) (E':=E)
  (by rw[Kl];exact Aa.mono hx _ (Ay.refl _) h.env) (H.set l1 (.cells cs2)) (by simp)
  (λi hi=>by
   rw[Cb (Ne.symm hi),Kl]
   exact⟨λh=>h,λcs h=>⟨cs,h,λ_ h=>h⟩,λ_ _ _ h=>h,λcs _ _ h=>⟨cs,h,λ_ h=>h⟩,λ_ h=>h⟩)
  (by simp) (by simp[AR])
  (λcs' hc=>by
   simp only[HO.cells.injEq]at hc
   subst hc
   exact⟨rfl,bG,h12⟩)
  (by simp)
  (λi hi ks vs h=>by rw[Cb (Ne.symm hi)]at h;exact h)
 rw[Kl]at this;exact this
theorem nL{xs ys:List AV}{vs:List Value}(h:Aa C w xs mu vs)(hl:ys.length=xs.length)(hi:∀i:Nat,ys[i]?=some .any∨ys[i]?=xs[i]?):Aa C w ys mu vs:=by
 obtain⟨h1,h2⟩:=(AI _).1 h;refine(AI _).2 ⟨by omega,λi sR Qz=>?_⟩
 rcases hi i with e|e
 ·rw[Hm sR]at e;rw[FP.inj e];unfold Aj;trivial
 ·rw[Hm sR,Hm (by omega:i<xs.length)]at e
  rw[FP.inj e];exact h2 i (by omega) Qz
theorem Ac.wR{id:Nat}{ops:Array Oper}{s1 s2 s3 y1 y2:Tmp}{t ts el:TypeId}{l1 l2 n:Nat}{cs1 cs2:List AV}(o1 o2 o3:Oper)(hm:P.follows .mixedOrders=true)
  (g1:ops[0]?=some o1∧o1.op=.slice t (.tmp y1) none none none∧o1.dst=some s1∧o1.guard=none) (g2:ops[1]?=some o2∧o2.op=.slice t (.tmp y2) none none none∧o2.dst=some s2∧o2.guard=none)
  (g3:ops[2]?=some o3∧o3.op=.call {callee:=.builtin .copy,args:=#[.tmp s1,.tmp s2],argTypes:=#[ts,ts]}∧o3.dst=some s3∧o3.guard=none)
  (hr:ops.size=3∧G4 .any ops #[false,false,false]=[0,1]∧G4 .any ops #[true,false,false]=[1]∧G4 .any ops #[false,true,false]=[0]∧G4 .any ops #[true,true,false]=[2]∧G4 .any ops #[true,true,true]=[])
  (sJ:P.underlying t=some (.array n el)) (JJ:P.underlying ts=some (.slice el)) (Eh:(P.info? el).map (·.size)=some 1)
  (TN:AM E (.tmp y1)=.ptr l1 0) (hx2:AM E (.tmp y2)=.ptr l2 0) (hd:y1≠s2∧y2≠s1∧s2≠s1) (AR:s1<E.length∧s2<E.length) (Wb:H[l1]?=some (.cells cs1)) (Y8:H[l2]?=some (.cells cs2)) (n1:cs1.length=n) (n2:cs2.length=n)
  (hk:K (((E.set s1 .any).set s2 .any).set s3 .any) (H.set l1 (.cells cs2))):Ac P (.region id ops true) E H K X:=
 ⟨λm G a w0 hP Ss=>by
  obtain⟨C,mu,Ss⟩:=Ss
  subst hP
  have Ah:Az G C mu E H a w0.drew:=Ss.drew
  refine wpIn_region_any hm ?_
  show wpAnyIn _ _ _ _ _ _ _ _ a w0.drew
  generalize w0.drew=w at Ah⊢
  obtain⟨i1,p1,d1,gu1⟩:=g1
  obtain⟨i2,p2,d2,gu2⟩:=g2
  obtain⟨i3,p3,d3,gu3⟩:=g3
  obtain⟨xZ,r0,r1,r2,r3,r4⟩:=hr
  obtain⟨Wd,vP,lS⟩:=hd
  obtain⟨V9,ZaO⟩:=AR
  obtain⟨b1,Wn,e1,m1,N5,q1,k1⟩:=Ah.heap.Cm l1 cs1 Wb
  obtain⟨b2,QE,e2,m2,GA,q2,k2⟩:=Ah.heap.Cm l2 cs2 Y8
  have hlen:G.P.arrayLen t=n:=by unfold Program.arrayLen;rw[sJ]
  have qA:G.P.elem t=el:=by unfold Program.elem;rw[sJ]
  have ZeX:G.P.underlying t=some (.array (G.P.arrayLen t) (G.P.elem t)):=by rw[hlen,qA];exact sJ
  obtain⟨inf,Zfw,Mq⟩:∃i,G.P.info? el=some i∧i.size=1:=by
   cases hq:G.P.info? el with
   |none=>rw[hq]at Eh;cases Eh
   |some i=>rw[hq]at Eh;simpa using Eh
  have hso:∀w,(sizeOf (G.P.elem t)).run G.P w=.ok 1 w:=λw=>by rw[qA];simp[sizeOf,typeInfo,Zfw,Mq]
  have bC:∀(b:Nat)(w:World),(Instr.sliceAt t (.pointer (some ⟨b,0,none⟩)) none none none).run G.P w=.ok (.slice (some ⟨b,0,none⟩) n n) w:=λb w=>by
   rw[run_sliceAt_array_all w t _ ZeX,hso,hlen];simp only[Result.andThen,slicedAt];have:(⟨b,0,none⟩:Addr).add (0*1)=⟨b,0,none⟩:=by unfold Addr.add;split<;>simp_all
   simp[this]
  -- a slice of one of ZhK
  have doS:∀(i:Nat)(o:Oper)(y s l b:Nat),ops[i]?=some o→o.op=.slice t (.tmp y) none none none→o.dst=some s→o.guard=none→mu l=some (.CU b)→∀(a:Act)(E1:List AV),Az G C mu E1 H a w→AM E1 (.tmp y)=.ptr l 0→
    ∀next:Act→World→Prop,(∀a',Az G C mu (E1.set s (.raw (.slice (some ⟨b,0,none⟩) n n))) H a' w→next a' w)→wpOpIn (fw G.rd) m G.P ops (Ln G K X) i next a w:=by
   intro i o y s l b ho N1 ZfI hgu hml a E1 yB hy next hn;have v1:=AT yB.env (.tmp y);rw[hy]at v1;unfold Aj at v1;obtain⟨c1,j1,v1⟩:=v1;rw[hml]at j1;simp only[FP.injEq,GO.CU.injEq]at j1;subst j1;unfold wpOpIn;rw[ho];simp only;rw[if_pos (by simp[M4,hgu])]
   refine BE (λc hc=>by rw[N1]at hc;cases hc) ?_
   unfold Oper.wp;rw[show(execOp a.eval o).run G.P w=.ok (.value (.slice (some ⟨b,0,none⟩) n n)) w from A0 (s:=Instr.sliceAt t (a.eval (.tmp y)) none none none) (by simp[execOp,N1]) (by rw[v1];exact bC b w)]
   refine hn _ ?_;have:=yB.frame (Be yB.env o.dst (x:=.raw (.slice (some ⟨b,0,none⟩) n n)) (by unfold Aj;rfl)) (put_defers a o.dst _)
   rw[ZfI]at this ⊢
   exact this
  have do3:∀(a:Act)(E1:List AV),Az G C mu E1 H a w→AM E1 (.tmp s1)=.raw (.slice (some ⟨b1,0,none⟩) n n)→AM E1 (.tmp s2)=.raw (.slice (some ⟨b2,0,none⟩) n n)→
    (E1.length=E.length∧∀i,i≠s1→i≠s2→E1[i]?=E[i]?)→wpOpIn (fw G.rd) m G.P ops (Ln G K X) 2 (wpAnyIn (fw G.rd) m G.P .any ops (Ln G K X) 0 #[true,true,true]) a w:=by
   intro a E1 st2 x1 x2 hE;have u1:=AT st2.env (.tmp s1);have u2:=AT st2.env (.tmp s2);rw[x1]at u1;rw[x2]at u2;unfold Aj at u1 u2;obtain⟨w3,AZ,st3⟩:=cR (ty:=o3.type) st2 Wb m1 GA q2 k2 n1 n2 JJ Eh;unfold wpOpIn;rw[i3];simp only;rw[if_pos (by simp[M4,gu3])]
   refine BE (λc hc=>by rw[p3]at hc;cases hc) ?_
   unfold Oper.wp;rw[show(execOp a.eval o3).run G.P w=.ok (.value (goInt n)) w3 by simp[execOp,p3,resolve,invoke,builtin,u1,u2,AZ]]
   have st4:=st3.frame (Be st3.env o3.dst (x:=.any) (by unfold Aj;trivial)) (put_defers a o3.dst (goInt n))
   show wpAnyIn _ _ _ _ _ _ _ _ (a.put o3.dst _) w3
   unfold wpAnyIn;refine⟨r4,_,_,hk,C,mu,st4.frame ?_ rfl⟩;refine nL st4.env (by simp[A5,d3,hE.1]) λi=>?_
   simp only[A5,d3];by_cases j3:i=s3
   ·subst j3;by_cases hi:i<E.length;·exact .inl (by rw[D0 (by simpa using hi)])
    ·exact .inr (by rw[F0 (by simp;omega),F0 (by simp[hE.1];omega)])
   ·rw[Cb (Ne.symm j3),Cb (Ne.symm j3)];by_cases j2:i=s2
    ·subst j2;exact .inl (by rw[D0 (by simpa using ZaO)])
    ·rw[Cb (Ne.symm j2)];by_cases j1:i=s1
     ·subst j1;exact .inl (by rw[D0 V9])
     ·exact .inr (by rw[Cb (Ne.symm j1),hE.2 i j1 j2])
  have Wi:∀(L:List AV)(s y:Nat)(x:AV),y≠s→AM (L.set s x) (.tmp y)=AM L (.tmp y):=λL s y x h=>by
   simp only[AM,Ep];rw[Cb (Ne.symm h)]
  have QU:∀(L:List AV)(s:Nat)(x:AV),s<L.length→AM (L.set s x) (.tmp s)=x:=λL s x h=>by
   simp only[AM,Ep];rw[D0 h];rfl
  have EX:Lu ops.size false=#[false,false,false]:=by rw[xZ];rfl
  rw[EX,xZ];unfold wpAnyIn;refine⟨λh=>by rw[r0]at h;(cases h),λi hi=>?_⟩
  rw[r0]at hi;simp only[Gk,List.not_mem_nil,or_false]at hi;rcases hi with rfl|rfl
  ·refine doS 0 o1 y1 s1 l1 b1 i1 p1 d1 gu1 m1 a E Ah TN _ λa' st1=>?_
   show wpAnyIn _ _ _ _ _ _ _ #[true,false,false] a' w
   unfold wpAnyIn;refine⟨λh=>by rw[r1]at h;(cases h),λi hi=>?_⟩
   rw[r1]at hi;obtain rfl:=H0.1 hi;refine doS 1 o2 y2 s2 l2 b2 i2 p2 d2 gu2 m2 a' _ st1 (by rw[Wi _ _ _ _ vP];exact hx2) _ λa2 st2=>?_
   show wpAnyIn _ _ _ _ _ _ _ #[true,true,false] a2 w
   unfold wpAnyIn;refine⟨λh=>by rw[r3]at h;(cases h),λi hi=>?_⟩
   rw[r3]at hi;obtain rfl:=H0.1 hi;exact do3 a2 _ st2 (by rw[Wi _ _ _ _ (Ne.symm lS),QU _ _ _ V9]) (QU _ _ _ (by simpa using ZaO)) ⟨by simp,λi j1 j2=>by rw[Cb (Ne.symm j2),Cb (Ne.symm j1)]⟩
  ·refine doS 1 o2 y2 s2 l2 b2 i2 p2 d2 gu2 m2 a E Ah hx2 _ λa' st1=>?_
   show wpAnyIn _ _ _ _ _ _ _ #[false,true,false] a' w
   unfold wpAnyIn;refine⟨λh=>by rw[r2]at h;(cases h),λi hi=>?_⟩
   rw[r2]at hi;obtain rfl:=H0.1 hi;refine doS 0 o1 y1 s1 l1 b1 i1 p1 d1 gu1 m1 a' _ st1 (by rw[Wi _ _ _ _ Wd];exact TN) _ λa2 st2=>?_
   show wpAnyIn _ _ _ _ _ _ _ #[true,true,false] a2 w
   unfold wpAnyIn;refine⟨λh=>by rw[r3]at h;(cases h),λi hi=>?_⟩
   rw[r3]at hi;obtain rfl:=H0.1 hi;exact do3 a2 _ st2 (QU _ _ _ (by simpa using V9)) (by rw[Wi _ _ _ _ lS,QU _ _ _ ZaO]) ⟨by simp,λi j1 j2=>by rw[Cb (Ne.symm j1),Cb (Ne.symm j2)]⟩⟩
end
section
variable {G:Cx}{C:Ag}{w w':World}{mu:Mu}{H:List HO}{E:List AV}{a:Act}{T:List TY}{P:Program}{K:KK}{X:XX}
def hfK(E:List AV)(H:List HO)(o:Op)(K:AV→KK):Prop:=
 match o with
 |.binOp op t x y _=>(match op with
  |.shr=>(match AM E x with
   |.int k m=>(match AM E y with
    |.int k' n=>((k=.u64∧k'=.u64)∧n=1)∧K (.int .u64 (m/2)) E H
    |_=>False)
   |_=>False)
  |_=>False)
 |_=>False
theorem bO{o:Oper}{K:AV→KK}{Kn:KK}{r:Option Nat}{n:Nat}(h:hfK E H o.op K)(Ah:Az G C mu E H a w){next:Act→World→Prop}(hn:∀a w,H6 G o K a w→next a w):
  o.wpIn (fw r) n G.P a w next (Ln G Kn X):=by
 unfold hfK at h;split at h;case h_2=>exact h.elim
 rename_i op t x y e1 ho;cases op<;>first|exact h.elim|skip
 have hx:=AT Ah.env x;have hy:=AT Ah.env y;simp only at h;split at h;case h_2=>exact h.elim
 rename_i k m hex;rw[hex]at hx;split at h;case h_2=>exact h.elim
 rename_i k' n' hey;rw[hey]at hy;obtain⟨⟨⟨rfl,rfl⟩,rfl⟩,hk⟩:=h;obtain⟨hx,hb⟩:=AG hx;obtain⟨hy,_⟩:=AG hy
 have GA:0≤m∧m≤18446744073709551615:=by
  unfold DF MR MW at hb;simpa[Lr,Lx]using hb
 refine BE (λc hc=>by rw[ho]at hc;cases hc) (AL (X:=X) (Q:=Kn) (v:=.int .u64 (m/2)) hn hk ?_ Ah (B8 ?_))
 ·have:m.fdiv (2^1)=m/2:=by rw[J3 _ (by decide)];rfl
  simp[execOp,ho,hx,hy,eqGuard,binOp,Op.shift,Lr];exact J3 _ (by decide)
 ·unfold DF MR MW;simp[Lr,Lx];omega
def UA(P:Program)(T:List TY)(ops:List Oper)(sp:List Nat):Nat→List Oper→List AV→List HO→KK→XX→Prop
 |_,[],E,H,K,_=>K E H
 |n,o::r,E,H,K,X=>vY ops E o.guard
   (λE=>match uJ n sp with
    |true=>hfK E H o.op (λv E' H'=>Bx E' o.dst v λHp=>UA P T ops sp (n+1) r Hp H' K X)
    |false=>RJ none P T E H o.op (λv E' H'=>Bx E' o.dst v λHp=>UA P T ops sp (n+1) r Hp H' K X) X)
   (λE=>Bx E o.dst (.raw undef) λE'=>UA P T ops sp (n+1) r E' H K X)
theorem I1(hT:BL G.P T){r:Option Nat}{n:Nat}{ops:Array Oper}{sp:List Nat}{K:KK}{X:XX}:∀(l:List Oper)(k:Nat){C:Ag}{mu:Mu}{E:List AV}{H:List HO}{a:Act}{w:World},UA G.P T ops.toList sp k l E H K X→Az G C mu E H a w→wpListIn (fw r) n G.P ops (Ln G K X) l a w
 |[],k,_,_,_,_,_,_,h,Ah=>⟨_,_,h,_,_,Ah⟩
 |o::l,k,C,mu,E,H,a,w,h,Ah=>by
  unfold UA at h;unfold wpListIn;rcases Hd rfl Ah h with⟨hw,E',h1,h2⟩|⟨hw,E',h1,h2⟩
  ·rw[if_pos hw];split at h1
   ·refine bO h1 h2 λa' w' hp=>?_
    obtain⟨x,Hp,H',h3,C',mu',h4⟩:=hp;rw[Ax]at h3;exact I1 hT l (k+1) h3 h4
   ·refine DM hT h1 h2 λa' w' hp=>?_
    obtain⟨x,Hp,H',h3,C',mu',h4⟩:=hp;rw[Ax]at h3;exact I1 hT l (k+1) h3 h4
  ·rw[if_neg (by simp[hw])]
   rw[Ax]at h1;exact⟨λ_ _=>trivial,I1 hT l (k+1) h1 (h2.frame (Be h2.env o.dst (by unfold Aj;rfl)) (put_defers _ _ _))⟩
theorem Ac.Vw(sp:List Nat)(hT:BL P T){id:Nat}{ops:Array Oper}(h:UA P T ops.toList sp 0 ops.toList E H K X):Ac P (.region id ops false) E H K X:=
 ⟨λn G a w hP Ah=>by
  obtain⟨C,mu,Ah⟩:=Ah
  subst hP
  exact wpIn_region_list (I1 hT _ 0 h Ah)⟩
end
open Go.RowKit (Below)
structure rX(P:Program)(f:FuncId)(args:List AV)(e:TypeId)(sz:Nat)(es:List AV):Prop where
 Ed:B5 P f=true
 rows:∀a∈es,a.cells.length=sz
 out:∀(C:Ag)(w:World)(us:List Value),Zh C w→Aa C w args Mu.none us→Calls P f us.toArray w λen w'=>∃v,en=.returned v∧Below w.heap.size w w'∧
  ((v=.slice none 0 0∧es=[])∨∃b cap cur,v=.slice (some ⟨b,0,none⟩) es.length cap∧w.heap.size≤b∧Y3 w' b cur e∧es.length≤cap∧cap≤9223372036854775807∧cur.size=cap*sz∧
   Aa C w' (flat es) Mu.none (cur.toList.take (es.length*sz))∧∀v∈cur.toList,v.oneCell'=true)
section
variable {G:Cx}{C:Ag}{w w':World}{mu:Mu}{H:List HO}{E:List AV}{a:Act}{P:Program}{K:AV→KK}{X:XX}
theorem Az.Zae(h:Az G C mu E H a w)(hb:Below w.heap.size w w'){e:TypeId}{sz:Nat}{es:List AV}{v:Value}(pP:∀a∈es,a.cells.length=sz)
  (hv:(v=.slice none 0 0∧es=[])∨∃b cap cur,v=.slice (some ⟨b,0,none⟩) es.length cap∧w.heap.size≤b∧Y3 w' b cur e∧es.length≤cap∧cap≤9223372036854775807∧cur.size=cap*sz∧
   Aa C w' (flat es) Mu.none (cur.toList.take (es.length*sz))∧∀v∈cur.toList,v.oneCell'=true):
  Az G C (mu.set H.length (some (.arr v))) E (H++[.arr e sz es]) a w':=by
 obtain⟨n,hn⟩:∃n,n=H.length:=⟨_,rfl⟩;rw[←hn]
 have Sy:mu n=none:=by
  cases hm:mu n with
  |none=>rfl
  |some x=>exact absurd (h.heap.HH _ _ hm) (by omega)
 have hle:=Nf (mu:=mu) (l:=n) (some (.arr v)) Sy;have hx:Ext C C w w':=Ext.of_block (λ_ _ h=>h) (λb o hc=>hb.block b (h.lt b o hc))
 have JF:∀{g':GO}{l b},mu l=some g'→g'.As=some b→b<w.heap.size:=λhm hb=>(h.heap.fresh _ _ _ hm hb).2.1
 have hblk:Ay (Bb mu) (Bb (mu.set n (some (.arr v)))):=DV λl b e=>hle l _ e
 have Fx:∀b,(GO.arr v).As=some b→w.heap.size≤b∧b<w'.heap.size:=λb hg=>by
  rcases hv with⟨rfl,_⟩|⟨b',cap,cur,rfl,k1,k2,_⟩;·cases hg
  ·have:b'=b:=by simpa[GO.As]using hg
   subst this;exact⟨k1,k2.lt⟩
 have D6:∀{l:Nat}{ob:HO},(H++[HO.arr e sz es])[l]?=some ob→(l≠n∧H[l]?=some ob)∨(l=n∧ob=.arr e sz es):=λ{l ob} hl=>by
  rcases CI hl with⟨h1,h2⟩|⟨h1,h2⟩;·exact .inl ⟨by omega,h2⟩
  ·exact .inr ⟨by omega,h2⟩
 have hs:=hb.size;refine⟨h.c0,h.c1,λb o hc=>by have:=h.lt b o hc;omega,⟨?_,?_,?_,?_,?_,?_,?_⟩,Aa.mono hx _ hle h.env,?_,h.Aq.below hb,by have:=h.CA.1;simp;omega,λi b hn hi=>hle i _ (h.CA.2 i b hn hi)⟩
 rotate_right
 ·obtain⟨ms,k1,k2⟩:=h.defers;refine⟨ms,k1,k2.step ⟨hb.os,hb.tape,hb.output,hb.size,λb WC=>hb.block b WC.1⟩ (λl g' b hm LG=>?_) (λ_ _ h=>.inl h) (λl cs vs ms hl=>?_) (λl I hl=>?_)⟩
  ·by_cases e:l=n
   ·subst e;rw[Mu.Au]at hm;simp only[FP.injEq]at hm;subst hm;exact .inr (Fx b LG).1
   ·rw[Mu.AB _ _ e]at hm;exact .inl ⟨l,g',hm,LG⟩
  ·rcases D6 hl with⟨_,hl⟩|⟨_,hl⟩;·exact⟨cs,hl,Aa.mono hx _ hle⟩
   ·cases hl
  ·rcases D6 hl with⟨_,hl⟩|⟨_,hl⟩;·exact hl
   ·cases hl
 ·intro l x hl;by_cases e:l=n;·subst e;simp;omega
  ·rw[Mu.AB _ _ e]at hl;have:=h.heap.HH _ _ hl;simp;omega
 ·intro l x b hl LG;by_cases e:l=n
  ·subst e;rw[Mu.Au]at hl;simp only[FP.injEq]at hl;subst hl;obtain⟨n1,n2⟩:=Fx b LG;exact⟨.inl (Ao h.Aq.size n1),n2,λo hc=>absurd (h.lt _ _ hc) (by omega)⟩
  ·rw[Mu.AB _ _ e]at hl;obtain⟨k1,k2,k3⟩:=h.heap.fresh _ _ _ hl LG;exact⟨k1,by omega,k3⟩
 ·intro l x b l' x' hl N5 Bq GA;by_cases e:l=n
  ·by_cases e':l'=n;·omega
   ·exfalso;subst e;rw[Mu.Au]at hl;simp only[FP.injEq]at hl;subst hl;rw[Mu.AB _ _ e']at Bq;have:=JF Bq GA;have:=(Fx b N5).1;omega
  ·rw[Mu.AB _ _ e]at hl;by_cases e':l'=n
   ·exfalso;subst e';rw[Mu.Au]at Bq;simp only[FP.injEq]at Bq;subst Bq;have:=JF hl N5;have:=(Fx b GA).1;omega
   ·rw[Mu.AB _ _ e']at Bq;exact h.heap.sep _ _ _ _ _ hl N5 Bq GA
 ·intro l hl;rcases D6 hl with⟨Sz,hl⟩|⟨_,hl⟩;·rw[Mu.AB _ _ Sz];exact h.heap.dead l hl
  ·cases hl
 ·intro l cs hl;rcases D6 hl with⟨Sz,hl⟩|⟨_,hl⟩
  ·obtain⟨b,cur,e,h1,h2,h3,h4⟩:=h.heap.Cm l cs hl;exact⟨b,cur,e,hle _ _ h1,(hb.block b (JF h1 rfl)).trans h2,Aa.mono hx _ hle h3,h4⟩
  ·cases hl
 ·intro l e' BD Cf hl;rcases D6 hl with⟨Sz,hl⟩|⟨rfl,hl⟩
  ·obtain⟨h1,h2⟩:=h.heap.BJ l e' BD Cf hl;refine⟨h1,h2.imp (λ⟨k1,k2⟩=>⟨hle _ _ k1,k2⟩) λ⟨b,cap,cur,k1,k2,k3,k4,k5,k6,k7⟩=>⟨b,cap,cur,hle _ _ k1,?_,k3,k4,k5,Aa.mono hx _ hblk k6,k7⟩⟩
   exact k2.of_eq (hb.block b (JF k1 rfl))
  ·injection hl with q1 q2 q3
   subst q1 q2 q3;refine⟨pP,?_⟩;rcases hv with⟨rfl,rfl⟩|⟨b,cap,cur,rfl,k1,k2,k3,k4,k5,k6,k7⟩;·exact .inl ⟨Mu.Au _ _ _,rfl⟩
   ·exact .inr ⟨b,cap,cur,Mu.Au _ _ _,k2,k3,k4,k5,Aa.mono (Ext.refl _ _) _ (Ay.none _) k6,k7⟩
 ·intro l ks vs hl;rcases D6 hl with⟨Sz,hl⟩|⟨_,hl⟩
  ·obtain⟨b,es,clock,h1,h2,h3⟩:=h.heap.maps l ks vs hl;exact⟨b,es,clock,hle _ _ h1,(hb.block b (JF h1 rfl)).trans h2,h3⟩
  ·cases hl
theorem Ak.Zah{f:FuncId}{args:List AV}{e:TypeId}{sz:Nat}{es:List AV}(h:rX P f args e sz es)(hc:Ap args=true)(hk:K (.own H.length sz 0 es.length) E (H++[.arr e sz es])):Ak P f args E H K X:=by
 refine⟨h.Ed,λG C mu a w vs hP Ah hr=>?_⟩
 refine(h.out C w vs Ah.Ze (A1 args hc hr)).mono λen w' ⟨v,h1,h2,h3⟩=>?_
 refine .inl ⟨_,v,E,_,_,_,h1,hk,Ah.Zae h2 h.rows h3,?_⟩;unfold Aj;refine⟨v,Mu.Au _ _ _,?_⟩;rcases h3 with⟨rfl,rfl⟩|⟨b,cap,cur,rfl,_,_,k3,k4,_⟩;·simp[Da,Jx,BP]
 ·simp[Da,Jx,BP,k3,k4]
end
section
variable {G:Cx}{C:Ag}{w w':World}{mu:Mu}{H:List HO}{E:List AV}{a:Act}{T:List TY}{P:Program}
theorem jK{l:Nat}{fn:FuncId}{tmps:Array Value}{ps:Array Tmp}{assign body:Code}{D:Nat}{ms:List Nat}{g:Nat}{E:List AV}{H:List HO}{x:List AV}{Hx:AE→List HO→Prop}{C1:Ag}{n1:Nat}(hGP:G.P=P)
  (hk:T3 H g E tmps.toList) (N:List HO→Prop) (hN:∀H1,N H1→T3 H1 g E tmps.toList∧Cq H1 H1 True∧G.np≤H1.length) (hlen:x.length=ps.size)
  (Jb:Ac P assign (Jo ps.toList x E) H (λE2 H2=>Ac P body E2 H2 (λ_ H'=>∃H1,N H1∧Kk H' H1 True) (λe _ H'=>(∃c,Ge e=some c)∧Hx e H'∧T3 H' g E tmps.toList)) (λ_ _ _=>False))
  (Sz:G.W0.heap.size≤l) (Wb:l<n1) (Kl:∀d∈Cs G ms,d.1<n1) (hC1:∀b o,C1 b o→G.C0 b o∨G.fresh b) (lQ:G.W0.heap.size≤n1) (Zbk:∀o,¬C1 l o) (Zbl:∀d∈Cs G ms,∀o,¬C1 d.1 o)
  {C':Ag} {W:World} {us:List Value} {Sw Sr:Nat→Prop} {n:Nat} (Ns:∀b o,C' b o→b<W.heap.size) (kF:∀b o,C' b o→C1 b o∨n1≤b) (hnW:n1≤W.heap.size) (Ko:∀b o,Sw b→¬C' b o)
  (hJ:QW G l (.loop (CR fn tmps ps assign body D .ready none)) ms H Sw Sr W) (hx:Aa C' W x Mu.none us):
  YieldAt (fw none) n P l us.toArray W λe w'=>∃DG CX,KH (λb=>b<W.heap.size∧¬Sw b) W w'∧(∀b,DG b→Sw b∨W.heap.size≤b)∧(∀b,CX b→Sr b∨W.heap.size≤b∨∃o,C' b o)∧
   (∀b,DG b→CX b)∧(∀b,CX b→b<w'.heap.size)∧
   ((e=.returned (.bool true)∧∃H1,N H1∧QW G l (.loop (CR fn tmps ps assign body D .ready none)) ms H1 DG CX w')∨
    (e=.returned (.bool false)∧sA G l (λc=>.loop (CR fn tmps ps assign body D .done (some c))) ms g E tmps.toList Hx DG CX w')):=by
 obtain⟨C,mu,Ah,hX,Za,WD⟩:=hJ;have hl:=hX.marks (l,.loop (CR fn tmps ps assign body D .ready none)) (by simp[Cs,Cx.AP])
 have Y6:us.toArray.size=ps.size:=by have:=Ar _ hx;simp;omega
 have hy:=run_yield (P:=P) (args:=us.toArray) hl.at_ Y6;refine⟨fn,_,assign,body,hy,roundIn_of_wpIn trivial ?_⟩;obtain⟨ready,Cu⟩:∃o,o=Obj.loop (CR fn tmps ps assign body D .ready none):=⟨_,rfl⟩;rw[←Cu]at hl hX Ah WD;have kD:Br C W G.fresh mu H ((l,ready)::Cs G ms):=hX.perm (by simp[Cs,Cx.AP])
 let C2:Ag:=λb o=>C b o∨C' b o
 let M0:Nat→Prop:=λb=>(∃i g,mu i=some g∧g.As=some b)∨∃d∈(l,ready)::Cs G ms,d.1=b
 have qI:∀d∈(l,ready)::Cs G ms,∀o,¬C' d.1 o:=λd hd o hc=>by
  rcases Gk.1 hd with rfl|hd
  ·rcases kF _ _ hc with k|k;·exact Zbk o k
   ·simp only at k;omega
  ·rcases kF _ _ hc with k|k;·exact Zbl d hd o k
   ·have:=Kl d hd;omega
 have e1:Ext C C2 W W:=⟨λ_ _ h=>.inl h,λ_ _ _=>rfl⟩
 have e2:Ext C' C2 W W:=⟨λ_ _ h=>.inr h,λ_ _ _=>rfl⟩
 have hgE:=(hX.Bc g E tmps.toList [] hk.gh).1
 have pY:ZbH C2 M0 W:=⟨Ah.Ze.mono e1 (λb o hc=>hc.elim (Ah.lt b o) (Ns b o)),λb o hc hM=>by
  rcases hM with⟨i,g,hi,hg⟩|⟨d,hd,rfl⟩;·exact hc.elim ((Ah.heap.fresh i g b hi hg).2.2 o) (Ko b o ((Za b).2 (.inl ⟨i,g,hi,hg⟩)))
  ·exact hc.elim ((kD.marks d hd).Gy o) (qI d hd o)⟩
 let G1:Cx:={P:=P,Zb:=pY,C0:=C2,M0:=M0,W0:=W,K1:=(l,ready)::Cs G ms,rd:=some l,CA:=G.CA,np:=G.np,OM:=λl' h=>⟨CR fn tmps ps assign body D .ready none,by cases h;rw[Cu];simp⟩}
 have hX1:Br C2 W G1.fresh mu H ((l,ready)::Cs G ms):=by
  refine⟨λi cs vs gm hi=>?_,λi I hi=>absurd hi (hk.ni i I),λd hd=>?_,kD.nd,kD.sep⟩
  ·obtain⟨k1,k2,k3⟩:=kD.Bc i cs vs gm hi;have:=hk.ng i cs vs gm hi;subst this;exact⟨Aa.mono e1 _ (Ay.refl _) k1,k2,λD hD=>by cases hD⟩
  ·have k:=kD.marks d hd;exact⟨k.at_,λo hc=>hc.elim (k.Gy o) (qI d hd o),k.own,.inr (.inr ⟨d,hd,rfl⟩)⟩
 have BC:Az G1 C2 mu (Jo ps.toList x E) H {tmps:=(ps.zip us.toArray).foldl (λt (p,v)=>t.setIfInBounds p v) tmps,defers:=[]} W:=by
  refine Ah.Mb (Ds _) (λ_ _=>rfl) (λ_ _ h=>h) (λ_ _ h=>.inl h) (λb o hc=>hc.elim (Ah.lt b o) (Ns b o)) (λ_ _ h=>.inl h) (λi g b hi hg=>⟨.inr (.inl ⟨i,g,hi,hg⟩),λo hc=>?_⟩) ?_ ⟨[],rfl,hX1⟩ ⟨rfl,rfl,rfl,Ds _,λ_ _ _=>rfl⟩ Ah.CA
  ·exact hc.elim ((Ah.heap.fresh i g b hi hg).2.2 o) (Ko b o ((Za b).2 (.inl ⟨i,g,hi,hg⟩)))
  ·have:=Rl (C:=C2) (w:=W) (mu:=mu) ps.toList (Aa.mono e2 _ (Ay.none mu) hx) (Aa.mono e1 _ (Ay.refl _) hgE);rw[←Array.foldl_toList];simpa using this
 obtain⟨busy,SE⟩:∃o,o=Obj.loop (CR fn tmps ps assign body D .busy none):=⟨_,rfl⟩;let G2:Cx:={P:=P,Zb:=pY,C0:=C2,M0:=M0,W0:=W,K1:=(l,busy)::Cs G ms,rd:=some l,CA:=G.CA,np:=G.np,OM:=λl' h=>⟨CR fn tmps ps assign body D .busy none,by cases h;rw[SE];simp⟩}
 have fin:∀{C4:Ag}{LA:Mu}{E4:List AV}{H4:List HO}{a4:Act}{w4:World}(o2:Obj),T3 H4 g E tmps.toList→Az G2 C4 LA E4 H4 a4 w4→
   ∃DG CX,KH (λb=>b<W.heap.size∧¬Sw b) W (w4.putObj l o2)∧(∀b,DG b→Sw b∨W.heap.size≤b)∧(∀b,CX b→Sr b∨W.heap.size≤b∨∃o,C' b o)∧
    (∀b,DG b→CX b)∧(∀b,CX b→b<(w4.putObj l o2).heap.size)∧QW G l o2 ms H4 DG CX (w4.putObj l o2):=by
  intro C4 LA E4 H4 a4 w4 o2 Wc Bv;obtain⟨uH,vO,hX4⟩:=Bv.defers
  have Tm:Br C4 w4 G2.fresh LA H4 ((l,busy)::(Cs G ms++uH.map λD=>(D,Fb))):=hX4.perm (by
   show(uH.map (λD=>(D,Fb))++((l,busy)::Cs G ms)).Perm _
   exact Ju)
  have hXo:=Tm.W9 (o':=o2)
  have UZ:∀d∈Cs G ms,W.heap[d.1]?=some d.2∧G.fresh d.1:=λd hd=>by
   have k:=kD.marks d (JB _ hd);exact⟨k.at_,k.fr⟩
  have vI:G.fresh l:=.inl Sz
  have hfr:∀b,G2.fresh b→G.fresh b:=λb hb=>by
   rcases hb with hb|⟨i,gg,hi,hg⟩|⟨d,hd,rfl⟩;·exact .inl (Ao Ah.Aq.size hb)
   ·exact(Ah.heap.fresh i gg b hi hg).1
   ·rcases Gk.1 hd with rfl|hd;·exact vI
    ·exact(UZ d hd).2
  have Yf:∀(i:Nat)(gg:GO)(b:Nat),LA i=some gg→gg.As=some b→(∃i g,mu i=some g∧g.As=some b)∨W.heap.size≤b:=λi gg b hi hg=>by
   rcases (Bv.heap.fresh i gg b hi hg).1 with hb|hb|⟨d,hd,rfl⟩;·exact .inr hb
   ·exact .inl hb
   ·exfalso;rcases Gk.1 hd with rfl|hd;·exact(Tm.marks (l,busy) (by simp)).own i gg hi hg
    ·exact(Tm.marks d (by simp[hd])).own i gg hi hg
  have Fy:Jl G (w4.putObj l o2):=by
   refine⟨Bv.Aq.os.trans Ah.Aq.os,Bv.Aq.tape.trans Ah.Aq.tape,Bv.Aq.output.trans Ah.Aq.output,?_,λk hk hn=>?_⟩
   ·simp;exact Ao Ah.Aq.size Bv.Aq.size
   ·have TS:¬G.fresh k:=λh=>h.elim (λh=>absurd h (Nat.not_le_of_lt hk)) hn
    rw[Gj (λe=>TS (by rw[e];exact vI))]
    rw[Bv.Aq.block k (E9 hk Ah.Aq.size) (λhM=>?_)]
    ·exact Ah.Aq.block k hk hn
    ·rcases hM with⟨i,gg,hi,hg⟩|⟨d,hd,rfl⟩;·exact TS (Ah.heap.fresh i gg k hi hg).1
     ·rcases Gk.1 hd with rfl|hd;·exact TS vI
      ·exact TS (UZ d hd).2
  have Zba:∀b o,G.C0 b o→C4 b o:=λb o h=>Bv.c0 b o (.inl (Ah.c0 b o h))
  have Za9:∀b o,C4 b o→G.C0 b o∨G.fresh b:=λb o h=>by
   rcases Bv.c1 b o h with h|h
   ·rcases h with h|h;·exact Ah.c1 b o h
    ·rcases kF b o h with h|h;·exact hC1 b o h
     ·exact .inr (.inl (Ao lQ h))
   ·exact .inr (hfr b h)
  have IJ:∀o,¬C4 l o:=(Tm.marks (l,busy) (by simp)).Gy
  have vT:Br C4 (w4.putObj l o2) G.fresh LA H4 (Cs (G.AP l o2) ms):=by
   have vS:Br C4 (w4.putObj l o2) G2.fresh LA H4 ((Cs (G.AP l o2) ms)++uH.map λD=>(D,Fb)):=hXo.perm (by
    simp only[Cs,Cx.AP];refine M5.trans ?_ (M5.append_right _ Mz.symm);simp)
   refine⟨λi cs vs gm hi=>?_,λi I hi=>absurd hi (Wc.ni i I),λd hd=>?_,?_,vS.sep⟩
   ·obtain⟨k1,k2,k3⟩:=vS.Bc i cs vs gm hi;have:=Wc.ng i cs vs gm hi;subst this;exact⟨k1,k2,λD hD=>by cases hD⟩
   ·have k:=vS.marks d (JA _ hd);exact⟨k.at_,k.Gy,k.own,hfr _ k.fr⟩
   ·have:=vS.nd;rw[List.map_append]at this;exact(List.nodup_append.1 this).1
  have OL:Az (G.AP l o2) C4 LA [] H4 {tmps:=#[],defers:=ms.map mark++G.ds} (w4.putObj l o2):=by
   refine Bv.Mb (by simp) (λb hb=>?_) Zba Za9 (λb o hc=>by simpa using Bv.lt b o hc) (λ_ _ h=>h) (λi gg b hi hg=>⟨hfr _ (Bv.heap.fresh i gg b hi hg).1,(Bv.heap.fresh i gg b hi hg).2.2⟩) (by simp[Aa]) ⟨ms,rfl,vT⟩ ⟨Fy.os,Fy.tape,Fy.output,Fy.size,Fy.block⟩ Bv.CA
   refine Gj λe=>?_
   subst e;rcases hb with⟨o,hc⟩|⟨i,gg,hi,hg⟩;·exact IJ o hc
   ·exact(Tm.marks (b,busy) (by simp)).own i gg hi hg
  have ZaA:W.heap.size≤(w4.putObj l o2).heap.size:=by simp;exact Bv.Aq.size
  refine⟨λb=>(∃i g,LA i=some g∧g.As=some b)∨b=l,λb=>Rel (G.AP l o2) C4 LA (Cs (G.AP l o2) ms) b∧b<(w4.putObj l o2).heap.size,?_,?_,?_,?_,λb hb=>hb.2,C4,LA,OL,vT,λb=>Iff.rfl,λb hb=>⟨hb,?_⟩⟩
  ·refine⟨Bv.Aq.os,Bv.Aq.tape,Bv.Aq.output,ZaA,λb hb=>?_⟩
   have PO:b≠l:=λe=>hb.2 ((Za b).2 (.inr e))
   rw[Gj PO];by_cases hd:∃d∈Cs G ms,d.1=b
   ·obtain⟨d,hd,rfl⟩:=hd;have:=(Tm.marks d (by simp[hd])).at_
    rw[this,(UZ d hd).1]
   ·refine Bv.Aq.block b hb.1 λhM=>?_
    rcases hM with hM|⟨d,qD,rfl⟩;·exact hb.2 ((Za b).2 (.inl hM))
    ·rcases Gk.1 qD with rfl|qD;·exact PO rfl
     ·exact hd ⟨d,qD,rfl⟩
  ·intro b hb;rcases hb with⟨i,gg,hi,hg⟩|rfl;·exact(Yf i gg b hi hg).imp (λh=>(Za b).2 (.inl h)) id
   ·exact .inl ((Za b).2 (.inr rfl))
  ·intro b hb;rcases hb.1 with h|⟨o,h⟩|⟨i,gg,hi,hg⟩|⟨d,hd,rfl⟩;·exact .inl (WD b (.inl h))
   ·rcases Bv.c1 b o h with h|h
    ·rcases h with h|h;·exact .inl (WD b (.inr (.inl ⟨o,h⟩)))
     ·exact .inr (.inr ⟨o,h⟩)
    ·rcases h with h|h|⟨d,hd,rfl⟩;·exact .inr (.inl h)
     ·exact .inl (WD b (.inr (.inr (.inl h))))
     ·refine .inl (WD d.1 (.inr (.inr (.inr ⟨d,?_,rfl⟩))));simp only[Cs,Cx.AP,M1,Gk]at hd ⊢;rcases hd with hd|hd|hd;·exact .inr (.inl hd)
      ·exact .inl hd
      ·exact .inr (.inr hd)
   ·rcases Yf i gg b hi hg with h|h;·exact .inl (WD b (.inr (.inr (.inl h))))
    ·exact .inr (.inl h)
   ·refine .inl (WD d.1 (.inr (.inr (.inr ?_))));simp only[Cs,Cx.AP,M1,Gk]at hd ⊢;rcases hd with hd|rfl|hd;·exact⟨d,.inl hd,rfl⟩
    ·exact⟨(l,ready),.inr (.inl rfl),rfl⟩
    ·exact⟨d,.inr (.inr hd),rfl⟩
  ·intro b hb;rcases hb with⟨i,gg,hi,hg⟩|rfl;·exact⟨.inr (.inr (.inl ⟨i,gg,hi,hg⟩)),(OL.heap.fresh i gg b hi hg).2.1⟩
   ·exact⟨.inr (.inr (.inr ⟨(b,o2),by simp[Cs,Cx.AP],rfl⟩)),(EN.1 (vT.marks (b,o2) (by simp[Cs,Cx.AP])).at_).1⟩
  ·rcases hb with h|⟨o,h⟩|⟨i,gg,hi,hg⟩|⟨d,hd,rfl⟩;·exact E9 h Fy.size
   ·exact OL.lt b o h
   ·exact(OL.heap.fresh i gg b hi hg).2.1
   ·exact(EN.1 (vT.marks d hd).at_).1
 refine wpIn_mono (Jb.out n G1 _ W rfl ⟨C2,mu,BC⟩) λe1 a1 w1 hq=>?_
 cases e1 with
 |exit id=>obtain⟨_,_,h,_⟩:=hq;exact h.elim
 |goto t=>exact hq.elim
 |ret=>obtain⟨_,_,h,_⟩:=hq;exact h.elim
 |panic chain=>obtain⟨_,_,_,_,_,_,_,h,_⟩:=hq;exact h.elim
 |outgrown=>exact hq.elim
 |normal=>
  obtain⟨E2,H2,hB,C3,jF,CL⟩:=hq;obtain⟨jG,lS,hX3⟩:=CL.defers
  have Tm:Br C3 w1 G1.fresh jF H2 ((l,ready)::(Cs G ms++jG.map λD=>(D,Fb))):=hX3.perm (by
   show(jG.map (λD=>(D,Fb))++((l,ready)::Cs G ms)).Perm _
   exact Ju)
  have Wa:=Tm.marks (l,ready) (by simp)
  have hlr:w1.heap[l]?=some (.loop (CR fn tmps ps assign body D .ready none)):=by rw[←Cu];exact Wa.at_
  refine⟨w1.putObj l busy,by rw[SE];exact run_beginRound hlr rfl,?_⟩
  have vU:=Tm.W9 (o':=busy);have he2:Ext C3 C3 w1 (w1.putObj l busy):=Ext.of_block (λ_ _ h=>h) λb i hc=>Gj λe=>Wa.Gy i (by rw[←e];exact hc)
  have Ec:Az G2 C3 jF E2 H2 a1 (w1.putObj l busy):=by
   refine CL.Mb (by simp) (λb hb=>?_) CL.c0 CL.c1 (λb o hc=>by simpa using CL.lt b o hc) (λ_ _ h=>h) (λi gg b hi hg=>⟨(CL.heap.fresh i gg b hi hg).1,(CL.heap.fresh i gg b hi hg).2.2⟩) (Aa.mono he2 _ (Ay.refl _) CL.env) ⟨jG,lS,vU.perm ?_⟩ ⟨CL.Aq.os,CL.Aq.tape,CL.Aq.output,by simpa using CL.Aq.size,λk hk hn=>?_⟩ CL.CA
   ·refine Gj λe=>?_
    subst e;rcases hb with⟨o,hc⟩|⟨i,gg,hi,hg⟩;·exact Wa.Gy o hc
    ·exact Wa.own i gg hi hg
   ·show M5 _ (jG.map (λD=>(D,Fb))++((l,busy)::Cs G ms))
    exact(Ju (l₁:=jG.map (λD=>(D,Fb))) (l₂:=(l,busy)::Cs G ms)).symm
   ·rw[Gj (λe=>hn (by rw[e];exact .inr ⟨(l,ready),by simp,rfl⟩))]
    exact CL.Aq.block k hk hn
  refine wpIn_mono (hB.out n G2 a1 _ rfl ⟨C3,jF,Ec⟩) λe4 a4 w4 jT=>?_
  have AO:∀{C4:Ag}{LA:Mu}{E4:List AV}{H4:List HO},Az G2 C4 LA E4 H4 a4 w4→w4.heap[l]?=some (.loop (CR fn tmps ps assign body D .busy none)):=λBv=>by
   obtain⟨uH,vO,hX4⟩:=Bv.defers;rw[←SE];exact(hX4.marks (l,busy) (by simp[G2])).at_
  cases e4 with
  |normal=>
   obtain⟨E4,H4,⟨H1,hN1,ZaE⟩,C4,LA,Bv⟩:=jT;obtain⟨bK,Ba,vF⟩:=hN H1 hN1;have hr:=run_endRound (P:=P) none (AO Bv);obtain⟨_,R,rfl⟩:=Iv ZaE;have OL:Az G2 C4 LA [] (H1++R) {tmps:=#[],defers:=a4.defers} w4:=Bv.frame (by unfold Aa;rfl) rfl
   obtain⟨DG,CX,q1,q2,q3,q4,q5,q6⟩:=fin ready bK (OL.drop rfl Ba vF);rw[Cu]at q1 q5 q6;exact⟨_,_,hr,DG,CX,q1,q2,q3,q4,q5,.inl ⟨rfl,H1,hN1,q6⟩⟩
  |ret=>
   obtain⟨E4,H4,⟨_,Tq,Wc⟩,C4,LA,Bv⟩:=jT;have hr:=run_endRound (P:=P) (some .ret) (AO Bv);obtain⟨DG,CX,q1,q2,q3,q4,q5,q6⟩:=fin (.loop (CR fn tmps ps assign body D .done (some .ret))) Wc Bv;exact⟨_,_,hr,DG,CX,q1,q2,q3,q4,q5,.inr ⟨rfl,.ret,.ret,H4,rfl,Tq,Wc,q6⟩⟩
  |exit id=>
   obtain⟨E4,H4,⟨_,Tq,Wc⟩,C4,LA,Bv⟩:=jT;have hr:=run_endRound (P:=P) (some (.exit id)) (AO Bv);obtain⟨DG,CX,q1,q2,q3,q4,q5,q6⟩:=fin (.loop (CR fn tmps ps assign body D .done (some (.exit id)))) Wc Bv;exact⟨_,_,hr,DG,CX,q1,q2,q3,q4,q5,.inr ⟨rfl,.exit id,.exit id,H4,rfl,Tq,Wc,q6⟩⟩
  |goto t=>exact jT.elim
  |panic chain=>obtain⟨_,_,_,_,_,_,_,⟨⟨_,h⟩,_⟩,_⟩:=jT;cases h
  |outgrown=>exact jT.elim
theorem Ac.RD{ι:Type}{g:Operand}{ps:Array Tmp}{assign body:Code}{E E0:List AV}{H:List HO}{K:KK}{X:XX}{f:FuncId}{cap:List AV}{xs:List (List AV)}
  (hE:sB E E0) (hg:AM E g=.fn f cap) (hc:Ap cap=true) (JE:yW P f cap xs) (hH:CD H=true)
  (Hs:List Value→Nat→ι→List HO) (pre:Nat→ι→Prop) (i0:ι) (hp0:pre 0 i0) (Hx:List Value→AE→List HO→Prop) (h0:∀vs,Hs vs 0 i0=H++[.ghost E0 vs []]) (D5:∀vs k i,pre k i→CD (Hs vs k i)=true∧(Hs vs k i)[H.length]?=some (.ghost E0 vs [])∧Cq (Hs vs k i) (Hs vs k i) True)
  (round:∀vs k i x,pre k i→xs[k]?=some x→x.length=ps.size∧Ac P assign (Jo ps.toList x E0) (Hs vs k i)
   (λE2 H2=>Ac P body E2 H2 (λ_ H'=>∃j,pre (k+1) j∧Kk H' (Hs vs (k+1) j) True) (λe _ H'=>(∃c,Ge e=some c)∧Hx vs e H'∧CD H'=true∧H'[H.length]?=some (.ghost E0 vs []))) (λ_ _ _=>False))
  (done:∀vs i,pre xs.length i→K E0 (Hs vs xs.length i)) (exit:∀vs e H',Hx vs e H'→X e E0 H'):Ac P (.rangeFunc g ps assign body) E H K X:=by
 refine⟨λn G a w hP Ah=>?_⟩
 obtain⟨C,mu,Ah⟩:=Ah;obtain⟨ms,hd,hx⟩:=Ah.defers;subst hP;refine wpIn_rangeFunc λfn _=>?_
 obtain⟨l,D,new,W1,he,Sz,Wb,BC,TN⟩:=S1 (P:=G.P) Ah hx (BS hH) (CF hH) fn a.tmps ps assign body;obtain⟨vs,La⟩:∃vs,vs=a.tmps.toList:=⟨_,rfl⟩;obtain⟨ready,Cu⟩:∃o,o=Obj.loop (CR fn a.tmps ps assign body D .ready none):=⟨_,rfl⟩;rw[←Cu]at TN;have hE0:Aa C W1 E0 mu vs:=by rw[La];exact KI hE BC.env
 have Ym:=AT BC.env g;rw[hg]at Ym;unfold Aj at Ym;obtain⟨us,Ym,EM⟩:=Ym;have EM:=A1 cap hc EM
 obtain⟨fnd,JK,Yq,Yi⟩:∃fd,G.P.funcs[f]?=some fd∧fd.body≠none∧fd.name ≠ "runtime.NumGoroutine":=by
  have U2:=JE.Ed;unfold B5 at U2;cases JK:G.P.funcs[f]? with
  |none=>rw[JK]at U2;cases U2
  |some fd=>
   rw[JK]at U2;simp only[Dt]at U2;exact⟨fd,rfl,by cases hh:fd.body<;>simp_all,by simpa using U2.2⟩
 have LC:∀k i,pre k i→T3 (Hs vs k i) H.length E0 vs:=λk i hi=>⟨(D5 vs k i hi).2.1,BS (D5 vs k i hi).1,CF (D5 vs k i hi).1⟩
 -- lI state before lI first round
 have Sp:Br C W1 G.fresh mu H (Cs (G.AP l ready) (new++ms)):=TN.perm (by
  simp only[Cs,Cx.AP];exact Mz.symm)
 have Ec:Az (G.AP l ready) C mu [] H {tmps:=#[],defers:=(new++ms).map mark++G.ds} W1:=
  ⟨BC.c0,BC.c1,BC.lt,BC.heap,by simp[Aa],⟨_,rfl,Sp⟩,⟨BC.Aq.os,BC.Aq.tape,BC.Aq.output,BC.Aq.size,BC.Aq.block⟩,BC.CA⟩
 obtain⟨hp1,Mp⟩:=Ec.Oz Sp hE0 (BS hH)
 have hJ0:QW G l ready (new++ms) (Hs vs 0 i0) (λb=>(∃i g,mu i=some g∧g.As=some b)∨b=l) (λb=>Rel (G.AP l ready) C mu (Cs (G.AP l ready) (new++ms)) b) W1:=by
  rw[h0 vs];exact⟨C,mu,⟨Ec.c0,Ec.c1,Ec.lt,hp1,by simp[Aa],⟨_,rfl,Mp⟩,Ec.Aq,by have:=Ec.CA.1;simp;omega,Ec.CA.2⟩,Mp,λb=>Iff.rfl,λb hb=>hb⟩
 let I:Nat→Inv:=λk=>⟨λSw Sr W=>∃i,pre k i∧QW G l ready (new++ms) (Hs vs k i) Sw Sr W,λSw Sr w w' ⟨i,hi,h⟩ hs=>⟨i,hi,QW.LW (LC k i hi).ni (LC k i hi).ng h hs⟩,C,W1.heap.size⟩
 let Ix:Inv:=⟨λSw Sr W=>sA G l (λc=>.loop (CR fn a.tmps ps assign body D .done (some c))) (new++ms) H.length E0 vs (Hx vs) Sw Sr W,λSw Sr w w' h hs=>sA.LW h hs,C,W1.heap.size⟩
 have vH:=TN.marks (l,ready) (by simp)
 have pI:∀d∈Cs G (new++ms),Ck C W1 G.fresh mu d:=λd hd=>TN.marks d (JB _ hd)
 have hW1:w.heap.size≤W1.heap.size:=by omega
 have Yp:=JE.out l I Ix C W1 us _ _ BC.Ze rfl rfl (λb o hb hc=>?_) (λb hb=>?_) (λb hb=>?_) ⟨i0,hp0,hJ0⟩ EM (λk x hk=>?_)
 ·have QA:(M3 (.yield l) #[] #[]::us).toArray=#[M3 (.yield l) #[] #[]]++us.toArray:=by simp
  refine⟨l,new.map mark,W1,{target:=.fn (.func f) us.toArray,args:=#[.func (.yield l) #[] #[]]},W1,f,#[.func (.yield l) #[] #[]]++us.toArray,W1,he,?_,?_,?_,λh=>(by cases h),?_⟩
  ·simp only[resolve,Ym];simp[go_sem]
  ·intro f' hf';trivial
  ·simp[invoke,callFunc,JK,Yi,Yq]
  ·refine(callsIn_wide (n:=n-1)).2 ?_;rw[←QA];refine Yp.mono λe w3 DC=>?_
   obtain⟨v,DG,CX,rfl,DC⟩:=DC;have hda:({a with defers:=new.map mark++a.defers}:Act).defers=(new++ms).map mark++G.ds:=by simp[hd]
   have zI:({a with defers:=new.map mark++a.defers}:Act).tmps.toList=vs:=La.symm
   rcases DC with⟨i,hi,hJ⟩|hJ
   ·have Wa:w3.heap[l]?=some (.loop (CR fn a.tmps ps assign body D .ready none)):=by
     obtain⟨C3,jF,_,hX,_,_⟩:=hJ;rw[←Cu];exact(hX.marks (l,ready) (by simp[Cs,Cx.AP])).at_
    exact⟨none,_,run_endLoop Wa (by simp[CR]),E0,_,done vs i hi,Kf (g:=H.length) (by rw[zI];exact LC _ _ hi) hJ hda⟩
   ·obtain⟨e,c,H',h1,h2,h3,hJ⟩:=hJ
    have Wa:w3.heap[l]?=some (.loop (CR fn a.tmps ps assign body D .done (some c))):=by
     obtain⟨C3,jF,_,hX,_,_⟩:=hJ;exact(hX.marks (l,_) (by simp[Cs,Cx.AP])).at_
    have hS:=λo'=>Kf (o':=o') (g:=H.length) (a:={a with defers:=new.map mark++a.defers}) (by rw[zI];exact h3) hJ hda
    refine⟨some c,_,run_endLoop Wa (by simp[CR]),?_⟩
    cases e with
    |ret=>simp only[Ge,FP.injEq]at h1;subst h1;exact wpIn_ret ⟨E0,H',exit vs _ _ h2,hS _⟩
    |exit id=>simp only[Ge,FP.injEq]at h1;subst h1;exact wpIn_exit ⟨E0,H',exit vs _ _ h2,hS _⟩
    |panic x=>cases h1
 ·rcases hb with⟨i,gg,hi,hg⟩|rfl;·exact(BC.heap.fresh i gg b hi hg).2.2 o hc
  ·exact vH.Gy o hc
 ·rcases hb with hb|rfl;·exact .inr (.inr (.inl hb))
  ·exact .inr (.inr (.inr ⟨(b,ready),by simp[Cs,Cx.AP],rfl⟩))
 ·rcases hb with h|⟨o,h⟩|⟨i,gg,hi,hg⟩|⟨d,hd,rfl⟩;·exact E9 h BC.Aq.size
  ·exact BC.lt b o h
  ·exact(BC.heap.fresh i gg b hi hg).2.1
  ·exact(EN.1 (Sp.marks d hd).at_).1
 ·refine⟨⟨rfl,rfl,rfl,rfl⟩,l,rfl,λC' W Tw Sw Sr n' Ns kF hnW Ko OK Zdb hJ Qw=>?_⟩
  obtain⟨i,hi,Yu⟩:∃i,pre k i∧QW G l ready (new++ms) (Hs vs k i) Sw Sr W:=hJ;obtain⟨hlen,Jb⟩:=round vs k i x hi hk;have sP:T3 (Hs vs k i) H.length E0 a.tmps.toList:=by rw[←La];exact LC k i hi
  have hN:∀H1,(∃j,pre (k+1) j∧H1=Hs vs (k+1) j)→T3 H1 H.length E0 a.tmps.toList∧Cq H1 H1 True∧G.np≤H1.length:=by
   rintro H1 ⟨j,hj,rfl⟩;exact⟨by rw[←La];exact LC _ _ hj,(D5 vs _ j hj).2.2,Ao Ah.CA.1 (Nat.le_of_lt (Ff.1 (D5 vs _ j hj).2.1).1)⟩
  rw[Cu]at Yu
  have hY:=jK (n:=n') (P:=G.P) (Hx:=Hx vs) (C1:=C) (n1:=W1.heap.size) rfl sP _ hN hlen
    (Jb.mono (λE2 H2 h=>h.mono (λ_ _ ⟨j,hj,h⟩=>⟨_,⟨j,hj,rfl⟩,h⟩) (λe E' H' h=>⟨h.1,h.2.1,by rw[La]at h;exact h.2.2.2,BS h.2.2.1,CF h.2.2.1⟩)) (λ_ _ _ h=>h))
    (Ao Ah.Aq.size Sz) Wb (λd hd=>(EN.1 (pI d hd).at_).1) BC.c1 (Ao Ah.Aq.size hW1) vH.Gy (λd hd=>(pI d hd).Gy) Ns kF hnW Ko Yu Qw
  refine IL hY ?_
  ·rintro e w' ⟨DG,CX,q1,q2,q3,q4,q5,q6⟩;refine⟨DG,CX,q1,q2,q3,q4,q5,?_⟩;rcases q6 with⟨rfl,H1,⟨j,hj,rfl⟩,q⟩|⟨rfl,q⟩;·exact .inl ⟨rfl,j,hj,by rw[←Cu]at q;exact q⟩
   ·exact .inr ⟨rfl,by rw[←La]at q;exact q⟩
end
section
variable {G:Cx}{C:Ag}{w w':World}{mu:Mu}{H:List HO}{E:List AV}{a:Act}{T:List TY}{P:Program}{ops:Array Oper}{K:KK}{X:XX}{ι:Type}
def gRI(P:Program)(T:List TY)(JC:List Oper)(pre:ι→Prop)(E:List AV)(H:List HO)(fE:ι→List Bool→List AV)(X:XX)(b:List Bool):List Nat→Prop
 |[]=>True
 |i::r=>(B6 JC i λo=>DY P T JC o E H (λE2 H2=>∃c,pre c∧E2=fE c (ZF b i)∧H2=H) X)∧gRI P T JC pre E H fE X b r
theorem fS{JC:List Oper}{pre:ι→Prop}{fE:ι→List Bool→List AV}{b:List Bool}:∀{rs:List Nat},gRI P T JC pre E H fE X b rs→∀i∈rs,∃o,JC[i]?=some o∧DY P T JC o E H (λE2 H2=>∃c,pre c∧E2=fE c (ZF b i)∧H2=H) X
 |[],_,i,hi=>by cases hi
 |j::r,h,i,hi=>by
  obtain⟨h1,h2⟩:=h;rcases Gk.1 hi with rfl|hi;·exact(Ab _ _ _).1 h1
  ·exact fS h2 i hi
structure GNI(P:Program)(T:List TY)(JC:List Oper)(pre:ι→Prop)(E:List AV)(H:List HO)(fE:ι→List Bool→List AV)(K:KK)(X:XX)(b:List Bool)(rs:List Nat):Prop where
 out:match rs with|[]=>K E H|rs=>gRI P T JC pre E H fE X b rs
def gPI(P:Program)(T:List TY)(JC:List Oper)(pre:ι→Prop)(c:ι)(H:List HO)(fE:ι→List Bool→List AV)(K:KK)(X:XX):List (List Bool×List Nat)→Prop
 |[]=>True
 |(b,rs)::r=>GNI P T JC pre (fE c b) H fE K X b rs∧gPI P T JC pre c H fE K X r
theorem fT{JC:List Oper}{pre:ι→Prop}{c:ι}{fE:ι→List Bool→List AV}:∀{L:List (List Bool×List Nat)},gPI P T JC pre c H fE K X L→∀x∈L,GNI P T JC pre (fE c x.1) H fE K X x.1 x.2
 |[],_,x,hx=>by cases hx
 |(b,rs)::r,h,x,hx=>by
  rcases Gk.1 hx with rfl|hx;·exact h.1
  ·exact fT h.2 x hx
theorem Ac.Zbn{id:Nat}(L:List (List Bool×List Nat))(gS:ι→List (Nat×Nat×AV))(pre:ι→Prop)(c0:ι)(hc:pre c0)(hT:BL P T)(hm:P.follows .mixedOrders=true)(hB:okL ops L=true)
  (h0:fX (gS c0) (List.replicate ops.size false) E=E) (h:∀c,pre c→gPI P T ops.toList pre c H (λc b=>fX (gS c) b E) K X L):Ac P (.region id ops true) E H K X:=by
 unfold okL at hB;simp only[Dt,Mi,List.any_eq_true,beq_iff_eq]at hB;obtain⟨Nx,y0,sG,hy1⟩:=hB;refine Ac.graph (λb E1 H1=>∃x∈L,∃c,pre c∧x.1.toArray=b∧E1=fX (gS c) x.1 E∧H1=H) hT hm ⟨y0,sG,c0,hc,?_,?_,rfl⟩ ?_
 ·rw[S0 hy1];simp
 ·rw[S0 hy1];exact h0.symm
 ·rintro b E1 H1 ⟨x,hx,c,hc,rfl,rfl,rfl⟩;have hn:=(fT (h c hc) x hx).out;obtain⟨hr,B7⟩:=Nx x hx;obtain⟨xb,rs⟩:=x;simp only at hr B7 hn⊢;cases rs with
  |nil=>exact⟨λ_=>hn,λi hi=>by rw[hr]at hi;cases hi⟩
  |cons i0 rs=>
   refine⟨λh0=>(by rw[hr]at h0;cases h0),λi hi=>?_⟩
   rw[hr]at hi;obtain⟨o,ho,hw⟩:=fS hn i hi;refine⟨o,_,by simpa using ho,hw,?_⟩
   rintro E2 H2 ⟨d,hd,rfl,rfl⟩;obtain⟨y,hy,PH⟩:=B7 i hi;exact⟨y,hy,d,hd,by rw[S0 PH,nA],by rw[S0 PH],rfl⟩
end
section
variable {G:Cx}{C:Ag}{w w':World}{mu:Mu}{H:List HO}{E:List AV}{a:Act}{T:List TY}{P:Program}{K:KK}{X:XX}
def aN(T:List TY)(E:List AV)(H:List HO)(o:Op)(K:AV→KK):Prop:=
 match o with
 |.call c=>(match c.callee with
  |.builtin .len=>(match c.args.toList,c.argTypes.toList with
   |[x],[t]=>B6 T t λy=>(match y.k with
    |.map _ _=>(match AM E x with
     |.mp ks _=>ks.length≤1000000000∧K (.int .i64 ks.length) E H
     |_=>False)
    |_=>False)
   |_,_=>False)
  |_=>False)
 |_=>False
theorem oP(hT:BL G.P T)(h:Az G C mu E H a w){t ty:TypeId}{x:Operand}{y:TY}{kt vt:Nat}(hy:T[t]?=some y)(V5:y.k=.map kt vt){ks vs:List AV}(hx:AM E x=.mp ks vs)(hl:ks.length≤1000000000){K:AV→KK}(hk:K (.int .i64 ks.length) E H):
  Gn G a w K (L5 #[t] ty #[a.eval x]):=by
 have hu:=hT.map hy V5;have hm:=AT h.env x;rw[hx]at hm;unfold Aj at hm;refine⟨_,.int .i64 ks.length,_,_,C,mu,w,hk,?_,h,B8 (PG.2 (by omega))⟩
 rcases hm with⟨h1,rfl,rfl⟩|⟨b,es,clock,h1,h2,h3,h4,h5,h6⟩
 ·rw[h1];simp[L5,run_underlying hu,goInt]
 ·rw[h1];have hn:es.size=ks.length:=by have:=Ar _ h4;simpa using this
  simp[L5,Sem.run_bind,run_underlying hu,Go.MapKept.run_getObj_map h3,goInt,hn]
theorem XI(hT:BL G.P T){o:Oper}{K:AV→KK}{Kn:KK}{r:Option Nat}{n:Nat}(h:aN T E H o.op K)(Ah:Az G C mu E H a w){next:Act→World→Prop}(hn:∀a w,H6 G o K a w→next a w):
  o.wpIn (fw r) n G.P a w next (Ln G Kn X):=by
 unfold aN at h;cases ho:o.op<;>rw[ho]at h<;>first|exact h.elim|skip
 case call c=>
  simp only at h;split at h;case h_2=>exact h.elim
  rename_i hc;split at h;case h_2=>exact h.elim
  rename_i x t h1 h2;obtain⟨Zf,args,II⟩:=c;simp only at hc h1 h2;subst hc;obtain rfl:args=#[x]:=by cases args;simp_all
  obtain rfl:II=#[t]:=by cases II;simp_all
  replace h:=(Ab _ _ _).1 h;obtain⟨y,hy,h⟩:=h
  split at h;case h_2=>exact h.elim
  rename_i kt vt V5;split at h;case h_2=>exact h.elim
  rename_i ks vs hx;obtain⟨r,v,E',H',C',mu',w',k1,k2,k3,k4⟩:=oP (ty:=o.type) hT Ah hy V5 hx h.1 h.2;exact BE (λc hc=>by rw[ho]at hc;cases hc) (AL (X:=X) (Q:=Kn) hn k1 (by simp[execOp,ho,resolve,invoke,builtin,k2]) k3 k4)
def Uz(P:Program)(T:List TY)(ops:List Oper)(sp:List Nat):Nat→List Oper→List AV→List HO→KK→XX→Prop
 |_,[],E,H,K,_=>K E H
 |n,o::r,E,H,K,X=>vY ops E o.guard
   (λE=>match uJ n sp with
    |true=>aN T E H o.op (λv E' H'=>Bx E' o.dst v λHp=>Uz P T ops sp (n+1) r Hp H' K X)
    |false=>RJ none P T E H o.op (λv E' H'=>Bx E' o.dst v λHp=>Uz P T ops sp (n+1) r Hp H' K X) X)
   (λE=>Bx E o.dst (.raw undef) λE'=>Uz P T ops sp (n+1) r E' H K X)
theorem IZ(hT:BL G.P T){r:Option Nat}{n:Nat}{ops:Array Oper}{sp:List Nat}{K:KK}{X:XX}:∀(l:List Oper)(k:Nat){C:Ag}{mu:Mu}{E:List AV}{H:List HO}{a:Act}{w:World},Uz G.P T ops.toList sp k l E H K X→Az G C mu E H a w→wpListIn (fw r) n G.P ops (Ln G K X) l a w
 |[],k,_,_,_,_,_,_,h,Ah=>⟨_,_,h,_,_,Ah⟩
 |o::l,k,C,mu,E,H,a,w,h,Ah=>by
  unfold Uz at h;unfold wpListIn;rcases Hd rfl Ah h with⟨hw,E',h1,h2⟩|⟨hw,E',h1,h2⟩
  ·rw[if_pos hw];split at h1
   ·refine XI hT h1 h2 λa' w' hp=>?_
    obtain⟨x,Hp,H',h3,C',mu',h4⟩:=hp;rw[Ax]at h3;exact IZ hT l (k+1) h3 h4
   ·refine DM hT h1 h2 λa' w' hp=>?_
    obtain⟨x,Hp,H',h3,C',mu',h4⟩:=hp;rw[Ax]at h3;exact IZ hT l (k+1) h3 h4
  ·rw[if_neg (by simp[hw])]
   rw[Ax]at h1;exact⟨λ_ _=>trivial,IZ hT l (k+1) h1 (h2.frame (Be h2.env o.dst (by unfold Aj;rfl)) (put_defers _ _ _))⟩
theorem Ac.zQ(sp:List Nat)(hT:BL P T){id:Nat}{ops:Array Oper}(h:Uz P T ops.toList sp 0 ops.toList E H K X):Ac P (.region id ops false) E H K X:=
 ⟨λn G a w hP Ah=>by
  obtain⟨C,mu,Ah⟩:=Ah
  subst hP
  exact wpIn_region_list (IZ hT _ 0 h Ah)⟩
end
end Go.Av