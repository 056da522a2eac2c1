/- AV: abstract values. -/
import Derived.WalkKit
import Derived.MapKept
import Derived.RangeFuncRecord
set_option linter.unusedVariables false
set_option maxRecDepth 100000
set_option linter.unusedSectionVars false
open Option renaming some → Ah, map_some → Ec
open Nat renaming eq_of_beq_eq_true → Ao, beq → AO, le_of_ble_eq_true → Bv, ble → CL, add_mul → C3, zero_add → E4, le_trans → Fx, add_zero → G4
open List renaming getElem?_eq_some_iff → Bj, getElem_cons_succ → C2, getElem?_eq_none → D0, getElem?_take → Ef, drop_eq_getElem_cons → Ei, getElem_take → Ep, getElem_drop → EM, getElem?_eq_getElem → EX, map_cons → E0, length_drop → E1, drop_eq_nil_of_le → E2, getElem?_set_ne → Fy, replicate → FP, mem_singleton → Gf, length_append → Gj, getElem?_drop → Gm, getElem?_map → G1, mem_map → G2, length_cons → Ho, getElem_map → Hp, drop_drop → H0, getD → Ix
open Go.World renaming putObj_heap_other → BC
open Go.Sem renaming run_bind → Cu, run_pure → Fv
open Go.Op renaming equalIn → CM, stringOp → DG, intCmp → Fw, intArith → F0, intBits → Gz, bytesLess → Hm, unary → Hs, eqFields → HV, equal → H2
open Bool renaming and_eq_true → CW, and_true → Gk, eq_iff_iff → HW, true_and → H4
open Go.IntKind renaming signed → CX, bits → C4, min → Dt, max → DC, wrap → It
open Go.Result renaming andThen_ok → C1
open Go.Builtin renaming len_ → D5, min_ → I0
open Array renaming getElem?_eq_some_iff → Ed
open Go.Program renaming cellsOf → Ff
open Int renaming tmod_nonneg → Hx
namespace Go.Av
inductive AV where
 |any
 |int (k:IntKind) (n:Int)
 |bool (b:Bool)
 |lit (b:Bool)
 |str (l:List UInt8)
 |sl (sz:Nat) (es:List AV)
 |at_ (cs:List AV)
 |fn (f:FuncId) (cap:List AV)
 |mv (f:FuncId) (fs:List AV)
 |iface (t:TypeId) (x:AV)
 |agg (cs:List AV)
 |tuple (vs:List AV)
 |raw (v:Value)
 |ptr (l o:Nat)
 |el (l sz i o:Nat)
 |own (l sz lo n:Nat)
 |mp (ks vs:List AV)
 |om (l:Nat)
instance:Inhabited AV:=⟨.any⟩
inductive GO where
 |CU (b:Nat)
 |arr (v:Value)
def GO.As:GO→Option Nat
 |.CU b=>some b
 |.arr (.slice (some a) _ _)=>some a.block
 |.arr _=>none
abbrev Mu:=Nat→Option GO
def Mu.none:Mu:=λ_=>Option.none
abbrev Ag:=Nat→Nat→Prop
def DF(k:IntKind)(n:Int):Prop:=k.min≤n∧n≤k.max
def Cl(C:Ag)(w:World)(b o:Nat)(v:Value):Prop:=C b o∧w.cell? ⟨b,o,none⟩=some v
def Da:Value→Nat
 |.slice (some _) n _=>n
 |_=>0
def Jx:Value→Nat
 |.slice (some _) _ c=>c
 |_=>0
def BP(x:Value)(sz lo n:Nat):Value:=
 match x with
 |.slice (some a) _ cap=>.slice (some ⟨a.block,a.off+lo*sz,none⟩) n (cap-lo)
 |_=>.slice none 0 0
def E8(es:List MapEntry)(clock:Nat):Prop:=(∀x∈es,x.born<clock)∧(es.map (·.born)).Nodup
theorem E8.nil(clock:Nat):E8 [] clock:=⟨by simp,by simp⟩
theorem E8.push{es:List MapEntry}{clock:Nat}(h:E8 es clock)(key val:Value):E8 (es++[{key,val,born:=clock}]) (clock+1):=by
 obtain⟨h1,h2⟩:=h;refine⟨λx hx=>?_,?_⟩
 ·rcases List.mem_append.1 hx with hx|hx;·exact Nat.lt_succ_of_lt (h1 x hx)
  ·rw[Gf.1 hx];exact Nat.lt_succ_self _
 ·rw[List.map_append];refine List.nodup_append.2 ⟨h2,by simp,λa ha b hb=>?_⟩
  obtain⟨x,hx,rfl⟩:=G2.1 ha;simp only[E0,List.map_nil,Gf]at hb;subst hb;exact Nat.ne_of_lt (h1 x hx)
theorem E8.of_map{es Cf:List MapEntry}{clock:Nat}(h:E8 es clock)(he:Cf.map (·.born)=es.map (·.born)):E8 Cf clock:=by
 obtain⟨h1,h2⟩:=h;refine⟨λx hx=>?_,by rw[he];exact h2⟩
 have:x.born∈es.map (·.born):=by rw[←he];exact G2.2 ⟨x,hx,rfl⟩
 obtain⟨y,hy,e⟩:=G2.1 this;rw[←e];exact h1 y hy
mutual
def Aj(C:Ag)(w:World):AV→Mu→Value→Prop
 |.any,_,_=>True
 |.int k n,_,v=>v=.int k n∧DF k n
 |.bool b,_,v=>v=.bool b
 |.lit b,_,v=>v=.bool b
 |.str l,_,v=>v=.string ⟨l.toArray⟩∧l.length≤9223372036854775807
 |.sl sz es,_,v=>((∃a,v=.slice a 0 0)∧es=[])∨
   ∃b o cap,v=.slice (some ⟨b,o,none⟩) es.length cap∧es.length≤cap∧cap≤9223372036854775807∧Rows C w sz es b o
 |.at_ cs,_,v=>∃b o,v=.pointer (some ⟨b,o,none⟩)∧Cells C w cs b o
 |.fn f cap,mu,v=>∃vs:List Value,v=.func (.func f) #[] vs.toArray∧Aa C w cap mu vs
 |.mv f cap,mu,v=>∃vs:List Value,v=.func (.func f) vs.toArray #[]∧Aa C w cap mu vs
 |.iface t x,mu,v=>∃y,v=.iface t y∧Aj C w x mu y
 |.agg cs,mu,v=>∃vs:List Value,v=.agg vs.toArray∧Aa C w cs mu vs
 |.tuple cs,mu,v=>∃vs:List Value,v=.tuple vs.toArray∧Aa C w cs mu vs
 |.raw x,_,v=>v=x
 |.ptr l o,mu,v=>∃b,mu l=some (.CU b)∧v=.pointer (some ⟨b,o,none⟩)
 |.el l sz i o,mu,v=>∃b n c,mu l=some (.arr (.slice (some ⟨b,0,none⟩) n c))∧v=.pointer (some ⟨b,i*sz+o,none⟩)
 |.own l sz lo n,mu,v=>∃x,mu l=some (.arr x)∧lo+n≤Da x∧(Da x≤Jx x∧Jx x≤9223372036854775807)∧v=BP x sz lo n
 |.mp ks vs,_,v=>(v=.map none∧ks=[]∧vs=[])∨∃b es clock,v=.map (some b)∧C b 0∧w.heap[b]?=some (.map es clock)∧
   Aa C w ks Mu.none (es.toList.map MapEntry.key)∧Aa C w vs Mu.none (es.toList.map MapEntry.val)∧E8 es.toList clock
 |.om l,mu,v=>∃b,mu l=some (.CU b)∧v=.map (some b)
def Aa(C:Ag)(w:World):List AV→Mu→List Value→Prop
 |[],_,vs=>vs=[]
 |a::as,mu,vs=>∃v BV,vs=v::BV∧Aj C w a mu v∧Aa C w as mu BV
def Rows(C:Ag)(w:World)(sz:Nat):List AV→Nat→Nat→Prop
 |[],_,_=>True
 |.agg cs::es,b,o=>cs.length=sz∧Cells C w cs b o∧Rows C w sz es b (o+sz)
 |e::es,b,o=>sz=1∧(∃v,v.oneCell'=true∧Cl C w b o v∧Aj C w e Mu.none v)∧Rows C w sz es b (o+sz)
def Cells(C:Ag)(w:World):List AV→Nat→Nat→Prop
 |[],_,_=>True
 |c::cs,b,o=>(∃v,v.oneCell'=true∧Cl C w b o v∧Aj C w c Mu.none v)∧Cells C w cs b (o+1)
end
structure Ext(C C':Ag)(w w':World):Prop where
 sub:∀b o,C b o→C' b o
 block:∀b o,C b o→w'.heap[b]?=w.heap[b]?
theorem Ext.same{C C':Ag}{w w':World}(h:Ext C C' w w')(b o:Nat)(v:Value)(hc:C b o)(hv:w.cell? ⟨b,o,none⟩=some v):w'.cell? ⟨b,o,none⟩=some v:=by
 rw[World.cell?_of_block (h.block b o hc)];exact hv
theorem Ext.maps{C C':Ag}{w w':World}(h:Ext C C' w w')(b o:Nat)(es:Array MapEntry)(clock:Nat)(hc:C b o)(hv:w.heap[b]?=some (.map es clock)):w'.heap[b]?=some (.map es clock):=by
 rw[h.block b o hc];exact hv
theorem Ext.of_block{C C':Ag}{w w':World}(h:∀b o,C b o→C' b o)(k:∀b o,C b o→w'.heap[b]?=w.heap[b]?):Ext C C' w w':=⟨h,k⟩
theorem Ext.refl(C:Ag)(w:World):Ext C C w w:=⟨λ_ _ h=>h,λ_ _ _=>rfl⟩
theorem Cl.ext{C C':Ag}{w w':World}(h:Ext C C' w w'){b o:Nat}{v:Value}(c:Cl C w b o v):Cl C' w' b o v:=
 ⟨h.sub b o c.1,h.same b o v c.1 c.2⟩
def Ay(mu mu':Mu):Prop:=∀l g,mu l=some g→mu' l=some g
theorem Ay.refl(mu:Mu):Ay mu mu:=λ_ _ h=>h
theorem Ay.none(mu:Mu):Ay Mu.none mu:=λ_ _ h=>by cases h
section mono
variable {C C':Ag}{w w':World}(hx:Ext C C' w w')
include hx
mutual
theorem Aj.mono:∀(a:AV){mu mu':Mu}{v:Value},Ay mu mu'→Aj C w a mu v→Aj C' w' a mu' v
 |.any,_,_,_,_,_=>by unfold Aj;trivial
 |.int _ _,_,_,_,_,h=>by unfold Aj at*;exact h
 |.bool _,_,_,_,_,h=>by unfold Aj at*;exact h
 |.lit _,_,_,_,_,h=>by unfold Aj at*;exact h
 |.str _,_,_,_,_,h=>by unfold Aj at*;exact h
 |.sl sz es,_,_,_,_,h=>by
  unfold Aj at*;rcases h with h|⟨b,o,cap,h1,h2,h3,h4⟩;·exact .inl h
  ·exact .inr ⟨b,o,cap,h1,h2,h3,Rows.mono es h4⟩
 |.at_ cs,_,_,_,_,h=>by
  unfold Aj at*;obtain⟨b,o,h1,h2⟩:=h;exact⟨b,o,h1,Cells.mono cs h2⟩
 |.fn f cap,_,_,_,hm,h=>by
  unfold Aj at*;obtain⟨vs,h1,h2⟩:=h;exact⟨vs,h1,Aa.mono cap hm h2⟩
 |.mv f cap,_,_,_,hm,h=>by
  unfold Aj at*;obtain⟨vs,h1,h2⟩:=h;exact⟨vs,h1,Aa.mono cap hm h2⟩
 |.iface t x,_,_,_,hm,h=>by
  unfold Aj at*;obtain⟨y,h1,h2⟩:=h;exact⟨y,h1,Aj.mono x hm h2⟩
 |.agg cs,_,_,_,hm,h=>by
  unfold Aj at*;obtain⟨vs,h1,h2⟩:=h;exact⟨vs,h1,Aa.mono cs hm h2⟩
 |.tuple cs,_,_,_,hm,h=>by
  unfold Aj at*;obtain⟨vs,h1,h2⟩:=h;exact⟨vs,h1,Aa.mono cs hm h2⟩
 |.raw _,_,_,_,_,h=>by unfold Aj at*;exact h
 |.ptr l o,_,_,_,hm,h=>by
  unfold Aj at*;obtain⟨b,h1,h2⟩:=h;exact⟨b,hm _ _ h1,h2⟩
 |.el l sz i o,_,_,_,hm,h=>by
  unfold Aj at*;obtain⟨b,n,c,h1,h2⟩:=h;exact⟨b,n,c,hm _ _ h1,h2⟩
 |.own l sz lo n,_,_,_,hm,h=>by
  unfold Aj at*;obtain⟨x,h1,h2⟩:=h;exact⟨x,hm _ _ h1,h2⟩
 |.mp ks vs,_,_,_,_,h=>by
  unfold Aj at*;rcases h with h|⟨b,es,clock,h1,h2,h3,h4,h5⟩;·exact .inl h
  ·exact .inr ⟨b,es,clock,h1,hx.sub _ _ h2,hx.maps _ _ _ _ h2 h3,Aa.mono ks (Ay.refl _) h4,Aa.mono vs (Ay.refl _) h5.1,h5.2⟩
 |.om l,_,_,_,hm,h=>by
  unfold Aj at*;obtain⟨b,h1,h2⟩:=h;exact⟨b,hm _ _ h1,h2⟩
theorem Aa.mono:∀(as:List AV){mu mu':Mu}{vs:List Value},Ay mu mu'→Aa C w as mu vs→Aa C' w' as mu' vs
 |[],_,_,_,_,h=>by unfold Aa at*;exact h
 |a::as,_,_,_,hm,h=>by
  unfold Aa at*;obtain⟨v,BV,h1,h2,h3⟩:=h;exact⟨v,BV,h1,Aj.mono a hm h2,Aa.mono as hm h3⟩
theorem Rows.mono{sz:Nat}:∀(es:List AV){b o:Nat},Rows C w sz es b o→Rows C' w' sz es b o
 |[],_,_,_=>by unfold Rows;trivial
 |.agg cs::es,_,_,h=>by unfold Rows at*;exact⟨h.1,Cells.mono cs h.2.1,Rows.mono es h.2.2⟩
 |.any::es,_,_,h=>by unfold Rows at*;obtain⟨h1,⟨v,h2,h3,h4⟩,h5⟩:=h;exact⟨h1,⟨v,h2,h3.ext hx,Aj.mono _ (Ay.refl _) h4⟩,Rows.mono es h5⟩
 |.int _ _::es,_,_,h=>by unfold Rows at*;obtain⟨h1,⟨v,h2,h3,h4⟩,h5⟩:=h;exact⟨h1,⟨v,h2,h3.ext hx,Aj.mono _ (Ay.refl _) h4⟩,Rows.mono es h5⟩
 |.bool _::es,_,_,h=>by unfold Rows at*;obtain⟨h1,⟨v,h2,h3,h4⟩,h5⟩:=h;exact⟨h1,⟨v,h2,h3.ext hx,Aj.mono _ (Ay.refl _) h4⟩,Rows.mono es h5⟩
 |.lit _::es,_,_,h=>by unfold Rows at*;obtain⟨h1,⟨v,h2,h3,h4⟩,h5⟩:=h;exact⟨h1,⟨v,h2,h3.ext hx,Aj.mono _ (Ay.refl _) h4⟩,Rows.mono es h5⟩
 |.str _::es,_,_,h=>by unfold Rows at*;obtain⟨h1,⟨v,h2,h3,h4⟩,h5⟩:=h;exact⟨h1,⟨v,h2,h3.ext hx,Aj.mono _ (Ay.refl _) h4⟩,Rows.mono es h5⟩
 |.sl _ _::es,_,_,h=>by unfold Rows at*;obtain⟨h1,⟨v,h2,h3,h4⟩,h5⟩:=h;exact⟨h1,⟨v,h2,h3.ext hx,Aj.mono _ (Ay.refl _) h4⟩,Rows.mono es h5⟩
 |.at_ _::es,_,_,h=>by unfold Rows at*;obtain⟨h1,⟨v,h2,h3,h4⟩,h5⟩:=h;exact⟨h1,⟨v,h2,h3.ext hx,Aj.mono _ (Ay.refl _) h4⟩,Rows.mono es h5⟩
 |.fn _ _::es,_,_,h=>by unfold Rows at*;obtain⟨h1,⟨v,h2,h3,h4⟩,h5⟩:=h;exact⟨h1,⟨v,h2,h3.ext hx,Aj.mono _ (Ay.refl _) h4⟩,Rows.mono es h5⟩
 |.mv _ _::es,_,_,h=>by unfold Rows at*;obtain⟨h1,⟨v,h2,h3,h4⟩,h5⟩:=h;exact⟨h1,⟨v,h2,h3.ext hx,Aj.mono _ (Ay.refl _) h4⟩,Rows.mono es h5⟩
 |.iface _ _::es,_,_,h=>by unfold Rows at*;obtain⟨h1,⟨v,h2,h3,h4⟩,h5⟩:=h;exact⟨h1,⟨v,h2,h3.ext hx,Aj.mono _ (Ay.refl _) h4⟩,Rows.mono es h5⟩
 |.tuple _::es,_,_,h=>by unfold Rows at*;obtain⟨h1,⟨v,h2,h3,h4⟩,h5⟩:=h;exact⟨h1,⟨v,h2,h3.ext hx,Aj.mono _ (Ay.refl _) h4⟩,Rows.mono es h5⟩
 |.raw _::es,_,_,h=>by unfold Rows at*;obtain⟨h1,⟨v,h2,h3,h4⟩,h5⟩:=h;exact⟨h1,⟨v,h2,h3.ext hx,Aj.mono _ (Ay.refl _) h4⟩,Rows.mono es h5⟩
 |.ptr _ _::es,_,_,h=>by unfold Rows at*;obtain⟨h1,⟨v,h2,h3,h4⟩,h5⟩:=h;exact⟨h1,⟨v,h2,h3.ext hx,Aj.mono _ (Ay.refl _) h4⟩,Rows.mono es h5⟩
 |.el _ _ _ _::es,_,_,h=>by unfold Rows at*;obtain⟨h1,⟨v,h2,h3,h4⟩,h5⟩:=h;exact⟨h1,⟨v,h2,h3.ext hx,Aj.mono _ (Ay.refl _) h4⟩,Rows.mono es h5⟩
 |.own _ _ _ _::es,_,_,h=>by unfold Rows at*;obtain⟨h1,⟨v,h2,h3,h4⟩,h5⟩:=h;exact⟨h1,⟨v,h2,h3.ext hx,Aj.mono _ (Ay.refl _) h4⟩,Rows.mono es h5⟩
 |.mp _ _::es,_,_,h=>by unfold Rows at*;obtain⟨h1,⟨v,h2,h3,h4⟩,h5⟩:=h;exact⟨h1,⟨v,h2,h3.ext hx,Aj.mono _ (Ay.refl _) h4⟩,Rows.mono es h5⟩
 |.om _::es,_,_,h=>by unfold Rows at*;obtain⟨h1,⟨v,h2,h3,h4⟩,h5⟩:=h;exact⟨h1,⟨v,h2,h3.ext hx,Aj.mono _ (Ay.refl _) h4⟩,Rows.mono es h5⟩
theorem Cells.mono:∀(cs:List AV){b o:Nat},Cells C w cs b o→Cells C' w' cs b o
 |[],_,_,_=>by unfold Cells;trivial
 |c::cs,_,_,h=>by
  unfold Cells at*;obtain⟨⟨v,h2,h3,h4⟩,h5⟩:=h;exact⟨⟨v,h2,h3.ext hx,Aj.mono c (Ay.refl _) h4⟩,Cells.mono cs h5⟩
end
end mono
def AV.cells:AV→List AV
 |.agg cs=>cs
 |a=>[a]
def flat(es:List AV):List AV:=es.flatMap AV.cells
def Row(C:Ag)(w:World)(sz:Nat)(e:AV)(b o:Nat):Prop:=e.cells.length=sz∧Cells C w e.cells b o
theorem Ut{C:Ag}{w:World}{sz:Nat}{e:AV}{es:List AV}{b o:Nat}:
  Rows C w sz (e::es) b o↔Row C w sz e b o∧Rows C w sz es b (o+sz):=by
 cases e<;>simp only[Rows,Row,AV.cells,Cells,and_assoc,and_true,Ho,List.length_nil,E4]<;>(constructor<;>(rintro⟨h1,h2⟩;exact⟨h1.symm,h2⟩))
theorem DJ{C:Ag}{w:World}{sz:Nat}{b:Nat}:∀(es:List AV)(o:Nat),
  Rows C w sz es b o↔∀i (h:i<es.length),Row C w sz es[i] b (o+i*sz)
 |[],o=>by simp[Rows]
 |e::es,o=>by
  rw[Ut,DJ es (o+sz)];constructor
  ·rintro⟨h1,h2⟩ i h;cases i with
   |zero=>simpa using h1
   |succ i=>
    have:=h2 i (by simpa using h)
    simp only[C2];have e:o+(i+1)*sz=o+sz+i*sz:=by rw[C3];omega
    rw[e];exact this
  ·intro h;refine⟨by have:=h 0 (by simp);simp only[Nat.zero_mul,G4]at this;exact this,λi hi=>?_⟩
   have:=h (i+1) (by simpa using hi)
   simp only[C2]at this;have e:o+(i+1)*sz=o+sz+i*sz:=by rw[C3];omega
   rw[e]at this;exact this
theorem Co{C:Ag}{w:World}{b:Nat}:∀(cs:List AV)(o:Nat),
  Cells C w cs b o↔∀i (h:i<cs.length),∃v,v.oneCell'=true∧Cl C w b (o+i) v∧Aj C w cs[i] Mu.none v
 |[],o=>by simp[Cells]
 |c::cs,o=>by
  rw[Cells,Co cs (o+1)];constructor
  ·rintro⟨h1,h2⟩ i h;cases i with
   |zero=>simpa using h1
   |succ i=>
    have:=h2 i (by simpa using h)
    simp only[C2];have e:o+(i+1)=o+1+i:=by omega
    rw[e];exact this
  ·intro h;refine⟨by have:=h 0 (by simp);simp only[G4]at this;exact this,λi hi=>?_⟩
   have:=h (i+1) (by simpa using hi)
   simp only[C2]at this;have e:o+(i+1)=o+1+i:=by omega
   rw[e]at this;exact this
theorem Ar{C:Ag}{w:World}:∀(as:List AV){mu:Mu}{vs:List Value},Aa C w as mu vs→vs.length=as.length
 |[],_,_,h=>by unfold Aa at h;subst h;rfl
 |a::as,_,_,h=>by
  unfold Aa at h;obtain⟨v,BV,rfl,_,h3⟩:=h;simp[Ar as h3]
theorem AI{C:Ag}{w:World}:∀(as:List AV){mu:Mu}{vs:List Value},
  Aa C w as mu vs↔vs.length=as.length∧∀i (h:i<as.length) (h':i<vs.length),Aj C w as[i] mu vs[i]
 |[],_,vs=>by cases vs<;>simp[Aa]
 |a::as,mu,vs=>by
  unfold Aa;constructor
  ·rintro⟨v,BV,rfl,h2,h3⟩;have:=(AI as).1 h3;refine⟨by simp[this.1],λi h h'=>?_⟩
   cases i with
   |zero=>simpa using h2
   |succ i=>simpa using this.2 i (by simpa using h) (by simpa using h')
  ·rintro⟨h1,h2⟩;cases vs with
   |nil=>simp at h1
   |cons v vs=>
    refine⟨v,vs,rfl,h2 0 (by simp) (by simp),(AI as).2 ⟨by simpa using h1,λi h h'=>?_⟩⟩
    exact h2 (i+1) (by simpa using h) (by simpa using h')
theorem AF{C:Ag}{w:World}{mu:Mu}{as bs:List AV}{vs us:List Value}(h:Aa C w as mu vs)(k:Aa C w bs mu us):
  Aa C w (as++bs) mu (vs++us):=by
 induction as generalizing vs with
 |nil=>unfold Aa at h;subst h;simpa using k
 |cons a as ih=>
  unfold Aa at h;obtain⟨v,BV,rfl,h2,h3⟩:=h;simp only[List.cons_append];unfold Aa;exact⟨v,_,rfl,h2,ih h3⟩
end Go.Av
namespace Go.Av
def PS:List (Nat×List AV):=[(4,[.iface 302 .any]),
 (5,[.iface 302 .any]),
 (6,[.int .u64 1,.int .u64 10,.int .u64 100,.int .u64 1000,.int .u64 10000,.int .u64 100000,.int .u64 1000000,.int .u64 10000000,.int .u64 100000000,.int .u64 1000000000,.int .u64 10000000000,.int .u64 100000000000,.int .u64 1000000000000,.int .u64 10000000000000,.int .u64 100000000000000,.int .u64 1000000000000000,.int .u64 10000000000000000,.int .u64 100000000000000000,.int .u64 1000000000000000000,.int .u64 10000000000000000000])]
structure KH(S:Nat→Prop)(w w':World):Prop where
 os:w'.os=w.os
 tape:w'.tape=w.tape
 output:w'.output=w.output
 size:w.heap.size≤w'.heap.size
 block:∀b,S b→w'.heap[b]?=w.heap[b]?
structure Inv where
 J:(Nat→Prop)→(Nat→Prop)→World→Prop
 LW:∀Sw Sr w w',J Sw Sr w→KH Sr w w'→J Sw Sr w'
 Cb:Ag
 nb:Nat
inductive HO where
 |cells (cs:List AV)
 |arr (e:TypeId) (sz:Nat) (es:List AV)
 |dead
 |ghost (cs:List AV) (vs:List Value) (ms:List Nat)
 |inv (I:Inv)
 |map (ks vs:List AV)
inductive TK where
 |scalar|string|bool
 |int (k:IntKind)
 |struct (fs:List (Nat×Nat×Bool))      -- offset,size,an aggregate?
 |array (n Bh:Nat) (Zgw:Bool)
 |slice (e Bh bytes:Nat) (Zgw:Bool)
 |map (k v:Nat)
 |iface
structure TY where
 size:Nat
 agg:Bool
 zero:List AV
 k:TK
 eq:Option (List Nat)
def lK:Value→AV
 |.int k n=>bif (decide (k.min≤n)&&decide (n≤k.max))then .int k n else .any
 |.bool b=>.lit b
 |.string s=>bif CL s.data.toList.length 9223372036854775807 then .str s.data.toList else .any
 |v=>.raw v
def AU(P:Program)(t:TypeId):Bool:=match P.underlying t with|some (.struct _)|some (.array _ _)=>true|_=>false
def Fi(P:Program)(t:TypeId):Nat:=match P.underlying t with|some _=>P.cellsOf t|none=>0
def kindOf(P:Program):TypeDesc→TK
 |.struct fs=>.struct (fs.toList.map λf=>(f.offset,Fi P f.type,AU P f.type))
 |.array n e=>.array n (Fi P e) (AU P e)
 |.slice e=>.slice e (Fi P e) (P.bytesOf e) (AU P e)
 |.int k=>.int k
 |.string=>.string
 |.bool=>.bool
 |.interface _=>.iface
 |.map k v=>.map k v
 |_=>.scalar
def Is(P:Program)(lf:TypeId→Option (List Nat)):Nat→List Field→Option (List Nat)
 |_,[]=>some []
 |off,f::r=>match lf f.type with
  |some l=>bif AO f.offset off&&f.name != "_"&&AO (Fi P f.type) l.length&&CL 1 l.length then (Is P lf (off+l.length) r).map (l++·)else none
  |none=>none
def Dq(P:Program):Nat→TypeId→Option (List Nat)
 |0,_=>none
 |n+1,t=>match P.underlying t with
  |some .bool=>some [0]
  |some (.int _)=>some [1]
  |some .string=>some [2]
  |some (.struct fs)=>bif P.stoodInHeld t then none else Is P (Dq P n) 0 fs.toList
  |_=>none
def wM(P:Program)(t:TypeId):Option (List Nat):=bif P.eqGuardType P.depth t then none else Dq P 8 t
def zeroOf(ag:Bool):Option Value→List AV
 |some (.agg cs)=>bif ag then cs.toList.map lK else []
 |some z=>bif ag then []else [lK z]
 |none=>[]
theorem IK(ag:Bool)(o:Option Value):zeroOf ag o=[]∨∃z,o=some z∧zeroOf ag o=z.cells.toList.map lK∧((ag=true∧∃cs,z=.agg cs)∨(ag=false∧z.cells=#[z])):=by
 cases o with
 |none=>exact .inl rfl
 |some z=>
  cases ag<;>cases z<;>first|exact .inl rfl|exact .inr ⟨_,rfl,rfl,.inl ⟨rfl,_,rfl⟩⟩|exact .inr ⟨_,rfl,rfl,.inr ⟨rfl,rfl⟩⟩
def Vo(P:Program)(t:TypeId):Option TY:=
 match P.info? t,P.underlying t with
 |some i,some d=>some {size:=i.size,agg:=AU P t,zero:=zeroOf (AU P t) i.zero,k:=kindOf P d,eq:=wM P t}
 |_,_=>none
def BL(P:Program)(T:List TY):Prop:=∀t y,T[t]?=some y→Vo P t=some y
@[irreducible] def Wr(k:IntKind)(n:Int):Int:=k.wrap n
theorem HU(k:IntKind)(n:Int):DF k (Wr k n):=by
 unfold Wr DF It Dt DC;cases k<;>simp[CX,C4]<;>(try split)<;>omega
theorem Cy(k:IntKind)(n:Int)(h:DF k n):Wr k n=n:=by
 unfold Wr;unfold DF Dt DC at h;unfold It
 cases k<;>simp[CX,C4]at h ⊢<;>(try split)<;>omega
theorem AH(n:Int)(h:-9223372036854775808≤n)(h':n≤9223372036854775807):Wr .i64 n=n:=Cy _ _ (by unfold DF Dt DC;simp[CX,C4];omega)
theorem rW(n:Int)(h:0≤n)(h':n≤255):Wr .u8 n=n:=Cy _ _ (by unfold DF Dt DC;simp[CX,C4];omega)
theorem PG{n:Int}:DF .i64 n↔-9223372036854775808≤n∧n≤9223372036854775807:=by
 unfold DF Dt DC;simp[CX,C4]
theorem pE{n:Int}:DF .u8 n↔0≤n∧n≤255:=by
 unfold DF Dt DC;simp[CX,C4]
def AV.force(v:AV)(K:AV→Prop):Prop:=
 match v with
 |.any=>K .any
 |.int k n=>K (.int k n)
 |.bool b=>K (.bool b)
 |.lit b=>K (.lit b)
 |.str l=>K (.str l)
 |.sl sz es=>K (.sl sz es)
 |.at_ cs=>K (.at_ cs)
 |.fn f cap=>K (.fn f cap)
 |.mv f cap=>K (.mv f cap)
 |.iface t x=>K (.iface t x)
 |.agg cs=>K (.agg cs)
 |.tuple vs=>K (.tuple vs)
 |.raw v=>K (.raw v)
 |.ptr l o=>K (.ptr l o)
 |.el l sz i o=>K (.el l sz i o)
 |.own l sz lo n=>K (.own l sz lo n)
 |.mp ks vs=>K (.mp ks vs)
 |.om l=>K (.om l)
theorem AV.AK(v:AV)(K:AV→Prop):v.force K↔K v:=by cases v<;>rfl
def B6{α:Type}:List α→Nat→(α→Prop)→Prop
 |[],_,_=>False
 |x::_,0,K=>K x
 |_::l,k+1,K=>B6 l k K
theorem Ab{α:Type}:∀(l:List α)(k:Nat)(K:α→Prop),B6 l k K↔∃x,l[k]?=some x∧K x
 |[],_,_=>by simp[B6]
 |x::l,0,K=>by simp[B6]
 |_::l,k+1,K=>by simp[B6,Ab l k K]
def EK{α:Type}:List α→Nat→α→(List α→Prop)→Prop
 |[],_,_,K=>K []
 |_::l,0,v,K=>K (v::l)
 |x::l,k+1,v,K=>EK l k v λl=>K (x::l)
theorem AD{α:Type}:∀(l:List α)(k:Nat)(v:α)(K:List α→Prop),EK l k v K↔K (l.set k v)
 |[],_,_,_=>by simp[EK]
 |x::l,0,v,K=>by simp[EK]
 |x::l,k+1,v,K=>by simp[EK,AD l k v]
def HG{α:Type}:List α→Nat→(List α→Prop)→Prop
 |l,0,K=>K l
 |[],_+1,K=>K []
 |_::l,k+1,K=>HG l k K
theorem BK{α:Type}:∀(l:List α)(k:Nat)(K:List α→Prop),HG l k K↔K (l.drop k)
 |[],0,_=>by simp[HG]
 |[],_+1,_=>by simp[HG]
 |x::l,0,K=>by simp[HG]
 |x::l,k+1,K=>by simp[HG,BK l k]
def Pd{α:Type}:List α→Nat→(List α→Prop)→Prop
 |_,0,K=>K []
 |[],_+1,_=>False
 |x::l,k+1,K=>Pd l k λl=>K (x::l)
theorem Fh{α:Type}:∀(l:List α)(k:Nat)(K:List α→Prop),Pd l k K↔k≤l.length∧K (l.take k)
 |_,0,_=>by simp[Pd]
 |[],_+1,_=>by simp[Pd]
 |x::l,k+1,K=>by simp[Pd,Fh l k]
def W6{α:Type}:List α→α→(List α→Nat→Prop)→Prop
 |[],v,K=>K [v] 0
 |x::l,v,K=>W6 l v λl n=>K (x::l) (n+1)
theorem GD{α:Type}:∀(l:List α)(v:α)(K:List α→Nat→Prop),W6 l v K↔K (l++[v]) l.length
 |[],v,K=>by simp[W6]
 |x::l,v,K=>by simp[W6,GD l v]
def Pp:List AV→Nat→List AV→(List AV→Prop)→Prop
 |l,_,[],K=>K l
 |l,o,v::vs,K=>EK l o v λl=>Pp l (o+1) vs K
def Ik:List AV→Nat→List AV→List AV
 |l,_,[]=>l
 |l,o,v::vs=>Ik (l.set o v) (o+1) vs
theorem Cn:∀(vs l:List AV)(o:Nat)(K:List AV→Prop),Pp l o vs K↔K (Ik l o vs)
 |[],_,_,_=>by simp[Pp,Ik]
 |v::vs,l,o,K=>by simp[Pp,Ik,AD,Cn vs]
def Gw{α β:Type}(f:α→(β→Prop)→Prop):List α→(List β→Prop)→Prop
 |[],K=>K []
 |x::l,K=>f x λy=>Gw f l λys=>K (y::ys)
theorem C9{α β:Type}(f:α→(β→Prop)→Prop)(g:α→β)(h:∀x K,f x K↔K (g x)):∀(l:List α)(K:List β→Prop),Gw f l K↔K (l.map g)
 |[],_=>by simp[Gw]
 |x::l,K=>by simp[Gw,h,C9 f g h l]
def AM(E:List AV):Operand→AV
 |.tmp t=>E.getD t .any
 |.const v=>lK v
 |.func f=>.fn f []
 |.global g=>.raw (.pointer (some ⟨g,0,none⟩))
def xM:List AV→Nat→(AV→Prop)→Prop
 |[],_,K=>K .any
 |x::_,0,K=>K x
 |_::l,k+1,K=>xM l k K
theorem QR:∀(l:List AV)(k:Nat)(K:AV→Prop),xM l k K↔K (l.getD k .any)
 |[],_,_=>by simp[xM]
 |x::l,0,K=>by simp[xM]
 |_::l,k+1,K=>by simp[xM,QR l k K]
def Dc(E:List AV)(o:Operand)(K:AV→Prop):Prop:=
 match o with
 |.tmp t=>xM E t K
 |.const v=>(lK v).force K
 |.func f=>K (.fn f [])
 |.global g=>K (.raw (.pointer (some ⟨g,0,none⟩)))
theorem Af(E:List AV)(o:Operand)(K:AV→Prop):Dc E o K↔K (AM E o):=by
 cases o<;>simp[Dc,AM,QR,AV.AK]
def Bb(mu:Mu):Mu:=λl=>match mu l with|some (.CU b)=>some (.CU b)|_=>none
theorem rM(mu:Mu):Ay (Bb mu) mu:=λl g h=>by
 unfold Bb at h;split at h;·rename_i b hb;rw[hb];exact h
 ·cases h
def ZbF(ks vs:List AV)(es:List MapEntry)(clock:Nat):Prop:=E8 es clock∧∀C w,Aa C w ks Mu.none (es.map MapEntry.key)∧Aa C w vs Mu.none (es.map MapEntry.val)
def T4(cur:Array Value)(fz:Nat×Nat):Prop:=fz=(0,0)∨fz=(cur.size,cur.size+1)
def Y3(w:World)(b:Nat)(cur:Array Value)(e:TypeId):Prop:=∃fz,w.heap[b]?=some (.cells cur e fz)∧T4 cur fz
theorem Y3.of_eq{w w':World}{b:Nat}{cur:Array Value}{e:TypeId}(h:Y3 w b cur e)(he:w'.heap[b]?=w.heap[b]?):Y3 w' b cur e:=by
 obtain⟨fz,h1,h2⟩:=h;exact⟨fz,he.trans h1,h2⟩
theorem Y3.lt{w:World}{b:Nat}{cur:Array Value}{e:TypeId}(h:Y3 w b cur e):b<w.heap.size:=by
 obtain⟨fz,h1,_⟩:=h;exact(Ed.1 h1).1
structure AX(C:Ag)(w:World)(fresh:Nat→Prop)(mu:Mu)(H:List HO):Prop where
 HH:∀l g,mu l=some g→l<H.length
 fresh:∀l g b,mu l=some g→g.As=some b→fresh b∧b<w.heap.size∧∀o,¬C b o
 sep:∀l g b l' g',mu l=some g→g.As=some b→mu l'=some g'→g'.As=some b→l'=l
 dead:∀l,H[l]?=some .dead→mu l=none
 Cm:∀l cs,H[l]?=some (.cells cs)→∃b cur e,mu l=some (.CU b)∧w.heap[b]?=some (.cells cur e (0,0))∧Aa C w cs mu cur.toList∧∀v∈cur.toList,v.oneCell'=true
 BJ:∀l e sz es,H[l]?=some (.arr e sz es)→(∀a∈es,a.cells.length=sz)∧
  ((mu l=some (.arr (.slice none 0 0))∧es=[])∨∃b cap cur,mu l=some (.arr (.slice (some ⟨b,0,none⟩) es.length cap))∧
   Y3 w b cur e∧es.length≤cap∧cap≤9223372036854775807∧cur.size=cap*sz∧
   Aa C w (flat es) (Bb mu) (cur.toList.take (es.length*sz))∧∀v∈cur.toList,v.oneCell'=true)
 maps:∀l ks vs,H[l]?=some (.map ks vs)→∃b es clock,mu l=some (.CU b)∧w.heap[b]?=some (.map es clock)∧ZbF ks vs es.toList clock
structure Zh(C:Ag)(w:World):Prop where
 lt:∀b o,C b o→b<w.heap.size
 gl:∀x∈PS,Cells C w x.2 x.1 0
 gs:∀x∈PS,x.2≠[]→∃cur e fz,w.heap[x.1]?=some (.cells cur e fz)∧cur.size=x.2.length
structure ZbH(C0:Ag)(M0:Nat→Prop)(W0:World):Prop where
 ok:Zh C0 W0
 Gu:∀b o,C0 b o→¬M0 b
structure Cx where
 P:Program
 C0:Ag
 M0:Nat→Prop
 W0:World
 ds:List Deferred:=[]
 K1:List (Nat×Obj):=[]
 rd:Option Nat:=none
 CA:Nat→Nat→Prop:=λ_ _=>False
 np:Nat:=0
 OM:∀l,rd=some l→∃r,(l,Obj.loop r)∈K1:=by intro l h;cases h
 Zb:ZbH C0 M0 W0
def mark(D:Nat):Deferred:={target:=.collected D,args:=#[]}
def Fb:Obj:=.deferred (some [])
structure Ck(C:Ag)(w:World)(fr:Nat→Prop)(mu:Mu)(D:Nat×Obj):Prop where
 at_:w.heap[D.1]?=some D.2
 Gy:∀o,¬C D.1 o
 own:∀l g,mu l=some g→g.As≠some D.1
 fr:fr D.1
structure xA(C:Ag)(w:World)(fr:Nat→Prop)(mu:Mu)(Cb:Ag)(nb:Nat)(Sw Sr:Nat→Prop):Prop where
 fr:∀b,Sw b→fr b
 base:nb≤w.heap.size
 cb:∀b o,C b o→Cb b o∨nb≤b
 ob:∀l g b,mu l=some g→g.As=some b→nb≤b
 sub:∀b,Sw b→Sr b
 lt:∀b,Sr b→b<w.heap.size
 own:∀b,Sr b→∀l g,mu l=some g→g.As≠some b
 Gy:∀b o,Sw b→¬C b o
structure Br(C:Ag)(w:World)(fr:Nat→Prop)(mu:Mu)(H:List HO)(ds:List (Nat×Obj)):Prop where
 Bc:∀(l:Nat) cs vs ms,H[l]?=some (.ghost cs vs ms)→Aa C w cs mu vs∧ms.Nodup∧∀D∈ms,Ck C w fr mu (D,Fb)∧D∉ds.map Prod.fst
 Gx:∀(l:Nat) I,H[l]?=some (.inv I)→l=0∧∃Sw Sr,xA C w fr mu I.Cb I.nb Sw Sr∧I.J Sw Sr w∧(∀D∈ds,¬Sr D.1)∧∀(l:Nat) cs vs ms,H[l]?=some (.ghost cs vs ms)→∀D∈ms,¬Sr D
 marks:∀D∈ds,Ck C w fr mu D
 nd:(ds.map Prod.fst).Nodup
 sep:∀(l l':Nat) cs vs ms cs' BV Ds,H[l]?=some (.ghost cs vs ms)→H[l']?=some (.ghost cs' BV Ds)→l≠l'→∀D∈ms,D∉Ds
def Cx.fresh(G:Cx)(b:Nat):Prop:=G.W0.heap.size≤b∨G.M0 b
structure Jl(G:Cx)(w:World):Prop where
 os:w.os=G.W0.os
 tape:w.tape=G.W0.tape
 output:w.output=G.W0.output
 size:G.W0.heap.size≤w.heap.size
 block:∀k,k<G.W0.heap.size→¬G.M0 k→w.heap[k]?=G.W0.heap[k]?
structure Az(G:Cx)(C:Ag)(mu:Mu)(E:List AV)(H:List HO)(a:Act)(w:World):Prop where
 c0:∀b o,G.C0 b o→C b o
 c1:∀b o,C b o→G.C0 b o∨G.fresh b
 lt:∀b o,C b o→b<w.heap.size
 heap:AX C w G.fresh mu H
 env:Aa C w E mu a.tmps.toList
 defers:∃ms:List Nat,a.defers=ms.map mark++G.ds∧Br C w G.fresh mu H (ms.map (λD=>(D,Fb))++G.K1)
 Aq:Jl G w
 CA:G.np≤H.length∧∀l b,l<G.np→G.CA l b→mu l=some (.CU b)
def St(G:Cx)(E:List AV)(H:List HO)(a:Act)(w:World):Prop:=∃C mu,Az G C mu E H a w
theorem Az.Zgl{G:Cx}{C:Ag}{mu:Mu}{E:List AV}{H:List HO}{a:Act}{w:World}(h:Az G C mu E H a w):Ext G.C0 C G.W0 w:=
 ⟨h.c0,λb o hc=>h.Aq.block b (G.Zb.ok.lt b o hc) (G.Zb.Gu b o hc)⟩
theorem Zh.mono{C C':Ag}{w w':World}(h:Zh C w)(hx:Ext C C' w w')(hl:∀b o,C' b o→b<w'.heap.size):Zh C' w':=
 ⟨hl,λx k=>Cells.mono hx _ (h.gl x k),λx k hn=>by
  obtain⟨cur,e,fz,h1,h2⟩:=h.gs x k hn
  have hc:C x.1 0:=by
   have:=h.gl x k;cases hx2:x.2 with
   |nil=>exact absurd hx2 hn
   |cons y ys=>rw[hx2]at this;unfold Cells at this;obtain⟨⟨v,_,hc,_⟩,_⟩:=this;exact hc.1
  exact⟨cur,e,fz,by rw[hx.block _ _ hc];exact h1,h2⟩⟩
theorem Az.Ze{G:Cx}{C:Ag}{mu:Mu}{E:List AV}{H:List HO}{a:Act}{w:World}(h:Az G C mu E H a w):Zh C w:=G.Zb.ok.mono h.Zgl h.lt
theorem QL{C:Ag}{w:World}{mu:Mu}(v:Value):Aj C w .any mu v:=by unfold Aj;trivial
theorem QK{C:Ag}{w:World}{mu:Mu}(v:Value):Aj C w (lK v) mu v:=by
 unfold lK;split
 ·rename_i k n;cases h:(decide (k.min≤n)&&decide (n≤k.max))with
  |true=>simp at h;simp only[cond_true];unfold Aj;exact⟨rfl,h⟩
  |false=>exact QL _
 ·unfold Aj;rfl
 ·rename_i s;cases h:CL s.data.toList.length 9223372036854775807 with
  |true=>simp only[cond_true];unfold Aj;exact⟨by simp,Bv h⟩
  |false=>exact QL _
 ·unfold Aj;rfl
theorem Aa.get{C:Ag}{w:World}{mu:Mu}{E:List AV}{vs:Array Value}(h:Aa C w E mu vs.toList)(t:Nat):
  Aj C w (E.getD t .any) mu (vs.getD t undef):=by
 obtain⟨h1,h2⟩:=(AI E).1 h;by_cases ht:t<E.length
 ·have ht':t<vs.toList.length:=by omega
  have:=h2 t ht ht';simpa[Ix,Array.getD,ht,show t<vs.size from by simpa using ht']using this
 ·have:E.getD t .any=.any:=by simp[Ix,D0 (Nat.le_of_not_lt ht)]
  rw[this];exact QL _
theorem AT{C:Ag}{w:World}{mu:Mu}{E:List AV}{a:Act}(h:Aa C w E mu a.tmps.toList)(o:Operand):Aj C w (AM E o) mu (a.eval o):=by
 cases o with
 |tmp t=>exact h.get t
 |const v=>exact QK v
 |global g=>unfold AM Aj;rfl
 |func f=>unfold AM Aj;exact⟨[],by simp[Act.eval],by unfold Aa;rfl⟩
theorem Aa.put{C:Ag}{w:World}{mu:Mu}{E:List AV}{vs:Array Value}(h:Aa C w E mu vs.toList)(t:Nat){x:AV}{v:Value}(hv:Aj C w x mu v):
  Aa C w (E.set t x) mu (vs.setIfInBounds t v).toList:=by
 obtain⟨h1,h2⟩:=(AI E).1 h;refine(AI _).2 ⟨by simp_all,λi hi EY=>?_⟩
 simp only[Array.toList_setIfInBounds,List.getElem_set];split;·exact hv
 ·exact h2 i (by simpa using hi) (by simpa using EY)
def A5(E:List AV)(d:Option Tmp)(x:AV):List AV:=match d with|some d=>E.set d x|none=>E
theorem Be{C:Ag}{w:World}{mu:Mu}{E:List AV}{a:Act}(h:Aa C w E mu a.tmps.toList)(d:Option Tmp){x:AV}{v:Value}(hv:Aj C w x mu v):
  Aa C w (A5 E d x) mu (a.put d v).tmps.toList:=by
 cases d with
 |none=>exact h
 |some d=>exact h.put d hv
theorem put_defers(a:Act)(d:Option Tmp)(v:Value):(a.put d v).defers=a.defers:=by cases d<;>rfl
theorem BL.facts{P:Program}{T:List TY}(h:BL P T){t:TypeId}{y:TY}(e:T[t]?=some y):∃i d,P.info? t=some i∧P.underlying t=some d∧
  y={size:=i.size,agg:=AU P t,zero:=zeroOf (AU P t) i.zero,k:=kindOf P d,eq:=wM P t}:=by
 have h:=h t y e;unfold Vo at h;split at h
 ·rename_i i d hi hd;exact⟨i,d,hi,hd,by simpa using h.symm⟩
 ·cases h
theorem BL.slice{P:Program}{T:List TY}(h:BL P T){t:TypeId}{y:TY}(e:T[t]?=some y){el sz by':Nat}{ag:Bool}(hk:y.k=.slice el sz by' ag):
  P.underlying t=some (.slice el)∧Fi P el=sz∧P.bytesOf el=by'∧AU P el=ag:=by
 obtain⟨i,d,h1,h2,rfl⟩:=h.facts e;cases d<;>simp_all[kindOf]<;>(obtain⟨rfl,h⟩:=hk;exact h)
theorem BL.struct{P:Program}{T:List TY}(h:BL P T){t:TypeId}{y:TY}(e:T[t]?=some y){fs:List (Nat×Nat×Bool)}(hk:y.k=.struct fs):
  ∃fields,P.underlying t=some (.struct fields)∧fs=fields.toList.map λf=>(f.offset,Fi P f.type,AU P f.type):=by
 obtain⟨i,d,h1,h2,rfl⟩:=h.facts e;cases d<;>simp_all[kindOf]
theorem BL.string{P:Program}{T:List TY}(h:BL P T){t:TypeId}{y:TY}(e:T[t]?=some y)(hk:y.k=.string):P.underlying t=some .string:=by
 obtain⟨i,d,h1,h2,rfl⟩:=h.facts e;cases d<;>simp_all[kindOf]
theorem BL.bool{P:Program}{T:List TY}(h:BL P T){t:TypeId}{y:TY}(e:T[t]?=some y)(hk:y.k=.bool):P.underlying t=some .bool:=by
 obtain⟨i,d,h1,h2,rfl⟩:=h.facts e;cases d<;>simp_all[kindOf]
theorem BL.int{P:Program}{T:List TY}(h:BL P T){t:TypeId}{y:TY}(e:T[t]?=some y){k:IntKind}(hk:y.k=.int k):P.underlying t=some (.int k):=by
 obtain⟨i,d,h1,h2,rfl⟩:=h.facts e;cases d<;>simp_all[kindOf]
theorem JU{P:Program}{t:TypeId}{n:Nat}(h:Fi P t=n+1):∃i d,P.info? t=some i∧P.underlying t=some d∧i.size=n+1:=by
 unfold Fi at h;split at h
 ·rename_i d hd;unfold Ff at h;cases hi:P.info? t with
  |none=>simp[hi]at h
  |some i=>exact⟨i,d,rfl,hd,by simpa[hi]using h⟩
 ·cases h
def sF(a b:IntKind):Bool:=
 match a,b with
 |.i8,.i8|.i16,.i16|.i32,.i32|.i64,.i64|.u8,.u8|.u16,.u16|.u32,.u32|.u64,.u64=>true
 |_,_=>false
theorem OI{a b:IntKind}(h:sF a b=true):a=b:=by cases a<;>cases b<;>simp_all[sF]
def P2(op:BinOp)(k:IntKind)(x y:Int):Int:=
 let a:=BitVec.ofInt k.bits x
 let b:=BitVec.ofInt k.bits y
 match op with
 |.and=>(a &&& b).toNat
 |.or=>(a ||| b).toNat
 |.xor=>(a ^^^ b).toNat
 |_=>(a &&& ~~~b).toNat
def jP(op:BinOp)(k:IntKind)(m n:Int)(K:AV→Prop):Prop:=
 match op with
 |.add=>K (.int k (Wr k (m+n)))
 |.sub=>K (.int k (Wr k (m-n)))
 |.mul=>K (.int k (Wr k (m*n)))
 |.quo=>n≠0∧K (.int k (Wr k (m.tdiv n)))
 |.rem=>n≠0∧K (.int k (m.tmod n))
 |.eql=>K (.bool (decide (m=n)))
 |.neq=>K (.bool (!decide (m=n)))
 |.lss=>K (.bool (decide (m<n)))
 |.leq=>K (.bool (decide (m≤n)))
 |.gtr=>K (.bool (decide (n<m)))
 |.geq=>K (.bool (decide (n≤m)))
 |.and=>K (.int k (Wr k (P2 .and k m n)))
 |.or=>K (.int k (Wr k (P2 .or k m n)))
 |.xor=>K (.int k (Wr k (P2 .xor k m n)))
 |.andNot=>K (.int k (Wr k (P2 .andNot k m n)))
 |_=>False
def mP(op:BinOp)(p q:List UInt8)(K:AV→Prop):Prop:=
 match op with
 |.add=>p.length+q.length≤9223372036854775807∧K (.str (p++q))
 |.eql=>K (.bool (p == q))
 |.neq=>K (.bool (!(p == q)))
 |.lss=>K (.bool (Hm p q))
 |.leq=>K (.bool (Hm p q||p == q))
 |.gtr=>K (.bool (!(Hm p q||p == q)))
 |.geq=>K (.bool (!Op.bytesLess p q))
 |_=>False
def NN(op:BinOp)(p q:Bool)(K:AV→Prop):Prop:=
 match op with
 |.eql=>K (.bool (p == q))
 |.neq=>K (.bool (!(p == q)))
 |_=>False
def Sd(k:Nat)(a b:AV)(K:Bool→Prop):Prop:=
 match k with
 |0=>(match a with
  |.bool p=>(match b with|.bool q=>K (p == q)|.lit q=>K (p == q)|_=>False)
  |.lit p=>(match b with|.bool q=>K (p == q)|.lit q=>K (p == q)|_=>False)
  |_=>False)
 |1=>(match a with
  |.int k m=>(match b with|.int k' n=>(match sF k k' with|true=>K (decide (m=n))|false=>False)|_=>False)
  |_=>False)
 |2=>(match a with
  |.str p=>(match b with|.str q=>K (decide (p=q))|_=>False)
  |_=>False)
 |_=>False
def cH:List Nat→List AV→List AV→(Bool→Prop)→Prop
 |[],[],[],K=>K true
 |k::ls,a::xs,b::ys,K=>Sd k a b λp=>cH ls xs ys λr=>K (p&&r)
 |_,_,_,_=>False
def O8(T:List TY)(op:BinOp)(t:TypeId)(cs ds:List AV)(K:AV→Prop):Prop:=
 B6 T t λy=>match y.agg with
  |true=>(match y.eq with
   |some ls=>(match op with
    |.eql=>cH ls cs ds λr=>K (.bool r)
    |.neq=>cH ls cs ds λr=>K (.bool (!r))
    |_=>False)
   |none=>False)
  |false=>False
def Mt(T:List TY)(op:BinOp)(t:TypeId)(a b:AV)(K:AV→Prop):Prop:=
 match a with
 |.int k m=>match b with|.int k' n=>(match sF k k' with|true=>jP op k m n K|false=>False)|_=>False
 |.bool p=>match b with
  |.bool q=>B6 T t λy=>(match y.k with|.bool=>NN op p q K|_=>False)
  |.lit q=>B6 T t λy=>(match y.k with|.bool=>NN op p q K|_=>False)
  |_=>False
 |.lit p=>match b with
  |.bool q=>B6 T t λy=>(match y.k with|.bool=>NN op p q K|_=>False)
  |.lit q=>B6 T t λy=>(match y.k with|.bool=>NN op p q K|_=>False)
  |_=>False
 |.str p=>match b with|.str q=>mP op p q K|_=>False
 |.agg cs=>match b with|.agg ds=>O8 T op t cs ds K|_=>False
 |_=>False
def unK(op:UnOp)(a:AV)(K:AV→Prop):Prop:=
 match op with
 |.neg=>match a with|.int k n=>K (.int k (Wr k (0-n)))|_=>False
 |.not=>match a with|.bool b=>K (.bool (!b))|.lit b=>(match b with|true=>K (.lit false)|false=>K (.lit true))|_=>False
 |_=>False
def uO(T:List TY)(t:TypeId)(cs:List AV)(K:AV→Prop):Prop:=
 B6 T t λy=>match y.agg with
  |true=>Pd cs y.size λcs=>K (.agg cs)
  |false=>match cs with|c::_=>c.force K|[]=>False
def CE(v:AV)(K:List AV→Prop):Prop:=
 match v with
 |.agg cs=>K cs
 |.int k n=>K [.int k n]
 |.bool b=>K [.bool b]
 |.lit b=>K [.lit b]
 |.str l=>K [.str l]
 |.sl sz es=>K [.sl sz es]
 |.at_ cs=>K [.at_ cs]
 |.fn f cap=>K [.fn f cap]
 |.mv f cap=>K [.mv f cap]
 |.iface t x=>K [.iface t x]
 |.tuple vs=>K [.tuple vs]
 |.raw v=>K [.raw v]
 |.ptr l o=>K [.ptr l o]
 |.el l sz i o=>K [.el l sz i o]
 |.own l sz lo n=>K [.own l sz lo n]
 |.mp ks vs=>K [.mp ks vs]
 |.om l=>K [.om l]
 |.any=>K [.any]
theorem Am(v:AV)(K:List AV→Prop):CE v K↔K v.cells:=by cases v<;>rfl
def Nh(T:List TY)(H:List HO)(t:TypeId)(p:AV)(K:AV→Prop):Prop:=
 match p with
 |.at_ cs=>uO T t cs K
 |.ptr l o=>B6 H l λob=>match ob with|.cells cs=>HG cs o λcs=>uO T t cs K|_=>False
 |.el l sz i o=>B6 H l λob=>match ob with
  |.arr _ BD es=>(match AO sz BD with
   |true=>∃v,es[i]?=some v∧CE v λcs=>HG cs o λcs=>uO T t cs K
   |false=>False)
  |_=>False
 |_=>False
def BT(T:List TY)(H:List HO)(t:TypeId)(x i:AV)(K:AV→Prop):Prop:=
 match x with
 |.sl sz es=>B6 T t λy=>(match y.k with
  |.slice _ Bh _ _=>(match AO Bh sz&&CL 1 sz with
   |true=>(match i with
    |.int _ n=>0≤n∧∃v,es[n.toNat]?=some v∧CE v λcs=>K (.at_ cs)
    |_=>False)
   |false=>False)
  |_=>False)
 |.own l sz lo m=>B6 T t λy=>(match y.k with
  |.slice _ Bh _ _=>B6 H l λob=>(match ob with
   |.arr _ BD _=>(match AO Bh sz&&CL 1 sz&&AO sz BD with
    |true=>(match i with
     |.int _ n=>(0≤n∧n<m)∧K (.el l sz (lo+n.toNat) 0)
     |_=>False)
    |false=>False)
   |_=>False)
  |_=>False)
 |.ptr l o=>B6 T t λy=>(match y.k with
  |.array n sz _=>(match CL 1 sz with
   |true=>(match i with
    |.int _ m=>(0≤m∧m<n)∧K (.ptr l (o+m.toNat*sz))
    |_=>False)
   |false=>False)
  |_=>False)
 |_=>False
def Hb(T:List TY)(t:TypeId)(x i:AV)(K:AV→Prop):Prop:=
 match x with
 |.str l=>B6 T t λy=>match y.k with
  |.string=>match i with
   |.int _ n=>(0≤n∧n<l.length)∧K (.int .u8 (l.getD n.toNat 0).toNat)
   |_=>False
  |_=>False
 |.agg cs=>B6 T t λy=>match y.k with
  |.array n sz ag=>(match AO sz 1&&!ag with
   |true=>(match i with|.int _ m=>(0≤m∧m<n)∧∃v,cs[m.toNat]?=some v∧K v|_=>False)
   |false=>(match ag&&CL 1 sz&&AO cs.length (n*sz)with
    |true=>(match i with|.int _ m=>(0≤m∧m<n)∧K (.agg ((cs.drop (m.toNat*sz)).take sz))|_=>False)
    |false=>False))
  |_=>False
 |_=>False
def DP(T:List TY)(t:TypeId)(x:AV)(f:Nat)(K:AV→Prop):Prop:=
 B6 T t λy=>match y.k with
  |.struct fs=>B6 fs f λ(off,size,_)=>match size with
   |0=>False
   |_+1=>match x with
    |.at_ cs=>HG cs off λcs=>K (.at_ cs)
    |.ptr l o=>K (.ptr l (o+off))
    |.el l sz i o=>K (.el l sz i (o+off))
    |.raw v=>(match v with|.pointer p=>(match p with|some ⟨b,o,none⟩=>K (.raw (.pointer (some ⟨b,o+off,none⟩)))|_=>False)|_=>False)
    |_=>False
  |_=>False
def Kv(T:List TY)(t:TypeId)(x:AV)(f:Nat)(K:AV→Prop):Prop:=
 B6 T t λy=>match y.k with
  |.struct fs=>B6 fs f λ(off,size,agg)=>match x with
   |.agg cs=>HG cs off λcs=>(match agg with
    |true=>Pd cs size λcs=>K (.agg cs)
    |false=>match size with|0=>False|_+1=>match cs with|c::_=>c.force K|[]=>False)
   |_=>False
  |_=>False
def TJ(T:List TY)(t:TypeId)(x:AV)(K:AV→Prop):Prop:=
 B6 T t λy=>match y.k with
  |.slice _ _ _ _=>match x with
   |.sl _ es=>K (.int .i64 es.length)
   |.own _ _ _ n=>K (.int .i64 n)
   |.raw (.slice none 0 0)=>K (.int .i64 0)
   |_=>False
  |.string=>match x with
   |.str l=>K (.int .i64 l.length)
   |_=>False
  |_=>False
def IG(T:List TY)(s d:TypeId)(x:AV)(K:AV→Prop):Prop:=
 match x with
 |.int _ n=>B6 T s λ_=>B6 T d λy=>match y.k with|.int k=>K (.int k (Wr k n))|.string=>(0≤n∧n<128)∧K (.str [UInt8.ofNat n.toNat])|_=>False
 |.str l=>B6 T s λ_=>B6 T d λy=>match y.k with|.string=>K (.str l)|_=>False
 |_=>False
def Na(o:Option AV)(d:Int)(K:Int→Prop):Prop:=
 match o with
 |none=>K d
 |some v=>match v with|.int _ n=>K n|_=>False
def Dv(T:List TY)(t:TypeId)(x:AV)(lo hi:Option AV)(K:AV→Prop):Prop:=
 match x with
 |.str l=>B6 T t λy=>match y.k with
  |.string=>Na lo 0 λa=>Na hi l.length λb=>(0≤a∧a≤b∧b≤l.length)∧K (.str ((l.take b.toNat).drop a.toNat))
  |_=>False
 |.sl sz es=>B6 T t λy=>match y.k with
  |.slice _ Bh _ _=>match AO Bh sz&&CL 1 sz with
   |true=>Na lo 0 λa=>Na hi es.length λb=>(0≤a∧a≤b∧b≤es.length)∧K (.sl sz ((es.take b.toNat).drop a.toNat))
   |false=>False
  |_=>False
 |.own l sz p n=>B6 T t λy=>match y.k with
  |.slice _ Bh _ _=>match AO Bh sz&&CL 1 sz with
   |true=>Na lo 0 λa=>Na hi n λb=>(0≤a∧a≤b∧b≤n∧(a<n∨a=0))∧K (.own l sz (p+a.toNat) (b.toNat-a.toNat))
   |false=>False
  |_=>False
 |_=>False
def aP(a b:AV)(K:AV→Prop):Prop:=
 match a with
 |.int k m=>(match b with
  |.int k' n=>(match sF k k' with|true=>K (.int k (min m n))|false=>False)
  |_=>False)
 |_=>False
def X8(T:List TY)(op:BinOp)(t:TypeId)(r:Bool)(K:AV→Prop):Prop:=
 B6 T t λy=>match y.k with
  |.iface=>(match op with
   |.eql=>(match r with|true=>K (.lit true)|false=>K (.lit false))
   |.neq=>(match r with|true=>K (.lit false)|false=>K (.lit true))
   |_=>False)
  |_=>False
def uW(o:Operand):Bool:=match o with|.const _=>true|_=>false
def jD(T:List TY)(op:BinOp)(t:TypeId)(a b:AV)(c:Bool)(K:AV→Prop):Prop:=
 match a with
 |.iface _ _=>(match b with
  |.raw v=>(match v with|.nilIface=>X8 T op t false K|_=>False)
  |_=>False)
 |.raw u=>(match u with
  |.nilIface=>(match b with
   |.raw v=>(match v with
    |.nilIface=>(match c with|true=>X8 T op t true K|false=>False)
    |_=>False)
   |.iface _ _=>X8 T op t false K
   |_=>False)
  |_=>False)
 |a=>Mt T op t a b K
def HN(T:List TY)(e:TypeId)(K:AV→Prop):Prop:=
 B6 T e λy=>match y.agg with
  |true=>(match y.zero with|[]=>False|z::zs=>K (.agg (z::zs)))
  |false=>match y.zero with|[z]=>z.force K|_=>False
def Nl(k a:AV):Bool:=match k with
 |.str p=>(match a with|.str q=>p == q|_=>false)
 |.int i m=>(match a with|.int j n=>sF i j&&decide (m=n)|_=>false)
 |_=>false
def Ja(k a:AV):Bool:=match k with
 |.str _=>(match a with|.str _=>true|_=>false)
 |.int i _=>(match a with|.int j _=>sF i j|_=>false)
 |_=>false
def eX(d:TK)(k:AV):Bool:=match d with
 |.string=>(match k with|.str _=>true|_=>false)
 |.int i=>(match k with|.int j _=>sF i j|_=>false)
 |_=>false
def OF(k:AV):List AV→Option Nat
 |[]=>none
 |a::ks=>bif Nl k a then some 0 else (OF k ks).map (·+1)
def OG(k:AV)(ks vs:List AV):Option AV:=(OF k ks).bind (vs[·]?)
def oQ(k:AV)(ks:List AV):List AV:=match OF k ks with|none=>ks++[k]|some _=>ks
def oN(k v:AV)(ks vs:List AV):List AV:=match OF k ks with|none=>vs++[v]|some i=>vs.set i v
def Mj(H:List HO)(x:AV)(K:List AV→List AV→Prop):Prop:=match x with
 |.mp ks vs=>K ks vs
 |.om l=>B6 H l λob=>(match ob with|.map ks vs=>K ks vs|_=>False)
 |_=>False
def Hw(T:List TY)(H:List HO)(t:TypeId)(x k:AV)(ok:Bool)(K:AV→Prop):Prop:=
 B6 T t λy=>match y.k with
  |.map kt vt=>B6 T kt λyk=>(match eX yk.k k with
   |true=>Mj H x λks vs=>(∀a∈ks,Ja k a=true)∧
    ((OG k ks vs=none→HN T vt λz=>(match ok with|true=>K (.tuple [z,.lit false])|false=>z.force K))∧
     ∀v,OG k ks vs=some v→(match ok with|true=>K (.tuple [v,.lit true])|false=>K v))
   |false=>False)
  |_=>False
def Bg(T:List TY)(E:List AV)(H:List HO)(o:Op)(K:AV→Prop):Prop:=
 match o with
 |.move x=>Dc E x K
 |.assign x=>Dc E x K
 |.pick c a b=>Dc E c λv=>match v with
  |.lit t=>(match t with|true=>Dc E a K|false=>Dc E b K)
  |_=>False
 |.binOp op t x y _=>Dc E x λu=>Dc E y λv=>jD T op t u v (uW x||uW y) K
 |.unOp op _ x=>Dc E x λu=>unK op u K
 |.load t x=>Dc E x λu=>Nh T H t u K
 |.fieldAddr t x f=>Dc E x λu=>DP T t u f K
 |.field t x f=>Dc E x λu=>Kv T t u f K
 |.indexAddr t x i=>Dc E x λu=>Dc E i λv=>BT T H t u v K
 |.index t x i=>Dc E x λu=>Dc E i λv=>Hb T t u v K
 |.convert s d x=>Dc E x λu=>IG T s d u K
 |.extract x i=>Dc E x λu=>match u with
  |.tuple vs=>B6 vs i λv=>v.force K
  |_=>False
 |.nilCheck x=>Dc E x λu=>match u with
  |.at_ cs=>K (.at_ cs)
  |.ptr l o=>K (.ptr l o)
  |.el l sz i o=>K (.el l sz i o)
  |.fn f cap=>K (.fn f cap)
  |.mv f cap=>K (.mv f cap)
  |.raw v=>(match v with|.pointer p=>(match p with|some a=>K (.raw (.pointer (some a)))|_=>False)|_=>False)
  |_=>False
 |.makeFunc fn first cap=>match fn with
  |.func f=>(match first.toList with
   |[]=>Gw (Dc E) cap.toList λcs=>K (.fn f cs)
   |_::_=>(match cap.toList with
    |[]=>Gw (Dc E) first.toList λfs=>K (.mv f fs)
    |_::_=>False))
  |_=>False
 |.makeInterface t x=>Dc E x λu=>B6 T t λy=>match y.k with
  |.iface=>False
  |_=>K (.iface t u)
 |.slice t x lo hi mx=>match mx with
  |none=>Dc E x λu=>(match lo,hi with
   |none,none=>Dv T t u none none K
   |some l,none=>Dc E l λl=>Dv T t u (some l) none K
   |none,some h=>Dc E h λh=>Dv T t u none (some h) K
   |some l,some h=>Dc E l λl=>Dc E h λh=>Dv T t u (some l) (some h) K)
  |some _=>False
 |.call c=>match c.callee with
  |.builtin .len=>(match c.args.toList with
   |[x]=>(match c.argTypes.toList with
    |[t]=>Dc E x λu=>TJ T t u K
    |_=>False)
   |_=>False)
  |.builtin .min=>(match c.args.toList with
   |[x,y]=>Dc E x λu=>Dc E y λv=>aP u v K
   |_=>False)
  |_=>False
 |.lookup t x i ok=>Dc E x λu=>Dc E i λv=>Hw T H t u v ok K
 |_=>False
section
variable {P:Program}{C:Ag}{w:World}{mu:Mu}
theorem B8{k:IntKind}{n:Int}(h:DF k n):Aj C w (.int k n) mu (.int k n):=by unfold Aj;exact⟨rfl,h⟩
theorem B0{b:Bool}:Aj C w (.bool b) mu (.bool b):=by unfold Aj;rfl
theorem QJ{l:List UInt8}(h:l.length≤9223372036854775807):Aj C w (.str l) mu (.string ⟨l.toArray⟩):=by unfold Aj;exact⟨rfl,h⟩
theorem AG{k:IntKind}{n:Int}{v:Value}(h:Aj C w (.int k n) mu v):v=.int k n∧DF k n:=by unfold Aj at h;exact h
theorem Bf{b:Bool}{v:Value}(h:Aj C w (.bool b) mu v):v=.bool b:=by unfold Aj at h;exact h
theorem Bl{b:Bool}{v:Value}(h:Aj C w (.lit b) mu v):v=.bool b:=by unfold Aj at h;exact h
theorem Gt{b:Bool}:Aj C w (.lit b) mu (.bool b):=by unfold Aj;rfl
theorem Bt{l:List UInt8}{v:Value}(h:Aj C w (.str l) mu v):v=.string ⟨l.toArray⟩∧l.length≤9223372036854775807:=by unfold Aj at h;exact h
theorem pF{k:IntKind}{m:Int}(n:Int)(h:DF k m):DF k (m.tmod n):=by
 have h0:k.min≤0:=by cases k<;>simp[Dt,CX,C4]
 have h1:0≤k.max:=by cases k<;>simp[DC,CX,C4]
 obtain⟨ha,hb⟩:=h;unfold DF;have hle:(m.tmod n).natAbs≤m.natAbs:=by rw[Int.natAbs_tmod];exact Nat.mod_le _ _
 rcases Int.le_total 0 m with hm|hm
 ·have e1:0≤m.tmod n:=Hx _ hm;omega
 ·have e1:m.tmod n=-((-m).tmod n):=by simp
  have e3:0≤(-m).tmod n:=Hx _ (by omega)
  omega
theorem run_equal_bool{t:TypeId}(a b:Bool)(hu:P.underlying t=some .bool):(H2 t (.bool a) (.bool b)).run P w=.ok (a == b) w:=by
 have h:∀d,(CM (d+1) t (.bool a) (.bool b)).run P w=.ok (a == b) w:=λd=>by simp[CM,run_underlying hu]
 exact h 9999
theorem DZ(l:List UInt8):(⟨l.toArray⟩:ByteArray).size=l.length:=by simp[ByteArray.size]
theorem Lj{op:BinOp}{t:TypeId}{u v:Value}{p q:Bool}{K:AV→Prop}{T:List TY}(hT:BL P T)(hx:u=.bool p)(hy:v=.bool q)
  (h:B6 T t λy=>(match y.k with|.bool=>NN op p q K|_=>False)):∃r z,K r∧Aj C w r mu z∧(binOp op t u v).run P w=.ok z w:=by
 subst hx;subst hy
 replace h:=(Ab _ _ _).1 h;obtain⟨y,hy,h⟩:=h
 split at h
 ·rename_i hb;have hu:=(hT.bool hy hb);unfold NN at h;cases op<;>simp only[]at h
  case eql=>exact⟨_,_,h,B0,by rw[binOp.eq_def];simp[run_equal_bool _ _ hu]⟩
  case neq=>exact⟨_,_,h,B0,by rw[binOp.eq_def];simp[run_equal_bool _ _ hu]⟩
 ·exact h.elim
theorem ZM{t:TypeId}{d:TypeDesc}(h:P.underlying t=some d):(isAgg t).run P w=.ok (AU P t) w:=by
 unfold isAgg AU;simp only[Cu,run_underlying h,C1,h];cases d<;>simp
theorem Xg{t:TypeId}{n:Nat}(h:Fi P t=n)(hp:1≤n):(sizeOf t).run P w=.ok n w:=by
 unfold Fi at h;cases hu:P.underlying t with
 |none=>simp[hu]at h;omega
 |some d=>
  simp only[hu]at h;unfold Ff at h;cases hi:P.info? t with
  |none=>simp[hi]at h;omega
  |some i=>simp[hi]at h;simp[sizeOf,typeInfo,hi,h]
def LV(k:Nat)(u v:Value)(r:Bool):Prop:=
 match k with
 |0=>∃p q,u=.bool p∧v=.bool q∧r=(p == q)
 |1=>∃k m n,u=.int k m∧v=.int k n∧r=decide (m=n)
 |2=>∃p q:List UInt8,u=.string ⟨p.toArray⟩∧v=.string ⟨q.toArray⟩∧r=decide (p=q)
 |_=>False
def yV:List Nat→List Value→List Value→Bool→Prop
 |[],_,_,r=>r=true
 |k::ls,u::us,v::vs,r=>∃a b,r=(a&&b)∧LV k u v a∧yV ls us vs b
 |_::_,_,_,_=>False
theorem uM{k:Nat}{x y:AV}{u v:Value}{K:Bool→Prop}(hx:Aj C w x mu u)(hy:Aj C w y mu v)(h:Sd k x y K):∃r,K r∧LV k u v r:=by
 unfold Sd at h;split at h
 ·split at h
  ·obtain rfl:=Bf hx;split at h;·obtain rfl:=Bf hy;exact⟨_,h,_,_,rfl,rfl,rfl⟩
   ·obtain rfl:=Bl hy;exact⟨_,h,_,_,rfl,rfl,rfl⟩
   ·exact h.elim
  ·obtain rfl:=Bl hx;split at h;·obtain rfl:=Bf hy;exact⟨_,h,_,_,rfl,rfl,rfl⟩
   ·obtain rfl:=Bl hy;exact⟨_,h,_,_,rfl,rfl,rfl⟩
   ·exact h.elim
  ·exact h.elim
 ·split at h
  ·split at h
   ·split at h
    ·rename_i hk;obtain⟨rfl,_⟩:=AG hx;obtain⟨rfl,_⟩:=AG hy;obtain rfl:=OI hk;exact⟨_,h,_,_,_,rfl,rfl,rfl⟩
    ·exact h.elim
   ·exact h.elim
  ·exact h.elim
 ·split at h
  ·split at h
   ·obtain⟨rfl,_⟩:=Bt hx;obtain⟨rfl,_⟩:=Bt hy;exact⟨_,h,_,_,rfl,rfl,rfl⟩
   ·exact h.elim
  ·exact h.elim
 ·exact h.elim
theorem qU:∀(ls:List Nat)(xs ys:List AV){us vs:List Value}{K:Bool→Prop},Aa C w xs mu us→Aa C w ys mu vs→cH ls xs ys K→∃r,K r∧yV ls us vs r∧us.length=ls.length∧vs.length=ls.length
 |[],[],[],us,vs,K,hx,hy,h=>by
  unfold Aa at hx hy;subst hx;subst hy
  exact⟨true,h,rfl,rfl,rfl⟩
 |k::ls,a::xs,b::ys,us,vs,K,hx,hy,h=>by
  unfold Aa at hx hy;obtain⟨u,Tw,rfl,h1,h2⟩:=hx;obtain⟨v,BV,rfl,h3,h4⟩:=hy;obtain⟨p,h,hp⟩:=uM h1 h3 h;obtain⟨r,h,hr,e1,e2⟩:=qU ls xs ys h2 h4 h;exact⟨_,h,⟨p,r,rfl,hp,hr⟩,by simp[e1],by simp[e2]⟩
 |[],[],_::_,_,_,_,_,_,h=>h.elim
 |[],_::_,_,_,_,_,_,_,h=>h.elim
 |_::_,[],_,_,_,_,_,_,h=>h.elim
 |_::_,_::_,[],_,_,_,_,_,h=>h.elim
theorem Q6:∀(l1 l2:List Nat)(us vs:List Value){r:Bool},yV (l1++l2) us vs r→∃a b,r=(a&&b)∧yV l1 (us.take l1.length) (vs.take l1.length) a∧yV l2 (us.drop l1.length) (vs.drop l1.length) b
 |[],l2,us,vs,r,h=>⟨true,r,by simp,rfl,h⟩
 |k::l1,l2,u::us,v::vs,r,h=>by
  obtain⟨a,b,rfl,h1,h2⟩:=h;obtain⟨a',b',rfl,h3,h4⟩:=Q6 l1 l2 us vs h2;exact⟨a&&a',b',by rw[Bool.and_assoc],⟨a,a',rfl,h1,h3⟩,h4⟩
 |_::_,_,[],_,_,h=>h.elim
 |_::_,_,_::_,[],_,h=>h.elim
def aO(P:Program)(t:TypeId)(us:List Value):Value:=if AU P t=true then .agg us.toArray else us.headD undef
theorem QN{t:TypeId}{d:TypeDesc}(hu:P.underlying t=some d){n off:Nat}(hn:Fi P t=n)(h1:1≤n)(us:List Value)(hl:off+n≤us.length):
  (part t us.toArray off).run P w=.ok (aO P t ((us.drop off).take n)) w:=by
 unfold part aO;simp only[Cu,ZM hu,C1];cases ha:AU P t with
 |true=>
  simp only[if_true,Cu,Xg hn h1,C1,Fv];congr 2;apply Array.toList_inj.1;rw[Array.toList_extract];simp[List.extract]
 |false=>
  have AR:off<us.length:=by omega
  obtain⟨m,rfl⟩:∃m,n=m+1:=⟨n-1,by omega⟩
  have h2:us.toArray[off]?=some us[off]:=by simp[AR]
  have h3:((us.drop off).take (m+1)).headD undef=us[off]:=by rw[Ei AR];rfl
  simp only[h2,h3,Bool.false_eq_true,if_false,Fv]
theorem VX{n:Nat}{t:TypeId}{ls:List Nat}(h:Dq P n t=some ls):∃d,P.underlying t=some d:=by
 cases n with
 |zero=>cases h
 |succ n=>
  unfold Dq at h;cases hu:P.underlying t with
  |none=>simp[hu]at h
  |some d=>exact⟨d,rfl⟩
theorem Vc{n d:Nat}(ih:∀(t:TypeId)(ls:List Nat),Dq P n t=some ls→∀us vs r,us.length=ls.length→vs.length=ls.length→yV ls us vs r→(CM d t (aO P t us) (aO P t vs)).run P w=.ok r w)(us vs:List Value):
  ∀(fs:List Field)(off:Nat)(ls:List Nat)(r:Bool),Is P (Dq P n) off fs=some ls→off+ls.length=us.length→off+ls.length=vs.length→yV ls (us.drop off) (vs.drop off) r→
   (HV d us.toArray vs.toArray fs).run P w=.ok r w
 |[],off,ls,r,h,_,_,hv=>by
  cases h;have hv:r=true:=hv;subst hv;simp[HV]
 |f::fs,off,ls,r,h,h1,h2,hv=>by
  unfold Is at h;cases hl:Dq P n f.type with
  |none=>simp[hl]at h
  |some l=>
   simp only[hl]at h;cases hc:(AO f.offset off&&f.name != "_"&&AO (Fi P f.type) l.length&&CL 1 l.length)with
   |false=>rw[hc]at h;cases h
   |true=>
    rw[hc]at h;simp only[CW]at hc;obtain⟨⟨⟨c1,c2⟩,c3⟩,c4⟩:=hc;have c1:f.offset=off:=Ao c1;have c3:=Ao c3;have c4:=Bv c4;have c2:f.name ≠ "_":=by simpa using c2
    cases hr:Is P (Dq P n) (off+l.length) fs with
    |none=>simp[hr]at h
    |some l2=>
     simp only[hr,cond_true,Ec,Ah.injEq]at h;subst h;simp only[Gj]at h1 h2;obtain⟨a,b,rfl,v1,v2⟩:=Q6 l l2 _ _ hv;rw[H0]at v2;rw[H0]at v2;obtain⟨dd,hd⟩:=VX hl;have e1:=QN (w:=w) hd c3 c4 us (off:=off) (by omega)
     have e2:=QN (w:=w) hd c3 c4 vs (off:=off) (by omega)
     have e3:=ih f.type l hl _ _ a (by simp;omega) (by simp;omega) v1
     have e4:=Vc ih us vs fs (off+l.length) l2 b hr (by omega) (by omega) v2
     simp only[HV,c1,c2,ne_eq,not_false_eq_true,if_true,Cu,e1,e2,e3,C1];cases a with
     |false=>simp
     |true=>simpa using e4
theorem US:∀(n d:Nat),n≤d→∀(t:TypeId)(ls:List Nat),Dq P n t=some ls→∀us vs r,us.length=ls.length→vs.length=ls.length→yV ls us vs r→(CM d t (aO P t us) (aO P t vs)).run P w=.ok r w
 |0,_,_,_,_,h,_,_,_,_,_,_=>by cases h
 |n+1,d+1,hd,t,ls,h,us,vs,r,h1,h2,hv=>by
  have h0:=h;unfold Dq at h;split at h
  ·rename_i hu;cases h;match us,vs,h1,h2,hv with
   |[u],[v],_,_,⟨a,b,hr,⟨p,q,hu1,xU,ha⟩,hb⟩=>
    have hb:b=true:=hb;subst hb;subst hu1;subst xU;subst ha
    have ea:AU P t=false:=by simp[AU,hu]
    simp only[aO,ea,hr,Gk];simp[CM,run_underlying hu]
  ·rename_i kk hu;cases h;match us,vs,h1,h2,hv with
   |[u],[v],_,_,⟨a,b,hr,⟨k,m,m',hu1,xU,ha⟩,hb⟩=>
    have hb:b=true:=hb;subst hb;subst hu1;subst xU;subst ha
    have ea:AU P t=false:=by simp[AU,hu]
    simp only[aO,ea,hr,Gk];have:=run_equalIn_int w d t k kk m m' hu;rw[show decide (m=m')=(m == m')from rfl]
    simpa using this
  ·rename_i hu;cases h;match us,vs,h1,h2,hv with
   |[u],[v],_,_,⟨a,b,hr,⟨p,q,hu1,xU,ha⟩,hb⟩=>
    have hb:b=true:=hb;subst hb;subst hu1;subst xU;subst ha
    have ea:AU P t=false:=by simp[AU,hu]
    simp only[aO,ea,hr,Gk];have:=run_equalIn_string w d t ⟨p.toArray⟩ ⟨q.toArray⟩ hu;rw[ByteArray.toList_eq,ByteArray.toList_eq]at this;have e:decide (p=q)=(p == q):=by rw[HW];simp
    rw[e];simpa using this
  ·rename_i fs hu;cases hp:P.stoodInHeld t with
   |true=>rw[hp]at h;cases h
   |false=>
    rw[hp]at h;have h:Is P (Dq P n) 0 fs.toList=some ls:=h;have ea:AU P t=true:=by simp[AU,hu]
    have hfo:P.fieldsOf t=fs:=by simp[Program.fieldsOf,hu]
    simp only[aO,ea,if_true];rw[run_equalIn_struct w d t _ _ (by rw[hfo];exact hu) hp,hfo]
    exact Vc (λt ls hl us vs r e1 e2 hv=>US n d (by omega) t ls hl us vs r e1 e2 hv) us vs fs.toList 0 ls r h (by omega) (by omega) (by simpa using hv)
  ·cases h
 |_+1,0,hd,_,_,_,_,_,_,_,_,_=>by omega
theorem YZ{op:BinOp}{t:TypeId}{cs ds:List AV}{us vs:List Value}{K:AV→Prop}{T:List TY}(hT:BL P T)(hx:Aa C w cs mu us)(hy:Aa C w ds mu vs)(h:O8 T op t cs ds K):
  P.eqGuardType P.depth t=false∧∃r z,K r∧Aj C w r mu z∧(binOp op t (.agg us.toArray) (.agg vs.toArray)).run P w=.ok z w:=by
 unfold O8 at h;replace h:=(Ab _ _ _).1 h;obtain⟨y,vA,h⟩:=h
 obtain⟨i,d,hi,hd,TM⟩:=hT.facts vA;have he:y.eq=wM P t:=by rw[TM]
 have bV:y.agg=AU P t:=by rw[TM]
 cases ha:AU P t with
 |false=>rw[bV,ha]at h;exact h.elim
 |true=>
  rw[bV,ha]at h;simp only at h;rw[he]at h;unfold wM at h;cases hg:P.eqGuardType P.depth t with
  |true=>rw[hg]at h;exact h.elim
  |false=>
   refine⟨rfl,?_⟩;rw[hg]at h;simp only[cond_false]at h;cases hl:Dq P 8 t with
   |none=>rw[hl]at h;exact h.elim
   |some ls=>
    rw[hl]at h
    have key:∀{K':Bool→Prop},cH ls cs ds K'→∃r,K' r∧(CM 10000 t (.agg us.toArray) (.agg vs.toArray)).run P w=.ok r w:=by
     intro K' hk;obtain⟨r,h1,h2,e1,e2⟩:=qU ls cs ds hx hy hk;have:=US (P:=P) (w:=w) 8 10000 (by omega) t ls hl us vs r e1 e2 h2
     simp only[aO,ha,if_true]at this;exact⟨r,h1,this⟩
    cases op<;>simp only[]at h
    case eql=>
     obtain⟨r,h1,h2⟩:=key h;exact⟨_,_,h1,B0,by rw[run_eql_struct,h2];rfl⟩
    case neq=>
     obtain⟨r,h1,h2⟩:=key h;exact⟨_,_,h1,B0,by rw[run_neq_struct,h2];rfl⟩
theorem tN{op:BinOp}{t:TypeId}{x y:AV}{u v:Value}{K:AV→Prop}{T:List TY}(hT:BL P T)(hx:Aj C w x mu u)(hy:Aj C w y mu v)(h:Mt T op t x y K):
  ∃r z,K r∧Aj C w r mu z∧(binOp op t u v).run P w=.ok z w:=by
 unfold Mt at h;split at h
 ·split at h
  ·split at h
   ·rename_i k m k' n hk;obtain⟨rfl,h1⟩:=AG hx;obtain⟨rfl,h2⟩:=AG hy;obtain rfl:=OI hk;unfold jP at h;cases op<;>simp only[]at h
    case quo=>obtain⟨h0,h⟩:=h;exact⟨_,_,h,B8 (HU _ _),by simp[binOp,Op.intDiv,h0,Wr]⟩
    case rem=>obtain⟨h0,h⟩:=h;exact⟨_,_,h,B8 (pF _ h1),by simp[binOp,Op.intDiv,h0]⟩
    case eql=>exact⟨_,_,h,B0,by simp[binOp,Fw];rfl⟩
    case neq=>exact⟨_,_,h,B0,by simp[binOp,Fw];rfl⟩
    case lss=>exact⟨_,_,h,B0,by simp[binOp,Fw]⟩
    case leq=>exact⟨_,_,h,B0,by simp[binOp,Fw]⟩
    case gtr=>exact⟨_,_,h,B0,by simp[binOp,Fw]⟩
    case geq=>exact⟨_,_,h,B0,by simp[binOp,Fw]⟩
    case add=>exact⟨_,_,h,B8 (HU _ _),by simp[binOp,F0,Wr]⟩
    case sub=>exact⟨_,_,h,B8 (HU _ _),by simp[binOp,F0,Wr]⟩
    case mul=>exact⟨_,_,h,B8 (HU _ _),by simp[binOp,F0,Wr]⟩
    case and=>exact⟨_,_,h,B8 (HU _ _),by simp[binOp,Gz,Wr,P2]⟩
    case or=>exact⟨_,_,h,B8 (HU _ _),by simp[binOp,Gz,Wr,P2]⟩
    case xor=>exact⟨_,_,h,B8 (HU _ _),by simp[binOp,Gz,Wr,P2]⟩
    case andNot=>exact⟨_,_,h,B8 (HU _ _),by simp[binOp,Gz,Wr,P2]⟩
   ·exact h.elim
  ·exact h.elim
 ·split at h;·exact Lj hT (Bf hx) (Bf hy) h
  ·exact Lj hT (Bf hx) (Bl hy) h
  ·exact h.elim
 ·split at h;·exact Lj hT (Bl hx) (Bf hy) h
  ·exact Lj hT (Bl hx) (Bl hy) h
  ·exact h.elim
 ·split at h
  ·obtain⟨rfl,h1⟩:=Bt hx;obtain⟨rfl,h2⟩:=Bt hy;rename_i p _ q;unfold mP at h;cases op<;>simp only[]at h
   case add=>
    obtain⟨h0,h⟩:=h;refine⟨_,_,h,QJ (by simpa using h0),?_⟩
    rw[show binOp .add t (.string ⟨p.toArray⟩) (.string ⟨q.toArray⟩)=DG .add ⟨p.toArray⟩ ⟨q.toArray⟩from by simp[binOp],run_string_add_sum _ _ _ (by simpa[DZ]using h0),ByteArray.mk_append_mk]
   case eql=>exact⟨_,_,h,B0,by simp[binOp,DG]⟩
   case neq=>exact⟨_,_,h,B0,by simp[binOp,DG]⟩
   case lss=>exact⟨_,_,h,B0,by simp[binOp,DG]⟩
   case leq=>exact⟨_,_,h,B0,by simp[binOp,DG]⟩
   case gtr=>exact⟨_,_,h,B0,by simp[binOp,DG]⟩
   case geq=>exact⟨_,_,h,B0,by simp[binOp,DG]⟩
  ·exact h.elim
 ·split at h
  ·unfold Aj at hx hy;obtain⟨us,rfl,hx⟩:=hx;obtain⟨vs,rfl,hy⟩:=hy;exact(YZ hT hx hy h).2
  ·exact h.elim
 ·exact h.elim
theorem zU{op:UnOp}{x:AV}{u:Value}{K:AV→Prop}(hx:Aj C w x mu u)(h:unK op x K):
  ∃r z,K r∧Aj C w r mu z∧(Hs op u).run P w=.ok z w:=by
 unfold unK at h;split at h
 ·split at h
  ·obtain⟨rfl,h1⟩:=AG hx;exact⟨_,_,h,B8 (HU _ _),by simp[Hs,F0,Wr]⟩
  ·exact h.elim
 ·split at h
  ·obtain rfl:=Bf hx;exact⟨_,_,h,B0,by simp[Hs]⟩
  ·obtain rfl:=Bl hx;split at h;·exact⟨_,_,h,Gt,by simp[Hs]⟩
   ·exact⟨_,_,h,Gt,by simp[Hs]⟩
  ·exact h.elim
 ·exact h.elim
theorem add_lit(b o i:Nat):(⟨b,o,none⟩:Addr).add i=⟨b,o+i,none⟩:=by unfold Addr.add;split<;>simp_all
def Reads(w:World)(b o:Nat)(vs:List Value):Prop:=∀i v,vs[i]?=some v→w.cell? ⟨b,o+i,none⟩=some v
theorem KW{t:TypeId}{d:TypeDesc}(h:P.underlying t=some d):(isAgg t).run P w=.ok (AU P t) w:=by
 unfold isAgg AU;rw[Cu,run_underlying h];cases d<;>simp[h]
theorem ZL{T:List TY}(hT:BL P T){t:TypeId}{b o:Nat}{vs:List Value}{cs:List AV}{K:AV→Prop}(hr:Reads w b o vs)(hc:Aa C w cs mu vs)(h:uO T t cs K):
  ∃r v,K r∧Aj C w r mu v∧(loadVar t ⟨b,o,none⟩).run P w=.ok v w:=by
 unfold uO at h;obtain⟨y,hy,h⟩:=(Ab _ _ _).1 h;obtain⟨i,d,hi,hd,rfl⟩:=hT.facts hy;simp only at h;have hlen:=Ar _ hc;have N0:=(AI cs).1 hc;cases ha:AU P t with
 |true=>
  rw[ha]at h;simp only at h;obtain⟨hn,h⟩:=(Fh _ _ _).1 h
  have hl:(loadCells ⟨b,o,none⟩ (vs.take i.size).length).run P w=.ok (vs.take i.size).toArray w:=
   run_loadCells_list (P:=P) w ⟨b,o,none⟩ (vs.take i.size) (λj v hv=>by
    rw[add_lit];rw[Ef]at hv;split at hv;·exact hr j v hv
    ·cases hv)
  rw[List.length_take,Nat.min_eq_left (by omega)]at hl
  refine⟨_,.agg (vs.take i.size).toArray,h,?_,?_⟩
  ·unfold Aj;refine⟨_,rfl,(AI _).2 ⟨by simp[hlen],λj h1 h2=>?_⟩⟩
   simp only[Ep];exact N0.2 j (by simp at h1;omega) (by simp at h2;omega)
  ·simp[loadVar,KW hd,ha,sizeOf,typeInfo,hi,hl]
 |false=>
  rw[ha]at h;cases cs with
  |nil=>exact h.elim
  |cons c cs=>
   simp only[AV.AK]at h;cases vs with
   |nil=>simp at hlen
   |cons v vs=>
    have h1:=hr 0 v rfl;have h2:=N0.2 0 (by simp) (by simp)
    simp only[G4]at h1;exact⟨_,v,h,h2,by simp[loadVar,KW hd,ha,h1]⟩
theorem Cells.gS{cs:List AV}{b o:Nat}(h:Cells C w cs b o):∃vs,Reads w b o vs∧Aa C w cs Mu.none vs∧∀v∈vs,v.oneCell'=true:=by
 induction cs generalizing o with
 |nil=>exact⟨[],λi v hv=>by simp at hv,by unfold Aa;rfl,by simp⟩
 |cons c cs ih=>
  unfold Cells at h;obtain⟨⟨v,h1,h2,h3⟩,h4⟩:=h;obtain⟨vs,h5,h6,h7⟩:=ih h4;refine⟨v::vs,λi u hu=>?_,by unfold Aa;exact⟨v,vs,rfl,h3,h6⟩,by simpa using ⟨h1,h7⟩⟩
  cases i with
  |zero=>simp at hu;subst hu;exact h2.2
  |succ i=>
   have:=h5 i u (by simpa using hu)
   rw[show o+(i+1)=o+1+i by omega];exact this
theorem Aa.up{cs:List AV}{vs:List Value}(h:Aa C w cs Mu.none vs):Aa C w cs mu vs:=Aa.mono (Ext.refl C w) cs (Ay.none mu) h
theorem Aa.drop{cs:List AV}{vs:List Value}(h:Aa C w cs mu vs)(n:Nat):Aa C w (cs.drop n) mu (vs.drop n):=by
 obtain⟨h1,h2⟩:=(AI cs).1 h;refine(AI _).2 ⟨by simp[h1],λi h3 h4=>?_⟩
 simp only[EM];exact h2 (n+i) (by simp at h3;omega) (by simp at h4;omega)
theorem Aa.take{cs:List AV}{vs:List Value}(h:Aa C w cs mu vs)(n:Nat):Aa C w (cs.take n) mu (vs.take n):=by
 obtain⟨h1,h2⟩:=(AI cs).1 h;refine(AI _).2 ⟨by simp[h1],λi h3 h4=>?_⟩
 simp only[Ep];exact h2 i (by simp at h3;omega) (by simp at h4;omega)
theorem Reads.drop{b o:Nat}{vs:List Value}(h:Reads w b o vs)(n:Nat):Reads w b (o+n) (vs.drop n):=λi v hv=>by
 rw[Gm]at hv;rw[show o+n+i=o+(n+i) by omega];exact h _ _ hv
theorem Cells.drop{cs:List AV}{b o:Nat}(h:Cells C w cs b o)(n:Nat):Cells C w (cs.drop n) b (o+n):=by
 rw[Co]at *;intro i hi;have:=h (n+i) (by simp at hi;omega)
 simp only[EM];rw[show o+n+i=o+(n+i) by omega];exact this
theorem Ij{g:Nat}{cur:Array Value}{e:TypeId}{fz:Nat×Nat}(h:w.heap[g]?=some (.cells cur e fz)):Reads w g 0 cur.toList:=λi v hv=>by
 rw[E4,cell_of_row w g i cur e fz h];simpa using hv
theorem WH{T:List TY}(hT:BL P T){e:TypeId}{K:AV→Prop}(h:HN T e K):∃r z,K r∧Aj C w r mu z∧(zeroValue e).run P w=.ok z w:=by
 unfold HN at h;replace h:=(Ab _ _ _).1 h;obtain⟨y,hy,h⟩:=h
 obtain⟨i,d,hi,hd,rfl⟩:=hT.facts hy;simp only at h;have B7:∀z:Value,Aa C w (z.cells.toList.map lK) mu z.cells.toList:=λz=>(AI _).2 ⟨by simp,λj h3 h4=>by simp only[Hp];exact QK _⟩
 rcases IK (AU P e) i.zero with h0|⟨z,hz,e1,⟨ha,cs,rfl⟩|⟨ha,hc⟩⟩
 ·rw[h0]at h;cases hb:AU P e<;>rw[hb]at h<;>exact h.elim
 ·rw[ha]at h e1;simp only at h;split at h;·exact h.elim
  ·rename_i z zs jR;rw[←jR,e1]at h;exact⟨_,.agg cs,h,by unfold Aj;exact⟨cs.toList,rfl,B7 (.agg cs)⟩,by simp[zeroValue,typeInfo,hi,hz]⟩
 ·rw[ha]at h e1;simp only at h;rw[e1,hc]at h;simp only[E0,List.map_nil,AV.AK]at h;exact⟨_,z,h,QK z,by simp[zeroValue,typeInfo,hi,hz]⟩
theorem GL{sz:Nat}:∀(es:List AV),(∀a∈es,a.cells.length=sz)→∀i e,es[i]?=some e→∃r,(flat es).drop (i*sz)=e.cells++r
 |[],_,i,e,h=>by simp at h
 |a::es,hs,0,e,h=>by simp at h;subst h;exact⟨flat es,by simp[flat]⟩
 |a::es,hs,i+1,e,h=>by
  obtain⟨r,hr⟩:=GL es (λb hb=>hs b (by simp[hb])) i e (by simpa using h)
  refine⟨r,?_⟩;have e1:flat (a::es)=a.cells++flat es:=by simp[flat]
  rw[e1,List.drop_append,E2 (by rw[hs a (by simp),C3];omega),hs a (by simp),List.nil_append,←hr]
  congr 1;rw[C3];omega
theorem BA{sz:Nat}:∀(es:List AV),(∀a∈es,a.cells.length=sz)→(flat es).length=es.length*sz
 |[],_=>by simp[flat]
 |a::es,h=>by
  have e1:flat (a::es)=a.cells++flat es:=by simp[flat]
  rw[e1,Gj,BA es (λb hb=>h b (by simp[hb])),h a (by simp),Ho,C3];omega
end
section
variable {P:Program}{C:Ag}{w:World}{mu:Mu}{fresh:Nat→Prop}{H:List HO}{T:List TY}
theorem qW(hh:AX C w fresh mu H){l b n c sz i:Nat}{e:TypeId}{BD:Nat}{es:List AV}{x:AV}(hl:H[l]?=some (.arr e BD es))
  (hm:mu l=some (.arr (.slice (some ⟨b,0,none⟩) n c))) (Eh:sz=BD) (hi:es[i]?=some x):
  ∃vs,Reads w b (i*sz) vs∧Aa C w x.cells mu vs:=by
 subst Eh;obtain⟨h1,h2⟩:=hh.BJ l e sz es hl;rcases h2 with⟨h2,_⟩|⟨b',cap,cur,h3,⟨fz,h4,Nu⟩,h5,h6,h7,h8,h9⟩;·rw[hm]at h2;cases h2
 ·rw[hm]at h3;simp only[Ah.injEq,GO.arr.injEq,Value.slice.injEq,Addr.mk.injEq]at h3;obtain⟨⟨rfl,_⟩,rfl,rfl⟩:=h3;obtain⟨r,hr⟩:=GL es h1 i x hi;have h10:=(Aa.mono (Ext.refl C w) _ (rM mu) h8).drop (i*sz);rw[hr]at h10;have h11:=h10.take x.cells.length;rw[List.take_left' rfl]at h11;refine⟨_,?_,h11⟩;have hR:=(Ij h4).drop (i*sz);rw[E4]at hR;intro j v hv;refine hR j v ?_;rw[Ef]at hv;split at hv
  ·rw[Gm]at hv ⊢;rw[Ef]at hv;split at hv;·exact hv
   ·cases hv
  ·cases hv
theorem Oa(hT:BL P T)(hh:AX C w fresh mu H){t:TypeId}{x:AV}{u:Value}{K:AV→Prop}(hx:Aj C w x mu u)(h:Nh T H t x K):
  ∃r v,K r∧Aj C w r mu v∧(Instr.loadAt t u).run P w=.ok v w:=by
 unfold Nh at h;split at h
 ·unfold Aj at hx;obtain⟨b,o,rfl,hc⟩:=hx;obtain⟨vs,h1,h2,_⟩:=hc.gS;obtain⟨r,v,h3,h4,h5⟩:=ZL hT h1 h2.up h;exact⟨r,v,h3,h4,by simpa[Instr.loadAt,Instr.sureAddr]using h5⟩
 ·rename_i l o;unfold Aj at hx;obtain⟨b,hm,rfl⟩:=hx;replace h:=(Ab _ _ _).1 h;obtain⟨ob,Ba,h⟩:=h
  split at h
  ·rename_i cs;rw[BK]at h;obtain⟨b',cur,e,V8,hb,hr,_⟩:=hh.Cm l cs Ba;rw[hm]at V8;simp only[Ah.injEq,GO.CU.injEq]at V8;subst V8;have hR:=(Ij hb).drop o;rw[E4]at hR;obtain⟨r,v,h3,h4,h5⟩:=ZL hT hR (hr.drop o) h;exact⟨r,v,h3,h4,by simpa[Instr.loadAt,Instr.sureAddr]using h5⟩
  ·exact h.elim
 ·rename_i l sz i o;unfold Aj at hx;obtain⟨b,n,c,hm,rfl⟩:=hx;replace h:=(Ab _ _ _).1 h;obtain⟨ob,Ba,h⟩:=h
  cases ob with
  |cells _=>exact h.elim
  |dead=>exact h.elim
  |ghost _ _ _=>exact h.elim
  |inv _=>exact h.elim
  |map _ _=>exact h.elim
  |arr e BD es=>
   simp only at h;split at h
   ·rename_i Eh;obtain⟨a,ha,h⟩:=h;rw[Am,BK]at h;obtain⟨vs,h1,h2⟩:=qW hh Ba hm (Ao Eh) ha;obtain⟨r,v,h3,h4,h5⟩:=ZL hT (h1.drop o) (h2.drop o) h;exact⟨r,v,h3,h4,by simpa[Instr.loadAt,Instr.sureAddr]using h5⟩
   ·exact h.elim
 ·exact h.elim
theorem nM{cs:List AV}{b o:Nat}(h:Cells C w cs b o):Aj C w (.at_ cs) mu (.pointer (some ⟨b,o,none⟩)):=by
 unfold Aj;exact⟨b,o,rfl,h⟩
theorem run_sizeOf{t:TypeId}{n:Nat}(h:Fi P t=n)(hp:1≤n):(sizeOf t).run P w=.ok n w:=by
 obtain⟨m,rfl⟩:∃m,n=m+1:=⟨n-1,by omega⟩
 obtain⟨i,d,sR,_,Qz⟩:=JU h;simp[sizeOf,typeInfo,sR,Qz]
theorem TA(hT:BL P T)(hh:AX C w fresh mu H){t:TypeId}{x i:AV}{u v:Value}{K:AV→Prop}(hx:Aj C w x mu u)(hi:Aj C w i mu v)(h:BT T H t x i K):
  ∃r z,K r∧Aj C w r mu z∧(Instr.indexAt t u v).run P w=.ok z w:=by
 cases x with
 |sl sz es=>
  simp only[BT]at h;replace h:=(Ab _ _ _).1 h;obtain⟨y,hy,h⟩:=h
  split at h
  ·rename_i el Bh by' ag hk
   split at h
   ·rename_i hb;simp only[CW]at hb;obtain rfl:=Ao hb.1;have Mo:=Bv hb.2;cases i with
    |int k n=>
     simp only at h;obtain⟨h0,a,ha,h⟩:=h;rw[Am]at h;obtain⟨h1,h2,h3,h4⟩:=hT.slice hy hk;obtain⟨rfl,_⟩:=AG hi;unfold Aj at hx;have AR:n.toNat<es.length:=(Bj.1 ha).1;rcases hx with⟨_,rfl⟩|⟨b,o,cap,rfl,h6,h7,h8⟩;·simp at AR
     ·have ZcU:=(DJ es o).1 h8 n.toNat AR;have hav:es[n.toNat]=a:=by rw[EX AR]at ha;simpa using ha
      rw[hav]at ZcU;refine⟨_,_,h,nM ZcU.2,?_⟩;have hn:(n:Int)<(es.length:Int):=by omega
      simp[Instr.indexAt,asIntOf,run_underlying h1,h0,hn,run_sizeOf h2 Mo,add_lit]
    |_=>exact h.elim
   ·exact h.elim
  ·exact h.elim
 |own l sz lo m=>
  simp only[BT]at h;replace h:=(Ab _ _ _).1 h;obtain⟨y,hy,h⟩:=h
  split at h
  ·rename_i el Bh by' ag hk
   replace h:=(Ab _ _ _).1 h;obtain⟨ob,Ba,h⟩:=h
   cases ob with
   |cells _=>exact h.elim
   |dead=>exact h.elim
   |ghost _ _ _=>exact h.elim
   |inv _=>exact h.elim
   |map _ _=>exact h.elim
   |arr e BD es=>
    simp only at h;split at h
    ·rename_i hb;simp only[CW]at hb;obtain rfl:=Ao hb.1.1;obtain rfl:=Ao hb.2;have Mo:=Bv hb.1.2;cases i with
     |int k n=>
      simp only at h;obtain⟨⟨h0,AR⟩,h⟩:=h;obtain⟨h1,h2,h3,h4⟩:=hT.slice hy hk;obtain⟨rfl,_⟩:=AG hi;unfold Aj at hx;obtain⟨x,hm,hle,_,rfl⟩:=hx;obtain⟨_,h5⟩:=hh.BJ l e Bh es Ba;rcases h5 with⟨h5,h6⟩|⟨b,cap,cur,h5,h6,h7,h8,h9,h10⟩
      ·rw[hm]at h5
       simp only[Ah.injEq,GO.arr.injEq]at h5
       subst h5
       simp only[Da]at hle
       omega
      ·rw[hm]at h5
       simp only[Ah.injEq,GO.arr.injEq]at h5
       subst h5
       refine⟨_,.pointer (some ⟨b,(lo+n.toNat)*Bh+0,none⟩),h,?_,?_⟩
       ·unfold Aj;exact⟨b,_,_,hm,rfl⟩
       ·simp[Instr.indexAt,asIntOf,BP,run_underlying h1,h0,AR,run_sizeOf h2 Mo,add_lit,C3]
     |_=>exact h.elim
    ·exact h.elim
  ·exact h.elim
 |ptr l o=>
  simp only[BT]at h;replace h:=(Ab _ _ _).1 h;obtain⟨y,hy,h⟩:=h
  split at h
  ·rename_i m sz ag hk;split at h
   ·rename_i hb;have Mo:=Bv hb;cases i with
    |int k n=>
     simp only at h;obtain⟨⟨h0,AR⟩,h⟩:=h;obtain⟨rfl,_⟩:=AG hi;obtain⟨i',d,_,hd,rfl⟩:=hT.facts hy
     obtain⟨e,rfl,U3⟩:∃e,d=.array m e∧Fi P e=sz:=by
      cases d<;>simp[kindOf]at hk
      rename_i m' e;exact⟨e,by rw[hk.1],hk.2.1⟩
     unfold Aj at hx;obtain⟨b,hm,rfl⟩:=hx;refine⟨_,.pointer (some ⟨b,o+n.toNat*sz,none⟩),h,?_,?_⟩;·unfold Aj;exact⟨b,hm,rfl⟩
     ·simp[Instr.indexAt,Instr.sureAddr,asIntOf,run_underlying hd,h0,AR,run_sizeOf U3 Mo,add_lit]
    |_=>exact h.elim
   ·exact h.elim
  ·exact h.elim
 |_=>exact h.elim
end
open Go.MapKept
section
variable {P:Program}{C:Ag}{w:World}{mu:Mu}{fresh:Nat→Prop}{H:List HO}{T:List TY}
theorem TB(hT:BL P T){t:TypeId}{x:AV}{f:Nat}{u:Value}{K:AV→Prop}(hx:Aj C w x mu u)(h:DP T t x f K):
  ∃r z,K r∧Aj C w r mu z∧(Instr.fieldAt t u f).run P w=.ok z w:=by
 unfold DP at h;replace h:=(Ab _ _ _).1 h;obtain⟨y,hy,h⟩:=h
 split at h
 ·rename_i fs hk;replace h:=(Ab _ _ _).1 h;obtain⟨⟨off,size,ag⟩,hf,h⟩:=h
  obtain⟨fields,hu,rfl⟩:=hT.struct hy hk;simp only at h;rw[G1]at hf;cases fI:fields.toList[f]? with
  |none=>simp[fI]at hf
  |some fd=>
   simp only[fI,Ec,Ah.injEq,Prod.mk.injEq]at hf;obtain⟨rfl,Eh,_⟩:=hf;have hfa:fields[f]?=some fd:=by simpa using fI
   split at h;·exact h.elim
   ·have hs:=run_sizeOf (P:=P) (w:=w) Eh (by omega)
    have key:∀b o,(Instr.fieldAt t (.pointer (some ⟨b,o,none⟩)) f).run P w=.ok (.pointer (some ⟨b,o+fd.offset,none⟩)) w:=λb o=>by
     simp[Instr.fieldAt,run_underlying hu,hfa,Instr.sureAddr,fieldPlace,hs,add_lit]
    cases x with
    |at_ cs=>
     simp only at h;rw[BK]at h;unfold Aj at hx;obtain⟨b,o,rfl,hc⟩:=hx;exact⟨_,_,h,nM (hc.drop _),key b o⟩
    |ptr l o=>
     unfold Aj at hx;obtain⟨b,hm,rfl⟩:=hx;exact⟨_,_,h,by unfold Aj;exact⟨b,hm,rfl⟩,key b o⟩
    |el l sz i o=>
     unfold Aj at hx;obtain⟨b,n,c,hm,rfl⟩:=hx;refine⟨_,_,h,?_,key b _⟩;unfold Aj;exact⟨b,n,c,hm,by rw[Nat.add_assoc]⟩
    |raw v=>
     simp only at h;split at h;case h_2=>exact h.elim
     split at h;case h_2=>exact h.elim
     rename_i b o;unfold Aj at hx;subst hx;exact⟨_,_,h,by unfold Aj;rfl,key b o⟩
    |_=>exact h.elim
 ·exact h.elim
theorem iG(hT:BL P T){t:TypeId}{x:AV}{f:Nat}{u:Value}{K:AV→Prop}(hx:Aj C w x mu u)(h:Kv T t x f K):
  ∃r z,K r∧Aj C w r mu z∧(Instr.field t u f).run P w=.ok z w:=by
 unfold Kv at h;replace h:=(Ab _ _ _).1 h;obtain⟨y,hy,h⟩:=h
 split at h
 ·rename_i fs hk;replace h:=(Ab _ _ _).1 h;obtain⟨⟨off,size,ag⟩,hf,h⟩:=h
  obtain⟨fields,hu,rfl⟩:=hT.struct hy hk;simp only at h;rw[G1]at hf;cases fI:fields.toList[f]? with
  |none=>simp[fI]at hf
  |some fd=>
   simp only[fI,Ec,Ah.injEq,Prod.mk.injEq]at hf;obtain⟨rfl,Eh,bV⟩:=hf;have hfa:fields[f]?=some fd:=by simpa using fI
   cases x with
   |agg cs=>
    simp only at h;rw[BK]at h;unfold Aj at hx;obtain⟨vs,rfl,hc⟩:=hx;have N0:=(AI _).1 (hc.drop fd.offset);cases hb:ag with
    |true=>
     simp only[hb]at h;obtain⟨hn,h⟩:=(Fh _ _ _).1 h;rw[hb]at bV;refine⟨_,.agg ((vs.drop fd.offset).take size).toArray,h,?_,?_⟩;·unfold Aj;exact⟨_,rfl,(hc.drop _).take _⟩
     ·obtain⟨d,hd⟩:∃d,P.underlying fd.type=some d:=by
       unfold AU at bV;cases hh:P.underlying fd.type with
       |none=>simp[hh]at bV
       |some d=>exact⟨d,rfl⟩
      obtain⟨i,hi⟩:∃i,P.info? fd.type=some i:=by
       unfold Program.underlying at hd;cases hh:P.info? fd.type with
       |none=>simp[hh]at hd
       |some i=>exact⟨i,rfl⟩
      have Qz:i.size=size:=by unfold Fi at Eh;simp only[hd]at Eh;unfold Ff at Eh;simpa[hi]using Eh
      simp[Instr.field,run_underlying hu,hfa,asAgg,part,KW hd,bV,sizeOf,typeInfo,hi,Qz]
    |false=>
     simp only[hb]at h;split at h;·exact h.elim
     rename_i m;obtain⟨i,d,hi,hd,_⟩:=JU Eh;cases bR:cs.drop fd.offset with
     |nil=>simp[bR]at h
     |cons c r=>
      simp only[bR,AV.AK]at h;have hl:0<(cs.drop fd.offset).length:=by rw[bR];simp
      have h2:=N0.2 0 hl (by rw[N0.1];exact hl)
      have bT:(cs.drop fd.offset)[0]=c:=by simp[bR]
      rw[bT]at h2;refine⟨c,_,h,h2,?_⟩;have hlv:fd.offset<vs.length:=by have:=N0.1;rw[E1,E1]at this;rw[E1]at hl;omega
      have hv:vs.toArray[fd.offset]?=some ((vs.drop fd.offset)[0]'(by rw[N0.1];exact hl)):=by
       simp[hlv]
      rw[hb]at bV;have hia:(isAgg fd.type).run P w=.ok false w:=by rw[KW hd,bV]
      simp[Instr.field,run_underlying hu,hfa,asAgg,part,hia,hlv]
   |_=>exact h.elim
 ·exact h.elim
theorem iF(hT:BL P T){t:TypeId}{x i:AV}{u v:Value}{K:AV→Prop}(hx:Aj C w x mu u)(hi:Aj C w i mu v)(h:Hb T t x i K):
  ∃r z,K r∧Aj C w r mu z∧(Instr.index t u v).run P w=.ok z w:=by
 cases x with
 |str l=>
  simp only[Hb]at h;replace h:=(Ab _ _ _).1 h;obtain⟨y,hy,h⟩:=h
  split at h
  ·rename_i hk;cases i with
   |int k n=>
    obtain⟨⟨h0,h1⟩,h⟩:=h;obtain⟨rfl,_⟩:=AG hi;obtain⟨rfl,_⟩:=Bt hx;have hu:=hT.string hy hk;have AR:n.toNat<l.length:=by omega
    refine⟨_,_,h,B8 (pE.2 ⟨by omega,by have:=(l.getD n.toNat 0).toNat_lt;omega⟩),?_⟩
    have hs:(⟨l.toArray⟩:ByteArray)[n.toNat]?=some (l.getD n.toNat 0):=by
     rw[ByteArray.getElem?_lt' _ _ (by rw[DZ];exact AR)]
     simp[Ix,EX AR,ByteArray.getElem_eq_getElem_data]
    simp[Instr.index,asIntOf,run_underlying hu,h0,hs]
   |_=>exact h.elim
  ·exact h.elim
 |agg cs=>
  simp only[Hb]at h;replace h:=(Ab _ _ _).1 h;obtain⟨y,hy,h⟩:=h
  split at h
  ·rename_i m sz ag hk;split at h
   ·rename_i hb;simp only[CW,Bool.not_eq_true']at hb;have Eh:=Ao hb.1;subst Eh;have bV:=hb.2;subst bV;cases i with
    |int k n=>
     obtain⟨⟨h0,h1⟩,z,hz,h⟩:=h;obtain⟨rfl,_⟩:=AG hi;obtain⟨i',d,_,hd,rfl⟩:=hT.facts hy
     obtain⟨e,rfl,U3,he2⟩:∃e,d=.array m e∧Fi P e=1∧AU P e=false:=by
      cases d<;>simp[kindOf]at hk
      rename_i m' e;exact⟨e,by rw[hk.1],hk.2.1,hk.2.2⟩
     obtain⟨de,hde⟩:∃de,P.underlying e=some de:=by
      unfold Fi at U3;split at U3;·rename_i de hde;exact⟨de,hde⟩
      ·cases U3
     unfold Aj at hx;obtain⟨vs,rfl,La⟩:=hx;obtain⟨hl,hg⟩:=(AI _).1 La;obtain⟨AR,hze⟩:=Bj.1 hz;have Ns:n.toNat<vs.length:=by omega
     have hr:=hg n.toNat AR Ns;rw[hze]at hr;refine⟨_,vs[n.toNat],h,hr,?_⟩;have hp:=QN (w:=w) hde U3 (by omega) (off:=n.toNat*1) vs (by omega)
     have hm:aO P e ((vs.drop (n.toNat*1)).take 1)=vs[n.toNat]:=by
      unfold aO;rw[he2,Nat.mul_one,Ei Ns];rfl
     rw[hm]at hp;have hs:(sizeOf e).run P w=.ok 1 w:=run_sizeOf U3 (by omega)
     simp[Instr.index,asIntOf,run_underlying hd,h0,h1,hs];simpa using hp
    |_=>exact h.elim
   ·split at h
    ·rename_i hb;simp only[CW]at hb;obtain⟨⟨rfl,GA⟩,kB⟩:=hb;have Mo:=Bv GA;have IJ:=Ao kB;cases i with
     |int k n=>
      obtain⟨⟨h0,h1⟩,h⟩:=h;obtain⟨rfl,_⟩:=AG hi;obtain⟨i',d,_,hd,rfl⟩:=hT.facts hy
      obtain⟨e,rfl,U3,he2⟩:∃e,d=.array m e∧Fi P e=sz∧AU P e=true:=by
       cases d<;>simp[kindOf]at hk
       rename_i m' e;exact⟨e,by rw[hk.1],hk.2.1,hk.2.2⟩
      obtain⟨de,hde⟩:∃de,P.underlying e=some de:=by
       unfold Fi at U3;split at U3;·rename_i de hde;exact⟨de,hde⟩
       ·omega
      unfold Aj at hx;obtain⟨vs,rfl,La⟩:=hx;have hl:=Ar _ La;have hm:(n.toNat+1)*sz≤m*sz:=Nat.mul_le_mul_right _ (by omega)
      rw[C3]at hm;have hp:=QN (w:=w) hde U3 (by omega) (off:=n.toNat*sz) vs (by omega)
      have UZ:aO P e ((vs.drop (n.toNat*sz)).take sz)=.agg ((vs.drop (n.toNat*sz)).take sz).toArray:=by
       unfold aO;rw[he2];rfl
      rw[UZ]at hp;have hs:(sizeOf e).run P w=.ok sz w:=run_sizeOf U3 (by omega)
      refine⟨_,.agg ((vs.drop (n.toNat*sz)).take sz).toArray,h,by unfold Aj;exact⟨_,rfl,(La.drop _).take _⟩,?_⟩
      simp[Instr.index,asIntOf,run_underlying hd,h0,h1,hs];simpa using hp
     |_=>exact h.elim
    ·exact h.elim
  ·exact h.elim
 |_=>exact h.elim
theorem Zz{x:Value}{sz lo n:Nat}(h:lo+n≤Da x):(∃a c,BP x sz lo n=.slice a n c):=by
 unfold Da at h;split at h;·exact⟨_,_,rfl⟩
 ·rename_i hx;have:n=0:=by omega
  subst this;unfold BP;split;·exact⟨_,_,rfl⟩
  ·exact⟨_,_,rfl⟩
theorem QI(hT:BL P T){t ty:TypeId}{x:AV}{u:Value}{K:AV→Prop}(hx:Aj C w x mu u)(h:TJ T t x K):
  ∃r z,K r∧Aj C w r mu z∧(D5 #[t] ty #[u]).run P w=.ok z w:=by
 unfold TJ at h;replace h:=(Ab _ _ _).1 h;obtain⟨y,hy,h⟩:=h
 split at h
 ·rename_i el sz by' ag hk
  obtain⟨hu,_⟩:=hT.slice hy hk;cases x with
  |sl sz es=>
   simp only at h;unfold Aj at hx;rcases hx with⟨⟨ad,rfl⟩,rfl⟩|⟨b,o,cap,rfl,h1,h2,h3⟩;·exact⟨_,_,h,B8 (PG.2 (by simp)),by simp[D5,run_underlying hu,goInt]⟩
   ·exact⟨_,_,h,B8 (PG.2 (by omega)),by simp[D5,run_underlying hu,goInt]⟩
  |own l sz lo n=>
   simp only at h;unfold Aj at hx;obtain⟨x,hm,hle,MA,rfl⟩:=hx;obtain⟨a,c,hs⟩:=Zz (sz:=sz) hle;exact⟨_,_,h,B8 (PG.2 (by omega)),by simp[D5,run_underlying hu,goInt,hs]⟩
  |raw v=>
   split at h;·rename_i heq;cases heq
   ·rename_i heq;cases heq
   ·rename_i hv;simp only[AV.raw.injEq]at hv;unfold Aj at hx;subst hx;subst hv;exact⟨_,_,h,B8 (PG.2 (by omega)),by simp[D5,run_underlying hu,goInt]⟩
   ·exact h.elim
  |_=>exact h.elim
 ·rename_i hk;have hu:=hT.string hy hk;cases x with
  |str l=>
   obtain⟨rfl,hl⟩:=Bt hx;exact⟨_,_,h,B8 (PG.2 (by omega)),by simp[D5,run_underlying hu,goInt,DZ]⟩
  |_=>exact h.elim
 ·exact h.elim
theorem Rn(hT:BL P T){s d:TypeId}{x:AV}{u:Value}{K:AV→Prop}(hx:Aj C w x mu u)(h:IG T s d x K):
  ∃r z,K r∧Aj C w r mu z∧(convert s d u).run P w=.ok z w:=by
 cases x with
 |int k n=>
  simp only[IG]at h;replace h:=(Ab _ _ _).1 h;obtain⟨y0,sG,h⟩:=h
  replace h:=(Ab _ _ _).1 h;obtain⟨y,hy,h⟩:=h
  obtain⟨i,ys,_,hs,_⟩:=hT.facts sG;split at h
  ·rename_i k' hk;have hu:=hT.int hy hk;obtain⟨rfl,_⟩:=AG hx;exact⟨_,_,h,B8 (HU _ _),by simp[convert,run_underlying hs,run_underlying hu,Conv.intToInt,Wr]⟩
  ·rename_i hk;have hu:=hT.string hy hk;obtain⟨rfl,_⟩:=AG hx;obtain⟨⟨h0,h1⟩,h⟩:=h;refine⟨_,_,h,QJ (by simp),?_⟩
   have e:Utf8.encode n=⟨[UInt8.ofNat n.toNat].toArray⟩:=by
    have hv:Utf8.valid n=true:=by simp[Utf8.valid];omega
    unfold Utf8.encode;simp only[hv,if_true];rw[if_pos (by omega)]
   simp[convert,run_underlying hs,run_underlying hu,Conv.intToString,e]
  ·exact h.elim
 |str l=>
  simp only[IG]at h;replace h:=(Ab _ _ _).1 h;obtain⟨y0,sG,h⟩:=h
  replace h:=(Ab _ _ _).1 h;obtain⟨y,hy,h⟩:=h
  obtain⟨i,ys,_,hs,_⟩:=hT.facts sG;split at h
  ·rename_i hk;have hu:=hT.string hy hk;have LB:=hx;obtain⟨rfl,_⟩:=Bt hx;exact⟨_,_,h,LB,by simp[convert,run_underlying hs,run_underlying hu]⟩
  ·exact h.elim
 |_=>exact h.elim
theorem Fk{isS:Bool}{lo hi:Option AV}{ul uh:Option Value}{len cap:Nat}(hl:∀a,lo=some a→∃v,ul=some v∧Aj C w a mu v)(Bq:lo=none→ul=none)
  (hh:∀a,hi=some a→∃v,uh=some v∧Aj C w a mu v) (vM:hi=none→uh=none) {K:Int→Int→Prop} (h:Na lo 0 λa=>Na hi len λb=>K a b):
  ∃a b:Int,K a b∧(0≤a→a≤b→b≤cap→(Instr.sliceBounds isS len cap ul uh none).run P w=.ok (a.toNat,b.toNat,cap) w):=by
 cases lo with
 |none=>
  cases hi with
  |none=>
   obtain rfl:=Bq rfl;obtain rfl:=vM rfl;refine⟨0,len,h,λh1 h2 h3=>?_⟩
   simp[Instr.sliceBounds]
  |some a=>
   obtain rfl:=Bq rfl;obtain⟨v,rfl,hr⟩:=hh a rfl;cases a with
   |int k n=>
    obtain⟨rfl,_⟩:=AG hr;refine⟨0,n,h,λh1 h2 h3=>?_⟩
    simp[Instr.sliceBounds,run_sliceBound,h2,h3]
   |_=>simp[Na]at h
 |some a=>
  obtain⟨v,rfl,hr⟩:=hl a rfl;cases a with
  |int k n=>
   obtain⟨rfl,_⟩:=AG hr;cases hi with
   |none=>
    obtain rfl:=vM rfl;refine⟨n,len,h,λh1 h2 h3=>?_⟩
    simp[Instr.sliceBounds,run_sliceBound,h1,h2]
   |some b=>
    obtain⟨u,rfl,bG⟩:=hh b rfl;cases b with
    |int k2 m=>
     obtain⟨rfl,_⟩:=AG bG;refine⟨n,m,h,λh1 h2 h3=>?_⟩
     have e:(m.toNat:Int)=m:=Int.toNat_of_nonneg (by omega)
     simp[Instr.sliceBounds,run_sliceBound,h1,h2,h3,e,show 0≤m by omega]
    |_=>simp[Na]at h
  |_=>simp[Na]at h
theorem Rows.cut{sz:Nat}{es:List AV}{b o:Nat}(h:Rows C w sz es b o)(i j:Nat):Rows C w sz ((es.take j).drop i) b (o+i*sz):=by
 rw[DJ]at *;intro k hk;have:=h (i+k) (by simp at hk;omega)
 simp only[EM,Ep];rw[show o+i*sz+k*sz=o+(i+k)*sz by rw[C3];omega];exact this
theorem KV(hT:BL P T){t:TypeId}{x:AV}{u:Value}{lo hi:Option AV}{ul uh:Option Value}{K:AV→Prop}(hx:Aj C w x mu u)
  (hl:∀a,lo=some a→∃v,ul=some v∧Aj C w a mu v) (Bq:lo=none→ul=none)
  (hh:∀a,hi=some a→∃v,uh=some v∧Aj C w a mu v) (vM:hi=none→uh=none) (h:Dv T t x lo hi K):
  ∃r z,K r∧Aj C w r mu z∧(Instr.sliceAt t u ul uh none).run P w=.ok z w:=by
 cases x with
 |str l=>
  simp only[Dv]at h;replace h:=(Ab _ _ _).1 h;obtain⟨y,hy,h⟩:=h
  split at h
  ·rename_i hk;have hu:=hT.string hy hk;obtain⟨rfl,hlen⟩:=Bt hx;obtain⟨a,b,⟨⟨h0,h1,h2⟩,h⟩,AZ⟩:=Fk (P:=P) (isS:=false) (cap:=l.length) hl Bq hh vM h;have AZ:=AZ h0 h1 h2;refine⟨_,_,h,QJ (by simp;omega),?_⟩
   have he:(⟨l.toArray⟩:ByteArray).extract a.toNat b.toNat=⟨((l.take b.toNat).drop a.toNat).toArray⟩:=by
    rw[ByteArray.extract_mk,List.drop_take]
   simp[Instr.sliceAt,Instr.slice,run_underlying hu,DZ,AZ,he]
  ·exact h.elim
 |sl sz es=>
  simp only[Dv]at h;replace h:=(Ab _ _ _).1 h;obtain⟨y,hy,h⟩:=h
  split at h
  ·rename_i el Bh by' ag hk
   split at h
   ·rename_i hb;simp only[CW]at hb;obtain rfl:=Ao hb.1;have Mo:=Bv hb.2;obtain⟨hu,hs,_⟩:=hT.slice hy hk;unfold Aj at hx;rcases hx with⟨⟨ad,rfl⟩,rfl⟩|⟨b,o,cap,rfl,h6,h7,h8⟩
    ·obtain⟨a,b,⟨⟨h0,h1,h2⟩,h⟩,AZ⟩:=Fk (P:=P) (isS:=true) (cap:=0) hl Bq hh vM h;have AZ:=AZ h0 h1 h2;simp at h2;obtain rfl:b=0:=by omega
     obtain rfl:a=0:=by omega
     refine⟨_,.slice ad 0 0,h,by unfold Aj;exact .inl ⟨⟨ad,rfl⟩,by simp⟩,?_⟩
     have AZ:(Instr.sliceBounds true 0 0 ul uh none).run P w=.ok (0,0,0) w:=AZ;cases ad<;>simp[Instr.sliceAt,Instr.slice,run_underlying hu,AZ,run_sizeOf hs Mo]
    ·obtain⟨a,b',⟨⟨h0,h1,h2⟩,h⟩,AZ⟩:=Fk (P:=P) (isS:=true) (cap:=cap) hl Bq hh vM h;have AZ:=AZ h0 h1 (by omega)
     by_cases hc:cap=a.toNat
     ·have hz:(es.take b'.toNat).drop a.toNat=[]:=by apply E2;simp;omega
      refine⟨_,.slice (some ⟨b,o,none⟩) (b'.toNat-a.toNat) (cap-a.toNat),h,?_,?_⟩
      ·unfold Aj;refine .inr ⟨b,o,cap-a.toNat,?_,?_,?_,?_⟩
       ·simp[hz];omega
       ·simp[hz]
       ·omega
       ·rw[hz];unfold Rows;trivial
      ·simp[Instr.sliceAt,Instr.slice,run_underlying hu,AZ,run_sizeOf hs Mo,if_pos hc]
     ·refine⟨_,.slice (some ⟨b,o+a.toNat*Bh,none⟩) (b'.toNat-a.toNat) (cap-a.toNat),h,?_,?_⟩
      ·unfold Aj;refine .inr ⟨b,_,cap-a.toNat,?_,?_,?_,h8.cut _ _⟩
       ·simp;omega
       ·simp;omega
       ·omega
      ·simp[Instr.sliceAt,Instr.slice,run_underlying hu,AZ,run_sizeOf hs Mo,hc,add_lit]
   ·exact h.elim
  ·exact h.elim
 |own l sz p n=>
  simp only[Dv]at h;replace h:=(Ab _ _ _).1 h;obtain⟨y,hy,h⟩:=h
  split at h
  ·rename_i el Bh by' ag hk
   split at h
   ·rename_i hb;simp only[CW]at hb;obtain rfl:=Ao hb.1;have Mo:=Bv hb.2;obtain⟨hu,hs,_⟩:=hT.slice hy hk;unfold Aj at hx;obtain⟨x,hm,hle,MA,rfl⟩:=hx;cases x with
    |slice ad N cap=>
     cases ad with
     |none=>
      simp only[Da]at hle;obtain rfl:n=0:=by omega
      obtain rfl:p=0:=by omega
      obtain⟨a,b,⟨⟨h0,h1,h2,_⟩,h⟩,AZ⟩:=Fk (P:=P) (isS:=true) (cap:=0) hl Bq hh vM h;have AZ:=AZ h0 h1 h2;simp at h2;obtain rfl:b=0:=by omega
      obtain rfl:a=0:=by omega
      refine⟨_,.slice none 0 0,h,by unfold Aj;exact⟨_,hm,by simp,MA,by simp[BP]⟩,?_⟩
      have AZ:(Instr.sliceBounds true 0 0 ul uh none).run P w=.ok (0,0,0) w:=AZ;simp[Instr.sliceAt,Instr.slice,BP,run_underlying hu,AZ,run_sizeOf hs Mo]
     |some ad=>
      simp only[Da]at hle MA;simp only[Jx]at MA;obtain⟨a,b,⟨⟨h0,h1,h2,h3⟩,h⟩,AZ⟩:=Fk (P:=P) (isS:=true) (cap:=cap-p) hl Bq hh vM h;have AZ:=AZ h0 h1 (by omega)
      refine⟨_,.slice (some ⟨ad.block,ad.off+(p+a.toNat)*Bh,none⟩) (b.toNat-a.toNat) (cap-(p+a.toNat)),h,?_,?_⟩
      ·unfold Aj
       exact⟨_,hm,by simp only[Da];omega,by simp only[Da,Jx];exact MA,by simp[BP]⟩
      ·have e1:cap-(p+a.toNat)=cap-p-a.toNat:=by omega
       have e2:ad.off+(p+a.toNat)*Bh=ad.off+p*Bh+a.toNat*Bh:=by rw[C3];omega
       by_cases hc:cap-p=a.toNat
       ·have ha:a=0:=by
         rcases h3 with h3|h3;·omega
         ·exact h3
        subst ha
        have yO:cap-p=0:=hc
        have AZ:(Instr.sliceBounds true n (cap-p) ul uh none).run P w=.ok (0,b.toNat,cap-p) w:=AZ
        rw[yO]at AZ
        simp[Instr.sliceAt,Instr.slice,BP,run_underlying hu,AZ,run_sizeOf hs Mo,yO]
       ·simp[Instr.sliceAt,Instr.slice,BP,run_underlying hu,AZ,run_sizeOf hs Mo,hc,add_lit,e1,e2]
    |_=>
     simp only[Da]at hle;obtain rfl:n=0:=by omega
     obtain rfl:p=0:=by omega
     obtain⟨a,b,⟨⟨h0,h1,h2,_⟩,h⟩,AZ⟩:=Fk (P:=P) (isS:=true) (cap:=0) hl Bq hh vM h;have AZ:=AZ h0 h1 h2;simp at h2;obtain rfl:b=0:=by omega
     obtain rfl:a=0:=by omega
     refine⟨_,.slice none 0 0,h,by unfold Aj;exact⟨_,hm,by simp,MA,by simp[BP]⟩,?_⟩
     have AZ:(Instr.sliceBounds true 0 0 ul uh none).run P w=.ok (0,0,0) w:=AZ;simp[Instr.sliceAt,Instr.slice,BP,run_underlying hu,AZ,run_sizeOf hs Mo]
   ·exact h.elim
  ·exact h.elim
 |_=>exact h.elim
theorem BL.map{P:Program}{T:List TY}(h:BL P T){t:TypeId}{y:TY}(e:T[t]?=some y){kt vt:Nat}(hk:y.k=.map kt vt):P.underlying t=some (.map kt vt):=by
 obtain⟨i,d,h1,h2,rfl⟩:=h.facts e;cases d<;>simp_all[kindOf]
def sC(d:TypeDesc)(k:AV):Prop:=(d=.string∧∃s,k=.str s)∨∃i n,d=.int i∧k=.int i n
theorem eW(hT:BL P T){t:TypeId}{y:TY}(e:T[t]?=some y){k:AV}(h:eX y.k k=true):∃d,P.underlying t=some d∧sC d k:=by
 unfold eX at h;split at h
 ·rename_i hk;split at h;·exact⟨_,hT.string e hk,.inl ⟨rfl,_,rfl⟩⟩
  ·cases h
 ·rename_i i hk;split at h
  ·rename_i j n;obtain rfl:=OI h;exact⟨_,hT.int e hk,.inr ⟨_,_,rfl,rfl⟩⟩
  ·cases h
 ·cases h
theorem jM{k a:AV}{kv av:Value}(hl:Ja k a=true)(hk:Aj C w k mu kv)(ha:Aj C w a Mu.none av){d:TypeDesc}(hd:sC d k):
  Instr.sameNow d kv av=some (Nl k a)∧(Nl k a=true→a=k∧av=kv):=by
 rcases hd with⟨rfl,s,rfl⟩|⟨i,n,rfl,rfl⟩
 ·unfold Ja at hl;simp only at hl;split at hl
  ·rename_i q;obtain⟨rfl,_⟩:=Bt hk;obtain⟨rfl,_⟩:=Bt ha;refine⟨?_,λh=>?_⟩
   ·simp only[Instr.sameNow,Nl,Ah.injEq];rw[HW,bytes_beq];simp
   ·simp only[Nl,beq_iff_eq]at h;subst h;exact⟨rfl,rfl⟩
  ·cases hl
 ·unfold Ja at hl;simp only at hl;split at hl
  ·rename_i j m;obtain rfl:=OI hl;obtain⟨rfl,_⟩:=AG hk;obtain⟨rfl,_⟩:=AG ha;refine⟨?_,λh=>?_⟩
   ·simp only[Instr.sameNow,Nl,hl,H4,if_true,Ah.injEq];rfl
   ·simp only[Nl,hl,H4,decide_eq_true_eq]at h;subst h;exact⟨rfl,rfl⟩
  ·cases hl
theorem NA{k:AV}{kv:Value}{d:TypeDesc}(hd:sC d k)(hk:Aj C w k mu kv):∀(ks:List AV)(es:List MapEntry)(i:Nat),(∀a∈ks,Ja k a=true)→Aa C w ks Mu.none (es.map MapEntry.key)→
  Instr.findNow d kv es i=some ((OF k ks).bind λj=>es[j]?.map λe=>(i+j,e.val))∧∀j,OF k ks=some j→∃e,es[j]?=some e∧e.key=kv∧ks[j]?=some k
 |[],es,i,_,hr=>by
  unfold Aa at hr;have:es=[]:=by simpa using hr
  subst this;exact⟨rfl,λj h=>by cases h⟩
 |a::ks,es,i,hl,hr=>by
  unfold Aa at hr;obtain⟨v,BV,he,h2,h3⟩:=hr;cases es with
  |nil=>cases he
  |cons e es=>
   simp only[E0,List.cons.injEq]at he;obtain⟨rfl,rfl⟩:=he;obtain⟨s1,s2⟩:=jM (hl a (by simp)) hk h2 hd
   obtain⟨f1,f2⟩:=NA hd hk ks es (i+1) (λb hb=>hl b (by simp[hb])) h3
   unfold OF;cases hq:Nl k a with
   |true=>
    obtain⟨q1,q2⟩:=s2 hq;rw[hq]at s1;exact⟨by simp[Instr.findNow,s1],λj h=>by simp at h;subst h;exact⟨e,by simp,q2,by simp[q1]⟩⟩
   |false=>
    rw[hq]at s1;refine⟨?_,λj h=>?_⟩
    ·simp only[Instr.findNow,s1,f1,cond_false];cases OF k ks with
     |none=>rfl
     |some j=>simp[Nat.add_assoc,Nat.add_comm 1 j]
    ·cases hm:OF k ks with
     |none=>simp[hm]at h
     |some j'=>
      simp[hm]at h;subst h;obtain⟨e',g1,g2,g3⟩:=f2 j' hm;exact⟨e',by simpa using g1,g2,by simpa using g3⟩
theorem sC.isKey{d:TypeDesc}{k:AV}(hd:sC d k){v:Value}(hk:Aj C w k mu v):IsKey d v:=by
 rcases hd with⟨rfl,s,rfl⟩|⟨i,n,rfl,rfl⟩;·obtain⟨rfl,_⟩:=Bt hk;simp[IsKey]
 ·obtain⟨rfl,_⟩:=AG hk;simp[IsKey]
theorem XM(hh:AX C w fresh mu H){x:AV}{u:Value}(hx:Aj C w x mu u){K:List AV→List AV→Prop}(h:Mj H x K):
  ∃ks vs es,K ks vs∧Aa C w ks Mu.none (es.toList.map MapEntry.key)∧Aa C w vs Mu.none (es.toList.map MapEntry.val)∧((u=.map none∧es=#[])∨∃b clock,u=.map (some b)∧w.heap[b]?=some (.map es clock)):=by
 unfold Mj at h;split at h
 ·unfold Aj at hx;rcases hx with⟨h1,rfl,rfl⟩|⟨b,es,clock,h1,h2,h3,h4,h5⟩;·exact⟨_,_,#[],h,by unfold Aa;rfl,by unfold Aa;rfl,.inl ⟨h1,rfl⟩⟩
  ·exact⟨_,_,es,h,h4,h5.1,.inr ⟨b,clock,h1,h3⟩⟩
 ·rename_i l;replace h:=(Ab _ _ _).1 h;obtain⟨ob,Ba,h⟩:=h
  cases ob<;>first|exact h.elim|skip
  rename_i ks vs;obtain⟨b,es,clock,h1,h2,h3⟩:=hh.maps l ks vs Ba;unfold Aj at hx;obtain⟨b',h4,h5⟩:=hx;rw[h1]at h4;simp only[Ah.injEq,GO.CU.injEq]at h4;subst h4;exact⟨_,_,es,h,(h3.2 _ _).1,(h3.2 _ _).2,.inr ⟨b,clock,h5,h2⟩⟩
 ·exact h.elim
theorem ZK(hT:BL P T)(hh:AX C w fresh mu H){t:TypeId}{x k:AV}{ok:Bool}{u kv:Value}{K:AV→Prop}(hx:Aj C w x mu u)(hk:Aj C w k mu kv)(h:Hw T H t x k ok K):
  ∃r z,K r∧Aj C w r mu z∧(Instr.lookup t u kv ok).run P w=.ok z w:=by
 unfold Hw at h;replace h:=(Ab _ _ _).1 h;obtain⟨y,hy,h⟩:=h
 split at h
 ·rename_i kt vt V5;have hu:=hT.map hy V5;replace h:=(Ab _ _ _).1 h;obtain⟨yk,Zau,h⟩:=h
  split at h
  ·rename_i hko;obtain⟨d,hd,lR⟩:=eW hT Zau hko;obtain⟨ks,vs,es,⟨hl,hn,hs⟩,vJ,La,Y9⟩:=XM hh hx h;obtain⟨f1,f2⟩:=NA lR hk ks es.toList 0 hl vJ;have qF:(Instr.checkKey es.isEmpty 10000 kt kv).run P w=.ok () w:=run_checkKey (P:=P) (w:=w) hd (lR.isKey hk) es.isEmpty 9999;have fG:=run_findKey (w:=w) hd f1
   have AZ:(Instr.lookup t u kv ok).run P w=((do
     let (v,ok') ←match ←Instr.findKey kt kv es.toList with
      |some (_,v)=>pure (v,true)
      |none=>pure (←zeroValue vt,false)
     pure (if ok then Value.tuple #[v,.bool ok']else v):Sem Value)).run P w:=by
    rcases Y9 with⟨rfl,rfl⟩|⟨b,clock,rfl,hb⟩
    ·simp only[Instr.lookup,Cu,run_underlying hu,C1,Fv];rw[qF];rfl
    ·simp only[Instr.lookup,Cu,run_underlying hu,C1,Go.MapKept.run_getObj_map hb,Fv];rw[qF];rfl
   have MB:=Ar _ vJ;have V7:=Ar _ La;simp only[List.length_map]at MB V7;cases hm:OF k ks with
   |none=>
    rw[hm]at fG;simp only[Option.bind_none]at fG;have hn:=hn (by simp[OG,hm])
    obtain⟨r,z,h1,h2,h3⟩:=WH (C:=C) (w:=w) (mu:=mu) hT hn;cases ok with
    |true=>exact⟨_,.tuple #[z,.bool false],h1,by unfold Aj;exact⟨[z,.bool false],rfl,by unfold Aa;exact⟨_,_,rfl,h2,by unfold Aa;exact⟨_,_,rfl,Gt,by unfold Aa;rfl⟩⟩⟩,by rw[AZ];simp[fG,h3]⟩
    |false=>exact⟨_,z,(AV.AK _ _).1 h1,h2,by rw[AZ];simp[fG,h3]⟩
   |some j=>
    rw[hm]at fG;obtain⟨e,g1,g2,g3⟩:=f2 j hm;have U0:j<es.toList.length:=(Bj.1 g1).1;simp only[Option.bind_some,g1,Ec]at fG;have hvj:j<vs.length:=by omega
    have h1:=hs vs[j] (by simp[OG,hm,hvj])
    have h2:=((AI _).1 La).2 j hvj (by simp;omega)
    have hej:(es.toList.map MapEntry.val)[j]'(by simp;omega)=e.val:=by
     rw[Hp];have:=(Bj.1 g1).2;rw[this]
    rw[hej]at h2;have h2:=Aj.mono (Ext.refl _ _) _ (Ay.none mu) h2;cases ok with
    |true=>exact⟨_,.tuple #[e.val,.bool true],h1,by unfold Aj;exact⟨[e.val,.bool true],rfl,by unfold Aa;exact⟨_,_,rfl,h2,by unfold Aa;exact⟨_,_,rfl,Gt,by unfold Aa;rfl⟩⟩⟩,by rw[AZ];simp[fG]⟩
    |false=>exact⟨_,e.val,h1,h2,by rw[AZ];simp[fG]⟩
  ·exact h.elim
 ·exact h.elim
end
section
variable {P:Program}{C:Ag}{w:World}{mu:Mu}{fresh:Nat→Prop}{H:List HO}{T:List TY}
theorem dC{op:BinOp}{t:TypeId}{xo yo:Operand}{x y:AV}{u v:Value}{K:AV→Prop}(hT:BL P T)(hx:Aj C w x mu u)(hy:Aj C w y mu v)(h:Mt T op t x y K):
  (eqGuard op t xo yo u v).run P w=.ok () w:=by
 unfold Mt at h;split at h
 ·obtain⟨rfl,_⟩:=AG hx;unfold eqGuard;split<;>simp
 ·obtain rfl:=Bf hx;unfold eqGuard;split<;>simp
 ·obtain rfl:=Bl hx;unfold eqGuard;split<;>simp
 ·obtain⟨rfl,_⟩:=Bt hx;unfold eqGuard;split<;>simp
 ·split at h
  ·unfold Aj at hx hy;obtain⟨us,rfl,hx⟩:=hx;obtain⟨vs,rfl,hy⟩:=hy;exact run_eqGuard_agg w op t xo yo _ _ (YZ hT hx hy h).1
  ·exact h.elim
 ·exact h.elim
theorem Zbs(d:Nat)(t:TypeId){ms:Array (String×TypeId)}(h:P.underlying t=some (.interface ms)):(CM (d+1) t .nilIface .nilIface).run P w=.ok true w:=by
 simp[CM,run_underlying h]
theorem Zbt(d:Nat)(t u:TypeId)(x:Value){ms:Array (String×TypeId)}(h:P.underlying t=some (.interface ms)):(CM (d+1) t .nilIface (.iface u x)).run P w=.ok false w:=by
 simp[CM,run_underlying h]
theorem Zbu(d:Nat)(t u:TypeId)(x:Value){ms:Array (String×TypeId)}(h:P.underlying t=some (.interface ms)):(CM (d+1) t (.iface u x) .nilIface).run P w=.ok false w:=by
 simp[CM,run_underlying h]
theorem cG{op:BinOp}{t:TypeId}{c:Value}{y:Operand}:(eqGuard op t (.const c) y .nilIface .nilIface).run P w=.ok () w:=by
 cases op<;>simp[eqGuard]
theorem cF{op:BinOp}{t:TypeId}{c:Value}{x:Operand}:(eqGuard op t x (.const c) .nilIface .nilIface).run P w=.ok () w:=by
 cases op<;>cases x<;>simp[eqGuard]
theorem Zbv{op:BinOp}{t u:TypeId}{c:Value}{x y:Operand}:(eqGuard op t x y .nilIface (.iface u c)).run P w=.ok () w:=by
 cases op<;>simp[eqGuard]
theorem Zbw{op:BinOp}{t u:TypeId}{c:Value}{x y:Operand}:(eqGuard op t x y (.iface u c) .nilIface).run P w=.ok () w:=by
 cases op<;>simp[eqGuard]
theorem Vy{op:BinOp}{t:TypeId}{u v:Value}{r:Bool}{K:AV→Prop}(hT:BL P T)(h:X8 T op t r K)(hn:∀(d:Nat)(ms:Array (String×TypeId)),P.underlying t=some (.interface ms)→(CM (d+1) t u v).run P w=.ok r w)
  (he:binOp .eql t u v=(do pure (.bool (←H2 t u v)))) (qB:binOp .neq t u v=(do pure (.bool (!(←H2 t u v))))):
  ∃r z,K r∧Aj C w r mu z∧(binOp op t u v).run P w=.ok z w:=by
 unfold X8 at h;replace h:=(Ab _ _ _).1 h;obtain⟨y,hy,h⟩:=h
 obtain⟨i,d,hi,hd,TM⟩:=hT.facts hy;subst TM;simp only at h;cases d<;>first|exact h.elim|skip
 rename_i ms;have hq:(H2 t u v).run P w=.ok r w:=hn 9999 ms hd;simp only[kindOf]at h;cases op<;>simp only[]at h<;>first|exact h.elim|skip
 ·rw[he];cases r with
  |true=>exact⟨_,_,h,(by unfold Aj;rfl:Aj C w (.lit true) mu (.bool true)),by simp only[Cu,hq];rfl⟩
  |false=>exact⟨_,_,h,(by unfold Aj;rfl:Aj C w (.lit false) mu (.bool false)),by simp only[Cu,hq];rfl⟩
 ·rw[qB];cases r with
  |true=>exact⟨_,_,h,(by unfold Aj;rfl:Aj C w (.lit false) mu (.bool false)),by simp only[Cu,hq];rfl⟩
  |false=>exact⟨_,_,h,(by unfold Aj;rfl:Aj C w (.lit true) mu (.bool true)),by simp only[Cu,hq];rfl⟩
theorem tL{op:BinOp}{t:TypeId}{xo yo:Operand}{x y:AV}{u v:Value}{c:Bool}{K:AV→Prop}(hT:BL P T)(hx:Aj C w x mu u)(hy:Aj C w y mu v)(hc:c=true→uW xo=true∨uW yo=true)(h:jD T op t x y c K):
  (eqGuard op t xo yo u v).run P w=.ok () w∧∃r z,K r∧Aj C w r mu z∧(binOp op t u v).run P w=.ok z w:=by
 unfold jD at h;split at h
 ·split at h
  ·split at h
   ·unfold Aj at hx hy;obtain⟨y',rfl,_⟩:=hx;subst hy;exact⟨Zbw,Vy hT h (λd ms Kl=>Zbu d _ _ _ Kl) rfl rfl⟩
   ·exact h.elim
  ·exact h.elim
 ·split at h
  ·split at h
   ·split at h
    ·split at h
     ·unfold Aj at hx hy;subst hx;subst hy
      refine⟨?_,Vy hT h (λd ms Kl=>Zbs d _ Kl) rfl rfl⟩
      rcases hc rfl with k|k;·cases xo<;>first|exact cG|cases k
      ·cases yo<;>first|exact cF|cases k
     ·exact h.elim
    ·exact h.elim
   ·unfold Aj at hx hy;obtain⟨y',rfl,_⟩:=hy;subst hx;exact⟨Zbv,Vy hT h (λd ms Kl=>Zbt d _ _ _ Kl) rfl rfl⟩
   ·exact h.elim
  ·exact h.elim
 ·exact⟨dC hT hx hy h,tN hT hx hy h⟩
theorem tM{ts:Array TypeId}{ty:TypeId}{x y:AV}{u v:Value}{K:AV→Prop}(hx:Aj C w x mu u)(hy:Aj C w y mu v)(h:aP x y K):∃r z,K r∧Aj C w r mu z∧(I0 ts ty #[u,v]).run P w=.ok z w:=by
 cases x<;>first|exact h.elim|skip
 rename_i k m;cases y<;>first|exact h.elim|skip
 rename_i k' n;simp only[aP]at h;split at h
 ·rename_i hk;obtain rfl:=OI hk;obtain⟨rfl,h1⟩:=AG hx;obtain⟨rfl,h2⟩:=AG hy;have e:(if n<m then n else m)=min m n:=by omega
  refine⟨_,_,h,B8 ?_,by simp[I0,Builtin.min2,←e]⟩
  rcases Int.le_total m n with q|q;·rw[Int.min_eq_left q];exact h1
  ·rw[Int.min_eq_right q];exact h2
 ·exact h.elim
theorem K7{E:List AV}{a:Act}(he:Aa C w E mu a.tmps.toList):∀(l:List Operand),Aa C w (l.map (AM E)) mu (l.map a.eval)
 |[]=>by simp[Aa]
 |o::l=>by simp only[E0];unfold Aa;exact⟨_,_,rfl,AT he o,K7 he l⟩
theorem Mc(hT:BL P T)(hh:AX C w fresh mu H){E:List AV}{a:Act}(he:Aa C w E mu a.tmps.toList){o:Oper}{K:AV→Prop}(h:Bg T E H o.op K):
  ∃r v,K r∧Aj C w r mu v∧(execOp a.eval o).run P w=.ok (.value v) w:=by
 have ev:=λo=>AT he o
 unfold Bg at h;unfold execOp;split at h;case h_1 x ho=>rw[Af]at h;exact⟨_,_,h,ev x,by simp[ho]⟩
 case h_2 x ho=>rw[Af]at h;exact⟨_,_,h,ev x,by simp[ho]⟩
 case h_3 c x y ho=>
  rw[Af]at h;have hc:=ev c;split at h
  ·rename_i t hb;rw[hb]at hc;have hc:=Bl hc;cases t with
   |true=>simp only at h;rw[Af]at h;exact⟨_,_,h,ev x,by simp[ho,hc,asBool]⟩
   |false=>simp only at h;rw[Af]at h;exact⟨_,_,h,ev y,by simp[ho,hc,asBool]⟩
  ·exact h.elim
 case h_4 op t x y ty ho=>
  rw[Af,Af]at h;obtain⟨h0,r,z,h1,h2,h3⟩:=tL (xo:=x) (yo:=y) hT (ev x) (ev y) (λhc=>by simpa using hc) h
  exact⟨r,z,h1,h2,by simp[ho,h3,h0]⟩
 case h_5 op t x ho=>
  rw[Af]at h;obtain⟨r,z,h1,h2,h3⟩:=zU (P:=P) (ev x) h;exact⟨r,z,h1,h2,by simp[ho,h3]⟩
 case h_6 t x ho=>
  rw[Af]at h;obtain⟨r,z,h1,h2,h3⟩:=Oa hT hh (ev x) h;exact⟨r,z,h1,h2,by simp[ho,h3]⟩
 case h_7 t x f ho=>
  rw[Af]at h;obtain⟨r,z,h1,h2,h3⟩:=TB hT (ev x) h;exact⟨r,z,h1,h2,by simp[ho,h3]⟩
 case h_8 t x f ho=>
  rw[Af]at h;obtain⟨r,z,h1,h2,h3⟩:=iG hT (ev x) h;exact⟨r,z,h1,h2,by simp[ho,h3]⟩
 case h_9 t x i ho=>
  rw[Af,Af]at h;obtain⟨r,z,h1,h2,h3⟩:=TA hT hh (ev x) (ev i) h;exact⟨r,z,h1,h2,by simp[ho,h3]⟩
 case h_10 t x i ho=>
  rw[Af,Af]at h;obtain⟨r,z,h1,h2,h3⟩:=iF hT (ev x) (ev i) h;exact⟨r,z,h1,h2,by simp[ho,h3]⟩
 case h_11 s d x ho=>
  rw[Af]at h;obtain⟨r,z,h1,h2,h3⟩:=Rn hT (ev x) h;exact⟨r,z,h1,h2,by simp[ho,h3]⟩
 case h_12 x i ho=>
  rw[Af]at h;have hx:=ev x;split at h
  ·rename_i vs hb;rw[hb]at hx;replace h:=(Ab _ _ _).1 h;obtain⟨v,hv,h⟩:=h
   rw[AV.AK]at h;unfold Aj at hx;obtain⟨us,hu,hr⟩:=hx;obtain⟨hl,hg⟩:=(AI _).1 hr;obtain⟨hi,Tl⟩:=Bj.1 hv;have:=hg i hi (by omega)
   rw[Tl]at this;exact⟨v,_,h,this,by simp[ho,hu,Instr.extract,show i<us.length by omega]⟩
  ·exact h.elim
 case h_13 x ho=>
  rw[Af]at h;have hx:=ev x;generalize jZ:AM E x=ex at h hx;cases ex with
  |at_ cs=>
   have LB:=hx;unfold Aj at hx;obtain⟨b,o,hp,_⟩:=hx
   exact⟨_,_,h,LB,by simp[ho,hp]⟩
  |ptr l o=>
   have LB:=hx;unfold Aj at hx;obtain⟨b,_,hp⟩:=hx
   exact⟨_,_,h,LB,by simp[ho,hp]⟩
  |el l sz i o=>
   have LB:=hx;unfold Aj at hx;obtain⟨b,_,_,_,hp⟩:=hx
   exact⟨_,_,h,LB,by simp[ho,hp]⟩
  |fn f cap=>
   have LB:=hx;unfold Aj at hx;obtain⟨vs,hp,_⟩:=hx
   exact⟨_,_,h,LB,by simp[ho,hp]⟩
  |mv f cap=>
   have LB:=hx;unfold Aj at hx;obtain⟨vs,hp,_⟩:=hx
   exact⟨_,_,h,LB,by simp[ho,hp]⟩
  |raw v=>
   simp only at h;split at h;case h_2=>exact h.elim
   split at h;case h_2=>exact h.elim
   have LB:=hx;unfold Aj at hx;exact⟨_,_,h,LB,by simp[ho,hx]⟩
  |_=>exact h.elim
 case h_14 fn first cap ho=>
  split at h
  ·rename_i f;split at h
   ·rename_i hf;rw[C9 (Dc E) (AM E) (Af E)]at h
    have h1:first=#[]:=by
     cases first;simp_all
    subst h1;refine⟨_,.func (.func f) #[] (cap.toList.map a.eval).toArray,h,?_,?_⟩;·unfold Aj;exact⟨_,rfl,K7 he _⟩
    ·cases cap;simp[ho,Instr.makeFunc]
   ·split at h
    ·rename_i hc;rw[C9 (Dc E) (AM E) (Af E)]at h
     have h1:cap=#[]:=by
      cases cap;simp_all
     subst h1;refine⟨_,.func (.func f) (first.toList.map a.eval).toArray #[],h,?_,?_⟩
     ·unfold Aj;exact⟨_,rfl,K7 he _⟩
     ·cases first;simp[ho,Instr.makeFunc]
    ·exact h.elim
  ·exact h.elim
 case h_15 t x ho=>
  rw[Af]at h;replace h:=(Ab _ _ _).1 h;obtain⟨y,hy,h⟩:=h
  obtain⟨i,d,hi,hd,rfl⟩:=hT.facts hy;refine⟨.iface t (AM E x),.iface t (a.eval x),?_,by unfold Aj;exact⟨_,rfl,ev x⟩,?_⟩
  ·split at h;·exact h.elim
   ·exact h
  ·have:∀ms,d≠.interface ms:=by
    intro ms hm;subst hm;simp[kindOf]at h
   cases d<;>simp_all[Instr.makeInterface,run_underlying hd]
 case h_16 t x lo hi mx ho=>
  split at h
  ·rw[Af]at h
   have ev':∀(o:Operand)(a':AV),(some (AM E o))=some a'→∃v,some (a.eval o)=some v∧Aj C w a' mu v:=λo a' e=>by
    simp only[Ah.injEq]at e;subst e;exact⟨_,rfl,ev o⟩
   cases lo with
   |none=>
    cases hi with
    |none=>
     obtain⟨r,z,h1,h2,h3⟩:=KV (ul:=none) (uh:=none) hT (ev x) (by simp) (by simp) (by simp) (by simp) h
     exact⟨r,z,h1,h2,by simp[ho,h3]⟩
    |some q=>
     simp only at h;rw[Af]at h;obtain⟨r,z,h1,h2,h3⟩:=KV (ul:=none) (uh:=some (a.eval q)) hT (ev x) (by simp) (by simp) (ev' q) (by simp) h
     exact⟨r,z,h1,h2,by simp[ho,h3]⟩
   |some p=>
    cases hi with
    |none=>
     simp only at h;rw[Af]at h;obtain⟨r,z,h1,h2,h3⟩:=KV (ul:=some (a.eval p)) (uh:=none) hT (ev x) (ev' p) (by simp) (by simp) (by simp) h
     exact⟨r,z,h1,h2,by simp[ho,h3]⟩
    |some q=>
     simp only at h;rw[Af,Af]at h;obtain⟨r,z,h1,h2,h3⟩:=KV (ul:=some (a.eval p)) (uh:=some (a.eval q)) hT (ev x) (ev' p) (by simp) (ev' q) (by simp) h
     exact⟨r,z,h1,h2,by simp[ho,h3]⟩
  ·exact h.elim
 case h_17 c ho=>
  split at h
  ·rename_i hc;split at h
   ·rename_i x hx;split at h
    ·rename_i t ht;rw[Af]at h;obtain⟨Zf,args,II⟩:=c;simp only at hc hx ht;subst hc;obtain rfl:args=#[x]:=by cases args;simp_all
     obtain rfl:II=#[t]:=by cases II;simp_all
     obtain⟨r,z,h1,h2,h3⟩:=QI (ty:=o.type) hT (ev x) h;exact⟨r,z,h1,h2,by simp[ho,resolve,invoke,builtin,h3]⟩
    ·exact h.elim
   ·exact h.elim
  ·rename_i hc;split at h
   ·rename_i x y hx;rw[Af,Af]at h;obtain⟨Zf,args,II⟩:=c;simp only at hc hx;subst hc;obtain rfl:args=#[x,y]:=by cases args;simp_all
    obtain⟨r,z,h1,h2,h3⟩:=tM (P:=P) (w:=w) (ts:=II) (ty:=o.type) (ev x) (ev y) h;exact⟨r,z,h1,h2,by simp[ho,resolve,invoke,builtin,h3]⟩
   ·exact h.elim
  ·exact h.elim
 case h_18 t x i ok ho=>
  rw[Af,Af]at h;obtain⟨r,z,h1,h2,h3⟩:=ZK hT hh (ev x) (ev i) h;exact⟨r,z,h1,h2,by simp[ho,h3]⟩
 case h_19=>exact h.elim
end
def Tr(s:Option Nat)(H:List HO)(ob:HO)(K:List HO→Nat→Prop):Prop:=
 match s with
 |none=>W6 H ob K
 |some n=>B6 H n λo=>match o with|.dead=>EK H n ob λH'=>K H' n|_=>False
structure Al(H:List HO)(n:Nat)(H':List HO)(ob:HO):Prop where
 len:H.length≤H'.length
 lt:n<H'.length
 get:H'[n]?=some ob
 other:∀i,i≠n→H'[i]?=H[i]?
 free:H[n]?=none∨H[n]?=some .dead
theorem O7{s:Option Nat}{H:List HO}{ob:HO}{K:List HO→Nat→Prop}(h:Tr s H ob K):∃H' n,Al H n H' ob∧K H' n:=by
 unfold Tr at h;split at h
 ·rw[GD]at h;refine⟨_,_,⟨by simp,by simp,by simp,λi hi=>?_,.inl (by simp)⟩,h⟩
  rw[List.getElem?_append];split;·rfl
  ·rw[D0 (by simp;omega),D0 (by omega)]
 ·rename_i n;replace h:=(Ab _ _ _).1 h;obtain⟨o,ho,h⟩:=h
  split at h
  ·rw[AD]at h;have hl:=(Bj.1 ho).1;exact⟨_,n,⟨by simp,by simpa using hl,by simp[hl],λi hi=>Fy (Ne.symm hi),.inr ho⟩,h⟩
  ·exact h.elim
section
variable {G:Cx}{C:Ag}{w:World}{mu:Mu}{H:List HO}{E:List AV}{a:Act}
def Mu.set(mu:Mu)(l:Nat)(g:Option GO):Mu:=λi=>if i=l then g else mu i
theorem Mu.Au(mu:Mu)(l:Nat)(g:Option GO):mu.set l g l=g:=by simp[Mu.set]
theorem Mu.AB(mu:Mu){l i:Nat}(g:Option GO)(h:i≠l):mu.set l g i=mu i:=by simp[Mu.set,h]
theorem Nf{mu:Mu}{l:Nat}(g:Option GO)(h:mu l=none):Ay mu (mu.set l g):=λi x e=>by
 by_cases hi:i=l;·subst hi;rw[h]at e;cases e
 ·rw[Mu.AB _ _ hi];exact e
theorem DV{mu mu':Mu}(h:∀l b,mu l=some (.CU b)→mu' l=some (.CU b)):Ay (Bb mu) (Bb mu'):=λl g e=>by
 unfold Bb at*;split at e;·rename_i b hb;rw[h l b hb];exact e
 ·cases e
theorem IF(AR:∀b o,C b o→b<w.heap.size)(o:Obj):Ext C C w (w.alloc o):=
 ⟨λ_ _ h=>h,λb i hc=>heap_alloc_old _ _ (AR b i hc)⟩
theorem Hg:Ext C C w w.drew:=⟨λ_ _ h=>h,λ_ _ _=>rfl⟩
theorem FA{g:Nat}(hg:∀o,¬C g o)(cs:Array Value):Ext C C w (w.setRow g cs):=
 ⟨λ_ _ h=>h,λb i hc=>setRow_other _ _ _ _ (by rintro rfl;exact hg _ hc)⟩
theorem Jl.alloc(h:Jl G w)(o:Obj):Jl G (w.alloc o):=
 ⟨h.os,h.tape,h.output,by simp;have:=h.size;omega,λk hk hm=>(heap_alloc_old w o (by have:=h.size;omega)).trans (h.block k hk hm)⟩
theorem Jl.drew(h:Jl G w):Jl G w.drew:=⟨h.os,h.tape,h.output,h.size,h.block⟩
theorem Jl.setRow(h:Jl G w){g:Nat}(hg:G.fresh g)(cs:Array Value):Jl G (w.setRow g cs):=
 ⟨h.os,h.tape,h.output,by simp;exact h.size,λk hk hm=>by
  rw[setRow_other]
  ·exact h.block k hk hm
  ·intro e;subst e;rcases hg with hg|hg
   ·omega
   ·exact hm hg⟩
@[simp] def HO.real:HO→Bool
 |.cells _=>true
 |.arr _ _ _=>true
 |.map _ _=>true
 |_=>false
theorem HO.UC{ob:HO}(h:ob.real=true):ob≠.dead:=by rintro rfl;cases h
theorem HO.RB{ob:HO}(h:ob.real=true){cs vs ms}:ob≠.ghost cs vs ms:=by rintro rfl;cases h
theorem HO.Xp{ob:HO}(h:ob.real=true){I}:ob≠.inv I:=by rintro rfl;cases h
theorem Ck.step{C C':Ag}{w w':World}{fr:Nat→Prop}{mu mu':Mu}{D:Nat×Obj}(h:Ck C w fr mu D)
  (hw:KH (λb=>b<w.heap.size∧∀l g,mu l=some g→g.As≠some b) w w')
  (hm:∀l g b,mu' l=some g→g.As=some b→(∃l' g',mu l'=some g'∧g'.As=some b)∨w.heap.size≤b)
  (hc:∀b o,C' b o→C b o∨w.heap.size≤b∨∃l g,mu l=some g∧g.As=some b):Ck C' w' fr mu' D:=by
 have AR:=(Ed.1 h.at_).1;refine⟨by rw[hw.block D.1 ⟨AR,h.own⟩];exact h.at_,λo qG=>?_,λl g hl hg=>?_,h.fr⟩
 ·rcases hc D.1 o qG with k|k|⟨l',g',k1,k2⟩;·exact h.Gy o k
  ·omega
  ·exact h.own l' g' k1 k2
 ·rcases hm l g D.1 hl hg with⟨l',g',k1,k2⟩|k;·exact h.own l' g' k1 k2
  ·omega
theorem Br.step{C C':Ag}{w w':World}{mu mu':Mu}{H H':List HO}{ds:List (Nat×Obj)}{fr:Nat→Prop}(h:Br C w fr mu H ds)
  (hw:KH (λb=>b<w.heap.size∧∀l g,mu l=some g→g.As≠some b) w w')
  (hm:∀l g b,mu' l=some g→g.As=some b→(∃l' g',mu l'=some g'∧g'.As=some b)∨w.heap.size≤b)
  (hc:∀b o,C' b o→C b o∨w.heap.size≤b∨∃l g,mu l=some g∧g.As=some b)
  (hH:∀(l:Nat) cs vs ms,H'[l]?=some (.ghost cs vs ms)→∃E9,H[l]?=some (.ghost E9 vs ms)∧(Aa C w E9 mu vs→Aa C' w' cs mu' vs))
  (hI:∀(l:Nat) I,H'[l]?=some (.inv I)→H[l]?=some (.inv I)):Br C' w' fr mu' H' ds:=by
 refine⟨λl cs vs ms hl=>?_,λl I hl=>?_,λd hd=>(h.marks d hd).step hw hm hc,h.nd,λl l' cs vs ms cs' BV Ds hl Bq Bu=>?_⟩
 ·obtain⟨E9,h1,h2⟩:=hH l cs vs ms hl;obtain⟨h3,h5,h4⟩:=h.Bc l E9 vs ms h1;exact⟨h2 h3,h5,λd hd=>⟨(h4 d hd).1.step hw hm hc,(h4 d hd).2⟩⟩
 ·obtain⟨h0,Sw,Sr,h1,h2,h3,h4⟩:=h.Gx l I (hI l I hl);refine⟨h0,Sw,Sr,⟨h1.fr,Fx h1.base hw.size,λb o qG=>?_,λl g b hl hg=>?_,h1.sub,λb hb=>Nat.lt_of_lt_of_le (h1.lt b hb) hw.size,λb hb l g hl hg=>?_,λb o hb qG=>?_⟩,I.LW Sw Sr w w' h2 ⟨hw.os,hw.tape,hw.output,hw.size,λb hb=>hw.block b ⟨h1.lt b hb,h1.own b hb⟩⟩,h3,λl cs vs ms hl D hD=>?_⟩
  ·rcases hc b o qG with k|k|⟨l',g',k1,k2⟩;·exact h1.cb b o k
   ·exact .inr (Fx h1.base k)
   ·exact .inr (h1.ob l' g' b k1 k2)
  ·rcases hm l g b hl hg with⟨l',g',k1,k2⟩|k;·exact h1.ob l' g' b k1 k2
   ·exact Fx h1.base k
  ·rcases hm l g b hl hg with⟨l',g',k1,k2⟩|k;·exact h1.own b hb l' g' k1 k2
   ·exact absurd (h1.lt b hb) (by omega)
  ·rcases hc b o qG with k|k|⟨l',g',k1,k2⟩;·exact h1.Gy b o hb k
   ·exact absurd (h1.lt b (h1.sub b hb)) (by omega)
   ·exact h1.own b (h1.sub b hb) l' g' k1 k2
  ·obtain⟨E9,k1,_⟩:=hH l cs vs ms hl;exact h4 l E9 vs ms k1 D hD
 ·obtain⟨E9,k1,_⟩:=hH l cs vs ms hl;obtain⟨cs1,k2,_⟩:=hH l' cs' BV Ds Bq;exact h.sep l l' E9 vs ms cs1 BV Ds k1 k2 Bu
theorem GY{S:Nat→Prop}(hS:∀b,S b→b<w.heap.size)(o:Obj):KH S w (w.alloc o):=⟨rfl,rfl,rfl,by simp,λb hb=>heap_alloc_old w o (hS b hb)⟩
theorem Ph{S:Nat→Prop}{g:Nat}(hS:¬S g)(cs:Array Value):KH S w (w.setRow g cs):=⟨rfl,rfl,rfl,by simp,λb hb=>setRow_other _ _ _ _ (λe=>hS (by subst e;exact hb))⟩
theorem Az.drew(h:Az G C mu E H a w):Az G C mu E H a w.drew:=
 ⟨h.c0,h.c1,h.lt,⟨h.heap.HH,h.heap.fresh,h.heap.sep,h.heap.dead,
  λl cs hl=>let ⟨b,cur,e,h1,h2,h3,h4⟩:=h.heap.Cm l cs hl;⟨b,cur,e,h1,h2,Aa.mono Hg _ (Ay.refl _) h3,h4⟩,
  λl e sz es hl=>let ⟨h1,h2⟩:=h.heap.BJ l e sz es hl
   ⟨h1,h2.imp id λ⟨b,cap,cur,k1,k2,k3,k4,k5,k6,k7⟩=>⟨b,cap,cur,k1,k2,k3,k4,k5,Aa.mono Hg _ (Ay.refl _) k6,k7⟩⟩,h.heap.maps⟩,
  Aa.mono Hg _ (Ay.refl _) h.env,
  let ⟨ms,k1,k2⟩:=h.defers
  ⟨ms,k1,k2.step ⟨rfl,rfl,rfl,Nat.le_refl _,λ_ _=>rfl⟩ (λl g b hm hb=>.inl ⟨l,g,hm,hb⟩) (λ_ _ h=>.inl h) (λl cs vs ms hl=>⟨cs,hl,Aa.mono Hg _ (Ay.refl _)⟩) (λ_ _ h=>h)⟩,h.Aq.drew,h.CA⟩
theorem Az.frame(h:Az G C mu E H a w){E':List AV}{a':Act}(he:Aa C w E' mu a'.tmps.toList)(hd:a'.defers=a.defers):Az G C mu E' H a' w:=
 ⟨h.c0,h.c1,h.lt,h.heap,he,by rw[hd];exact h.defers,h.Aq,h.CA⟩
theorem Az.alloc(h:Az G C mu E H a w)(o:Obj)(ob:HO){n:Nat}{H':List HO}(EN:Al H n H' ob)(g:GO)(hg:∀b,g.As=some b→b=w.heap.size)(hd:ob.real=true)
  (bS:∀cs,ob=.cells cs→∃cur e,g=.CU w.heap.size∧o=.cells cur e (0,0)∧Aa C w cs mu cur.toList∧∀v∈cur.toList,v.oneCell'=true)
  (JG:∀e sz es,ob=.arr e sz es→(∀a∈es,a.cells.length=sz)∧∃cap cur,g=.arr (.slice (some ⟨w.heap.size,0,none⟩) es.length cap)∧
   (∃fz,o=.cells cur e fz∧T4 cur fz)∧es.length≤cap∧cap≤9223372036854775807∧cur.size=cap*sz∧Aa C w (flat es) (Bb mu) (cur.toList.take (es.length*sz))∧∀v∈cur.toList,v.oneCell'=true)
  (Zfl:∀ks vs,ob=.map ks vs→∃es clock,g=.CU w.heap.size∧o=.map es clock∧ZbF ks vs es.toList clock:=by simp):
  Az G C (mu.set n (some g)) E H' a (w.alloc o):=by
 have Sy:mu n=none:=by
  rcases EN.free with hf|hf
  ·cases hm:mu n with
   |none=>rfl
   |some x=>exact absurd (h.heap.HH _ _ hm) (by have:=List.getElem?_eq_none_iff.1 hf;omega)
  ·exact h.heap.dead n hf
 have hle:=Nf (mu:=mu) (l:=n) (some g) Sy;have hx:=IF (C:=C) (w:=w) h.lt o;have JF:∀{g':GO}{l b},mu l=some g'→g'.As=some b→b<w.heap.size:=λhm hb=>(h.heap.fresh _ _ _ hm hb).2.1
 have hblk:Ay (Bb mu) (Bb (mu.set n (some g))):=DV λl b e=>hle l _ e
 refine⟨h.c0,h.c1,λb o hc=>by have:=h.lt b o hc;simp;omega,⟨?_,?_,?_,?_,?_,?_,?_⟩,Aa.mono hx _ hle h.env,?_,h.Aq.alloc o,Fx h.CA.1 EN.len,λi b hn hi=>hle i _ (h.CA.2 i b hn hi)⟩
 rotate_right
 ·obtain⟨ms,k1,k2⟩:=h.defers;refine⟨ms,k1,k2.step (GY (λb hb=>hb.1) o) (λl g' b hm hb=>?_) (λ_ _ h=>.inl h) (λl cs vs ms hl=>?_) (λl I hl=>?_)⟩
  ·by_cases e:l=n
   ·subst e;rw[Mu.Au]at hm;simp only[Ah.injEq]at hm;subst hm;exact .inr (Nat.le_of_eq (hg b hb).symm)
   ·rw[Mu.AB _ _ e]at hm;exact .inl ⟨l,g',hm,hb⟩
  ·by_cases e:l=n;·subst e;rw[EN.get]at hl;simp only[Ah.injEq]at hl;exact absurd hl (HO.RB hd)
   ·rw[EN.other l e]at hl;exact⟨cs,hl,Aa.mono hx _ hle⟩
  ·by_cases e:l=n;·subst e;rw[EN.get]at hl;simp only[Ah.injEq]at hl;exact absurd hl (HO.Xp hd)
   ·rw[EN.other l e]at hl;exact hl
 ·intro l x hl;by_cases e:l=n;·subst e;exact EN.lt
  ·rw[Mu.AB _ _ e]at hl;have:=h.heap.HH _ _ hl;have:=EN.len;omega
 ·intro l x b hl hb;by_cases e:l=n
  ·subst e;rw[Mu.Au]at hl;simp only[Ah.injEq]at hl;subst hl;obtain rfl:=hg b hb;exact⟨.inl h.Aq.size,by simp,λo hc=>absurd (h.lt _ _ hc) (by omega)⟩
  ·rw[Mu.AB _ _ e]at hl;obtain⟨k1,k2,k3⟩:=h.heap.fresh _ _ _ hl hb;exact⟨k1,by simp;omega,k3⟩
 ·intro l x b l' x' hl hb Bq LG;by_cases e:l=n
  ·by_cases e':l'=n;·omega
   ·exfalso;subst e;rw[Mu.Au]at hl;simp only[Ah.injEq]at hl;subst hl;obtain rfl:=hg b hb;rw[Mu.AB _ _ e']at Bq;have:=JF Bq LG;omega
  ·rw[Mu.AB _ _ e]at hl;by_cases e':l'=n
   ·exfalso;subst e';rw[Mu.Au]at Bq;simp only[Ah.injEq]at Bq;subst Bq;obtain rfl:=hg b LG;have:=JF hl hb;omega
   ·rw[Mu.AB _ _ e']at Bq;exact h.heap.sep _ _ _ _ _ hl hb Bq LG
 ·intro l hl;by_cases e:l=n;·subst e;rw[EN.get]at hl;simp only[Ah.injEq]at hl;exact absurd hl (HO.UC hd)
  ·rw[EN.other l e]at hl;rw[Mu.AB _ _ e];exact h.heap.dead l hl
 ·intro l cs hl;by_cases e:l=n
  ·subst e;rw[EN.get]at hl;simp only[Ah.injEq]at hl;obtain⟨cur,e,rfl,rfl,k1,k2⟩:=bS cs hl;exact⟨_,cur,e,Mu.Au _ _ _,heap_alloc_new _ _,Aa.mono hx _ hle k1,k2⟩
  ·rw[EN.other l e]at hl;obtain⟨b,cur,e,h1,h2,h3,h4⟩:=h.heap.Cm l cs hl;exact⟨b,cur,e,hle _ _ h1,by rw[heap_alloc_old _ _ (JF h1 rfl)];exact h2,Aa.mono hx _ hle h3,h4⟩
 ·intro l e sz es hl;by_cases e':l=n
  ·subst e';rw[EN.get]at hl;simp only[Ah.injEq]at hl;obtain⟨k0,cap,cur,rfl,⟨fz,rfl,Nu⟩,k3,k4,k5,k6,k7⟩:=JG e sz es hl;exact⟨k0,.inr ⟨_,cap,cur,Mu.Au _ _ _,⟨fz,heap_alloc_new _ _,Nu⟩,k3,k4,k5,Aa.mono hx _ hblk k6,k7⟩⟩
  ·rw[EN.other l e']at hl;obtain⟨h1,h2⟩:=h.heap.BJ l e sz es hl;refine⟨h1,h2.imp (λ⟨k1,k2⟩=>⟨hle _ _ k1,k2⟩) λ⟨b,cap,cur,k1,k2,k3,k4,k5,k6,k7⟩=>⟨b,cap,cur,hle _ _ k1,?_,k3,k4,k5,Aa.mono hx _ hblk k6,k7⟩⟩
   exact k2.of_eq (heap_alloc_old _ _ (JF k1 rfl))
 ·intro l ks vs hl;by_cases e':l=n
  ·subst e';rw[EN.get]at hl;simp only[Ah.injEq]at hl;obtain⟨es,clock,rfl,rfl,k1⟩:=Zfl ks vs hl;exact⟨_,es,clock,Mu.Au _ _ _,heap_alloc_new _ _,k1⟩
  ·rw[EN.other l e']at hl;obtain⟨b,es,clock,h1,h2,h3⟩:=h.heap.maps l ks vs hl;exact⟨b,es,clock,hle _ _ h1,by rw[heap_alloc_old _ _ (JF h1 rfl)];exact h2,h3⟩
theorem Az.write(h:Az G C mu E H a w){l b:Nat}{g:GO}(hm:mu l=some g)(hb:g.As=some b){Gu new:Array Value}{e0:TypeId}{fz:Nat×Nat}(hold:w.heap[b]?=some (.cells Gu e0 fz))(ob:HO)
  {g':GO} (QT:g'.As=some b) (hblk:∀k,g=.CU k→g'=.CU k) (Zdx:∀k,g'=.CU k→g=.CU k) {E':List AV} (hE:Aa C (w.setRow b new) E' (mu.set l (some g')) a.tmps.toList)
  (H':List HO) (jV:ob.real=true) (hH':∀i,i≠l→(H'[i]?=some .dead→H[i]?=some .dead)∧(∀cs,H'[i]?=some (.cells cs)→∃E9,H[i]?=some (.cells E9)∧∀vs,Aa C w E9 mu vs→Aa C w cs (mu.set l (some g')) vs)∧(∀e sz es,H'[i]?=some (.arr e sz es)→H[i]?=some (.arr e sz es))∧
   (∀cs vs ms,H'[i]?=some (.ghost cs vs ms)→∃E9,H[i]?=some (.ghost E9 vs ms)∧∀vs,Aa C w E9 mu vs→Aa C w cs (mu.set l (some g')) vs)∧(∀I,H'[i]?=some (.inv I)→H[i]?=some (.inv I)))
  (hlen:H'.length=H.length) (Ba:H'[l]?=some ob)
  (bS:∀cs,ob=.cells cs→g'=.CU b∧Aa C w cs mu new.toList∧∀v∈new.toList,v.oneCell'=true)
  (JG:∀e sz es,ob=.arr e sz es→(∀a∈es,a.cells.length=sz)∧∃cap,g'=.arr (.slice (some ⟨b,0,none⟩) es.length cap)∧
   e=e0∧es.length≤cap∧cap≤9223372036854775807∧new.size=cap*sz∧Aa C w (flat es) (Bb mu) (new.toList.take (es.length*sz))∧∀v∈new.toList,v.oneCell'=true)
  (Zda:∀i,i≠l→∀ks vs,H'[i]?=some (.map ks vs)→H[i]?=some (.map ks vs)) (hnm:∀ks vs,ob≠.map ks vs:=by simp)
  (Nu:(∀cs,ob=.cells cs→fz=(0,0))∧∀e sz es,ob=.arr e sz es→T4 new fz:=by exact⟨λ_ _=>rfl,λ_ _ _ h=>by cases h⟩):
  Az G C (mu.set l (some g')) E' H' a (w.setRow b new):=by
 obtain⟨f1,f2,f3⟩:=h.heap.fresh _ _ _ hm hb;have hx:=FA (w:=w) f3 new
 have hbm:Ay (Bb mu) (Bb (mu.set l (some g'))):=DV λi k e=>by
  by_cases hi:i=l;·subst hi;rw[hm]at e;simp only[Ah.injEq]at e;rw[Mu.Au,hblk k e]
  ·rw[Mu.AB _ _ hi];exact e
 have Bu:∀{i x k},i≠l→mu i=some x→x.As=some k→k≠b:=λhi hxx hk e=>by
  subst e;exact hi (h.heap.sep _ _ _ _ _ hm hb hxx hk)
 refine⟨h.c0,h.c1,λb o hc=>by simp;exact h.lt b o hc,⟨?_,?_,?_,?_,?_,?_,?_⟩,hE,?_,h.Aq.setRow f1 new,by rw[hlen];exact h.CA.1,λi k hn hi=>by
  have hp:=h.CA.2 i k hn hi;by_cases e:i=l
  ·subst e;rw[hm]at hp;rw[Mu.Au,hblk k (Ah.inj hp)]
  ·rw[Mu.AB _ _ e];exact hp⟩
 rotate_right
 ·obtain⟨ms,k1,k2⟩:=h.defers;refine⟨ms,k1,k2.step (Ph (λhs=>hs.2 _ _ hm hb) new) (λi x k hi hk=>?_) (λ_ _ h=>.inl h) (λi cs vs ms hi=>?_) (λi I hi=>?_)⟩
  ·by_cases e:i=l
   ·subst e;rw[Mu.Au]at hi;simp only[Ah.injEq]at hi;subst hi;rw[QT]at hk;exact .inl ⟨_,_,hm,hb.trans hk⟩
   ·rw[Mu.AB _ _ e]at hi;exact .inl ⟨i,x,hi,hk⟩
  ·by_cases e:i=l;·subst e;rw[Ba]at hi;simp only[Ah.injEq]at hi;exact absurd hi (HO.RB jV)
   ·obtain⟨E9,k1,k2⟩:=(hH' i e).2.2.2.1 cs vs ms hi;exact⟨E9,k1,λk=>Aa.mono hx _ (Ay.refl _) (k2 vs k)⟩
  ·by_cases e:i=l;·subst e;rw[Ba]at hi;simp only[Ah.injEq]at hi;exact absurd hi (HO.Xp jV)
   ·exact(hH' i e).2.2.2.2 I hi
 ·intro i x hi;by_cases e:i=l;·subst e;rw[hlen];exact h.heap.HH _ _ hm
  ·rw[Mu.AB _ _ e]at hi;rw[hlen];exact h.heap.HH _ _ hi
 ·intro i x k hi hk;by_cases e:i=l
  ·subst e;rw[Mu.Au]at hi;simp only[Ah.injEq]at hi;subst hi
   rw[QT]at hk;simp only[Ah.injEq]at hk;subst hk
   exact⟨f1,by simp;exact f2,f3⟩
  ·rw[Mu.AB _ _ e]at hi;obtain⟨k1,k2,k3⟩:=h.heap.fresh _ _ _ hi hk;exact⟨k1,by simp;exact k2,k3⟩
 ·intro i x k i' x' hi hk EY Hc;by_cases e:i=l
  ·subst e;rw[Mu.Au]at hi;simp only[Ah.injEq]at hi;subst hi
   rw[QT]at hk;simp only[Ah.injEq]at hk;subst hk
   by_cases e':i'=i;·exact e'
   ·rw[Mu.AB _ _ e']at EY;exact absurd rfl (Bu e' EY Hc)
  ·rw[Mu.AB _ _ e]at hi;by_cases e':i'=l
   ·subst e';rw[Mu.Au]at EY;simp only[Ah.injEq]at EY;subst EY
    rw[QT]at Hc;simp only[Ah.injEq]at Hc;subst Hc
    exact absurd rfl (Bu e hi hk)
   ·rw[Mu.AB _ _ e']at EY;exact h.heap.sep _ _ _ _ _ hi hk EY Hc
 ·intro i hi;by_cases e:i=l;·subst e;rw[Ba]at hi;simp only[Ah.injEq]at hi;exact absurd hi (HO.UC jV)
  ·rw[Mu.AB _ _ e];exact h.heap.dead i ((hH' i e).1 hi)
 ·intro i cs hi;by_cases e:i=l
  ·subst e;rw[Ba]at hi;simp only[Ah.injEq]at hi;obtain⟨k1,k2,k3⟩:=bS cs hi;have hf0:=Nu.1 cs hi;subst hf0;subst k1;refine⟨b,new,e0,Mu.Au _ _ _,setRow_heap _ _ _ _ _ _ hold,Aa.mono hx _ ?_ k2,k3⟩;intro j x hj;by_cases e:j=i
   ·subst e;rw[Mu.Au];cases g with
    |CU k=>simp only[GO.As,Ah.injEq]at hb;subst hb;rw[hm]at hj;exact hj
    |arr v=>
     exact absurd (Zdx b rfl) (by simp)
   ·rw[Mu.AB _ _ e];exact hj
  ·obtain⟨E9,k1,k2⟩:=(hH' i e).2.1 cs hi;obtain⟨b',cur,e',h1,h2,h3,h4⟩:=h.heap.Cm i E9 k1;refine⟨b',cur,e',by rw[Mu.AB _ _ e];exact h1,?_,Aa.mono hx _ (Ay.refl _) (k2 _ h3),h4⟩
   rw[setRow_other _ _ _ _ (Bu e h1 rfl)];exact h2
 ·intro i e' sz es hi;by_cases e:i=l
  ·subst e;rw[Ba]at hi;simp only[Ah.injEq]at hi;obtain⟨k0,cap,rfl,rfl,k1,k2,k3,k4,k5⟩:=JG e' sz es hi;exact⟨k0,.inr ⟨b,cap,new,Mu.Au _ _ _,⟨fz,setRow_heap _ _ _ _ _ _ hold,Nu.2 _ _ _ hi⟩,k1,k2,k3,Aa.mono hx _ hbm k4,k5⟩⟩
  ·obtain⟨h1,h2⟩:=h.heap.BJ i e' sz es ((hH' i e).2.2.1 _ _ _ hi);refine⟨h1,h2.imp (λ⟨k1,k2⟩=>⟨by rw[Mu.AB _ _ e];exact k1,k2⟩) λ⟨b',cap,cur,k1,k2,k3,k4,k5,k6,k7⟩=>⟨b',cap,cur,by rw[Mu.AB _ _ e];exact k1,?_,k3,k4,k5,Aa.mono hx _ hbm k6,k7⟩⟩
   exact k2.of_eq (setRow_other _ _ _ _ (Bu e k1 rfl))
 ·intro i ks vs hi;by_cases e:i=l
  ·subst e;rw[Ba]at hi;simp only[Ah.injEq]at hi;exact absurd hi (hnm ks vs)
  ·obtain⟨b',es,clock,h1,h2,h3⟩:=h.heap.maps i ks vs (Zda i e ks vs hi);exact⟨b',es,clock,by rw[Mu.AB _ _ e];exact h1,by rw[setRow_other _ _ _ _ (Bu e h1 rfl)];exact h2,h3⟩
theorem cD{g:Nat}(hg:∀o,¬C g o){lU:Array MapEntry}{c0:Nat}(hold:w.heap[g]?=some (.map lU c0))(es:Array MapEntry)(cl:Nat):Ext C C w (w.putObj g (.map es cl)):=
 ⟨λ_ _ h=>h,λb i hc=>BC (by rintro rfl;exact hg _ hc)⟩
theorem Xe{S:Nat→Prop}{g:Nat}(hS:¬S g)(o:Obj):KH S w (w.putObj g o):=
 ⟨rfl,rfl,rfl,by simp[World.putObj],λb hb=>BC (λe=>hS (by subst e;exact hb))⟩
theorem Jl.putObj(h:Jl G w){g:Nat}(hg:G.fresh g)(o:Obj):Jl G (w.putObj g o):=
 ⟨h.os,h.tape,h.output,by simp[World.putObj];exact h.size,λk hk hm=>by
  rw[BC]
  ·exact h.block k hk hm
  ·intro e;subst e;rcases hg with hg|hg
   ·omega
   ·exact hm hg⟩
theorem Az.RE(h:Az G C mu E H a w){l b:Nat}(hm:mu l=some (.CU b)){lU:Array MapEntry}{c0:Nat}(hold:w.heap[b]?=some (.map lU c0)){ks0 lH:List AV}(hl:H[l]?=some (.map ks0 lH))
  {es:Array MapEntry} {cl:Nat} {ks vs:List AV} (hr:ZbF ks vs es.toList cl):Az G C mu E (H.set l (.map ks vs)) a (w.putObj b (.map es cl)):=by
 obtain⟨f1,f2,f3⟩:=h.heap.fresh _ _ _ hm rfl;have hx:=cD f3 hold es cl;have AR:l<H.length:=(Bj.1 hl).1
 have Bu:∀{i x k},i≠l→mu i=some x→x.As=some k→k≠b:=λhi hxx hk e=>by
  subst e;exact hi (h.heap.sep _ _ _ _ _ hm rfl hxx hk)
 have OO:∀i,i≠l→(H.set l (.map ks vs))[i]?=H[i]?:=λi hi=>Fy (Ne.symm hi)
 have D6:(H.set l (.map ks vs))[l]?=some (.map ks vs):=by simp[AR]
 refine⟨h.c0,h.c1,λb o hc=>by simp[World.putObj];exact h.lt b o hc,⟨λi x hi=>by simpa using h.heap.HH i x hi,λi x k hi hk=>?_,h.heap.sep,λi hi=>?_,λi cs hi=>?_,λi e sz es hi=>?_,λi ks' BV hi=>?_⟩,
  Aa.mono hx _ (Ay.refl _) h.env,?_,h.Aq.putObj f1 _,by simpa using h.CA.1,h.CA.2⟩
 rotate_right
 ·obtain⟨ms,k1,k2⟩:=h.defers;refine⟨ms,k1,k2.step (Xe (λhs=>hs.2 _ _ hm rfl) _) (λi x k hi hk=>.inl ⟨i,x,hi,hk⟩) (λ_ _ h=>.inl h) (λi cs vs ms hi=>?_) (λi I hi=>?_)⟩
  ·by_cases e:i=l;·subst e;rw[D6]at hi;cases hi
   ·rw[OO i e]at hi;exact⟨cs,hi,Aa.mono hx _ (Ay.refl _)⟩
  ·by_cases e:i=l;·subst e;rw[D6]at hi;cases hi
   ·rw[OO i e]at hi;exact hi
 ·obtain⟨k1,k2,k3⟩:=h.heap.fresh i x k hi hk;exact⟨k1,by simp[World.putObj];exact k2,k3⟩
 ·by_cases e:i=l;·subst e;rw[D6]at hi;cases hi
  ·rw[OO i e]at hi;exact h.heap.dead i hi
 ·by_cases e:i=l;·subst e;rw[D6]at hi;cases hi
  ·rw[OO i e]at hi;obtain⟨b',cur,e',h1,h2,h3,h4⟩:=h.heap.Cm i cs hi;exact⟨b',cur,e',h1,by rw[BC (Bu e h1 rfl)];exact h2,Aa.mono hx _ (Ay.refl _) h3,h4⟩
 ·by_cases e':i=l;·subst e';rw[D6]at hi;cases hi
  ·rw[OO i e']at hi;obtain⟨h1,h2⟩:=h.heap.BJ i e sz es hi;refine⟨h1,h2.imp id λ⟨b',cap,cur,k1,k2,k3,k4,k5,k6,k7⟩=>⟨b',cap,cur,k1,?_,k3,k4,k5,Aa.mono hx _ (Ay.refl _) k6,k7⟩⟩
   exact k2.of_eq (BC (Bu e' k1 rfl))
 ·by_cases e:i=l
  ·subst e;rw[D6]at hi;simp only[Ah.injEq,HO.map.injEq]at hi;obtain⟨rfl,rfl⟩:=hi;exact⟨b,es,cl,hm,World.putObj_heap_same f2,hr⟩
  ·rw[OO i e]at hi;obtain⟨b',Cf,cl',h1,h2,h3⟩:=h.heap.maps i ks' BV hi;exact⟨b',Cf,cl',h1,by rw[BC (Bu e h1 rfl)];exact h2,h3⟩
end
def CJ:AV→Bool
 |.any=>false
 |.raw v=>v.oneCell'
 |.agg _=>false
 |.tuple _=>false
 |_=>true
mutual
def EH:AV→Bool
 |.own _ _ _ _=>false
 |.el _ _ _ _=>false
 |.fn _ cap=>I5 cap
 |.mv _ cap=>I5 cap
 |.iface _ x=>EH x
 |.agg cs=>I5 cs
 |.tuple vs=>I5 vs
 |_=>true
def I5:List AV→Bool
 |[]=>true
 |a::as=>EH a&&I5 as
end
mutual
def closed:AV→Bool
 |.own _ _ _ _=>false
 |.el _ _ _ _=>false
 |.ptr _ _=>false
 |.om _=>false
 |.fn _ cap=>Ap cap
 |.mv _ cap=>Ap cap
 |.iface _ x=>closed x
 |.agg cs=>Ap cs
 |.tuple vs=>Ap vs
 |_=>true
def Ap:List AV→Bool
 |[]=>true
 |a::as=>closed a&&Ap as
end
mutual
def Bi:AV→Bool
 |.int _ _=>true
 |.bool _=>true
 |.lit _=>true
 |.str _=>true
 |.raw _=>true
 |.any=>true
 |.fn _ cap=>Ct cap
 |.mv _ cap=>Ct cap
 |.iface _ x=>Bi x
 |.agg cs=>Ct cs
 |.tuple vs=>Ct vs
 |_=>false
def Ct:List AV→Bool
 |[]=>true
 |a::as=>Bi a&&Ct as
end
mutual
def Bd(l:Nat):AV→AV
 |.own k sz lo n=>match AO k l with|true=>.any|false=>.own k sz lo n
 |.el k sz i o=>match AO k l with|true=>.any|false=>.el k sz i o
 |.fn f cap=>.fn f (BN l cap)
 |.mv f cap=>.mv f (BN l cap)
 |.iface t x=>.iface t (Bd l x)
 |.agg cs=>.agg (BN l cs)
 |.tuple vs=>.tuple (BN l vs)
 |a=>a
def BN(l:Nat):List AV→List AV
 |[]=>[]
 |a::as=>Bd l a::BN l as
end
def GW(l:Nat):List AV→(List AV→Prop)→Prop
 |[],K=>K []
 |a::as,K=>(Bd l a).force λb=>GW l as λbs=>K (b::bs)
def Ci(l:Nat):List HO→(List HO→Prop)→Prop
 |[],K=>K []
 |.cells cs::r,K=>GW l cs λcs=>Ci l r λr=>K (.cells cs::r)
 |.arr e sz es::r,K=>Ci l r λr=>K (.arr e sz es::r)
 |.dead::r,K=>Ci l r λr=>K (.dead::r)
 |.ghost cs vs ms::r,K=>GW l cs λcs=>Ci l r λr=>K (.ghost cs vs ms::r)
 |.inv I::r,K=>Ci l r λr=>K (.inv I::r)
 |.map ks vs::r,K=>Ci l r λr=>K (.map ks vs::r)
def AA(l:Nat):HO→HO
 |.cells cs=>.cells (BN l cs)
 |.ghost cs vs ms=>.ghost (BN l cs) vs ms
 |o=>o
theorem DI(l:Nat):∀(as:List AV)(K:List AV→Prop),GW l as K↔K (BN l as)
 |[],_=>by simp[GW,BN]
 |a::as,K=>by simp[GW,BN,AV.AK,DI l as]
theorem BZ(l:Nat):∀(os:List HO)(K:List HO→Prop),Ci l os K↔K (os.map (AA l))
 |[],_=>by simp[Ci]
 |.cells cs::r,K=>by simp[Ci,AA,DI,BZ l r]
 |.arr e sz es::r,K=>by simp[Ci,AA,BZ l r]
 |.dead::r,K=>by simp[Ci,AA,BZ l r]
 |.ghost cs vs ms::r,K=>by simp[Ci,AA,DI,BZ l r]
 |.inv I::r,K=>by simp[Ci,AA,BZ l r]
 |.map ks vs::r,K=>by simp[Ci,AA,BZ l r]
abbrev KK:=List AV→List HO→Prop
def Ej(T:List TY)(e:TypeId)(K:AV→Prop):Prop:=
 B6 T e λy=>match y.agg with
  |true=>K (.agg y.zero)
  |false=>match y.zero with|[z]=>z.force K|_=>False
def Ws(E:List AV)(x:Operand)(K:HO→(Nat→AV)→Prop):Prop:=
 Dc E x λv=>CE v λcs=>match cs.all CJ with
  |true=>K (.cells cs) λl=>.ptr l 0
  |false=>False
def Ji(T:List TY)(t:TypeId)(K:HO→(Nat→AV)→Prop):Prop:=
 B6 T t λy=>match y.zero.all CJ&&AO y.zero.length y.size&&CL 1 y.size with
  |true=>K (.cells y.zero) λl=>.ptr l 0
  |false=>False
def ZbC(s:Option Nat)(E:List AV)(H:List HO)(x:Operand)(K:AV→KK):Prop:=Ws E x λob f=>Tr s H ob λH' l=>K (f l) E H'
def Mv(s:Option Nat)(T:List TY)(E:List AV)(H:List HO)(t:TypeId)(K:AV→KK):Prop:=Ji T t λob f=>Tr s H ob λH' l=>K (f l) E H'
def Cg(T:List TY)(E:List AV)(H:List HO)(t:TypeId)(ad x:Operand)(K:AV→KK):Prop:=
 B6 T t λy=>Dc E ad λp=>Dc E x λv=>CE v λcs=>match cs.all CJ&&AO cs.length y.size with
  |true=>(match p with
   |.ptr l o=>B6 H l λob=>(match ob with
    |.cells Gu=>(match CL (o+cs.length) Gu.length with
     |true=>Pp Gu o cs λnew=>EK H l (.cells new) λH'=>K (.raw undef) E H'
     |false=>False)
    |_=>False)
   |.el l sz i o=>B6 H l λob=>(match ob with
    |.arr e BD es=>(match AO sz BD&&cs.all EH with
     |true=>∃Gu,es[i]?=some Gu∧CE Gu λoc=>(match CL (o+cs.length) oc.length with
      |true=>(match AO cs.length sz with
       |true=>EK H l (.arr e sz (es.set i v)) λH'=>K (.raw undef) E H'
       |false=>Pp oc o cs λnc=>EK H l (.arr e sz (es.set i (.agg nc))) λH'=>K (.raw undef) E H')
      |false=>False)
     |false=>False)
    |_=>False)
   |_=>False)
  |false=>False
def NC(E:List AV)(fs:List (Nat×Nat×Bool)):List (Nat×Operand)→List AV→(List AV→Prop)→Prop
 |[],cells,K=>K cells
 |(i,x)::r,cells,K=>B6 fs i λ(off,size,_)=>Dc E x λv=>CE v λcs=>match AO cs.length size&&CL (off+size) cells.length&&cs.all CJ with
  |true=>Pp cells off cs λcells=>NC E fs r cells K
  |false=>False
def plA(n sz:Nat)(ag:Bool):Nat→List (Nat×Nat×Bool)
 |i=>match n with|0=>[]|n+1=>(i,sz,ag)::plA n sz ag (i+sz)
def Hi(T:List TY)(E:List AV)(t:TypeId)(parts:List (Nat×Operand))(K:AV→Prop):Prop:=
 B6 T t λy=>match y.k with
  |.struct fs=>(match fs.all (λf=>CL 1 f.2.1)&&AO y.zero.length y.size&&CL 1 y.size with
   |true=>NC E fs parts y.zero λcells=>K (.agg cells)
   |false=>False)
  |.array n sz ag=>(match CL 1 sz&&AO y.zero.length y.size&&CL 1 y.size with
   |true=>NC E (plA n sz ag 0) parts y.zero λcells=>K (.agg cells)
   |false=>False)
  |_=>False
def HF(E:List AV)(sz:Nat):List (Nat×Operand)→List AV→(List AV→Prop)→Prop
 |[],es,K=>K es
 |(i,x)::r,es,K=>Dc E x λv=>CE v λcs=>match AO cs.length sz&&cs.all CJ&&cs.all EH&&Nat.blt i es.length with
  |true=>EK es i v λes=>HF E sz r es K
  |false=>False
def iO{α:Type}(v:α):Nat→(List α→Prop)→Prop
 |0,K=>K []
 |n+1,K=>iO v n λl=>K (v::l)
theorem Dn{α:Type}(v:α):∀(n:Nat)(K:List α→Prop),iO v n K↔K (FP n v)
 |0,_=>by simp[iO]
 |n+1,K=>by simp[iO,Dn v n,List.replicate_succ]
def BM(T:List TY)(E:List AV)(t:TypeId)(n:Nat)(parts:List (Nat×Operand))(K:HO→(Nat→AV)→Prop):Prop:=
 B6 T t λy=>match y.k with
  |.slice e Bh _ _=>Ej T e λz=>CE z λzc=>(match AO zc.length Bh&&zc.all CJ&&zc.all EH&&CL 1 Bh&&CL (n*Bh) 16777216 with
   |true=>iO z n λes=>HF E Bh parts es λes=>K (.arr e Bh es) λl=>.own l Bh 0 n
   |false=>False)
  |_=>False
def F4(s:Option Nat)(T:List TY)(E:List AV)(H:List HO)(t:TypeId)(n:Nat)(parts:List (Nat×Operand))(K:AV→KK):Prop:=
 BM T E t n parts λob f=>Tr s H ob λH' l=>K (f l) E H'
def Dk(T:List TY)(E:List AV)(t:TypeId)(ln cp:Operand)(K:HO→(Nat→AV)→Prop):Prop:=
 B6 T t λy=>match y.k with
  |.slice e Bh by' _=>Ej T e λz=>CE z λzc=>(match AO zc.length Bh&&zc.all CJ&&zc.all EH&&CL 1 Bh with
   |true=>Dc E ln λln=>Dc E cp λcp=>(match ln,cp with
    |.int .i64 n,.int .i64 c=>(0≤n∧n≤c∧by'*c≤281474976710656)∧K (.arr e Bh (FP n.toNat z)) λl=>.own l Bh 0 n.toNat
    |_,_=>False)
   |false=>False)
  |_=>False
def Mk(s:Option Nat)(T:List TY)(E:List AV)(H:List HO)(t:TypeId)(ln cp:Operand)(K:AV→KK):Prop:=
 Dk T E t ln cp λob f=>Tr s H ob λH' l=>K (f l) E H'
def Ee(H:List HO)(x:AV)(K:Nat→List AV→Prop):Prop:=
 match x with
 |.sl sz es=>K sz es
 |.own l sz lo n=>B6 H l λob=>match ob with
  |.arr _ BD es=>(match AO sz BD&&AO lo 0 with
   |true=>n=es.length∧K sz es
   |false=>False)
  |_=>False
 |_=>False
def CN(al:Option Nat)(T:List TY)(E:List AV)(H:List HO)(t t':TypeId)(s x:Operand)(K:AV→KK):Prop:=
 match AO t t' with
 |true=>B6 T t λy=>(match y.k with
  |.slice e Bh by' _=>(match CL 1 Bh&&CL 1 by' with
   |true=>Dc E s λsv=>Dc E x λxv=>(match xv with
    |.raw (.slice none 0 0)=>(match sv with
     |.own l sz lo n=>B6 H l λob=>(match ob with|.arr _ _ _=>K (.own l sz lo n) E H|_=>False)
     |.raw (.slice none 0 0)=>K (.raw (.slice none 0 0)) E H
     |_=>False)
    |_=>Ee H xv λsz xs=>(match AO sz Bh with
     |true=>(match sv with
      |.raw (.slice none 0 0)=>(xs.length*by'≤140737488355328)∧Ej T e λz=>CE z λzc=>(match AO zc.length Bh&&zc.all CJ with
       |true=>Tr al H (.arr e Bh xs) λH' l=>K (.own l Bh 0 xs.length) E H'
       |false=>False)
      |.own l BD lo n=>B6 H l λob=>(match ob with
       |.arr e' P8 es=>(match AO BD Bh&&AO P8 Bh&&AO lo 0&&AO e' e with
        |true=>(n=es.length∧(es++xs).length*by'≤140737488355328)∧Ej T e λz=>CE z λzc=>(match AO zc.length Bh&&zc.all CJ with
         |true=>GW l E λE'=>Ci l H λH=>EK H l (.arr e Bh (es++xs)) λH'=>K (.own l Bh 0 (es++xs).length) E' H'
         |false=>False)
        |false=>False)
       |_=>False)
      |_=>False)
     |false=>False))
   |false=>False)
  |_=>False)
 |false=>False
def Hh(es:List AV)(lo n:Nat)(z:AV):List AV:=es.take lo++(FP n z++es.drop (lo+n))
def cU(T:List TY)(E:List AV)(H:List HO)(t:TypeId)(x:Operand)(K:AV→KK):Prop:=
 B6 T t λy=>match y.k with
  |.slice e Bh _ _=>Ej T e λz=>CE z λzc=>(match AO zc.length Bh&&zc.all CJ&&zc.all EH&&CL 1 Bh with
   |true=>Dc E x λv=>(match v with
    |.own l sz lo n=>B6 H l λob=>(match ob with
     |.arr e' BD es=>(match AO sz Bh&&AO BD Bh&&AO e' e with
      |true=>EK H l (.arr e Bh (Hh es lo n z)) λH'=>K (.tuple []) E H'
      |false=>False)
     |_=>False)
    |_=>False)
   |false=>False)
  |_=>False
def R9(al:Option Nat)(E:List AV)(H:List HO)(K:AV→KK):Prop:=Tr al H (.map [] []) λH' l=>K (.om l) E H'
def QQ(T:List TY)(E:List AV)(H:List HO)(t:TypeId)(m k x:Operand)(K:AV→KK):Prop:=
 B6 T t λy=>match y.k with
  |.map kt _=>B6 T kt λyk=>Dc E m λmv=>Dc E k λkv=>Dc E x λv=>(match eX yk.k kv&&Bi v with
   |true=>(match mv with
    |.om l=>B6 H l λob=>(match ob with
     |.map ks vs=>(∀a∈ks,Ja kv a=true)∧EK H l (.map (oQ kv ks) (oN kv v ks vs)) λH'=>K (.raw undef) E H'
     |_=>False)
    |_=>False)
   |false=>False)
  |_=>False
def S7(T:List TY)(E:List AV)(H:List HO)(s d:TypeId)(x:Operand)(K:AV→KK):Prop:=
 B6 T s λys=>B6 T d λyd=>Dc E x λv=>match ys.k,yd.k with
  |.string,.slice e Bh _ _=>(match v with
   |.str l=>(match AO Bh 1 with
    |true=>B6 T e λye=>(match ye.k with
     |.int .u8=>K (.sl 1 (l.map λb=>.int .u8 b.toNat)) E H
     |_=>False)
    |false=>False)
   |_=>False)
  |.slice e Bh _ _,.string=>Ee H v λsz es=>(match AO sz 1&&AO Bh 1 with
   |true=>B6 T e λye=>(match ye.k with
    |.int .u8=>∃l:List UInt8,((es=l.map λb=>.int .u8 b.toNat)∧l.length≤9223372036854775807)∧K (.str l) E H
    |_=>False)
   |false=>False)
  |_,_=>False
end Go.Av