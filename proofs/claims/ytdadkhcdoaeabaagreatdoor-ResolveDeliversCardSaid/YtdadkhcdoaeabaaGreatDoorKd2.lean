/- AV: iterators: functions that hand values to a loop. -/
import Derived.Test.YtdadkhcdoaeabaaGreatDoorKc2
import Derived.ProofKit
import Derived.Below
import Derived.ChangeSame
import Derived.Deep.Slices
set_option linter.unusedVariables false
set_option maxRecDepth 100000
set_option linter.unusedSectionVars false
open Go.World renaming putObj_heap_other → Ao, cells?_some → J2
open Array renaming getElem?_eq_some_iff → Bh, replicate → Kh
open List renaming getElem?_eq_some_iff → Bj, mem_cons_of_mem → B7, mem_cons → D0, mem_append_left → Ef, getElem?_cons_zero → Ei, getElem?_set_self → EN, getElem?_set_ne → Ff, getElem?_eq_getElem → FP, mem_append_right → Gf, getElem?_append_left → Gj, mem_map → Gz, perm_append_comm → GA, nodup_cons → Hp, mem_append → It, getElem?_eq_none → JD, append_nil → JF, nodup_nil → JG, cons_append → J3, perm_middle → J4, getElem_mem → J5, all_eq_true → J6, replicate → Ki, mem_range → Kj, all_cons → Km, Perm → Kn
open Nat renaming lt_of_lt_of_le → CW, le_trans → E1, eq_of_beq_eq_true → F0, le_refl → Gk, le_of_ble_eq_true → JB, add_zero → JC, lt_irrefl → JJ, blt → J1, beq → Kr
open Bool renaming and_eq_true → D6
open Option renaming some → Ep
open Go.Value renaming oneCell' → Gm, okWide → G4, func → JA
open Prod renaming fst → Kw
namespace Go.Av
open Go.RowKit (Below)
structure yW(P:Program)(f:FuncId)(cap:List AV)(xs:List (List AV)):Prop where
 Ed:B5 P f=true
 out:∀(l:Nat)(I:Nat→Inv)(Ix:Inv)(C:Ag)(w:World)(us:List Value)(Sw Sr:Nat→Prop),Zh C w→(I 0).Cb=C→(I 0).nb=w.heap.size→
  (∀b o,Sw b→¬C b o)→(∀b,Sw b→Sr b)→(∀b,Sr b→b<w.heap.size)→(I 0).J Sw Sr w→Aa C w cap Mu.none us→
  (∀k x,xs[k]?=some x→KJ P (.func (.yield l) #[] #[]) x (I k) (I (k+1)) Ix)→
  Calls P f (JA (.yield l) #[] #[]::us).toArray w λe w'=>∃v DG CX,e=.returned v∧((I xs.length).J DG CX w'∨Ix.J DG CX w')
def Nn(I:Nat→Inv)(Ix:Inv)(n:Nat):KK:=λ_ H=>B6 H 0 λob=>match ob with|.inv J=>J=I n∨J=Ix|_=>False
section
variable {T:List TY}{P:Program}
theorem yW.Ai{f:FuncId}{fn:Func}{c:Code}{cap:List AV}{xs:List (List AV)}(hf:P.funcs[f]?=some fn)(hb:fn.body=some c)(hT:BL P T)(hg:B5 P f=true)(Ho:fn.results=#[])
  (h:∀(l:Nat)(I:Nat→Inv)(Ix:Inv),(∀k x,xs[k]?=some x→KJ P (.func (.yield l) #[] #[]) x (I k) (I (k+1)) Ix)→
   DR fn.ntmps (.raw (.func (.yield l) #[] #[])::cap) λE=>Ac P c E [.inv (I 0)] (Nn I Ix xs.length) (λe E H=>match e with|.ret=>Nn I Ix xs.length E H|_=>False)):yW P f cap xs:=by
 refine⟨hg,λl I Ix C w us Sw Sr AR hCb lP Ko OK Dt hJ hr hy=>(callsIn_wide (n:=0)).1 (callsIn_of_wp_marks (F:=Fence.wide) (n:=0) hf hb trivial ?_ rfl)⟩
 have h:=h l I Ix hy;unfold DR at h;rw[Dn,CO]at h;let G:Cx:={P:=P,C0:=C,M0:=Sw,W0:=w,Zb:=⟨AR,λb o hc hs=>Ko b o hs hc⟩}
 have fC:Aa C w (AV.raw (.func (.yield l) #[] #[])::cap) Mu.none (JA (.yield l) #[] #[]::us):=by
  unfold Aa;exact⟨_,_,rfl,by unfold Aj;rfl,hr⟩
 have Ah:St G ((AV.raw (.func (.yield l) #[] #[])::cap)++Ki (fn.ntmps-(AV.raw (.func (.yield l) #[] #[])::cap).length) (.raw undef)) [.inv (I 0)]
   {tmps:=(JA (.yield l) #[] #[]::us).toArray++Kh (fn.ntmps-(JA (.yield l) #[] #[]::us).toArray.size) undef,defers:=[]} w:=by
  refine⟨C,Mu.none,λ_ _ h=>h,λ_ _ h=>.inl h,AR.lt,⟨λ_ _ h=>(by cases h),λ_ _ _ h=>(by cases h),λ_ _ _ _ _ h=>(by cases h),λi hi=>rfl,λi cs hi=>?_,λi e sz es hi=>?_,λi ks vs hi=>?_⟩,?_,⟨[],rfl,?_⟩,⟨rfl,rfl,rfl,Gk _,λ_ _ _=>rfl⟩,Nat.zero_le _,λ_ _ h=>absurd h (Nat.not_lt_zero _)⟩
  ·cases i<;>simp at hi
  ·cases i<;>simp at hi
  ·cases i<;>simp at hi
  ·have hl:=Ar _ fC;have:=AF fC (BG (C:=C) (w:=w) (mu:=Mu.none) (fn.ntmps-(AV.raw (.func (.yield l) #[] #[])::cap).length));simpa[←hl,Ar _ hr]using this
  ·refine⟨λi cs vs ms hi=>?_,λi J hi=>?_,λD hD=>(by cases hD),JG,λi i' cs vs ms cs' BV Ds hi=>?_⟩
   ·cases i<;>simp at hi
   ·cases i with
    |succ i=>simp at hi
    |zero=>
     simp only[Ei,Ep.injEq,HO.inv.injEq]at hi;subst hi;exact⟨rfl,Sw,Sr,⟨λb hb=>.inr hb,by rw[lP];exact Gk _,λb o hc=>.inl (by rw[hCb];exact hc),λ_ _ _ h=>(by cases h),OK,Dt,λ_ _ _ _ h=>(by cases h),Ko⟩,hJ,λD hD=>(by cases hD),λi cs vs ms hi=>by cases i<;>simp at hi⟩
   ·cases i<;>simp at hi
 have fin:∀E H a w',Nn I Ix xs.length E H→St G E H a w'→LeavesInM (fw none) 0 P fn a.tmps (λe w'=>∃v DG CX,e=.returned v∧((I xs.length).J DG CX w'∨Ix.J DG CX w')) a.defers .returning w':=by
  rintro E H a w' hk ⟨C',mu',Ah⟩;unfold Nn at hk;replace hk:=(Ab _ _ _).1 hk;obtain⟨ob,Ba,hk⟩:=hk
  cases ob<;>first|exact hk.elim|skip
  rename_i J;obtain⟨ms,d1,d2⟩:=Ah.defers;rw[show a.defers=ms.map mark by simpa[G]using d1]
  refine GJ (G:=G) rfl ms rfl Ah d2 λa' Lo ha Fv=>?_
  obtain⟨Ds,_,x2⟩:=Fv.defers;obtain⟨_,DG,CX,_,Yu,_⟩:=x2.Gx 0 J Ba
  have HV:(results fn a.tmps).run P Lo=.ok (.tuple #[]) Lo:=by
   rw[Ey,Ho];simp
  refine⟨_,HV,_,DG,CX,rfl,?_⟩;rcases hk with rfl|rfl;·exact .inl Yu
  ·exact .inr Yu
 refine wpIn_mono (h.out 0 G _ w rfl Ah) λe a w' q=>?_
 cases e with
 |normal=>obtain⟨E,H,h1,h2⟩:=q;exact fin E H a w' h1 h2
 |ret=>obtain⟨E,H,h1,h2⟩:=q;exact fin E H a w' h1 h2
 |exit id=>obtain⟨E,H,h1,h2⟩:=q;exact h1.elim
 |panic ch=>obtain⟨x,v,E,H,C,mu,_,h1,_⟩:=q;exact h1.elim
 |goto l=>exact q.elim
 |outgrown=>exact q.elim
end
section
variable {G:Cx}{C:Ag}{w w':World}{mu:Mu}{H:List HO}{E:List AV}{a:Act}{T:List TY}{P:Program}
def Rel(G:Cx)(C:Ag)(mu:Mu)(ds:List (Nat×Obj))(b:Nat):Prop:=
 b<G.W0.heap.size∨(∃o,C b o)∨(∃l g,mu l=some g∧g.As=some b)∨∃d∈ds,d.1=b
def Cs(G:Cx)(ms:List Nat):List (Nat×Obj):=ms.map (λD=>(D,Fb))++G.K1
theorem Br.Zbq{ds:List (Nat×Obj)}{fr:Nat→Prop}(hx:Br C w fr mu H ds)(OP:∀(l:Nat) I,H[l]?≠some (.inv I))(TS:∀(l:Nat) cs vs gm,H[l]?=some (.ghost cs vs gm)→gm=[])
  (he:Ext C C w w') (hd:∀d∈ds,w'.heap[d.1]?=w.heap[d.1]?):Br C w' fr mu H ds:=by
 refine⟨λl cs vs gm hl=>?_,λl I hl=>absurd hl (OP l I),λd hdd=>?_,hx.nd,hx.sep⟩
 ·obtain⟨k1,k2,k3⟩:=hx.Bc l cs vs gm hl;have:=TS l cs vs gm hl;subst this;exact⟨Aa.mono he _ (Ay.refl _) k1,k2,λD hD=>by cases hD⟩
 ·have k:=hx.marks d hdd;exact⟨by rw[hd d hdd];exact k.at_,k.Gy,k.own,k.fr⟩
theorem Az.Zbq(h:Az G C mu E H a w){ms:List Nat}(Kl:a.defers=ms.map mark++G.ds)(hx:Br C w G.fresh mu H (Cs G ms))(OP:∀(l:Nat) I,H[l]?≠some (.inv I))
  (TS:∀(l:Nat) cs vs gm,H[l]?=some (.ghost cs vs gm)→gm=[]) (hs:KH (Rel G C mu (Cs G ms)) w w'):Az G C mu E H a w'∧Br C w' G.fresh mu H (Cs G ms):=by
 have he:Ext C C w w':=Ext.of_block (λ_ _ h=>h) λb o hc=>hs.block b (.inr (.inl ⟨o,hc⟩))
 have hX:=hx.Zbq (w':=w') OP TS he λd hd=>hs.block d.1 (.inr (.inr (.inr ⟨d,hd,rfl⟩)))
 have own:∀{l g b},mu l=some g→g.As=some b→w'.heap[b]?=w.heap[b]?:=λhl hg=>hs.block _ (.inr (.inr (.inl ⟨_,_,hl,hg⟩)))
 refine⟨⟨h.c0,h.c1,λb o hc=>CW (h.lt b o hc) hs.size,⟨h.heap.HH,λl g b hl hg=>?_,h.heap.sep,h.heap.dead,λl cs hl=>?_,λl e sz es hl=>?_,λl ks vs hl=>?_⟩,Aa.mono he _ (Ay.refl _) h.env,⟨ms,Kl,hX⟩,
  ⟨hs.os.trans h.Aq.os,hs.tape.trans h.Aq.tape,hs.output.trans h.Aq.output,E1 h.Aq.size hs.size,λk hk hn=>(hs.block k (.inl hk)).trans (h.Aq.block k hk hn)⟩,h.CA⟩,hX⟩
 ·obtain⟨k1,k2,k3⟩:=h.heap.fresh l g b hl hg;exact⟨k1,CW k2 hs.size,k3⟩
 ·obtain⟨b,cur,e,k1,k2,k3,k4⟩:=h.heap.Cm l cs hl;exact⟨b,cur,e,k1,by rw[own k1 rfl];exact k2,Aa.mono he _ (Ay.refl _) k3,k4⟩
 ·obtain⟨k0,k⟩:=h.heap.BJ l e sz es hl;exact⟨k0,k.imp id λ⟨b,cap,cur,k1,k2,k3,k4,k5,k6,k7⟩=>⟨b,cap,cur,k1,k2.of_eq (by rw[own k1 rfl]),k3,k4,k5,Aa.mono he _ (Ay.refl _) k6,k7⟩⟩
 ·obtain⟨b,es,cl,k1,k2,k3⟩:=h.heap.maps l ks vs hl;exact⟨b,es,cl,k1,by rw[own k1 rfl];exact k2,k3⟩
theorem Az.Mv(h:Az G C mu E H a w)(o:Obj):Az G C mu E H a (w.alloc o):=by
 have hx:=IF (C:=C) (w:=w) h.lt o;have Gu:∀{l g b},mu l=some g→g.As=some b→(w.alloc o).heap[b]?=w.heap[b]?:=λhl hg=>heap_alloc_old _ _ (h.heap.fresh _ _ _ hl hg).2.1
 refine⟨h.c0,h.c1,λb i hc=>by have:=h.lt b i hc;simp;omega,⟨h.heap.HH,λl g b hl hg=>?_,h.heap.sep,h.heap.dead,λl cs hl=>?_,λl e sz es hl=>?_,λl ks vs hl=>?_⟩,Aa.mono hx _ (Ay.refl _) h.env,?_,h.Aq.alloc o,h.CA⟩
 ·obtain⟨k1,k2,k3⟩:=h.heap.fresh l g b hl hg;exact⟨k1,by simp;omega,k3⟩
 ·obtain⟨b,cur,e,k1,k2,k3,k4⟩:=h.heap.Cm l cs hl;exact⟨b,cur,e,k1,by rw[Gu k1 rfl];exact k2,Aa.mono hx _ (Ay.refl _) k3,k4⟩
 ·obtain⟨k0,k⟩:=h.heap.BJ l e sz es hl;exact⟨k0,k.imp id λ⟨b,cap,cur,k1,k2,k3,k4,k5,k6,k7⟩=>⟨b,cap,cur,k1,k2.of_eq (by rw[Gu k1 rfl]),k3,k4,k5,Aa.mono hx _ (Ay.refl _) k6,k7⟩⟩
 ·obtain⟨b,es,cl,k1,k2,k3⟩:=h.heap.maps l ks vs hl;exact⟨b,es,cl,k1,by rw[Gu k1 rfl];exact k2,k3⟩
 ·obtain⟨ms,k1,k2⟩:=h.defers;exact⟨ms,k1,k2.step (GY (λb hb=>hb.1) o) (λl g b hm hb=>.inl ⟨l,g,hm,hb⟩) (λ_ _ h=>.inl h) (λl cs vs ms hl=>⟨cs,hl,Aa.mono hx _ (Ay.refl _)⟩) (λ_ _ h=>h)⟩
theorem Br.push{ds:List (Nat×Obj)}{fr:Nat→Prop}{D:Nat×Obj}(hx:Br C w fr mu H ds)(OP:∀(l:Nat) I,H[l]?≠some (.inv I))(TS:∀(l:Nat) cs vs gm,H[l]?=some (.ghost cs vs gm)→gm=[])
  (hD:Ck C w fr mu D) (hn:D.1∉ds.map Kw):Br C w fr mu H (D::ds):=by
 refine⟨λl cs vs gm hl=>?_,λl I hl=>absurd hl (OP l I),λd hd=>?_,Hp.2 ⟨hn,hx.nd⟩,hx.sep⟩
 ·obtain⟨k1,k2,k3⟩:=hx.Bc l cs vs gm hl;have:=TS l cs vs gm hl;subst this;exact⟨k1,k2,λD hD=>by cases hD⟩
 ·rcases D0.1 hd with rfl|hd;·exact hD
  ·exact hx.marks d hd
theorem Az.VP(h:Az G C mu E H a w)(o:Obj):Ck C (w.alloc o) G.fresh mu (w.heap.size,o):=
 ⟨heap_alloc_new _ _,λi hc=>absurd (h.lt _ _ hc) (JJ _),λl g hl hg=>absurd (h.heap.fresh l g _ hl hg).2.1 (JJ _),.inl h.Aq.size⟩
end
section
variable {G:Cx}{C:Ag}{w w':World}{mu:Mu}{H:List HO}{E:List AV}{a:Act}{T:List TY}{P:Program}
theorem Br.W9{ds:List (Nat×Obj)}{fr:Nat→Prop}{l:Nat}{o o':Obj}(hx:Br C w fr mu H ((l,o)::ds)):Br C (w.putObj l o') fr mu H ((l,o')::ds):=by
 have hl:=hx.marks (l,o) (by simp)
 have hn:=Hp.1 hx.nd;have AR:=(Bh.1 hl.at_).1;have he:Ext C C w (w.putObj l o'):=Ext.of_block (λ_ _ h=>h) λb i hc=>Ao λe=>hl.Gy i (by rw[←e];exact hc)
 refine⟨λi cs vs gm hi=>?_,λi I hi=>?_,λd hd=>?_,Hp.2 hn,hx.sep⟩
 ·obtain⟨k1,k2,k3⟩:=hx.Bc i cs vs gm hi;refine⟨Aa.mono he _ (Ay.refl _) k1,k2,λD hD=>⟨?_,(k3 D hD).2⟩⟩
  have k:=(k3 D hD).1;have Bu:D≠l:=λe=>(k3 D hD).2 (by simp[e])
  exact⟨by rw[Ao Bu];exact k.at_,k.Gy,k.own,k.fr⟩
 ·obtain⟨h0,Sw,Sr,h1,h2,h3,h4⟩:=hx.Gx i I hi;have sM:¬Sr l:=h3 (l,o) (by simp)
  refine⟨h0,Sw,Sr,⟨h1.fr,by simpa using h1.base,h1.cb,h1.ob,h1.sub,λb hb=>by simpa using h1.lt b hb,h1.own,h1.Gy⟩,I.LW Sw Sr w _ h2 ⟨rfl,rfl,rfl,by simp,λb hb=>Ao λe=>sM (by rw[←e];exact hb)⟩,λD hD=>?_,h4⟩
  rcases D0.1 hD with rfl|hD;·exact sM
  ·exact h3 D (B7 _ hD)
 ·rcases D0.1 hd with rfl|hd;·exact⟨World.putObj_heap_same AR,hl.Gy,hl.own,hl.fr⟩
  ·have k:=hx.marks d (B7 _ hd);have Bu:d.1≠l:=λe=>hn.1 (by rw[Gz];exact⟨d,hd,e⟩)
   exact⟨by rw[Ao Bu];exact k.at_,k.Gy,k.own,k.fr⟩
theorem Br.perm{ds ds':List (Nat×Obj)}{fr:Nat→Prop}(hx:Br C w fr mu H ds)(hp:ds.Perm ds'):Br C w fr mu H ds':=by
 refine⟨λl cs vs gm hl=>?_,λl I hl=>?_,λd hd=>hx.marks d (hp.mem_iff.2 hd),(hp.map Kw).nodup_iff.1 hx.nd,hx.sep⟩
 ·obtain⟨k1,k2,k3⟩:=hx.Bc l cs vs gm hl;exact⟨k1,k2,λD hD=>⟨(k3 D hD).1,λh=>(k3 D hD).2 ((hp.map Kw).mem_iff.2 h)⟩⟩
 ·obtain⟨h0,Sw,Sr,h1,h2,h3,h4⟩:=hx.Gx l I hl;exact⟨h0,Sw,Sr,h1,h2,λD hD=>h3 D (hp.mem_iff.2 hD),h4⟩
theorem Az.Mb{G':Cx}{C2:Ag}{E':List AV}{a':Act}(h:Az G C mu E H a w)(Eh:w.heap.size≤w'.heap.size)(hs:∀b,((∃o,C b o)∨∃l g,mu l=some g∧g.As=some b)→w'.heap[b]?=w.heap[b]?)
  (bT:∀b o,G'.C0 b o→C2 b o) (hc1:∀b o,C2 b o→G'.C0 b o∨G'.fresh b) (AR:∀b o,C2 b o→b<w'.heap.size) (OK:∀b o,C b o→C2 b o)
  (Fw:∀l g b,mu l=some g→g.As=some b→G'.fresh b∧∀o,¬C2 b o) (Yn:Aa C2 w' E' mu a'.tmps.toList) (ZfJ:∃ms:List Nat,a'.defers=ms.map mark++G'.ds∧Br C2 w' G'.fresh mu H (Cs G' ms)) (Zdj:Jl G' w') (Ze9:G'.np≤H.length∧∀l b,l<G'.np→G'.CA l b→mu l=some (.CU b)):
  Az G' C2 mu E' H a' w':=by
 have he:Ext C C2 w w':=Ext.of_block (OK) λb o hc=>hs b (.inl ⟨o,hc⟩)
 refine⟨bT,hc1,AR,⟨h.heap.HH,λl g b hl hg=>?_,h.heap.sep,h.heap.dead,λl cs hl=>?_,λl e sz es hl=>?_,λl ks vs hl=>?_⟩,Yn,ZfJ,Zdj,Ze9⟩
 ·obtain⟨k1,k2,k3⟩:=h.heap.fresh l g b hl hg;exact⟨(Fw l g b hl hg).1,CW k2 Eh,(Fw l g b hl hg).2⟩
 ·obtain⟨b,cur,e,k1,k2,k3,k4⟩:=h.heap.Cm l cs hl;exact⟨b,cur,e,k1,by rw[hs _ (.inr ⟨_,_,k1,rfl⟩)];exact k2,Aa.mono he _ (Ay.refl _) k3,k4⟩
 ·obtain⟨k0,k⟩:=h.heap.BJ l e sz es hl;exact⟨k0,k.imp id λ⟨b,cap,cur,k1,k2,k3,k4,k5,k6,k7⟩=>⟨b,cap,cur,k1,k2.of_eq (by rw[hs _ (.inr ⟨_,_,k1,rfl⟩)]),k3,k4,k5,Aa.mono he _ (Ay.refl _) k6,k7⟩⟩
 ·obtain⟨b,es,cl,k1,k2,k3⟩:=h.heap.maps l ks vs hl;exact⟨b,es,cl,k1,by rw[hs _ (.inr ⟨_,_,k1,rfl⟩)];exact k2,k3⟩
end
def Jo:List Tmp→List AV→List AV→List AV
 |p::ps,x::xs,E=>Jo ps xs (E.set p x)
 |_,_,E=>E
theorem Rl{C:Ag}{w:World}{mu:Mu}:∀(ps:List Tmp){xs E:List AV}{us:List Value}{tmps:Array Value},Aa C w xs mu us→Aa C w E mu tmps.toList→
  Aa C w (Jo ps xs E) mu ((ps.zip us).foldl (λt (p,v)=>t.setIfInBounds p v) tmps).toList
 |[],_,_,_,_,_,h=>by simpa[Jo]using h
 |_::_,[],_,us,_,hx,h=>by unfold Aa at hx;subst hx;simpa[Jo]using h
 |p::ps,x::xs,E,us,tmps,hx,h=>by
  unfold Aa at hx;obtain⟨v,Tw,rfl,h1,h2⟩:=hx;simp only[Jo,List.zip_cons_cons,List.foldl_cons];exact Rl ps h2 (h.put p h1)
def Cx.AP(G:Cx)(l:Nat)(o:Obj):Cx:={G with K1:=(l,o)::G.K1,OM:=λl' h=>let ⟨r,hr⟩:=G.OM l' h;⟨r,B7 _ hr⟩}
def QW(G:Cx)(l:Nat)(o:Obj)(ms:List Nat)(H:List HO)(Sw Sr:Nat→Prop)(W:World):Prop:=
 ∃C mu,Az (G.AP l o) C mu [] H {tmps:=#[],defers:=ms.map mark++G.ds} W∧Br C W G.fresh mu H (Cs (G.AP l o) ms)∧
  (∀b,Sw b↔(∃i g,mu i=some g∧g.As=some b)∨b=l)∧∀b,Rel (G.AP l o) C mu (Cs (G.AP l o) ms) b→Sr b
theorem QW.LW{G:Cx}{l:Nat}{o:Obj}{ms:List Nat}{H:List HO}(OP:∀(l:Nat) I,H[l]?≠some (.inv I))(TS:∀(l:Nat) cs vs gm,H[l]?=some (.ghost cs vs gm)→gm=[])
  {Sw Sr:Nat→Prop} {w w':World} (h:QW G l o ms H Sw Sr w) (hs:KH Sr w w'):QW G l o ms H Sw Sr w':=by
 obtain⟨C,mu,h1,h2,h3,h4⟩:=h;obtain⟨k1,k2⟩:=h1.Zbq (ms:=ms) rfl h2 OP TS ⟨hs.os,hs.tape,hs.output,hs.size,λb hb=>hs.block b (h4 b hb)⟩
 exact⟨C,mu,k1,k2,h3,h4⟩
section
variable {G:Cx}{C C':Ag}{w w':World}{mu mu':Mu}{H H0 R:List HO}{E:List AV}{a:Act}{T:List TY}{P:Program}
def Mu.below(mu:Mu)(N:Nat):Mu:=λl=>if l<N then mu l else Option.none
theorem Cw{N l:Nat}(h:l<N):mu.below N l=mu l:=by simp[Mu.below,h]
theorem BI{N l:Nat}{g:GO}(h:mu.below N l=some g):l<N∧mu l=some g:=by unfold Mu.below at h;split at h<;>simp_all
theorem E5:∀{es:List AV},(∀e∈es,closed e=true)→Ap (flat es)=true
 |[],_=>rfl
 |e::es,h=>by
  have e1:flat (e::es)=e.cells++flat es:=by simp[flat]
  have app:∀(xs ys:List AV),Ap xs=true→Ap ys=true→Ap (xs++ys)=true:=by
   intro xs ys;induction xs with
   |nil=>intro _ h;exact h
   |cons x xs ih=>
    intro h1 h2;unfold Ap at h1;simp only[D6]at h1;simp only[J3];unfold Ap;simp only[D6];exact⟨h1.1,ih h1.2 h2⟩
  rw[e1];refine app _ _ ?_ (E5 λa ha=>h a (by simp[ha]))
  have he:=h e (by simp)
  cases e with
  |agg cs=>unfold closed at he;exact he
  |_=>simp only[AV.cells,Ap,Bool.and_true];exact he
def AQ:List HO→Nat→Bool
 |[],_=>false
 |.cells _::_,0=>true
 |.arr _ _ _::_,0=>true
 |.map _ _::_,0=>true
 |_::_,0=>false
 |_::r,k+1=>AQ r k
mutual
def within(H0:List HO):AV→Bool
 |.own k _ _ _=>AQ H0 k
 |.el k _ _ _=>AQ H0 k
 |.ptr k _=>AQ H0 k
 |.om k=>AQ H0 k
 |.fn _ cap=>Bn H0 cap
 |.mv _ cap=>Bn H0 cap
 |.iface _ x=>within H0 x
 |.agg cs=>Bn H0 cs
 |.tuple vs=>Bn H0 vs
 |_=>true
def Bn(H0:List HO):List AV→Bool
 |[]=>true
 |a::as=>within H0 a&&Bn H0 as
end
def Mu.only(mu:Mu)(H0:List HO):Mu:=λl=>if AQ H0 l=true then mu l else Option.none
theorem B9{l:Nat}{g:GO}(h:mu.only H0 l=some g):AQ H0 l=true∧mu l=some g:=by unfold Mu.only at h;split at h<;>simp_all
theorem ET{l:Nat}(h:AQ H0 l=true):mu.only H0 l=mu l:=by simp[Mu.only,h]
mutual
theorem Q0:∀(x:AV){v:Value},within H0 x=true→Aj C w x mu v→Aj C w x (mu.only H0) v
 |.any,_,_,_=>by unfold Aj;trivial
 |.int _ _,_,_,h=>by unfold Aj at*;exact h
 |.bool _,_,_,h=>by unfold Aj at*;exact h
 |.lit _,_,_,h=>by unfold Aj at*;exact h
 |.str _,_,_,h=>by unfold Aj at*;exact h
 |.sl _ _,_,_,h=>by unfold Aj at*;exact h
 |.at_ _,_,_,h=>by unfold Aj at*;exact h
 |.raw _,_,_,h=>by unfold Aj at*;exact h
 |.mp _ _,_,_,h=>by unfold Aj at*;exact h
 |.om k,_,hn,h=>by
  unfold within at hn;unfold Aj at*;rw[ET hn];exact h
 |.ptr k o,_,hn,h=>by
  unfold within at hn;unfold Aj at*;rw[ET hn];exact h
 |.el k sz i o,_,hn,h=>by
  unfold within at hn;unfold Aj at*;rw[ET hn];exact h
 |.own k sz lo n,_,hn,h=>by
  unfold within at hn;unfold Aj at*;rw[ET hn];exact h
 |.fn f cap,_,hn,h=>by
  unfold within at hn;unfold Aj at*;obtain⟨vs,h1,h2⟩:=h;exact⟨vs,h1,BX cap hn h2⟩
 |.mv f cap,_,hn,h=>by
  unfold within at hn;unfold Aj at*;obtain⟨vs,h1,h2⟩:=h;exact⟨vs,h1,BX cap hn h2⟩
 |.iface t x,_,hn,h=>by
  unfold within at hn;unfold Aj at*;obtain⟨y,h1,h2⟩:=h;exact⟨y,h1,Q0 x hn h2⟩
 |.agg cs,_,hn,h=>by
  unfold within at hn;unfold Aj at*;obtain⟨vs,h1,h2⟩:=h;exact⟨vs,h1,BX cs hn h2⟩
 |.tuple cs,_,hn,h=>by
  unfold within at hn;unfold Aj at*;obtain⟨vs,h1,h2⟩:=h;exact⟨vs,h1,BX cs hn h2⟩
theorem BX:∀(xs:List AV){vs:List Value},Bn H0 xs=true→Aa C w xs mu vs→Aa C w xs (mu.only H0) vs
 |[],_,_,h=>by unfold Aa at*;exact h
 |x::xs,_,hn,h=>by
  unfold Bn at hn;simp only[D6]at hn;unfold Aa at*;obtain⟨v,BV,h1,h2,h3⟩:=h;exact⟨v,BV,h1,Q0 x hn.1 h2,BX xs hn.2 h3⟩
end
theorem Cp:∀{H:List HO}{l:Nat},AQ H l=true↔∃ob,H[l]?=some ob∧ob.real=true
 |[],l=>by simp[AQ]
 |o::r,0=>by cases o<;>simp[AQ]
 |o::r,l+1=>by
  have:AQ (o::r) (l+1)=AQ r l:=by cases o<;>rfl
  rw[this,Cp];simp
def Cq(F:List HO):List HO→Prop→Prop
 |[],Q=>Q
 |.cells cs::r,Q=>Bn F cs=true∧Cq F r Q
 |.arr _ _ es::r,Q=>(∀e∈es,closed e=true)∧Cq F r Q
 |.dead::r,Q=>Cq F r Q
 |.ghost cs _ _::r,Q=>Bn F cs=true∧Cq F r Q
 |.inv _::r,Q=>Cq F r Q
 |.map _ _::r,Q=>Cq F r Q
theorem Ez{F:List HO}:∀{H:List HO}{Q:Prop},Cq F H Q→Q∧(∀(i:Nat) cs,H[i]?=some (.cells cs)→Bn F cs=true)∧(∀(i:Nat) e sz es,H[i]?=some (.arr e sz es)→∀a∈es,closed a=true)∧
   (∀(i:Nat) cs vs ms,H[i]?=some (.ghost cs vs ms)→Bn F cs=true)
 |[],Q,h=>⟨h,λi cs hi=>by simp at hi,λi e sz es hi=>by simp at hi,λi cs vs ms hi=>by simp at hi⟩
 |o::r,Q,h=>by
  cases o with
  |cells E9=>
   unfold Cq at h;obtain⟨h0,h⟩:=h;obtain⟨k0,k1,k2,k3⟩:=Ez h;refine⟨k0,λi cs hi=>?_,λi e sz es hi=>?_,λi cs vs ms hi=>?_⟩
   ·cases i with
    |zero=>simp at hi;subst hi;exact h0
    |succ i=>exact k1 i cs (by simpa using hi)
   ·cases i with
    |zero=>simp at hi
    |succ i=>exact k2 i e sz es (by simpa using hi)
   ·cases i with
    |zero=>simp at hi
    |succ i=>exact k3 i cs vs ms (by simpa using hi)
  |arr e0 sz0 lU=>
   unfold Cq at h;obtain⟨h0,h⟩:=h;obtain⟨k0,k1,k2,k3⟩:=Ez h;refine⟨k0,λi cs hi=>?_,λi e sz es hi=>?_,λi cs vs ms hi=>?_⟩
   ·cases i with
    |zero=>simp at hi
    |succ i=>exact k1 i cs (by simpa using hi)
   ·cases i with
    |zero=>simp at hi;obtain⟨rfl,rfl,rfl⟩:=hi;exact h0
    |succ i=>exact k2 i e sz es (by simpa using hi)
   ·cases i with
    |zero=>simp at hi
    |succ i=>exact k3 i cs vs ms (by simpa using hi)
  |ghost E9 lH ms0=>
   unfold Cq at h;obtain⟨h0,h⟩:=h;obtain⟨k0,k1,k2,k3⟩:=Ez h;refine⟨k0,λi cs hi=>?_,λi e sz es hi=>?_,λi cs vs ms hi=>?_⟩
   ·cases i with
    |zero=>simp at hi
    |succ i=>exact k1 i cs (by simpa using hi)
   ·cases i with
    |zero=>simp at hi
    |succ i=>exact k2 i e sz es (by simpa using hi)
   ·cases i with
    |zero=>simp at hi;obtain⟨rfl,rfl,rfl⟩:=hi;exact h0
    |succ i=>exact k3 i cs vs ms (by simpa using hi)
  |dead=>
   unfold Cq at h;obtain⟨k0,k1,k2,k3⟩:=Ez h;refine⟨k0,λi cs hi=>?_,λi e sz es hi=>?_,λi cs vs ms hi=>?_⟩
   ·cases i with
    |zero=>simp at hi
    |succ i=>exact k1 i cs (by simpa using hi)
   ·cases i with
    |zero=>simp at hi
    |succ i=>exact k2 i e sz es (by simpa using hi)
   ·cases i with
    |zero=>simp at hi
    |succ i=>exact k3 i cs vs ms (by simpa using hi)
  |inv I=>
   unfold Cq at h;obtain⟨k0,k1,k2,k3⟩:=Ez h;refine⟨k0,λi cs hi=>?_,λi e sz es hi=>?_,λi cs vs ms hi=>?_⟩
   ·cases i with
    |zero=>simp at hi
    |succ i=>exact k1 i cs (by simpa using hi)
   ·cases i with
    |zero=>simp at hi
    |succ i=>exact k2 i e sz es (by simpa using hi)
   ·cases i with
    |zero=>simp at hi
    |succ i=>exact k3 i cs vs ms (by simpa using hi)
  |map _ _=>
   unfold Cq at h;obtain⟨k0,k1,k2,k3⟩:=Ez h;refine⟨k0,λi cs hi=>?_,λi e sz es hi=>?_,λi cs vs ms hi=>?_⟩
   ·cases i with
    |zero=>simp at hi
    |succ i=>exact k1 i cs (by simpa using hi)
   ·cases i with
    |zero=>simp at hi
    |succ i=>exact k2 i e sz es (by simpa using hi)
   ·cases i with
    |zero=>simp at hi
    |succ i=>exact k3 i cs vs ms (by simpa using hi)
theorem aA:Ay (mu.only H) (mu.below H.length):=λl g hl=>by
 obtain⟨k1,k2⟩:=B9 hl;obtain⟨ob,ho,_⟩:=Cp.1 k1;rw[Cw (Bj.1 ho).1];exact k2
theorem Az.drop(h:Az G C mu E (H++R) a w)(hE:Bn H E=true)(hO:Cq H H True)(hn:G.np≤H.length):Az G C (mu.below H.length) E H a w:=by
 obtain⟨_,o1,o2,o3⟩:=Ez hO
 have up:∀{i:Nat}{ob:HO},H[i]?=some ob→(H++R)[i]?=some ob:=λ{i ob} hi=>by
  rw[Gj (Bj.1 hi).1];exact hi
 have lt:∀{i:Nat}{ob:HO},H[i]?=some ob→i<H.length:=λhi=>(Bj.1 hi).1
 have wr:∀(xs:List AV){vs:List Value},Bn H xs=true→Aa C w xs mu vs→Aa C w xs (mu.below H.length) vs:=λxs vs h1 h2=>Aa.mono (Ext.refl _ _) _ aA (BX xs h1 h2)
 refine⟨h.c0,h.c1,h.lt,⟨λl g hl=>(BI hl).1,λl g b hl hg=>h.heap.fresh l g b (BI hl).2 hg,λl g b l' g' hl hg Bq QT=>h.heap.sep l g b l' g' (BI hl).2 hg (BI Bq).2 QT,λl hl=>?_,λl cs hl=>?_,λl e sz es hl=>?_,λl ks vs hl=>?_⟩,
  wr E hE h.env,?_,h.Aq,hn,λl b hl hp=>?_⟩
 ·rw[Cw (lt hl)];exact h.heap.dead l (up hl)
 ·obtain⟨b,cur,e,k1,k2,k3,k4⟩:=h.heap.Cm l cs (up hl);exact⟨b,cur,e,by rw[Cw (lt hl)];exact k1,k2,wr cs (o1 l cs hl) k3,k4⟩
 ·obtain⟨k0,k⟩:=h.heap.BJ l e sz es (up hl);refine⟨k0,?_⟩;rw[Cw (lt hl)];exact k.imp id λ⟨b,cap,cur,k1,k2,k3,k4,k5,k6,k7⟩=>⟨b,cap,cur,k1,k2,k3,k4,k5,Aa.mono (Ext.refl _ _) _ (Ay.none _) (A1 _ (E5 (o2 l e sz es hl)) k6),k7⟩
 ·obtain⟨b,es,cl,k1,k2,k3⟩:=h.heap.maps l ks vs (up hl);exact⟨b,es,cl,by rw[Cw (lt hl)];exact k1,k2,k3⟩
 ·obtain⟨ms,d1,d2⟩:=h.defers;have UZ:∀{D:Nat×Obj},Ck C w G.fresh mu D→Ck C w G.fresh (mu.below H.length) D:=λk=>⟨k.at_,k.Gy,λl g hl=>k.own l g (BI hl).2,k.fr⟩
  refine⟨ms,d1,⟨λl cs vs gm hl=>?_,λl I hl=>?_,λd hd=>UZ (d2.marks d hd),d2.nd,λl l' cs vs gm cs' BV gm' hl Bq=>d2.sep l l' cs vs gm cs' BV gm' (up hl) (up Bq)⟩⟩
  ·obtain⟨k1,k2,k3⟩:=d2.Bc l cs vs gm (up hl);exact⟨wr cs (o3 l cs vs gm hl) k1,k2,λD hD=>⟨UZ (k3 D hD).1,(k3 D hD).2⟩⟩
  ·obtain⟨h0,Sw,Sr,f,q2,q3,q4⟩:=d2.Gx l I (up hl);exact⟨h0,Sw,Sr,⟨f.fr,f.base,f.cb,λi g b hi=>f.ob i g b (BI hi).2,f.sub,f.lt,λb hb i g hi=>f.own b hb i g (BI hi).2,f.Gy⟩,q2,q3,λk cs vs gm hk=>q4 k cs vs gm (up hk)⟩
 ·rw[Cw (CW hl hn)];exact h.CA.2 l b hl hp
def Kk:List HO→List HO→Prop→Prop
 |_,[],Q=>Q
 |x::xs,y::ys,Q=>x=y∧Kk xs ys Q
 |[],_::_,_=>False
theorem Iv:∀{xs ys:List HO}{Q:Prop},Kk xs ys Q→Q∧∃R,xs=ys++R
 |xs,[],Q,h=>⟨by cases xs<;>exact h,xs,by simp⟩
 |x::xs,y::ys,Q,h=>by
  unfold Kk at h;obtain⟨rfl,h⟩:=h;obtain⟨q,R,rfl⟩:=Iv h;exact⟨q,R,rfl⟩
 |[],_::_,_,h=>by unfold Kk at h;exact h.elim
end
end Go.Av
namespace Go.Av
open Go.RowKit (Below)
section
variable {G:Cx}{T:List TY}{P:Program}
structure T3(H:List HO)(g:Nat)(E:List AV)(vs:List Value):Prop where
 gh:H[g]?=some (.ghost E vs [])
 ni:∀(l:Nat) I,H[l]?≠some (.inv I)
 ng:∀(l:Nat) cs vs gm,H[l]?=some (.ghost cs vs gm)→gm=[]
def Ge:AE→Option Code
 |.ret=>some .ret
 |.exit id=>some (.exit id)
 |.panic _=>none
def sA(G:Cx)(l:Nat)(rec:Code→Obj)(ms:List Nat)(g:Nat)(E:List AV)(vs:List Value)(Hx:AE→List HO→Prop)(Sw Sr:Nat→Prop)(W:World):Prop:=
 ∃e c H,Ge e=some c∧Hx e H∧T3 H g E vs∧QW G l (rec c) ms H Sw Sr W
theorem sA.LW{l:Nat}{rec:Code→Obj}{ms:List Nat}{g:Nat}{E:List AV}{vs:List Value}{Hx:AE→List HO→Prop}{Sw Sr:Nat→Prop}{w w':World}(h:sA G l rec ms g E vs Hx Sw Sr w)(hs:KH Sr w w'):sA G l rec ms g E vs Hx Sw Sr w':=by
 obtain⟨e,c,H,h1,h2,h3,h4⟩:=h;exact⟨e,c,H,h1,h2,h3,h4.LW h3.ni h3.ng hs⟩
def CR(fn:FuncId)(tmps:Array Value)(ps:Array Tmp)(assign body:Code)(D:Nat)(st:LoopState)(pe:Option Code):Loop:={state:=st,pending:=pe,fn,tmps,params:=ps,assign,body,defers:=D}
theorem XP{l:Nat}{fn:FuncId}{tmps:Array Value}{ps:Array Tmp}{assign body:Code}{D:Nat}{ms:List Nat}{g:Nat}{E:List AV}{H H1:List HO}{x:List AV}{Hx:AE→List HO→Prop}{C1:Ag}{n1:Nat}(hGP:G.P=P)
  (hk:T3 H g E tmps.toList) (bK:T3 H1 g E tmps.toList) (Ba:Cq H1 H1 True) (vF:G.np≤H1.length) (hlen:x.length=ps.size)
  (Jb:Ac P assign (Jo ps.toList x E) H (λE2 H2=>Ac P body E2 H2 (λ_ H'=>Kk H' H1 True) (λe _ H'=>(∃c,Ge e=some c)∧Hx e H'∧T3 H' g E tmps.toList)) (λ_ _ _=>False))
  (Sz:G.W0.heap.size≤l) (Wb:l<n1) (Kl:∀d∈Cs G ms,d.1<n1) (hC1:∀b o,C1 b o→G.C0 b o∨G.fresh b) (lQ:G.W0.heap.size≤n1) (Zbk:∀o,¬C1 l o) (Zbl:∀d∈Cs G ms,∀o,¬C1 d.1 o)
  {C':Ag} {W:World} {us:List Value} {Sw Sr:Nat→Prop} {n:Nat} (Ns:∀b o,C' b o→b<W.heap.size) (kF:∀b o,C' b o→C1 b o∨n1≤b) (hnW:n1≤W.heap.size) (Ko:∀b o,Sw b→¬C' b o)
  (hJ:QW G l (.loop (CR fn tmps ps assign body D .ready none)) ms H Sw Sr W) (hx:Aa C' W x Mu.none us):
  YieldAt (fw none) n P l us.toArray W λe w'=>∃DG CX,KH (λb=>b<W.heap.size∧¬Sw b) W w'∧(∀b,DG b→Sw b∨W.heap.size≤b)∧(∀b,CX b→Sr b∨W.heap.size≤b∨∃o,C' b o)∧
   (∀b,DG b→CX b)∧(∀b,CX b→b<w'.heap.size)∧
   ((e=.returned (.bool true)∧QW G l (.loop (CR fn tmps ps assign body D .ready none)) ms H1 DG CX w')∨
    (e=.returned (.bool false)∧sA G l (λc=>.loop (CR fn tmps ps assign body D .done (some c))) ms g E tmps.toList Hx DG CX w')):=by
 obtain⟨C,mu,Ah,hX,Za,WD⟩:=hJ;have hl:=hX.marks (l,.loop (CR fn tmps ps assign body D .ready none)) (by simp[Cs,Cx.AP])
 have Y6:us.toArray.size=ps.size:=by have:=Ar _ hx;simp;omega
 have hy:=run_yield (P:=P) (args:=us.toArray) hl.at_ Y6;refine⟨fn,_,assign,body,hy,roundIn_of_wpIn trivial ?_⟩;obtain⟨ready,Cu⟩:∃o,o=Obj.loop (CR fn tmps ps assign body D .ready none):=⟨_,rfl⟩;rw[←Cu]at hl hX Ah WD;have kD:Br C W G.fresh mu H ((l,ready)::Cs G ms):=hX.perm (by simp[Cs,Cx.AP])
 let C2:Ag:=λb o=>C b o∨C' b o
 let M0:Nat→Prop:=λb=>(∃i g,mu i=some g∧g.As=some b)∨∃d∈(l,ready)::Cs G ms,d.1=b
 have qI:∀d∈(l,ready)::Cs G ms,∀o,¬C' d.1 o:=λd hd o hc=>by
  rcases D0.1 hd with rfl|hd
  ·rcases kF _ _ hc with k|k;·exact Zbk o k
   ·simp only at k;omega
  ·rcases kF _ _ hc with k|k;·exact Zbl d hd o k
   ·have:=Kl d hd;omega
 have e1:Ext C C2 W W:=⟨λ_ _ h=>.inl h,λ_ _ _=>rfl⟩
 have e2:Ext C' C2 W W:=⟨λ_ _ h=>.inr h,λ_ _ _=>rfl⟩
 have hgE:=(hX.Bc g E tmps.toList [] hk.gh).1
 have pY:ZbH C2 M0 W:=⟨Ah.Ze.mono e1 (λb o hc=>hc.elim (Ah.lt b o) (Ns b o)),λb o hc hM=>by
  rcases hM with⟨i,g,hi,hg⟩|⟨d,hd,rfl⟩;·exact hc.elim ((Ah.heap.fresh i g b hi hg).2.2 o) (Ko b o ((Za b).2 (.inl ⟨i,g,hi,hg⟩)))
  ·exact hc.elim ((kD.marks d hd).Gy o) (qI d hd o)⟩
 let G1:Cx:={P:=P,Zb:=pY,C0:=C2,M0:=M0,W0:=W,K1:=(l,ready)::Cs G ms,rd:=some l,CA:=G.CA,np:=G.np,OM:=λl' h=>⟨CR fn tmps ps assign body D .ready none,by cases h;rw[Cu];simp⟩}
 have hX1:Br C2 W G1.fresh mu H ((l,ready)::Cs G ms):=by
  refine⟨λi cs vs gm hi=>?_,λi I hi=>absurd hi (hk.ni i I),λd hd=>?_,kD.nd,kD.sep⟩
  ·obtain⟨k1,k2,k3⟩:=kD.Bc i cs vs gm hi;have:=hk.ng i cs vs gm hi;subst this;exact⟨Aa.mono e1 _ (Ay.refl _) k1,k2,λD hD=>by cases hD⟩
  ·have k:=kD.marks d hd;exact⟨k.at_,λo hc=>hc.elim (k.Gy o) (qI d hd o),k.own,.inr (.inr ⟨d,hd,rfl⟩)⟩
 have BC:Az G1 C2 mu (Jo ps.toList x E) H {tmps:=(ps.zip us.toArray).foldl (λt (p,v)=>t.setIfInBounds p v) tmps,defers:=[]} W:=by
  refine Ah.Mb (Gk _) (λ_ _=>rfl) (λ_ _ h=>h) (λ_ _ h=>.inl h) (λb o hc=>hc.elim (Ah.lt b o) (Ns b o)) (λ_ _ h=>.inl h) (λi g b hi hg=>⟨.inr (.inl ⟨i,g,hi,hg⟩),λo hc=>?_⟩) ?_ ⟨[],rfl,hX1⟩ ⟨rfl,rfl,rfl,Gk _,λ_ _ _=>rfl⟩ Ah.CA
  ·exact hc.elim ((Ah.heap.fresh i g b hi hg).2.2 o) (Ko b o ((Za b).2 (.inl ⟨i,g,hi,hg⟩)))
  ·have:=Rl (C:=C2) (w:=W) (mu:=mu) ps.toList (Aa.mono e2 _ (Ay.none mu) hx) (Aa.mono e1 _ (Ay.refl _) hgE);rw[←Array.foldl_toList];simpa using this
 obtain⟨busy,SE⟩:∃o,o=Obj.loop (CR fn tmps ps assign body D .busy none):=⟨_,rfl⟩;let G2:Cx:={P:=P,Zb:=pY,C0:=C2,M0:=M0,W0:=W,K1:=(l,busy)::Cs G ms,rd:=some l,CA:=G.CA,np:=G.np,OM:=λl' h=>⟨CR fn tmps ps assign body D .busy none,by cases h;rw[SE];simp⟩}
 have fin:∀{C4:Ag}{LA:Mu}{E4:List AV}{H4:List HO}{a4:Act}{w4:World}(o2:Obj),T3 H4 g E tmps.toList→Az G2 C4 LA E4 H4 a4 w4→
   ∃DG CX,KH (λb=>b<W.heap.size∧¬Sw b) W (w4.putObj l o2)∧(∀b,DG b→Sw b∨W.heap.size≤b)∧(∀b,CX b→Sr b∨W.heap.size≤b∨∃o,C' b o)∧
    (∀b,DG b→CX b)∧(∀b,CX b→b<(w4.putObj l o2).heap.size)∧QW G l o2 ms H4 DG CX (w4.putObj l o2):=by
  intro C4 LA E4 H4 a4 w4 o2 Wc Bv;obtain⟨uH,vO,hX4⟩:=Bv.defers
  have Tm:Br C4 w4 G2.fresh LA H4 ((l,busy)::(Cs G ms++uH.map λD=>(D,Fb))):=hX4.perm (by
   show(uH.map (λD=>(D,Fb))++((l,busy)::Cs G ms)).Perm _
   exact GA)
  have hXo:=Tm.W9 (o':=o2)
  have UZ:∀d∈Cs G ms,W.heap[d.1]?=some d.2∧G.fresh d.1:=λd hd=>by
   have k:=kD.marks d (B7 _ hd);exact⟨k.at_,k.fr⟩
  have vI:G.fresh l:=.inl Sz
  have hfr:∀b,G2.fresh b→G.fresh b:=λb hb=>by
   rcases hb with hb|⟨i,gg,hi,hg⟩|⟨d,hd,rfl⟩;·exact .inl (E1 Ah.Aq.size hb)
   ·exact(Ah.heap.fresh i gg b hi hg).1
   ·rcases D0.1 hd with rfl|hd;·exact vI
    ·exact(UZ d hd).2
  have Yf:∀(i:Nat)(gg:GO)(b:Nat),LA i=some gg→gg.As=some b→(∃i g,mu i=some g∧g.As=some b)∨W.heap.size≤b:=λi gg b hi hg=>by
   rcases (Bv.heap.fresh i gg b hi hg).1 with hb|hb|⟨d,hd,rfl⟩;·exact .inr hb
   ·exact .inl hb
   ·exfalso;rcases D0.1 hd with rfl|hd;·exact(Tm.marks (l,busy) (by simp)).own i gg hi hg
    ·exact(Tm.marks d (by simp[hd])).own i gg hi hg
  have Fy:Jl G (w4.putObj l o2):=by
   refine⟨Bv.Aq.os.trans Ah.Aq.os,Bv.Aq.tape.trans Ah.Aq.tape,Bv.Aq.output.trans Ah.Aq.output,?_,λk hk hn=>?_⟩
   ·simp;exact E1 Ah.Aq.size Bv.Aq.size
   ·have TS:¬G.fresh k:=λh=>h.elim (λh=>absurd h (Nat.not_le_of_lt hk)) hn
    rw[Ao (λe=>TS (by rw[e];exact vI))]
    rw[Bv.Aq.block k (CW hk Ah.Aq.size) (λhM=>?_)]
    ·exact Ah.Aq.block k hk hn
    ·rcases hM with⟨i,gg,hi,hg⟩|⟨d,hd,rfl⟩;·exact TS (Ah.heap.fresh i gg k hi hg).1
     ·rcases D0.1 hd with rfl|hd;·exact TS vI
      ·exact TS (UZ d hd).2
  have Zba:∀b o,G.C0 b o→C4 b o:=λb o h=>Bv.c0 b o (.inl (Ah.c0 b o h))
  have Za9:∀b o,C4 b o→G.C0 b o∨G.fresh b:=λb o h=>by
   rcases Bv.c1 b o h with h|h
   ·rcases h with h|h;·exact Ah.c1 b o h
    ·rcases kF b o h with h|h;·exact hC1 b o h
     ·exact .inr (.inl (E1 lQ h))
   ·exact .inr (hfr b h)
  have IJ:∀o,¬C4 l o:=(Tm.marks (l,busy) (by simp)).Gy
  have vT:Br C4 (w4.putObj l o2) G.fresh LA H4 (Cs (G.AP l o2) ms):=by
   have vS:Br C4 (w4.putObj l o2) G2.fresh LA H4 ((Cs (G.AP l o2) ms)++uH.map λD=>(D,Fb)):=hXo.perm (by
    simp only[Cs,Cx.AP];refine Kn.trans ?_ (Kn.append_right _ J4.symm);simp)
   refine⟨λi cs vs gm hi=>?_,λi I hi=>absurd hi (Wc.ni i I),λd hd=>?_,?_,vS.sep⟩
   ·obtain⟨k1,k2,k3⟩:=vS.Bc i cs vs gm hi;have:=Wc.ng i cs vs gm hi;subst this;exact⟨k1,k2,λD hD=>by cases hD⟩
   ·have k:=vS.marks d (Ef _ hd);exact⟨k.at_,k.Gy,k.own,hfr _ k.fr⟩
   ·have:=vS.nd;rw[List.map_append]at this;exact(List.nodup_append.1 this).1
  have OL:Az (G.AP l o2) C4 LA [] H4 {tmps:=#[],defers:=ms.map mark++G.ds} (w4.putObj l o2):=by
   refine Bv.Mb (by simp) (λb hb=>?_) Zba Za9 (λb o hc=>by simpa using Bv.lt b o hc) (λ_ _ h=>h) (λi gg b hi hg=>⟨hfr _ (Bv.heap.fresh i gg b hi hg).1,(Bv.heap.fresh i gg b hi hg).2.2⟩) (by simp[Aa]) ⟨ms,rfl,vT⟩ ⟨Fy.os,Fy.tape,Fy.output,Fy.size,Fy.block⟩ Bv.CA
   refine Ao λe=>?_
   subst e;rcases hb with⟨o,hc⟩|⟨i,gg,hi,hg⟩;·exact IJ o hc
   ·exact(Tm.marks (b,busy) (by simp)).own i gg hi hg
  have ZaA:W.heap.size≤(w4.putObj l o2).heap.size:=by simp;exact Bv.Aq.size
  refine⟨λb=>(∃i g,LA i=some g∧g.As=some b)∨b=l,λb=>Rel (G.AP l o2) C4 LA (Cs (G.AP l o2) ms) b∧b<(w4.putObj l o2).heap.size,?_,?_,?_,?_,λb hb=>hb.2,C4,LA,OL,vT,λb=>Iff.rfl,λb hb=>⟨hb,?_⟩⟩
  ·refine⟨Bv.Aq.os,Bv.Aq.tape,Bv.Aq.output,ZaA,λb hb=>?_⟩
   have PO:b≠l:=λe=>hb.2 ((Za b).2 (.inr e))
   rw[Ao PO];by_cases hd:∃d∈Cs G ms,d.1=b
   ·obtain⟨d,hd,rfl⟩:=hd;have:=(Tm.marks d (by simp[hd])).at_
    rw[this,(UZ d hd).1]
   ·refine Bv.Aq.block b hb.1 λhM=>?_
    rcases hM with hM|⟨d,qD,rfl⟩;·exact hb.2 ((Za b).2 (.inl hM))
    ·rcases D0.1 qD with rfl|qD;·exact PO rfl
     ·exact hd ⟨d,qD,rfl⟩
  ·intro b hb;rcases hb with⟨i,gg,hi,hg⟩|rfl;·exact(Yf i gg b hi hg).imp (λh=>(Za b).2 (.inl h)) id
   ·exact .inl ((Za b).2 (.inr rfl))
  ·intro b hb;rcases hb.1 with h|⟨o,h⟩|⟨i,gg,hi,hg⟩|⟨d,hd,rfl⟩;·exact .inl (WD b (.inl h))
   ·rcases Bv.c1 b o h with h|h
    ·rcases h with h|h;·exact .inl (WD b (.inr (.inl ⟨o,h⟩)))
     ·exact .inr (.inr ⟨o,h⟩)
    ·rcases h with h|h|⟨d,hd,rfl⟩;·exact .inr (.inl h)
     ·exact .inl (WD b (.inr (.inr (.inl h))))
     ·refine .inl (WD d.1 (.inr (.inr (.inr ⟨d,?_,rfl⟩))));simp only[Cs,Cx.AP,It,D0]at hd ⊢;rcases hd with hd|hd|hd;·exact .inr (.inl hd)
      ·exact .inl hd
      ·exact .inr (.inr hd)
   ·rcases Yf i gg b hi hg with h|h;·exact .inl (WD b (.inr (.inr (.inl h))))
    ·exact .inr (.inl h)
   ·refine .inl (WD d.1 (.inr (.inr (.inr ?_))));simp only[Cs,Cx.AP,It,D0]at hd ⊢;rcases hd with hd|rfl|hd;·exact⟨d,.inl hd,rfl⟩
    ·exact⟨(l,ready),.inr (.inl rfl),rfl⟩
    ·exact⟨d,.inr (.inr hd),rfl⟩
  ·intro b hb;rcases hb with⟨i,gg,hi,hg⟩|rfl;·exact⟨.inr (.inr (.inl ⟨i,gg,hi,hg⟩)),(OL.heap.fresh i gg b hi hg).2.1⟩
   ·exact⟨.inr (.inr (.inr ⟨(b,o2),by simp[Cs,Cx.AP],rfl⟩)),(Bh.1 (vT.marks (b,o2) (by simp[Cs,Cx.AP])).at_).1⟩
  ·rcases hb with h|⟨o,h⟩|⟨i,gg,hi,hg⟩|⟨d,hd,rfl⟩;·exact CW h Fy.size
   ·exact OL.lt b o h
   ·exact(OL.heap.fresh i gg b hi hg).2.1
   ·exact(Bh.1 (vT.marks d hd).at_).1
 refine wpIn_mono (Jb.out n G1 _ W rfl ⟨C2,mu,BC⟩) λe1 a1 w1 hq=>?_
 cases e1 with
 |exit id=>obtain⟨_,_,h,_⟩:=hq;exact h.elim
 |goto t=>exact hq.elim
 |ret=>obtain⟨_,_,h,_⟩:=hq;exact h.elim
 |panic chain=>obtain⟨_,_,_,_,_,_,_,h,_⟩:=hq;exact h.elim
 |outgrown=>exact hq.elim
 |normal=>
  obtain⟨E2,H2,hB,C3,jF,CL⟩:=hq;obtain⟨jG,lS,hX3⟩:=CL.defers
  have Tm:Br C3 w1 G1.fresh jF H2 ((l,ready)::(Cs G ms++jG.map λD=>(D,Fb))):=hX3.perm (by
   show(jG.map (λD=>(D,Fb))++((l,ready)::Cs G ms)).Perm _
   exact GA)
  have Wa:=Tm.marks (l,ready) (by simp)
  have hlr:w1.heap[l]?=some (.loop (CR fn tmps ps assign body D .ready none)):=by rw[←Cu];exact Wa.at_
  refine⟨w1.putObj l busy,by rw[SE];exact run_beginRound hlr rfl,?_⟩
  have vU:=Tm.W9 (o':=busy);have he2:Ext C3 C3 w1 (w1.putObj l busy):=Ext.of_block (λ_ _ h=>h) λb i hc=>Ao λe=>Wa.Gy i (by rw[←e];exact hc)
  have Ec:Az G2 C3 jF E2 H2 a1 (w1.putObj l busy):=by
   refine CL.Mb (by simp) (λb hb=>?_) CL.c0 CL.c1 (λb o hc=>by simpa using CL.lt b o hc) (λ_ _ h=>h) (λi gg b hi hg=>⟨(CL.heap.fresh i gg b hi hg).1,(CL.heap.fresh i gg b hi hg).2.2⟩) (Aa.mono he2 _ (Ay.refl _) CL.env) ⟨jG,lS,vU.perm ?_⟩ ⟨CL.Aq.os,CL.Aq.tape,CL.Aq.output,by simpa using CL.Aq.size,λk hk hn=>?_⟩ CL.CA
   ·refine Ao λe=>?_
    subst e;rcases hb with⟨o,hc⟩|⟨i,gg,hi,hg⟩;·exact Wa.Gy o hc
    ·exact Wa.own i gg hi hg
   ·show Kn _ (jG.map (λD=>(D,Fb))++((l,busy)::Cs G ms))
    exact(GA (l₁:=jG.map (λD=>(D,Fb))) (l₂:=(l,busy)::Cs G ms)).symm
   ·rw[Ao (λe=>hn (by rw[e];exact .inr ⟨(l,ready),by simp,rfl⟩))]
    exact CL.Aq.block k hk hn
  refine wpIn_mono (hB.out n G2 a1 _ rfl ⟨C3,jF,Ec⟩) λe4 a4 w4 jT=>?_
  have AO:∀{C4:Ag}{LA:Mu}{E4:List AV}{H4:List HO},Az G2 C4 LA E4 H4 a4 w4→w4.heap[l]?=some (.loop (CR fn tmps ps assign body D .busy none)):=λBv=>by
   obtain⟨uH,vO,hX4⟩:=Bv.defers;rw[←SE];exact(hX4.marks (l,busy) (by simp[G2])).at_
  cases e4 with
  |normal=>
   obtain⟨E4,H4,ZaE,C4,LA,Bv⟩:=jT;have hr:=run_endRound (P:=P) none (AO Bv);obtain⟨_,R,rfl⟩:=Iv ZaE;have OL:Az G2 C4 LA [] (H1++R) {tmps:=#[],defers:=a4.defers} w4:=Bv.frame (by unfold Aa;rfl) rfl
   obtain⟨DG,CX,q1,q2,q3,q4,q5,q6⟩:=fin ready bK (OL.drop rfl Ba vF);rw[Cu]at q1 q5 q6;exact⟨_,_,hr,DG,CX,q1,q2,q3,q4,q5,.inl ⟨rfl,q6⟩⟩
  |ret=>
   obtain⟨E4,H4,⟨_,Tq,Wc⟩,C4,LA,Bv⟩:=jT;have hr:=run_endRound (P:=P) (some .ret) (AO Bv);obtain⟨DG,CX,q1,q2,q3,q4,q5,q6⟩:=fin (.loop (CR fn tmps ps assign body D .done (some .ret))) Wc Bv;exact⟨_,_,hr,DG,CX,q1,q2,q3,q4,q5,.inr ⟨rfl,.ret,.ret,H4,rfl,Tq,Wc,q6⟩⟩
  |exit id=>
   obtain⟨E4,H4,⟨_,Tq,Wc⟩,C4,LA,Bv⟩:=jT;have hr:=run_endRound (P:=P) (some (.exit id)) (AO Bv);obtain⟨DG,CX,q1,q2,q3,q4,q5,q6⟩:=fin (.loop (CR fn tmps ps assign body D .done (some (.exit id)))) Wc Bv;exact⟨_,_,hr,DG,CX,q1,q2,q3,q4,q5,.inr ⟨rfl,.exit id,.exit id,H4,rfl,Tq,Wc,q6⟩⟩
  |goto t=>exact jT.elim
  |panic chain=>obtain⟨_,_,_,_,_,_,_,⟨⟨_,h⟩,_⟩,_⟩:=jT;cases h
  |outgrown=>exact jT.elim
end
section
variable {G:Cx}{C:Ag}{w w':World}{mu:Mu}{H:List HO}{E:List AV}{a:Act}{T:List TY}{P:Program}
theorem Az.gI(h:Az G C mu E H a w){ms:List Nat}(hx:Br C w G.fresh mu H (Cs G ms))(o:Obj):Br C (w.alloc o) G.fresh mu H (Cs G ms):=
 hx.step (GY (λb hb=>hb.1) o) (λl g b hm hb=>.inl ⟨l,g,hm,hb⟩) (λ_ _ h=>.inl h) (λl cs vs ms hl=>⟨cs,hl,Aa.mono (IF h.lt o) _ (Ay.refl _)⟩) (λ_ _ h=>h)
def CD:List HO→Bool
 |[]=>true
 |.inv _::_=>false
 |.ghost _ _ []::r=>CD r
 |.ghost _ _ (_::_)::_=>false
 |.cells _::r=>CD r
 |.arr _ _ _::r=>CD r
 |.dead::r=>CD r
 |.map _ _::r=>CD r
theorem BS:∀{H:List HO},CD H=true→∀(l:Nat) I,H[l]?≠some (.inv I)
 |[],_,l,I=>by simp
 |o::r,h,0,I=>by intro e;simp at e;subst e;cases h
 |o::r,h,l+1,I=>by
  have hr:CD r=true:=by
   cases o with
   |ghost cs vs ms=>cases ms<;>simp_all[CD]
   |_=>simp_all[CD]
  simpa using BS hr l I
theorem CF:∀{H:List HO},CD H=true→∀(l:Nat) cs vs gm,H[l]?=some (.ghost cs vs gm)→gm=[]
 |[],_,l,cs,vs,gm=>by simp
 |o::r,h,0,cs,vs,gm=>by
  intro e;simp at e;subst e
  cases gm with
  |nil=>rfl
  |cons _ _=>cases h
 |o::r,h,l+1,cs,vs,gm=>by
  have hr:CD r=true:=by
   cases o with
   |ghost cs vs ms=>cases ms<;>simp_all[CD]
   |_=>simp_all[CD]
  simpa using CF hr l cs vs gm
theorem S1(Ah:Az G C mu E H a w){ms:List Nat}(hx:Br C w G.fresh mu H (Cs G ms))(OP:∀(l:Nat) I,H[l]?≠some (.inv I))(TS:∀(l:Nat) cs vs gm,H[l]?=some (.ghost cs vs gm)→gm=[])
  (fn:FuncId) (tmps:Array Value) (ps:Array Tmp) (assign body:Code):
  ∃l D new W1,(Instr.enterLoop fn tmps ps assign body G.rd).run P w=.ok (l,new.map mark) W1∧w.heap.size≤l∧l<W1.heap.size∧Az G C mu E H a W1∧
   Br C W1 G.fresh mu H ((l,.loop (CR fn tmps ps assign body D .ready none))::Cs G (new++ms)):=by
 cases OM:G.rd with
 |none=>
  have h1:=Ah.Mv Fb;have x1:=Ah.gI hx Fb;have m1:=Ah.VP Fb;have lQ:∀d∈Cs G ms,d.1<w.heap.size:=λd hd=>(Bh.1 (hx.marks d hd).at_).1
  have p1:Br C (w.alloc Fb) G.fresh mu H ((w.heap.size,Fb)::Cs G ms):=x1.push OP TS m1 (by
   intro hm;obtain⟨d,hd,he⟩:=Gz.1 hm;have:=lQ d hd;omega)
  obtain⟨o2,ho2⟩:∃o2:Obj,o2=.loop (CR fn tmps ps assign body w.heap.size .ready none):=⟨_,rfl⟩;have h2:=h1.Mv o2;have x2:Br C ((w.alloc Fb).alloc o2) G.fresh mu H ((w.heap.size,Fb)::Cs G ms):=p1.step (GY (λb hb=>hb.1) o2) (λl g b hm hb=>.inl ⟨l,g,hm,hb⟩) (λ_ _ h=>.inl h) (λl cs vs ms hl=>⟨cs,hl,Aa.mono (IF h1.lt o2) _ (Ay.refl _)⟩) (λ_ _ h=>h)
  have m2:=h1.VP o2
  have p2:Br C ((w.alloc Fb).alloc o2) G.fresh mu H (((w.alloc Fb).heap.size,o2)::(w.heap.size,Fb)::Cs G ms):=x2.push OP TS m2 (by
   intro hm;obtain⟨d,hd,he⟩:=Gz.1 hm
   simp only[World.size_alloc]at he;rcases D0.1 hd with rfl|hd;·simp at he
   ·have:=lQ d hd;omega)
  refine⟨w.heap.size+1,w.heap.size,[w.heap.size],(w.alloc Fb).alloc o2,?_,by omega,by simp,h2,?_⟩
  ·rw[run_enterLoop_outer,ho2];rfl
  ·rw[←ho2];simpa[Cs]using p2
 |some l0=>
  obtain⟨r0,LP⟩:=G.OM l0 OM;have Sz:=(hx.marks (l0,.loop r0) (by simp[Cs,LP])).at_
  have lQ:∀d∈Cs G ms,d.1<w.heap.size:=λd hd=>(Bh.1 (hx.marks d hd).at_).1
  obtain⟨o2,ho2⟩:∃o2:Obj,o2=.loop (CR fn tmps ps assign body r0.defers .ready none):=⟨_,rfl⟩;have h2:=Ah.Mv o2;have x2:=Ah.gI hx o2;have m2:=Ah.VP o2
  have p2:Br C (w.alloc o2) G.fresh mu H ((w.heap.size,o2)::Cs G ms):=x2.push OP TS m2 (by
   intro hm;obtain⟨d,hd,he⟩:=Gz.1 hm;have:=lQ d hd;omega)
  refine⟨w.heap.size,r0.defers,[],w.alloc o2,?_,Gk _,by simp,h2,?_⟩
  ·rw[run_enterLoop_inner Sz,ho2];rfl
  ·rw[←ho2];simpa using p2
theorem Az.Oz(h:Az G C mu E H a w){ms:List Nat}(hx:Br C w G.fresh mu H (Cs G ms)){E0:List AV}{vs:List Value}(he:Aa C w E0 mu vs)(OP:∀(l:Nat) I,H[l]?≠some (.inv I)):
  AX C w G.fresh mu (H++[.ghost E0 vs []])∧Br C w G.fresh mu (H++[.ghost E0 vs []]) (Cs G ms):=by
 have hd:∀l g,mu l=some g→l<(H++[HO.ghost E0 vs []]).length:=λl g hg=>by have:=h.heap.HH l g hg;simp;omega
 have PN:∀(l:Nat)(ob:HO),(H++[HO.ghost E0 vs []])[l]?=some ob→H[l]?=some ob∨ob=.ghost E0 vs []:=λl ob hl=>by
  rw[List.getElem?_append]at hl;split at hl;·exact .inl hl
  ·right;cases hq:l-H.length with
   |zero=>rw[hq]at hl;simpa using hl.symm
   |succ n=>rw[hq]at hl;simp at hl
 refine⟨⟨hd,h.heap.fresh,h.heap.sep,λl hl=>?_,λl cs hl=>?_,λl e sz es hl=>?_,λl ks vs hl=>?_⟩,⟨λl cs BV gm hl=>?_,λl I hl=>?_,hx.marks,hx.nd,λl l' cs vs ms cs' BV Ds hl Bq Bu D hD=>?_⟩⟩
 ·rcases PN l _ hl with k|k;·exact h.heap.dead l k
  ·cases k
 ·rcases PN l _ hl with k|k;·exact h.heap.Cm l cs k
  ·cases k
 ·rcases PN l _ hl with k|k;·exact h.heap.BJ l e sz es k
  ·cases k
 ·rcases PN l _ hl with k|k;·exact h.heap.maps l ks vs k
  ·cases k
 ·rcases PN l _ hl with k|k;·exact hx.Bc l cs BV gm k
  ·cases k;exact⟨he,JG,λD hD=>by cases hD⟩
 ·rcases PN l _ hl with k|k;·exact absurd k (OP l I)
  ·cases k
 ·intro qH;rcases PN l _ hl with k|k
  ·rcases PN l' _ Bq with k'|k';·exact hx.sep l l' _ _ _ _ _ _ k k' Bu D hD qH
   ·cases k';cases qH
  ·cases k;cases hD
theorem Kf{l:Nat}{o o':Obj}{ms:List Nat}{g:Nat}{E:List AV}{H:List HO}{Sw Sr:Nat→Prop}{W:World}{a:Act}(hk:T3 H g E a.tmps.toList)(hJ:QW G l o ms H Sw Sr W)(hd:a.defers=ms.map mark++G.ds):
  St G E H a (W.putObj l o'):=by
 obtain⟨C,mu,Ah,hX,_,_⟩:=hJ;have Tm:Br C W G.fresh mu H ((l,o)::Cs G ms):=hX.perm (by simp[Cs,Cx.AP])
 have hl:=Tm.marks (l,o) (by simp)
 have vU:=Tm.W9 (o':=o')
 have hX3:Br C (W.putObj l o') G.fresh mu H (Cs G ms):=by
  refine⟨λi cs vs gm hi=>?_,λi I hi=>absurd hi (hk.ni i I),λd hd=>vU.marks d (B7 _ hd),(Hp.1 vU.nd).2,vU.sep⟩
  obtain⟨k1,k2,k3⟩:=vU.Bc i cs vs gm hi;exact⟨k1,k2,λD hD=>⟨(k3 D hD).1,λh=>(k3 D hD).2 (B7 _ h)⟩⟩
 refine⟨C,mu,Ah.Mb (by simp) (λb hb=>?_) Ah.c0 Ah.c1 (λb o hc=>by simpa using Ah.lt b o hc) (λ_ _ h=>h) (λi gg b hi hg=>⟨(Ah.heap.fresh i gg b hi hg).1,(Ah.heap.fresh i gg b hi hg).2.2⟩) (vU.Bc g E _ [] hk.gh).1 ⟨ms,hd,hX3⟩
  ⟨Ah.Aq.os,Ah.Aq.tape,Ah.Aq.output,(by have:=Ah.Aq.size;simp[Cx.AP]at this ⊢;exact this),λk Hc hn=>?_⟩ Ah.CA⟩
 ·refine Ao λe=>?_
  subst e;rcases hb with⟨o,hc⟩|⟨i,gg,hi,hg⟩;·exact hl.Gy o hc
  ·exact hl.own i gg hi hg
 ·rw[Ao (λe=>?_)]
  ·exact Ah.Aq.block k Hc hn
  ·subst e;rcases hl.fr with h|h;·simp only at h;omega
   ·exact hn h
theorem IL{F:Fence}{m:Nat}{P:Program}{l:Nat}{args:Array Value}{W:World}{R R':Ending→World→Prop}(h:YieldAt F m P l args W R)(hr:∀e w,R e w→R' e w):YieldAt F m P l args W R':=by
 obtain⟨fn,tmps,assign,body,hy,hR⟩:=h;exact⟨fn,tmps,assign,body,hy,hR.mono hr⟩
theorem Ac.rangeFunc{g:Operand}{ps:Array Tmp}{assign body:Code}{E E0:List AV}{H:List HO}{K:KK}{X:XX}{f:FuncId}{cap:List AV}{xs:List (List AV)}
  (hE:sB E E0) (hg:AM E g=.fn f cap) (hc:Ap cap=true) (JE:yW P f cap xs) (hH:CD H=true)
  (Hs:List Value→Nat→List HO) (Hx:List Value→AE→List HO→Prop) (h0:∀vs,Hs vs 0=H++[.ghost E0 vs []]) (D5:∀vs k,CD (Hs vs k)=true∧(Hs vs k)[H.length]?=some (.ghost E0 vs [])∧Cq (Hs vs k) (Hs vs k) True)
  (round:∀vs k x,xs[k]?=some x→x.length=ps.size∧Ac P assign (Jo ps.toList x E0) (Hs vs k)
   (λE2 H2=>Ac P body E2 H2 (λ_ H'=>Kk H' (Hs vs (k+1)) True) (λe _ H'=>(∃c,Ge e=some c)∧Hx vs e H'∧CD H'=true∧H'[H.length]?=some (.ghost E0 vs []))) (λ_ _ _=>False))
  (done:∀vs,K E0 (Hs vs xs.length)) (exit:∀vs e H',Hx vs e H'→X e E0 H'):Ac P (.rangeFunc g ps assign body) E H K X:=by
 refine⟨λn G a w hP Ah=>?_⟩
 obtain⟨C,mu,Ah⟩:=Ah;obtain⟨ms,hd,hx⟩:=Ah.defers;subst hP;refine wpIn_rangeFunc λfn _=>?_
 obtain⟨l,D,new,W1,he,Sz,Wb,BC,TN⟩:=S1 (P:=G.P) Ah hx (BS hH) (CF hH) fn a.tmps ps assign body;obtain⟨vs,La⟩:∃vs,vs=a.tmps.toList:=⟨_,rfl⟩;obtain⟨ready,Cu⟩:∃o,o=Obj.loop (CR fn a.tmps ps assign body D .ready none):=⟨_,rfl⟩;rw[←Cu]at TN;have hE0:Aa C W1 E0 mu vs:=by rw[La];exact KI hE BC.env
 have Ym:=AT BC.env g;rw[hg]at Ym;unfold Aj at Ym;obtain⟨us,Ym,EM⟩:=Ym;have EM:=A1 cap hc EM
 obtain⟨fnd,JK,Yq,Yi⟩:∃fd,G.P.funcs[f]?=some fd∧fd.body≠none∧fd.name ≠ "runtime.NumGoroutine":=by
  have U2:=JE.Ed;unfold B5 at U2;cases JK:G.P.funcs[f]? with
  |none=>rw[JK]at U2;cases U2
  |some fd=>
   rw[JK]at U2;simp only[D6]at U2;exact⟨fd,rfl,by cases hh:fd.body<;>simp_all,by simpa using U2.2⟩
 have HW:T3 (Hs vs 0) H.length E0 vs:=⟨(D5 vs 0).2.1,BS (D5 vs 0).1,CF (D5 vs 0).1⟩;have LC:∀k,T3 (Hs vs k) H.length E0 vs:=λk=>⟨(D5 vs k).2.1,BS (D5 vs k).1,CF (D5 vs k).1⟩
 -- lI state before lI first round
 have Sp:Br C W1 G.fresh mu H (Cs (G.AP l ready) (new++ms)):=TN.perm (by
  simp only[Cs,Cx.AP];exact J4.symm)
 have Ec:Az (G.AP l ready) C mu [] H {tmps:=#[],defers:=(new++ms).map mark++G.ds} W1:=
  ⟨BC.c0,BC.c1,BC.lt,BC.heap,by simp[Aa],⟨_,rfl,Sp⟩,⟨BC.Aq.os,BC.Aq.tape,BC.Aq.output,BC.Aq.size,BC.Aq.block⟩,BC.CA⟩
 obtain⟨hp1,Mp⟩:=Ec.Oz Sp hE0 (BS hH)
 have hJ0:QW G l ready (new++ms) (Hs vs 0) (λb=>(∃i g,mu i=some g∧g.As=some b)∨b=l) (λb=>Rel (G.AP l ready) C mu (Cs (G.AP l ready) (new++ms)) b) W1:=by
  rw[h0 vs];exact⟨C,mu,⟨Ec.c0,Ec.c1,Ec.lt,hp1,by simp[Aa],⟨_,rfl,Mp⟩,Ec.Aq,by have:=Ec.CA.1;simp;omega,Ec.CA.2⟩,Mp,λb=>Iff.rfl,λb hb=>hb⟩
 let I:Nat→Inv:=λk=>⟨λSw Sr W=>QW G l ready (new++ms) (Hs vs k) Sw Sr W,λSw Sr w w' h hs=>QW.LW (LC k).ni (LC k).ng h hs,C,W1.heap.size⟩
 let Ix:Inv:=⟨λSw Sr W=>sA G l (λc=>.loop (CR fn a.tmps ps assign body D .done (some c))) (new++ms) H.length E0 vs (Hx vs) Sw Sr W,λSw Sr w w' h hs=>sA.LW h hs,C,W1.heap.size⟩
 have vH:=TN.marks (l,ready) (by simp)
 have pI:∀d∈Cs G (new++ms),Ck C W1 G.fresh mu d:=λd hd=>TN.marks d (B7 _ hd)
 have hW1:w.heap.size≤W1.heap.size:=by omega
 have Yp:=JE.out l I Ix C W1 us _ _ BC.Ze rfl rfl (λb o hb hc=>?_) (λb hb=>?_) (λb hb=>?_) hJ0 EM (λk x hk=>?_)
 ·have QA:(JA (.yield l) #[] #[]::us).toArray=#[JA (.yield l) #[] #[]]++us.toArray:=by simp
  refine⟨l,new.map mark,W1,{target:=.fn (.func f) us.toArray,args:=#[.func (.yield l) #[] #[]]},W1,f,#[.func (.yield l) #[] #[]]++us.toArray,W1,he,?_,?_,?_,λh=>(by cases h),?_⟩
  ·simp only[resolve,Ym];simp[go_sem]
  ·intro f' hf';trivial
  ·simp[invoke,callFunc,JK,Yi,Yq]
  ·refine(callsIn_wide (n:=n-1)).2 ?_;rw[←QA];refine Yp.mono λe w3 DC=>?_
   obtain⟨v,DG,CX,rfl,DC⟩:=DC;have hda:({a with defers:=new.map mark++a.defers}:Act).defers=(new++ms).map mark++G.ds:=by simp[hd]
   have zI:({a with defers:=new.map mark++a.defers}:Act).tmps.toList=vs:=La.symm
   rcases DC with hJ|hJ
   ·have Wa:w3.heap[l]?=some (.loop (CR fn a.tmps ps assign body D .ready none)):=by
     obtain⟨C3,jF,_,hX,_,_⟩:=hJ;rw[←Cu];exact(hX.marks (l,ready) (by simp[Cs,Cx.AP])).at_
    exact⟨none,_,run_endLoop Wa (by simp[CR]),E0,_,done vs,Kf (g:=H.length) (by rw[zI];exact LC _) hJ hda⟩
   ·obtain⟨e,c,H',h1,h2,h3,hJ⟩:=hJ
    have Wa:w3.heap[l]?=some (.loop (CR fn a.tmps ps assign body D .done (some c))):=by
     obtain⟨C3,jF,_,hX,_,_⟩:=hJ;exact(hX.marks (l,_) (by simp[Cs,Cx.AP])).at_
    have hS:=λo'=>Kf (o':=o') (g:=H.length) (a:={a with defers:=new.map mark++a.defers}) (by rw[zI];exact h3) hJ hda
    refine⟨some c,_,run_endLoop Wa (by simp[CR]),?_⟩
    cases e with
    |ret=>simp only[Ge,Ep.injEq]at h1;subst h1;exact wpIn_ret ⟨E0,H',exit vs _ _ h2,hS _⟩
    |exit id=>simp only[Ge,Ep.injEq]at h1;subst h1;exact wpIn_exit ⟨E0,H',exit vs _ _ h2,hS _⟩
    |panic x=>cases h1
 ·rcases hb with⟨i,gg,hi,hg⟩|rfl;·exact(BC.heap.fresh i gg b hi hg).2.2 o hc
  ·exact vH.Gy o hc
 ·rcases hb with hb|rfl;·exact .inr (.inr (.inl hb))
  ·exact .inr (.inr (.inr ⟨(b,ready),by simp[Cs,Cx.AP],rfl⟩))
 ·rcases hb with h|⟨o,h⟩|⟨i,gg,hi,hg⟩|⟨d,hd,rfl⟩;·exact CW h BC.Aq.size
  ·exact BC.lt b o h
  ·exact(BC.heap.fresh i gg b hi hg).2.1
  ·exact(Bh.1 (Sp.marks d hd).at_).1
 ·obtain⟨hlen,Jb⟩:=round vs k x hk;refine⟨⟨rfl,rfl,rfl,rfl⟩,l,rfl,λC' W Tw Sw Sr n' Ns kF hnW Ko OK Zdb hJ Qw=>?_⟩
  have Yu:QW G l ready (new++ms) (Hs vs k) Sw Sr W:=hJ;have sP:T3 (Hs vs k) H.length E0 a.tmps.toList:=by rw[←La];exact LC k
  have ZaS:T3 (Hs vs (k+1)) H.length E0 a.tmps.toList:=by rw[←La];exact LC (k+1)
  rw[Cu]at Yu
  have hY:=XP (n:=n') (P:=G.P) (Hx:=Hx vs) (C1:=C) (n1:=W1.heap.size) rfl sP ZaS (D5 vs (k+1)).2.2 (E1 Ah.CA.1 (Nat.le_of_lt (Bj.1 (D5 vs (k+1)).2.1).1)) hlen
    (Jb.mono (λE2 H2 h=>h.mono (λ_ _ h=>h) (λe E' H' h=>⟨h.1,h.2.1,by rw[La]at h;exact h.2.2.2,BS h.2.2.1,CF h.2.2.1⟩)) (λ_ _ _ h=>h))
    (E1 Ah.Aq.size Sz) Wb (λd hd=>(Bh.1 (pI d hd).at_).1) BC.c1 (E1 Ah.Aq.size hW1) vH.Gy (λd hd=>(pI d hd).Gy) Ns kF hnW Ko Yu Qw
  refine IL hY ?_
  ·rintro e w' ⟨DG,CX,q1,q2,q3,q4,q5,q6⟩;refine⟨DG,CX,q1,q2,q3,q4,q5,?_⟩;rcases q6 with⟨rfl,q⟩|⟨rfl,q⟩;·exact .inl ⟨rfl,by rw[←Cu]at q;exact q⟩
   ·exact .inr ⟨rfl,by rw[←La]at q;exact q⟩
end
structure Jy(C:Ag)(mu:Mu)(w:World)(C':Ag)(mu':Mu)(w':World):Prop where
 same:KH (λb=>b<w.heap.size∧∀l g,mu l=some g→g.As≠some b) w w'
 sub:∀b o,C b o→C' b o
 new:∀b o,C' b o→b<w'.heap.size∧(C b o∨w.heap.size≤b∨∃l g,mu l=some g∧g.As=some b)
 CA:∀l b,mu l=some (.CU b)→mu' l=some (.CU b)
 ob:∀l g b,mu' l=some g→g.As=some b→(∃l g,mu l=some g∧g.As=some b)∨w.heap.size≤b
def B1:List HO→Bool
 |[]=>true
 |.cells _::r=>B1 r
 |.arr _ _ _::r=>B1 r
 |.map _ _::r=>B1 r
 |.dead::r=>B1 r
 |_::_=>false
theorem GF:∀{H:List HO},B1 H=true→∀{l:Nat}{ob:HO},H[l]?=some ob→ob.real=true∨ob=.dead
 |[],_,l,ob,h=>by simp at h
 |o::r,hr,0,ob,h=>by
  simp only[Ei,Ep.injEq]at h;subst h;cases o<;>simp_all[B1]
 |o::r,hr,l+1,ob,h=>by
  have Nq:B1 r=true:=by cases o<;>first|exact hr|cases hr
  exact GF Nq (by simpa using h)
structure FE(P:Program)(f:FuncId)(args:List AV)(H0:List HO)(R X:AV→List HO→Prop):Prop where
 Ed:B5 P f=true
 out:∀(C:Ag)(mu:Mu)(w:World)(vs:List Value),Zh C w→AX C w (λ_=>True) mu H0→Aa C w args mu vs→
  Calls P f vs.toArray w λe w'=>∃r v H1 C' mu',((e=.returned v∧R r H1)∨(e=.panicked [{v,recovered:=false}]∧X r H1))∧Jy C mu w C' mu' w'∧AX C' w' (λ_=>True) mu' H1∧Aj C' w' r mu' v∧
   H1.length=H0.length∧B1 H1=true∧∀l:Nat,H0[l]?=some HO.dead→H1[l]?=some HO.dead
def CS(N:Nat)(H:List HO):Nat→AV→(AV→Prop)→Prop
 |0,v,K=>match closed v with|true=>v.force K|false=>False
 |n+1,v,K=>match v with
  |.own l sz lo m=>match J1 l N with
   |true=>K (.own l sz lo m)
   |false=>B6 H l λob=>(match ob with
    |.arr _ BD es=>(match Kr sz BD&&Kr lo 0 with
     |true=>(m=es.length∧∀e∈es,closed e=true)∧K (.sl sz es)
     |false=>False)
    |_=>False)
  |.el l sz i o=>match J1 l N with|true=>K (.el l sz i o)|false=>False
  |.ptr l o=>match J1 l N with
   |true=>K (.ptr l o)
   |false=>B6 H l λob=>(match ob with
    |.cells cs=>Gw (CS N H n) cs λcs=>(match Ap cs with|true=>HG cs o λcs=>K (.at_ cs)|false=>False)
    |_=>False)
  |.fn f cap=>Gw (CS N H n) cap λcs=>K (.fn f cs)
  |.mv f cap=>Gw (CS N H n) cap λcs=>K (.mv f cs)
  |.agg cs=>Gw (CS N H n) cs λcs=>K (.agg cs)
  |.tuple cs=>Gw (CS N H n) cs λcs=>K (.tuple cs)
  |.iface t x=>CS N H n x λx=>K (.iface t x)
  |.om l=>(match J1 l N with
   |true=>K (.om l)
   |false=>B6 H l λob=>(match ob with|.map ks vs=>K (.mp ks vs)|_=>False))
  |v=>v.force K
def CV(N:Nat)(H:List HO):List HO→List HO→(List HO→Prop)→Prop
 |[],_,K=>K []
 |.dead::r0,.dead::r,K=>CV N H r0 r λr=>K (.dead::r)
 |.dead::_,_,_=>False
 |_::r0,.dead::r,K=>CV N H r0 r λr=>K (.dead::r)
 |_::r0,.cells cs::r,K=>Gw (CS N H 4) cs λcs=>CV N H r0 r λr=>K (.cells cs::r)
 |_::r0,.arr e sz es::r,K=>(∀e∈es,closed e=true)∧CV N H r0 r λr=>K (.arr e sz es::r)
 |_::r0,.map ks vs::r,K=>CV N H r0 r λr=>K (.map ks vs::r)
 |_,_,_=>False
def fB(T:List TY)(rs:List ResultVar)(H0:List HO)(R:AV→List HO→Prop)(E:List AV)(H:List HO):Prop:=
 VA T E H rs λvs=>match vs with
  |[v]=>CS H0.length H 4 v λv=>CV H0.length H H0 H λH1=>R v H1
  |vs=>CS H0.length H 5 (.tuple vs) λv=>CV H0.length H H0 H λH1=>R v H1
def ZcX(H0:List HO)(X:AV→List HO→Prop)(x:AV)(H:List HO):Prop:=
 CS H0.length H 4 x λx=>CV H0.length H H0 H λH1=>X x H1
section
variable {G:Cx}{C C':Ag}{w w':World}{mu:Mu}{H:List HO}{E:List AV}{a:Act}{T:List TY}{P:Program}
theorem Ft{n:Nat}{fn:Func}{R:Ending→World→Prop}{tmps tm2:Array Value}(qC:G.ds=[]){u:FrameMode}(hu:u≠.run):∀(ms:List Nat){w:World}{a:Act},a.tmps=tm2→Az G C mu E H a w→Br C w G.fresh mu H (ms.map (λD=>(D,Fb))++G.K1)→
  (∀a' w',a'.tmps=tm2→Az G C mu E H a' w'→LeavesIn (fw none) n G.P fn tmps R [] u w')→LeavesInM (fw none) n G.P fn tmps R (ms.map mark) u w
 |[],w,a,ha,h,hx,hr=>by
  simp only[List.map_nil,LeavesInM];exact hr a w ha h
 |D::ms,w,a,ha,h,hx,hr=>by
  simp only[List.map_cons,LeavesInM];obtain⟨h1,h2⟩:=h.Rc hx;refine⟨hu,.inl ⟨D,_,rfl,run_takeDeferred ?_,Ft qC hu ms (by exact ha) h1 h2 hr⟩⟩
  exact(hx.marks (D,Fb) (by simp)).at_
def YJ(G:Cx)(C:Ag)(mu:Mu)(w:World)(N:Nat):Ag:=λb o=>C b o∨(b<w.heap.size∧G.fresh b∧∀l g,mu.below N l=some g→g.As≠some b)
theorem NF(N:Nat):Ext C (YJ G C mu w N) w w:=⟨λ_ _ h=>.inl h,λ_ _ _=>rfl⟩
theorem O1(h:Az G C mu E H a w)(N:Nat):∀(n:Nat){x:AV}{u:Value},Aj C w x mu u→∀{R:AV→Prop},CS N H n x R→
  ∃r,R r∧Aj (YJ G C mu w N) w r (mu.below N) u
 |0,x,u,hx,R,hk=>by
  unfold CS at hk;split at hk
  ·rename_i hc;rw[AV.AK]at hk;exact⟨_,hk,Aj.mono (NF N) _ (Ay.none _) (A6 _ hc hx)⟩
  ·exact hk.elim
 |n+1,x,u,hx,R,hk=>by
  have ih:∀{x:AV}{u:Value},Aj C w x mu u→∀{R:AV→Prop},CS N H n x R→∃r,R r∧Aj (YJ G C mu w N) w r (mu.below N) u:=λhx _ hk=>O1 h N n hx hk
  have PO:∀{l},J1 l N=true→l<N:=λhb=>JB hb
  have Zbd:∀{l},J1 l N=false→¬l<N:=λ{l} hb AR=>by
   have:J1 l N=true:=Nat.ble_eq_true_of_le AR;rw[hb]at this;cases this
  have Fx:∀{l g b},¬l<N→mu l=some g→g.As=some b→∀o,YJ G C mu w N b o:=λ{l g b} hl hm hb o=>
   .inr ⟨(h.heap.fresh l g b hm hb).2.1,(h.heap.fresh l g b hm hb).1,λl' g' Bq LG=>hl (by
    obtain⟨k1,k2⟩:=BI Bq;have:=h.heap.sep l g b l' g' hm hb k2 LG;omega)⟩
  unfold CS at hk;split at hk
  ·rename_i l sz lo m;split at hk
   ·rename_i hb;refine⟨_,hk,?_⟩;unfold Aj at*;obtain⟨x,h1,h2⟩:=hx;exact⟨x,by rw[Cw (PO hb)];exact h1,h2⟩
   ·rename_i hb;replace hk:=(Ab _ _ _).1 hk;obtain⟨ob,Ba,hk⟩:=hk
    cases ob<;>first|exact hk.elim|skip
    rename_i e BD es;simp only at hk;split at hk
    ·rename_i hc;simp only[D6]at hc;obtain rfl:=F0 hc.1;obtain rfl:=F0 hc.2;obtain⟨⟨rfl,IJ⟩,hk⟩:=hk;exact⟨_,hk,Aj.mono (Ext.refl _ _) _ (Ay.none _) (J0 h.heap (NF N) (λg b o hm hg=>Fx (Zbd hb) hm hg o) Ba IJ hx)⟩
    ·exact hk.elim
  ·rename_i l sz i o;split at hk
   ·rename_i hb;refine⟨_,hk,?_⟩;unfold Aj at*;obtain⟨b,n,c,h1,h2⟩:=hx;exact⟨b,n,c,by rw[Cw (PO hb)];exact h1,h2⟩
   ·exact hk.elim
  ·rename_i l o;split at hk
   ·rename_i hb;refine⟨_,hk,?_⟩;unfold Aj at*;obtain⟨b,h1,h2⟩:=hx;exact⟨b,by rw[Cw (PO hb)];exact h1,h2⟩
   ·rename_i hb;replace hk:=(Ab _ _ _).1 hk;obtain⟨ob,Ba,hk⟩:=hk
    cases ob<;>first|exact hk.elim|skip
    rename_i cs;simp only at hk;unfold Aj at hx;obtain⟨b,hm,rfl⟩:=hx;obtain⟨b',cur,e,V8,WC,hr,h1⟩:=h.heap.Cm l cs Ba;rw[hm]at V8;simp only[Ep.injEq,GO.CU.injEq]at V8;subst V8;obtain⟨rs,hk,HV⟩:=Ev (λhx _ hk=>ih hx hk) hr hk
    split at hk
    ·rename_i IJ;rw[BK]at hk;have HV:=A1 rs IJ HV;refine⟨_,hk,?_⟩;unfold Aj;refine⟨b,o,rfl,(Co _ _).2 λi hi=>?_⟩
     have N0:=(AI _).1 HV;have sR:o+i<rs.length:=by simp at hi;omega
     have Qz:o+i<cur.toList.length:=by rw[N0.1];exact sR
     refine⟨cur.toList[o+i],h1 _ (J5 Qz),⟨Fx (Zbd hb) hm rfl _,?_⟩,?_⟩
     ·rw[cell_of_row w b _ cur e _ WC];simp at Qz⊢
     ·have:=N0.2 (o+i) sR Qz;simp only[List.getElem_drop];exact this
    ·exact hk.elim
  ·unfold Aj at hx;obtain⟨vs,rfl,hx⟩:=hx;obtain⟨rs,hk,hr⟩:=Ev (λhx _ hk=>ih hx hk) hx hk
   exact⟨_,hk,by unfold Aj;exact⟨vs,rfl,hr⟩⟩
  ·unfold Aj at hx;obtain⟨vs,rfl,hx⟩:=hx;obtain⟨rs,hk,hr⟩:=Ev (λhx _ hk=>ih hx hk) hx hk
   exact⟨_,hk,by unfold Aj;exact⟨vs,rfl,hr⟩⟩
  ·unfold Aj at hx;obtain⟨vs,rfl,hx⟩:=hx;obtain⟨rs,hk,hr⟩:=Ev (λhx _ hk=>ih hx hk) hx hk
   exact⟨_,hk,by unfold Aj;exact⟨vs,rfl,hr⟩⟩
  ·unfold Aj at hx;obtain⟨vs,rfl,hx⟩:=hx;obtain⟨rs,hk,hr⟩:=Ev (λhx _ hk=>ih hx hk) hx hk
   exact⟨_,hk,by unfold Aj;exact⟨vs,rfl,hr⟩⟩
  ·unfold Aj at hx;obtain⟨y,rfl,hx⟩:=hx;obtain⟨r,hk,hr⟩:=ih hx hk;exact⟨_,hk,by unfold Aj;exact⟨y,rfl,hr⟩⟩
  ·rename_i l;split at hk
   ·rename_i hb;refine⟨_,hk,?_⟩;unfold Aj at*;obtain⟨b,h1,h2⟩:=hx;exact⟨b,by rw[Cw (PO hb)];exact h1,h2⟩
   ·rename_i hb;replace hk:=(Ab _ _ _).1 hk;obtain⟨ob,Ba,hk⟩:=hk
    cases ob<;>first|exact hk.elim|skip
    rename_i ks vs;simp only at hk;obtain⟨b,es,clock,h1,h2,h3⟩:=h.heap.maps l ks vs Ba;unfold Aj at hx;obtain⟨b',h4,h5⟩:=hx;rw[h1]at h4;simp only[Ep.injEq,GO.CU.injEq]at h4;subst h4;refine⟨_,hk,?_⟩;unfold Aj;exact .inr ⟨b,es,clock,h5,Fx (Zbd hb) h1 rfl 0,h2,(h3.2 _ _).1,(h3.2 _ _).2,h3.1⟩
  ·rename_i q1 q2 q3 q4 q4b q5 q6 q7 q8;rw[AV.AK]at hk;refine⟨_,hk,?_⟩
   have IJ:closed x=true:=by
    cases x with
    |own l sz lo m=>exact absurd rfl (q1 l sz lo m)
    |el l sz i o=>exact absurd rfl (q2 l sz i o)
    |ptr l o=>exact absurd rfl (q3 l o)
    |fn f cap=>exact absurd rfl (q4 f cap)
    |mv f cap=>exact absurd rfl (q4b f cap)
    |agg cs=>exact absurd rfl (q5 cs)
    |tuple cs=>exact absurd rfl (q6 cs)
    |iface t x=>exact absurd rfl (q7 t x)
    |om l=>exact absurd rfl (q8 l)
    |_=>rfl
   exact Aj.mono (NF N) _ (Ay.none _) (A6 _ IJ hx)
theorem Nv(h:Az G C mu E H a w)(N:Nat):∀(r0 r:List HO){k:Nat},(∀i,r[i]?=H[k+i]?)→k+r0.length≤N→∀{R:List HO→Prop},CV N H r0 r R→
  ∃H1,R H1∧H1.length=r0.length∧B1 H1=true∧(∀l:Nat,r0[l]?=some HO.dead→H1[l]?=some HO.dead)∧(∀l:Nat,H1[l]?=some HO.dead→mu (k+l)=none)∧
   (∀(l:Nat) cs,H1[l]?=some (.cells cs)→∃b cur e,mu (k+l)=some (.CU b)∧w.heap[b]?=some (.cells cur e (0,0))∧Aa (YJ G C mu w N) w cs (mu.below N) cur.toList∧∀v∈cur.toList,v.oneCell'=true)∧
   (∀(l:Nat) e sz es,H1[l]?=some (.arr e sz es)→(∀a∈es,closed a=true)∧H[k+l]?=some (.arr e sz es))∧(∀(l:Nat) ks vs,H1[l]?=some (.map ks vs)→H[k+l]?=some (.map ks vs))
 |[],r,k,hr,hkN,R,hk=>by
  unfold CV at hk;exact⟨[],hk,rfl,rfl,λl h=>by simp at h,λl h=>by simp at h,λl cs h=>by simp at h,λl e sz es h=>by simp at h,λl ks vs h=>by simp at h⟩
 |o0::r0,r,k,hr,hkN,R,hk=>by
  have h0:=hr 0
  have step:∀(o:HO)(r':List HO),r=o::r'→∀i,r'[i]?=H[k+1+i]?:=λo r' e i=>by
   have:=hr (i+1);rw[e]at this;simp only[List.getElem?_cons_succ]at this;rw[this];congr 1;omega
  have dd:∀{r':List HO},r=.dead::r'→CV N H r0 r' (λr=>R (.dead::r))→∃H1,R H1∧H1.length=(o0::r0).length∧B1 H1=true∧(∀l:Nat,(o0::r0)[l]?=some HO.dead→H1[l]?=some HO.dead)∧(∀l:Nat,H1[l]?=some HO.dead→mu (k+l)=none)∧
   (∀(l:Nat) cs,H1[l]?=some (.cells cs)→∃b cur e,mu (k+l)=some (.CU b)∧w.heap[b]?=some (.cells cur e (0,0))∧Aa (YJ G C mu w N) w cs (mu.below N) cur.toList∧∀v∈cur.toList,v.oneCell'=true)∧
   (∀(l:Nat) e sz es,H1[l]?=some (.arr e sz es)→(∀a∈es,closed a=true)∧H[k+l]?=some (.arr e sz es))∧(∀(l:Nat) ks vs,H1[l]?=some (.map ks vs)→H[k+l]?=some (.map ks vs)):=λ{r'} e hk=>by
   obtain⟨H1,q1,q2,q3,q4,q5,q6,q7,q8⟩:=Nv h N r0 r' (k:=k+1) (step _ _ e) (by simp at hkN;omega) hk
   refine⟨.dead::H1,q1,by simp[q2],by simpa[B1]using q3,λl hl=>?_,λl hl=>?_,λl cs hl=>?_,λl e' sz es hl=>?_,λl ks vs hl=>?_⟩
   ·cases l with
    |zero=>rfl
    |succ l=>simpa using q4 l (by simpa using hl)
   ·cases l with
    |zero=>exact h.heap.dead k (by rw[←JC k,←h0,e];rfl)
    |succ l=>rw[show k+(l+1)=k+1+l by omega];exact q5 l (by simpa using hl)
   ·cases l with
    |zero=>simp at hl
    |succ l=>rw[show k+(l+1)=k+1+l by omega];exact q6 l cs (by simpa using hl)
   ·cases l with
    |zero=>simp at hl
    |succ l=>rw[show k+(l+1)=k+1+l by omega];exact q7 l e' sz es (by simpa using hl)
   ·cases l with
    |zero=>simp at hl
    |succ l=>rw[show k+(l+1)=k+1+l by omega];exact q8 l ks vs (by simpa using hl)
  have nd:∀{o1:HO}{H1:List HO},o0≠.dead→H1.length=r0.length→B1 (o1::H1)=true→o1≠.dead→(∀l:Nat,r0[l]?=some HO.dead→H1[l]?=some HO.dead)→(∀l:Nat,H1[l]?=some HO.dead→mu (k+1+l)=none)→
    (o1::H1).length=(o0::r0).length∧B1 (o1::H1)=true∧(∀l:Nat,(o0::r0)[l]?=some HO.dead→(o1::H1)[l]?=some HO.dead)∧(∀l:Nat,(o1::H1)[l]?=some HO.dead→mu (k+l)=none):=λ{o1 H1} Bu q2 q3 Zff q4 q5=>by
   refine⟨by simp[q2],q3,λl hl=>?_,λl hl=>?_⟩
   ·cases l with
    |zero=>simp at hl;exact absurd hl Bu
    |succ l=>simpa using q4 l (by simpa using hl)
   ·cases l with
    |zero=>simp at hl;exact absurd hl Zff
    |succ l=>rw[show k+(l+1)=k+1+l by omega];exact q5 l (by simpa using hl)
  have core:∀(Bu:o0≠.dead),(match r with
    |.dead::r=>CV N H r0 r λr=>R (.dead::r)
    |.cells cs::r=>Gw (CS N H 4) cs λcs=>CV N H r0 r λr=>R (.cells cs::r)
    |.arr e sz es::r=>(∀e∈es,closed e=true)∧CV N H r0 r λr=>R (.arr e sz es::r)
    |.map ks vs::r=>CV N H r0 r λr=>R (.map ks vs::r)
    |_=>False)→∃H1,R H1∧H1.length=(o0::r0).length∧B1 H1=true∧(∀l:Nat,(o0::r0)[l]?=some HO.dead→H1[l]?=some HO.dead)∧(∀l:Nat,H1[l]?=some HO.dead→mu (k+l)=none)∧
   (∀(l:Nat) cs,H1[l]?=some (.cells cs)→∃b cur e,mu (k+l)=some (.CU b)∧w.heap[b]?=some (.cells cur e (0,0))∧Aa (YJ G C mu w N) w cs (mu.below N) cur.toList∧∀v∈cur.toList,v.oneCell'=true)∧
   (∀(l:Nat) e sz es,H1[l]?=some (.arr e sz es)→(∀a∈es,closed a=true)∧H[k+l]?=some (.arr e sz es))∧(∀(l:Nat) ks vs,H1[l]?=some (.map ks vs)→H[k+l]?=some (.map ks vs)):=λBu hk=>by
   cases r with
   |nil=>exact hk.elim
   |cons o r'=>
    cases o with
    |dead=>exact dd rfl hk
    |ghost _ _ _=>exact hk.elim
    |inv _=>exact hk.elim
    |cells cs=>
     have Ba:H[k]?=some (.cells cs):=by rw[←JC k,←h0];rfl
     obtain⟨b,cur,e,m1,m2,m3,m4⟩:=h.heap.Cm k cs Ba;obtain⟨rs,hk,HV⟩:=Ev (C':=YJ G C mu w N) (mu':=mu.below N) (λhx _ hk=>O1 h N 4 hx hk) m3 hk
     obtain⟨H1,q1,q2,q3,q4,q5,q6,q7,q8⟩:=Nv h N r0 r' (k:=k+1) (step _ _ rfl) (by simp at hkN;omega) hk
     obtain⟨n1,n2,n3,n4⟩:=nd (o1:=.cells rs) Bu q2 q3 (by simp) q4 q5
     refine⟨.cells rs::H1,q1,n1,n2,n3,n4,λl cs' hl=>?_,λl e' sz es hl=>?_,λl ks vs hl=>?_⟩
     ·cases l with
      |zero=>
       simp only[Ei,Ep.injEq,HO.cells.injEq]at hl;subst hl;exact⟨b,cur,e,m1,m2,HV,m4⟩
      |succ l=>rw[show k+(l+1)=k+1+l by omega];exact q6 l cs' (by simpa using hl)
     ·cases l with
      |zero=>simp at hl
      |succ l=>rw[show k+(l+1)=k+1+l by omega];exact q7 l e' sz es (by simpa using hl)
     ·cases l with
      |zero=>simp at hl
      |succ l=>rw[show k+(l+1)=k+1+l by omega];exact q8 l ks vs (by simpa using hl)
    |map ks vs=>
     have Ba:H[k]?=some (.map ks vs):=by rw[←JC k,←h0];rfl
     obtain⟨H1,q1,q2,q3,q4,q5,q6,q7,q8⟩:=Nv h N r0 r' (k:=k+1) (step _ _ rfl) (by simp at hkN;omega) hk
     obtain⟨n1,n2,n3,n4⟩:=nd (o1:=.map ks vs) Bu q2 q3 (by simp) q4 q5
     refine⟨.map ks vs::H1,q1,n1,n2,n3,n4,λl cs' hl=>?_,λl e' sz es hl=>?_,λl ks' BV hl=>?_⟩
     ·cases l with
      |zero=>simp at hl
      |succ l=>rw[show k+(l+1)=k+1+l by omega];exact q6 l cs' (by simpa using hl)
     ·cases l with
      |zero=>simp at hl
      |succ l=>rw[show k+(l+1)=k+1+l by omega];exact q7 l e' sz es (by simpa using hl)
     ·cases l with
      |zero=>
       simp only[Ei,Ep.injEq,HO.map.injEq]at hl;obtain⟨rfl,rfl⟩:=hl;exact Ba
      |succ l=>rw[show k+(l+1)=k+1+l by omega];exact q8 l ks' BV (by simpa using hl)
    |arr e sz es=>
     have Ba:H[k]?=some (.arr e sz es):=by rw[←JC k,←h0];rfl
     obtain⟨hc,hk⟩:=hk;obtain⟨H1,q1,q2,q3,q4,q5,q6,q7,q8⟩:=Nv h N r0 r' (k:=k+1) (step _ _ rfl) (by simp at hkN;omega) hk
     obtain⟨n1,n2,n3,n4⟩:=nd (o1:=.arr e sz es) Bu q2 q3 (by simp) q4 q5
     refine⟨.arr e sz es::H1,q1,n1,n2,n3,n4,λl cs' hl=>?_,λl e' BD Cf hl=>?_,λl ks vs hl=>?_⟩
     ·cases l with
      |zero=>simp at hl
      |succ l=>rw[show k+(l+1)=k+1+l by omega];exact q6 l cs' (by simpa using hl)
     ·cases l with
      |zero=>
       simp only[Ei,Ep.injEq,HO.arr.injEq]at hl;obtain⟨rfl,rfl,rfl⟩:=hl;exact⟨hc,Ba⟩
      |succ l=>rw[show k+(l+1)=k+1+l by omega];exact q7 l e' BD Cf (by simpa using hl)
     ·cases l with
      |zero=>simp at hl
      |succ l=>rw[show k+(l+1)=k+1+l by omega];exact q8 l ks vs (by simpa using hl)
  cases o0 with
  |dead=>
   cases r with
   |nil=>unfold CV at hk;exact hk.elim
   |cons o r'=>
    cases o with
    |dead=>unfold CV at hk;exact dd rfl hk
    |_=>unfold CV at hk;exact hk.elim
  |_=>
   refine core (by simp) ?_
   cases r with
   |nil=>unfold CV at hk;exact hk.elim
   |cons o r'=>
    cases o with
    |_=>unfold CV at hk;exact hk
end
section
variable {G:Cx}{C C':Ag}{w w':World}{mu:Mu}{H:List HO}{E:List AV}{a:Act}{T:List TY}{P:Program}
theorem T5{fr:Nat→Prop}(hr:B1 H=true):Br C w fr mu H []:=by
 refine⟨λl cs vs ms h=>?_,λl I h=>?_,λD h=>(by cases h),JG,λl l' cs vs ms cs' BV Ds h=>?_⟩
 ·rcases GF hr h with k|k<;>cases k
 ·rcases GF hr h with k|k<;>cases k
 ·rcases GF hr h with k|k<;>cases k
theorem yM{C0:Ag}{aM:Mu}{w0:World}{H0:List HO}{gk:_}(hh:AX C0 w0 (λ_=>True) aM H0)
  (h:Az {P:=P,Zb:=gk,C0:=C0,M0:=λb=>∃l g,aM l=some g∧g.As=some b,W0:=w0,CA:=λl b=>aM l=some (.CU b),np:=H0.length} C mu E H a w)
  {x:AV} {v:Value} (hx:Aj C w x mu v) {R:AV→List HO→Prop} {n:Nat} (hk:CS H0.length H n x λx=>CV H0.length H H0 H λH1=>R x H1):
  ∃r H1 C',R r H1∧Jy C0 aM w0 C' (mu.below H0.length) w∧AX C' w (λ_=>True) (mu.below H0.length) H1∧Aj C' w r (mu.below H0.length) v∧H1.length=H0.length∧B1 H1=true∧∀l:Nat,H0[l]?=some HO.dead→H1[l]?=some HO.dead:=by
 obtain⟨r,hk,hr⟩:=O1 h H0.length n hx hk;obtain⟨H1,hR,q2,q3,q4,q5,q6,q7,q8⟩:=Nv h H0.length H0 H (k:=0) (λi=>by simp) (by simp) hk
 simp only[Nat.zero_add]at q5 q6 q7 q8;have AR:∀{l:Nat}{ob:HO},H1[l]?=some ob→l<H0.length:=λhl=>by rw[←q2];exact(Bj.1 hl).1
 refine⟨r,H1,_,hR,⟨⟨h.Aq.os,h.Aq.tape,h.Aq.output,h.Aq.size,λb hb=>h.Aq.block b hb.1 λ⟨l,g,k1,k2⟩=>hb.2 l g k1 k2⟩,λb o hc=>.inl (h.c0 b o hc),λb o hc=>?_,λl b hl=>?_,λl g b hl hg=>?_⟩,
  ⟨λl g hl=>by rw[q2];exact(BI hl).1,λl g b hl hg=>⟨trivial,?_,λo hc=>?_⟩,λl g b l' g' hl hg Bq QT=>h.heap.sep l g b l' g' (BI hl).2 hg (BI Bq).2 QT,λl hl=>?_,λl cs hl=>?_,λl e sz es hl=>?_,λl ks vs hl=>?_⟩,hr,q2,q3,q4⟩
 ·rcases hc with hc|⟨k1,k2,k3⟩
  ·refine⟨h.lt b o hc,?_⟩;rcases h.c1 b o hc with k|k|k;·exact .inl k
   ·exact .inr (.inl k)
   ·exact .inr (.inr k)
  ·refine⟨k1,.inr ?_⟩;exact k2
 ·rw[Cw (hh.HH l _ hl)];exact h.CA.2 l b (hh.HH l _ hl) hl
 ·obtain⟨k1,k2⟩:=BI hl;rcases (h.heap.fresh l g b k2 hg).1 with k|k;·exact .inr k
  ·exact .inl k
 ·exact(h.heap.fresh l g b (BI hl).2 hg).2.1
 ·rcases hc with hc|⟨k1,k2,k3⟩;·exact(h.heap.fresh l g b (BI hl).2 hg).2.2 o hc
  ·exact k3 l g hl hg
 ·have:=q5 l hl;unfold Mu.below;split;·exact this
  ·rfl
 ·obtain⟨b,cur,e,k1,k2⟩:=q6 l cs hl;exact⟨b,cur,e,by rw[Cw (AR hl)];exact k1,k2⟩
 ·obtain⟨k1,k2⟩:=q7 l e sz es hl;obtain⟨k3,k⟩:=h.heap.BJ l e sz es k2;refine⟨k3,?_⟩;rw[Cw (AR hl)];exact k.imp id λ⟨b,cap,cur,m1,m2,m3,m4,m5,m6,m7⟩=>⟨b,cap,cur,m1,m2,m3,m4,m5,Aa.mono (NF _) _ (Ay.none _) (A1 _ (E5 k1) m6),m7⟩
 ·have k1:=q8 l ks vs hl;obtain⟨b,es,cl,m1,m2,m3⟩:=h.heap.maps l ks vs k1;exact⟨b,es,cl,by rw[Cw (AR hl)];exact m1,m2,m3⟩
theorem jY{C0:Ag}{aM:Mu}{w0:World}{H0:List HO}{gk:_}(hh:AX C0 w0 (λ_=>True) aM H0)
  (h:Az {P:=P,Zb:=gk,C0:=C0,M0:=λb=>∃l g,aM l=some g∧g.As=some b,W0:=w0,CA:=λl b=>aM l=some (.CU b),np:=H0.length} C mu E H a w)
  {x:AV} {v:Value} (hx:Aj C w x mu v) {R:AV→List HO→Prop} {n:Nat} (hk:CS H0.length H n x λx=>CV H0.length H H0 H λH1=>R x H1):
  ∃r H1 C' mu',R r H1∧Jy C0 aM w0 C' mu' w∧AX C' w (λ_=>True) mu' H1∧Aj C' w r mu' v∧H1.length=H0.length∧B1 H1=true∧∀l:Nat,H0[l]?=some HO.dead→H1[l]?=some HO.dead:=by
 obtain⟨r,H1,C',q⟩:=yM hh h hx hk;exact⟨r,H1,C',_,q⟩
theorem FE.Ai{f:FuncId}{fn:Func}{c:Code}{args:List AV}{H0:List HO}{R X:AV→List HO→Prop}(hf:P.funcs[f]?=some fn)(hb:fn.body=some c)(hT:BL P T)(hg:B5 P f=true)(PJ:B1 H0=true)
  (h:DR fn.ntmps args λE=>Ac P c E H0 (fB T fn.results.toList H0 R) (λe E H=>match e with|.ret=>fB T fn.results.toList H0 R E H|.panic x=>ZcX H0 X x H|_=>False)):FE P f args H0 R X:=by
 refine⟨hg,λC mu w vs AR hh hr=>(callsIn_wide (n:=0)).1 (callsIn_of_wp_marks (F:=Fence.wide) (n:=0) hf hb trivial ?_ rfl)⟩
 unfold DR at h;rw[Dn,CO]at h;let G:Cx:={P:=P,Zb:=⟨AR,λb o hc ⟨l,g,hl,hg⟩=>(hh.fresh l g b hl hg).2.2 o hc⟩,C0:=C,M0:=λb=>∃l g,mu l=some g∧g.As=some b,W0:=w,CA:=λl b=>mu l=some (.CU b),np:=H0.length}
 have Ah:St G (args++Ki (fn.ntmps-args.length) (.raw undef)) H0 {tmps:=vs.toArray++Kh (fn.ntmps-vs.toArray.size) undef,defers:=[]} w:=by
  refine⟨C,mu,λ_ _ h=>h,λ_ _ h=>.inl h,AR.lt,⟨hh.HH,λl g b hl hg=>⟨.inr ⟨l,g,hl,hg⟩,(hh.fresh l g b hl hg).2⟩,hh.sep,hh.dead,hh.Cm,hh.BJ,hh.maps⟩,?_,⟨[],rfl,T5 PJ⟩,⟨rfl,rfl,rfl,Gk _,λ_ _ _=>rfl⟩,Gk _,λ_ _ _ h=>h⟩
  have hl:=Ar _ hr;have:=AF hr (BG (C:=C) (w:=w) (mu:=mu) (fn.ntmps-args.length));simpa[hl]using this
 have fin:∀E H a w',fB T fn.results.toList H0 R E H→St G E H a w'→LeavesInM (fw none) 0 P fn a.tmps (λe w'=>∃r v H1 C' mu',((e=.returned v∧R r H1)∨(e=.panicked [{v,recovered:=false}]∧X r H1))∧Jy C mu w C' mu' w'∧
   AX C' w' (λ_=>True) mu' H1∧Aj C' w' r mu' v∧H1.length=H0.length∧B1 H1=true∧∀l:Nat,H0[l]?=some HO.dead→H1[l]?=some HO.dead) a.defers .returning w':=by
  rintro E H a w' hk ⟨C1,Hm,Ah⟩;obtain⟨ms,d1,d2⟩:=Ah.defers;rw[show a.defers=ms.map mark by simpa[G]using d1]
  refine Ft (G:=G) rfl (by simp) ms rfl Ah d2 λa' Lo ha Fv=>?_
  unfold fB at hk;obtain⟨xs,us,hk,hr,AZ⟩:=Ow (G:=G) hT Fv _ hk
  have hm:(fn.results.mapM (Xl a'.tmps)).run P Lo=.ok us.toArray Lo:=by
   rw[Array.mapM_eq_mapM_toList];simp only[Sem.run_map,AZ,Result.andThen_ok,G]
  have Ho:(results fn a.tmps).run P Lo=.ok (if h:us.toArray.size=1 then us.toArray[0]else .tuple us.toArray) Lo:=by
   rw[←ha,Ey,Sem.run_bind,hm];rfl
  unfold LeavesIn;split at hk
  ·rename_i x;unfold Aa at hr;obtain⟨u,Tw,rfl,hr,Nq⟩:=hr;unfold Aa at Nq;subst Nq;obtain⟨r,H1,C',mu',k1,k2⟩:=jY hh Fv hr hk;exact⟨u,by rw[Ho];simp,r,u,H1,C',mu',.inl ⟨rfl,k1⟩,k2⟩
  ·rename_i Bu
   have hl:us.length≠1:=λe=>by
    have:=Ar _ hr;rw[e]at this;cases xs with
    |nil=>simp at this
    |cons x xs=>
     cases xs with
     |nil=>exact Bu x rfl
     |cons _ _=>simp at this
   have hrt:Aj C1 Lo (.tuple xs) Hm (.tuple us.toArray):=by unfold Aj;exact⟨us,rfl,hr⟩
   obtain⟨r,H1,C',mu',k1,k2⟩:=jY hh Fv hrt hk;exact⟨.tuple us.toArray,by rw[Ho];simp[hl],r,.tuple us.toArray,H1,C',mu',.inl ⟨rfl,k1⟩,k2⟩
 refine wpIn_mono (h.out 0 G _ w rfl Ah) λe a w' q=>?_
 cases e with
 |normal=>obtain⟨E,H,h1,h2⟩:=q;exact fin E H a w' h1 h2
 |ret=>obtain⟨E,H,h1,h2⟩:=q;exact fin E H a w' h1 h2
 |exit id=>obtain⟨E,H,h1,h2⟩:=q;exact h1.elim
 |goto l=>exact q.elim
 |outgrown=>exact q.elim
 |panic ch=>
  obtain⟨x,v,E,H,C1,Hm,rfl,hk,Ah,hx⟩:=q;obtain⟨ms,d1,d2⟩:=Ah.defers;show LeavesInM (fw none) 0 P fn a.tmps _ a.defers (.panicking [{v,recovered:=false}]) w'
  rw[show a.defers=ms.map mark by simpa[G]using d1]
  have Ec:Az G C1 Hm [x] H {tmps:=#[v],defers:=a.defers} w':=Ah.frame (by unfold Aa;exact⟨v,[],rfl,hx,by unfold Aa;rfl⟩) rfl
  refine Ft (G:=G) (tm2:=#[v]) rfl (by simp) ms (a:={tmps:=#[v],defers:=a.defers}) rfl Ec d2 λa' Lo ha Fv=>?_
  have LB:Aj C1 Lo x Hm v:=by
   have:=Fv.env;rw[ha]at this;unfold Aa at this;obtain⟨v',BV,he,k,_⟩:=this;simp only[List.cons.injEq]at he;obtain⟨rfl,_⟩:=he;exact k
  obtain⟨r,H1,C',mu',k1,k2⟩:=jY hh Fv LB hk;exact⟨r,v,H1,C',mu',.inr ⟨rfl,k1⟩,k2⟩
def HK:List HO→Nat→Bool
 |[],_=>false
 |.arr _ _ _::_,0=>true
 |_::_,0=>false
 |_::r,k+1=>HK r k
mutual
def Ig(H0:List HO):AV→AV
 |.own k sz lo n=>match HK H0 k with|true=>.any|false=>.own k sz lo n
 |.el k sz i o=>match HK H0 k with|true=>.any|false=>.el k sz i o
 |.fn f cap=>.fn f (Jz H0 cap)
 |.mv f cap=>.mv f (Jz H0 cap)
 |.iface t x=>.iface t (Ig H0 x)
 |.agg cs=>.agg (Jz H0 cs)
 |.tuple vs=>.tuple (Jz H0 vs)
 |a=>a
def Jz(H0:List HO):List AV→List AV
 |[]=>[]
 |a::as=>Ig H0 a::Jz H0 as
end
def Vv(H0:List HO):List AV→(List AV→Prop)→Prop
 |[],K=>K []
 |a::as,K=>(Ig H0 a).force λb=>Vv H0 as λbs=>K (b::bs)
def Gr(H0:List HO):HO→HO
 |.cells cs=>.cells (Jz H0 cs)
 |.ghost cs vs ms=>.ghost (Jz H0 cs) vs ms
 |o=>o
def eA(H0:List HO)(o:HO)(K:HO→Prop):Prop:=
 match o with
 |.cells cs=>Vv H0 cs λcs=>K (.cells cs)
 |.ghost cs vs ms=>Vv H0 cs λcs=>K (.ghost cs vs ms)
 |.arr e sz es=>K (.arr e sz es)
 |.dead=>K .dead
 |.inv I=>K (.inv I)
 |.map ks vs=>K (.map ks vs)
def BO(F:List HO):List HO→List HO→List HO→(List HO→Prop)→Prop
 |[],_,[],K=>K []
 |[],_,h::hs,K=>eA F h λh=>BO F [] [] hs λr=>K (h::r)
 |.dead::r0,_::r1,h::hs,K=>eA F h λh=>BO F r0 r1 hs λr=>K (h::r)
 |_::r0,o1::r1,_::hs,K=>BO F r0 r1 hs λr=>K (o1::r)
 |_,_,_,_=>False
def D8(F:List HO):List HO→List HO→Prop→Prop
 |[],_,Q=>Q
 |.dead::r0,_::hs,Q=>D8 F r0 hs Q
 |.cells cs::r0,h::hs,Q=>h=.cells cs∧Bn F cs=true∧D8 F r0 hs Q
 |.arr e sz es::r0,h::hs,Q=>h=.arr e sz es∧(∀e∈es,closed e=true)∧D8 F r0 hs Q
 |.map ks vs::r0,h::hs,Q=>h=.map ks vs∧D8 F r0 hs Q
 |_,_,_=>False
end
end Go.Av
namespace Go.Av
open Go.RowKit (Below)
section
variable {G:Cx}{C C':Ag}{w w':World}{mu mu':Mu}{H H0:List HO}{E:List AV}{a:Act}{T:List TY}{P:Program}
def Mu.mix(mu mu':Mu)(H0:List HO):Mu:=λl=>if AQ H0 l=true then mu' l else mu l
theorem Gc{l:Nat}(h:AQ H0 l=true):mu.mix mu' H0 l=mu' l:=by simp[Mu.mix,h]
theorem Gb{l:Nat}(h:AQ H0 l=false):mu.mix mu' H0 l=mu l:=by simp[Mu.mix,h]
section
variable {Y5:Mu}(hx:Ext C C' w w')(hb:∀l b,mu l=some (.CU b)→Y5 l=some (.CU b))(ha:∀l x,HK H0 l=false→mu l=some (.arr x)→Y5 l=some (.arr x))
include hx hb ha
mutual
theorem dY:∀(x:AV){v:Value},Aj C w x mu v→Aj C' w' (Ig H0 x) Y5 v
 |.any,_,_=>by unfold Ig Aj;trivial
 |.int _ _,_,h=>by unfold Ig;unfold Aj at*;exact h
 |.bool _,_,h=>by unfold Ig;unfold Aj at*;exact h
 |.lit _,_,h=>by unfold Ig;unfold Aj at*;exact h
 |.str _,_,h=>by unfold Ig;unfold Aj at*;exact h
 |.sl _ _,_,h=>by unfold Ig;exact Aj.mono hx _ (Ay.none _) (A6 _ rfl h)
 |.at_ _,_,h=>by unfold Ig;exact Aj.mono hx _ (Ay.none _) (A6 _ rfl h)
 |.raw _,_,h=>by unfold Ig;unfold Aj at*;exact h
 |.mp _ _,_,h=>by unfold Ig;exact Aj.mono hx _ (Ay.none _) (A6 _ rfl h)
 |.om k,_,h=>by
  unfold Ig;unfold Aj at*
  obtain⟨b,h1,h2⟩:=h;exact⟨b,hb _ _ h1,h2⟩
 |.ptr k o,_,h=>by
  unfold Ig;unfold Aj at*
  obtain⟨b,h1,h2⟩:=h;exact⟨b,hb _ _ h1,h2⟩
 |.el k sz i o,_,h=>by
  unfold Ig;split;·unfold Aj;trivial
  ·rename_i hk;unfold Aj at*;obtain⟨b,n,c,h1,h2⟩:=h;exact⟨b,n,c,ha _ _ hk h1,h2⟩
 |.own k sz lo n,_,h=>by
  unfold Ig;split;·unfold Aj;trivial
  ·rename_i hk;unfold Aj at*;obtain⟨x,h1,h2⟩:=h;exact⟨x,ha _ _ hk h1,h2⟩
 |.fn f cap,_,h=>by
  unfold Ig;unfold Aj at*
  obtain⟨vs,h1,h2⟩:=h;exact⟨vs,h1,Ie cap h2⟩
 |.mv f cap,_,h=>by
  unfold Ig;unfold Aj at*
  obtain⟨vs,h1,h2⟩:=h;exact⟨vs,h1,Ie cap h2⟩
 |.iface t x,_,h=>by
  unfold Ig;unfold Aj at*
  obtain⟨y,h1,h2⟩:=h;exact⟨y,h1,dY x h2⟩
 |.agg cs,_,h=>by
  unfold Ig;unfold Aj at*
  obtain⟨vs,h1,h2⟩:=h;exact⟨vs,h1,Ie cs h2⟩
 |.tuple cs,_,h=>by
  unfold Ig;unfold Aj at*
  obtain⟨vs,h1,h2⟩:=h;exact⟨vs,h1,Ie cs h2⟩
theorem Ie:∀(xs:List AV){vs:List Value},Aa C w xs mu vs→Aa C' w' (Jz H0 xs) Y5 vs
 |[],_,h=>by unfold Jz;unfold Aa at*;exact h
 |x::xs,_,h=>by
  unfold Jz;unfold Aa at*
  obtain⟨v,BV,h1,h2,h3⟩:=h;exact⟨v,BV,h1,dY x h2,Ie xs h3⟩
end
end
theorem GX:∀(as:List AV)(K:List AV→Prop),Vv H0 as K↔K (Jz H0 as)
 |[],_=>by simp[Vv,Jz]
 |a::as,K=>by simp[Vv,Jz,AV.AK,GX as]
theorem KU(o:HO)(K:HO→Prop):eA H0 o K↔K (Gr H0 o):=by
 cases o<;>simp[eA,Gr,GX]
theorem EI{F:List HO}:∀{H0 H1 H:List HO}{K:List HO→Prop},B1 H0=true→BO F H0 H1 H K→∃H',K H'∧H'.length=H.length∧(∀i,AQ H0 i=true→H'[i]?=H1[i]?)∧∀i,AQ H0 i=false→H'[i]?=(H[i]?).map (Gr F)
 |[],H1,[],K,_,h=>by
  unfold BO at h;exact⟨[],h,rfl,λi hi=>by simp[AQ]at hi,λi _=>by simp⟩
 |[],H1,o::hs,K,hr,h=>by
  unfold BO at h;rw[KU]at h;obtain⟨H',k1,k2,k3,k4⟩:=EI (H0:=[]) rfl h;refine⟨_,k1,by simp[k2],λi hi=>by simp[AQ]at hi,λi _=>?_⟩
  cases i with
  |zero=>simp
  |succ i=>simpa using k4 i rfl
 |.dead::r0,[],H,K,_,h=>by cases H<;>(unfold BO at h;exact h.elim)
 |.dead::r0,_::_,[],K,_,h=>by unfold BO at h;exact h.elim
 |.dead::r0,o1::r1,o::hs,K,hr,h=>by
  unfold BO at h;rw[KU]at h;obtain⟨H',k1,k2,k3,k4⟩:=EI (H0:=r0) (by simpa[B1]using hr) h
  refine⟨_,k1,by simp[k2],λi hi=>?_,λi hi=>?_⟩
  ·cases i with
   |zero=>simp[AQ]at hi
   |succ i=>simpa using k3 i hi
  ·cases i with
   |zero=>simp
   |succ i=>simpa using k4 i hi
 |.cells cs::r0,[],H,K,_,h=>by cases H<;>(unfold BO at h;exact h.elim)
 |.cells cs::r0,_::_,[],K,_,h=>by unfold BO at h;exact h.elim
 |.cells cs::r0,o1::r1,o::hs,K,hr,h=>by
  unfold BO at h;obtain⟨H',k1,k2,k3,k4⟩:=EI (H0:=r0) (by simpa[B1]using hr) h
  refine⟨_,k1,by simp[k2],λi hi=>?_,λi hi=>?_⟩
  ·cases i with
   |zero=>simp
   |succ i=>simpa using k3 i hi
  ·cases i with
   |zero=>simp[AQ]at hi
   |succ i=>simpa using k4 i hi
 |.arr e sz es::r0,[],H,K,_,h=>by cases H<;>(unfold BO at h;exact h.elim)
 |.arr e sz es::r0,_::_,[],K,_,h=>by unfold BO at h;exact h.elim
 |.arr e sz es::r0,o1::r1,o::hs,K,hr,h=>by
  unfold BO at h;obtain⟨H',k1,k2,k3,k4⟩:=EI (H0:=r0) (by simpa[B1]using hr) h
  refine⟨_,k1,by simp[k2],λi hi=>?_,λi hi=>?_⟩
  ·cases i with
   |zero=>simp
   |succ i=>simpa using k3 i hi
  ·cases i with
   |zero=>simp[AQ]at hi
   |succ i=>simpa using k4 i hi
 |.ghost _ _ _::r0,H1,H,K,hr,h=>by cases hr
 |.inv _::r0,H1,H,K,hr,h=>by cases hr
 |.map _ _::r0,[],H,K,_,h=>by cases H<;>(unfold BO at h;exact h.elim)
 |.map _ _::r0,_::_,[],K,_,h=>by unfold BO at h;exact h.elim
 |.map _ _::r0,o1::r1,o::hs,K,hr,h=>by
  unfold BO at h;obtain⟨H',k1,k2,k3,k4⟩:=EI (H0:=r0) (by simpa[B1]using hr) h
  refine⟨_,k1,by simp[k2],λi hi=>?_,λi hi=>?_⟩
  ·cases i with
   |zero=>simp
   |succ i=>simpa using k3 i hi
  ·cases i with
   |zero=>simp[AQ]at hi
   |succ i=>simpa using k4 i hi
theorem Er{F:List HO}:∀{H0 H:List HO}{Q:Prop},D8 F H0 H Q→B1 H0=true∧H0.length≤H.length∧(∀(i:Nat) ob,H0[i]?=some ob→ob.real=true→H[i]?=some ob)∧
   (∀(i:Nat) cs,H0[i]?=some (.cells cs)→Bn F cs=true)∧(∀(i:Nat) e sz es,H0[i]?=some (.arr e sz es)→∀a∈es,closed a=true)
 |[],H,Q,h=>⟨rfl,by simp,λi ob hi=>by simp at hi,λi cs hi=>by simp at hi,λi e sz es hi=>by simp at hi⟩
 |.dead::r0,[],Q,h=>by unfold D8 at h;exact h.elim
 |.dead::r0,o::hs,Q,h=>by
  unfold D8 at h;obtain⟨k1,k2,k3,k4,k5⟩:=Er h;refine⟨by simpa[B1]using k1,by simpa using k2,λi ob hi ho=>?_,λi cs hi=>?_,λi e sz es hi=>?_⟩
  ·cases i with
   |zero=>simp at hi;subst hi;cases ho
   |succ i=>simpa using k3 i ob (by simpa using hi) ho
  ·cases i with
   |zero=>simp at hi
   |succ i=>exact k4 i cs (by simpa using hi)
  ·cases i with
   |zero=>simp at hi
   |succ i=>exact k5 i e sz es (by simpa using hi)
 |.cells cs::r0,[],Q,h=>by unfold D8 at h;exact h.elim
 |.cells E9::r0,o::hs,Q,h=>by
  unfold D8 at h;obtain⟨rfl,hw,h⟩:=h;obtain⟨k1,k2,k3,k4,k5⟩:=Er h;refine⟨by simpa[B1]using k1,by simpa using k2,λi ob hi ho=>?_,λi cs hi=>?_,λi e sz es hi=>?_⟩
  ·cases i with
   |zero=>simpa using hi
   |succ i=>simpa using k3 i ob (by simpa using hi) ho
  ·cases i with
   |zero=>simp at hi;subst hi;exact hw
   |succ i=>exact k4 i cs (by simpa using hi)
  ·cases i with
   |zero=>simp at hi
   |succ i=>exact k5 i e sz es (by simpa using hi)
 |.arr e sz es::r0,[],Q,h=>by unfold D8 at h;exact h.elim
 |.arr e0 sz0 lU::r0,o::hs,Q,h=>by
  unfold D8 at h;obtain⟨rfl,hw,h⟩:=h;obtain⟨k1,k2,k3,k4,k5⟩:=Er h;refine⟨by simpa[B1]using k1,by simpa using k2,λi ob hi ho=>?_,λi cs hi=>?_,λi e sz es hi=>?_⟩
  ·cases i with
   |zero=>simpa using hi
   |succ i=>simpa using k3 i ob (by simpa using hi) ho
  ·cases i with
   |zero=>simp at hi
   |succ i=>exact k4 i cs (by simpa using hi)
  ·cases i with
   |zero=>simp at hi;obtain⟨rfl,rfl,rfl⟩:=hi;exact hw
   |succ i=>exact k5 i e sz es (by simpa using hi)
 |.ghost _ _ _::r0,H,Q,h=>by cases H<;>(unfold D8 at h;exact h.elim)
 |.inv _::r0,H,Q,h=>by cases H<;>(unfold D8 at h;exact h.elim)
 |.map _ _::r0,[],Q,h=>by unfold D8 at h;exact h.elim
 |.map ks0 lH::r0,o::hs,Q,h=>by
  unfold D8 at h;obtain⟨rfl,h⟩:=h;obtain⟨k1,k2,k3,k4,k5⟩:=Er h;refine⟨by simpa[B1]using k1,by simpa using k2,λi ob hi ho=>?_,λi cs hi=>?_,λi e sz es hi=>?_⟩
  ·cases i with
   |zero=>simpa using hi
   |succ i=>simpa using k3 i ob (by simpa using hi) ho
  ·cases i with
   |zero=>simp at hi
   |succ i=>exact k4 i cs (by simpa using hi)
  ·cases i with
   |zero=>simp at hi
   |succ i=>exact k5 i e sz es (by simpa using hi)
theorem VS{HS H1 H':List HO}(Ah:Az G C mu E H a w)(hh:D8 H0 H0 H True)(hp:Jy C (mu.only H0) w C' mu' w')(kE:AX C' w' (λ_=>True) mu' H1)(hlen:H1.length=H0.length)(fC:B1 H1=true)(Wd:∀l:Nat,H0[l]?=some HO.dead→H1[l]?=some HO.dead)
  (Bq:H'.length=H.length) (h1:∀i,AQ H0 i=true→H'[i]?=H1[i]?) (h2:∀i,AQ H0 i=false→H'[i]?=(H[i]?).map (Gr HS)) (ha:∀l x,HK HS l=false→mu l=some (.arr x)→(mu.mix mu' H0) l=some (.arr x)):
  Az G C' (mu.mix mu' H0) (Jz HS E) H' a w'∧Ay mu' (mu.mix mu' H0):=by
 obtain⟨LP,hle,Ju,V6,IJ⟩:=Er hh;have hx:Ext C C' w w':=Ext.of_block (hp.sub) λb o hc=>hp.same.block b ⟨Ah.lt b o hc,λl g hl hg=>(Ah.heap.fresh l g b (B9 hl).2 hg).2.2 o hc⟩
 have ZaM:Ay mu' (mu.mix mu' H0):=λl g hl=>by
  have AR:l<H0.length:=by rw[←hlen];exact kE.HH l g hl
  cases hr:AQ H0 l with
  |true=>rw[Gc hr];exact hl
  |false=>
   exfalso
   have:H0[l]?=some HO.dead:=by
    have ho:H0[l]?=some H0[l]:=FP AR;rcases GF LP ho with k|k;·rw[Cp.2 ⟨_,ho,k⟩]at hr;cases hr
    ·rw[ho,k]
   have:=kE.dead l (Wd l this);rw[hl]at this;cases this
 have hb:∀l b,mu l=some (.CU b)→(mu.mix mu' H0) l=some (.CU b):=λl b hl=>by
  cases hr:AQ H0 l with
  |true=>rw[Gc hr];exact hp.CA l b (by rw[ET hr];exact hl)
  |false=>rw[Gb hr];exact hl
 have pU:=λ(xs:List AV) {vs:List Value} (h:Aa C w xs mu vs)=>Ie (H0:=HS) hx hb ha xs h
 -- blocks of lI others
 have oth:∀{l g b},AQ H0 l=false→mu l=some g→g.As=some b→w'.heap[b]?=w.heap[b]?∧∀o,¬C' b o:=λ{l g b} hr hl hg=>by
  obtain⟨k1,k2,k3⟩:=Ah.heap.fresh l g b hl hg
  have Mz:∀l' g',mu.only H0 l'=some g'→g'.As≠some b:=λl' g' Bq QT=>by
   obtain⟨m1,m2⟩:=B9 Bq;have:=Ah.heap.sep l g b l' g' hl hg m2 QT;subst this;rw[hr]at m1;cases m1
  refine⟨hp.same.block b ⟨k2,Mz⟩,λo hc=>?_⟩
  rcases (hp.new b o hc).2 with k|k|⟨l',g',k,k'⟩;·exact k3 o k
  ·omega
  ·exact Mz l' g' k k'
 have Fw:∀{l g b},(mu.mix mu' H0) l=some g→g.As=some b→(∃l' g',mu l'=some g'∧g'.As=some b)∨w.heap.size≤b:=λ{l g b} hl hg=>by
  cases hr:AQ H0 l with
  |true=>
   rw[Gc hr]at hl;rcases hp.ob l g b hl hg with⟨l',g',k,k'⟩|k;·exact .inl ⟨l',g',(B9 k).2,k'⟩
   ·exact .inr k
  |false=>rw[Gb hr]at hl;exact .inl ⟨l,g,hl,hg⟩
 have Zc4:∀{l g b},(mu.mix mu' H0) l=some g→g.As=some b→b<w'.heap.size∧∀o,¬C' b o:=λ{l g b} hl hg=>by
  cases hr:AQ H0 l with
  |true=>rw[Gc hr]at hl;exact(kE.fresh l g b hl hg).2
  |false=>
   rw[Gb hr]at hl;exact⟨CW (Ah.heap.fresh l g b hl hg).2.1 hp.same.size,(oth hr hl hg).2⟩
 have qE:∀{l g b l' g'},AQ H0 l=true→AQ H0 l'=false→mu' l=some g→g.As=some b→mu l'=some g'→g'.As=some b→False:=λ{l g b l' g'} hr Nq hl hg Bq QT=>by
  rcases hp.ob l g b hl hg with⟨l2,g2,k,k'⟩|k
  ·obtain⟨m1,m2⟩:=B9 k;have:=Ah.heap.sep l' g' b l2 g2 Bq QT m2 k';subst this;rw[Nq]at m1;cases m1
  ·have:=(Ah.heap.fresh l' g' b Bq QT).2.1;omega
 have hold:∀{i:Nat}{ob:HO},AQ H0 i=false→H'[i]?=some ob→∃o,H[i]?=some o∧ob=Gr HS o:=λ{i ob} hr hi=>by
  rw[h2 i hr]at hi;cases ho:H[i]? with
  |none=>simp[ho]at hi
  |some o=>exact⟨o,rfl,by simpa[ho]using hi.symm⟩
 refine⟨⟨λb o hc=>hp.sub b o (Ah.c0 b o hc),λb o hc=>?_,λb o hc=>(hp.new b o hc).1,⟨λl g hl=>?_,λl g b hl hg=>?_,λl g b l' g' hl hg Bq QT=>?_,λl hl=>?_,λl cs hl=>?_,λl e sz es hl=>?_,λl ks vs hl=>?_⟩,pU E Ah.env,?_,
  ⟨hp.same.os.trans Ah.Aq.os,hp.same.tape.trans Ah.Aq.tape,hp.same.output.trans Ah.Aq.output,E1 Ah.Aq.size hp.same.size,λk hk hn=>?_⟩,by rw[Bq];exact Ah.CA.1,λl b hn hl=>hb l b (Ah.CA.2 l b hn hl)⟩,ZaM⟩
 ·rcases (hp.new b o hc).2 with k|k|⟨l,g,k,k'⟩;·exact Ah.c1 b o k
  ·exact .inr (.inl (E1 Ah.Aq.size k))
  ·exact .inr (Ah.heap.fresh l g b (B9 k).2 k').1
 ·rw[Bq];cases hr:AQ H0 l with
  |true=>rw[Gc hr]at hl;have:=kE.HH l g hl;omega
  |false=>rw[Gb hr]at hl;exact Ah.heap.HH l g hl
 ·refine⟨?_,Zc4 hl hg⟩;rcases Fw hl hg with⟨l',g',k,k'⟩|k;·exact(Ah.heap.fresh l' g' b k k').1
  ·exact .inl (E1 Ah.Aq.size k)
 ·cases hr:AQ H0 l with
  |true=>
   rw[Gc hr]at hl;cases Nq:AQ H0 l' with
   |true=>rw[Gc Nq]at Bq;exact kE.sep l g b l' g' hl hg Bq QT
   |false=>rw[Gb Nq]at Bq;exact(qE hr Nq hl hg Bq QT).elim
  |false=>
   rw[Gb hr]at hl;cases Nq:AQ H0 l' with
   |true=>rw[Gc Nq]at Bq;exact(qE Nq hr Bq QT hl hg).elim
   |false=>rw[Gb Nq]at Bq;exact Ah.heap.sep l g b l' g' hl hg Bq QT
 ·cases hr:AQ H0 l with
  |true=>rw[Gc hr];exact kE.dead l (by rw[←h1 l hr];exact hl)
  |false=>
   rw[Gb hr];obtain⟨o,ho,he⟩:=hold hr hl;cases o with
   |dead=>exact Ah.heap.dead l ho
   |_=>simp[Gr]at he
 ·cases hr:AQ H0 l with
  |true=>
   obtain⟨b,cur,e,k1,k2,k3,k4⟩:=kE.Cm l cs (by rw[←h1 l hr];exact hl)
   exact⟨b,cur,e,by rw[Gc hr];exact k1,k2,Aa.mono (Ext.refl _ _) _ ZaM k3,k4⟩
  |false=>
   obtain⟨o,ho,he⟩:=hold hr hl;cases o with
   |cells E9=>
    simp only[Gr,HO.cells.injEq]at he;subst he;obtain⟨b,cur,e,k1,k2,k3,k4⟩:=Ah.heap.Cm l E9 ho;exact⟨b,cur,e,by rw[Gb hr];exact k1,by rw[(oth hr k1 rfl).1];exact k2,pU _ k3,k4⟩
   |_=>simp[Gr]at he
 ·have WC:Ay (Bb mu) (Bb (mu.mix mu' H0)):=DV hb;have ZfV:Ay (Bb mu') (Bb (mu.mix mu' H0)):=DV λl b h=>ZaM l _ h
  cases hr:AQ H0 l with
  |true=>
   obtain⟨k0,k⟩:=kE.BJ l e sz es (by rw[←h1 l hr];exact hl)
   refine⟨k0,?_⟩;rw[Gc hr];exact k.imp id λ⟨b,cap,cur,k1,k2,k3,k4,k5,k6,k7⟩=>⟨b,cap,cur,k1,k2,k3,k4,k5,Aa.mono (Ext.refl _ _) _ ZfV k6,k7⟩
  |false=>
   obtain⟨o,ho,he⟩:=hold hr hl;cases o with
   |arr e0 s0 lU=>
    simp only[Gr,HO.arr.injEq]at he;obtain⟨rfl,rfl,rfl⟩:=he;obtain⟨k0,k⟩:=Ah.heap.BJ l _ _ _ ho;refine⟨k0,?_⟩;rw[Gb hr];exact k.imp id λ⟨b,cap,cur,k1,k2,k3,k4,k5,k6,k7⟩=>⟨b,cap,cur,k1,k2.of_eq (by rw[(oth hr k1 rfl).1]),k3,k4,k5,Aa.mono hx _ WC k6,k7⟩
   |_=>simp[Gr]at he
 ·cases hr:AQ H0 l with
  |true=>
   obtain⟨b,es,cl,k1,k2,k3⟩:=kE.maps l ks vs (by rw[←h1 l hr];exact hl)
   exact⟨b,es,cl,by rw[Gc hr];exact k1,k2,k3⟩
  |false=>
   obtain⟨o,ho,he⟩:=hold hr hl;cases o with
   |map ks0 lH=>
    simp only[Gr,HO.map.injEq]at he;obtain⟨rfl,rfl⟩:=he;obtain⟨b,es,cl,k1,k2,k3⟩:=Ah.heap.maps l _ _ ho;exact⟨b,es,cl,by rw[Gb hr];exact k1,by rw[(oth hr k1 rfl).1];exact k2,k3⟩
   |_=>simp[Gr]at he
 ·obtain⟨ms,d1,d2⟩:=Ah.defers
  have hgi:∀{i:Nat}{ob:HO},H'[i]?=some ob→ob.real=false→ob≠.dead→∃o,H[i]?=some o∧ob=Gr HS o:=λ{i ob} hi sL N2=>by
   cases hr:AQ H0 i with
   |false=>exact hold hr hi
   |true=>
    rw[h1 i hr]at hi;rcases GF fC hi with k|k;·rw[k]at sL;cases sL
    ·exact absurd k N2
  refine⟨ms,d1,d2.step ⟨hp.same.os,hp.same.tape,hp.same.output,hp.same.size,λb WC=>hp.same.block b ⟨WC.1,λl g hl hg=>WC.2 l g (B9 hl).2 hg⟩⟩ (λl g b hl hg=>Fw hl hg) (λb o hc=>?_) (λl cs vs ms hl=>?_) (λl I hl=>?_)⟩
  ·rcases (hp.new b o hc).2 with k|k|⟨l,g,k,k'⟩;·exact .inl k
   ·exact .inr (.inl k)
   ·exact .inr (.inr ⟨l,g,(B9 k).2,k'⟩)
  ·obtain⟨o,ho,he⟩:=hgi hl rfl (by simp)
   cases o with
   |ghost E9 lH ms0=>
    simp only[Gr,HO.ghost.injEq]at he;obtain⟨rfl,rfl,rfl⟩:=he;exact⟨E9,ho,λh=>pU E9 h⟩
   |_=>simp[Gr]at he
  ·obtain⟨o,ho,he⟩:=hgi hl rfl (by simp)
   cases o with
   |inv I0=>simp only[Gr,HO.inv.injEq]at he;subst he;exact ho
   |_=>simp[Gr]at he
 ·rw[hp.same.block k ⟨CW hk Ah.Aq.size,λl g hl hg=>?_⟩]
  ·exact Ah.Aq.block k hk hn
  ·rcases (Ah.heap.fresh l g k (B9 hl).2 hg).1 with q|q;·omega
   ·exact hn q
theorem merged{H1 H':List HO}(Ah:Az G C mu E H a w)(hh:D8 H0 H0 H True)(hp:Jy C (mu.only H0) w C' mu' w')(kE:AX C' w' (λ_=>True) mu' H1)(hlen:H1.length=H0.length)(fC:B1 H1=true)(Wd:∀l:Nat,H0[l]?=some HO.dead→H1[l]?=some HO.dead)
  (Bq:H'.length=H.length) (h1:∀i,AQ H0 i=true→H'[i]?=H1[i]?) (h2:∀i,AQ H0 i=false→H'[i]?=(H[i]?).map (Gr H0)):
  Az G C' (mu.mix mu' H0) (Jz H0 E) H' a w'∧Ay mu' (mu.mix mu' H0):=by
 obtain⟨LP,hle,Ju,V6,IJ⟩:=Er hh
 have ZfZ:∀l x,HK H0 l=false→mu l=some (.arr x)→AQ H0 l=false:=λl x hl hm=>by
  cases hr:AQ H0 l with
  |false=>rfl
  |true=>
   exfalso;obtain⟨ob,ho,sL⟩:=Cp.1 hr;cases ob with
   |cells cs=>
    obtain⟨b,cur,e,k1,_⟩:=Ah.heap.Cm l cs (Ju l _ ho rfl);rw[hm]at k1;cases k1
   |map ks vs=>
    obtain⟨b,es,cl,k1,_⟩:=Ah.heap.maps l ks vs (Ju l _ ho rfl);rw[hm]at k1;cases k1
   |arr e sz es=>
    have key:∀{H:List HO}{l:Nat},H[l]?=some (.arr e sz es)→HK H l=true:=by
     intro H;induction H with
     |nil=>intro l h;simp at h
     |cons o r ih=>
      intro l h;cases l with
      |zero=>simp at h;subst h;rfl
      |succ l=>
       have:=ih (l:=l) (by simpa using h)
       cases o<;>exact this
    rw[key ho]at hl;cases hl
   |_=>cases sL
 have ha:∀l x,HK H0 l=false→mu l=some (.arr x)→(mu.mix mu' H0) l=some (.arr x):=λl x hl hm=>by
  rw[Gb (ZfZ l x hl hm)];exact hm
 exact VS Ah hh hp kE hlen fC Wd Bq h1 h2 ha
theorem RL(Ah:Az G C mu E H a w)(hh:D8 H0 H0 H True):AX C w (λ_=>True) (mu.only H0) H0:=by
 obtain⟨LP,hle,Ju,V6,IJ⟩:=Er hh;refine⟨λl g hl=>?_,λl g b hl hg=>⟨trivial,(Ah.heap.fresh l g b (B9 hl).2 hg).2⟩,λl g b l' g' hl hg Bq QT=>Ah.heap.sep l g b l' g' (B9 hl).2 hg (B9 Bq).2 QT,λl hl=>?_,λl cs hl=>?_,λl e sz es hl=>?_,λl ks vs hl=>?_⟩
 ·obtain⟨ob,ho,_⟩:=Cp.1 (B9 hl).1;exact(Bj.1 ho).1
 ·cases hr:AQ H0 l with
  |false=>simp[Mu.only,hr]
  |true=>
   obtain⟨ob,ho,sL⟩:=Cp.1 hr;rw[hl]at ho;simp only[Ep.injEq]at ho;subst ho;cases sL
 ·have hr:AQ H0 l=true:=Cp.2 ⟨_,hl,rfl⟩;obtain⟨b,cur,e,k1,k2,k3,k4⟩:=Ah.heap.Cm l cs (Ju l _ hl rfl);exact⟨b,cur,e,by rw[ET hr];exact k1,k2,BX cs (V6 l cs hl) k3,k4⟩
 ·have hr:AQ H0 l=true:=Cp.2 ⟨_,hl,rfl⟩;obtain⟨k0,k⟩:=Ah.heap.BJ l e sz es (Ju l _ hl rfl);refine⟨k0,?_⟩;rw[ET hr];exact k.imp id λ⟨b,cap,cur,k1,k2,k3,k4,k5,k6,k7⟩=>⟨b,cap,cur,k1,k2,k3,k4,k5,Aa.mono (Ext.refl _ _) _ (Ay.none _) (A1 _ (E5 (IJ l e sz es hl)) k6),k7⟩
 ·have hr:AQ H0 l=true:=Cp.2 ⟨_,hl,rfl⟩;obtain⟨b,es,cl,k1,k2,k3⟩:=Ah.heap.maps l ks vs (Ju l _ hl rfl);exact⟨b,es,cl,by rw[ET hr];exact k1,k2,k3⟩
theorem Ak.oE{f:FuncId}{args:List AV}{R X':AV→List HO→Prop}{K:AV→KK}{X:XX}(h:FE P f args H0 R X')(hw:Bn H0 args=true)(hh:D8 H0 H0 H True)
  (hk:∀r H1,R r H1→Vv H0 E λE'=>BO H0 H0 H1 H λH'=>K r E' H') (hx:∀r H1,X' r H1→Vv H0 E λE'=>BO H0 H0 H1 H λH'=>X (.panic r) E' H'):Ak P f args E H K X:=by
 refine⟨h.Ed,λG C mu a w vs hP Ah hr=>(h.out C (mu.only H0) w vs Ah.Ze (RL Ah hh) (BX args hw hr)).mono λe w' hp=>?_⟩
 obtain⟨r,v,H1,C',mu',Zfc,DC,Yd,EX,hlen,PJ,fK⟩:=hp;have LP:=(Er hh).1;rcases Zfc with⟨rfl,hR⟩|⟨rfl,hR⟩
 ·have hk:=hk r H1 hR;rw[GX]at hk;obtain⟨H',k1,k2,k3,k4⟩:=EI LP hk;obtain⟨m1,m2⟩:=merged Ah hh DC Yd hlen PJ fK k2 k3 k4;exact .inl ⟨r,v,_,_,C',_,rfl,k1,m1,Aj.mono (Ext.refl _ _) _ m2 EX⟩
 ·have hk:=hx r H1 hR;rw[GX]at hk;obtain⟨H',k1,k2,k3,k4⟩:=EI LP hk;obtain⟨m1,m2⟩:=merged Ah hh DC Yd hlen PJ fK k2 k3 k4;exact .inr ⟨r,v,_,_,C',_,rfl,k1,m1,Aj.mono (Ext.refl _ _) _ m2 EX⟩
theorem Ac.freeze(l:Nat){c:Code}{K:KK}{X:XX}(h:kM l E H λE H=>Ac P c E H K X):Ac P c E H K X:=by
 refine⟨λn G a w hP Ah=>?_⟩
 obtain⟨C,mu,Ah⟩:=Ah;obtain⟨E',H',C',mu',hk,CM⟩:=Ah.freeze h;exact hk.out n G a w hP ⟨C',mu',CM⟩
theorem Ak.freeze(l:Nat){f:FuncId}{args:List AV}{K:AV→KK}{X:XX}(h:kM l (args++E) H λE' H'=>Ak P f (E'.take args.length) (E'.drop args.length) H' K X)(hg:B5 P f=true):Ak P f args E H K X:=by
 refine⟨hg,λG C mu a w vs hP Ah hr=>?_⟩
 have Ec:Az G C mu (args++E) H {tmps:=(vs++a.tmps.toList).toArray,defers:=a.defers} w:=Ah.frame (by simpa using AF hr Ah.env) rfl
 obtain⟨E',H',C',mu',hk,CM⟩:=Ec.freeze h;have Yn:=CM.env;have hl:vs.length=args.length:=Ar _ hr
 have h1:Aa C' w (E'.take args.length) mu' vs:=by
  have:=Yn.take args.length;simpa[←hl]using this
 have h2:Aa C' w (E'.drop args.length) mu' a.tmps.toList:=by
  have:=Yn.drop args.length;simpa[←hl]using this
 exact hk.out G C' mu' a w vs hP (CM.frame h2 rfl) h1
theorem Ww(H:List HO)(ob:HO):Al H H.length (H++[ob]) ob:=by
 refine⟨by simp,by simp,by simp,λi hi=>?_,.inl (by simp)⟩
 rcases Nat.lt_or_ge i H.length with h|h;·rw[Gj h]
 ·rw[JD (by simp;omega),JD h]
theorem Ac.OD(t:Nat)(e:TypeId)(sz:Nat){c:Code}{K:KK}{X:XX}(he:E[t]?=some (.raw (.slice none 0 0)))(h:Ac P c (E.set t (.own H.length sz 0 0)) (H++[HO.arr e sz []]) K X):Ac P c E H K X:=by
 refine⟨λn G a w hP Ah=>?_⟩
 obtain⟨C,mu,Ah⟩:=Ah;obtain⟨h1,h2⟩:=Ah.OD (Ww H (HO.arr e sz []));refine h.out n G a w hP ⟨C,_,h1.frame ?_ rfl⟩;obtain⟨v,hv,hr⟩:=Hz h1.env he;unfold Aj at hr;subst hr;exact HR h1.env hv h2
theorem Az.Gv(Ah:Az G C mu E H a w)(l i:Nat)(e:TypeId)(sz:Nat){cs:List AV}(hl:H[l]?=some (.cells cs))(he:cs[i]?=some (.raw (.slice none 0 0))):
  Az G C (mu.set H.length (some (.arr (.slice none 0 0)))) E ((H++[HO.arr e sz []]).set l (HO.cells (cs.set i (.own H.length sz 0 0)))) a w∧Ay mu (mu.set H.length (some (.arr (.slice none 0 0)))):=by
 obtain⟨h1,h2⟩:=Ah.OD (Ww H (HO.arr e sz []));have AR:l<H.length:=(Bj.1 hl).1;have Wb:(H++[HO.arr e sz []])[l]?=some (.cells cs):=by rw[Gj AR];exact hl
 have V9:l<(H++[HO.arr e sz []]).length:=by simp;omega
 refine⟨⟨h1.c0,h1.c1,h1.lt,⟨λi g hi=>by simpa using h1.heap.HH i g hi,h1.heap.fresh,h1.heap.sep,λk hk=>?_,λk cs' hk=>?_,λk e' BD Cf hk=>?_,λk ks vs hk=>?_⟩,h1.env,?_,h1.Aq,by simpa using h1.CA.1,h1.CA.2⟩,Nf _ ?_⟩
 ·by_cases MB:k=l;·subst MB;rw[EN V9]at hk;cases hk
  ·rw[Ff (λe=>MB e.symm)]at hk;exact h1.heap.dead k hk
 ·by_cases MB:k=l
  ·subst MB;rw[EN V9]at hk;simp only[Ep.injEq,HO.cells.injEq]at hk;subst hk;obtain⟨b,cur,e',k1,k2,k3,k4⟩:=h1.heap.Cm k cs Wb;refine⟨b,cur,e',k1,k2,?_,k4⟩;obtain⟨v,hv,hr⟩:=Hz k3 he;unfold Aj at hr;subst hr;exact HR k3 hv h2
  ·rw[Ff (λe=>MB e.symm)]at hk;exact h1.heap.Cm k cs' hk
 ·by_cases MB:k=l;·subst MB;rw[EN V9]at hk;cases hk
  ·rw[Ff (λe=>MB e.symm)]at hk;exact h1.heap.BJ k e' BD Cf hk
 ·by_cases MB:k=l;·subst MB;rw[EN V9]at hk;cases hk
  ·rw[Ff (λe=>MB e.symm)]at hk;exact h1.heap.maps k ks vs hk
 ·obtain⟨ms,d1,d2⟩:=h1.defers
  have hg:∀{k:Nat}{ob:HO},((H++[HO.arr e sz []]).set l (.cells (cs.set i (.own H.length sz 0 0))))[k]?=some ob→ob.real=false→(H++[HO.arr e sz []])[k]?=some ob:=λ{k ob} hk sL=>by
   by_cases MB:k=l
   ·subst MB;rw[EN V9]at hk;simp only[Ep.injEq]at hk;subst hk;cases sL
   ·rwa [Ff (λe=>MB e.symm)]at hk
  exact⟨ms,d1,⟨λk cs' vs gm hk=>d2.Bc k cs' vs gm (hg hk rfl),λk I hk=>by
   obtain⟨h0,Sw,Sr,q1,q2,q3,q4⟩:=d2.Gx k I (hg hk rfl);exact⟨h0,Sw,Sr,q1,q2,q3,λk' cs' vs gm Hc=>q4 k' cs' vs gm (hg Hc rfl)⟩,d2.marks,d2.nd,λk k' cs' vs gm cs2 sW gm2 hk Hc=>d2.sep k k' cs' vs gm cs2 sW gm2 (hg hk rfl) (hg Hc rfl)⟩⟩
 ·cases hm:mu H.length with
  |none=>rfl
  |some g=>exact absurd (Ah.heap.HH _ _ hm) (JJ _)
theorem Ac.Gv(l i:Nat)(e:TypeId)(sz:Nat){cs:List AV}{c:Code}{K:KK}{X:XX}(hl:H[l]?=some (.cells cs))(he:cs[i]?=some (.raw (.slice none 0 0)))
  (h:Ac P c E ((H++[HO.arr e sz []]).set l (HO.cells (cs.set i (.own H.length sz 0 0)))) K X):Ac P c E H K X:=by
 refine⟨λn G a w hP Ah=>?_⟩
 obtain⟨C,mu,Ah⟩:=Ah;exact h.out n G a w hP ⟨C,_,(Ah.Gv l i e sz hl he).1⟩
theorem Ak.Gv(l i:Nat)(e:TypeId)(sz:Nat){cs:List AV}{f:FuncId}{args:List AV}{K:AV→KK}{X:XX}(hl:H[l]?=some (.cells cs))(he:cs[i]?=some (.raw (.slice none 0 0)))
  (h:Ak P f args E ((H++[HO.arr e sz []]).set l (HO.cells (cs.set i (.own H.length sz 0 0)))) K X):Ak P f args E H K X:=by
 refine⟨h.Ed,λG C mu a w vs hP Ah hr=>?_⟩
 obtain⟨h1,h2⟩:=Ah.Gv l i e sz hl he;exact h.out G C _ a w vs hP h1 (Aa.mono (Ext.refl _ _) _ h2 hr)
end
end Go.Av
namespace Go.Av
open Go.RowKit (Below)
section
variable {G:Cx}{C C':Ag}{w w':World}{mu mu':Mu}{H R:List HO}{E:List AV}{a:Act}{T:List TY}{P:Program}
open Classical in
theorem Ac.AJ{b:Code}{ι:Type}(tm:ι→List AV)(hp:ι→List HO)(pre:ι→Prop)(μ:ι→Nat){K:KK}{X:XX}(ok:∀i,pre i→Bn (hp i) (tm i)=true∧Cq (hp i) (hp i) True)
  (h0:∃i,eV E (tm i) (H=hp i∧pre i))
  (len:∀i,(hp i).length=H.length)
  (step:∀i,pre i→Ac P b (tm i) (hp i) (λE' H'=>∃j,eV E' (tm j) (Kk H' (hp j) (pre j∧μ j<μ i))) X):Ac P (.loop b) E H K X:=by
 refine⟨λn G a w hP Ah=>?_⟩
 obtain⟨i0,h0⟩:=h0;obtain⟨hle,hH,hp0⟩:=Nk _ _ _ h0;have Ss:St G (tm i0) (hp i0) a w:=by rw[←hH];exact Ah.le hle
 have vF:G.np≤H.length:=by obtain⟨C,mu,h⟩:=Ah;exact h.CA.1
 refine wpIn_loop (λa w=>∃i,pre i∧St G (tm i) (hp i) a w) (λa w=>if h:∃n i,μ i=n∧pre i∧St G (tm i) (hp i) a w then Classical.choose (Ms _ h)else 0) ⟨i0,hp0,Ss⟩ ?_
 rintro a w ⟨i,hi,Ah⟩;have hex:∃n i,μ i=n∧pre i∧St G (tm i) (hp i) a w:=⟨_,i,rfl,hi,Ah⟩;obtain⟨⟨i',EY,Zfa,ZcR⟩,Zih⟩:=Classical.choose_spec (Ms _ hex);refine wpIn_mono ((step i' Zfa).out n G a w hP ZcR) λe a' w' hq=>?_
 cases e with
 |normal=>
  obtain⟨E',H',⟨j,hj⟩,CM⟩:=hq;obtain⟨ZaQ,hj⟩:=Nk _ _ _ hj;obtain⟨⟨vD,AR⟩,R,rfl⟩:=Iv hj;obtain⟨C,mu,CM⟩:=CM.le ZaQ;have hd:St G (tm j) (hp j) a' w':=⟨C,_,CM.drop (ok j vD).1 (ok j vD).2 (by rw[len];exact vF)⟩
  refine⟨⟨j,vD,hd⟩,?_⟩;have Zdu:∃n i,μ i=n∧pre i∧St G (tm i) (hp i) a' w':=⟨_,j,rfl,vD,hd⟩;rw[dif_pos hex,dif_pos Zdu];have h2:=(Classical.choose_spec (Ms _ Zdu)).2 (μ j) ⟨j,rfl,vD,hd⟩;omega
 |exit id=>exact hq
 |ret=>exact hq
 |panic c=>exact hq
 |goto l=>exact hq
 |outgrown=>exact hq
end
open Go.RowKit (Below ok_one shut_bool okWide_bool_mk)
open Go.ChangeShapes Go.WideShapes
def ZbJ(P:Program)(t:TypeId)(x:AV):Prop:=(AU P t=true→∃c,x=.agg c)∧(AU P t=false→x.cells=[x])
def MC(P:Program):Nat→TypeId→List AV→Prop
 |0,_,_=>False
 |n+1,t,cs=>match P.underlying t with
  |some .bool=>∃b,cs=[.bool b]
  |some (.int k)=>∃i,cs=[.int k i]∧DF k i
  |some .string=>∃l,cs=[.str l]∧l.length≤reachBytes
  |some (.slice e)=>∃es:List AV,cs=[.sl (P.cellsOf e) es]∧es.length≤maxLen∧∀x∈es,MC P n e x.cells∧ZbJ P e x
  |some (.struct fs)=>∃parts:List (List AV),cs=parts.flatten∧parts.length=fs.size∧∀(i:Nat) f p,fs[i]?=some f→parts[i]?=some p→MC P n f.type p
  |_=>False
def JI(P:Program)(m:Nat)(t:TypeId)(x:AV):Prop:=MC P m t x.cells∧ZbJ P t x
def KG(P:Program)(m:Nat):List TypeId→List AV→Prop
 |[],[]=>True
 |t::ts,x::xs=>JI P m t x∧KG P m ts xs
 |_,_=>False
def NJ(P:Program):Nat→List Field→Nat→Bool
 |off,[],tB=>Kr off tB
 |off,f::r,tB=>Kr f.offset off&&NJ P (off+P.cellsOf f.type) r tB
def LI(P:Program):Nat→TypeId→Bool
 |0,_=>false
 |n+1,t=>match P.underlying t with
  |some .bool=>true
  |some (.int _)=>true
  |some .string=>true
  |some (.slice e)=>LI P n e&&Nat.ble 1 (P.cellsOf e)
  |some (.struct fs)=>NJ P 0 fs.toList (P.cellsOf t)&&fs.toList.all (λf=>LI P n f.type)
  |_=>false
section
variable {P:Program}{W:World}{H:Type}{enc:TypeId×Value→H}{base:Nat}{held:Bool}
def jH(P:Program)(e:TypeId)(c:List AV):AV:=if AU P e=true then .agg c else c.headD .any
theorem Vp{n:Nat}{t:TypeId}{c:List AV}(h:MC P n t c)(ha:AU P t=false):∃x,c=[x]∧x.cells=[x]:=by
 cases n with
 |zero=>exact h.elim
 |succ n=>
  unfold MC at h;unfold AU at ha;split at h<;>rename_i hu
  ·obtain⟨b,rfl⟩:=h;exact⟨_,rfl,rfl⟩
  ·obtain⟨b,rfl,_⟩:=h;exact⟨_,rfl,rfl⟩
  ·obtain⟨b,rfl,_⟩:=h;exact⟨_,rfl,rfl⟩
  ·obtain⟨b,rfl,_⟩:=h;exact⟨_,rfl,rfl⟩
  ·rw[hu]at ha;cases ha
  ·exact h.elim
theorem Mh{n:Nat}{e:TypeId}{c:List AV}(h:MC P n e c):(jH P e c).cells=c:=by
 unfold jH;split;·rfl
 ·rename_i ha;obtain⟨x,rfl,hx⟩:=Vp h (by simpa using ha)
  exact hx
theorem Ux{Q:Field→List AV→Prop}:∀(fs:List Field)(off tB:Nat)(vs:List Value),NJ P off fs tB=true→vs.length=tB→
  (∀(i:Nat) f,fs[i]?=some f→∃c,Q f c∧Aa (Df W) W c Mu.none ((vs.drop f.offset).take (P.cellsOf f.type))∧∀v∈(vs.drop f.offset).take (P.cellsOf f.type),v.oneCell'=true)→
  ∃parts:List (List AV),parts.length=fs.length∧(∀(i:Nat) f p,fs[i]?=some f→parts[i]?=some p→Q f p)∧Aa (Df W) W parts.flatten Mu.none (vs.drop off)∧∀v∈vs.drop off,v.oneCell'=true
 |[],off,tB,vs,hc,hl,h=>by
  unfold NJ at hc;have:=F0 hc;have hd:vs.drop off=[]:=List.drop_eq_nil_of_le (by omega)
  exact⟨[],rfl,λi f p hf=>by simp at hf,by rw[hd];simp[Aa],by rw[hd];simp⟩
 |f::r,off,tB,vs,hc,hl,h=>by
  unfold NJ at hc;simp only[D6]at hc;have ho:=F0 hc.1;obtain⟨parts,k1,k2,k3,k4⟩:=Ux r (off+P.cellsOf f.type) tB vs hc.2 hl (λi g hg=>h (i+1) g (by simpa using hg))
  obtain⟨c,q,hr,h1⟩:=h 0 f rfl;rw[ho]at hr h1
  have hs:vs.drop off=(vs.drop off).take (P.cellsOf f.type)++vs.drop (off+P.cellsOf f.type):=by
   rw[←List.drop_drop,List.take_append_drop]
  refine⟨c::parts,by simp[k1],λi g p hg hp=>?_,?_,?_⟩
  ·cases i with
   |zero=>simp at hg hp;subst hg;subst hp;exact q
   |succ i=>exact k2 i g p (by simpa using hg) (by simpa using hp)
  ·rw[hs,List.flatten_cons];exact AF hr k3
  ·intro v hv;rw[hs,It]at hv;rcases hv with hv|hv;·exact h1 v hv
   ·exact k4 v hv
theorem gB{a:Addr}{v:Value}(h:W.cell? a=some v):a.spot=none∧a.block<W.heap.size:=by
 unfold World.cell? at h;split at h
 ·rename_i c e f hb;refine⟨?_,(Bh.1 hb).1⟩;split at h;·cases h
  ·rename_i hs;simpa using hs
 ·cases h
def Lgt(l:List Nat):Prop:=∀n∈l,n≤reachBytes
theorem JN{e:TypeId}:∀{ds:List (DataW H)} {d:DataW H},d∈ds→∀n∈d.weights P e,n∈DataW.weightsAll P e ds
 |d::ds,x,h,n,hn=>by
  unfold DataW.weightsAll;rcases D0.1 h with rfl|h;·exact Ef _ hn
  ·exact Gf _ (JN h n hn)
theorem Jm:∀{ts:List TypeId}{ds:List (DataW H)} {i:Nat} {t:TypeId} {d:DataW H},ts[i]?=some t→ds[i]?=some d→∀n∈d.weights P t,n∈DataW.weightsEach P ts ds
 |[],_,_,_,_,h,_,_,_=>by simp at h
 |_::_,[],_,_,_,_,h,_,_=>by simp at h
 |t::ts,d::ds,0,_,_,h1,h2,n,hn=>by
  simp at h1 h2;subst h1;subst h2
  unfold DataW.weightsEach;exact Ef _ hn
 |t::ts,d::ds,i+1,_,_,h1,h2,n,hn=>by
  unfold DataW.weightsEach;exact Gf _ (Jm (i:=i) (by simpa using h1) (by simpa using h2) n hn)
theorem Zv:∀(m:Nat)(t:TypeId),LI P m t=true→∀(fuel:Nat)(vs:List Value)(x:DataW H×List MemPlace),DataW.trod enc P W base (λ_=>true) held fuel t vs=some x→Lgt (x.1.weights P t)→
  ∃cs,MC P m t cs∧Aa (Df W) W cs Mu.none vs∧∀v∈vs,v.oneCell'=true
 |0,t,hs,_,_,_,_,_=>by cases hs
 |m+1,t,hs,fuel,vs,x,h,vB=>by
  unfold LI at hs;unfold MC;split at hs<;>rename_i hu
  ·obtain⟨b,rfl,_⟩:=DataW.trod_bool hu h;exact⟨[.bool b],by first|exact⟨b,rfl⟩|(rw[hu];exact⟨b,rfl⟩),by simp[Aa,Aj],by simp[Gm]⟩
  ·rename_i kk;obtain⟨b,rfl,_,hw⟩:=DataW.trod_int hu h;have hk:DF kk b:=by unfold DF;simpa[Lit.wf]using hw
   exact⟨[.int kk b],by first|exact⟨b,rfl,hk⟩|(rw[hu];exact⟨b,rfl,hk⟩),by simp[Aa,Aj,hk],by simp[Gm]⟩
  ·obtain⟨s,rfl,rfl,hw⟩:=DataW.trod_string hu h;have hl:s.data.toList.length≤reachBytes:=vB _ (by unfold DataW.weights;simp)
   refine⟨[.str s.data.toList],by first|exact⟨_,rfl,hl⟩|(rw[hu];exact⟨_,rfl,hl⟩),?_,by simp[Gm]⟩
   unfold Aa;refine⟨_,[],rfl,?_,by unfold Aa;rfl⟩
   unfold Aj;refine⟨by simp,?_⟩
   unfold reachBytes at hl;omega
  ·rename_i e;simp only[D6]at hs;have Eh:=JB hs.2;rcases Deep.open_slice hu h with⟨rfl,_⟩|⟨a,len,cap,mm,n,D,Pl,rfl,hb,hl,hm,hmm,Yb,qA⟩
   ·refine⟨[.sl (P.cellsOf e) []],by first|exact⟨[],rfl,by simp,λx hx=>by simp at hx⟩|(rw[hu];exact⟨[],rfl,by simp,λx hx=>by simp at hx⟩),?_,by simp[Gm]⟩
    simp[Aa,Aj]
   ·simp only[if_true]at hmm;rw[hmm]at qA;clear hmm
    have hx:∀i,i<len→∃c,MC P m e c∧∃cs',W.cells? base (a.add (i*P.cellsOf e)) (P.cellsOf e)=some cs'∧Aa (Df W) W c Mu.none cs'∧∀v∈cs',v.oneCell'=true:=λi hi=>by
     obtain⟨cs',h1,h2⟩:=qA i (by omega)
     obtain⟨c,k1,k2,k3⟩:=Zv m e hs.1 _ _ _ h2 λn hn=>vB n (by
      rw[Yb];unfold DataW.weights;simp only[hu];refine B7 _ (Ef _ (JN (Gz.2 ⟨i,Kj.2 hi,rfl⟩) n hn)))
     exact⟨c,k1,cs',h1,k2,k3⟩
    obtain⟨f,hf⟩:=Deep.choose_lt (α:=List AV) hx;let es:List AV:=(List.range len).map λi=>jH P e (f i)
    have hlen:es.length=len:=by simp[es]
    have sJ:∀x∈es,MC P m e x.cells∧ZbJ P e x:=λx hx=>by
     simp only[es,Gz,Kj]at hx;obtain⟨i,hi,rfl⟩:=hx;refine⟨by rw[Mh (hf i hi).1];exact(hf i hi).1,λha=>⟨f i,by simp[jH,ha]⟩,λha=>?_⟩
     obtain⟨y,hy,hy2⟩:=Vp (hf i hi).1 ha;simp only[jH,ha,hy];exact hy2
    refine⟨[.sl (P.cellsOf e) es],by first|exact⟨es,rfl,by rw[hlen];omega,sJ⟩|(rw[hu];exact⟨es,rfl,by rw[hlen];omega,sJ⟩),?_,by simp[Gm]⟩
    unfold Aa;refine⟨_,[],rfl,?_,by unfold Aa;rfl⟩
    unfold Aj;rcases Nat.eq_zero_or_pos cap with hc|hc
    ·subst hc;obtain rfl:len=0:=by omega
     exact .inl ⟨⟨_,rfl⟩,by simp[es]⟩
    ·obtain⟨E9,h0,_⟩:=qA 0 hc;obtain⟨_,Sz,h0⟩:=J2 h0;have h00:=h0 0 (by omega)
     rw[FP (by omega)]at h00
     simp only[Nat.zero_mul]at h00
     have lL:a.spot=none:=by
      have:=(gB h00).1;unfold Addr.add at this;simpa using this
     obtain⟨b,o,sp⟩:=a;simp only at lL;subst lL;refine .inr ⟨b,o,cap,by rw[hlen],by rw[hlen];exact hl,by unfold maxLen at hm;omega,(DJ es o).2 λi hi=>?_⟩
     rw[hlen]at hi;obtain⟨hti,cs',h1,h2,h3⟩:=hf i hi;obtain⟨_,Wb,h1⟩:=J2 h1;have hei:es[i]'(by rw[hlen];exact hi)=jH P e (f i):=by simp[es]
     rw[hei];have N0:=(AI _).1 h2;refine⟨by rw[Mh hti,←N0.1];exact Wb,?_⟩
     rw[Mh hti];refine(Co _ _).2 λj hj=>?_
     have bL:j<cs'.length:=by omega
     have hcj:=h1 j (by omega)
     rw[FP bL,add_lit,add_lit]at hcj;exact⟨cs'[j],h3 _ (J5 _),⟨(gB hcj).2,hcj⟩,N0.2 j hj bL⟩
  ·rename_i fs;simp only[D6]at hs;obtain⟨xs,n,_,Yb,hl,_,hf⟩:=DataW.trod_struct hu h
   obtain⟨parts,k1,k2,k3,k4⟩:=Ux (P:=P) (W:=W) (Q:=λf c=>MC P m f.type c) fs.toList 0 _ vs hs.1 hl (λi f fI=>by
    have hfa:fs[i]?=some f:=by simpa using fI
    have hfx:=hf i f hfa;have AR:i<fs.size:=(Bh.1 hfa).1;have hsf:LI P m f.type=true:=J6.1 hs.2 f (List.mem_of_getElem? fI);obtain⟨xsl,_⟩:∃y,xs[i]?=some y:=⟨_,FP (by omega)⟩
    cases hxi:xs[i]? with
    |none=>rw[List.getElem?_eq_none_iff]at hxi;omega
    |some y=>
     rw[hxi]at hfx
     obtain⟨c,q1,q2,q3⟩:=Zv m f.type hsf n _ y hfx λk hk=>vB k (by
      rw[Yb];unfold DataW.weights;simp only[hu];exact Jm (i:=i) (t:=f.type) (d:=y.1) (by simp[fI]) (by simp[hxi]) k hk)
     exact⟨c,q1,q2,q3⟩)
   refine⟨parts.flatten,by first|exact⟨parts,rfl,by simpa using k1,λi f p hf hp=>k2 i f p (by simpa using hf) hp⟩|(rw[hu];exact⟨parts,rfl,by simpa using k1,λi f p hf hp=>k2 i f p (by simpa using hf) hp⟩),by simpa using k3,by simpa using k4⟩
  ·cases hs
theorem TG{r:Reach}{t:TypeId}{v:Value}(h:G4 P W r base t v)(ha:AU P t=false)(hs:∃m,LI P m t=true):v.cells=#[v]:=by
 obtain⟨m,hs⟩:=hs;cases m with
 |zero=>cases hs
 |succ m=>
  unfold LI at hs;unfold AU at ha;unfold G4 at h;split at hs<;>rename_i hu
  ·rw[hu]at h;simp only[Cell.okWide,Cell.ok,hu]at h
   cases v<;>simp_all[Value.cells]
  ·rw[hu]at h;simp only[Cell.okWide,Cell.ok,hu]at h
   cases v<;>simp_all[Value.cells]
  ·rw[hu]at h;simp only[Cell.okWide,Cell.ok,hu]at h
   cases v<;>simp_all[Value.cells]
  ·rw[hu]at h;simp only[Cell.okWide,Cell.ok,hu]at h
   cases v<;>simp_all[Value.cells]
  ·rw[hu]at ha;cases ha
  ·cases hs
theorem ZbE{m:Nat}{r:Reach}{b0:Nat}{t:TypeId}{v:Value}{d:DataW H}{ps:List MemPlace}(hs:LI P m t=true)(hv:G4 P W r b0 t v)(hd:DataW.Trod enc P W base (λ_=>true) held t v d ps)(vB:Lgt (d.weights P t)):
  ∃x,JI P m t x∧Aj (Df W) W x Mu.none v:=by
 obtain⟨fuel,hd⟩:=hd;obtain⟨cs,h1,h2,h3⟩:=Zv m t hs fuel _ _ hd vB;cases ha:AU P t with
 |false=>
  obtain⟨x,rfl,hx⟩:=Vp h1 ha;rw[TG hv ha ⟨m,hs⟩]at h2;refine⟨x,⟨by rw[hx];exact h1,⟨(λh=>by rw[ha]at h;cases h),λ_=>hx⟩⟩,?_⟩
  simp only[Aa]at h2;obtain⟨u,us,he,hr,Y6⟩:=h2;simp only[List.cons.injEq]at he;rw[he.1];exact hr
 |true=>
  refine⟨.agg cs,⟨h1,⟨λ_=>⟨cs,rfl⟩,(λh=>by rw[ha]at h;cases h)⟩⟩,?_⟩
  unfold Aj
  have hva:∃c,v=.agg c:=by
   unfold G4 at hv;unfold AU at ha;split at hv;·obtain⟨c,hc,_⟩:=hv;exact⟨c,hc⟩
   ·obtain⟨c,hc,_⟩:=hv;exact⟨c,hc⟩
   ·rename_i lQ vG;split at ha;·rename_i q hq;exact absurd hq (lQ q)
    ·rename_i q1 q2 hq;exact absurd hq (vG q1 q2)
    ·cases ha
  obtain⟨c,rfl⟩:=hva;exact⟨c.toList,by simp,by simpa[Value.cells]using h2⟩
theorem gH{m:Nat}{r:Reach}{b0:Nat}:∀{ts:List TypeId}{vs:List Value}{ds:List (DataW H)} {ps:List MemPlace},ts.all (LI P m)=true→(∀(j:Nat) t v,ts[j]?=some t→vs[j]?=some v→G4 P W r b0 t v)→
  DataW.TrodAll enc P W base (λ_=>true) held ts vs ds ps→Lgt (DataW.weightsEach P ts ds)→∃xs,KG P m ts xs∧Aa (Df W) W xs Mu.none vs
 |[],[],ds,ps,_,_,_,_=>⟨[],trivial,by unfold Aa;rfl⟩
 |[],v::vs,ds,ps,_,_,h,_=>by cases ds<;>exact h.elim
 |t::ts,[],ds,ps,_,_,h,_=>by cases ds<;>exact h.elim
 |t::ts,v::vs,[],ps,_,_,h,_=>h.elim
 |t::ts,v::vs,d::ds,ps,hs,hv,h,vB=>by
  simp only[Km,D6]at hs;obtain⟨p,q,h1,h2,rfl⟩:=h;unfold DataW.weightsEach at vB;obtain⟨x,k1,k2⟩:=ZbE hs.1 (hv 0 t v rfl rfl) h1 λn hn=>vB n (Ef _ hn)
  obtain⟨xs,k3,k4⟩:=gH hs.2 (λj t v ht xV=>hv (j+1) t v (by simpa using ht) (by simpa using xV)) h2 λn hn=>vB n (Gf _ hn)
  exact⟨x::xs,⟨k1,k3⟩,by unfold Aa;exact⟨v,vs,rfl,k2,k4⟩⟩
theorem Jn:∀{ts us:List TypeId}{ds es:List (DataW H)},ds.length=ts.length→∀n∈DataW.weightsEach P ts ds,n∈DataW.weightsEach P (ts++us) (ds++es)
 |[],_,_,_,_,n,hn=>by unfold DataW.weightsEach at hn;simp at hn
 |_::_,_,[],_,h,_,_=>by simp at h
 |t::ts,us,d::ds,es,h,n,hn=>by
  simp only[J3];unfold DataW.weightsEach at hn⊢;rcases It.1 hn with hn|hn;·exact Ef _ hn
  ·exact Gf _ (Jn (by simpa using h) n hn)
theorem Pb:∀{ts:List TypeId}{vs:List Value}{ds:List (DataW H)} {ps:List MemPlace} {sp:Nat→Bool},DataW.TrodAll enc P W base sp held ts vs ds ps→ds.length=ts.length
 |[],[],[],_,_,_=>rfl
 |[],[],_::_,_,_,h=>h.elim
 |[],_::_,ds,_,_,h=>by cases ds<;>exact h.elim
 |_::_,[],ds,_,_,h=>by cases ds<;>exact h.elim
 |_::_,_::_,[],_,_,h=>h.elim
 |t::ts,v::vs,d::ds,ps,sp,h=>by
  obtain⟨p,q,_,h2,_⟩:=h;simp[Pb h2]
theorem Vh{W':World}(hl:laidOutB P=true)(hb:Below W.heap.size W W'){sp:Nat→Bool}:∀{ts:List TypeId}{vs:List Value}{ds:List (DataW H)} {ps:List MemPlace},ts.all (λt=>P.readableRec t&&decide (t<P.types.size))=true→
  (∀x∈ps,x.block<W.heap.size)→(∀x∈ps,sp x.block=true)→DataW.TrodAll enc P W 0 (λ_=>true) true ts vs ds ps→DataW.TrodAll enc P W' 0 sp true ts vs ds ps
 |[],[],[],ps,_,_,_,h=>h
 |[],[],_::_,_,_,_,_,h=>h.elim
 |[],_::_,ds,_,_,_,_,h=>by cases ds<;>exact h.elim
 |_::_,[],ds,_,_,_,_,h=>by cases ds<;>exact h.elim
 |_::_,_::_,[],_,_,_,_,h=>h.elim
 |t::ts,v::vs,d::ds,ps,hs,AR,lL,h=>by
  simp only[Km,D6]at hs;obtain⟨p,q,h1,h2,rfl⟩:=h;refine⟨p,q,WideElems.Trod_stays hl hs.1.1 (of_decide_eq_true hs.1.2) h1 (λx hx=>hb.same (AR x (by simp[hx]))) (λx hx=>lL x (by simp[hx])),?_,rfl⟩
  exact Vh hl hb hs.2 (λx hx=>AR x (by simp[hx])) (λx hx=>lL x (by simp[hx])) h2
theorem Iu{f:FuncId}{fn:Func}{s:ChangeSpec}{W:World}{b0:Nat}{args:Array Value}{ds gs:List (DataW H)}{before:List MemPlace}{ps:List TypeId}{tb:TypeId}{m:Nat}{fresh handsOn again apart:Bool}
  (Ze7:fn.params=ps.toArray) (ZcQ:ps.all (LI P m)=true) (ZcV:ps.all (λt=>P.readableRec t&&decide (t<P.types.size))=true) (Zdf:laidOutB P=true)
  (Ho:fn.resultTypes=#[tb]) (yP:P.underlying tb=some .bool) (xX:s.vars=[])
  (pM:∀ds:List (DataW H),ds.length=ps.length→(s.fn H ds).results=[.lit (.bool true)]∧(s.fn H ds).args=ds∧(s.fn H ds).vars=[])
  (Zfr:∀xs:List AV,KG P m ps xs→Aw P f xs (λr=>r=.bool true))
  (Mn:∀(j:Nat) t v,fn.params[j]?=some t→args[j]?=some v→G4 P W .any b0 t v)
  (hgl:∀x∈PS,Cells (Df W) W x.2 x.1 0:=by intro x hx;cases hx)
  (hgs:∀x∈PS,x.2≠[]→∃cur e fz,W.heap[x.1]?=some (.cells cur e fz)∧cur.size=x.2.length:=by intro x hx;cases hx)
  (ZeP:(DataW.weightsEach P (fn.params.toList++s.plain.varTypes P) (ds++gs)).all (·≤reachBytes)=true)
  (hW:DataW.Whole enc P fn.params.toList s.vars apart W args.toList ds gs before):
  Calls P f args W λe W'=>∃v,e=.returned v∧s.post enc P fn apart fresh handsOn again W args v W':=by
 have Y7:fn.params.toList=ps:=by rw[Ze7]
 have hW':=hW;obtain⟨p,q,hA,hV,hpq,Nu,N2⟩:=hW;rw[Y7]at hA;have hlen:=Pb hA
 obtain⟨xs,hx,hr⟩:=gH (r:=.any) (b0:=b0) ZcQ (λj t v ht hv=>Mn j t v (by rw[←Y7]at ht;simpa using ht) (by simpa using hv)) hA λn hn=>by
  have h9:=J6.1 ZeP n (by
   rw[Y7];exact Jn hlen n hn)
  simpa using h9
 rw[xX]at hV;obtain⟨rfl,rfl⟩:=trodVars_none hV;obtain⟨s1,s2,s3⟩:=pM ds hlen;have hc:=(Zfr xs hx).out (Df W) W args.toList ⟨λ_ _ h=>h,hgl,hgs⟩ hr
 rw[Array.toArray_toList]at hc;refine hc.mono λe W' ⟨r,v,he,yC,hb,EX⟩=>?_
 subst yC;obtain rfl:=Bf EX;have AR:∀x∈before,x.block<W.heap.size:=λx hx=>hW'.lt x hx
 have hold:∀x∈before,(λb=>decide (b<W.heap.size)) x.block=true:=λx hx=>by simpa using AR x hx
 subst hpq
 have PQ:∀sp:Nat→Bool,(∀x∈p++[],sp x.block=true)→DataW.TrodAll enc P W' 0 sp true fn.params.toList args.toList (s.fn H (ds++[])).args p:=λsp lL=>by
  rw[JF,s2,Y7];exact Vh Zdf hb ZcV (λx hx=>AR x (by simpa using hx)) (λx hx=>lL x (by simpa using hx)) hA
 have yD:∀(b:Nat)(sp:Nat→Bool)(hd:Bool),DataW.TrodAll enc P W' b sp hd fn.resultTypes.toList ((Value.bool true).resultList fn.resultTypes.size) (s.fn H (ds++[])).results []:=λb sp hd=>by
  rw[JF,s1,Ho];exact trodAll_mk1 (shut_bool yP true)
 have xS:∀sp:Nat→Bool,DataW.TrodVars enc P W' sp s.vars (s.fn H (ds++[])).vars []:=λsp=>by
  rw[JF,s3,xX];exact rfl
 refine⟨_,he,ds,[],p++[],[],p,[],hW',yD _ _ _,PQ _ hold,xS _,World.keptBut_mono (λx hx=>⟨hx,?_⟩) (hb.frame (·∈p++[])),λ_=>?_⟩
 ·simpa using hx
 ·refine⟨ok_one Ho rfl (okWide_bool_mk yP true),_,_,([]++p)++[],⟨[]++p,[],trodAll_append (PQ _ (λ_ _=>rfl)) (yD _ _ _),xS _,rfl,?_,?_⟩,?_⟩
  ·intro b off hp;have vL:MemPlace.cell b off∈p++[]:=by simpa using hp
   rw[hb.frozen (AR _ vL)];exact Nu b off vL
  ·intro ha;have:=N2 ha;simpa using this
  ·intro x hx _;simpa using hx
theorem Sj{t:TypeId}{d:TypeDesc}(hu:P.underlying t=some d)(hd:∀fs,d≠.struct fs)(qD:∀n e,d≠.array n e):AU P t=false:=by
 unfold AU;rw[hu];cases d<;>first|rfl|exact absurd rfl (hd _)|exact absurd rfl (qD _ _)
theorem EO{t:TypeId}{k:IntKind}{m:Nat}{x:AV}(hu:P.underlying t=some (.int k))(h:JI P (m+1) t x):∃n,x=.int k n∧DF k n:=by
 obtain⟨h1,_,h2⟩:=h;rw[h2 (Sj hu (λ_ h=>by cases h) (λ_ _ h=>by cases h))]at h1
 unfold MC at h1;rw[hu]at h1;obtain⟨b,hb,hk⟩:=h1;exact⟨b,by simpa using hb,hk⟩
theorem sZ{t:TypeId}{m:Nat}{x:AV}(hu:P.underlying t=some .string)(h:JI P (m+1) t x):∃l,x=.str l∧l.length≤reachBytes:=by
 obtain⟨h1,_,h2⟩:=h;rw[h2 (Sj hu (λ_ h=>by cases h) (λ_ _ h=>by cases h))]at h1
 unfold MC at h1;rw[hu]at h1;obtain⟨b,hb,hk⟩:=h1;exact⟨b,by simpa using hb,hk⟩
theorem Ia{t e:TypeId}{m:Nat}{x:AV}(hu:P.underlying t=some (.slice e))(h:JI P (m+1) t x):∃es:List AV,x=.sl (P.cellsOf e) es∧es.length≤maxLen∧∀y∈es,JI P m e y:=by
 obtain⟨h1,_,h2⟩:=h;rw[h2 (Sj hu (λ_ h=>by cases h) (λ_ _ h=>by cases h))]at h1
 unfold MC at h1;rw[hu]at h1;obtain⟨es,hb,hl,hk⟩:=h1;exact⟨es,by simpa using hb,hl,hk⟩
theorem Fs{α:Type}{f:α→AV}{p:α→Prop}:∀{es:List AV},(∀y∈es,∃a,y=f a∧p a)→∃l:List α,es=l.map f∧∀a∈l,p a
 |[],_=>⟨[],rfl,λa h=>by cases h⟩
 |e::es,h=>by
  obtain⟨a,rfl,ha⟩:=h e (by simp)
  obtain⟨l,rfl,hl⟩:=Fs (es:=es) (λy hy=>h y (by simp[hy]))
  exact⟨a::l,rfl,λb hb=>by rcases D0.1 hb with rfl|hb;exact ha;exact hl b hb⟩
theorem JS{t e:TypeId}{m:Nat}{x:AV}(hu:P.underlying t=some (.slice e))(he:P.underlying e=some .string)(hc:P.cellsOf e=1)(h:JI P (m+2) t x):
  ∃l:List (List UInt8),x=.sl 1 (l.map .str)∧l.length≤maxLen∧∀s∈l,s.length≤reachBytes:=by
 obtain⟨es,rfl,hl,Y9⟩:=Ia hu h;obtain⟨l,rfl,hp⟩:=Fs (f:=AV.str) (p:=λs=>s.length≤reachBytes) (es:=es) (λy hy=>sZ he (Y9 y hy))
 exact⟨l,by rw[hc],by simpa using hl,hp⟩
theorem AN{m:Nat}{t:TypeId}{ts:List TypeId}{xs:List AV}(h:KG P m (t::ts) xs):∃x r,xs=x::r∧JI P m t x∧KG P m ts r:=by
 cases xs with
 |nil=>exact h.elim
 |cons x r=>exact⟨x,r,rfl,h.1,h.2⟩
theorem JR{m:Nat}{xs:List AV}(h:KG P m [] xs):xs=[]:=by
 cases xs with
 |nil=>rfl
 |cons x r=>exact h.elim
end
end Go.Av