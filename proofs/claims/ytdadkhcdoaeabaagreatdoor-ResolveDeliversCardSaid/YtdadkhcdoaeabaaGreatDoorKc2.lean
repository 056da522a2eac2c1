/- AV: one operation. -/
import Derived.Test.YtdadkhcdoaeabaaGreatDoorKb2
import Derived.RangeFuncNested
import Derived.RangeFuncLeaves
import Derived.RangeFuncCalls
import Derived.TacticsIn
import Derived.OrdersIn
set_option linter.unusedVariables false
set_option maxRecDepth 100000
set_option linter.unusedSimpArgs false
open Go.Op renaming operands → Ao
open Nat renaming eq_of_beq_eq_true → AO, beq → Cu, mul_le_mul_right → E0, lt_of_lt_of_le → Fx, le_trans → Fy
open Bool renaming and_eq_true → Bv, or_eq_true → Ju
open Go.Region renaming wanted → BC, ready → DC, binds → H4
open Array renaming getElem?_eq_some_iff → Cf, setIfInBounds_comm → Gj, replicate → Gu
open List renaming getElem?_set_ne → CL, getElem_mem → C1, getElem?_append_left → C4, mem_cons_of_mem → D0, all_eq_true → D5, getElem?_eq_getElem → D6, replicate → EN, map_congr_left → E4, getElem?_append_right → E9, getD_eq_getElem?_getD → Ff, getElem?_eq_some_iff → F0, getElem?_set_self → Gk, getElem?_eq_none → G1, getElem_set_self → G2, getElem_set_ne → Hs, mem_cons → Hx, set_comm → HW, length_cons → Ix, nodup_cons → I0, nodup_nil → JA, mapM_cons → JB, range → JC, map_cons → JJ
open Option renaming some → C3
open Go.Result renaming andThen_ok → Ec
open Go.Oper renaming looksAt → FP, wp → G4, uponIn → Hm, apart_spec → Jb, semAt_eq → JE
open Go.Sem renaming run_bind → Gm, run_pure → H0
namespace Go.Av
open Go.RowKit (Below)
inductive AE where
 |exit (id:Nat)
 |ret
 |panic (x:AV)
abbrev XX:=AE→KK
def B5(P:Program)(f:FuncId):Bool:=match P.funcs[f]? with|some fn=>fn.body.isSome&&fn.name != "runtime.NumGoroutine"|none=>false
structure Ak(P:Program)(f:FuncId)(args:List AV)(E:List AV)(H:List HO)(K:AV→KK)(X:XX):Prop where
 Ed:B5 P f=true
 out:∀(G:Cx) C mu (a:Act) (w:World) (vs:List Value),G.P=P→Az G C mu E H a w→Aa C w args mu vs→
  Calls P f vs.toArray w λe w'=>
   (∃r v E' H' C' mu',e=.returned v∧K r E' H'∧Az G C' mu' E' H' a w'∧Aj C' w' r mu' v)∨
   (∃x v E' H' C' mu',e=.panicked [{v,recovered:=false}]∧X (.panic x) E' H'∧Az G C' mu' E' H' a w'∧Aj C' w' x mu' v)
def YU{α:Type}:List α→List α→(List α→Prop)→Prop
 |[],m,K=>K m
 |x::l,m,K=>YU l m λr=>K (x::r)
theorem CO{α:Type}:∀(l m:List α)(K:List α→Prop),YU l m K↔K (l++m)
 |[],_,_=>by simp[YU]
 |x::l,m,K=>by simp[YU,CO l m]
def fw(r:Option Nat):Fence:={Fence.wide with round:=r}
structure KJ(P:Program)(v:Value)(as:List AV)(I It If:Inv):Prop where
 eqs:It.Cb=I.Cb∧It.nb=I.nb∧If.Cb=I.Cb∧If.nb=I.nb
 out:∃l,v=.func (.yield l) #[] #[]∧∀(C:Ag)(w:World)(us:List Value)(Sw Sr:Nat→Prop)(n:Nat),(∀b o,C b o→b<w.heap.size)→(∀b o,C b o→I.Cb b o∨I.nb≤b)→I.nb≤w.heap.size→(∀b o,Sw b→¬C b o)→(∀b,Sw b→Sr b)→(∀b,Sr b→b<w.heap.size)→
  I.J Sw Sr w→Aa C w as Mu.none us→YieldAt (fw none) n P l us.toArray w λe w'=>∃DG CX,KH (λb=>b<w.heap.size∧¬Sw b) w w'∧(∀b,DG b→Sw b∨w.heap.size≤b)∧(∀b,CX b→Sr b∨w.heap.size≤b∨∃o,C b o)∧
   (∀b,DG b→CX b)∧(∀b,CX b→b<w'.heap.size)∧((e=.returned (.bool true)∧It.J DG CX w')∨(e=.returned (.bool false)∧If.J DG CX w'))
def lX(P:Program)(v:Value)(as:List AV)(E:List AV)(H:List HO)(K:AV→KK):Prop:=
 Ap as=true∧B6 H 0 λob=>match ob with
  |.inv I=>∃It If,KJ P v as I It If∧EK H 0 (.inv It) (λH'=>K (.lit true) E H')∧EK H 0 (.inv If) (λH'=>K (.lit false) E H')
  |_=>False
def U5:List (Nat×List AV)→Nat→List AV
 |[],_=>[]
 |x::r,g=>match Cu x.1 g with|true=>x.2|false=>U5 r g
theorem Yz{C:Ag}{w:World}{g:Nat}:∀(l:List (Nat×List AV)),(∀x∈l,Cells C w x.2 x.1 0)→Cells C w (U5 l g) g 0
 |[],_=>by unfold U5 Cells;trivial
 |x::r,h=>by
  unfold U5;split
  ·rename_i hb;have:=AO hb;subst this;exact h x (by simp)
  ·exact Yz r λy hy=>h y (D0 _ hy)
def RJ(al:Option Nat)(P:Program)(T:List TY)(E:List AV)(H:List HO)(o:Op)(K:AV→KK)(X:XX):Prop:=
 match o with
 |.box _ x=>ZbC al E H x K
 |.alloc t=>Mv al T E H t K
 |.store t a x=>Dc E a λp=>(match p with
  |.el _ _ _ _=>Dc E x λv=>U6 v E H λE H=>Cg T E H t a x K
  |_=>Cg T E H t a x K)
 |.build t parts=>Hi T E t parts.toList λv=>K v E H
 |.buildSlice t n parts=>(match al with
  |none=>Lc parts.toList E H λE H=>F4 none T E H t n parts.toList K
  |some s=>F4 (some s) T E H t n parts.toList K)
 |.makeSlice t l c=>Mk al T E H t l c K
 |.panic x=>Dc E x λv=>(match v with|.iface t y=>X (.panic (.iface t y)) E H|_=>False)
 |.convert s d x=>Dc E x λu=>(match u with
  |.int k n=>IG T s d (.int k n) λv=>K v E H
  |.str l=>B6 T d λyd=>(match yd.k with
   |.string=>IG T s d (.str l) λv=>K v E H
   |_=>S7 T E H s d x K)
  |_=>S7 T E H s d x K)
 |.call c=>match c.callee with
  |.builtin .len=>Bg T E H (.call c) λv=>K v E H
  |.builtin .min=>Bg T E H (.call c) λv=>K v E H
  |.builtin .clear=>(match c.args.toList,c.argTypes.toList with
   |[x],[t]=>cU T E H t x K
   |_,_=>False)
  |.builtin .append=>(match c.args.toList,c.argTypes.toList with
   |[s,x],[t,t']=>CN al T E H t t' s x K
   |_,_=>False)
  |.value f=>Dc E f λfv=>(match fv with
   |.fn f cap=>Gw (Dc E) c.args.toList λas=>YU as cap λas=>Ak P f as E H K X
   |.mv f fs=>Gw (Dc E) c.args.toList λas=>YU fs as λas=>Ak P f as E H K X
   |.raw v=>Gw (Dc E) c.args.toList λas=>lX P v as E H K
   |_=>False)
  |_=>False
 |.load t (.global g)=>Nh T H t (.at_ (U5 PS g)) λv=>K v E H
 |.makeMap _ r=>(match r with|none=>R9 al E H K|some _=>False)
 |.mapUpdate t m k x=>QQ T E H t m k x K
 |.insert t m k x=>QQ T E H t m k x K
 |o=>Bg T E H o λv=>K v E H
section
variable {G:Cx}{C:Ag}{w w':World}{mu:Mu}{H:List HO}{E:List AV}{a:Act}{T:List TY}
def Ln(G:Cx)(K:KK)(X:XX):Exit→Act→World→Prop
 |.normal,a,w=>∃E H,K E H∧St G E H a w
 |.exit id,a,w=>∃E H,X (.exit id) E H∧St G E H a w
 |.ret,a,w=>∃E H,X .ret E H∧St G E H a w
 |.panic chain,a,w=>∃x v E H C mu,chain=[{v,recovered:=false}]∧X (.panic x) E H∧Az G C mu E H a w∧Aj C w x mu v
 |_,_,_=>False
theorem A0{o:Oper}{s:Sem Value}{w':World}{v:Value}{ρ:Operand→Value}(h:execOp ρ o=(do pure (.value (←s))))(hs:s.run G.P w=.ok v w'):(execOp ρ o).run G.P w=.ok (.value v) w':=by
 rw[h];simp[hs]
def H6(G:Cx)(o:Oper)(K:AV→KK)(a:Act)(w:World):Prop:=∃r E' H',K r E' H'∧St G (A5 E' o.dst r) H' a w
theorem AL{o:Oper}{K:AV→KK}{X:XX}{Q:KK}{next:Act→World→Prop}{Qx:Exit→Act→World→Prop}{r:AV}{v:Value}{E':List AV}{H':List HO}{C':Ag}{mu':Mu}{w':World}
  (hn:∀a w,H6 G o K a w→next a w) (hk:K r E' H') (AZ:(execOp a.eval o).run G.P w=.ok (.value v) w') (Ah:Az G C' mu' E' H' a w') (hr:Aj C' w' r mu' v):o.wp G.P a w next Qx:=by
 unfold G4;rw[AZ];exact hn _ _ ⟨r,E',H',hk,C',mu',Ah.frame (Be Ah.env o.dst hr) (put_defers _ _ _)⟩
theorem iV{al:Option Nat}(hT:BL G.P T){o:Oper}{K:AV→KK}{X:XX}{Kn:KK}(h:RJ al G.P T E H o.op K X)(Ah:Az G C mu E H a w){next:Act→World→Prop}(hn:∀a w,H6 G o K a w→next a w)
  (hy:¬∃c f v,o.op=.call c∧c.callee=.value f∧AM E f=.raw v):o.wp G.P a w next (Ln G Kn X):=by
 unfold RJ at h;split at h
 case h_1 t x ho=>
  obtain⟨r,v,E',H',C',mu',w',h1,h2,h3,h4⟩:=ZbB (t:=t) Ah h;exact AL (X:=X) (Q:=Kn) hn h1 (A0 (by simp[execOp,ho]) h2) h3 h4
 case h_2 t ho=>
  obtain⟨r,v,E',H',C',mu',w',h1,h2,h3,h4⟩:=rS hT Ah h;exact AL (X:=X) (Q:=Kn) hn h1 (A0 (by simp[execOp,ho]) h2) h3 h4
 case h_3 t ad x ho=>
  obtain⟨E,H,C,mu,h,Ah⟩:∃E H C mu,Cg T E H t ad x K∧Az G C mu E H a w:=by
   rw[Af]at h;split at h
   ·rw[Af]at h;obtain⟨E',H',C',mu',h1,h2⟩:=fV Ah h;exact⟨E',H',C',mu',h1,h2⟩
   ·exact⟨E,H,C,mu,h,Ah⟩
  obtain⟨E',H',C',mu',w',h1,h2,h3⟩:=mQ hT Ah h;unfold G4;have:(execOp a.eval o).run G.P w=.ok .skip w':=by simp[execOp,ho,h2]
  rw[this];exact hn _ _ ⟨_,E',H',h1,C',mu',h3.frame (Be h3.env o.dst (by unfold Aj;rfl)) (put_defers _ _ _)⟩
 case h_4 t parts ho=>
  obtain⟨r,v,h1,h2,h3⟩:=rL hT Ah.env h;exact AL (X:=X) (Q:=Kn) hn h1 (A0 (by simp[execOp,ho]) h3) Ah h2
 case h_5 t n parts ho=>
  obtain⟨al,E,H,C,mu,h,Ah⟩:∃al E H C mu,F4 al T E H t n parts.toList K∧Az G C mu E H a w:=by
   split at h
   ·obtain⟨E',H',C',mu',h1,h2⟩:=PT _ Ah h;exact⟨none,E',H',C',mu',h1,h2⟩
   ·exact⟨_,E,H,C,mu,h,Ah⟩
  obtain⟨r,v,E',H',C',mu',w',h1,h2,h3,h4⟩:=T0 hT Ah h;exact AL (X:=X) (Q:=Kn) hn h1 (A0 (by simp[execOp,ho]) h2) h3 h4
 case h_6 t l c ho=>
  obtain⟨r,v,E',H',C',mu',w',h1,h2,h3,h4⟩:=VV hT Ah h;exact AL (X:=X) (Q:=Kn) hn h1 (A0 (by simp[execOp,ho]) h2) h3 h4
 case h_7 x ho=>
  rw[Af]at h;have hx:=AT Ah.env x;split at h
  ·rename_i t y Yb;rw[Yb]at hx;have LB:=hx;unfold Aj at hx;obtain⟨u,hu,_⟩:=hx;unfold G4
   have:(execOp a.eval o).run G.P w=.halt (.panic (a.eval x)) w:=by
    simp[execOp,ho,hu,Instr.panic]
   rw[this];exact⟨_,_,E,H,C,mu,rfl,h,Ah,LB⟩
  ·exact h.elim
 case h_8 s d x ho=>
  rw[Af]at h
  have eff:S7 T E H s d x K→o.wp G.P a w next (Ln G Kn X):=λh=>by
   obtain⟨r,v,E',H',C',mu',w',h1,h2,h3,h4⟩:=rJ hT Ah h;exact AL (X:=X) (Q:=Kn) hn h1 (A0 (by simp[execOp,ho]) h2) h3 h4
  have hx:=AT Ah.env x;split at h
  ·rename_i k n Yb;rw[Yb]at hx;obtain⟨r,v,h1,h2,h3⟩:=Rn hT hx h;exact AL (X:=X) (Q:=Kn) hn h1 (A0 (by simp[execOp,ho]) h3) Ah h2
  ·rename_i l Yb;rw[Yb]at hx;replace h:=(Ab _ _ _).1 h;obtain⟨yd,xQ,h⟩:=h
   split at h
   ·obtain⟨r,v,h1,h2,h3⟩:=Rn hT hx h;exact AL (X:=X) (Q:=Kn) hn h1 (A0 (by simp[execOp,ho]) h3) Ah h2
   ·exact eff h
  ·exact eff h
 case h_9 c ho=>
  split at h
  ·rename_i hc;obtain⟨r,v,h1,h2,h3⟩:=Mc hT Ah.heap Ah.env (o:=o) (by rw[ho];exact h)
   exact AL (X:=X) (Q:=Kn) hn h1 h3 Ah h2
  ·rename_i hc;obtain⟨r,v,h1,h2,h3⟩:=Mc hT Ah.heap Ah.env (o:=o) (by rw[ho];exact h)
   exact AL (X:=X) (Q:=Kn) hn h1 h3 Ah h2
  ·rename_i hc;split at h
   ·rename_i x t h1 h2;obtain⟨Zf,args,II⟩:=c;simp only at hc h1 h2;subst hc;obtain rfl:args=#[x]:=by cases args;simp_all
    obtain rfl:II=#[t]:=by cases II;simp_all
    obtain⟨r,v,E',H',C',mu',w',k1,k2,k3,k4⟩:=rF (ty:=o.type) hT Ah h;exact AL (X:=X) (Q:=Kn) hn k1 (by simp[execOp,ho,resolve,invoke,builtin,k2]) k3 k4
   ·exact h.elim
  ·rename_i hc;split at h
   ·rename_i s x t t' h1 h2;obtain⟨Zf,args,II⟩:=c;simp only at hc h1 h2;subst hc;obtain rfl:args=#[s,x]:=by cases args;simp_all
    obtain rfl:II=#[t,t']:=by cases II;simp_all
    obtain⟨r,v,E',H',C',mu',w',k1,k2,k3,k4⟩:=lD (ty:=o.type) hT Ah h;exact AL (X:=X) (Q:=Kn) hn k1 (by simp[execOp,ho,resolve,invoke,builtin,k2]) k3 k4
   ·exact h.elim
  ·rename_i f hc;rw[Af]at h;have hf:=AT Ah.env f;split at h
   ·rename_i fi cap WA;rw[WA]at hf;rw[C9 (Dc E) (AM E) (Af E),CO]at h;unfold Aj at hf;obtain⟨vs,hfv,EM⟩:=hf;have PQ:Aa C w (c.args.toList.map (AM E)++cap) mu (c.args.toList.map a.eval++vs):=AF (K7 Ah.env _) EM;have hg:=h.Ed;unfold B5 at hg;cases JK:G.P.funcs[fi]? with
    |none=>rw[JK]at hg;cases hg
    |some fn=>
     rw[JK]at hg;simp only[Bv]at hg
     have AZ:(execOp a.eval o).run G.P w=.ok (.enter fi (c.args.toList.map a.eval++vs).toArray) w:=by
      obtain⟨Zf,args,II⟩:=c;simp only at hc;subst hc;have Bu:fn.name ≠ "runtime.NumGoroutine":=by simpa using hg.2
      have hb:fn.body≠none:=by cases hh:fn.body<;>simp_all
      simp[execOp,ho,resolve,invoke,hfv,Deferred.ofValue,callFunc,JK,Bu,hb]
     unfold G4;rw[AZ];refine(h.out G C mu a w _ rfl Ah PQ).mono λe Lo hp=>?_
     rcases hp with⟨r,v,E',H',C',mu',rfl,k1,k2,k3⟩|⟨x,v,E',H',C',mu',rfl,k1,k2,k3⟩;·exact hn _ _ ⟨r,E',H',k1,C',mu',k2.frame (Be k2.env o.dst k3) (put_defers _ _ _)⟩
     ·exact⟨x,v,E',H',C',mu',rfl,k1,k2,k3⟩
   ·rename_i fi cap WA;rw[WA]at hf;rw[C9 (Dc E) (AM E) (Af E),CO]at h;unfold Aj at hf;obtain⟨vs,hfv,EM⟩:=hf;have PQ:Aa C w (cap++c.args.toList.map (AM E)) mu (vs++c.args.toList.map a.eval):=AF EM (K7 Ah.env _);have hg:=h.Ed;unfold B5 at hg;cases JK:G.P.funcs[fi]? with
    |none=>rw[JK]at hg;cases hg
    |some fn=>
     rw[JK]at hg;simp only[Bv]at hg
     have AZ:(execOp a.eval o).run G.P w=.ok (.enter fi (vs++c.args.toList.map a.eval).toArray) w:=by
      obtain⟨Zf,args,II⟩:=c;simp only at hc;subst hc;have Bu:fn.name ≠ "runtime.NumGoroutine":=by simpa using hg.2
      have hb:fn.body≠none:=by cases hh:fn.body<;>simp_all
      simp[execOp,ho,resolve,invoke,hfv,Deferred.ofValue,callFunc,JK,Bu,hb]
     unfold G4;rw[AZ];refine(h.out G C mu a w _ rfl Ah PQ).mono λe Lo hp=>?_
     rcases hp with⟨r,v,E',H',C',mu',rfl,k1,k2,k3⟩|⟨x,v,E',H',C',mu',rfl,k1,k2,k3⟩;·exact hn _ _ ⟨r,E',H',k1,C',mu',k2.frame (Be k2.env o.dst k3) (put_defers _ _ _)⟩
     ·exact⟨x,v,E',H',C',mu',rfl,k1,k2,k3⟩
   ·rename_i v WA;exact absurd ⟨c,f,v,ho,hc,WA⟩ hy
   ·exact h.elim
  ·exact h.elim
 case h_10 t g ho=>
  have hr:Aj C w (.at_ (U5 PS g)) mu (a.eval (.global g)):=by
   unfold Aj;exact⟨g,0,rfl,Yz _ Ah.Ze.gl⟩
  obtain⟨r,v,h1,h2,h3⟩:=Oa hT Ah.heap hr h;exact AL (X:=X) (Q:=Kn) hn h1 (A0 (by simp[execOp,ho]) h3) Ah h2
 case h_11 t r ho=>
  split at h
  ·obtain⟨r,v,E',H',C',mu',w',h1,h2,h3,h4⟩:=aS (t:=t) Ah h;exact AL (X:=X) (Q:=Kn) hn h1 (A0 (by simp[execOp,ho]) h2) h3 h4
  ·exact h.elim
 case h_12 t m k x ho=>
  obtain⟨E',H',C',mu',w',h1,h2,h3⟩:=UR hT Ah h;unfold G4;have:(execOp a.eval o).run G.P w=.ok .skip w':=by simp[execOp,ho,h2]
  rw[this];exact hn _ _ ⟨_,E',H',h1,C',mu',h3.frame (Be h3.env o.dst (by unfold Aj;rfl)) (put_defers _ _ _)⟩
 case h_13 t m k x ho=>
  obtain⟨E',H',C',mu',w',h1,h2,h3⟩:=UR hT Ah h;unfold G4;have:(execOp a.eval o).run G.P w=.ok .skip w':=by simp[execOp,ho,h2]
  rw[this];exact hn _ _ ⟨_,E',H',h1,C',mu',h3.frame (Be h3.env o.dst (by unfold Aj;rfl)) (put_defers _ _ _)⟩
 case h_14=>
  obtain⟨r,v,h1,h2,h3⟩:=Mc hT Ah.heap Ah.env (o:=o) h;exact AL (X:=X) (Q:=Kn) hn h1 h3 Ah h2
theorem BE{P:Program}{o:Oper}{a:Act}{w:World}{r:Option Nat}{n:Nat}{next:Act→World→Prop}{Q:Exit→Act→World→Prop}(N2:∀c,o.op≠.defer c)(h:o.wp P a w next Q):o.wpIn (fw r) n P a w next Q:=by
 refine⟨λ_ _=>trivial,?_⟩
 rw[JE _ _ _ N2];unfold G4 at h;generalize (execOp a.eval o).run P w=res at h;cases res with
 |ok x w'=>
  cases x<;>simp only[Oper.upon]at h<;>simp only[Hm]<;>first|exact h.elim|exact h|skip
  ·exact⟨λhd=>(by cases hd),(callsIn_wide (n:=n-1)).2 h⟩
  ·refine⟨λhd=>(by cases hd),λc cs _=>?_⟩
   obtain⟨v,Lo,k1,k2⟩:=h c cs;exact⟨v,Lo,k1,stepsIn_wide.2 k2⟩
 |halt x w'=>cases x<;>simp only[Oper.upon]at h<;>simp only[Hm]<;>first|exact h.elim|exact h
theorem lW{v:Value}{as us:List AV}{vs:List Value}{K:AV→KK}(h:lX G.P v as E H K)(Ah:Az G C mu E H a w)(hr:Aa C w as mu vs):
  ∃l,v=.func (.yield l) #[] #[]∧∀n,YieldAt (fw none) n G.P l vs.toArray w λe w'=>∃r u H',e=.returned u∧K r E H'∧Az G C mu E H' a w'∧Aj C w' r mu u:=by
 obtain⟨hc,h⟩:=h;replace h:=(Ab _ _ _).1 h;obtain⟨ob,Ba,h⟩:=h
 cases ob<;>first|exact h.elim|skip
 rename_i I;obtain⟨It,If,⟨eqs,l,hv,hy⟩,h1,h2⟩:=h;rw[AD]at h1 h2;obtain⟨ms,d1,d2⟩:=Ah.defers;obtain⟨_,Sw,Sr,hf,hJ,hD1,hD2⟩:=d2.Gx 0 I Ba;have h0:0<H.length:=(F0.1 Ba).1;refine⟨l,hv,λn=>?_⟩
 obtain⟨fn,tmps,assign,body,y1,y2⟩:=hy C w vs Sw Sr n Ah.lt hf.cb hf.base hf.Gy hf.sub hf.lt hJ (A1 as hc hr);refine⟨fn,tmps,assign,body,y1,y2.mono λe w' ⟨DG,CX,q1,q2,q3,q4,q5,q6⟩=>?_⟩
 have hx:Ext C C w w':=Ext.of_block (λ_ _ h=>h) λb o hc=>q1.block b ⟨Ah.lt b o hc,λhs=>hf.Gy b o hs hc⟩
 have Fw:∀{i g b},mu i=some g→g.As=some b→w'.heap[b]?=w.heap[b]?:=λ{i g b} hi hg=>q1.block b ⟨(Ah.heap.fresh i g b hi hg).2.1,λhs=>hf.own b (hf.sub b hs) i g hi hg⟩
 have key:∀(In:Inv),In.Cb=I.Cb→In.nb=I.nb→In.J DG CX w'→Az G C mu E (H.set 0 (.inv In)) a w':=λIn eq1 kW hIn=>by
  have get:∀{i RW},(H.set 0 (.inv In))[i]?=some RW→(i=0∧RW=.inv In)∨(H[i]?=some RW):=λ{i RW} hi=>by
   by_cases e:0=i;·subst e;rw[Gk h0]at hi;simp only[C3.injEq]at hi;exact .inl ⟨rfl,hi.symm⟩
   ·rw[CL e]at hi;exact .inr hi
  have PK:∀D:Nat×Obj,¬Sr D.1→Ck C w G.fresh mu D→Ck C w' G.fresh mu D:=λD hd m=>by
   refine⟨?_,m.Gy,m.own,m.fr⟩;rw[q1.block D.1 ⟨(Cf.1 m.at_).1,λhs=>hd (hf.sub D.1 hs)⟩];exact m.at_
  have Dt:∀D:Nat×Obj,¬Sr D.1→Ck C w G.fresh mu D→¬CX D.1:=λD hd m hs=>by
   rcases q3 D.1 hs with k|k|⟨o,k⟩;·exact hd k
   ·have:=(Cf.1 m.at_).1;omega
   ·exact m.Gy o k
  have gg:∀{i:Nat}{cs:List AV}{us:List Value}{Ds:List Nat},(H.set 0 (.inv In))[i]?=some (.ghost cs us Ds)→H[i]?=some (.ghost cs us Ds):=λ{i cs us Ds} hi=>by
   rcases get hi with⟨_,h⟩|h;·cases h
   ·exact h
  have UX:(∀D∈ms.map (λD=>(D,Fb))++G.K1,¬CX D.1)∧∀(l:Nat)(cs:List AV)(vs:List Value)(Ds:List Nat),(H.set 0 (.inv In))[l]?=some (.ghost cs vs Ds)→∀D∈Ds,¬CX D:=
   ⟨λD hd=>Dt D (hD1 D hd) (d2.marks D hd),λl cs vs Ds hl D hd=>Dt (D,Fb) (hD2 l cs vs Ds (gg hl) D hd) ((d2.Bc l cs vs Ds (gg hl)).2.2 D hd).1⟩
  refine⟨Ah.c0,Ah.c1,λb o hc=>Fx (Ah.lt b o hc) q1.size,⟨λi g hi=>by simpa using Ah.heap.HH i g hi,λi g b hi hg=>?_,Ah.heap.sep,λi hi=>?_,λi cs hi=>?_,λi e sz es hi=>?_,λi ks vs hi=>?_⟩,
   Aa.mono hx _ (Ay.refl _) Ah.env,⟨ms,d1,λi cs us Ds hi=>?_,λi I' hi=>?_,λd hd=>PK d (hD1 d hd) (d2.marks d hd),d2.nd,λl l' cs vs ms cs' BV Ds hl Bq Bu=>d2.sep l l' cs vs ms cs' BV Ds (gg hl) (gg Bq) Bu⟩,?_,by simpa using Ah.CA.1,Ah.CA.2⟩
  ·obtain⟨k1,k2,k3⟩:=Ah.heap.fresh i g b hi hg;exact⟨k1,Fx k2 q1.size,k3⟩
  ·rcases get hi with⟨_,h⟩|h;·cases h
   ·exact Ah.heap.dead i h
  ·rcases get hi with⟨_,h⟩|h;·cases h
   ·obtain⟨b,cur,e,k1,k2,k3,k4⟩:=Ah.heap.Cm i cs h;exact⟨b,cur,e,k1,by rw[Fw k1 rfl];exact k2,Aa.mono hx _ (Ay.refl _) k3,k4⟩
  ·rcases get hi with⟨_,h⟩|h;·cases h
   ·obtain⟨k0,k⟩:=Ah.heap.BJ i e sz es h;refine⟨k0,k.imp id λ⟨b,cap,cur,k1,k2,k3,k4,k5,k6,k7⟩=>⟨b,cap,cur,k1,k2.of_eq (by rw[Fw k1 rfl]),k3,k4,k5,Aa.mono hx _ (Ay.refl _) k6,k7⟩⟩
  ·rcases get hi with⟨_,h⟩|h;·cases h
   ·obtain⟨b,es,cl,k1,k2,k3⟩:=Ah.heap.maps i ks vs h;exact⟨b,es,cl,k1,by rw[Fw k1 rfl];exact k2,k3⟩
  ·rcases get hi with⟨_,h⟩|h;·cases h
   ·obtain⟨k1,k3,k2⟩:=d2.Bc i cs us Ds h;exact⟨Aa.mono hx _ (Ay.refl _) k1,k3,λd hd=>⟨PK (d,Fb) (hD2 i cs us Ds h d hd) (k2 d hd).1,(k2 d hd).2⟩⟩
  ·rcases get hi with⟨rfl,h⟩|h
   ·simp only[HO.inv.injEq]at h;subst h;refine⟨rfl,DG,CX,⟨λb hb=>?_,by rw[kW];exact Fy hf.base q1.size,by rw[eq1,kW];exact hf.cb,by rw[kW];exact hf.ob,q4,q5,λb hb i g hi hg=>?_,λb o hb hc=>?_⟩,hIn,UX⟩
    ·rcases q2 b hb with k|k;·exact hf.fr b k
     ·exact .inl (Fy Ah.Aq.size k)
    ·obtain⟨_,k2,k3⟩:=Ah.heap.fresh i g b hi hg;rcases q3 b hb with k|k|⟨o,k⟩;·exact hf.own b k i g hi hg
     ·omega
     ·exact k3 o k
    ·rcases q2 b hb with k|k;·exact hf.Gy b o k hc
     ·have:=Ah.lt b o hc;omega
   ·have hi0:=(d2.Gx i I' h).1;subst hi0;rw[Gk h0]at hi;simp only[C3.injEq,HO.inv.injEq]at hi;subst hi;refine⟨rfl,DG,CX,⟨λb hb=>?_,by rw[kW];exact Fy hf.base q1.size,by rw[eq1,kW];exact hf.cb,by rw[kW];exact hf.ob,q4,q5,λb hb i g hi hg=>?_,λb o hb hc=>?_⟩,hIn,UX⟩
    ·rcases q2 b hb with k|k;·exact hf.fr b k
     ·exact .inl (Fy Ah.Aq.size k)
    ·obtain⟨_,k2,k3⟩:=Ah.heap.fresh i g b hi hg;rcases q3 b hb with k|k|⟨o,k⟩;·exact hf.own b k i g hi hg
     ·omega
     ·exact k3 o k
    ·rcases q2 b hb with k|k;·exact hf.Gy b o k hc
     ·have:=Ah.lt b o hc;omega
  ·refine⟨q1.os.trans Ah.Aq.os,q1.tape.trans Ah.Aq.tape,q1.output.trans Ah.Aq.output,Fy Ah.Aq.size q1.size,λk hk hm=>?_⟩
   rw[q1.block k ⟨Fx hk Ah.Aq.size,λhs=>?_⟩]
   ·exact Ah.Aq.block k hk hm
   ·rcases hf.fr k hs with h|h;·omega
    ·exact hm h
 rcases q6 with⟨rfl,Yu⟩|⟨rfl,Yu⟩;·exact⟨_,_,_,rfl,h1,key It eqs.1 eqs.2.1 Yu,by unfold Aj;rfl⟩
 ·exact⟨_,_,_,rfl,h2,key If eqs.2.2.1 eqs.2.2.2 Yu,by unfold Aj;rfl⟩
theorem DM{al:Option Nat}(hT:BL G.P T){o:Oper}{K:AV→KK}{X:XX}{Kn:KK}{r:Option Nat}{n:Nat}(h:RJ al G.P T E H o.op K X)(Ah:Az G C mu E H a w){next:Act→World→Prop}(hn:∀a w,H6 G o K a w→next a w):
  o.wpIn (fw r) n G.P a w next (Ln G Kn X):=by
 have N2:∀c,o.op≠.defer c:=λc hc=>by rw[hc]at h;exact h
 by_cases hy:∃c f v,o.op=.call c∧c.callee=.value f∧AM E f=.raw v
 ·obtain⟨c,f,v,ho,hc,WA⟩:=hy;rw[ho]at h;unfold RJ at h;simp only[hc]at h;rw[Af,WA]at h;simp only at h;rw[C9 (Dc E) (AM E) (Af E)]at h;have hf:=AT Ah.env f;rw[WA]at hf;have hfv:a.eval f=v:=by unfold Aj at hf;exact hf
  obtain⟨l,rfl,hy⟩:=lW (us:=[]) h Ah (K7 Ah.env _);refine⟨λ_ _=>trivial,?_⟩
  rw[JE _ _ _ N2];obtain⟨fn,tmps,assign,body,y1,y2⟩:=hy (n-1)
  have AZ:(execOp a.eval o).run G.P w=.ok (.round l fn tmps assign body) w:=by
   obtain⟨Zf,args,II⟩:=c;simp only at hc;subst hc;simp only[←Array.toList_map]at y1;simp[execOp,ho,resolve,invoke,hfv,Deferred.ofValue,y1]
  rw[AZ];refine⟨λh=>(by cases h),y2.mono λe w' ⟨r,u,H',he,k1,k2,k3⟩=>?_⟩
  subst he;exact hn _ _ ⟨r,E,H',k1,C,mu,k2.frame (Be k2.env o.dst k3) (put_defers _ _ _)⟩
 ·exact BE N2 (iV hT h Ah hn hy)
end
def vY(ops:List Oper)(E:List AV)(g:Option (Nat×Bool))(Ky Kn:List AV→Prop):Prop:=
 match g with
 |none=>Ky E
 |some (j,want)=>B6 ops j λoj=>match oj.dst with
  |some d=>B6 E d λv=>(match v with
   |.lit b=>(match b,want with
    |true,true=>Ky E
    |false,false=>Ky E
    |true,false=>Kn E
    |false,true=>Kn E)
   |.bool b=>(match want with
    |true=>(b=true→EK E d (.lit true) Ky)∧(b=false→EK E d (.lit false) Kn)
    |false=>(b=false→EK E d (.lit false) Ky)∧(b=true→EK E d (.lit true) Kn))
   |.raw (.tuple ⟨[]⟩)=>Kn E
   |_=>False)
  |none=>False
def Bx(E:List AV)(d:Option Tmp)(x:AV)(K:List AV→Prop):Prop:=match d with|some d=>EK E d x K|none=>K E
theorem Ax(E:List AV)(d:Option Tmp)(x:AV)(K:List AV→Prop):Bx E d x K↔K (A5 E d x):=by
 cases d<;>simp[Bx,A5,AD]
def Xo(P:Program)(T:List TY)(ops:List Oper):List Oper→List AV→List HO→KK→XX→Prop
 |[],E,H,K,_=>K E H
 |o::r,E,H,K,X=>vY ops E o.guard
   (λE=>RJ none P T E H o.op (λv E' H'=>Bx E' o.dst v λHp=>Xo P T ops r Hp H' K X) X)
   (λE=>Bx E o.dst (.raw undef) λE'=>Xo P T ops r E' H K X)
structure Ac(P:Program)(c:Code)(E:List AV)(H:List HO)(K:KK)(X:XX):Prop where
 out:∀(n:Nat)(G:Cx)(a:Act)(w:World),G.P=P→St G E H a w→c.wpIn (fw G.rd) n P (Ln G K X) a w
def cX(P:Program)(T:List TY):Code→List AV→List HO→KK→XX→Prop
 |.skip,E,H,K,_=>K E H
 |.region id ops draw,E,H,K,X=>match draw with
  |false=>Xo P T ops.toList ops.toList E H K X
  |true=>Ac P (.region id ops true) E H K X
 |.seq a b,E,H,K,X=>cX P T a E H (λE H=>cX P T b E H K X) X
 |.cond c a b,E,H,K,X=>Dc E c λv=>match v with
  |.lit t=>(match t with|true=>cX P T a E H K X|false=>cX P T b E H K X)
  |.bool t=>(t=true→cX P T a E H K X)∧(t=false→cX P T b E H K X)
  |_=>False
 |.block id b,E,H,K,X=>cX P T b E H K λe E H=>match e with
  |.exit i=>(match Cu i id with|true=>K E H|false=>X (.exit i) E H)
  |.ret=>X .ret E H
  |.panic x=>X (.panic x) E H
 |.exit id,E,H,_,X=>X (.exit id) E H
 |.ret,E,H,_,X=>X .ret E H
 |.label _,E,H,K,_=>K E H
 |.scope b,E,H,K,X=>cX P T b E H K X
 |c,E,H,K,X=>Ac P c E H K X
section
variable {G:Cx}{C:Ag}{w w':World}{mu:Mu}{H:List HO}{E:List AV}{a:Act}{T:List TY}{P:Program}
theorem Ln.mono{K K':KK}{X X':XX}(hK:∀E H,K E H→K' E H)(hX:∀e E H,X e E H→X' e E H):∀e a w,Ln G K X e a w→Ln G K' X' e a w
 |.normal,_,_,⟨E,H,h1,h2⟩=>⟨E,H,hK _ _ h1,h2⟩
 |.exit _,_,_,⟨E,H,h1,h2⟩=>⟨E,H,hX _ _ _ h1,h2⟩
 |.ret,_,_,⟨E,H,h1,h2⟩=>⟨E,H,hX _ _ _ h1,h2⟩
 |.panic _,_,_,⟨x,v,E,H,C,mu,h1,h2,h3⟩=>⟨x,v,E,H,C,mu,h1,hX _ _ _ h2,h3⟩
 |.goto _,_,_,h=>h
 |.outgrown,_,_,h=>h
theorem Hz{E:List AV}{tmps:Array Value}(h:Aa C w E mu tmps.toList){d:Nat}{x:AV}(hd:E[d]?=some x):∃v,tmps[d]?=some v∧Aj C w x mu v:=by
 obtain⟨h1,h2⟩:=(AI E).1 h;obtain⟨hi,hx⟩:=F0.1 hd;have EY:d<tmps.toList.length:=by omega
 refine⟨tmps.toList[d],by simp at EY⊢,?_⟩
 have:=h2 d hi EY;rwa [hx]at this
theorem HR{E:List AV}{tmps:Array Value}(h:Aa C w E mu tmps.toList){d:Nat}{v:Value}(hv:tmps[d]?=some v){x:AV}(hx:Aj C w x mu v):Aa C w (E.set d x) mu tmps.toList:=by
 have:=h.put d hx
 have e:tmps.setIfInBounds d v=tmps:=by
  apply Array.ext_getElem?;intro i;rw[Array.getElem?_setIfInBounds];split
  ·rename_i hi;subst hi
   have AR:=(Cf.1 hv).1;simp[AR,hv];obtain⟨_,hv⟩:=Cf.1 hv;exact hv.symm
  ·rfl
 rwa [e]at this
theorem Hd{ops:Array Oper}{g:Option (Nat×Bool)}{o:Oper}(hg:o.guard=g){Ky Kn:List AV→Prop}(Ah:Az G C mu E H a w)(h:vY ops.toList E g Ky Kn):
  (BC o (yielded ops a.tmps)=true∧∃E',Ky E'∧Az G C mu E' H a w)∨(BC o (yielded ops a.tmps)=false∧∃E',Kn E'∧Az G C mu E' H a w):=by
 subst hg;unfold vY at h;split at h
 ·rename_i hg;exact .inl ⟨by simp[BC,hg],E,h,Ah⟩
 ·rename_i j want hg;replace h:=(Ab _ _ _).1 h;obtain⟨oj,Ei,h⟩:=h
  split at h
  ·rename_i d hd;replace h:=(Ab _ _ _).1 h;obtain⟨v,hv,h⟩:=h
   obtain⟨u,hu,hr⟩:=Hz Ah.env hv
   have hy:∀b,u=.bool b→yielded ops a.tmps j=some b:=λb hb=>by
    have:ops[j]?=some oj:=by simpa using Ei
    simp[yielded,this,hd,hu,hb]
   have hw:∀b,u=.bool b→BC o (yielded ops a.tmps)=(b == want):=λb hb=>by
    simp[BC,hg,hy b hb]
   have tG:∀b,u=.bool b→Az G C mu (E.set d (.lit b)) H a w:=λb hb=>
    Ah.frame (HR Ah.env hu (by unfold Aj;exact hb)) rfl
   split at h
   ·rename_i b;have hb:=Bl hr;split at h;·exact .inl ⟨by rw[hw _ hb];rfl,E,h,Ah⟩
    ·exact .inl ⟨by rw[hw _ hb];rfl,E,h,Ah⟩
    ·exact .inr ⟨by rw[hw _ hb];rfl,E,h,Ah⟩
    ·exact .inr ⟨by rw[hw _ hb];rfl,E,h,Ah⟩
   ·rename_i b;have hb:=Bf hr;split at h
    ·cases b with
     |true=>have:=h.1 rfl;rw[AD]at this;exact .inl ⟨by rw[hw _ hb];rfl,_,this,tG _ hb⟩
     |false=>have:=h.2 rfl;rw[AD]at this;exact .inr ⟨by rw[hw _ hb];rfl,_,this,tG _ hb⟩
    ·cases b with
     |false=>have:=h.1 rfl;rw[AD]at this;exact .inl ⟨by rw[hw _ hb];rfl,_,this,tG _ hb⟩
     |true=>have:=h.2 rfl;rw[AD]at this;exact .inr ⟨by rw[hw _ hb];rfl,_,this,tG _ hb⟩
   ·have hb:u=.tuple ⟨[]⟩:=by unfold Aj at hr;exact hr
    refine .inr ⟨?_,E,h,Ah⟩;have:ops[j]?=some oj:=by simpa using Ei
    simp[BC,hg,yielded,this,hd,hu,hb]
   ·exact h.elim
  ·exact h.elim
theorem KY(hT:BL G.P T){r:Option Nat}{n:Nat}{ops:Array Oper}{K:KK}{X:XX}:∀(l:List Oper){C:Ag}{mu:Mu}{E:List AV}{H:List HO}{a:Act}{w:World},Xo G.P T ops.toList l E H K X→Az G C mu E H a w→wpListIn (fw r) n G.P ops (Ln G K X) l a w
 |[],_,_,_,_,_,_,h,Ah=>⟨_,_,h,_,_,Ah⟩
 |o::l,C,mu,E,H,a,w,h,Ah=>by
  unfold Xo at h;unfold wpListIn;rcases Hd rfl Ah h with⟨hw,E',h1,h2⟩|⟨hw,E',h1,h2⟩
  ·rw[if_pos hw];refine DM hT h1 h2 λa' w' hp=>?_
   obtain⟨x,Hp,H',h3,C',mu',h4⟩:=hp;rw[Ax]at h3;exact KY hT l h3 h4
  ·rw[if_neg (by simp[hw])]
   rw[Ax]at h1;exact⟨λ_ _=>trivial,KY hT l h1 (h2.frame (Be h2.env o.dst (by unfold Aj;rfl)) (put_defers _ _ _))⟩
theorem EE{b:Frame}{a:Act}{k:List Item}{cs:List Frame}{w:World}{c:Code}:step P (lone (b.atR a (.code (.scope c)::k)) cs w)=.next (lone (b.atR a (.code c::.inScope c::k)) cs w):=
 step_lone_go (by simp[stepG,stepG.exec,Frame.atR])
theorem Ty{b:Frame}{a:Act}{k:List Item}{cs:List Frame}{w:World}{c:Code}:step P (lone (b.atR a (.inScope c::k)) cs w)=.next (lone (b.atR a k) cs w):=
 step_lone_go (by simp[stepG,stepG.exec,Frame.atR])
theorem QY{F:Fence}{n:Nat}{Q:Exit→Act→World→Prop}{a:Act}{w:World}{c:Code}(hg:∀l a w,¬Q (.goto l) a w)(h:c.wpIn F n P Q a w):(Code.scope c).wpIn F n P Q a w:=by
 intro b k cs hro hb hr;have h0:(lone (b.atR a (.code (.scope c)::k)) cs w).fenced P F:=fenced_calm hb hr rfl;obtain⟨e,a₁,w₁,hq,JG⟩:=h b (.inScope c::k) cs hro hb hr;cases e with
 |normal=>exact⟨.normal,a₁,w₁,hq,.head h0 EE (StepsIn.trans JG (.one (fenced_calm hb hr rfl) Ty))⟩
 |exit id=>
  have hx:exitTo id (.inScope c::k)=exitTo id k:=by simp[exitTo]
  exact⟨.exit id,a₁,w₁,hq,λk' hk=>.head h0 EE (JG.1 k' (by rw[hx];exact hk)),
   λNq hk=>let ⟨k₁,h1,h2⟩:=JG.2 Nq (by rw[hx];exact hk);⟨k₁,h1,.head h0 EE h2⟩⟩
 |goto l=>exact absurd hq (hg _ _ _)
 |ret=>exact⟨_,a₁,w₁,hq,.of_steps (.one h0 EE) JG⟩
 |panic ch=>exact⟨_,a₁,w₁,hq,.of_steps (.one h0 EE) JG⟩
 |outgrown=>exact⟨_,a₁,w₁,hq,.of_steps (.one h0 EE) JG⟩
theorem BR(hT:BL P T):∀(c:Code){E:List AV}{H:List HO}{K:KK}{X:XX},cX P T c E H K X→Ac P c E H K X
 |.skip,E,H,K,X,h=>⟨λn G a w hP Ah=>wpIn_skip ⟨E,H,h,Ah⟩⟩
 |.region id ops draw,E,H,K,X,h=>by
  unfold cX at h;cases draw with
  |false=>
   refine⟨λn G a w hP Ah=>?_⟩
   obtain⟨C,mu,Ah⟩:=Ah;subst hP;exact wpIn_region_list (KY hT _ h Ah)
  |true=>exact h
 |.seq x y,E,H,K,X,h=>⟨λn G a w hP Ah=>by
  unfold cX at h;refine wpIn_seq (wpIn_mono ((BR hT x h).out n G a w hP Ah) λe a w q=>?_)
  cases e with
  |normal=>obtain⟨E',H',h1,h2⟩:=q;exact(BR hT y h1).out n G a w hP h2
  |_=>exact q⟩
 |.cond c x y,E,H,K,X,h=>⟨λn G a w hP Ah=>by
  unfold cX at h;rw[Af]at h;have Ss:=Ah;obtain⟨C,mu,CM⟩:=Ss;have hr:=AT CM.env c;split at h
  ·rename_i t hb;rw[hb]at hr;have hv:=Bl hr;cases t with
   |true=>exact wpIn_cond_true hv ((BR hT x h).out n G a w hP Ah)
   |false=>exact wpIn_cond_false hv ((BR hT y h).out n G a w hP Ah)
  ·rename_i t hb;rw[hb]at hr;have hv:=Bf hr;exact wpIn_cond_split hv (λht=>(BR hT x (h.1 ht)).out n G a w hP Ah) (λht=>(BR hT y (h.2 ht)).out n G a w hP Ah)
  ·exact h.elim⟩
 |.block id b,E,H,K,X,h=>⟨λn G a w hP Ah=>by
  unfold cX at h;refine wpIn_block (wpIn_mono ((BR hT b h).out n G a w hP Ah) λe a w q=>?_)
  cases e with
  |normal=>exact q
  |exit i=>
   obtain⟨E',H',h1,h2⟩:=q;simp only[Exit.inBlock];simp only at h1;split at h1
   ·rename_i hb;rw[if_pos (AO hb)];exact⟨E',H',h1,h2⟩
   ·rename_i hb;rw[if_neg (Nat.ne_of_beq_eq_false hb)];exact⟨E',H',h1,h2⟩
  |ret=>exact q
  |panic ch=>exact q
  |goto l=>exact q
  |outgrown=>exact q⟩
 |.exit id,E,H,K,X,h=>⟨λn G a w hP Ah=>wpIn_exit ⟨E,H,h,Ah⟩⟩
 |.ret,E,H,K,X,h=>⟨λn G a w hP Ah=>wpIn_ret ⟨E,H,h,Ah⟩⟩
 |.loop b,_,_,_,_,h=>h
 |.rangeFunc _ _ _ _,_,_,_,_,h=>h
 |.scope b,E,H,K,X,h=>⟨λn G a w hP Ah=>by
  unfold cX at h;exact QY (λl a w q=>q) ((BR hT b h).out n G a w hP Ah)⟩
 |.label _,E,H,K,X,h=>⟨λn G a w hP Ah=>wpIn_label ⟨E,H,h,Ah⟩⟩
 |.goto _,_,_,_,_,h=>h
 |.refuse _,_,_,_,_,h=>h
theorem Ac.mono{c:Code}{K K':KK}{X X':XX}(h:Ac P c E H K X)(hK:∀E H,K E H→K' E H)(hX:∀e E H,X e E H→X' e E H):Ac P c E H K' X':=
 ⟨λn G a w hP Ah=>wpIn_mono (h.out n G a w hP Ah) (Ln.mono hK hX)⟩
theorem Ac.seq{x y:Code}{K:KK}{X:XX}(h:Ac P x E H (λE H=>Ac P y E H K X) X):Ac P (.seq x y) E H K X:=
 ⟨λn G a w hP Ah=>wpIn_seq (wpIn_mono (h.out n G a w hP Ah) λe a w q=>by
  cases e with
  |normal=>obtain⟨E',H',h1,h2⟩:=q;exact h1.out n G a w hP h2
  |_=>exact q)⟩
def leA(x y:AV):Prop:=
 match y with
 |.any=>True
 |.int k b=>(match x with|.int k' a=>(match sF k' k with|true=>a=b|false=>False)|_=>False)
 |.bool b=>(match x with|.bool a=>a=b|.lit a=>a=b|_=>False)
 |y=>x=y
def sB:List AV→List AV→Prop
 |[],[]=>True
 |x::xs,y::ys=>leA x y∧sB xs ys
 |_,_=>False
theorem uN{x y:AV}(h:leA x y){v:Value}(hr:Aj C w x mu v):Aj C w y mu v:=by
 unfold leA at h;split at h;·exact QL v
 ·split at h
  ·split at h;·rename_i hk;obtain rfl:=OI hk;subst h;exact hr
   ·exact h.elim
  ·exact h.elim
 ·split at h;·subst h;exact hr
  ·subst h;unfold Aj at*;exact hr
  ·exact h.elim
 ·subst h;exact hr
theorem KI:∀{xs ys:List AV}{vs:List Value},sB xs ys→Aa C w xs mu vs→Aa C w ys mu vs
 |[],[],_,_,h=>h
 |x::xs,y::ys,_,hl,h=>by
  unfold sB at hl;unfold Aa at*;obtain⟨v,BV,h1,h2,h3⟩:=h;exact⟨v,BV,h1,uN hl.1 h2,KI hl.2 h3⟩
 |[],_::_,_,hl,_=>by unfold sB at hl;exact hl.elim
 |_::_,[],_,hl,_=>by unfold sB at hl;exact hl.elim
theorem St.le{E':List AV}(h:St G E H a w)(hl:sB E E'):St G E' H a w:=by
 obtain⟨C,mu,h⟩:=h;exact⟨C,mu,h.frame (KI hl h.env) rfl⟩
def uI:Nat→Nat→List (Nat×AV)→List AV
 |0,_,_=>[]
 |n+1,i,[]=>.any::uI n (i+1) []
 |n+1,i,(j,v)::l=>match Cu i j with
  |true=>v::uI n (i+1) l
  |false=>.any::uI n (i+1) ((j,v)::l)
def mk(n:Nat)(l:List (Nat×AV)):List AV:=uI n 0 l
def eV:List AV→List AV→Prop→Prop
 |[],[],Q=>Q
 |x::xs,y::ys,Q=>(match y with
  |.any=>eV xs ys Q
  |.int k b=>(match x with|.int k' a=>(match sF k' k with|true=>a=b∧eV xs ys Q|false=>False)|_=>False)
  |.bool b=>(match x with|.bool a=>a=b∧eV xs ys Q|.lit a=>a=b∧eV xs ys Q|_=>False)
  |y=>x=y∧eV xs ys Q)
 |_,_,_=>False
theorem Nk:∀(xs ys:List AV)(Q:Prop),eV xs ys Q→sB xs ys∧Q
 |[],[],Q,h=>⟨trivial,h⟩
 |x::xs,y::ys,Q,h=>by
  unfold eV at h
  have key:leA x y∧eV xs ys Q:=by
   cases y with
   |any=>exact⟨trivial,h⟩
   |int k b=>
    cases x with
    |int k' a=>
     simp only at h;unfold leA;simp only;split at h;·exact h
     ·exact h.elim
    |_=>exact h.elim
   |bool b=>cases x<;>first|exact h|exact h.elim
   |_=>exact h
  obtain⟨h1,h2⟩:=Nk xs ys Q key.2;exact⟨⟨key.1,h1⟩,h2⟩
 |[],_::_,_,h=>by unfold eV at h;exact h.elim
 |_::_,[],_,h=>by unfold eV at h;exact h.elim
theorem Ms(p:Nat→Prop)(h:∃n,p n):∃n,p n∧∀m,p m→n≤m:=by
 obtain⟨n,hn⟩:=h;induction n using Nat.strongRecOn with
 |_ n ih=>
  by_cases hm:∃m,m<n∧p m
  ·obtain⟨m,h1,h2⟩:=hm;exact ih m h1 h2
  ·exact⟨n,hn,λm h=>by
    rcases Nat.lt_or_ge m n with h'|h';·exact absurd ⟨m,h',h⟩ hm
    ·exact h'⟩
end
structure Aw(P:Program)(f:FuncId)(args:List AV)(R:AV→Prop):Prop where
 Ed:B5 P f=true
 out:∀(C:Ag)(w:World)(vs:List Value),Zh C w→Aa C w args Mu.none vs→
  Calls P f vs.toArray w λe w'=>∃r v,e=.returned v∧R r∧Below w.heap.size w w'∧Aj (Kc C w.heap.size w'.heap.size) w' r Mu.none v
def CT(H:List HO)(v:AV)(K:AV→Prop):Prop:=
 match v with
 |.own l sz lo n=>B6 H l λob=>(match ob with
  |.arr _ BD es=>(match Cu sz BD&&Cu lo 0 with
   |true=>(n=es.length∧∀e∈es,closed e=true)∧K (.sl sz es)
   |false=>False)
  |_=>False)
 |.raw (.slice none 0 0)=>∃sz,K (.sl sz [])
 |.lit b=>K (.bool b)
 |.om l=>B6 H l λob=>(match ob with|.map ks vs=>K (.mp ks vs)|_=>False)
 |v=>(match closed v with|true=>v.force K|false=>False)
def FK(H:List HO):List AV→(List AV→Prop)→Prop
 |[],K=>K []
 |a::as,K=>CT H a λa=>FK H as λas=>K (a::as)
def HY(H:List HO):Nat→AV→(AV→Prop)→Prop
 |0,v,K=>CT H v K
 |n+1,v,K=>match v with
  |.fn f cap=>Gw (HY H n) cap λcs=>K (.fn f cs)
  |.mv f cap=>Gw (HY H n) cap λcs=>K (.mv f cs)
  |.agg cs=>Gw (HY H n) cs λcs=>K (.agg cs)
  |.iface t x=>HY H n x λx=>K (.iface t x)
  |.ptr l o=>B6 H l λob=>(match ob with
   |.cells cs=>Gw (HY H n) cs λcs=>HG cs o λcs=>K (.at_ cs)
   |_=>False)
  |v=>CT H v K
def VA(T:List TY)(E:List AV)(H:List HO):List ResultVar→(List AV→Prop)→Prop
 |[],K=>K []
 |.tmp t::r,K=>xM E t λv=>VA T E H r λvs=>K (v::vs)
 |.cell a t::r,K=>xM E a λp=>Nh T H t p λv=>VA T E H r λvs=>K (v::vs)
def Ru(T:List TY)(rs:List ResultVar)(R:AV→Prop)(E:List AV)(H:List HO):Prop:=
 VA T E H rs λvs=>match vs with
  |[v]=>HY H 4 v R
  |vs=>Gw (HY H 4) vs λvs=>R (.tuple vs)
section
variable {G:Cx}{C:Ag}{w w':World}{mu:Mu}{H:List HO}{E:List AV}{a:Act}{T:List TY}{P:Program}
theorem Vf{C':Ag}(h:Az G C mu E H a w)(hxx:Ext C C' w w)(jV:∀l g b o,mu l=some g→g.As=some b→C' b o){x:AV}{u:Value}(hx:Aj C w x mu u){R:AV→Prop}(hk:CT H x R):
  ∃r,R r∧Aj C' w r Mu.none u:=by
 unfold CT at hk;split at hk
 ·rename_i l sz lo n;replace hk:=(Ab _ _ _).1 hk;obtain⟨ob,Ba,hk⟩:=hk
  cases ob with
  |cells _=>exact hk.elim
  |dead=>exact hk.elim
  |ghost _ _ _=>exact hk.elim
  |inv _=>exact hk.elim
  |map _ _=>exact hk.elim
  |arr e BD es=>
   simp only at hk;split at hk
   ·rename_i hb;simp only[Bv]at hb;obtain rfl:=AO hb.1;obtain rfl:=AO hb.2;obtain⟨⟨rfl,hc⟩,hk⟩:=hk;exact⟨_,hk,J0 h.heap hxx (λg b o hm hb=>jV _ g b o hm hb) Ba hc hx⟩
   ·exact hk.elim
 ·obtain⟨sz,hk⟩:=hk;refine⟨_,hk,?_⟩;unfold Aj at hx⊢;exact .inl ⟨⟨_,hx⟩,rfl⟩
 ·exact⟨_,hk,by unfold Aj at*;exact hx⟩
 ·rename_i l;replace hk:=(Ab _ _ _).1 hk;obtain⟨ob,Ba,hk⟩:=hk
  cases ob<;>first|exact hk.elim|skip
  rename_i ks vs;obtain⟨b,es,clock,h1,h2,h3⟩:=h.heap.maps l ks vs Ba;unfold Aj at hx;obtain⟨b',h4,h5⟩:=hx;rw[h1]at h4;simp only[C3.injEq,GO.CU.injEq]at h4;subst h4;refine⟨_,hk,?_⟩;unfold Aj;exact .inr ⟨b,es,clock,h5,jV l _ b 0 h1 rfl,h2,(h3.2 _ _).1,(h3.2 _ _).2,h3.1⟩
 ·split at hk
  ·rename_i hc;rw[AV.AK]at hk;exact⟨_,hk,Aj.mono hxx _ (Ay.refl _) (A6 _ hc hx)⟩
  ·exact hk.elim
theorem YO(h:Az G C mu E H a w)(hM:∀b,¬G.M0 b){x:AV}{u:Value}(hx:Aj C w x mu u){R:AV→Prop}(hk:CT H x R):
  ∃r,R r∧Aj (Kc G.C0 G.W0.heap.size w.heap.size) w r Mu.none u:=
 Vf h ⟨λb o hc=>(h.c1 b o hc).imp id λk=>⟨k.resolve_right (hM b),h.lt b o hc⟩,λ_ _ _=>rfl⟩ (λl g b o hm hb=>.inr ⟨(h.heap.fresh _ g b hm hb).1.resolve_right (hM b),(h.heap.fresh _ g b hm hb).2.1⟩) hx hk
theorem Ev{C':Ag}{mu':Mu}{f:AV→(AV→Prop)→Prop}(hf:∀{x:AV}{u:Value},Aj C w x mu u→∀{R:AV→Prop},f x R→∃r,R r∧Aj C' w r mu' u):
  ∀{xs:List AV}{us:List Value},Aa C w xs mu us→∀{R:List AV→Prop},Gw f xs R→∃rs,R rs∧Aa C' w rs mu' us
 |[],us,hx,R,hk=>⟨[],hk,by unfold Aa at*;exact hx⟩
 |x::xs,us,hx,R,hk=>by
  unfold Gw at hk;unfold Aa at hx;obtain⟨v,BV,rfl,h2,h3⟩:=hx;obtain⟨r,hk,hr⟩:=hf h2 hk;obtain⟨rs,hk,HV⟩:=Ev hf h3 hk;exact⟨r::rs,hk,by unfold Aa;exact⟨v,BV,rfl,hr,HV⟩⟩
theorem O0(h:Az G C mu E H a w)(hM:∀b,¬G.M0 b):∀(n:Nat){x:AV}{u:Value},Aj C w x mu u→∀{R:AV→Prop},HY H n x R→
  ∃r,R r∧Aj (Kc G.C0 G.W0.heap.size w.heap.size) w r Mu.none u
 |0,x,u,hx,R,hk=>YO h hM hx hk
 |n+1,x,u,hx,R,hk=>by
  have ih:∀{x:AV}{u:Value},Aj C w x mu u→∀{R:AV→Prop},HY H n x R→∃r,R r∧Aj (Kc G.C0 G.W0.heap.size w.heap.size) w r Mu.none u:=λhx _ hk=>O0 h hM n hx hk
  unfold HY at hk;split at hk
  ·unfold Aj at hx;obtain⟨vs,rfl,hx⟩:=hx;obtain⟨rs,hk,hr⟩:=Ev (λhx _ hk=>ih hx hk) hx hk
   exact⟨_,hk,by unfold Aj;exact⟨vs,rfl,hr⟩⟩
  ·unfold Aj at hx;obtain⟨vs,rfl,hx⟩:=hx;obtain⟨rs,hk,hr⟩:=Ev (λhx _ hk=>ih hx hk) hx hk
   exact⟨_,hk,by unfold Aj;exact⟨vs,rfl,hr⟩⟩
  ·unfold Aj at hx;obtain⟨vs,rfl,hx⟩:=hx;obtain⟨rs,hk,hr⟩:=Ev (λhx _ hk=>ih hx hk) hx hk
   exact⟨_,hk,by unfold Aj;exact⟨vs,rfl,hr⟩⟩
  ·unfold Aj at hx;obtain⟨y,rfl,hx⟩:=hx;obtain⟨r,hk,hr⟩:=ih hx hk;exact⟨_,hk,by unfold Aj;exact⟨y,rfl,hr⟩⟩
  ·rename_i l o;replace hk:=(Ab _ _ _).1 hk;obtain⟨ob,Ba,hk⟩:=hk
   cases ob<;>first|exact hk.elim|skip
   rename_i cs;simp only at hk;unfold Aj at hx;obtain⟨b,hm,rfl⟩:=hx;obtain⟨b',cur,e,V8,hb,hr,h1⟩:=h.heap.Cm l cs Ba;rw[hm]at V8;simp only[C3.injEq,GO.CU.injEq]at V8;subst V8;obtain⟨rs,hk,HV⟩:=Ev (λhx _ hk=>ih hx hk) hr hk
   rw[BK]at hk;obtain⟨f1,f2,_⟩:=h.heap.fresh l _ b hm rfl;refine⟨_,hk,?_⟩;unfold Aj;refine⟨b,o,rfl,(Co _ _).2 λi hi=>?_⟩
   have N0:=(AI _).1 HV;have sR:o+i<rs.length:=by simp at hi;omega
   have Qz:o+i<cur.toList.length:=by rw[N0.1];exact sR
   refine⟨cur.toList[o+i],h1 _ (C1 Qz),⟨.inr ⟨f1.resolve_right (hM b),f2⟩,?_⟩,?_⟩
   ·rw[cell_of_row w b _ cur e _ hb];simp at Qz⊢
   ·have:=N0.2 (o+i) sR Qz;simp only[List.getElem_drop];exact this
  ·exact YO h hM hx hk
theorem Az.Rc{D:Nat}{ms:List Nat}(h:Az G C mu E H a w)(hx:Br C w G.fresh mu H ((D::ms).map (λD=>(D,Fb))++G.K1)):
  Az G C mu E H {a with defers:=ms.map mark++G.ds} (w.putObj D (.deferred none))∧Br C (w.putObj D (.deferred none)) G.fresh mu H (ms.map (λD=>(D,Fb))++G.K1):=by
 simp only[JJ,List.cons_append]at hx;generalize qC:ms.map (λD=>(D,Fb))++G.K1=ds at hx
 have hm:=hx.marks (D,Fb) (by simp)
 have AR:=(Cf.1 hm.at_).1;have TQ:∀{b},b≠D→(w.putObj D (.deferred none)).heap[b]?=w.heap[b]?:=λhb=>World.putObj_heap_other hb
 have hs:(w.putObj D (.deferred none)).heap.size=w.heap.size:=by simp[World.putObj]
 have bP:Ext C C w (w.putObj D (.deferred none)):=Ext.of_block (λ_ _ h=>h) λb o hc=>TQ λe=>hm.Gy o (by rw[←e];exact hc)
 have N2:D∉ds.map Prod.fst:=(I0.1 hx.nd).1;have UZ:∀{D':Nat×Obj},D'.1≠D→Ck C w G.fresh mu D'→Ck C (w.putObj D (.deferred none)) G.fresh mu D':=λBu k=>⟨by rw[TQ Bu];exact k.at_,k.Gy,k.own,k.fr⟩
 have hX:Br C (w.putObj D (.deferred none)) G.fresh mu H ds:=by
  refine⟨λl cs vs Ds hl=>?_,λl I hl=>?_,λD' hd=>UZ (λe=>N2 (e▸List.mem_map_of_mem hd)) (hx.marks D' (by simp[hd])),(I0.1 hx.nd).2,hx.sep⟩
  ·obtain⟨k1,k2,k3⟩:=hx.Bc l cs vs Ds hl;exact⟨Aa.mono bP _ (Ay.refl _) k1,k2,λD' hd=>⟨UZ (λe=>(k3 D' hd).2 (Hx.2 (.inl e))) (k3 D' hd).1,λqD=>(k3 D' hd).2 (D0 _ qD)⟩⟩
  ·obtain⟨h0,Sw,Sr,h1,h2,h3,h4⟩:=hx.Gx l I hl;exact⟨h0,Sw,Sr,⟨h1.fr,by rw[hs];exact h1.base,h1.cb,h1.ob,h1.sub,λb hb=>by rw[hs];exact h1.lt b hb,h1.own,h1.Gy⟩,I.LW Sw Sr w _ h2 ⟨rfl,rfl,rfl,Nat.le_of_eq hs.symm,λb hb=>TQ λe=>h3 (D,Fb) (by simp) (e▸hb)⟩,λD' hd=>h3 D' (D0 _ hd),h4⟩
 refine⟨⟨h.c0,h.c1,λb o hc=>by rw[hs];exact h.lt b o hc,⟨h.heap.HH,λl g b hl hg=>?_,h.heap.sep,h.heap.dead,λl cs hl=>?_,λl e sz es hl=>?_,λl ks vs hl=>?_⟩,Aa.mono bP _ (Ay.refl _) h.env,⟨ms,rfl,qC▸hX⟩,
  ⟨h.Aq.os,h.Aq.tape,h.Aq.output,by rw[hs];exact h.Aq.size,λk hk hn=>?_⟩,h.CA⟩,hX⟩
 ·obtain⟨k1,k2,k3⟩:=h.heap.fresh l g b hl hg;exact⟨k1,by rw[hs];exact k2,k3⟩
 ·obtain⟨b,cur,e,k1,k2,k3,k4⟩:=h.heap.Cm l cs hl;exact⟨b,cur,e,k1,by rw[TQ λee=>hm.own l _ k1 (by rw[←ee];rfl)];exact k2,Aa.mono bP _ (Ay.refl _) k3,k4⟩
 ·obtain⟨k0,k⟩:=h.heap.BJ l e sz es hl;exact⟨k0,k.imp id λ⟨b,cap,cur,k1,k2,k3,k4,k5,k6,k7⟩=>⟨b,cap,cur,k1,k2.of_eq (by rw[TQ λee=>hm.own l _ k1 (by rw[←ee];rfl)]),k3,k4,k5,Aa.mono bP _ (Ay.refl _) k6,k7⟩⟩
 ·obtain⟨b,es,cl,k1,k2,k3⟩:=h.heap.maps l ks vs hl;exact⟨b,es,cl,k1,by rw[TQ λee=>hm.own l _ k1 (by rw[←ee];rfl)];exact k2,k3⟩
 ·rw[TQ λe=>?_]
  ·exact h.Aq.block k hk hn
  ·subst e;rcases hm.fr with k|k;·omega
   ·exact hn k
theorem GJ{n:Nat}{fn:Func}{R:Ending→World→Prop}{tmps:Array Value}(qC:G.ds=[]):∀(ms:List Nat){w:World}{a:Act},a.tmps=tmps→Az G C mu E H a w→Br C w G.fresh mu H (ms.map (λD=>(D,Fb))++G.K1)→
  (∀a' w',a'.tmps=tmps→Az G C mu E H a' w'→∃v,(results fn tmps).run G.P w'=.ok v w'∧R (.returned v) w')→LeavesInM (fw none) n G.P fn tmps R (ms.map mark) .returning w
 |[],w,a,ha,h,hx,hr=>by
  simp only[List.map_nil,LeavesInM,LeavesIn];exact hr a w ha h
 |D::ms,w,a,ha,h,hx,hr=>by
  simp only[JJ,LeavesInM];obtain⟨h1,h2⟩:=h.Rc hx;exact⟨by simp,.inl ⟨D,_,rfl,run_takeDeferred (hx.marks (D,Fb) (by simp)).at_,GJ qC ms (a:={a with defers:=ms.map mark++G.ds}) ha h1 h2 hr⟩⟩
def Xl(tmps:Array Value):ResultVar→Sem Value
 |.tmp t=>pure (tmps.getD t undef)
 |.cell a t=>do loadVar t (←asAddr (tmps.getD a undef))
theorem Ey(fn:Func)(tmps:Array Value):results fn tmps=(fn.results.mapM (Xl tmps) >>= λvs=>pure (if h:vs.size=1 then vs[0]else .tuple vs)):=by
 unfold results;congr 1
theorem SD(C:Ag)(w:World)(fr:Nat→Prop):AX C w fr Mu.none []:=by
 refine⟨?_,?_,?_,?_,?_,?_,?_⟩;·intro l g h;cases h
 ·intro l g b h;cases h
 ·intro l g b l' g' h;cases h
 ·intro l h;cases h
 ·intro l cs h;cases h
 ·intro l e sz es h;cases h
 ·intro l ks vs h;cases h
theorem QX(C:Ag)(w:World)(fr:Nat→Prop)(mu:Mu):Br C w fr mu [] []:=
 ⟨λl cs vs ms h=>(by simp at h),λl I h=>(by simp at h),λD h=>(by cases h),JA,λl l' cs vs ms cs' BV Ds h=>(by simp at h)⟩
theorem Ow(hT:BL G.P T)(h:Az G C mu E H a w):∀(rs:List ResultVar){K:List AV→Prop},VA T E H rs K→
  ∃xs us,K xs∧Aa C w xs mu us∧(rs.mapM (Xl a.tmps)).run G.P w=.ok us w
 |[],K,hk=>⟨[],[],hk,by unfold Aa;rfl,by simp⟩
 |.tmp t::r,K,hk=>by
  unfold VA at hk;rw[QR]at hk;obtain⟨xs,us,h1,h2,h3⟩:=Ow hT h r hk;refine⟨_,_,h1,by unfold Aa;exact⟨_,us,rfl,h.env.get t,h2⟩,?_⟩
  rw[JB];simp only[Xl,Gm,H0,Ec,h3]
 |.cell p t::r,K,hk=>by
  unfold VA at hk;rw[QR]at hk;have hp:=h.env.get p;obtain⟨x,v,hk,hr,AZ⟩:=Oa hT h.heap hp hk;obtain⟨xs,us,h1,h2,h3⟩:=Ow hT h r hk;refine⟨_,_,h1,by unfold Aa;exact⟨v,us,rfl,hr,h2⟩,?_⟩
  have ha:∃ad,a.tmps.getD p undef=.pointer (some ad):=by
   unfold Instr.loadAt Instr.sureAddr at AZ;generalize a.tmps.getD p undef=q at AZ;cases q<;>first|(simp at AZ;done)|skip
   rename_i o;cases o with
   |none=>simp at AZ
   |some ad=>exact⟨ad,rfl⟩
  obtain⟨ad,ha⟩:=ha;rw[ha]at AZ;simp only[Instr.loadAt,Instr.sureAddr,Gm,H0,Ec]at AZ;rw[JB];simp only[Xl,ha,asAddr,Gm,H0,Ec,AZ,h3]
theorem nK(hT:BL G.P T)(h:Az G C mu E H a w)(hM:∀b,¬G.M0 b){fn:Func}{R:AV→Prop}(hk:Ru T fn.results.toList R E H):
  ∃r v,R r∧(results fn a.tmps).run G.P w=.ok v w∧Aj (Kc G.C0 G.W0.heap.size w.heap.size) w r Mu.none v:=by
 unfold Ru at hk;obtain⟨xs,us,hk,hr,AZ⟩:=Ow hT h _ hk
 have hm:(fn.results.mapM (Xl a.tmps)).run G.P w=.ok us.toArray w:=by
  rw[Array.mapM_eq_mapM_toList];simp only[Sem.run_map,AZ,Ec]
 have Ho:(results fn a.tmps).run G.P w=.ok (if h:us.toArray.size=1 then us.toArray[0]else .tuple us.toArray) w:=by
  rw[Ey,Gm,hm];rfl
 rw[Ho];split at hk
 ·rename_i v;unfold Aa at hr;obtain⟨u,Tw,rfl,hr,Nq⟩:=hr;unfold Aa at Nq;subst Nq;obtain⟨r,hk,hr⟩:=O0 h hM 4 hr hk;exact⟨r,u,hk,by simp,hr⟩
 ·rename_i Bu;obtain⟨rs,hk,HV⟩:=Ev (λhx _ hk=>O0 h hM 4 hx hk) hr hk
  have hl:us.length≠1:=λe=>by
   have:=Ar _ hr;rw[e]at this;cases xs with
   |nil=>simp at this
   |cons x xs=>
    cases xs with
    |nil=>exact Bu x rfl
    |cons _ _=>simp at this
  exact⟨_,_,hk,by simp[hl];rfl,by unfold Aj;exact⟨us,rfl,HV⟩⟩
theorem BG:∀(n:Nat),Aa C w (EN n (.raw undef)) mu (EN n undef)
 |0=>by simp[Aa]
 |n+1=>by
  simp only[List.replicate_succ];unfold Aa;exact⟨_,_,rfl,by unfold Aj;rfl,BG n⟩
def DR(n:Nat)(args:List AV)(K:List AV→Prop):Prop:=iO (AV.raw undef) (n-args.length) λr=>YU args r K
theorem Aw.Ai{f:FuncId}{fn:Func}{c:Code}{args:List AV}{R:AV→Prop}(hf:P.funcs[f]?=some fn)(hb:fn.body=some c)(hT:BL P T)(hg:B5 P f=true)
  (h:DR fn.ntmps args λE=>Ac P c E [] (Ru T fn.results.toList R) (λe E H=>match e with|.ret=>Ru T fn.results.toList R E H|_=>False)):Aw P f args R:=by
 refine⟨hg,λC w vs AR hr=>(callsIn_wide (n:=0)).1 (callsIn_of_wp_marks (F:=Fence.wide) (n:=0) hf hb trivial ?_ rfl)⟩
 unfold DR at h;rw[Dn,CO]at h;let G:Cx:={P:=P,C0:=C,M0:=λ_=>False,W0:=w,Zb:=⟨AR,λ_ _ _ h=>h⟩}
 have Ah:St G (args++EN (fn.ntmps-args.length) (.raw undef)) [] {tmps:=vs.toArray++Gu (fn.ntmps-vs.toArray.size) undef,defers:=[]} w:=by
  refine⟨C,Mu.none,λ_ _ h=>h,λ_ _ h=>.inl h,AR.lt,SD _ _ _,?_,⟨[],rfl,QX _ _ _ _⟩,⟨rfl,rfl,rfl,Nat.le_refl _,λ_ _ _=>rfl⟩,Nat.zero_le _,λ_ _ h=>absurd h (Nat.not_lt_zero _)⟩
  have hl:=Ar _ hr;have:=AF hr (BG (C:=C) (w:=w) (mu:=Mu.none) (fn.ntmps-args.length));simpa[hl]using this
 have fin:∀E H a w',Ru T fn.results.toList R E H→St G E H a w'→LeavesInM (fw none) 0 P fn a.tmps (λe w'=>∃r v',e=.returned v'∧R r∧Below w.heap.size w w'∧Aj (Kc C w.heap.size w'.heap.size) w' r Mu.none v') a.defers .returning w':=by
  rintro E H a w' hk ⟨C',mu',Ah⟩;obtain⟨ms,d1,d2⟩:=Ah.defers;rw[show a.defers=ms.map mark by simpa[G]using d1]
  refine GJ (G:=G) rfl ms rfl Ah d2 λa' Lo ha Fv=>?_
  obtain⟨r,v,h1,h2,h3⟩:=nK (G:=G) hT Fv (λ_ h=>h) hk
  rw[ha]at h2;exact⟨v,h2,r,v,rfl,h1,⟨Fv.Aq.os,Fv.Aq.tape,Fv.Aq.output,Fv.Aq.size,λk hk=>Fv.Aq.block k hk (λh=>h)⟩,h3⟩
 refine wpIn_mono (h.out 0 G _ w rfl Ah) λe a w' q=>?_
 cases e with
 |normal=>obtain⟨E,H,h1,h2⟩:=q;exact fin E H a w' h1 h2
 |ret=>obtain⟨E,H,h1,h2⟩:=q;exact fin E H a w' h1 h2
 |exit id=>obtain⟨E,H,h1,h2⟩:=q;exact h1.elim
 |panic ch=>obtain⟨x,v,E,H,C,mu,_,h1,_⟩:=q;exact h1.elim
 |goto l=>exact q.elim
 |outgrown=>exact q.elim
theorem Ak.D3{f:FuncId}{args:List AV}{R:AV→Prop}{K:AV→KK}{X:XX}(h:Aw P f args R)(hc:Ap args=true)(hk:∀r,R r→K r E H):Ak P f args E H K X:=by
 refine⟨h.Ed,λG C mu a w vs hP Ah hr=>?_⟩
 refine(h.out C w vs Ah.Ze (A1 args hc hr)).mono λe w' ⟨r,v,h1,h2,h3,h4⟩=>?_
 exact .inl ⟨r,v,E,H,_,mu,h1,hk r h2,Ah.below h3,Aj.mono (Ext.refl _ _) _ (Ay.none mu) h4⟩
end
mutual
def C8(l:Nat):AV→Bool
 |.ptr k _=>Cu k l
 |.el k _ _ _=>Cu k l
 |.own k _ _ _=>Cu k l
 |.om k=>Cu k l
 |.fn _ cap=>Jr l cap
 |.mv _ cap=>Jr l cap
 |.iface _ x=>C8 l x
 |.agg cs=>Jr l cs
 |.tuple vs=>Jr l vs
 |_=>false
def Jr(l:Nat):List AV→Bool
 |[]=>false
 |a::as=>C8 l a||Jr l as
end
section
variable {C:Ag}{w:World}{mu:Mu}
mutual
theorem VB{l:Nat}(hl:mu l=none):∀(x:AV){v:Value},Aj C w x mu v→C8 l x=false
 |.any,_,_=>rfl
 |.int _ _,_,_=>rfl
 |.bool _,_,_=>rfl
 |.lit _,_,_=>rfl
 |.str _,_,_=>rfl
 |.sl _ _,_,_=>rfl
 |.at_ _,_,_=>rfl
 |.raw _,_,_=>rfl
 |.mp _ _,_,_=>rfl
 |.om k,_,h=>by
  unfold Aj at h;obtain⟨b,h1,_⟩:=h;unfold C8;cases hb:Cu k l with
  |false=>rfl
  |true=>rw[AO hb,hl]at h1;cases h1
 |.ptr k o,_,h=>by
  unfold Aj at h;obtain⟨b,h1,_⟩:=h;unfold C8;cases hb:Cu k l with
  |false=>rfl
  |true=>rw[AO hb,hl]at h1;cases h1
 |.el k sz i o,_,h=>by
  unfold Aj at h;obtain⟨b,n,c,h1,_⟩:=h;unfold C8;cases hb:Cu k l with
  |false=>rfl
  |true=>rw[AO hb,hl]at h1;cases h1
 |.own k sz lo n,_,h=>by
  unfold Aj at h;obtain⟨x,h1,_⟩:=h;unfold C8;cases hb:Cu k l with
  |false=>rfl
  |true=>rw[AO hb,hl]at h1;cases h1
 |.fn f cap,_,h=>by
  unfold Aj at h;obtain⟨vs,_,h2⟩:=h;unfold C8;exact J7 hl cap h2
 |.mv f cap,_,h=>by
  unfold Aj at h;obtain⟨vs,_,h2⟩:=h;unfold C8;exact J7 hl cap h2
 |.iface t x,_,h=>by
  unfold Aj at h;obtain⟨y,_,h2⟩:=h;unfold C8;exact VB hl x h2
 |.agg cs,_,h=>by
  unfold Aj at h;obtain⟨vs,_,h2⟩:=h;unfold C8;exact J7 hl cs h2
 |.tuple cs,_,h=>by
  unfold Aj at h;obtain⟨vs,_,h2⟩:=h;unfold C8;exact J7 hl cs h2
theorem J7{l:Nat}(hl:mu l=none):∀(xs:List AV){vs:List Value},Aa C w xs mu vs→Jr l xs=false
 |[],_,_=>rfl
 |x::xs,_,h=>by
  unfold Aa at h;obtain⟨v,BV,_,h2,h3⟩:=h;unfold Jr;rw[VB hl x h2,J7 hl xs h3];rfl
end
end
def T2(x:AV)(H H':List HO):Prop:=∀(l:Nat)(ob:HO),C8 l x=true→H[l]?=some ob→H'[l]?=some ob
def Y0(E:List AV)(o:Op)(H H':List HO):Prop:=∀x∈o.operands,T2 (AM E x) H H'
def Jk{α:Type}(t:(α→Prop)→Prop)(K:α→Prop):Prop:=∃r,K r∧∀K':α→Prop,K' r→t K'
theorem iX{k:Nat}{a b:AV}{K:Bool→Prop}(h:Sd k a b K):Jk (Sd k a b) K:=by
 unfold Sd at h;split at h
 ·split at h;·split at h<;>first|exact h.elim|exact⟨_,h,λK' k=>k⟩
  ·split at h<;>first|exact h.elim|exact⟨_,h,λK' k=>k⟩
  ·exact h.elim
 ·split at h
  ·split at h
   ·split at h
    ·rename_i hk;exact⟨_,h,λK' k=>by simp only[Sd,hk];exact k⟩
    ·exact h.elim
   ·exact h.elim
  ·exact h.elim
 ·split at h;·split at h<;>first|exact h.elim|exact⟨_,h,λK' k=>k⟩
  ·exact h.elim
 ·exact h.elim
theorem RS:∀{ls:List Nat}{xs ys:List AV}{K:Bool→Prop},cH ls xs ys K→Jk (cH ls xs ys) K
 |[],[],[],K,h=>⟨_,h,λK' k=>k⟩
 |k::ls,a::xs,b::ys,K,h=>by
  obtain⟨p,h,hp⟩:=iX h;obtain⟨r,h,hr⟩:=RS h;exact⟨_,h,λK' k=>hp _ (hr _ k)⟩
 |[],[],_::_,_,h=>h.elim
 |[],_::_,_,_,h=>h.elim
 |_::_,[],_,_,h=>h.elim
 |_::_,_::_,[],_,h=>h.elim
theorem aI{T:List TY}{op:BinOp}{t:TypeId}{cs ds:List AV}{K:AV→Prop}(h:O8 T op t cs ds K):Jk (O8 T op t cs ds) K:=by
 unfold O8 at h;replace h:=(Ab _ _ _).1 h;obtain⟨y,hy,h⟩:=h
 split at h
 ·rename_i ha;split at h
  ·rename_i ls hl;cases op<;>simp only[]at h
   case eql=>
    obtain⟨r,h1,h2⟩:=RS h;exact⟨_,h1,λK' k=>(Ab _ _ _).2 ⟨y,hy,by rw[ha,hl];exact h2 _ k⟩⟩
   case neq=>
    obtain⟨r,h1,h2⟩:=RS h;exact⟨_,h1,λK' k=>(Ab _ _ _).2 ⟨y,hy,by rw[ha,hl];exact h2 _ k⟩⟩
  ·exact h.elim
 ·exact h.elim
theorem oC{T:List TY}{op:BinOp}{t:TypeId}{a b:AV}{K:AV→Prop}(h:Mt T op t a b K):Jk (Mt T op t a b) K:=by
 have bl:∀{p q:Bool},(B6 T t λy=>(match y.k with|.bool=>NN op p q K|_=>False))→Jk (λK=>B6 T t λy=>(match y.k with|.bool=>NN op p q K|_=>False)) K:=by
  intro p q h;replace h:=(Ab _ _ _).1 h;obtain⟨y,hy,h⟩:=h
  split at h
  ·rename_i hk;unfold NN at h;cases op<;>first|exact h.elim|exact⟨_,h,λK' k=>(Ab _ _ _).2 ⟨y,hy,by rw[hk];exact k⟩⟩
  ·exact h.elim
 cases a<;>cases b<;>first|exact h.elim|skip
 case int.int k m k' n=>
  simp only[Mt]at h;split at h
  ·rename_i hk;cases op<;>simp only[jP]at h
   case quo=>exact⟨_,h.2,λK' k=>by simp only[Mt,hk,jP];exact⟨h.1,k⟩⟩
   case rem=>exact⟨_,h.2,λK' k=>by simp only[Mt,hk,jP];exact⟨h.1,k⟩⟩
   all_goals exact⟨_,h,λK' k=>by simp only[Mt,hk,jP];exact k⟩
  ·exact h.elim
 case str.str p q=>
  simp only[Mt]at h;cases op<;>simp only[mP]at h
  case add=>exact⟨_,h.2,λK' k=>by simp only[Mt,mP];exact⟨h.1,k⟩⟩
  all_goals exact⟨_,h,λK' k=>by simp only[Mt,mP];exact k⟩
 case bool.bool p q=>exact bl h
 case bool.lit p q=>exact bl h
 case lit.bool p q=>exact bl h
 case lit.lit p q=>exact bl h
 case agg.agg cs ds=>exact aI h
theorem RP{T:List TY}{op:BinOp}{t:TypeId}{r:Bool}{K:AV→Prop}(h:X8 T op t r K):Jk (X8 T op t r) K:=by
 unfold X8 at h;replace h:=(Ab _ _ _).1 h;obtain⟨y,hy,h⟩:=h
 split at h
 ·rename_i hk;cases op<;>first|exact h.elim|(cases r<;>exact⟨_,h,λK' k=>(Ab _ _ _).2 ⟨y,hy,by rw[hk];exact k⟩⟩)
 ·exact h.elim
theorem uG{T:List TY}{op:BinOp}{t:TypeId}{a b:AV}{c:Bool}(h1:∀t x,a≠.iface t x)(h2:∀u,a≠.raw u):jD T op t a b c=Mt T op t a b:=by
 cases a<;>first|rfl|exact absurd rfl (h1 _ _)|exact absurd rfl (h2 _)
theorem nZ{T:List TY}{op:BinOp}{t:TypeId}{a b:AV}{c:Bool}{K:AV→Prop}(h:jD T op t a b c K):Jk (jD T op t a b c) K:=by
 cases a
 case iface ty x=>
  cases b<;>first|exact h.elim|skip
  case raw v=>cases v<;>first|exact h.elim|exact @RP T op t false K h
 case raw u=>
  cases u<;>first|exact h.elim|skip
  cases b<;>first|exact h.elim|exact @RP T op t false K h|skip
  case raw v=>
   cases v<;>first|exact h.elim|skip
   cases c<;>first|exact h.elim|exact @RP T op t true K h
 all_goals (rw[uG (by simp) (by simp)]at h ⊢;exact oC h)
theorem tY{op:UnOp}{a:AV}{K:AV→Prop}(h:unK op a K):Jk (unK op a) K:=by
 cases op<;>cases a<;>first|exact h.elim|exact⟨_,h,λK' k=>k⟩|skip
 case not.lit b=>cases b<;>exact⟨_,h,λK' k=>k⟩
theorem VJ{T:List TY}{t:TypeId}{cs:List AV}{K:AV→Prop}(h:uO T t cs K):Jk (uO T t cs) K:=by
 unfold uO at h;replace h:=(Ab _ _ _).1 h;obtain⟨y,hy,h⟩:=h
 cases ha:y.agg with
 |true=>
  rw[ha]at h;obtain⟨hn,h⟩:=(Fh _ _ _).1 h;exact⟨_,h,λK' k=>(Ab _ _ _).2 ⟨y,hy,by rw[ha];exact(Fh _ _ _).2 ⟨hn,k⟩⟩⟩
 |false=>
  rw[ha]at h;cases cs with
  |nil=>exact h.elim
  |cons c cs=>
   simp only[AV.AK]at h;exact⟨c,h,λK' k=>(Ab _ _ _).2 ⟨y,hy,by rw[ha];simpa only[AV.AK]using k⟩⟩
theorem iW{T:List TY}{H:List HO}{t:TypeId}{p:AV}{K:AV→Prop}(h:Nh T H t p K):∃r,K r∧∀H',T2 p H H'→∀K':AV→Prop,K' r→Nh T H' t p K':=by
 cases p<;>first|exact h.elim|skip
 case at_ cs=>
  obtain⟨r,h1,h2⟩:=VJ h;exact⟨r,h1,λH' _ K' k=>h2 K' k⟩
 case ptr l o=>
  simp only[Nh]at h;replace h:=(Ab _ _ _).1 h;obtain⟨ob,Ba,h⟩:=h
  cases ob<;>first|exact h.elim|skip
  rename_i cs;simp only at h;rw[BK]at h;obtain⟨r,h1,h2⟩:=VJ h;exact⟨r,h1,λH' hl K' k=>(Ab _ _ _).2 ⟨_,hl _ _ (by simp[C8]) Ba,by simp only;rw[BK];exact h2 K' k⟩⟩
 case el l sz i o=>
  simp only[Nh]at h;replace h:=(Ab _ _ _).1 h;obtain⟨ob,Ba,h⟩:=h
  cases ob<;>first|exact h.elim|skip
  rename_i e BD es;simp only at h;split at h
  ·rename_i hz;obtain⟨v,hv,h⟩:=h;rw[Am,BK]at h;obtain⟨r,h1,h2⟩:=VJ h;exact⟨r,h1,λH' hl K' k=>(Ab _ _ _).2 ⟨_,hl _ _ (by simp[C8]) Ba,by simp only[hz];exact⟨v,hv,by rw[Am,BK];exact h2 K' k⟩⟩⟩
  ·exact h.elim
theorem RO{T:List TY}{H:List HO}{t:TypeId}{x i:AV}{K:AV→Prop}(h:BT T H t x i K):∃r,K r∧∀H',T2 x H H'→∀K':AV→Prop,K' r→BT T H' t x i K':=by
 cases x<;>first|exact h.elim|skip
 case sl sz es=>
  simp only[BT]at h;replace h:=(Ab _ _ _).1 h;obtain⟨y,hy,h⟩:=h
  split at h
  ·rename_i hk;split at h
   ·rename_i hb;cases i<;>first|exact h.elim|skip
    obtain⟨h0,v,hv,h⟩:=h;rw[Am]at h
    exact⟨_,h,λH' _ K' k=>by
     simp only[BT];exact(Ab _ _ _).2 ⟨y,hy,by simp only[hk,hb];exact⟨h0,v,hv,by rw[Am];exact k⟩⟩⟩
   ·exact h.elim
  ·exact h.elim
 case own l sz lo m=>
  simp only[BT]at h;replace h:=(Ab _ _ _).1 h;obtain⟨y,hy,h⟩:=h
  split at h
  ·rename_i hk;replace h:=(Ab _ _ _).1 h;obtain⟨ob,Ba,h⟩:=h
   cases ob<;>first|exact h.elim|skip
   simp only at h;split at h
   ·rename_i hb;cases i<;>first|exact h.elim|skip
    obtain⟨h0,h⟩:=h
    exact⟨_,h,λH' hl K' k=>by
     simp only[BT];exact(Ab _ _ _).2 ⟨y,hy,by simp only[hk];exact(Ab _ _ _).2 ⟨_,hl _ _ (by simp[C8]) Ba,by simp only[hb];exact⟨h0,k⟩⟩⟩⟩
   ·exact h.elim
  ·exact h.elim
 case ptr l o=>
  simp only[BT]at h;replace h:=(Ab _ _ _).1 h;obtain⟨y,hy,h⟩:=h
  split at h
  ·rename_i hk;split at h
   ·rename_i hb;cases i<;>first|exact h.elim|skip
    obtain⟨h0,h⟩:=h
    exact⟨_,h,λH' hl K' k=>by
     simp only[BT];exact(Ab _ _ _).2 ⟨y,hy,by simp only[hk,hb];exact⟨h0,k⟩⟩⟩
   ·exact h.elim
  ·exact h.elim
theorem aF{T:List TY}{t:TypeId}{x i:AV}{K:AV→Prop}(h:Hb T t x i K):Jk (Hb T t x i) K:=by
 cases x<;>first|exact h.elim|skip
 ·simp only[Hb]at h;replace h:=(Ab _ _ _).1 h;obtain⟨y,hy,h⟩:=h
  split at h
  ·rename_i hk;cases i<;>first|exact h.elim|skip
   exact⟨_,h.2,λK' k=>by simp only[Hb];exact(Ab _ _ _).2 ⟨y,hy,by simp only[hk];exact⟨h.1,k⟩⟩⟩
  ·exact h.elim
 ·simp only[Hb]at h;replace h:=(Ab _ _ _).1 h;obtain⟨y,hy,h⟩:=h
  split at h
  ·rename_i n sz ag hk;split at h
   ·rename_i hb;cases i<;>first|exact h.elim|skip
    obtain⟨h1,v,hv,h2⟩:=h;exact⟨v,h2,λK' k=>by simp only[Hb];exact(Ab _ _ _).2 ⟨y,hy,by simp only[hk,hb];exact⟨h1,v,hv,k⟩⟩⟩
   ·rename_i hb;split at h
    ·rename_i GA;cases i<;>first|exact h.elim|skip
     exact⟨_,h.2,λK' k=>by simp only[Hb];exact(Ab _ _ _).2 ⟨y,hy,by simp only[hk,hb,GA];exact⟨h.1,k⟩⟩⟩
    ·exact h.elim
  ·exact h.elim
theorem RQ{T:List TY}{t:TypeId}{x:AV}{f:Nat}{K:AV→Prop}(h:DP T t x f K):Jk (DP T t x f) K:=by
 unfold DP at h;replace h:=(Ab _ _ _).1 h;obtain⟨y,hy,h⟩:=h
 split at h
 ·rename_i fs hk;replace h:=(Ab _ _ _).1 h;obtain⟨⟨off,size,ag⟩,hf,h⟩:=h
  cases size with
  |zero=>exact h.elim
  |succ n=>
   have fin:∀K':AV→Prop,(match (generalizing:=false) x with|.at_ cs=>HG cs off λcs=>K' (.at_ cs)|.ptr l o=>K' (.ptr l (o+off))|.el l sz i o=>K' (.el l sz i (o+off))|.raw v=>(match (generalizing:=false) v with|.pointer p=>(match (generalizing:=false) p with|some ⟨b,o,none⟩=>K' (.raw (.pointer (some ⟨b,o+off,none⟩)))|_=>False)|_=>False)|_=>False)→DP T t x f K':=λK' k=>by
    unfold DP;exact(Ab _ _ _).2 ⟨y,hy,by simp only[hk];exact(Ab _ _ _).2 ⟨_,hf,by simp only;exact k⟩⟩
   cases x with
   |at_ cs=>
    simp only at h;rw[BK]at h;exact⟨_,h,λK' k=>fin K' (by simp only;rw[BK];exact k)⟩
   |ptr l o=>exact⟨_,h,λK' k=>fin K' k⟩
   |el l sz i o=>exact⟨_,h,λK' k=>fin K' k⟩
   |raw v=>
    simp only at h;split at h;case h_2=>exact h.elim
    split at h;case h_2=>exact h.elim
    exact⟨_,h,λK' k=>fin K' k⟩
   |_=>exact h.elim
 ·exact h.elim
theorem aG{T:List TY}{t:TypeId}{x:AV}{f:Nat}{K:AV→Prop}(h:Kv T t x f K):Jk (Kv T t x f) K:=by
 unfold Kv at h;replace h:=(Ab _ _ _).1 h;obtain⟨y,hy,h⟩:=h
 split at h
 ·rename_i fs hk;replace h:=(Ab _ _ _).1 h;obtain⟨⟨off,size,ag⟩,hf,h⟩:=h
  cases x<;>first|exact h.elim|skip
  rename_i cs;simp only at h;rw[BK]at h
  have fin:∀K':AV→Prop,(match (generalizing:=false) ag with|true=>Pd (cs.drop off) size λcs=>K' (.agg cs)|false=>match (generalizing:=false) size with|0=>False|_+1=>match (generalizing:=false) cs.drop off with|c::_=>c.force K'|[]=>False)→Kv T t (.agg cs) f K':=λK' k=>by
   unfold Kv;exact(Ab _ _ _).2 ⟨y,hy,by simp only[hk];exact(Ab _ _ _).2 ⟨_,hf,by simp only;rw[BK];exact k⟩⟩
  cases ag with
  |true=>
   simp only at h;obtain⟨hn,h⟩:=(Fh _ _ _).1 h;exact⟨_,h,λK' k=>fin K' ((Fh _ _ _).2 ⟨hn,k⟩)⟩
  |false=>
   simp only at h;cases size with
   |zero=>exact h.elim
   |succ n=>
    simp only at h fin;cases hd:cs.drop off with
    |nil=>rw[hd]at h;exact h.elim
    |cons c r=>
     rw[hd]at h;simp only[AV.AK]at h;exact⟨c,h,λK' k=>fin K' (by rw[hd];simpa only[AV.AK]using k)⟩
 ·exact h.elim
theorem oB{T:List TY}{t:TypeId}{x:AV}{K:AV→Prop}(h:TJ T t x K):Jk (TJ T t x) K:=by
 unfold TJ at h;replace h:=(Ab _ _ _).1 h;obtain⟨y,hy,h⟩:=h
 split at h
 ·rename_i hk;split at h;·exact⟨_,h,λK' k=>by unfold TJ;exact(Ab _ _ _).2 ⟨y,hy,by simp only[hk];exact k⟩⟩
  ·exact⟨_,h,λK' k=>by unfold TJ;exact(Ab _ _ _).2 ⟨y,hy,by simp only[hk];exact k⟩⟩
  ·exact⟨_,h,λK' k=>by unfold TJ;exact(Ab _ _ _).2 ⟨y,hy,by simp only[hk];exact k⟩⟩
  ·exact h.elim
 ·rename_i hk;split at h;·exact⟨_,h,λK' k=>by unfold TJ;exact(Ab _ _ _).2 ⟨y,hy,by simp only[hk];exact k⟩⟩
  ·exact h.elim
 ·exact h.elim
theorem iY{T:List TY}{s d:TypeId}{x:AV}{K:AV→Prop}(h:IG T s d x K):Jk (IG T s d x) K:=by
 cases x<;>first|exact h.elim|skip
 all_goals
  simp only[IG]at h;replace h:=(Ab _ _ _).1 h;obtain⟨y0,sG,h⟩:=h
  replace h:=(Ab _ _ _).1 h;obtain⟨y,hy,h⟩:=h
  split at h
  ·rename_i hk;exact⟨_,h,λK' k=>by simp only[IG];exact(Ab _ _ _).2 ⟨y0,sG,(Ab _ _ _).2 ⟨y,hy,by simp only[hk];exact k⟩⟩⟩
  ·first
    |exact h.elim
    |(rename_i hk
      exact⟨_,h.2,λK' k=>by simp only[IG];exact(Ab _ _ _).2 ⟨y0,sG,(Ab _ _ _).2 ⟨y,hy,by simp only[hk];exact⟨h.1,k⟩⟩⟩⟩)
  all_goals exact h.elim
theorem oA{a b:AV}{K:AV→Prop}(h:aP a b K):Jk (aP a b) K:=by
 unfold aP at h;split at h
 ·split at h
  ·split at h
   ·rename_i hk;exact⟨_,h,λK' k=>by simp only[aP,hk];exact k⟩
   ·exact h.elim
  ·exact h.elim
 ·exact h.elim
theorem Io{o:Option AV}{d:Int}{K:Int→Prop}(h:Na o d K):Jk (Na o d) K:=by
 cases o with
 |none=>exact⟨d,h,λK' k=>k⟩
 |some v=>cases v<;>first|(simp[Na]at h;done)|exact⟨_,h,λK' k=>k⟩
theorem aC{T:List TY}{t:TypeId}{x:AV}{lo hi:Option AV}{K:AV→Prop}(h:Dv T t x lo hi K):Jk (Dv T t x lo hi) K:=by
 cases x<;>first|exact h.elim|skip
 case str l=>
  simp only[Dv]at h;replace h:=(Ab _ _ _).1 h;obtain⟨y,hy,h⟩:=h
  split at h
  ·rename_i hk;obtain⟨a,h,ha⟩:=Io h;obtain⟨b,h,hb⟩:=Io h;exact⟨_,h.2,λK' k=>by simp only[Dv];exact(Ab _ _ _).2 ⟨y,hy,by simp only[hk];exact ha _ (hb _ ⟨h.1,k⟩)⟩⟩
  ·exact h.elim
 case sl sz es=>
  simp only[Dv]at h;replace h:=(Ab _ _ _).1 h;obtain⟨y,hy,h⟩:=h
  split at h
  ·rename_i hk;split at h
   ·rename_i hz;obtain⟨a,h,ha⟩:=Io h;obtain⟨b,h,hb⟩:=Io h;exact⟨_,h.2,λK' k=>by simp only[Dv];exact(Ab _ _ _).2 ⟨y,hy,by simp only[hk,hz];exact ha _ (hb _ ⟨h.1,k⟩)⟩⟩
   ·exact h.elim
  ·exact h.elim
 case own l sz p n=>
  simp only[Dv]at h;replace h:=(Ab _ _ _).1 h;obtain⟨y,hy,h⟩:=h
  split at h
  ·rename_i hk;split at h
   ·rename_i hz;obtain⟨a,h,ha⟩:=Io h;obtain⟨b,h,hb⟩:=Io h;exact⟨_,h.2,λK' k=>by simp only[Dv];exact(Ab _ _ _).2 ⟨y,hy,by simp only[hk,hz];exact ha _ (hb _ ⟨h.1,k⟩)⟩⟩
   ·exact h.elim
  ·exact h.elim
def Y2(E E':List AV)(o:Op):Prop:=∀x∈o.operands,AM E' x=AM E x
theorem aB{T:List TY}{e:TypeId}{K:AV→Prop}(h:HN T e K):∃z,K z∧∀K':AV→Prop,K' z→HN T e K':=by
 unfold HN at h;replace h:=(Ab _ _ _).1 h;obtain⟨y,hy,h⟩:=h
 split at h
 ·rename_i ha;split at h;·exact h.elim
  ·rename_i z zs hz;exact⟨_,h,λK' k=>by unfold HN;exact(Ab _ _ _).2 ⟨y,hy,by simp only[ha,hz];exact k⟩⟩
 ·rename_i ha;split at h
  ·rename_i z hz;rw[AV.AK]at h;exact⟨_,h,λK' k=>by unfold HN;exact(Ab _ _ _).2 ⟨y,hy,by simp only[ha,hz];rw[AV.AK];exact k⟩⟩
  ·exact h.elim
theorem aD{H:List HO}{x:AV}{K:List AV→List AV→Prop}(h:Mj H x K):∃ks vs,K ks vs∧∀H',T2 x H H'→∀K':List AV→List AV→Prop,K' ks vs→Mj H' x K':=by
 unfold Mj at h;split at h;·exact⟨_,_,h,λH' _ K' k=>k⟩
 ·replace h:=(Ab _ _ _).1 h;obtain⟨ob,Ba,h⟩:=h
  cases ob<;>first|exact h.elim|skip
  exact⟨_,_,h,λH' hu K' k=>(Ab _ _ _).2 ⟨_,hu _ _ (by simp[C8]) Ba,k⟩⟩
 ·exact h.elim
theorem Xx{T:List TY}{H:List HO}{t:TypeId}{x k:AV}{ok:Bool}{K:AV→Prop}(h:Hw T H t x k ok K):∃r,K r∧∀H',T2 x H H'→∀K':AV→Prop,K' r→Hw T H' t x k ok K':=by
 unfold Hw at h;replace h:=(Ab _ _ _).1 h;obtain⟨y,hy,h⟩:=h
 split at h
 ·rename_i kt vt hk;replace h:=(Ab _ _ _).1 h;obtain⟨yk,V5,h⟩:=h
  split at h
  ·rename_i ho;obtain⟨ks,vs,⟨hl,hn,hs⟩,hm⟩:=aD h
   have up:∀(r:AV)(H':List HO),T2 x H H'→∀K':AV→Prop,((OG k ks vs=none→HN T vt λz=>(match (generalizing:=false) ok with|true=>K' (.tuple [z,.lit false])|false=>z.force K'))∧
      ∀v,OG k ks vs=some v→(match (generalizing:=false) ok with|true=>K' (.tuple [v,.lit true])|false=>K' v))→Hw T H' t x k ok K':=λr H' hu K' q=>by
    unfold Hw;exact(Ab _ _ _).2 ⟨y,hy,by simp only[hk];exact(Ab _ _ _).2 ⟨yk,V5,by simp only[ho];exact hm H' hu _ ⟨hl,q⟩⟩⟩
   cases hg:OG k ks vs with
   |none=>
    obtain⟨z,hz,Qv⟩:=aB (hn hg);cases ok with
    |true=>exact⟨_,hz,λH' hu K' q=>up .any H' hu K' ⟨λ_=>Qv _ q,λv e=>(by rw[hg]at e;cases e)⟩⟩
    |false=>
     simp only[AV.AK]at hz;exact⟨_,hz,λH' hu K' q=>up .any H' hu K' ⟨λ_=>Qv _ (by simp only[AV.AK];exact q),λv e=>(by rw[hg]at e;cases e)⟩⟩
   |some v=>
    have hv:=hs v hg;cases ok with
    |true=>exact⟨_,hv,λH' hu K' q=>up .any H' hu K' ⟨λe=>(by rw[hg]at e;cases e),λu e=>(by rw[hg]at e;cases e;exact q)⟩⟩
    |false=>exact⟨_,hv,λH' hu K' q=>up .any H' hu K' ⟨λe=>(by rw[hg]at e;cases e),λu e=>(by rw[hg]at e;cases e;exact q)⟩⟩
  ·exact h.elim
 ·exact h.elim
theorem GG{T:List TY}{E:List AV}{H:List HO}{o:Op}{K:AV→Prop}(h:Bg T E H o K):∃r,K r∧∀E' H',Y2 E E' o→Y0 E o H H'→∀K':AV→Prop,K' r→Bg T E' H' o K':=by
 unfold Bg at h;split at h;case h_1 x=>rw[Af]at h;exact⟨_,h,λE' H' ha _ K' k=>by unfold Bg;simp only;rw[Af,ha x (by simp[Ao])];exact k⟩
 case h_2 x=>rw[Af]at h;exact⟨_,h,λE' H' ha _ K' k=>by unfold Bg;simp only;rw[Af,ha x (by simp[Ao])];exact k⟩
 case h_3 c x y=>
  rw[Af]at h;split at h
  ·rename_i t hb;cases t with
   |true=>simp only at h;rw[Af]at h;exact⟨_,h,λE' H' ha _ K' k=>by unfold Bg;simp only;rw[Af,ha c (by simp[Ao]),hb];simp only;rw[Af,ha x (by simp[Ao])];exact k⟩
   |false=>simp only at h;rw[Af]at h;exact⟨_,h,λE' H' ha _ K' k=>by unfold Bg;simp only;rw[Af,ha c (by simp[Ao]),hb];simp only;rw[Af,ha y (by simp[Ao])];exact k⟩
  ·exact h.elim
 case h_4 op t x y ty=>
  rw[Af,Af]at h;obtain⟨r,h1,h2⟩:=nZ h;exact⟨r,h1,λE' H' ha _ K' k=>by unfold Bg;simp only;rw[Af,Af,ha x (by simp[Ao]),ha y (by simp[Ao])];exact h2 K' k⟩
 case h_5 op t x=>
  rw[Af]at h;obtain⟨r,h1,h2⟩:=tY h;exact⟨r,h1,λE' H' ha _ K' k=>by unfold Bg;simp only;rw[Af,ha x (by simp[Ao])];exact h2 K' k⟩
 case h_6 t x=>
  rw[Af]at h;obtain⟨r,h1,h2⟩:=iW h;exact⟨r,h1,λE' H' ha hl K' k=>by unfold Bg;simp only;rw[Af,ha x (by simp[Ao])];exact h2 H' (hl x (by simp[Ao])) K' k⟩
 case h_7 t x f=>
  rw[Af]at h;obtain⟨r,h1,h2⟩:=RQ h;exact⟨r,h1,λE' H' ha hl K' k=>by unfold Bg;simp only;rw[Af,ha x (by simp[Ao])];exact h2 K' k⟩
 case h_8 t x f=>
  rw[Af]at h;obtain⟨r,h1,h2⟩:=aG h;exact⟨r,h1,λE' H' ha hl K' k=>by unfold Bg;simp only;rw[Af,ha x (by simp[Ao])];exact h2 K' k⟩
 case h_9 t x i=>
  rw[Af,Af]at h;obtain⟨r,h1,h2⟩:=RO h;exact⟨r,h1,λE' H' ha hl K' k=>by unfold Bg;simp only;rw[Af,Af,ha x (by simp[Ao]),ha i (by simp[Ao])];exact h2 H' (hl x (by simp[Ao])) K' k⟩
 case h_10 t x i=>
  rw[Af,Af]at h;obtain⟨r,h1,h2⟩:=aF h;exact⟨r,h1,λE' H' ha hl K' k=>by unfold Bg;simp only;rw[Af,Af,ha x (by simp[Ao]),ha i (by simp[Ao])];exact h2 K' k⟩
 case h_11 s d x=>
  rw[Af]at h;obtain⟨r,h1,h2⟩:=iY h;exact⟨r,h1,λE' H' ha hl K' k=>by unfold Bg;simp only;rw[Af,ha x (by simp[Ao])];exact h2 K' k⟩
 case h_12 x i=>
  rw[Af]at h;split at h
  ·rename_i vs hb;replace h:=(Ab _ _ _).1 h;obtain⟨v,hv,h⟩:=h
   rw[AV.AK]at h;exact⟨v,h,λE' H' ha hl K' k=>by unfold Bg;simp only;rw[Af,ha x (by simp[Ao]),hb];exact(Ab _ _ _).2 ⟨v,hv,by rw[AV.AK];exact k⟩⟩
  ·exact h.elim
 case h_13 x=>
  rw[Af]at h
  have fin:∀E' H',Y2 E E' (.nilCheck x)→∀K':AV→Prop,(match (generalizing:=false) AM E x with|.at_ cs=>K' (.at_ cs)|.ptr l o=>K' (.ptr l o)|.el l sz i o=>K' (.el l sz i o)|.fn f cap=>K' (.fn f cap)|.mv f cap=>K' (.mv f cap)|.raw v=>(match (generalizing:=false) v with|.pointer p=>(match (generalizing:=false) p with|some a=>K' (.raw (.pointer (some a)))|_=>False)|_=>False)|_=>False)→Bg T E' H' (.nilCheck x) K':=λE' H' ha K' k=>by
   unfold Bg;simp only;rw[Af,ha x (by simp[Ao])];exact k
  generalize jZ:AM E x=ex at h fin;cases ex with
  |raw v=>
   simp only at h;split at h;case h_2=>exact h.elim
   split at h;case h_2=>exact h.elim
   exact⟨_,h,λE' H' ha hl K' k=>fin E' H' ha K' k⟩
  |_=>first|exact h.elim|exact⟨_,h,λE' H' ha hl K' k=>fin E' H' ha K' k⟩
 case h_14 fn first cap=>
  split at h
  ·rename_i f;split at h
   ·rename_i hf;rw[C9 (Dc E) (AM E) (Af E)]at h;refine⟨_,h,λE' H' ha hl K' k=>?_⟩
    unfold Bg;simp only[hf];rw[C9 (Dc E') (AM E') (Af E')];have:cap.toList.map (AM E')=cap.toList.map (AM E):=E4 λx hx=>ha x (by simp[Ao];exact .inr (by simpa using hx))
    rw[this];exact k
   ·rename_i hf;split at h
    ·rename_i hc;rw[C9 (Dc E) (AM E) (Af E)]at h;refine⟨_,h,λE' H' ha hl K' k=>?_⟩
     unfold Bg;simp only[hf,hc];rw[←hf,C9 (Dc E') (AM E') (Af E')];have:first.toList.map (AM E')=first.toList.map (AM E):=E4 λx hx=>ha x (by simp[Ao];exact .inl (by simpa using hx))
     rw[this];exact k
    ·exact h.elim
  ·exact h.elim
 case h_15 t x=>
  rw[Af]at h;replace h:=(Ab _ _ _).1 h;obtain⟨y,hy,h⟩:=h
  have hK:K (.iface t (AM E x))∧y.k≠.iface:=by
   split at h;·exact h.elim
   ·rename_i Bu;exact⟨h,Bu⟩
  exact⟨_,hK.1,λE' H' ha hl K' k=>by
   unfold Bg;simp only
   rw[Af,ha x (by simp[Ao])]
   refine(Ab _ _ _).2 ⟨y,hy,?_⟩;split;·rename_i hk;exact absurd hk hK.2
   ·exact k⟩
 case h_16 t x lo hi mx=>
  split at h
  ·rw[Af]at h
   have fin:∀E' H',Y2 E E' (.slice t x lo hi none)→∀K':AV→Prop,Dv T t (AM E x) (lo.map (AM E)) (hi.map (AM E)) K'→Bg T E' H' (.slice t x lo hi none) K':=λE' H' ha K' k=>by
    unfold Bg;simp only
    rw[Af,ha x (by simp[Ao])]
    cases lo with
    |none=>
     cases hi with
     |none=>exact k
     |some q=>simp only;rw[Af,ha q (by simp[Ao])];exact k
    |some p=>
     cases hi with
     |none=>simp only;rw[Af,ha p (by simp[Ao])];exact k
     |some q=>simp only;rw[Af,Af,ha q (by simp[Ao]),ha p (by simp[Ao])];exact k
   have h':Dv T t (AM E x) (lo.map (AM E)) (hi.map (AM E)) K:=by
    cases lo with
    |none=>
     cases hi with
     |none=>exact h
     |some q=>simp only at h;rw[Af]at h;exact h
    |some p=>
     cases hi with
     |none=>simp only at h;rw[Af]at h;exact h
     |some q=>simp only at h;rw[Af,Af]at h;exact h
   obtain⟨r,h1,h2⟩:=aC h';exact⟨r,h1,λE' H' ha hl K' k=>fin E' H' ha K' (h2 K' k)⟩
  ·exact h.elim
 case h_17 c=>
  split at h
  ·rename_i hc;split at h
   ·rename_i x hx;split at h
    ·rename_i t ht;rw[Af]at h;obtain⟨r,h1,h2⟩:=oB h;refine⟨r,h1,λE' H' ha hl K' k=>?_⟩
     unfold Bg;simp only[hc,hx,ht];have:c.args=#[x]:=by cases hca:c.args;simp_all
     rw[Af,ha x (by simp[Ao,Call.operands,hc,this])];exact h2 K' k
    ·exact h.elim
   ·exact h.elim
  ·rename_i hc;split at h
   ·rename_i x y hx;rw[Af,Af]at h;obtain⟨r,h1,h2⟩:=oA h;refine⟨r,h1,λE' H' ha hl K' k=>?_⟩
    unfold Bg;simp only[hc,hx];have:c.args=#[x,y]:=by cases hca:c.args;simp_all
    rw[Af,Af,ha x (by simp[Ao,Call.operands,hc,this]),ha y (by simp[Ao,Call.operands,hc,this])];exact h2 K' k
   ·exact h.elim
  ·exact h.elim
 case h_18 t x i ok=>
  rw[Af,Af]at h;obtain⟨r,h1,h2⟩:=Xx h;exact⟨r,h1,λE' H' ha hl K' k=>by unfold Bg;simp only;rw[Af,Af,ha x (by simp[Ao]),ha i (by simp[Ao])];exact h2 H' (hl x (by simp[Ao])) K' k⟩
 case h_19=>exact h.elim
end Go.Av
namespace Go.Av
open Go.RowKit (Below)
def Df(w:World):Ag:=λb _=>b<w.heap.size
def Np:AV→Bool
 |.int _ _=>true
 |_=>false
def Sk:AV→Bool
 |.int _ _=>true
 |.bool _=>true
 |.sl _ es=>es.all λe=>e.cells.all Np
 |_=>false
def jQ:AV→Bool
 |.agg cs=>cs.all Sk
 |x=>Sk x
def OC:AV→Bool
 |.str _=>true
 |.sl _ _=>true
 |_=>false
def UJ(e:AV):Bool:=e.cells.all OC
def uY(C:Ag)(w:World):Ag:=λb o=>C b o∧∃k n,w.cell? ⟨b,o,none⟩=some (.int k n)
def xN:AV→AV→Bool
 |.own _ _ _ _,.sl _ es=>es.all UJ
 |.lit _,_=>true
 |.raw (.slice none 0 0),_=>true
 |a,_=>closed a
def Sc:List AV→List AV→Bool
 |[],[]=>true
 |a::as,b::bs=>xN a b&&Sc as bs
 |_,_=>false
def Sb(C:Ag)(H:List HO)(mu:Mu):Ag:=λb o=>C b o∨∃l e sz es g,H[l]?=some (.arr e sz es)∧(∀e∈es,UJ e=true)∧mu l=some g∧g.As=some b∧o<es.length*sz
section
variable {G:Cx}{C C2:Ag}{w w':World}{mu:Mu}{H:List HO}{E:List AV}{a:Act}{T:List TY}{P:Program}
theorem X6{x:AV}{v:Value}(hi:Sk x=true)(h:Aj C w x mu v):Aj (uY C w) w x mu v:=by
 cases x<;>first|(simp[Sk]at hi;done)|skip
 ·unfold Aj at*;exact h
 ·unfold Aj at*;exact h
 ·rename_i sz es;unfold Sk at hi;unfold Aj at*;rcases h with h|⟨b,o,cap,h1,h2,h3,h4⟩;·exact .inl h
  ·refine .inr ⟨b,o,cap,h1,h2,h3,(DJ es o).2 λi hl=>?_⟩
   obtain⟨k1,k2⟩:=(DJ es o).1 h4 i hl;refine⟨k1,(Co _ _).2 λj hj=>?_⟩
   obtain⟨u,q1,q2,q3⟩:=(Co _ _).1 k2 j hj;have hc:=D5.1 (D5.1 hi es[i] (C1 hl)) es[i].cells[j] (C1 hj);generalize es[i].cells[j]=c at q3 hc⊢;cases c<;>first|(simp[Np]at hc;done)|skip
   rename_i k n;have q4:=q3;unfold Aj at q4;obtain⟨rfl,_⟩:=q4;exact⟨_,q1,⟨⟨q2.1,k,n,q2.2⟩,q2.2⟩,by unfold Aj at*;exact q3⟩
theorem UU:∀{xs:List AV}{vs:List Value},xs.all Sk=true→Aa C w xs mu vs→Aa (uY C w) w xs mu vs
 |[],_,_,h=>by unfold Aa at*;exact h
 |x::xs,_,hi,h=>by
  rw[List.all_cons,Bv]at hi;unfold Aa at*;obtain⟨v,BV,h1,h2,h3⟩:=h;exact⟨v,BV,h1,X6 hi.1 h2,UU hi.2 h3⟩
theorem uX{x:AV}{v:Value}(hi:jQ x=true)(h:Aj C w x mu v):Aj (uY C w) w x mu v:=by
 unfold jQ at hi;split at hi
 ·unfold Aj at*;obtain⟨vs,h1,h2⟩:=h;exact⟨vs,h1,UU hi h2⟩
 ·exact X6 hi h
theorem iK{fr:Nat→Prop}(hh:AX C w fr mu H)(hx:Ext C C2 w w){l:Nat}{e:TypeId}{sz:Nat}{es:List AV}(hB:∀g b o,mu l=some g→g.As=some b→o<es.length*sz→C2 b o)(hl:H[l]?=some (.arr e sz es))(hc:∀e∈es,closed e=true){u:Value}
  (hu:Aj C w (.own l sz 0 es.length) mu u):Aj C2 w (.sl sz es) Mu.none u:=by
 unfold Aj at hu⊢;obtain⟨x,hm,hle,MA,rfl⟩:=hu;obtain⟨hz,h2⟩:=hh.BJ l e sz es hl;rcases h2 with⟨h2,rfl⟩|⟨b,cap,cur,h3,⟨fz,h4,Nu⟩,h5,h6,h7,h8,h9⟩
 ·rw[hm]at h2;simp only[C3.injEq,GO.arr.injEq]at h2;subst h2;exact .inl ⟨⟨_,rfl⟩,rfl⟩
 ·rw[hm]at h3;simp only[C3.injEq,GO.arr.injEq]at h3;subst h3;refine .inr ⟨b,0,cap,by simp[BP],h5,h6,(DJ es 0).2 λi hi=>⟨hz _ (C1 hi),(Co _ _).2 λj hj=>?_⟩⟩
  have hei:es[i]?=some es[i]:=D6 hi;obtain⟨r,hr⟩:=GL es hz i _ hei;have N0:=(AI _).1 h8;have Eh:=hz _ (C1 hi);have JF:=BA es hz;have hmul:(i+1)*sz≤es.length*sz:=E0 _ hi;rw[Nat.add_mul]at hmul;have UY:es.length*sz≤cap*sz:=E0 _ h5;have IJ:cur.toList.length=cap*sz:=by simpa using h7
  have hk:i*sz+j<(flat es).length:=by omega
  have Hc:i*sz+j<(cur.toList.take (es.length*sz)).length:=by rw[N0.1];exact hk
  have EX:=N0.2 (i*sz+j) hk Hc
  have U3:(flat es)[i*sz+j]=es[i].cells[j]:=by
   have e1:((flat es).drop (i*sz))[j]?=(es[i].cells++r)[j]?:=by rw[hr]
   rw[List.getElem?_drop,D6 hk,C4 hj,D6 hj]at e1;simpa using e1
  rw[U3]at EX
  have qG:closed es[i].cells[j]=true:=by
   have:=hc _ (C1 hi);generalize es[i]=q at this hj⊢;cases q with
   |agg cs=>
    unfold closed at this
    have key:∀(cs:List AV),Ap cs=true→∀j (hj:j<cs.length),closed cs[j]=true:=by
     intro cs;induction cs with
     |nil=>intro _ j hj;simp at hj
     |cons c cs ih=>
      intro h j hj;unfold Ap at h;simp only[Bv]at h;cases j with
      |zero=>exact h.1
      |succ j=>exact ih h.2 j (by simpa using hj)
    exact key cs this j hj
   |_=>
    simp only[AV.cells,Ix,List.length_nil]at hj;obtain rfl:j=0:=by omega
    exact this
  have AR:i*sz+j<cur.toList.length:=by omega
  have fF:(cur.toList.take (es.length*sz))[i*sz+j]=cur.toList[i*sz+j]:=by simp
  refine⟨cur.toList[i*sz+j],h9 _ (C1 AR),⟨hB _ _ _ hm rfl (by omega),?_⟩,?_⟩
  ·rw[show 0+i*sz+j=i*sz+j by omega,cell_of_row w b _ cur e _ h4]
   simp at AR⊢
  ·rw[fF]at EX;exact Aj.mono hx _ (Ay.refl _) (A6 _ qG EX)
theorem ZP{fr:Nat→Prop}(hh:AX C w fr mu H){l:Nat}{e:TypeId}{sz:Nat}{es:List AV}(hl:H[l]?=some (.arr e sz es))(hn:∀e∈es,UJ e=true){g:GO}{b o:Nat}(hm:mu l=some g)(hb:g.As=some b)(ho:o<es.length*sz){k:IntKind}{n:Int}(hv:w.cell? ⟨b,o,none⟩=some (.int k n)):False:=by
 obtain⟨hz,h2⟩:=hh.BJ l e sz es hl;rcases h2 with⟨h2,rfl⟩|⟨b',cap,cur,h3,⟨fz,h4,Nu⟩,h5,h6,h7,h8,h9⟩;·simp at ho
 ·rw[hm]at h3;cases h3;obtain rfl:b'=b:=by simpa[GO.As]using hb
  have N0:=(AI _).1 h8;have JF:=BA es hz;have UY:es.length*sz≤cap*sz:=E0 _ h5;have IJ:cur.toList.length=cap*sz:=by simpa using h7
  have hk:o<(flat es).length:=by omega
  have Hc:o<(cur.toList.take (es.length*sz)).length:=by rw[N0.1];exact hk
  have EX:=N0.2 o hk Hc;have AR:o<cur.toList.length:=by omega
  have fF:(cur.toList.take (es.length*sz))[o]=cur.toList[o]:=by simp
  rw[fF]at EX
  have Ep:w.cell? ⟨b',o,none⟩=some cur.toList[o]:=by
   rw[cell_of_row w b' _ cur e _ h4];simp at AR⊢
  rw[Ep]at hv;rw[C3.inj hv]at EX
  have hc:OC (flat es)[o]=true:=by
   have Nr:(flat es)[o]∈flat es:=C1 hk;unfold flat at Nr;obtain⟨x,hx,Nr⟩:=List.mem_flatMap.1 Nr;exact D5.1 (hn x hx) _ Nr
  generalize (flat es)[o]=c at EX hc;cases c<;>first|(simp[OC]at hc;done)|skip
  ·unfold Aj at EX;cases EX.1
  ·unfold Aj at EX;rcases EX with⟨⟨_,h⟩,_⟩|⟨_,_,_,h,_⟩<;>cases h
theorem sX(h:Az G C mu E H a w){x:AV}{u:Value}(hx:Aj C w x mu u){R:AV→Prop}(hk:CT H x R):∃r,R r∧Aj (Df w) w r Mu.none u:=
 Vf h ⟨λb o hc=>h.lt b o hc,λ_ _ _=>rfl⟩ (λl g b o hm hb=>(h.heap.fresh l g b hm hb).2.1) hx hk
theorem MF(h:Az G C mu E H a w):Zh (Df w) w:=h.Ze.mono ⟨λb o hc=>h.lt b o hc,λ_ _ _=>rfl⟩ λ_ _ h=>h
theorem KC:∀{xs:List AV}{R:List AV→Prop},Ap xs=true→FK H xs R→∃rs,R rs∧∀{C:Ag}{w:World}{mu:Mu}{us:List Value},Aa C w xs mu us→Aa C w rs Mu.none us
 |[],R,_,hk=>⟨[],hk,λh=>by unfold Aa at*;exact h⟩
 |x::xs,R,hc,hk=>by
  unfold FK at hk;unfold Ap at hc;simp only[Bv]at hc
  have one:∀{Q:AV→Prop},CT H x Q→∃r,Q r∧∀{C:Ag}{w:World}{mu:Mu}{u:Value},Aj C w x mu u→Aj C w r Mu.none u:=by
   intro Q hk;unfold CT at hk;split at hk;·simp[closed]at hc
   ·obtain⟨sz,hk⟩:=hk;exact⟨_,hk,λh=>by unfold Aj at*;exact .inl ⟨⟨_,h⟩,rfl⟩⟩
   ·exact⟨_,hk,λh=>by unfold Aj at*;exact h⟩
   ·simp[closed]at hc
   ·split at hk
    ·rename_i qG;rw[AV.AK]at hk;exact⟨_,hk,λh=>A6 _ qG h⟩
    ·exact hk.elim
  obtain⟨r,hk,hr⟩:=one hk;obtain⟨rs,hk,HV⟩:=KC hc.2 hk
  exact⟨r::rs,hk,λh=>by
   unfold Aa at h⊢;obtain⟨v,BV,h1,h2,h3⟩:=h;exact⟨v,BV,h1,hr h2,HV h3⟩⟩
theorem gR(h:Az G C mu E H a w){x:AV}{u:Value}(hx:Aj C w x mu u){R:AV→Prop}(hk:CT H x R):∃r,R r∧Aj (Df w) w r Mu.none u∧(xN x r=true→Aj (Sb C H mu) w r Mu.none u):=by
 have hw:Ext C (Df w) w w:=⟨λb o hc=>h.lt b o hc,λ_ _ _=>rfl⟩
 have hle:Ext C (Sb C H mu) w w:=⟨λb o hc=>.inl hc,λ_ _ _=>rfl⟩
 unfold CT at hk;split at hk
 ·rename_i l sz lo n;replace hk:=(Ab _ _ _).1 hk;obtain⟨ob,Ba,hk⟩:=hk
  cases ob<;>first|exact hk.elim|skip
  rename_i e BD es;simp only at hk;split at hk
  ·rename_i hb;simp only[Bv]at hb;obtain rfl:=AO hb.1;obtain rfl:=AO hb.2;obtain⟨⟨rfl,hc⟩,hk⟩:=hk;refine⟨_,hk,J0 h.heap hw (λg b o h1 h2=>(h.heap.fresh l g b h1 h2).2.1) Ba hc hx,λhn=>?_⟩
   have hn:∀e∈es,UJ e=true:=D5.1 hn;exact iK h.heap hle (λg b o h1 h2 h3=>.inr ⟨l,e,sz,es,g,Ba,hn,h1,h2,h3⟩) Ba hc hx
  ·exact hk.elim
 ·obtain⟨sz,hk⟩:=hk;exact⟨_,hk,by unfold Aj at*;exact .inl ⟨⟨_,hx⟩,rfl⟩,λ_=>by unfold Aj at*;exact .inl ⟨⟨_,hx⟩,rfl⟩⟩
 ·exact⟨_,hk,by unfold Aj at*;exact hx,λ_=>by unfold Aj at*;exact hx⟩
 ·obtain⟨r,q1,q2⟩:=sX h hx (by unfold CT;exact hk:CT H _ R)
  exact⟨r,q1,q2,λhn=>by cases hn⟩
 ·rename_i h1 h2 h3 h4;split at hk
  ·rename_i hc;rw[AV.AK]at hk;exact⟨_,hk,Aj.mono hw _ (Ay.refl _) (A6 _ hc hx),λ_=>Aj.mono hle _ (Ay.refl _) (A6 _ hc hx)⟩
  ·exact hk.elim
theorem Q2(h:Az G C mu E H a w):∀{xs:List AV}{us:List Value},Aa C w xs mu us→∀{R:List AV→Prop},FK H xs R→∃rs,R rs∧Aa (Df w) w rs Mu.none us∧(Sc xs rs=true→Aa (Sb C H mu) w rs Mu.none us)
 |[],us,hx,R,hk=>⟨[],hk,by unfold Aa at*;exact hx,λ_=>by unfold Aa at*;exact hx⟩
 |x::xs,us,hx,R,hk=>by
  unfold FK at hk;unfold Aa at hx;obtain⟨v,BV,rfl,h2,h3⟩:=hx;obtain⟨r,hk,hr,hl⟩:=gR h h2 hk;obtain⟨rs,hk,HV,sM⟩:=Q2 h h3 hk;refine⟨r::rs,hk,by unfold Aa;exact⟨v,BV,rfl,hr,HV⟩,λhn=>?_⟩
  unfold Sc at hn;rw[Bv]at hn;unfold Aa;exact⟨v,BV,rfl,hl hn.1,sM hn.2⟩
def JP(P:Program)(f:FuncId)(H:List HO)(as:List AV)(K:AV→Prop):Prop:=
 FK H as λas'=>∃v,(Aw P f as' (λr=>r=v)∧(Ap as||Bi v||(Sc as as'&&jQ v))=true)∧K v
theorem mF{f:FuncId}{as:List AV}{K:AV→Prop}(hP:G.P=P)(Ah:Az G C mu E H a w)(hk:JP P f H as K){us:List Value}(hu:Aa C w as mu us):
  B5 P f=true∧∃r,K r∧Calls P f us.toArray w λe w'=>∃v C',e=.returned v∧Az G C' mu E H a w'∧Aj C' w' r mu v:=by
 unfold JP at hk;by_cases hc:Ap as=true
 ·obtain⟨as',⟨v,⟨LF,_⟩,hk⟩,hr⟩:=KC hc hk;refine⟨LF.Ed,v,hk,(LF.out C w us Ah.Ze (hr hu)).mono λe w' ⟨r,u,h1,h2,h3,h4⟩=>?_⟩
  subst h2;exact⟨u,_,h1,Ah.below h3,Aj.mono (Ext.refl _ _) _ (Ay.none mu) h4⟩
 ·obtain⟨as',⟨v,⟨LF,hm⟩,hk⟩,hr,Zdd⟩:=Q2 Ah hu hk;have hm:Bi v=true∨(Sc as as'=true∧jQ v=true):=by simpa[hc]using hm
  rcases hm with hm|⟨hle,hi⟩
  ·refine⟨LF.Ed,v,hk,(LF.out (Df w) w us (MF Ah) hr).mono λe w' ⟨r,u,h1,h2,h3,h4⟩=>?_⟩
   subst h2;exact⟨u,_,h1,Ah.below h3,A9 _ hm h4⟩
  ·have hx:Ext C (Sb C H mu) w w:=⟨λ_ _ h=>.inl h,λ_ _ _=>rfl⟩
   have AR:∀b o,Sb C H mu b o→b<w.heap.size:=λb o hb=>hb.elim (Ah.lt b o) λ⟨l,_,_,_,g,_,_,h1,h2,_⟩=>(Ah.heap.fresh l g b h1 h2).2.1
   refine⟨LF.Ed,v,hk,(LF.out (Sb C H mu) w us (Ah.Ze.mono hx AR) (Zdd hle)).mono λe w' ⟨r,u,h1,h2,h3,h4⟩=>?_⟩
   subst h2;refine⟨u,Kc C w.heap.size w'.heap.size,h1,Ah.below h3,Aj.mono (C:=uY (Kc (Sb C H mu) w.heap.size w'.heap.size) w') ⟨λb o ⟨hb,k,n,Ep⟩=>?_,λ_ _ _=>rfl⟩ _ (Ay.none mu) (uX hi h4)⟩
   rcases hb with (hb|⟨l,_,sz,es,g,q0,hn,q1,q2,q3⟩)|hb;·exact .inl hb
   ·have PO:=(Ah.heap.fresh l g b q1 q2).2.1;rw[World.cell?_of_block (h3.block b PO)]at Ep;exact(ZP Ah.heap q0 hn q1 q2 q3 Ep).elim
   ·exact .inr hb
theorem Ak.oD{f:FuncId}{as:List AV}{K:AV→KK}{X:XX}(hk:JP P f H as λv=>K v E H)(hg:B5 P f=true):Ak P f as E H K X:=by
 refine⟨hg,λG C mu a w vs hP Ah hr=>?_⟩
 obtain⟨_,r,h1,h2⟩:=mF hP Ah hk hr;exact h2.mono λe w' ⟨v,C',h3,h4,h5⟩=>.inl ⟨r,v,E,H,C',mu,h3,h1,h4,h5⟩
theorem aH{x:AV}{K:AV→Prop}(h:CT H x K):∃r,K r∧∀H',T2 x H H'→∀K':AV→Prop,K' r→CT H' x K':=by
 unfold CT at h;split at h
 ·rename_i l sz lo n;replace h:=(Ab _ _ _).1 h;obtain⟨ob,Ba,h⟩:=h
  cases ob<;>first|exact h.elim|skip
  simp only at h;split at h
  ·rename_i hb;exact⟨_,h.2,λH' hu K' k=>by unfold CT;exact(Ab _ _ _).2 ⟨_,hu _ _ (by simp[C8]) Ba,by simp only[hb];exact⟨h.1,k⟩⟩⟩
  ·exact h.elim
 ·obtain⟨sz,h⟩:=h;exact⟨_,h,λH' hu K' k=>by unfold CT;exact⟨sz,k⟩⟩
 ·exact⟨_,h,λH' hu K' k=>by unfold CT;exact k⟩
 ·replace h:=(Ab _ _ _).1 h;obtain⟨ob,Ba,h⟩:=h
  cases ob<;>first|exact h.elim|skip
  exact⟨_,h,λH' hu K' k=>by unfold CT;exact(Ab _ _ _).2 ⟨_,hu _ _ (by simp[C8]) Ba,k⟩⟩
 ·rename_i h1 h2 h3 h4;split at h
  ·rename_i hc;rw[AV.AK]at h;refine⟨_,h,λH' hu K' k=>?_⟩
   unfold CT;split;·rename_i l sz lo n;exact absurd rfl (h1 l sz lo n)
   ·exact absurd rfl h2
   ·rename_i b;exact absurd rfl (h3 b)
   ·rename_i l;exact absurd rfl (h4 l)
   ·rw[hc];simpa only[AV.AK]using k
  ·exact h.elim
theorem Ka:∀{xs:List AV}{K:List AV→Prop},FK H xs K→∃r,K r∧∀H',(∀x∈xs,T2 x H H')→∀K':List AV→Prop,K' r→FK H' xs K'
 |[],K,h=>⟨[],h,λH' _ K' k=>k⟩
 |x::xs,K,h=>by
  unfold FK at h;obtain⟨r,h,hr⟩:=aH h;obtain⟨rs,h,HV⟩:=Ka h;exact⟨_,h,λH' hu K' k=>by unfold FK;exact hr H' (hu x (by simp)) _ (HV H' (λy hy=>hu y (by simp[hy])) _ k)⟩
theorem RM{f:FuncId}{as:List AV}{K:AV→Prop}(h:JP P f H as K):∃r,K r∧∀H',(∀x∈as,T2 x H H')→∀K':AV→Prop,K' r→JP P f H' as K':=by
 unfold JP at h;obtain⟨as',⟨v,h1,h⟩,h2⟩:=Ka h;exact⟨v,h,λH' hu K' k=>h2 H' hu _ ⟨v,h1,k⟩⟩
end
def El(ob:HO)(K:AV→Prop):Prop:=
 match ob with
 |.arr _ sz es=>(match Ap es with|true=>K (.sl sz es)|false=>False)
 |_=>False
theorem tZ{ob:HO}{K:AV→Prop}(h:El ob K):Jk (El ob) K:=by
 unfold El at h;split at h
 ·split at h
  ·rename_i hc;exact⟨_,h,λK' k=>by unfold El;simp only[hc];exact k⟩
  ·exact h.elim
 ·exact h.elim
def rK(P:Program)(T:List TY)(s:Nat)(E:List AV)(H:List HO)(o:Op)(K:AV→Option HO→Prop):Prop:=
 match o with
 |.box _ x=>Ws E x λob f=>K (f s) (some ob)
 |.alloc t=>Ji T t λob f=>K (f s) (some ob)
 |.build t parts=>Hi T E t parts.toList λv=>K v none
 |.buildSlice t n parts=>B6 H s λpl=>(match pl with
  |.dead=>BM T E t n parts.toList λob f=>K (f s) (some ob)
  |.ghost _ _ _=>BM T E t n parts.toList λob _=>El ob λv=>K v none
  |_=>False)
 |.makeSlice t l c=>Dk T E t l c λob f=>K (f s) (some ob)
 |.call c=>match c.callee with
  |.builtin .len=>Bg T E H (.call c) λv=>K v none
  |.builtin .min=>Bg T E H (.call c) λv=>K v none
  |.value f=>Dc E f λfv=>(match fv with
   |.fn f cap=>Gw (Dc E) c.args.toList λas=>YU as cap λas=>JP P f H as λv=>K v none
   |_=>False)
  |_=>False
 |o=>Bg T E H o λv=>K v none
section
variable {P:Program}{T:List TY}{E:List AV}{H:List HO}
theorem UI{x:Operand}{K:HO→(Nat→AV)→Prop}(h:Ws E x K):∃ob f,K ob f∧∀E',AM E' x=AM E x→∀K':HO→(Nat→AV)→Prop,K' ob f→Ws E' x K':=by
 unfold Ws at h;rw[Af,Am]at h;split at h
 ·rename_i hb;exact⟨_,_,h,λE' he K' k=>by unfold Ws;rw[Af,Am,he,hb];exact k⟩
 ·exact h.elim
theorem Pv{t:TypeId}{K:HO→(Nat→AV)→Prop}(h:Ji T t K):∃ob f,K ob f∧∀K':HO→(Nat→AV)→Prop,K' ob f→Ji T t K':=by
 unfold Ji at h;replace h:=(Ab _ _ _).1 h;obtain⟨y,hy,h⟩:=h
 split at h
 ·rename_i hb;exact⟨_,_,h,λK' k=>by unfold Ji;exact(Ab _ _ _).2 ⟨y,hy,by simp only[hb];exact k⟩⟩
 ·exact h.elim
theorem OB{fs:List (Nat×Nat×Bool)}:∀{parts:List (Nat×Operand)} {cells:List AV} {K:List AV→Prop},NC E fs parts cells K→
  ∃r,K r∧∀E',(∀p∈parts,AM E' p.2=AM E p.2)→∀K':List AV→Prop,K' r→NC E' fs parts cells K'
 |[],cells,K,h=>⟨_,h,λE' _ K' k=>k⟩
 |(i,x)::r,cells,K,h=>by
  unfold NC at h;replace h:=(Ab _ _ _).1 h;obtain⟨⟨off,size,ag⟩,hf,h⟩:=h
  simp only at h;rw[Af,Am]at h;split at h
  ·rename_i hb;rw[Cn]at h;obtain⟨rr,h,hr⟩:=OB h;refine⟨rr,h,λE' he K' k=>?_⟩
   unfold NC;refine(Ab _ _ _).2 ⟨_,hf,?_⟩;simp only;rw[Af,Am,he (i,x) (by simp),hb]
   simp only;rw[Cn];exact hr E' (λp hp=>he p (by simp[hp])) K' k
  ·exact h.elim
theorem RU{t:TypeId}{parts:List (Nat×Operand)}{K:AV→Prop}(h:Hi T E t parts K):∃r,K r∧∀E',(∀p∈parts,AM E' p.2=AM E p.2)→∀K':AV→Prop,K' r→Hi T E' t parts K':=by
 unfold Hi at h;replace h:=(Ab _ _ _).1 h;obtain⟨y,hy,h⟩:=h
 split at h
 ·rename_i fs hk;split at h
  ·rename_i hb;obtain⟨r,h,hr⟩:=OB h;exact⟨_,h,λE' he K' k=>by unfold Hi;exact(Ab _ _ _).2 ⟨y,hy,by simp only[hk,hb];exact hr E' he _ k⟩⟩
  ·exact h.elim
 ·rename_i n sz ag hk;split at h
  ·rename_i hb;obtain⟨r,h,hr⟩:=OB h;exact⟨_,h,λE' he K' k=>by unfold Hi;exact(Ab _ _ _).2 ⟨y,hy,by simp only[hk,hb];exact hr E' he _ k⟩⟩
  ·exact h.elim
 ·exact h.elim
theorem Fp{e:TypeId}{K:AV→Prop}(h:Ej T e K):Jk (Ej T e) K:=by
 unfold Ej at h;replace h:=(Ab _ _ _).1 h;obtain⟨y,hy,h⟩:=h
 split at h
 ·rename_i ha;exact⟨_,h,λK' k=>by unfold Ej;exact(Ab _ _ _).2 ⟨y,hy,by simp only[ha];exact k⟩⟩
 ·rename_i ha;split at h
  ·rename_i z hz;rw[AV.AK]at h;exact⟨_,h,λK' k=>by unfold Ej;exact(Ab _ _ _).2 ⟨y,hy,by simp only[ha,hz];rw[AV.AK];exact k⟩⟩
  ·exact h.elim
theorem Pu{sz:Nat}:∀{parts:List (Nat×Operand)} {es:List AV} {K:List AV→Prop},HF E sz parts es K→
  ∃r,K r∧∀E',(∀p∈parts,AM E' p.2=AM E p.2)→∀K':List AV→Prop,K' r→HF E' sz parts es K'
 |[],es,K,h=>⟨_,h,λE' _ K' k=>k⟩
 |(i,x)::r,es,K,h=>by
  unfold HF at h;rw[Af,Am]at h;split at h
  ·rename_i hb;rw[AD]at h;obtain⟨rr,h,hr⟩:=Pu h;refine⟨rr,h,λE' he K' k=>?_⟩
   unfold HF;rw[Af,Am,he (i,x) (by simp),hb]
   simp only;rw[AD];exact hr E' (λp hp=>he p (by simp[hp])) K' k
  ·exact h.elim
theorem F9{t:TypeId}{n:Nat}{parts:List (Nat×Operand)}{K:HO→(Nat→AV)→Prop}(h:BM T E t n parts K):
  ∃ob f,K ob f∧∀E',(∀p∈parts,AM E' p.2=AM E p.2)→∀K':HO→(Nat→AV)→Prop,K' ob f→BM T E' t n parts K':=by
 unfold BM at h;replace h:=(Ab _ _ _).1 h;obtain⟨y,hy,h⟩:=h
 split at h
 ·rename_i e Bh by' ag hk
  obtain⟨z,h,hz⟩:=Fp h;rw[Am]at h;split at h
  ·rename_i hb;rw[Dn]at h;obtain⟨r,h,hr⟩:=Pu h;exact⟨_,_,h,λE' he K' k=>by unfold BM;exact(Ab _ _ _).2 ⟨y,hy,by simp only[hk];exact hz _ (by rw[Am,hb];simp only;rw[Dn];exact hr E' he _ k)⟩⟩
  ·exact h.elim
 ·exact h.elim
theorem J9{t:TypeId}{ln cp:Operand}{K:HO→(Nat→AV)→Prop}(h:Dk T E t ln cp K):
  ∃ob f,K ob f∧∀E',AM E' ln=AM E ln→AM E' cp=AM E cp→∀K':HO→(Nat→AV)→Prop,K' ob f→Dk T E' t ln cp K':=by
 unfold Dk at h;replace h:=(Ab _ _ _).1 h;obtain⟨y,hy,h⟩:=h
 split at h
 ·rename_i e Bh by' ag hk
  obtain⟨z,h,hz⟩:=Fp h;rw[Am]at h;split at h
  ·rename_i hb;rw[Af,Af]at h;split at h
   ·rename_i n c e1 e2
    exact⟨_,_,h.2,λE' h1 h2 K' k=>by
     unfold Dk
     exact(Ab _ _ _).2 ⟨y,hy,by
      simp only[hk];refine hz _ ?_;rw[Am,hb];simp only;rw[Af,Af,h1,h2,e1,e2];exact⟨h.1,k⟩⟩⟩
   ·exact h.elim
  ·exact h.elim
 ·exact h.elim
theorem nY{s:Nat}{o:Op}{K:AV→Option HO→Prop}(h:rK P T s E H o K):∃r ob,K r ob∧∀E' H',Y2 E E' o→Y0 E o H H'→H'[s]?=H[s]?→∀K':AV→Option HO→Prop,K' r ob→rK P T s E' H' o K':=by
 unfold rK at h;split at h
 case h_1 t x=>
  obtain⟨ob,f,h,hf⟩:=UI h;exact⟨_,_,h,λE' H' ha _ _ K' k=>by unfold rK;exact hf E' (ha x (by simp[Ao])) _ k⟩
 case h_2 t=>
  obtain⟨ob,f,h,hf⟩:=Pv h;exact⟨_,_,h,λE' H' ha _ _ K' k=>by unfold rK;exact hf _ k⟩
 case h_3 t parts=>
  obtain⟨r,h,hr⟩:=RU h;exact⟨_,_,h,λE' H' ha _ _ K' k=>by unfold rK;exact hr E' (λp hp=>ha p.2 (by simp only[Ao];simp;exact⟨p.1,by simpa using hp⟩)) _ k⟩
 case h_4 t n parts=>
  replace h:=(Ab _ _ _).1 h;obtain⟨pl,Ye,h⟩:=h
  split at h
  ·obtain⟨ob,f,h,hr⟩:=F9 h;exact⟨_,_,h,λE' H' ha _ hs K' k=>by unfold rK;exact(Ab _ _ _).2 ⟨.dead,by rw[hs];exact Ye,hr E' (λp hp=>ha p.2 (by simp only[Ao];simp;exact⟨p.1,by simpa using hp⟩)) _ k⟩⟩
  ·rename_i cs vs ms;obtain⟨ob,f,h,hr⟩:=F9 h;obtain⟨v,h,hv⟩:=tZ h;exact⟨_,_,h,λE' H' ha _ hs K' k=>by unfold rK;exact(Ab _ _ _).2 ⟨.ghost cs vs ms,by rw[hs];exact Ye,hr E' (λp hp=>ha p.2 (by simp only[Ao];simp;exact⟨p.1,by simpa using hp⟩)) _ (hv _ k)⟩⟩
  ·exact h.elim
 case h_5 t l c=>
  obtain⟨ob,f,h,hr⟩:=J9 h;exact⟨_,_,h,λE' H' ha _ _ K' k=>by unfold rK;exact hr E' (ha l (by simp[Ao])) (ha c (by simp[Ao])) _ k⟩
 case h_6 c=>
  split at h
  ·rename_i hc;obtain⟨r,h1,h2⟩:=GG h;exact⟨_,_,h1,λE' H' ha hu _ K' k=>by unfold rK;simp only[hc];exact h2 E' H' ha hu _ k⟩
  ·rename_i hc;obtain⟨r,h1,h2⟩:=GG h;exact⟨_,_,h1,λE' H' ha hu _ K' k=>by unfold rK;simp only[hc];exact h2 E' H' ha hu _ k⟩
  ·rename_i f hc;rw[Af]at h;split at h
   ·rename_i fi cap WA;rw[C9 (Dc E) (AM E) (Af E),CO]at h;obtain⟨r,h1,h2⟩:=RM h;refine⟨_,_,h1,λE' H' ha hu _ K' k=>?_⟩
    have jU:f∈(Op.call c).operands:=by simp[Ao,Call.operands,hc]
    have ZcZ:∀x∈c.args.toList,x∈(Op.call c).operands:=λx hx=>by simp[Ao,Call.operands,hc];exact .inr (by simpa using hx)
    unfold rK;simp only[hc];rw[Af,ha f jU,WA];simp only;rw[C9 (Dc E') (AM E') (Af E'),CO];have hm:c.args.toList.map (AM E')=c.args.toList.map (AM E):=E4 λx hx=>ha x (ZcZ x hx)
    rw[hm];refine h2 H' (λx hx=>?_) _ k
    rcases List.mem_append.1 hx with hx|hx
    ·obtain⟨y,hy,rfl⟩:=List.mem_map.1 hx;exact hu y (ZcZ y hy)
    ·intro l ob hr hl;refine hu f jU l ob ?_ hl;rw[WA];unfold C8
     have key:∀(xs:List AV),x∈xs→Jr l xs=true:=by
      intro xs;induction xs with
      |nil=>intro h;cases h
      |cons y ys ih=>
       intro h;unfold Jr;rcases Hx.1 h with rfl|h;·rw[hr];rfl
       ·rw[ih h];simp
     exact key cap hx
   ·exact h.elim
  ·exact h.elim
 case h_7 h1 h2 h3 h4 h5 h6=>
  obtain⟨r,k1,k2⟩:=GG h;refine⟨_,_,k1,λE' H' ha hu _ K' k=>?_⟩
  unfold rK;split;·exact absurd rfl (h1 _ _)
  ·exact absurd rfl (h2 _)
  ·exact absurd rfl (h3 _ _)
  ·exact absurd rfl (h4 _ _ _)
  ·exact absurd rfl (h5 _ _ _)
  ·exact absurd rfl (h6 _)
  ·exact k2 E' H' ha hu _ k
end
def Py(v:AV)(K:AV→Prop):Prop:=
 match v with
 |.bool b=>(b=true→K (.lit true))∧(b=false→K (.lit false))
 |w=>K w
def Tn(ops:List Oper)(E:List AV)(g:Option (Nat×Bool))(Ky Kn:Prop):Prop:=
 match g with
 |none=>Ky
 |some (j,want)=>B6 ops j λoj=>match oj.dst with
  |some d=>B6 E d λv=>(match v with
   |.lit b=>(match b,want with
    |true,true=>Ky
    |false,false=>Ky
    |true,false=>Kn
    |false,true=>Kn)
   |.raw (.tuple ⟨[]⟩)=>Kn
   |_=>False)
  |none=>False
def Pg(H:List HO)(s:Nat)(ob:Option HO)(K:List HO→Prop):Prop:=
 match ob with
 |none=>K H
 |some ob=>B6 H s λo=>(match o with|.dead=>EK H s ob K|_=>False)
def BQ(H:List HO)(s:Nat)(ob:Option HO):List HO:=match ob with|none=>H|some ob=>H.set s ob
theorem N9(H:List HO)(s:Nat)(ob:Option HO)(K:List HO→Prop):Pg H s ob K↔(∀x,ob=some x→H[s]?=some .dead)∧K (BQ H s ob):=by
 cases ob with
 |none=>simp[Pg,BQ]
 |some ob=>
  simp only[Pg,BQ];rw[Ab];constructor
  ·rintro⟨o,ho,h⟩;cases o<;>first|exact h.elim|skip
   simp only at h;rw[AD]at h;exact⟨λ_ _=>ho,h⟩
  ·rintro⟨h1,h2⟩;exact⟨.dead,h1 ob rfl,by simp only;rw[AD];exact h2⟩
def Fa(P:Program)(T:List TY)(ops:List Oper)(n0 i:Nat)(o:Oper)(E:List AV)(H:List HO)(K:KK):Prop:=
 Tn ops E o.guard (rK P T (n0+i) E H o.op λv ob=>Py v λv=>Bx E o.dst v λE'=>Pg H (n0+i) ob λH'=>K E' H')
  (Bx E o.dst (.raw undef) λE'=>K E' H)
def A4:List Nat→Nat→Bool
 |[],_=>false
 |x::l,n=>match Cu x n with|true=>true|false=>A4 l n
def xH(P:Program)(T:List TY)(ops:List Oper)(n0:Nat)(we:List Nat):Nat→List Oper→List AV→List HO→KK→XX→Prop
 |_,[],E,H,K,_=>K E H
 |i,o::r,E,H,K,X=>match A4 we i with
  |false=>Fa P T ops n0 i o E H λE H=>xH P T ops n0 we (i+1) r E H K X
  |true=>Tn ops E o.guard (RJ none P T E H o.op (λv E' H'=>Py v λv=>Bx E' o.dst v λHp=>xH P T ops n0 we (i+1) r Hp H' K X) X)
    (Bx E o.dst (.raw undef) λE'=>xH P T ops n0 we (i+1) r E' H K X)
def Eg(ops:List Oper)(E E':List AV)(o:Oper):Prop:=Y2 E E' o.op∧∀j want oj d,o.guard=some (j,want)→ops[j]?=some oj→oj.dst=some d→E'[d]?=E[d]?
section
variable {P:Program}{T:List TY}{E:List AV}{H:List HO}{ops:List Oper}{n0 i:Nat}{o:Oper}
theorem Ht{v:AV}{K:AV→Prop}(h:Py v K):∃u,K u∧(∀K':AV→Prop,K' u→Py v K')∧(∀(C:Ag)(w:World)(mu:Mu)(z:Value),Aj C w v mu z→Aj C w u mu z)∧(∀b,u≠.bool b):=by
 unfold Py at h;split at h
 ·rename_i b;cases b with
  |true=>exact⟨.lit true,h.1 rfl,λK' k=>by unfold Py;exact⟨λ_=>k,λh=>by cases h⟩,λ_ _ _ _ h=>by unfold Aj at*;exact h,λ_ h=>by cases h⟩
  |false=>exact⟨.lit false,h.2 rfl,λK' k=>by unfold Py;exact⟨λh=>(by cases h),λ_=>k⟩,λ_ _ _ _ h=>by unfold Aj at*;exact h,λ_ h=>by cases h⟩
 ·rename_i Bu;refine⟨v,h,λK' k=>?_,?_,λb hb=>Bu b hb⟩
  ·unfold Py;split;·rename_i b;exact absurd rfl (Bu b)
   ·exact k
  ·exact λ_ _ _ _ h=>h
theorem kK{g:Option (Nat×Bool)}{Ky Kn:Prop}(h:Tn ops E g Ky Kn):
  (Ky∧∀E' Tt Tg,(∀j want oj d,g=some (j,want)→ops[j]?=some oj→oj.dst=some d→E'[d]?=E[d]?)→Tt→Tn ops E' g Tt Tg)∨
  (Kn∧∀E' Tt Tg,(∀j want oj d,g=some (j,want)→ops[j]?=some oj→oj.dst=some d→E'[d]?=E[d]?)→Tg→Tn ops E' g Tt Tg):=by
 cases g with
 |none=>exact .inl ⟨h,λ_ _ _ _ k=>k⟩
 |some jw=>
  obtain⟨j,want⟩:=jw;simp only[Tn]at h;replace h:=(Ab _ _ _).1 h;obtain⟨oj,Ei,h⟩:=h
  cases hd:oj.dst with
  |none=>rw[hd]at h;exact h.elim
  |some d=>
   rw[hd]at h;simp only at h;replace h:=(Ab _ _ _).1 h;obtain⟨v,hv,h⟩:=h
   have fin:∀E' Tt Tg,(∀j' Zb8 oj' d',some (j,want)=some (j',Zb8)→ops[j']?=some oj'→oj'.dst=some d'→E'[d']?=E[d']?)→
     (match (generalizing:=false) v with|.lit b=>(match (generalizing:=false) b,want with|true,true=>Tt|false,false=>Tt|true,false=>Tg|false,true=>Tg)|.raw (.tuple ⟨[]⟩)=>Tg|_=>False)→Tn ops E' (some (j,want)) Tt Tg:=λE' Tt Tg he k=>by
    simp only[Tn];refine(Ab _ _ _).2 ⟨oj,Ei,?_⟩;rw[hd];exact(Ab _ _ _).2 ⟨v,by rw[he j want oj d rfl Ei hd];exact hv,k⟩
   split at h
   ·rename_i b;cases b<;>cases want
    ·exact .inl ⟨h,λE' Tt Tg he k=>fin E' Tt Tg he k⟩
    ·exact .inr ⟨h,λE' Tt Tg he k=>fin E' Tt Tg he k⟩
    ·exact .inr ⟨h,λE' Tt Tg he k=>fin E' Tt Tg he k⟩
    ·exact .inl ⟨h,λE' Tt Tg he k=>fin E' Tt Tg he k⟩
   ·exact .inr ⟨h,λE' Tt Tg he k=>fin E' Tt Tg he k⟩
   ·exact h.elim
theorem DA{K:KK}(h:Fa P T ops n0 i o E H K):∃v ob,(∀x,ob=some x→H[n0+i]?=some .dead)∧K (A5 E o.dst v) (BQ H (n0+i) ob)∧
  ∀E' H',Eg ops E E' o→Y0 E o.op H H'→H'[n0+i]?=H[n0+i]?→∀K':KK,K' (A5 E' o.dst v) (BQ H' (n0+i) ob)→Fa P T ops n0 i o E' H' K':=by
 unfold Fa at h;rcases kK h with⟨h,hg⟩|⟨h,hg⟩
 ·obtain⟨r,ob,h,hr⟩:=nY h;obtain⟨v,h,hv,_,_⟩:=Ht h;rw[Ax,N9]at h;refine⟨v,ob,h.1,h.2,λE' H' ha hu hd K' k=>?_⟩
  unfold Fa;refine hg E' _ _ ha.2 (hr E' H' ha.1 hu hd _ (hv _ ?_));rw[Ax,N9];exact⟨λx hx=>by rw[hd];exact h.1 x hx,k⟩
 ·rw[Ax]at h;refine⟨.raw undef,none,(λ_ h=>by cases h),h,λE' H' ha hu hd K' k=>?_⟩
  unfold Fa;refine hg E' _ _ ha.2 ?_;rw[Ax];exact k
theorem BF{K K':KK}(h:Fa P T ops n0 i o E H K)(hk:∀E H,K E H→K' E H):Fa P T ops n0 i o E H K':=by
 obtain⟨v,ob,h1,h2,h3⟩:=DA h;exact h3 E H ⟨λ_ _=>rfl,λ_ _ _ _ _ _ _=>rfl⟩ (λ_ _ _ _ _ h=>h) rfl K' (hk _ _ h2)
theorem Zab{s:Nat}{r:AV}{ob:Option HO}{X:XX}{op:Op}(h:rK P T s E H op λv RW=>v=r∧RW=ob)(hd:∀x,ob=some x→H[s]?=some .dead)(hbs:∀t n parts,op=.buildSlice t n parts→H[s]?=some .dead):
  RJ (some s) P T E H op (λv E' H'=>v=r∧E'=E∧H'=BQ H s ob) X:=by
 have al:∀{x:HO}{f:Nat→AV},f s=r∧some x=ob→Tr (some s) H x λH' l=>f l=r∧E=E∧H'=BQ H s ob:=λ{x f} k=>by
  obtain⟨k1,rfl⟩:=k;unfold Tr;exact(Ab _ _ _).2 ⟨.dead,hd x rfl,by dsimp only;rw[AD];exact⟨k1,rfl,rfl⟩⟩
 have pu:∀{op:Op},Bg T E H op (λv=>v=r∧none=ob)→Bg T E H op (λv=>v=r∧E=E∧H=BQ H s ob):=λh=>by
  obtain⟨v,k,hv⟩:=GG h;exact hv E H (λ_ _=>rfl) (λ_ _ _ _ _ h=>h) _ ⟨k.1,rfl,by rw[←k.2];rfl⟩
 cases op
 case box t x=>
  change Ws E x (λo f=>f s=r∧some o=ob)at h
  show Ws E x (λo f=>Tr (some s) H o λH' l=>f l=r∧E=E∧H'=BQ H s ob)
  obtain⟨RW,f,k,hf⟩:=UI h;exact hf E rfl _ (al k)
 case alloc t=>
  change Ji T t (λo f=>f s=r∧some o=ob)at h
  show Ji T t (λo f=>Tr (some s) H o λH' l=>f l=r∧E=E∧H'=BQ H s ob)
  obtain⟨RW,f,k,hf⟩:=Pv h;exact hf _ (al k)
 case build t parts=>
  change Hi T E t parts.toList (λv=>v=r∧none=ob)at h
  show Hi T E t parts.toList (λv=>v=r∧E=E∧H=BQ H s ob)
  obtain⟨v,k,hv⟩:=RU h;exact hv E (λ_ _=>rfl) _ ⟨k.1,rfl,by rw[←k.2];rfl⟩
 case buildSlice t n parts=>
  have h0:=hbs t n parts rfl;unfold rK at h;replace h:=(Ab _ _ _).1 h;obtain⟨pl,Ye,h⟩:=h
  rw[h0]at Ye;obtain rfl:=C3.inj Ye;change BM T E t n parts.toList (λo f=>f s=r∧some o=ob)at h
  show BM T E t n parts.toList (λo f=>Tr (some s) H o λH' l=>f l=r∧E=E∧H'=BQ H s ob)
  obtain⟨RW,f,k,hf⟩:=F9 h;exact hf E (λ_ _=>rfl) _ (al k)
 case makeSlice t l c=>
  change Dk T E t l c (λo f=>f s=r∧some o=ob)at h
  show Dk T E t l c (λo f=>Tr (some s) H o λH' l=>f l=r∧E=E∧H'=BQ H s ob)
  obtain⟨RW,f,k,hf⟩:=J9 h;exact hf E rfl rfl _ (al k)
 case call c=>
  unfold rK at h;unfold RJ;dsimp only at h⊢;split at h
  ·rename_i hc;rw[hc];exact pu h
  ·rename_i hc;rw[hc];exact pu h
  ·rename_i f hc;rw[hc];dsimp only;rw[Af]at h ⊢;split at h
   ·rename_i fi cap WA;rw[WA];dsimp only;rw[C9 (Dc E) (AM E) (Af E),CO]at h ⊢
    have U1:B5 P fi=true:=by
     unfold JP at h;obtain⟨as',⟨v,hv,_⟩,_⟩:=Ka h;exact hv.1.Ed
    obtain⟨v,k,hv⟩:=RM h;exact Ak.oD (hv H (λ_ _ _ _ _ h=>h) _ ⟨k.1,rfl,by rw[←k.2];rfl⟩) U1
   ·exact h.elim
  ·exact h.elim
 case convert s' d x=>
  have h':=pu (show Bg T E H (.convert s' d x) (λv=>v=r∧none=ob)from h)
  unfold Bg at h';unfold RJ;dsimp only at h'⊢;rw[Af]at h' ⊢;generalize AM E x=ex at h';cases ex<;>first|exact h'.elim|skip
  ·exact h'
  ·rename_i l;unfold IG at h';dsimp only at h'⊢;replace h':=(Ab _ _ _).1 h';obtain⟨ys,xP,h'⟩:=h'
   replace h':=(Ab _ _ _).1 h';obtain⟨yd,xQ,h'⟩:=h'
   refine(Ab _ _ _).2 ⟨yd,xQ,?_⟩;cases hk:yd.k<;>rw[hk]at h'<;>first|exact h'.elim|skip
   dsimp only;unfold IG;exact(Ab _ _ _).2 ⟨ys,xP,(Ab _ _ _).2 ⟨yd,xQ,by rw[hk];exact h'⟩⟩
 case load t ad=>
  unfold rK at h;dsimp only at h;cases ad with
  |global g=>exact(show False from h).elim
  |_=>exact pu h
 all_goals
  unfold rK at h;dsimp only at h;first|exact pu h|(unfold Bg at h;exact h.elim)
end
section
variable {G:Cx}{C:Ag}{w w':World}{mu:Mu}{H:List HO}{E:List AV}{a:Act}{T:List TY}{P:Program}{ops:Array Oper}{n0 i:Nat}{o:Oper}
theorem OS{Ky Kn:Prop}(Ah:Az G C mu E H a w)(h:Tn ops.toList E o.guard Ky Kn):
  (BC o (yielded ops a.tmps)=true∧Ky)∨(BC o (yielded ops a.tmps)=false∧Kn):=by
 cases hg:o.guard with
 |none=>rw[hg]at h;exact .inl ⟨by simp[BC,hg],h⟩
 |some jw=>
  obtain⟨j,want⟩:=jw;rw[hg]at h;simp only[Tn]at h;replace h:=(Ab _ _ _).1 h;obtain⟨oj,Ei,h⟩:=h
  split at h
  ·rename_i d hd;replace h:=(Ab _ _ _).1 h;obtain⟨v,hv,h⟩:=h
   obtain⟨u,hu,hr⟩:=Hz Ah.env hv;have Zc0:ops[j]?=some oj:=by simpa using Ei
   have hw:∀b,u=.bool b→BC o (yielded ops a.tmps)=(b == want):=λb hb=>by
    simp[BC,hg,yielded,Zc0,hd,hu,hb]
   split at h
   ·rename_i b;have hb:=Bl hr;cases b<;>cases want
    ·exact .inl ⟨by rw[hw _ hb];rfl,h⟩
    ·exact .inr ⟨by rw[hw _ hb];rfl,h⟩
    ·exact .inr ⟨by rw[hw _ hb];rfl,h⟩
    ·exact .inl ⟨by rw[hw _ hb];rfl,h⟩
   ·have hb:u=.tuple ⟨[]⟩:=by unfold Aj at hr;exact hr
    refine .inr ⟨?_,h⟩;simp[BC,hg,yielded,Zc0,hd,hu,hb]
   ·exact h.elim
  ·exact h.elim
theorem rU(H:List HO)(ob:HO):Al H H.length (H++[ob]) ob:=⟨by simp,by simp,by simp,λi hi=>by
 rcases Nat.lt_or_ge i H.length with h|h;·rw[C4 h]
 ·rw[E9 h,G1 (by simp;omega),G1 h],.inl (by simp)⟩
theorem P1:∀{es:List AV},Ap es=true→∀e∈es,closed e=true
 |[],_,_,h=>by cases h
 |a::r,hc,e,he=>by
  unfold Ap at hc;simp only[Bv]at hc;rcases Hx.1 he with rfl|he;·exact hc.1
  ·exact P1 hc.2 e he
theorem T1(hT:BL G.P T)(h:Az G C mu E H a w){t:TypeId}{n:Nat}{parts:Array (Nat×Operand)}{K:AV→Prop}(hk:BM T E t n parts.toList λob _=>El ob K):
  ∃r v C' w',K r∧(Instr.buildSlice t n (parts.map λp=>(p.1,a.eval p.2))).run G.P w=.ok v w'∧Az G C' mu E H a w'∧Aj C' w' r mu v:=by
 obtain⟨e,Bh,es,us,k1,k2,k3,k4,k5,k6,k7,k8⟩:=KE hT h hk;unfold El at k1;dsimp only at k1;split at k1
 ·rename_i hc;have hb:Below w.heap.size w (w.alloc (.cells us.toArray e)):=(Below.refl _ _).alloc (Nat.le_refl _) _;have Eh:(w.alloc (.cells us.toArray e)).heap.size=w.heap.size+1:=by simp
  obtain⟨mu',m1,m2⟩:=QP (cap:=n) h (rU H (.arr e Bh es)) k3 (e:=e) (vs:=us) (by rw[k2,←k6,List.take_length];exact k4) k5 (by omega) (by omega) k6
  refine⟨_,_,Kc C w.heap.size (w.alloc (.cells us.toArray e)).heap.size,_,k1,k8,h.below hb,?_⟩;have hx:Ext C (Kc C w.heap.size (w.alloc (.cells us.toArray e)).heap.size) (w.alloc (.cells us.toArray e)) (w.alloc (.cells us.toArray e)):=⟨λ_ _ h=>.inl h,λ_ _ _=>rfl⟩
  have m3:=m2;unfold Aj at m3;obtain⟨x,hm,hle,MA,hv⟩:=m3
  have hB:∀g b o,mu' H.length=some g→g.As=some b→Kc C w.heap.size (w.alloc (.cells us.toArray e)).heap.size b o:=by
   intro g b o hg LG;rw[hm]at hg;obtain rfl:=C3.inj hg;unfold BP at hv;split at hv
   ·rename_i ad _ cap;simp only[Value.slice.injEq,C3.injEq,Addr.mk.injEq]at hv;simp only[GO.As,C3.injEq]at LG;right;rw[Eh];omega
   ·simp at hv
  have:=J0 (l:=H.length) (e:=e) (sz:=Bh) (es:=es) m1.heap hx hB (by simp) (P1 hc) m2
  rw[k2]at this;exact Aj.mono (Ext.refl _ _) _ (Ay.none mu) this
 ·exact k1.elim
theorem MQ(hT:BL G.P T){r:Option Nat}{n:Nat}(hi:ops[i]?=some o){K Kn:KK}{X:XX}(h:Fa G.P T ops.toList n0 i o E H K)(Ah:Az G C mu E H a w):
  (BC o (yielded ops a.tmps)=true∧o.wpIn (fw r) n G.P a w (λa w=>∃E' H',K E' H'∧St G E' H' a w) (Ln G Kn X))∨
  (BC o (yielded ops a.tmps)=false∧∃E' H',K E' H'∧St G E' H' (a.put o.dst undef) w):=by
 unfold Fa at h;rcases OS Ah h with⟨hw,h⟩|⟨hw,h⟩
 ·refine .inl ⟨hw,?_⟩;obtain⟨r,ob,h,hr⟩:=nY h;obtain⟨v,hk,_,hv,_⟩:=Ht h;rw[Ax,N9]at hk;have sK:=hr E H (λ_ _=>rfl) (λ_ _ _ _ _ h=>h) rfl (λv RW=>v=r∧RW=ob) ⟨rfl,rfl⟩
  have fin:∀a' w',H6 G o (λv E' H'=>v=r∧E'=E∧H'=BQ H (n0+i) ob) a' w'→∃E' H',K E' H'∧St G E' H' a' w':=by
   intro a' w' hp;obtain⟨r',E',H',⟨rfl,rfl,rfl⟩,C',mu',hs⟩:=hp;refine⟨_,_,hk.2,C',mu',hs.frame ?_ rfl⟩;have he:=hs.env;cases hd:o.dst with
   |none=>rw[hd]at he;exact he
   |some d=>
    rw[hd]at he;rw[AI]at he ⊢;refine⟨by simpa[A5]using he.1,λk hk Hc=>?_⟩
    have pW:k<(A5 E' (some d) r').length:=by simpa[A5]using hk
    have:=he.2 k pW Hc;by_cases lR:d=k
    ·subst lR;simp only[A5,G2]at this ⊢;exact hv _ _ _ _ this
    ·simp only[A5]at this ⊢;rw[Hs lR]at this ⊢;exact this
  by_cases hbs:∀t n parts,o.op=.buildSlice t n parts→H[n0+i]?=some .dead
  ·have h1:=Zab (X:=X) sK hk.1 hbs;exact DM hT h1 Ah fin
  ·have hbs:∃t n parts,o.op=.buildSlice t n parts∧H[n0+i]?≠some .dead:=by
    apply Classical.byContradiction;intro Bu;exact hbs λt n parts ho=>Classical.byContradiction λhd=>Bu ⟨t,n,parts,ho,hd⟩
   obtain⟨t,m,parts,ho,N2⟩:=hbs;rw[ho]at sK;unfold rK at sK;replace sK:=(Ab _ _ _).1 sK;obtain⟨pl,Ye,sK⟩:=sK
   split at sK;·exact absurd Ye N2
   ·obtain⟨r',v',C',w',⟨e1,e2⟩,e3,e4,e5⟩:=T1 hT Ah sK;have h1:r'=r∧E=E∧H=BQ H (n0+i) ob:=⟨e1,rfl,by rw[←e2];rfl⟩
    have h2:(execOp a.eval o).run G.P w=.ok (.value v') w':=A0 (by simp[execOp,ho]) e3
    exact BE (λc hc=>by rw[ho]at hc;cases hc) (AL (X:=X) (Q:=Kn) (K:=λv E' H'=>v=r∧E'=E∧H'=BQ H (n0+i) ob) fin h1 h2 e4 e5)
   ·exact sK.elim
 ·rw[Ax]at h;refine .inr ⟨hw,_,_,h,C,mu,Ah.frame (Be Ah.env o.dst (by unfold Aj;rfl)) (put_defers _ _ _)⟩
theorem sV{next:Act→World→Prop}{Q:Exit→Act→World→Prop}(h:o.wpIn (fw none) 0 P a w next Q):(∃a w,next a w)∨∃e a w,Q e a w:=by
 have h:=h.2;generalize (o.semAt (fw none).round a.eval).run P w=r at h;cases r with
 |ok n w'=>
  cases n<;>simp only[Hm]at h<;>first|exact h.elim|exact .inl ⟨_,_,h⟩|skip
  ·obtain⟨e,Lo,fr,h,_⟩:=h.2.2 [] (room_wide _);cases e with
   |returned v=>exact .inl ⟨_,_,h⟩
   |panicked c=>exact .inr ⟨_,_,_,h⟩
   |outgrown=>obtain⟨a,w,h⟩:=h;exact .inr ⟨_,_,_,h⟩
  ·obtain⟨e,Lo,h,_⟩:=h.2.2 (Frame.ofRow P "" #[] .normal) [] (room_wide _)
   cases e with
   |returned v=>exact .inl ⟨_,_,h⟩
   |panicked c=>exact .inr ⟨_,_,_,h⟩
   |outgrown=>obtain⟨a,w,h⟩:=h;exact .inr ⟨_,_,_,h⟩
  ·obtain⟨v,Lo,h,_⟩:=h.2 (Frame.ofRow P "" #[] .normal) [] (room_wide _)
   exact .inl ⟨_,_,h⟩
 |halt x w'=>cases x<;>simp only[Hm]at h<;>first|exact h.elim|exact .inr ⟨_,_,_,h⟩
def Sat(P:Program)(E:List AV)(H:List HO):Prop:=∃G a w,G.P=P∧St G E H a w
theorem GR(hT:BL P T)(hi:ops[i]?=some o){E':List AV}{H':List HO}(h:Fa P T ops.toList n0 i o E H λE1 H1=>E1=E'∧H1=H')(hs:Sat P E H):Sat P E' H':=by
 obtain⟨G,a,w,rfl,C,mu,Ah⟩:=hs;rcases MQ (r:=none) (n:=0) hT hi (Kn:=λ_ _=>False) (X:=λ_ _ _=>False) h Ah with⟨_,h1⟩|⟨_,E1,H1,⟨e1,e2⟩,h1⟩
 ·rcases sV h1 with⟨a',w',E1,H1,⟨e1,e2⟩,h2⟩|⟨e,a',w',h2⟩;·subst e1 e2;exact⟨G,a',w',rfl,h2⟩
  ·cases e<;>simp[Ln]at h2
 ·subst e1 e2;exact⟨G,_,w,rfl,h1⟩
theorem Up(hs:Sat P E H){l:Nat}(hl:H[l]?=some .dead)(x:Operand):C8 l (AM E x)=false:=by
 obtain⟨G,a,w,rfl,C,mu,Ah⟩:=hs;exact VB (Ah.heap.dead l hl) _ (AT Ah.env x)
end
section
variable {H:List HO}{E:List AV}{T:List TY}{P:Program}
structure rZ(f:AV→AV):Prop where
 any:f .any=.any
 bool:∀b,f (.bool b)=.bool b
 lit:∀b,f (.lit b)=.lit b
 Zcx:∀x b,f x=.bool b→x=.bool b
theorem R0:rZ id:=⟨rfl,λ_=>rfl,λ_=>rfl,λ_ _ h=>h⟩
theorem UO(l:Nat):rZ (Bd l):=by
 refine⟨by unfold Bd;rfl,λb=>by unfold Bd;rfl,λb=>by unfold Bd;rfl,λx b h=>?_⟩
 cases x<;>unfold Bd at h<;>first|exact h|(split at h<;>cases h)|cases h
theorem GV(l:Nat):∀E:List AV,BN l E=E.map (Bd l)
 |[]=>by simp[BN]
 |x::E=>by simp[BN,GV l E]
theorem RT{x:AV}{K:Nat→List AV→Prop}(h:Ee H x K):∃sz es,K sz es∧∀K':Nat→List AV→Prop,K' sz es→Ee H x K':=by
 unfold Ee at h;split at h;·exact⟨_,_,h,λK' k=>k⟩
 ·replace h:=(Ab _ _ _).1 h;obtain⟨ob,Ba,h⟩:=h
  split at h
  ·split at h
   ·rename_i hb;exact⟨_,_,h.2,λK' k=>by unfold Ee;exact(Ab _ _ _).2 ⟨_,Ba,by simp only[hb];exact⟨h.1,k⟩⟩⟩
   ·exact h.elim
  ·exact h.elim
 ·exact h.elim
theorem Xy{t t':TypeId}{s x:Operand}{K:AV→KK}(h:CN none T E H t t' s x K):
  ∃r f H',rZ f∧K r (E.map f) H'∧∀(E2:List AV),AM E2 s=AM E s→AM E2 x=AM E x→∀K':AV→KK,K' r (E2.map f) H'→CN none T E2 H t t' s x K':=by
 unfold CN at h;split at h;case h_2=>exact h.elim
 rename_i ht;replace h:=(Ab _ _ _).1 h;obtain⟨y,hy,h⟩:=h
 split at h;case h_2=>exact h.elim
 rename_i e Bh by' ag hk
 split at h;case h_2=>exact h.elim
 rename_i hb;rw[Af,Af]at h
 have fin:∀(E2:List AV),AM E2 s=AM E s→AM E2 x=AM E x→∀K':AV→KK,(match (generalizing:=false) AM E x with
    |.raw (.slice none 0 0)=>(match AM E s with
     |.own l sz lo n=>B6 H l λob=>(match ob with|.arr _ _ _=>K' (.own l sz lo n) E2 H|_=>False)
     |.raw (.slice none 0 0)=>K' (.raw (.slice none 0 0)) E2 H
     |_=>False)
    |_=>Ee H (AM E x) λsz xs=>(match Cu sz Bh with
     |true=>(match AM E s with
      |.raw (.slice none 0 0)=>(xs.length*by'≤140737488355328)∧Ej T e λz=>CE z λzc=>(match Cu zc.length Bh&&zc.all CJ with
       |true=>Tr none H (.arr e Bh xs) λH' l=>K' (.own l Bh 0 xs.length) E2 H'
       |false=>False)
      |.own l BD lo n=>B6 H l λob=>(match ob with
       |.arr e' P8 es=>(match Cu BD Bh&&Cu P8 Bh&&Cu lo 0&&Cu e' e with
        |true=>(n=es.length∧(es++xs).length*by'≤140737488355328)∧Ej T e λz=>CE z λzc=>(match Cu zc.length Bh&&zc.all CJ with
         |true=>GW l E2 λE'=>Ci l H λH=>EK H l (.arr e Bh (es++xs)) λH'=>K' (.own l Bh 0 (es++xs).length) E' H'
         |false=>False)
        |false=>False)
       |_=>False)
      |_=>False)
     |false=>False))→CN none T E2 H t t' s x K':=λE2 h1 h2 K' k=>by
  unfold CN;simp only[ht];refine(Ab _ _ _).2 ⟨y,hy,?_⟩;simp only[hk,hb];rw[Af,Af,h1,h2];exact k
 generalize AM E s=sv at h fin;generalize AM E x=xv at h fin;split at h
 ·split at h
  ·rename_i l sz lo n;replace h:=(Ab _ _ _).1 h;obtain⟨ob,Ba,h⟩:=h
   split at h;·exact⟨_,id,H,R0,by simpa using h,λE2 h1 h2 K' k=>fin E2 h1 h2 K' ((Ab _ _ _).2 ⟨_,Ba,by simpa using k⟩)⟩
   ·exact h.elim
  ·exact⟨_,id,H,R0,by simpa using h,λE2 h1 h2 K' k=>fin E2 h1 h2 K' (by simpa using k)⟩
  ·exact h.elim
 ·rename_i Bu;obtain⟨sz,xs,h,he⟩:=RT h
  have We:∀(E2:List AV),AM E2 s=sv→AM E2 x=xv→∀K':AV→KK,Ee H xv (λsz xs=>(match Cu sz Bh with
     |true=>(match (generalizing:=false) sv with
      |.raw (.slice none 0 0)=>(xs.length*by'≤140737488355328)∧Ej T e λz=>CE z λzc=>(match Cu zc.length Bh&&zc.all CJ with
       |true=>Tr none H (.arr e Bh xs) λH' l=>K' (.own l Bh 0 xs.length) E2 H'
       |false=>False)
      |.own l BD lo n=>B6 H l λob=>(match ob with
       |.arr e' P8 es=>(match Cu BD Bh&&Cu P8 Bh&&Cu lo 0&&Cu e' e with
        |true=>(n=es.length∧(es++xs).length*by'≤140737488355328)∧Ej T e λz=>CE z λzc=>(match Cu zc.length Bh&&zc.all CJ with
         |true=>GW l E2 λE'=>Ci l H λH=>EK H l (.arr e Bh (es++xs)) λH'=>K' (.own l Bh 0 (es++xs).length) E' H'
         |false=>False)
        |false=>False)
       |_=>False)
      |_=>False)
     |false=>False))→CN none T E2 H t t' s x K':=λE2 h1 h2 K' k=>fin E2 h1 h2 K' (by
   split;·exact absurd rfl Bu
   ·exact k)
  split at h;case h_2=>exact h.elim
  rename_i Eh;split at h
  ·obtain⟨hl,h⟩:=h;obtain⟨z,h,hz⟩:=Fp h;rw[Am]at h;split at h
   ·rename_i hc;unfold Tr at h;simp only at h;rw[GD]at h;refine⟨_,id,_,R0,by simpa using h,λE2 h1 h2 K' k=>We E2 h1 h2 K' (he _ ?_)⟩
    simp only[Eh];refine⟨hl,hz _ ?_⟩;rw[Am];simp only[hc];unfold Tr;simp only;rw[GD];simpa using k
   ·exact h.elim
  ·rename_i l BD lo n;replace h:=(Ab _ _ _).1 h;obtain⟨ob,Ba,h⟩:=h
   split at h;case h_2=>exact h.elim
   rename_i e' P8 es;split at h;case h_2=>exact h.elim
   rename_i hq;obtain⟨hl,h⟩:=h;obtain⟨z,h,hz⟩:=Fp h;rw[Am]at h;split at h
   ·rename_i hc;rw[DI,BZ,AD]at h;rw[GV]at h;refine⟨_,Bd _,_,UO _,h,λE2 h1 h2 K' k=>We E2 h1 h2 K' (he _ ?_)⟩
    simp only[Eh];refine(Ab _ _ _).2 ⟨_,Ba,?_⟩;simp only[hq];refine⟨hl,hz _ ?_⟩;rw[Am];simp only[hc];rw[DI,BZ,AD,GV];exact k
   ·exact h.elim
  ·exact h.elim
end
section
variable {G:Cx}{C:Ag}{w w':World}{mu:Mu}{H:List HO}{E:List AV}{a:Act}{T:List TY}{P:Program}{ops:Array Oper}{n0 i j:Nat}{o oi oj:Oper}{we:List Nat}{K:KK}{X:XX}
theorem H9{d e:Option Tmp}{x y:AV}(h:∀t,d=some t→e≠some t):A5 (A5 E d x) e y=A5 (A5 E e y) d x:=by
 cases d with
 |none=>rfl
 |some d=>
  cases e with
  |none=>rfl
  |some e=>
   have Bu:d≠e:=λhe=>h d rfl (he▸rfl)
   simp only[A5];exact HW _ _ Bu
theorem Ul{s t:Nat}{x y:Option HO}(h:s≠t):BQ (BQ H s x) t y=BQ (BQ H t y) s x:=by
 cases x<;>cases y<;>simp only[BQ]
 exact HW _ _ h
theorem Lg{d:Option Tmp}{x:AV}{y:Operand}(h:∀t,d=some t→y≠.tmp t):AM (A5 E d x) y=AM E y:=by
 cases d with
 |none=>rfl
 |some d=>
  cases y with
  |tmp t=>
   have Bu:d≠t:=λhe=>h d rfl (he▸rfl)
   simp only[A5,AM,Ff];rw[CL Bu]
  |_=>rfl
theorem CG{d:Option Tmp}{x:AV}(h:∀t,d=some t→t∉o.looksAt ops):Eg ops.toList E (A5 E d x) o:=by
 refine⟨λy hy=>Lg λt ht he=>h t ht ?_,λg want og t hg hog ht=>?_⟩
 ·subst he;unfold FP;refine List.mem_append_left _ (List.mem_filterMap.2 ⟨.tmp t,by simpa using hy,rfl⟩)
 ·cases d with
  |none=>rfl
  |some d=>
   have Bu:d≠t:=λhe=>h d rfl (by
    subst he;unfold FP;refine List.mem_append_right _ ?_;have:ops[g]?=some og:=by simpa using hog
    simp[hg,this,ht])
   simp only[A5];rw[CL Bu]
theorem Eg.symm{E':List AV}(h:Eg ops.toList E E' o):Eg ops.toList E' E o:=
 ⟨λx hx=>(h.1 x hx).symm,λg want og t hg hog ht=>(h.2 g want og t hg hog ht).symm⟩
theorem Yc(hs:Sat P E H){op:Op}{s:Nat}{x:Option HO}(hd:∀y,x=some y→H[s]?=some .dead):Y0 E op H (BQ H s x):=by
 intro y _ l ob hr hl;cases x with
 |none=>exact hl
 |some x=>
  by_cases sM:s=l
  ·subst sM;rw[Up hs (hd x rfl) y]at hr;cases hr
  ·simp only[BQ];rw[CL sM];exact hl
theorem Sq(hs:Sat P E H){E':List AV}{op:Op}{s:Nat}{x:Option HO}(he:∀y∈op.operands,AM E' y=AM E y)(hd:∀y,x=some y→H[s]?=some .dead):Y0 E' op (BQ H s x) H:=by
 intro y hy l ob hr hl;cases x with
 |none=>exact hl
 |some x=>
  by_cases sM:s=l
  ·subst sM;rw[he y hy,Up hs (hd x rfl) y]at hr;cases hr
  ·simp only[BQ]at hl;rw[CL sM]at hl;exact hl
theorem dS(hT:BL P T)(hs:Sat P E H)(hi:ops[i]?=some oi)(hj:ops[j]?=some oj)(N4:i≠j)(SH:oi.apart ops oj=true){Ki Kj:KK}
  (h:Fa P T ops.toList n0 i oi E H Ki) (hk:∀E' H',Sat P E' H'→Ki E' H'→Fa P T ops.toList n0 j oj E' H' Kj):
  Fa P T ops.toList n0 j oj E H λE1 H1=>Fa P T ops.toList n0 i oi E1 H1 Kj:=by
 obtain⟨p1,p2,p3⟩:=Jb SH;obtain⟨vi,NZ,di,ki,ti⟩:=DA h;have refl:∀o:Oper,Eg ops.toList E E o:=λo=>⟨λ_ _=>rfl,λ_ _ _ _ _ _ _=>rfl⟩
 have Fv:Sat P (A5 E oi.dst vi) (BQ H (n0+i) NZ):=GR hT hi (ti E H (refl oi) (λ_ _ _ _ _ h=>h) rfl _ ⟨rfl,rfl⟩) hs
 have h2:=hk _ _ Fv ki;obtain⟨vj,obj,dj,kj,tj⟩:=DA h2;have ag:=CG (x:=vi) (E:=E) p1
 have dj':∀x,obj=some x→H[n0+j]?=some .dead:=λx hx=>by
  have:=dj x hx;cases NZ with
  |none=>exact this
  |some y=>simp only[BQ]at this;rwa [CL (by omega)]at this
 have sne:∀(x:Option HO)(s t:Nat),s≠t→(BQ H s x)[t]?=H[t]?:=λx s t Ah=>by
  cases x with
  |none=>rfl
  |some y=>simp only[BQ];rw[CL Ah]
 refine tj E H ag.symm (Sq hs ag.1 di) (sne _ _ _ (by omega)).symm _ ?_
 refine ti _ _ (CG p3) (Yc hs dj') (sne _ _ _ (by omega)) _ ?_
 ·rw[H9 p2,Ul (show n0+i≠n0+j by omega)]at kj
  exact kj
def DY(P:Program)(T:List TY)(ops:List Oper)(o:Oper)(E:List AV)(H:List HO)(K:KK)(X:XX):Prop:=
 Tn ops E o.guard (RJ none P T E H o.op (λv E' H'=>Py v λv=>Bx E' o.dst v λHp=>K Hp H') X) (Bx E o.dst (.raw undef) λE'=>K E' H)
def BU(o:Oper):Bool:=match o.op with|.move (.tmp _)=>o.guard.isNone&&o.dst.isSome|_=>false
def yU(o:Oper):Bool:=match o.op with
 |.call c=>(match c.callee with|.builtin .append=>o.guard.isNone&&Cu c.args.size 2&&Cu c.argTypes.size 2|_=>false)
 |_=>false
theorem eN(N3:BU oi=true)(LD:yU oj=true)(p1:∀t,oi.dst=some t→t∉oj.looksAt ops)(p2:∀t,oi.dst=some t→oj.dst≠some t)(p3:∀t,oj.dst=some t→t∉oi.looksAt ops){Kw:KK}
  (h:Fa P T ops.toList n0 i oi E H λE' H'=>DY P T ops.toList oj E' H' Kw X):DY P T ops.toList oj E H (λE1 H1=>Fa P T ops.toList n0 i oi E1 H1 Kw) X:=by
 obtain⟨Sm,UT,xO,X3,X9,pG⟩:=oi;obtain⟨JD,Ef,CW,aV,aW,jgd⟩:=oj;unfold BU at N3;unfold yU at LD;simp only at N3 LD;cases UT<;>first|cases N3|skip
 rename_i x;cases x<;>first|cases N3|skip
 rename_i s;cases pG<;>simp at N3
 cases Sm<;>simp at N3
 rename_i d;cases Ef<;>first|cases LD|skip
 rename_i c;obtain⟨Zf,args,II⟩:=c;simp only at LD;cases Zf<;>first|cases LD|skip
 rename_i bi;cases bi<;>first|cases LD|skip
 cases jgd<;>simp at LD
 obtain⟨ha,ht⟩:=LD
 obtain⟨sx,xx,rfl⟩:∃sx xx,args=#[sx,xx]:=by
  match args,ha with
  |⟨[a,b]⟩,_=>exact⟨a,b,rfl⟩
 obtain⟨t1,t2,rfl⟩:∃t1 t2,II=#[t1,t2]:=by
  match II,ht with
  |⟨[a,b]⟩,_=>exact⟨a,b,rfl⟩
 have hd:=p1 d rfl;have q1:sx≠.tmp d:=λe=>hd (by subst e;simp[FP,Ao,Call.operands])
 have q2:xx≠.tmp d:=λe=>hd (by subst e;simp[FP,Ao,Call.operands])
 have q3:∀t,JD=some t→t≠s:=λt e he=>p3 t e (by subst he;simp[FP,Ao])
 have q4:JD≠some d:=p2 d rfl
 have Tp:∀{v:AV}{x:Operand},x≠.tmp d→AM (E.set d v) x=AM E x:=λ{v x} hx=>by
  have:=Lg (E:=E) (d:=some d) (x:=v) (y:=x) (λt ht he=>hx (by cases ht;exact he))
  simpa[A5]using this
 -- lI move,at any frame
 have mv:∀{E:List AV}{H:List HO}{K:KK},Fa P T ops.toList n0 i {dst:=some d,op:=.move (.tmp s),type:=xO,pos:=X3,after:=X9,guard:=none} E H K↔Py (AM E (.tmp s)) λv=>K (E.set d v) H:=λ{E H K}=>by
  unfold Fa Tn rK Bg;simp only[Af,Pg,Ax,A5]
 have ap:∀{E:List AV}{H:List HO}{K:KK},DY P T ops.toList {dst:=JD,op:=.call ⟨.builtin .append,#[sx,xx],#[t1,t2]⟩,type:=CW,pos:=aV,after:=aW,guard:=none} E H K X↔
   CN none T E H t1 t2 sx xx (λv E' H'=>Py v λv=>Bx E' JD v λHp=>K Hp H'):=λ{E H K}=>by
  unfold DY Tn RJ;exact Iff.rfl
 rw[mv]at h;rw[ap]
 obtain⟨v,hv,SF⟩:∃v,DY P T ops.toList {dst:=JD,op:=.call ⟨.builtin .append,#[sx,xx],#[t1,t2]⟩,type:=CW,pos:=aV,after:=aW,guard:=none} (E.set d v) H Kw X∧
   ∀f,rZ f→∀K':AV→Prop,K' (f v)→Py (f (AM E (.tmp s))) K':=by
  generalize AM E (.tmp s)=z at h⊢;by_cases hz:∃b,z=.bool b
  ·obtain⟨b,rfl⟩:=hz;refine⟨.lit b,?_,λf hf K' k=>?_⟩
   ·unfold Py at h;cases b with
    |true=>exact h.1 rfl
    |false=>exact h.2 rfl
   ·rw[hf.bool];rw[hf.lit]at k;unfold Py;exact⟨λe=>by subst e;exact k,λe=>by subst e;exact k⟩
  ·have nb:∀{z:AV}{K:AV→Prop},(∀b,z≠.bool b)→(Py z K↔K z):=λ{z K} hz=>by
    cases z<;>first|exact Iff.rfl|exact absurd rfl (hz _)
   refine⟨z,?_,λf hf K' k=>?_⟩
   ·exact(nb λb e=>hz ⟨b,e⟩).1 h
   ·exact(nb λb e=>hz ⟨b,hf.Zcx z b e⟩).2 k
 rw[ap]at hv;obtain⟨r,f,H',hf,hk,hto⟩:=Xy hv;refine hto E (Tp q1).symm (Tp q2).symm _ ?_;obtain⟨u,hu,hu2,_,_⟩:=Ht hk;refine hu2 _ ?_;rw[Ax]at hu ⊢;rw[mv]
 have e1:AM (A5 (E.map f) JD u) (.tmp s)=f (AM E (.tmp s)):=by
  rw[Lg λt ht he=>q3 t ht (by cases he;rfl)]
  simp only[AM,Ff,List.getElem?_map];cases E[s]? with
  |none=>exact hf.any.symm
  |some x=>rfl
 rw[e1];refine SF f hf _ ?_
 have e2:(A5 (E.map f) JD u).set d (f v)=A5 ((E.set d v).map f) JD u:=by
  rw[List.map_set];cases JD with
  |none=>rfl
  |some j=>
   have Bu:j≠d:=λe=>q4 (by rw[e])
   simp only[A5];exact HW _ _ Bu
 rw[e2];exact hu
def Vd(P:Program)(T:List TY)(ops:Array Oper)(n0:Nat)(we:List Nat)(K:KK)(X:XX)(j:Nat)(Kn:KK)(E:List AV)(H:List HO):Prop:=
 match ops[j]? with
 |none=>Kn E H
 |some o=>match A4 we j with
  |false=>Fa P T ops.toList n0 j o E H Kn
  |true=>∃Kw:KK,DY P T ops.toList o E H Kw X∧∀E H,Kw E H→Kn E H
def De(P:Program)(T:List TY)(ops:Array Oper)(n0:Nat)(we:List Nat)(K:KK)(X:XX):Nat→Array Bool→List AV→List HO→Prop
 |0,listed,E,H=>Sat P E H→DC .any ops listed=[]∧K E H
 |fuel+1,listed,E,H=>Sat P E H→(DC .any ops listed=[]→K E H)∧
  ∀i∈DC .any ops listed,Vd P T ops n0 we K X i (De P T ops n0 we K X fuel (listed.setIfInBounds i true)) E H
theorem XE{r:AV}{d:Option Tmp}{Kn:KK}{E':List AV}{H':List HO}{C':Ag}{mu':Mu}(h:Py r λv=>Bx E' d v λHp=>Kn Hp H')(Ah:Az G C' mu' (A5 E' d r) H' a w):
  ∃E H,Kn E H∧St G E H a w:=by
 obtain⟨v,hk,_,hv,_⟩:=Ht h;rw[Ax]at hk;refine⟨_,_,hk,C',mu',Ah.frame ?_ rfl⟩;have he:=Ah.env;cases hd:d with
 |none=>rw[hd]at he;exact he
 |some d=>
  rw[hd]at he;rw[AI]at he ⊢;refine⟨by simpa[A5]using he.1,λk hk Hc=>?_⟩
  have pW:k<(A5 E' (some d) r).length:=by simpa[A5]using hk
  have:=he.2 k pW Hc;by_cases lR:d=k
  ·subst lR;simp only[A5,G2]at this ⊢;exact hv _ _ _ _ this
  ·simp only[A5]at this ⊢;rw[Hs lR]at this ⊢;exact this
theorem kY(hT:BL G.P T){r:Option Nat}{n:Nat}{Kn K:KK}(h:Vd G.P T ops n0 we K X i Kn E H)(Ah:Az G C mu E H a w):
  wpOpIn (fw r) n G.P ops (Ln G K X) i (λa w=>∃E' H',Kn E' H'∧St G E' H' a w) a w:=by
 unfold Vd at h;by_cases TX:(∃o,ops[i]?=some o)∧A4 we i=true
 ·obtain⟨⟨o,ho⟩,hm⟩:=TX;rw[ho]at h;simp only at h;rw[hm]at h
  obtain⟨Kw,h,hKw⟩:=h;unfold DY at h;unfold wpOpIn;rw[ho];simp only
  rcases OS Ah h with⟨hw,h⟩|⟨hw,h⟩
  ·rw[if_pos hw];refine DM hT h Ah λa' w' hp=>?_
   obtain⟨r,E',H',hk,C',mu',CM⟩:=hp;obtain⟨E1,H1,k1,k2⟩:=XE (Kn:=λE H=>Kw E H) hk CM
   exact⟨E1,H1,hKw _ _ k1,k2⟩
  ·rw[if_neg (by simp[hw])]
   rw[Ax]at h;exact⟨λ_ _=>trivial,A5 E o.dst (.raw undef),H,hKw _ _ h,C,mu,Ah.frame (Be Ah.env o.dst (by unfold Aj;rfl)) (put_defers _ _ _)⟩
 unfold wpOpIn;split;·rename_i ho;rw[ho]at h;exact⟨E,H,h,C,mu,Ah⟩
 ·rename_i o ho;rw[ho]at h;simp only at h;split at h
  ·rcases MQ hT ho h Ah with⟨hw,h⟩|⟨hw,h⟩;·rw[if_pos hw];exact h
   ·rw[if_neg (by simp[hw])];exact⟨λ_ _=>trivial,h⟩
  ·rename_i hm;exact absurd ⟨⟨o,ho⟩,hm⟩ TX
theorem Hl(hT:BL G.P T){r:Option Nat}{n:Nat}:∀(fuel:Nat)(listed:Array Bool)(E:List AV)(H:List HO)(a:Act)(w:World),De G.P T ops n0 we K X fuel listed E H→St G E H a w→wpAnyIn (fw r) n G.P .any ops (Ln G K X) fuel listed a w
 |0,listed,E,H,a,w,h,Ah=>by
  unfold De at h;obtain⟨h1,h2⟩:=h ⟨G,a,w,rfl,Ah⟩;exact⟨h1,E,H,h2,Ah⟩
 |fuel+1,listed,E,H,a,w,h,Ah=>by
  unfold De at h;obtain⟨h1,h2⟩:=h ⟨G,a,w,rfl,Ah⟩;refine⟨λh0=>⟨E,H,h1 h0,Ah⟩,λi hi=>?_⟩
  obtain⟨C,mu,Ah⟩:=Ah;exact wpOpIn_mono (λa' w' ⟨E',H',k1,k2⟩=>Hl hT fuel _ E' H' a' w' k1 k2) (kY hT (h2 i hi) Ah)
theorem Ta(hT:BL P T)(hi:ops[i]?=some oi)(V6:A4 we i=false){U:Nat→Bool}(hUi:U i=true)
  (vV:∀j oj,U j=true→j≠i→ops[j]?=some oj→∃e∈oj.after,H4 .any e=true∧U e.on=true):
  ∀(fuel:Nat)(listed:Array Bool)(E:List AV)(H:List HO),(∀j,U j=true→listed.getD j false=false)→
   (∀j oj,ops[j]?=some oj→U j=false→listed.getD j true=false→(A4 we j=false∨(BU oi&&yU oj)=true)∧oi.apart ops oj=true)→
   i∈DC .any ops listed→Fa P T ops.toList n0 i oi E H (De P T ops n0 we K X fuel (listed.setIfInBounds i true))→De P T ops n0 we K X (fuel+1) listed E H:=by
 intro fuel;induction fuel with
 |zero=>
  intro listed E H hU SH hr h;unfold De;intro hs;refine⟨λh0=>(by rw[h0]at hr;cases hr),λj hj=>?_⟩
  by_cases Gz:j=i;·subst Gz;unfold Vd;rw[hi];simp only;rw[V6];exact h
  ·obtain⟨Km,oj,Ei,B7⟩:=mem_ready.1 hj
   have bW:U j=false:=by
    cases hu:U j with
    |false=>rfl
    |true=>
     obtain⟨e,he,hb,Wz⟩:=vV j oj hu Gz Ei;have:=B7 e he hb;rw[hU _ Wz]at this;cases this
   obtain⟨bA,OR⟩:=SH j oj Ei bW Km;exfalso;obtain⟨vi,NZ,di,ki,ti⟩:=DA h;have Fv:Sat P (A5 E oi.dst vi) (BQ H (n0+i) NZ):=GR hT hi (ti E H ⟨λ_ _=>rfl,λ_ _ _ _ _ _ _=>rfl⟩ (λ_ _ _ _ _ h=>h) rfl _ ⟨rfl,rfl⟩) hs
   unfold De at ki;have:=ready_mono hj Gz;rw[(ki Fv).1]at this;cases this
 |succ fuel ih=>
  intro listed E H hU SH hr h;unfold De;intro hs;refine⟨λh0=>(by rw[h0]at hr;cases hr),λj hj=>?_⟩
  by_cases Gz:j=i;·subst Gz;unfold Vd;rw[hi];simp only;rw[V6];exact h
  ·obtain⟨Km,oj,Ei,B7⟩:=mem_ready.1 hj
   have bW:U j=false:=by
    cases hu:U j with
    |false=>rfl
    |true=>
     obtain⟨e,he,hb,Wz⟩:=vV j oj hu Gz Ei;have:=B7 e he hb;rw[hU _ Wz]at this;cases this
   obtain⟨bA,OR⟩:=SH j oj Ei bW Km
   have rest:∀E1 H1,Fa P T ops.toList n0 i oi E1 H1 (De P T ops n0 we K X fuel ((listed.setIfInBounds j true).setIfInBounds i true))→De P T ops n0 we K X (fuel+1) (listed.setIfInBounds j true) E1 H1:=λE1 H1 k=>by
    refine ih (listed.setIfInBounds j true) E1 H1 (λk hk=>?_) (λk ok hk hu TO=>?_) (ready_mono hr (Ne.symm Gz)) k
    ·have Bu:j≠k:=λhe=>by subst he;rw[bW]at hk;cases hk
     rw[getD_set_ne false Bu];exact hU k hk
    ·refine SH k ok hk hu ?_;by_cases PL:j=k;·subst PL;exact Km
     ·rw[getD_set_ne true PL]at TO;exact TO
   unfold Vd;rw[Ei];simp only
   cases Yj:A4 we j with
   |false=>
    simp only
    have hc:=dS (Kj:=De P T ops n0 we K X fuel ((listed.setIfInBounds i true).setIfInBounds j true)) hT hs hi Ei (Ne.symm Gz) OR h λE' H' Fv k=>by
     unfold De at k;have:=(k Fv).2 j (ready_mono hj Gz);unfold Vd at this;rw[Ei]at this;simp only at this;rw[Yj]at this;exact this
    refine BF hc λE1 H1 k=>rest E1 H1 ?_
    rw[Gj _ _ Gz];exact k
   |true=>
    simp only
    have hmv:BU oi=true∧yU oj=true:=by
     rcases bA with k|k;·rw[Yj]at k;cases k
     ·simpa using k
    obtain⟨p1,p2,p3⟩:=Jb OR;obtain⟨vi,NZ,di,ki,ti⟩:=DA h;have refl:Eg ops.toList E E oi:=⟨λ_ _=>rfl,λ_ _ _ _ _ _ _=>rfl⟩
    have Fv:Sat P (A5 E oi.dst vi) (BQ H (n0+i) NZ):=GR hT hi (ti E H refl (λ_ _ _ _ _ h=>h) rfl _ ⟨rfl,rfl⟩) hs
    unfold De at ki;have hd:=(ki Fv).2 j (ready_mono hj Gz);unfold Vd at hd;rw[Ei]at hd;simp only at hd;rw[Yj]at hd
    obtain⟨Kw,Bj,Gf⟩:=hd;have h3:=ti E H refl (λ_ _ _ _ _ h=>h) rfl (λE' H'=>DY P T ops.toList oj E' H' Kw X) Bj
    refine⟨_,eN hmv.1 hmv.2 p1 p2 p3 h3,λE1 H1 k=>rest E1 H1 (BF k λE2 H2 k2=>?_)⟩
    rw[Gj _ _ Gz];exact Gf _ _ k2
def Ek(ops:Array Oper)(k:Nat):List Nat:=
 (JC ops.size).foldl (λU j=>match ops[j]? with
  |some oj=>(match Cu j k||oj.after.any (λe=>H4 .any e&&A4 U e.on)with|true=>j::U|false=>U)
  |none=>U) []
def qQ(ops:Array Oper)(we:List Nat)(listed:Array Bool)(k:Nat)(U:List Nat):Bool:=
 match ops[k]? with
 |none=>false
 |some ok=>A4 U k&&(JC ops.size).all (λj=>(!A4 U j||(!listed.getD j false))&&match ops[j]? with
   |none=>true
   |some oj=>(match A4 U j with
    |true=>Cu j k||oj.after.any (λe=>H4 .any e&&A4 U e.on)
    |false=>listed.getD j true||((!A4 we j||(BU ok&&yU oj))&&ok.apart ops oj)))&&U.all λj=>decide (j<ops.size)
def oV(ops:Array Oper)(we:List Nat):Nat→Nat→Array Bool→Bool
 |0,_,listed=>(DC .any ops listed).isEmpty
 |fuel+1,k,listed=>(match A4 we k with
  |true=>(DC .any ops listed == [k])
  |false=>(DC .any ops listed).contains k&&qQ ops we listed k (Ek ops k))&&oV ops we fuel (k+1) (listed.setIfInBounds k true)
def qZ(ops:Array Oper)(we:List Nat):Bool:=oV ops we ops.size 0 (Gu ops.size false)
theorem G9:∀{l:List Nat}{n:Nat},A4 l n=true→n∈l
 |[],_,h=>by cases h
 |x::l,n,h=>by
  unfold A4 at h;split at h;·rename_i hb;rw[AO hb];simp
  ·exact D0 _ (G9 h)
theorem S9(hT:BL P T):∀(l:List Oper)(k:Nat)(listed:Array Bool)(E:List AV)(H:List HO),(∀j,l[j]?=ops[k+j]?)→
  oV ops we l.length k listed=true→xH P T ops.toList n0 we k l E H K X→De P T ops n0 we K X l.length listed E H
 |[],k,listed,E,H,_,hB,h=>by
  unfold De;unfold xH at h;exact λ_=>⟨by simpa[oV]using hB,h⟩
 |o::l,k,listed,E,H,hl,hB,h=>by
  have h0:ops[k]?=some o:=by simpa using (hl 0).symm
  have Bq:∀j,l[j]?=ops[k+1+j]?:=λj=>by have:=hl (j+1);simpa[Nat.add_assoc,Nat.add_comm 1 j]using this
  simp only[Ix,oV,Bv]at hB;obtain⟨Nx,kG⟩:=hB;unfold xH at h;cases hw:A4 we k with
  |false=>
   rw[hw]at h Nx;simp only[Bv]at Nx h;obtain⟨hr,hf⟩:=Nx;unfold qQ at hf;rw[h0]at hf;simp only[Bv,D5,List.mem_range]at hf;obtain⟨⟨vW,B7⟩,AR⟩:=hf;have lt:∀j,A4 (Ek ops k) j=true→j<ops.size:=λj hj=>by simpa using AR j (G9 hj)
   refine Ta hT h0 hw (U:=A4 (Ek ops k)) vW (λj oj hu PL Ei=>?_) l.length listed E H (λj hu=>?_) (λj oj Ei hu TO=>?_) (by simpa using hr) (BF h λE' H' h'=>S9 hT l (k+1) _ E' H' Bq kG h')
   ·have:=(B7 j (lt j hu)).2;rw[Ei]at this;simp only[hu]at this;simp only[Ju]at this;rcases this with h1|h1;·exact absurd (AO h1) PL
    ·obtain⟨e,he,h2⟩:=Array.any_eq_true'.1 h1;simp only[Bv]at h2;exact⟨e,he,h2⟩
   ·have:=(B7 j (lt j hu)).1;simpa[hu]using this
   ·have U0:=(Cf.1 Ei).1;have:=(B7 j U0).2;rw[Ei]at this;simp only[hu]at this;simp only[TO,Ju,Bv,Bool.not_eq_true',Bool.false_eq_true,false_or]at this;simpa using this
  |true=>
   rw[hw]at h Nx;simp only at h Nx;have hr:DC .any ops listed=[k]:=by simpa using Nx
   unfold De;intro hs;refine⟨λh0=>(by rw[hr]at h0;cases h0),λj hj=>?_⟩
   rw[hr]at hj;obtain rfl:j=k:=by simpa using hj
   unfold Vd;rw[h0];simp only;rw[hw];simp only
   exact⟨_,h,λE1 H1 hh=>S9 hT l (j+1) _ E1 H1 Bq kG hh⟩
def Zad(im:List Nat)(i:Nat):HO:=match A4 im i with|true=>.ghost [] [] []|false=>.dead
def VG(im:List Nat)(n:Nat):List HO:=(JC n).map (Zad im)
theorem Xw(n:Nat):VG [] n=EN n .dead:=by
 unfold VG Zad A4;rw[List.map_const',List.length_range]
theorem nU{im:List Nat}{n l:Nat}{ob:HO}(h:(VG im n)[l]?=some ob):ob=.dead∨ob=.ghost [] [] []:=by
 have:=List.mem_of_getElem? h;unfold VG at this;obtain⟨i,_,rfl⟩:=List.mem_map.1 this;unfold Zad;split<;>simp
theorem Az.pad(h:Az G C mu E H a w)(im:List Nat)(n:Nat):Az G C mu E (H++VG im n) a w:=by
 have key:∀{l:Nat}{ob:HO},(H++VG im n)[l]?=some ob→(ob=.dead∨ob=.ghost [] [] [])∨H[l]?=some ob:=λ{l ob} hl=>by
  by_cases AR:l<H.length;·rw[C4 AR]at hl;exact .inr hl
  ·rw[E9 (by omega)]at hl
   exact .inl (nU hl)
 refine⟨h.c0,h.c1,h.lt,⟨λl g hm=>?_,h.heap.fresh,h.heap.sep,λl hl=>?_,λl cs hl=>?_,λl e sz es hl=>?_,λl ks vs hl=>?_⟩,h.env,?_,h.Aq,by have:=h.CA.1;simp;omega,h.CA.2⟩
 rotate_right
 ·obtain⟨ms,k1,k2⟩:=h.defers;refine⟨ms,k1,⟨λl cs vs Ds hl=>?_,λl I hl=>?_,k2.marks,k2.nd,λl l' cs vs oO cs' BV Tk hl Bq Bu D hD=>?_⟩⟩
  ·rcases key hl with (hl|hl)|hl;·cases hl
   ·simp only[HO.ghost.injEq]at hl;obtain⟨rfl,rfl,rfl⟩:=hl;exact⟨by unfold Aa;rfl,JA,λD hD=>by cases hD⟩
   ·exact k2.Bc l cs vs Ds hl
  ·rcases key hl with (hl|hl)|hl;·cases hl
   ·cases hl
   ·obtain⟨e0,Sw,Sr,f1,f2,f3,f4⟩:=k2.Gx l I hl;refine⟨e0,Sw,Sr,f1,f2,f3,λl' cs vs Ds Bq D hD=>?_⟩
    rcases key Bq with (Bq|Bq)|Bq;·cases Bq
    ·simp only[HO.ghost.injEq]at Bq;rw[Bq.2.2]at hD;cases hD
    ·exact f4 l' cs vs Ds Bq D hD
  ·rcases key hl with (hl|hl)|hl;·cases hl
   ·simp only[HO.ghost.injEq]at hl;rw[hl.2.2]at hD;cases hD
   ·rcases key Bq with (Bq|Bq)|Bq;·cases Bq
    ·simp only[HO.ghost.injEq]at Bq;rw[Bq.2.2];simp
    ·exact k2.sep l l' cs vs oO cs' BV Tk hl Bq Bu D hD
 ·have:=h.heap.HH l g hm;rw[List.length_append];omega
 ·by_cases AR:l<H.length;·rw[C4 AR]at hl;exact h.heap.dead l hl
  ·cases hm:mu l with
   |none=>rfl
   |some g=>exact absurd (h.heap.HH l g hm) AR
 ·rcases key hl with (hl|hl)|hl;·cases hl
  ·cases hl
  ·exact h.heap.Cm l cs hl
 ·rcases key hl with (hl|hl)|hl;·cases hl
  ·cases hl
  ·exact h.heap.BJ l e sz es hl
 ·rcases key hl with (hl|hl)|hl;·cases hl
  ·cases hl
  ·exact h.heap.maps l ks vs hl
theorem Ac.P0{id:Nat}(im we:List Nat)(hT:BL P T)(hm:P.follows .mixedOrders=true)(hB:qZ ops we=true)
  (h:xH P T ops.toList H.length we 0 ops.toList E (H++VG im ops.size) K X):Ac P (.region id ops true) E H K X:=by
 refine⟨λn G a w hP Ah=>?_⟩
 subst hP;obtain⟨C,mu,Ah⟩:=Ah;have CM:Az G C mu E H a w.drew:=Ah.drew;have fA:=CM.pad im ops.size;have h1:=S9 (ops:=ops) (n0:=H.length) (we:=we) (K:=K) (X:=X) hT ops.toList 0 (Gu ops.size false) E _ (by simp) (by simpa[qZ]using hB) h
 refine wpIn_region_any hm ?_;have h2:=Hl (r:=G.rd) (n:=n) hT _ _ _ _ a _ h1 ⟨C,mu,fA⟩;simpa using h2
theorem Ac.draw{id:Nat}(we:List Nat)(hT:BL P T)(hm:P.follows .mixedOrders=true)(hB:qZ ops we=true)
  (h:xH P T ops.toList H.length we 0 ops.toList E (H++EN ops.size .dead) K X):Ac P (.region id ops true) E H K X:=
 Ac.P0 [] we hT hm hB (by rw[Xw];exact h)
end
end Go.Av