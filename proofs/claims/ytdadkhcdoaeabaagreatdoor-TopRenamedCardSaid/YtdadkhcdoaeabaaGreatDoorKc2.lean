/- AV: one operation. -/
import Derived.Test.YtdadkhcdoaeabaaGreatDoorKa2
import Derived.RangeFuncNested
import Derived.RangeFuncLeaves
import Derived.RangeFuncCalls
import Derived.TacticsIn
import Derived.OrdersIn
import Derived.ProofKit
import Derived.Below
import Derived.ChangeSame
import Derived.Deep.Slices
set_option linter.unusedVariables false
set_option maxRecDepth 100000
set_option linter.unusedSectionVars false
set_option linter.unusedSimpArgs false
open Go.Op renaming operands → Ak
open Array renaming getElem?_eq_some_iff → CM, replicate → QJ, mapM_eq_mapM_toList → U9, setIfInBounds_comm → Vv
open Bool renaming and_eq_true → D0, or_eq_true → Xan
open Nat renaming eq_of_beq_eq_true → Eg, lt_of_lt_of_le → Kr, le_trans → K2, beq → Ll, le_refl → PC, mul_le_mul_right → SG, le_of_ble_eq_true → VC, add_zero → XW, lt_irrefl → Xaa, blt → Xae, lt_or_ge → Xag, not_lt_zero → Xal
open Go.World renaming putObj_heap_other → E8, cells?_some → Xaf
open List renaming getElem?_set_ne → Ff, getElem?_eq_some_iff → Fl, mem_cons_of_mem → F0, getElem?_append_left → Kx, mem_cons → KF, getElem?_eq_getElem → KT, getElem?_set_self → Li, getElem_mem → LA, mem_append_left → Mx, getElem?_cons_zero → Nw, all_eq_true → ND, mem_append_right → NF, replicate → N0, nodup_cons → Py, mem_map → PR, getElem?_eq_none → Ql, mem_append → Rj, nodup_nil → Rr, perm_append_comm → Sh, map_congr_left → Ts, getElem?_append_right → Uj, getD_eq_getElem?_getD → Uk, cons_append → Vz, getElem_set_self → VA, append_nil → X1, mem_of_getElem? → X2, mem_range → X8, getElem_set_ne → Yx, map_cons → Z4, all_cons → Z8, set_comm → Z9, getElem_drop → Xab, getElem?_map → Xac, range → Xad, length_cons → Xaj, perm_middle → Xak, mapM_cons → Xao, Perm → Xar
open Option renaming some → Ji
open Go.Region renaming wanted → K0, ready → Qo, binds → Xai
open Go.Result renaming andThen_ok → Qs
open Go.Value renaming oneCell' → RR, okWide → Sk, func → Vw
open Go.Sem renaming run_bind → Ul, run_pure → Xah
open Go.Oper renaming looksAt → Uo, wp → Yg, uponIn → Yu, apart_spec → Xam, semAt_eq → Xap
open Prod renaming fst → Xaq
namespace Go.Av
open Go.RowKit (Below)
inductive AE where
 |exit (id:Nat)
 |ret
 |panic (x:AV)
abbrev XX:=AE->KK
def Cq(P:Program)(f:FuncId):Bool:=match P.funcs[f]? with|some fn=>fn.body.isSome&&fn.name != "runtime.NumGoroutine"|none=>false
structure Aj(P:Program)(f:FuncId)(args:List AV)(E:List AV)(H:List HO)(K:AV->KK)(X:XX):Prop where
 Eh:Cq P f=true
 out:∀(G:Cx) C mu (a:Act) (w:World) (vs:List Value),G.P=P->Az G C mu E H a w->Ab C w args mu vs->
  Calls P f vs.toArray w λe w'=>
   (∃r v E' H' C' mu',e=.returned v/\K r E' H'/\Az G C' mu' E' H' a w'/\Ah C' w' r mu' v)\/
   (∃x v E' H' C' mu',e=.panicked [{v,recovered:=false}]/\X (.panic x) E' H'/\Az G C' mu' E' H' a w'/\Ah C' w' x mu' v)
def bP{α:Type}:List α->List α->(List α->Prop)->Prop
 |[],m,K=>K m
 |x::l,m,K=>bP l m λr=>K (x::r)
theorem Db{α:Type}:∀(l m:List α)(K:List α->Prop),bP l m K↔K (l++m)
 |[],_,_=>by simp[bP]
 |x::l,m,K=>by simp[bP,Db l m]
def fw(r:Option Nat):Fence:={Fence.wide with round:=r}
structure U7(P:Program)(v:Value)(as:List AV)(I It If:Inv):Prop where
 eqs:It.Cb=I.Cb/\It.nb=I.nb/\If.Cb=I.Cb/\If.nb=I.nb
 out:∃l,v=.func (.yield l) #[] #[]/\∀(C:Ae)(w:World)(us:List Value)(Sw Sr:Nat->Prop)(n:Nat),(∀b o,C b o->b<w.heap.size)->(∀b o,C b o->I.Cb b o\/I.nb<=b)->I.nb<=w.heap.size->(∀b o,Sw b->¬C b o)->(∀b,Sw b->Sr b)->(∀b,Sr b->b<w.heap.size)->
  I.J Sw Sr w->Ab C w as Mu.none us->YieldAt (fw none) n P l us.toArray w λe w'=>∃HM FB,NP (λb=>b<w.heap.size/\¬Sw b) w w'/\(∀b,HM b->Sw b\/w.heap.size<=b)/\(∀b,FB b->Sr b\/w.heap.size<=b\/∃o,C b o)/\
   (∀b,HM b->FB b)/\(∀b,FB b->b<w'.heap.size)/\((e=.returned (.bool true)/\It.J HM FB w')\/(e=.returned (.bool false)/\If.J HM FB w'))
def rI(P:Program)(v:Value)(as:List AV)(E:List AV)(H:List HO)(K:AV->KK):Prop:=
 An as=true/\Cm H 0 λob=>match ob with
  |.inv I=>∃It If,U7 P v as I It If/\FI H 0 (.inv It) (λH'=>K (.lit true) E H')/\FI H 0 (.inv If) (λH'=>K (.lit false) E H')
  |_=>False
def WL:List (Nat×List AV)->Nat->List AV
 |[],_=>[]
 |x::r,g=>match Ll x.1 g with|true=>x.2|false=>WL r g
theorem aR{C:Ae}{w:World}{g:Nat}:∀(l:List (Nat×List AV)),(∀x∈l,Cells C w x.2 x.1 0)->Cells C w (WL l g) g 0
 |[],_=>by unfold WL Cells;trivial
 |x::r,h=>by
  unfold WL;split
  ·rename_i hb;have:=Eg hb;subst this;exact h x (by simp)
  ·exact aR r λy hy=>h y (F0 _ hy)
def Ty(al:Option Nat)(P:Program)(T:List TY)(E:List AV)(H:List HO)(o:Op)(K:AV->KK)(X:XX):Prop:=
 match o with
 |.box _ x=>Zef al E H x K
 |.alloc t=>NN al T E H t K
 |.store t a x=>De E a λp=>(match p with
  |.el _ _ _ _=>De E x λv=>WM v E H λE H=>Cj T E H t a x K
  |_=>Cj T E H t a x K)
 |.build t parts=>HI T E t parts.toList λv=>K v E H
 |.buildSlice t n parts=>(match al with
  |none=>L6 parts.toList E H λE H=>Gx none T E H t n parts.toList K
  |some s=>Gx (some s) T E H t n parts.toList K)
 |.makeSlice t l c=>Ny al T E H t l c K
 |.panic x=>De E x λv=>(match v with|.iface t y=>X (.panic (.iface t y)) E H|_=>False)
 |.convert s d x=>De E x λu=>(match u with
  |.int k n=>Jo T s d (.int k n) λv=>K v E H
  |.str l=>Cm T d λyd=>(match yd.k with
   |.string=>Jo T s d (.str l) λv=>K v E H
   |_=>UT T E H s d x K)
  |_=>UT T E H s d x K)
 |.call c=>match c.callee with
  |.builtin .len|.builtin .min=>Bj T E H (.call c) λv=>K v E H
  |.builtin .clear=>(match c.args.toList,c.argTypes.toList with
   |[x],[t]=>iS T E H t x K
   |_,_=>False)
  |.builtin .append=>(match c.args.toList,c.argTypes.toList with
   |[s,x],[t,t']=>Ft al T E H t t' s x K
   |_,_=>False)
  |.value f=>De E f λfv=>(match fv with
   |.fn f cap=>GY (De E) c.args.toList λas=>bP as cap λas=>Aj P f as E H K X
   |.mv f fs=>GY (De E) c.args.toList λas=>bP fs as λas=>Aj P f as E H K X
   |.raw v=>GY (De E) c.args.toList λas=>rI P v as E H K
   |_=>False)
  |_=>False
 |.load t (.global g)=>ON T H t (.at_ (WL O6 g)) λv=>K v E H
 |.makeMap _ r=>(match r with|none=>TZ al E H K|some _=>False)
 |.mapUpdate t m k x|.insert t m k x=>XI T E H t m k x K
 |o=>Bj T E H o λv=>K v E H
section
variable {G:Cx}{C:Ae}{w w':World}{mu:Mu}{H:List HO}{E:List AV}{a:Act}{T:List TY}
def Mg(G:Cx)(K:KK)(X:XX):Exit->Act->World->Prop
 |.normal,a,w=>∃E H,K E H/\St G E H a w
 |.exit id,a,w=>∃E H,X (.exit id) E H/\St G E H a w
 |.ret,a,w=>∃E H,X .ret E H/\St G E H a w
 |.panic chain,a,w=>∃x v E H C mu,chain=[{v,recovered:=false}]/\X (.panic x) E H/\Az G C mu E H a w/\Ah C w x mu v
 |_,_,_=>False
theorem AZ{o:Oper}{s:Sem Value}{w':World}{v:Value}{ρ:Operand->Value}(h:execOp ρ o=(do pure (.value (<-s))))(hs:s.run G.P w=.ok v w'):(execOp ρ o).run G.P w=.ok (.value v) w':=by
 rw[h];simp[hs]
def IQ(G:Cx)(o:Oper)(K:AV->KK)(a:Act)(w:World):Prop:=∃r E' H',K r E' H'/\St G (A6 E' o.dst r) H' a w
theorem AK{o:Oper}{K:AV->KK}{X:XX}{Q:KK}{next:Act->World->Prop}{Qx:Exit->Act->World->Prop}{r:AV}{v:Value}{E':List AV}{H':List HO}{C':Ae}{mu':Mu}{w':World}
  (hn:∀a w,IQ G o K a w->next a w) (hk:K r E' H') (A0:(execOp a.eval o).run G.P w=.ok (.value v) w') (Af:Az G C' mu' E' H' a w') (hr:Ah C' w' r mu' v):o.wp G.P a w next Qx:=by
 unfold Yg;rw[A0];exact hn _ _ ⟨r,E',H',hk,C',mu',Af.frame (Bf Af.env o.dst hr) (put_defers _ _ _)⟩
theorem nV{al:Option Nat}(hT:BG G.P T){o:Oper}{K:AV->KK}{X:XX}{Kn:KK}(h:Ty al G.P T E H o.op K X)(Af:Az G C mu E H a w){next:Act->World->Prop}(hn:∀a w,IQ G o K a w->next a w)
  (hy:¬∃c f v,o.op=.call c/\c.callee=.value f/\AM E f=.raw v):o.wp G.P a w next (Mg G Kn X):=by
 unfold Ty at h;split at h
 case h_1 t x ho=>
  obtain⟨r,v,E',H',C',mu',w',h1,h2,h3,h4⟩:=Zee (t:=t) Af h;exact AK (X:=X) (Q:=Kn) hn h1 (AZ (by simp[execOp,ho]) h2) h3 h4
 case h_2 t ho=>
  obtain⟨r,v,E',H',C',mu',w',h1,h2,h3,h4⟩:=xN hT Af h;exact AK (X:=X) (Q:=Kn) hn h1 (AZ (by simp[execOp,ho]) h2) h3 h4
 case h_3 t ad x ho=>
  obtain⟨E,H,C,mu,h,Af⟩:∃E H C mu,Cj T E H t ad x K/\Az G C mu E H a w:=by
   rw[Ac]at h;split at h
   ·rw[Ac]at h;obtain⟨E',H',C',mu',h1,h2⟩:=lX Af h;exact⟨E',H',C',mu',h1,h2⟩
   ·exact⟨E,H,C,mu,h,Af⟩
  obtain⟨E',H',C',mu',w',h1,h2,h3⟩:=sC hT Af h;unfold Yg;have:(execOp a.eval o).run G.P w=.ok .skip w':=by simp[execOp,ho,h2]
  rw[this];exact hn _ _ ⟨_,E',H',h1,C',mu',h3.frame (Bf h3.env o.dst (by unfold Ah;rfl)) (put_defers _ _ _)⟩
 case h_4 t parts ho=>
  obtain⟨r,v,h1,h2,h3⟩:=xG hT Af.env h;exact AK (X:=X) (Q:=Kn) hn h1 (AZ (by simp[execOp,ho]) h3) Af h2
 case h_5 t n parts ho=>
  obtain⟨al,E,H,C,mu,h,Af⟩:∃al E H C mu,Gx al T E H t n parts.toList K/\Az G C mu E H a w:=by
   split at h
   ·obtain⟨E',H',C',mu',h1,h2⟩:=Rp _ Af h;exact⟨none,E',H',C',mu',h1,h2⟩
   ·exact⟨_,E,H,C,mu,h,Af⟩
  obtain⟨r,v,E',H',C',mu',w',h1,h2,h3,h4⟩:=VK hT Af h;exact AK (X:=X) (Q:=Kn) hn h1 (AZ (by simp[execOp,ho]) h2) h3 h4
 case h_6 t l c ho=>
  obtain⟨r,v,E',H',C',mu',w',h1,h2,h3,h4⟩:=XJ hT Af h;exact AK (X:=X) (Q:=Kn) hn h1 (AZ (by simp[execOp,ho]) h2) h3 h4
 case h_7 x ho=>
  rw[Ac]at h;have hx:=AX Af.env x;split at h
  ·rename_i t y Z5;rw[Z5]at hx;have Mw:=hx;unfold Ah at hx;obtain⟨u,hu,_⟩:=hx;unfold Yg
   have:(execOp a.eval o).run G.P w=.halt (.panic (a.eval x)) w:=by
    simp[execOp,ho,hu,Instr.panic]
   rw[this];exact⟨_,_,E,H,C,mu,rfl,h,Af,Mw⟩
  ·exact h.elim
 case h_8 s d x ho=>
  rw[Ac]at h
  have eff:UT T E H s d x K->o.wp G.P a w next (Mg G Kn X):=λh=>by
   obtain⟨r,v,E',H',C',mu',w',h1,h2,h3,h4⟩:=xF hT Af h;exact AK (X:=X) (Q:=Kn) hn h1 (AZ (by simp[execOp,ho]) h2) h3 h4
  have hx:=AX Af.env x;split at h
  ·rename_i k n Z5;rw[Z5]at hx;obtain⟨r,v,h1,h2,h3⟩:=Tf hT hx h;exact AK (X:=X) (Q:=Kn) hn h1 (AZ (by simp[execOp,ho]) h3) Af h2
  ·rename_i l Z5;rw[Z5]at hx;replace h:=AL.1 h;obtain⟨yd,hyd,h⟩:=h
   split at h
   ·obtain⟨r,v,h1,h2,h3⟩:=Tf hT hx h;exact AK (X:=X) (Q:=Kn) hn h1 (AZ (by simp[execOp,ho]) h3) Af h2
   ·exact eff h
  ·exact eff h
 case h_9 c ho=>
  split at h
  ·rename_i hc;obtain⟨r,v,h1,h2,h3⟩:=Np hT Af.heap Af.env (o:=o) (by rw[ho];exact h)
   exact AK (X:=X) (Q:=Kn) hn h1 h3 Af h2
  ·rename_i hc;obtain⟨r,v,h1,h2,h3⟩:=Np hT Af.heap Af.env (o:=o) (by rw[ho];exact h)
   exact AK (X:=X) (Q:=Kn) hn h1 h3 Af h2
  ·rename_i hc;split at h
   ·rename_i x t h1 h2;obtain⟨cK,args,Jt⟩:=c;simp only at hc h1 h2;subst hc;obtain rfl:args=#[x]:=by cases args;simp_all
    obtain rfl:Jt=#[t]:=by cases Jt;simp_all
    obtain⟨r,v,E',H',C',mu',w',k1,k2,k3,k4⟩:=xB (ty:=o.type) hT Af h;exact AK (X:=X) (Q:=Kn) hn k1 (by simp[execOp,ho,resolve,invoke,builtin,k2]) k3 k4
   ·exact h.elim
  ·rename_i hc;split at h
   ·rename_i s x t t' h1 h2;obtain⟨cK,args,Jt⟩:=c;simp only at hc h1 h2;subst hc;obtain rfl:args=#[s,x]:=by cases args;simp_all
    obtain rfl:Jt=#[t,t']:=by cases Jt;simp_all
    obtain⟨r,v,E',H',C',mu',w',k1,k2,k3,k4⟩:=qO (ty:=o.type) hT Af h;exact AK (X:=X) (Q:=Kn) hn k1 (by simp[execOp,ho,resolve,invoke,builtin,k2]) k3 k4
   ·exact h.elim
  ·rename_i f hc;rw[Ac]at h;have hf:=AX Af.env f;split at h
   ·rename_i fi cap Yw;rw[Yw]at hf;rw[C7 (De E) (AM E) (Ac E),Db]at h;unfold Ah at hf;obtain⟨vs,hfv,HR⟩:=hf;have Ro:Ab C w (c.args.toList.map (AM E)++cap) mu (c.args.toList.map a.eval++vs):=AF (L1 Af.env _) HR;have hg:=h.Eh;unfold Cq at hg;cases MQ:G.P.funcs[fi]? with
    |none=>rw[MQ]at hg;cases hg
    |some fn=>
     rw[MQ]at hg;simp only[D0]at hg
     have A0:(execOp a.eval o).run G.P w=.ok (.enter fi (c.args.toList.map a.eval++vs).toArray) w:=by
      obtain⟨cK,args,Jt⟩:=c;simp only at hc;subst hc;have Bq:fn.name ≠ "runtime.NumGoroutine":=by simpa using hg.2
      have hb:fn.body≠none:=by cases hh:fn.body<;>simp_all
      simp[execOp,ho,resolve,invoke,hfv,Deferred.ofValue,callFunc,MQ,Bq,hb]
     unfold Yg;rw[A0];refine(h.out G C mu a w _ rfl Af Ro).mono λe NR hp=>?_
     rcases hp with⟨r,v,E',H',C',mu',rfl,k1,k2,k3⟩|⟨x,v,E',H',C',mu',rfl,k1,k2,k3⟩;·exact hn _ _ ⟨r,E',H',k1,C',mu',k2.frame (Bf k2.env o.dst k3) (put_defers _ _ _)⟩
     ·exact⟨x,v,E',H',C',mu',rfl,k1,k2,k3⟩
   ·rename_i fi cap Yw;rw[Yw]at hf;rw[C7 (De E) (AM E) (Ac E),Db]at h;unfold Ah at hf;obtain⟨vs,hfv,HR⟩:=hf;have Ro:Ab C w (cap++c.args.toList.map (AM E)) mu (vs++c.args.toList.map a.eval):=AF HR (L1 Af.env _);have hg:=h.Eh;unfold Cq at hg;cases MQ:G.P.funcs[fi]? with
    |none=>rw[MQ]at hg;cases hg
    |some fn=>
     rw[MQ]at hg;simp only[D0]at hg
     have A0:(execOp a.eval o).run G.P w=.ok (.enter fi (vs++c.args.toList.map a.eval).toArray) w:=by
      obtain⟨cK,args,Jt⟩:=c;simp only at hc;subst hc;have Bq:fn.name ≠ "runtime.NumGoroutine":=by simpa using hg.2
      have hb:fn.body≠none:=by cases hh:fn.body<;>simp_all
      simp[execOp,ho,resolve,invoke,hfv,Deferred.ofValue,callFunc,MQ,Bq,hb]
     unfold Yg;rw[A0];refine(h.out G C mu a w _ rfl Af Ro).mono λe NR hp=>?_
     rcases hp with⟨r,v,E',H',C',mu',rfl,k1,k2,k3⟩|⟨x,v,E',H',C',mu',rfl,k1,k2,k3⟩;·exact hn _ _ ⟨r,E',H',k1,C',mu',k2.frame (Bf k2.env o.dst k3) (put_defers _ _ _)⟩
     ·exact⟨x,v,E',H',C',mu',rfl,k1,k2,k3⟩
   ·rename_i v Yw;exact absurd ⟨c,f,v,ho,hc,Yw⟩ hy
   ·exact h.elim
  ·exact h.elim
 case h_10 t g ho=>
  have hr:Ah C w (.at_ (WL O6 g)) mu (a.eval (.global g)):=by
   unfold Ah;exact⟨g,0,rfl,aR _ Af.qI.gl⟩
  obtain⟨r,v,h1,h2,h3⟩:=PM hT Af.heap hr h;exact AK (X:=X) (Q:=Kn) hn h1 (AZ (by simp[execOp,ho]) h3) Af h2
 case h_11 t r ho=>
  split at h
  ·obtain⟨r,v,E',H',C',mu',w',h1,h2,h3,h4⟩:=fM (t:=t) Af h;exact AK (X:=X) (Q:=Kn) hn h1 (AZ (by simp[execOp,ho]) h2) h3 h4
  ·exact h.elim
 case h_12 t m k x ho=>
  obtain⟨E',H',C',mu',w',h1,h2,h3⟩:=Wz hT Af h;unfold Yg;have:(execOp a.eval o).run G.P w=.ok .skip w':=by simp[execOp,ho,h2]
  rw[this];exact hn _ _ ⟨_,E',H',h1,C',mu',h3.frame (Bf h3.env o.dst (by unfold Ah;rfl)) (put_defers _ _ _)⟩
 case h_13 t m k x ho=>
  obtain⟨E',H',C',mu',w',h1,h2,h3⟩:=Wz hT Af h;unfold Yg;have:(execOp a.eval o).run G.P w=.ok .skip w':=by simp[execOp,ho,h2]
  rw[this];exact hn _ _ ⟨_,E',H',h1,C',mu',h3.frame (Bf h3.env o.dst (by unfold Ah;rfl)) (put_defers _ _ _)⟩
 case h_14=>
  obtain⟨r,v,h1,h2,h3⟩:=Np hT Af.heap Af.env (o:=o) h;exact AK (X:=X) (Q:=Kn) hn h1 h3 Af h2
theorem Bz{P:Program}{o:Oper}{a:Act}{w:World}{r:Option Nat}{n:Nat}{next:Act->World->Prop}{Q:Exit->Act->World->Prop}(Qp:∀c,o.op≠.defer c)(h:o.wp P a w next Q):o.wpIn (fw r) n P a w next Q:=by
 refine⟨λ_ _=>trivial,?_⟩
 rw[Xap _ _ _ Qp];unfold Yg at h;generalize (execOp a.eval o).run P w=res at h;cases res with
 |ok x w'=>
  cases x<;>simp only[Oper.upon]at h<;>simp only[Yu]<;>first|exact h.elim|exact h|skip
  ·exact⟨λhd=>(by cases hd),(callsIn_wide (n:=n-1)).2 h⟩
  ·refine⟨λhd=>(by cases hd),λc cs _=>?_⟩
   obtain⟨v,NR,k1,k2⟩:=h c cs;exact⟨v,NR,k1,stepsIn_wide.2 k2⟩
 |halt x w'=>cases x<;>simp only[Oper.upon]at h<;>simp only[Yu]<;>first|exact h.elim|exact h
theorem rH{v:Value}{as us:List AV}{vs:List Value}{K:AV->KK}(h:rI G.P v as E H K)(Af:Az G C mu E H a w)(hr:Ab C w as mu vs):
  ∃l,v=.func (.yield l) #[] #[]/\∀n,YieldAt (fw none) n G.P l vs.toArray w λe w'=>∃r u H',e=.returned u/\K r E H'/\Az G C mu E H' a w'/\Ah C w' r mu u:=by
 obtain⟨hc,h⟩:=h;replace h:=AL.1 h;obtain⟨ob,Bh,h⟩:=h
 cases ob<;>first|exact h.elim|skip
 rename_i I;obtain⟨It,If,⟨eqs,l,hv,hy⟩,h1,h2⟩:=h;rw[AG]at h1 h2;obtain⟨ms,d1,d2⟩:=Af.defers;obtain⟨_,Sw,Sr,hf,hJ,hD1,hD2⟩:=d2.Hz 0 I Bh;have h0:0<H.length:=(Fl.1 Bh).1;refine⟨l,hv,λn=>?_⟩
 obtain⟨fn,tmps,assign,body,y1,y2⟩:=hy C w vs Sw Sr n Af.lt hf.cb hf.base hf.KA hf.sub hf.lt hJ (A8 as hc hr);refine⟨fn,tmps,assign,body,y1,y2.mono λe w' ⟨HM,FB,q1,q2,q3,q4,q5,q6⟩=>?_⟩
 have hx:Ext C C w w':=Ext.of_block (λ_ _ h=>h) λb o hc=>q1.block b ⟨Af.lt b o hc,λhs=>hf.KA b o hs hc⟩
 have FY:∀{i g b},mu i=some g->g.Aq=some b->w'.heap[b]?=w.heap[b]?:=λ{i g b} hi hg=>q1.block b ⟨(Af.heap.fresh i g b hi hg).2.1,λhs=>hf.own b (hf.sub b hs) i g hi hg⟩
 have key:∀(In:Inv),In.Cb=I.Cb->In.nb=I.nb->In.J HM FB w'->Az G C mu E (H.set 0 (.inv In)) a w':=λIn eq1 qD hIn=>by
  have get:∀{i TI},(H.set 0 (.inv In))[i]?=some TI->(i=0/\TI=.inv In)\/(H[i]?=some TI):=λ{i TI} hi=>by
   by_cases e:0=i;·subst e;rw[Li h0]at hi;simp only[Ji.injEq]at hi;exact .inl ⟨rfl,hi.symm⟩
   ·rw[Ff e]at hi;exact .inr hi
  have Rm:∀D:Nat×Obj,¬Sr D.1->CG C w G.fresh mu D->CG C w' G.fresh mu D:=λD hd m=>by
   refine⟨?_,m.KA,m.own,m.fr⟩;rw[q1.block D.1 ⟨(CM.1 m.at_).1,λhs=>hd (hf.sub D.1 hs)⟩];exact m.at_
  have DG:∀D:Nat×Obj,¬Sr D.1->CG C w G.fresh mu D->¬FB D.1:=λD hd m hs=>by
   rcases q3 D.1 hs with k|k|⟨o,k⟩;·exact hd k
   ·have:=(CM.1 m.at_).1;omega
   ·exact m.KA o k
  have gg:∀{i:Nat}{cs:List AV}{us:List Value}{DE:List Nat},(H.set 0 (.inv In))[i]?=some (.ghost cs us DE)->H[i]?=some (.ghost cs us DE):=λ{i cs us DE} hi=>by
   rcases get hi with⟨_,h⟩|h;·cases h
   ·exact h
  have WH:(∀D∈ms.map (λD=>(D,GL))++G.MJ,¬FB D.1)/\∀(l:Nat)(cs:List AV)(vs:List Value)(DE:List Nat),(H.set 0 (.inv In))[l]?=some (.ghost cs vs DE)->∀D∈DE,¬FB D:=
   ⟨λD hd=>DG D (hD1 D hd) (d2.marks D hd),λl cs vs DE hl D hd=>DG (D,GL) (hD2 l cs vs DE (gg hl) D hd) ((d2.Bl l cs vs DE (gg hl)).2.2 D hd).1⟩
  refine⟨Af.c0,Af.c1,λb o hc=>Kr (Af.lt b o hc) q1.size,⟨λi g hi=>by simpa using Af.heap.Is i g hi,λi g b hi hg=>?_,Af.heap.sep,λi hi=>?_,λi cs hi=>?_,λi e sz es hi=>?_,λi ks vs hi=>?_⟩,
   Ab.mono hx _ (AI.refl _) Af.env,⟨ms,d1,λi cs us DE hi=>?_,λi I' hi=>?_,λd hd=>Rm d (hD1 d hd) (d2.marks d hd),d2.nd,λl l' cs vs ms cs' BY DE hl Bm Bq=>d2.sep l l' cs vs ms cs' BY DE (gg hl) (gg Bm) Bq⟩,?_,by simpa using Af.Ds.1,Af.Ds.2⟩
  ·obtain⟨k1,k2,k3⟩:=Af.heap.fresh i g b hi hg;exact⟨k1,Kr k2 q1.size,k3⟩
  ·rcases get hi with⟨_,h⟩|h;·cases h
   ·exact Af.heap.dead i h
  ·rcases get hi with⟨_,h⟩|h;·cases h
   ·obtain⟨b,cur,e,k1,k2,k3,k4⟩:=Af.heap.Cr i cs h;exact⟨b,cur,e,k1,by rw[FY k1 rfl];exact k2,Ab.mono hx _ (AI.refl _) k3,k4⟩
  ·rcases get hi with⟨_,h⟩|h;·cases h
   ·obtain⟨k0,k⟩:=Af.heap.BM i e sz es h;refine⟨k0,k.imp id λ⟨b,cap,cur,k1,k2,k3,k4,k5,k6,k7⟩=>⟨b,cap,cur,k1,k2.of_eq (by rw[FY k1 rfl]),k3,k4,k5,Ab.mono hx _ (AI.refl _) k6,k7⟩⟩
  ·rcases get hi with⟨_,h⟩|h;·cases h
   ·obtain⟨b,es,cl,k1,k2,k3⟩:=Af.heap.maps i ks vs h;exact⟨b,es,cl,k1,by rw[FY k1 rfl];exact k2,k3⟩
  ·rcases get hi with⟨_,h⟩|h;·cases h
   ·obtain⟨k1,k3,k2⟩:=d2.Bl i cs us DE h;exact⟨Ab.mono hx _ (AI.refl _) k1,k3,λd hd=>⟨Rm (d,GL) (hD2 i cs us DE h d hd) (k2 d hd).1,(k2 d hd).2⟩⟩
  ·rcases get hi with⟨rfl,h⟩|h
   ·simp only[HO.inv.injEq]at h;subst h;refine⟨rfl,HM,FB,⟨λb hb=>?_,by rw[qD];exact K2 hf.base q1.size,by rw[eq1,qD];exact hf.cb,by rw[qD];exact hf.ob,q4,q5,λb hb i g hi hg=>?_,λb o hb hc=>?_⟩,hIn,WH⟩
    ·rcases q2 b hb with k|k;·exact hf.fr b k
     ·exact .inl (K2 Af.Ax.size k)
    ·obtain⟨_,k2,k3⟩:=Af.heap.fresh i g b hi hg;rcases q3 b hb with k|k|⟨o,k⟩;·exact hf.own b k i g hi hg
     ·omega
     ·exact k3 o k
    ·rcases q2 b hb with k|k;·exact hf.KA b o k hc
     ·have:=Af.lt b o hc;omega
   ·have hi0:=(d2.Hz i I' h).1;subst hi0;rw[Li h0]at hi;simp only[Ji.injEq,HO.inv.injEq]at hi;subst hi;refine⟨rfl,HM,FB,⟨λb hb=>?_,by rw[qD];exact K2 hf.base q1.size,by rw[eq1,qD];exact hf.cb,by rw[qD];exact hf.ob,q4,q5,λb hb i g hi hg=>?_,λb o hb hc=>?_⟩,hIn,WH⟩
    ·rcases q2 b hb with k|k;·exact hf.fr b k
     ·exact .inl (K2 Af.Ax.size k)
    ·obtain⟨_,k2,k3⟩:=Af.heap.fresh i g b hi hg;rcases q3 b hb with k|k|⟨o,k⟩;·exact hf.own b k i g hi hg
     ·omega
     ·exact k3 o k
    ·rcases q2 b hb with k|k;·exact hf.KA b o k hc
     ·have:=Af.lt b o hc;omega
  ·refine⟨q1.os.trans Af.Ax.os,q1.tape.trans Af.Ax.tape,q1.output.trans Af.Ax.output,K2 Af.Ax.size q1.size,λk hk hm=>?_⟩
   rw[q1.block k ⟨Kr hk Af.Ax.size,λhs=>?_⟩]
   ·exact Af.Ax.block k hk hm
   ·rcases hf.fr k hs with h|h;·omega
    ·exact hm h
 rcases q6 with⟨rfl,hJ'⟩|⟨rfl,hJ'⟩;·exact⟨_,_,_,rfl,h1,key It eqs.1 eqs.2.1 hJ',by unfold Ah;rfl⟩
 ·exact⟨_,_,_,rfl,h2,key If eqs.2.2.1 eqs.2.2.2 hJ',by unfold Ah;rfl⟩
theorem DV{al:Option Nat}(hT:BG G.P T){o:Oper}{K:AV->KK}{X:XX}{Kn:KK}{r:Option Nat}{n:Nat}(h:Ty al G.P T E H o.op K X)(Af:Az G C mu E H a w){next:Act->World->Prop}(hn:∀a w,IQ G o K a w->next a w):
  o.wpIn (fw r) n G.P a w next (Mg G Kn X):=by
 have Qp:∀c,o.op≠.defer c:=λc hc=>by rw[hc]at h;exact h
 by_cases hy:∃c f v,o.op=.call c/\c.callee=.value f/\AM E f=.raw v
 ·obtain⟨c,f,v,ho,hc,Yw⟩:=hy;rw[ho]at h;unfold Ty at h;simp only[hc]at h;rw[Ac,Yw]at h;simp only at h;rw[C7 (De E) (AM E) (Ac E)]at h;have hf:=AX Af.env f;rw[Yw]at hf;have hfv:a.eval f=v:=by unfold Ah at hf;exact hf
  obtain⟨l,rfl,hy⟩:=rH (us:=[]) h Af (L1 Af.env _);refine⟨λ_ _=>trivial,?_⟩
  rw[Xap _ _ _ Qp];obtain⟨fn,tmps,assign,body,y1,y2⟩:=hy (n-1)
  have A0:(execOp a.eval o).run G.P w=.ok (.round l fn tmps assign body) w:=by
   obtain⟨cK,args,Jt⟩:=c;simp only at hc;subst hc;simp only[<-Array.toList_map]at y1;simp[execOp,ho,resolve,invoke,hfv,Deferred.ofValue,y1]
  rw[A0];refine⟨λh=>(by cases h),y2.mono λe w' ⟨r,u,H',he,k1,k2,k3⟩=>?_⟩
  subst he;exact hn _ _ ⟨r,E,H',k1,C,mu,k2.frame (Bf k2.env o.dst k3) (put_defers _ _ _)⟩
 ·exact Bz Qp (nV hT h Af hn hy)
end
def gdK(ops:List Oper)(E:List AV)(g:Option (Nat×Bool))(Ky Kn:List AV->Prop):Prop:=
 match g with
 |none=>Ky E
 |some (j,want)=>Cm ops j λoj=>match oj.dst with
  |some d=>Cm E d λv=>(match v with
   |.lit b=>(match b,want with
    |true,true|false,false=>Ky E
    |true,false=>Kn E
    |false,true=>Kn E)
   |.bool b=>(match want with
    |true=>(b=true->FI E d (.lit true) Ky)/\(b=false->FI E d (.lit false) Kn)
    |false=>(b=false->FI E d (.lit false) Ky)/\(b=true->FI E d (.lit true) Kn))
   |.raw (.tuple ⟨[]⟩)=>Kn E
   |_=>False)
  |none=>False
def Bu(E:List AV)(d:Option Tmp)(x:AV)(K:List AV->Prop):Prop:=match d with|some d=>FI E d x K|none=>K E
theorem Au(E:List AV)(d:Option Tmp)(x:AV)(K:List AV->Prop):Bu E d x K↔K (A6 E d x):=by
 cases d<;>simp[Bu,A6,AG]
def Zi(P:Program)(T:List TY)(ops:List Oper):List Oper->List AV->List HO->KK->XX->Prop
 |[],E,H,K,_=>K E H
 |o::r,E,H,K,X=>gdK ops E o.guard
   (λE=>Ty none P T E H o.op (λv E' H'=>Bu E' o.dst v λHU=>Zi P T ops r HU H' K X) X)
   (λE=>Bu E o.dst (.raw undef) λE'=>Zi P T ops r E' H K X)
structure Aa(P:Program)(c:Code)(E:List AV)(H:List HO)(K:KK)(X:XX):Prop where
 out:∀(n:Nat)(G:Cx)(a:Act)(w:World),G.P=P->St G E H a w->c.wpIn (fw G.rd) n P (Mg G K X) a w
def iU(P:Program)(T:List TY):Code->List AV->List HO->KK->XX->Prop
 |.skip,E,H,K,_=>K E H
 |.region id ops draw,E,H,K,X=>match draw with
  |false=>Zi P T ops.toList ops.toList E H K X
  |true=>Aa P (.region id ops true) E H K X
 |.seq a b,E,H,K,X=>iU P T a E H (λE H=>iU P T b E H K X) X
 |.cond c a b,E,H,K,X=>De E c λv=>match v with
  |.lit t=>(match t with|true=>iU P T a E H K X|false=>iU P T b E H K X)
  |.bool t=>(t=true->iU P T a E H K X)/\(t=false->iU P T b E H K X)
  |_=>False
 |.block id b,E,H,K,X=>iU P T b E H K λe E H=>match e with
  |.exit i=>(match Ll i id with|true=>K E H|false=>X (.exit i) E H)
  |.ret=>X .ret E H
  |.panic x=>X (.panic x) E H
 |.exit id,E,H,_,X=>X (.exit id) E H
 |.ret,E,H,_,X=>X .ret E H
 |.label _,E,H,K,_=>K E H
 |.scope b,E,H,K,X=>iU P T b E H K X
 |c,E,H,K,X=>Aa P c E H K X
section
variable {G:Cx}{C:Ae}{w w':World}{mu:Mu}{H:List HO}{E:List AV}{a:Act}{T:List TY}{P:Program}
theorem Mg.mono{K K':KK}{X X':XX}(hK:∀E H,K E H->K' E H)(hX:∀e E H,X e E H->X' e E H):∀e a w,Mg G K X e a w->Mg G K' X' e a w
 |.normal,_,_,⟨E,H,h1,h2⟩=>⟨E,H,hK _ _ h1,h2⟩
 |.exit _,_,_,⟨E,H,h1,h2⟩|.ret,_,_,⟨E,H,h1,h2⟩=>⟨E,H,hX _ _ _ h1,h2⟩
 |.panic _,_,_,⟨x,v,E,H,C,mu,h1,h2,h3⟩=>⟨x,v,E,H,C,mu,h1,hX _ _ _ h2,h3⟩
 |.goto _,_,_,h=>h
 |.outgrown,_,_,h=>h
theorem Ii{E:List AV}{tmps:Array Value}(h:Ab C w E mu tmps.toList){d:Nat}{x:AV}(hd:E[d]?=some x):∃v,tmps[d]?=some v/\Ah C w x mu v:=by
 obtain⟨h1,h2⟩:=(AH E).1 h;obtain⟨hi,hx⟩:=Fl.1 hd;have Fk:d<tmps.toList.length:=by omega
 refine⟨tmps.toList[d],by simp at Fk⊢,?_⟩
 have:=h2 d hi Fk;rwa [hx]at this
theorem IC{E:List AV}{tmps:Array Value}(h:Ab C w E mu tmps.toList){d:Nat}{v:Value}(hv:tmps[d]?=some v){x:AV}(hx:Ah C w x mu v):Ab C w (E.set d x) mu tmps.toList:=by
 have:=h.put d hx
 have e:tmps.setIfInBounds d v=tmps:=by
  apply Array.ext_getElem?;intro i;rw[Array.getElem?_setIfInBounds];split
  ·rename_i hi;subst hi
   have AP:=(CM.1 hv).1;simp[AP,hv];obtain⟨_,hv⟩:=CM.1 hv;exact hv.symm
  ·rfl
 rwa [e]at this
theorem HE{ops:Array Oper}{g:Option (Nat×Bool)}{o:Oper}(hg:o.guard=g){Ky Kn:List AV->Prop}(Af:Az G C mu E H a w)(h:gdK ops.toList E g Ky Kn):
  (K0 o (yielded ops a.tmps)=true/\∃E',Ky E'/\Az G C mu E' H a w)\/(K0 o (yielded ops a.tmps)=false/\∃E',Kn E'/\Az G C mu E' H a w):=by
 subst hg;unfold gdK at h;split at h
 ·rename_i hg;exact .inl ⟨by simp[K0,hg],E,h,Af⟩
 ·rename_i j want hg;replace h:=AL.1 h;obtain⟨oj,El,h⟩:=h
  split at h
  ·rename_i d hd;replace h:=AL.1 h;obtain⟨v,hv,h⟩:=h
   obtain⟨u,hu,hr⟩:=Ii Af.env hv
   have hy:∀b,u=.bool b->yielded ops a.tmps j=some b:=λb hb=>by
    have:ops[j]?=some oj:=by simpa using El
    simp[yielded,this,hd,hu,hb]
   have hw:∀b,u=.bool b->K0 o (yielded ops a.tmps)=(b == want):=λb hb=>by
    simp[K0,hg,hy b hb]
   have zN:∀b,u=.bool b->Az G C mu (E.set d (.lit b)) H a w:=λb hb=>
    Af.frame (IC Af.env hu (by unfold Ah;exact hb)) rfl
   split at h
   ·rename_i b;have hb:=Bi hr;split at h;·exact .inl ⟨by rw[hw _ hb];rfl,E,h,Af⟩
    ·exact .inl ⟨by rw[hw _ hb];rfl,E,h,Af⟩
    ·exact .inr ⟨by rw[hw _ hb];rfl,E,h,Af⟩
    ·exact .inr ⟨by rw[hw _ hb];rfl,E,h,Af⟩
   ·rename_i b;have hb:=Bg hr;split at h
    ·cases b with
     |true=>have:=h.1 rfl;rw[AG]at this;exact .inl ⟨by rw[hw _ hb];rfl,_,this,zN _ hb⟩
     |false=>have:=h.2 rfl;rw[AG]at this;exact .inr ⟨by rw[hw _ hb];rfl,_,this,zN _ hb⟩
    ·cases b with
     |false=>have:=h.1 rfl;rw[AG]at this;exact .inl ⟨by rw[hw _ hb];rfl,_,this,zN _ hb⟩
     |true=>have:=h.2 rfl;rw[AG]at this;exact .inr ⟨by rw[hw _ hb];rfl,_,this,zN _ hb⟩
   ·have hb:u=.tuple ⟨[]⟩:=by unfold Ah at hr;exact hr
    refine .inr ⟨?_,E,h,Af⟩;have:ops[j]?=some oj:=by simpa using El
    simp[K0,hg,yielded,this,hd,hu,hb]
   ·exact h.elim
  ·exact h.elim
theorem LQ(hT:BG G.P T){r:Option Nat}{n:Nat}{ops:Array Oper}{K:KK}{X:XX}:∀(l:List Oper){C:Ae}{mu:Mu}{E:List AV}{H:List HO}{a:Act}{w:World},Zi G.P T ops.toList l E H K X->Az G C mu E H a w->wpListIn (fw r) n G.P ops (Mg G K X) l a w
 |[],_,_,_,_,_,_,h,Af=>⟨_,_,h,_,_,Af⟩
 |o::l,C,mu,E,H,a,w,h,Af=>by
  unfold Zi at h;unfold wpListIn;rcases HE rfl Af h with⟨hw,E',h1,h2⟩|⟨hw,E',h1,h2⟩
  ·rw[if_pos hw];refine DV hT h1 h2 λa' w' hp=>?_
   obtain⟨x,HU,H',h3,C',mu',h4⟩:=hp;rw[Au]at h3;exact LQ hT l h3 h4
  ·rw[if_neg (by simp[hw])]
   rw[Au]at h1;exact⟨λ_ _=>trivial,LQ hT l h1 (h2.frame (Bf h2.env o.dst (by unfold Ah;rfl)) (put_defers _ _ _))⟩
theorem H3{b:Frame}{a:Act}{k:List Item}{cs:List Frame}{w:World}{c:Code}:step P (lone (b.atR a (.code (.scope c)::k)) cs w)=.next (lone (b.atR a (.code c::.inScope c::k)) cs w):=
 step_lone_go (by simp[stepG,stepG.exec,Frame.atR])
theorem Vj{b:Frame}{a:Act}{k:List Item}{cs:List Frame}{w:World}{c:Code}:step P (lone (b.atR a (.inScope c::k)) cs w)=.next (lone (b.atR a k) cs w):=
 step_lone_go (by simp[stepG,stepG.exec,Frame.atR])
theorem SK{F:Fence}{n:Nat}{Q:Exit->Act->World->Prop}{a:Act}{w:World}{c:Code}(hg:∀l a w,¬Q (.goto l) a w)(h:c.wpIn F n P Q a w):(Code.scope c).wpIn F n P Q a w:=by
 intro b k cs hro hb hr;have h0:(lone (b.atR a (.code (.scope c)::k)) cs w).fenced P F:=fenced_calm hb hr rfl;obtain⟨e,a₁,w₁,hq,ME⟩:=h b (.inScope c::k) cs hro hb hr;cases e with
 |normal=>exact⟨.normal,a₁,w₁,hq,.head h0 H3 (StepsIn.trans ME (.one (fenced_calm hb hr rfl) Vj))⟩
 |exit id=>
  have hx:exitTo id (.inScope c::k)=exitTo id k:=by simp[exitTo]
  exact⟨.exit id,a₁,w₁,hq,λk' hk=>.head h0 H3 (ME.1 k' (by rw[hx];exact hk)),
   λOZ hk=>let ⟨k₁,h1,h2⟩:=ME.2 OZ (by rw[hx];exact hk);⟨k₁,h1,.head h0 H3 h2⟩⟩
 |goto l=>exact absurd hq (hg _ _ _)
 |ret|panic ch|outgrown=>exact⟨_,a₁,w₁,hq,.of_steps (.one h0 H3) ME⟩
theorem BR(hT:BG P T):∀(c:Code){E:List AV}{H:List HO}{K:KK}{X:XX},iU P T c E H K X->Aa P c E H K X
 |.skip,E,H,K,X,h=>⟨λn G a w hP Af=>wpIn_skip ⟨E,H,h,Af⟩⟩
 |.region id ops draw,E,H,K,X,h=>by
  unfold iU at h;cases draw with
  |false=>
   refine⟨λn G a w hP Af=>?_⟩
   obtain⟨C,mu,Af⟩:=Af;subst hP;exact wpIn_region_list (LQ hT _ h Af)
  |true=>exact h
 |.seq x y,E,H,K,X,h=>⟨λn G a w hP Af=>by
  unfold iU at h;refine wpIn_seq (wpIn_mono ((BR hT x h).out n G a w hP Af) λe a w q=>?_)
  cases e with
  |normal=>obtain⟨E',H',h1,h2⟩:=q;exact(BR hT y h1).out n G a w hP h2
  |_=>exact q⟩
 |.cond c x y,E,H,K,X,h=>⟨λn G a w hP Af=>by
  unfold iU at h;rw[Ac]at h;have Ui:=Af;obtain⟨C,mu,CL⟩:=Ui;have hr:=AX CL.env c;split at h
  ·rename_i t hb;rw[hb]at hr;have hv:=Bi hr;cases t with
   |true=>exact wpIn_cond_true hv ((BR hT x h).out n G a w hP Af)
   |false=>exact wpIn_cond_false hv ((BR hT y h).out n G a w hP Af)
  ·rename_i t hb;rw[hb]at hr;have hv:=Bg hr;exact wpIn_cond_split hv (λht=>(BR hT x (h.1 ht)).out n G a w hP Af) (λht=>(BR hT y (h.2 ht)).out n G a w hP Af)
  ·exact h.elim⟩
 |.block id b,E,H,K,X,h=>⟨λn G a w hP Af=>by
  unfold iU at h;refine wpIn_block (wpIn_mono ((BR hT b h).out n G a w hP Af) λe a w q=>?_)
  cases e with
  |normal=>exact q
  |exit i=>
   obtain⟨E',H',h1,h2⟩:=q;simp only[Exit.inBlock];simp only at h1;split at h1
   ·rename_i hb;rw[if_pos (Eg hb)];exact⟨E',H',h1,h2⟩
   ·rename_i hb;rw[if_neg (Nat.ne_of_beq_eq_false hb)];exact⟨E',H',h1,h2⟩
  |ret|panic ch|goto l=>exact q
  |outgrown=>exact q⟩
 |.exit id,E,H,K,X,h=>⟨λn G a w hP Af=>wpIn_exit ⟨E,H,h,Af⟩⟩
 |.ret,E,H,K,X,h=>⟨λn G a w hP Af=>wpIn_ret ⟨E,H,h,Af⟩⟩
 |.loop b,_,_,_,_,h=>h
 |.rangeFunc _ _ _ _,_,_,_,_,h=>h
 |.scope b,E,H,K,X,h=>⟨λn G a w hP Af=>by
  unfold iU at h;exact SK (λl a w q=>q) ((BR hT b h).out n G a w hP Af)⟩
 |.label _,E,H,K,X,h=>⟨λn G a w hP Af=>wpIn_label ⟨E,H,h,Af⟩⟩
 |.goto _,_,_,_,_,h=>h
 |.refuse _,_,_,_,_,h=>h
theorem Aa.mono{c:Code}{K K':KK}{X X':XX}(h:Aa P c E H K X)(hK:∀E H,K E H->K' E H)(hX:∀e E H,X e E H->X' e E H):Aa P c E H K' X':=
 ⟨λn G a w hP Af=>wpIn_mono (h.out n G a w hP Af) (Mg.mono hK hX)⟩
theorem Aa.seq{x y:Code}{K:KK}{X:XX}(h:Aa P x E H (λE H=>Aa P y E H K X) X):Aa P (.seq x y) E H K X:=
 ⟨λn G a w hP Af=>wpIn_seq (wpIn_mono (h.out n G a w hP Af) λe a w q=>by
  cases e with
  |normal=>obtain⟨E',H',h1,h2⟩:=q;exact h1.out n G a w hP h2
  |_=>exact q)⟩
def leA(x y:AV):Prop:=
 match y with
 |.any=>True
 |.int k b=>(match x with|.int k' a=>(match yA k' k with|true=>a=b|false=>False)|_=>False)
 |.bool b=>(match x with|.bool a=>a=b|.lit a=>a=b|_=>False)
 |y=>x=y
def LeE:List AV->List AV->Prop
 |[],[]=>True
 |x::xs,y::ys=>leA x y/\LeE xs ys
 |_,_=>False
theorem Zav{x y:AV}(h:leA x y){v:Value}(hr:Ah C w x mu v):Ah C w y mu v:=by
 unfold leA at h;split at h;·exact Sx v
 ·split at h
  ·split at h;·rename_i hk;obtain rfl:=Qi hk;subst h;exact hr
   ·exact h.elim
  ·exact h.elim
 ·split at h;·subst h;exact hr
  ·subst h;unfold Ah at*;exact hr
  ·exact h.elim
 ·subst h;exact hr
theorem U2:∀{xs ys:List AV}{vs:List Value},LeE xs ys->Ab C w xs mu vs->Ab C w ys mu vs
 |[],[],_,_,h=>h
 |x::xs,y::ys,_,hl,h=>by
  unfold LeE at hl;unfold Ab at*;obtain⟨v,BY,h1,h2,h3⟩:=h;exact⟨v,BY,h1,Zav hl.1 h2,U2 hl.2 h3⟩
 |[],_::_,_,hl,_|_::_,[],_,hl,_=>by unfold LeE at hl;exact hl.elim
theorem St.le{E':List AV}(h:St G E H a w)(hl:LeE E E'):St G E' H a w:=by
 obtain⟨C,mu,h⟩:=h;exact⟨C,mu,h.frame (U2 hl h.env) rfl⟩
def Zaq:Nat->Nat->List (Nat×AV)->List AV
 |0,_,_=>[]
 |n+1,i,[]=>.any::Zaq n (i+1) []
 |n+1,i,(j,v)::l=>match Ll i j with
  |true=>v::Zaq n (i+1) l
  |false=>.any::Zaq n (i+1) ((j,v)::l)
def mk(n:Nat)(l:List (Nat×AV)):List AV:=Zaq n 0 l
def oM:List AV->List AV->Prop->Prop
 |[],[],Q=>Q
 |x::xs,y::ys,Q=>(match y with
  |.any=>oM xs ys Q
  |.int k b=>(match x with|.int k' a=>(match yA k' k with|true=>a=b/\oM xs ys Q|false=>False)|_=>False)
  |.bool b=>(match x with|.bool a=>a=b/\oM xs ys Q|.lit a=>a=b/\oM xs ys Q|_=>False)
  |y=>x=y/\oM xs ys Q)
 |_,_,_=>False
theorem OQ:∀(xs ys:List AV)(Q:Prop),oM xs ys Q->LeE xs ys/\Q
 |[],[],Q,h=>⟨trivial,h⟩
 |x::xs,y::ys,Q,h=>by
  unfold oM at h
  have key:leA x y/\oM xs ys Q:=by
   cases y with
   |any=>exact⟨trivial,h⟩
   |int k b=>
    cases x with
    |int k' a=>
     simp only at h;unfold leA;simp only;split at h;·exact h
     ·exact h.elim
    |_=>exact h.elim
   |bool b=>cases x<;>first|exact h|exact h.elim
   |_=>exact h
  obtain⟨h1,h2⟩:=OQ xs ys Q key.2;exact⟨⟨key.1,h1⟩,h2⟩
 |[],_::_,_,h|_::_,[],_,h=>by unfold oM at h;exact h.elim
theorem NJ(p:Nat->Prop)(h:∃n,p n):∃n,p n/\∀m,p m->n<=m:=by
 obtain⟨n,hn⟩:=h;induction n using Nat.strongRecOn with
 |_ n ih=>
  by_cases hm:∃m,m<n/\p m
  ·obtain⟨m,h1,h2⟩:=hm;exact ih m h1 h2
  ·exact⟨n,hn,λm h=>by
    rcases Xag m n with h'|h';·exact absurd ⟨m,h',h⟩ hm
    ·exact h'⟩
end
structure AO(P:Program)(f:FuncId)(args:List AV)(R:AV->Prop):Prop where
 Eh:Cq P f=true
 out:∀(C:Ae)(w:World)(vs:List Value),cM C w->Ab C w args Mu.none vs->
  Calls P f vs.toArray w λe w'=>∃r v,e=.returned v/\R r/\Below w.heap.size w w'/\Ah (Ld C w.heap.size w'.heap.size) w' r Mu.none v
def CR(H:List HO)(v:AV)(K:AV->Prop):Prop:=
 match v with
 |.own l sz lo n=>Cm H l λob=>(match ob with
  |.arr _ BI es=>(match Ll sz BI&&Ll lo 0 with
   |true=>(n=es.length/\∀e∈es,closed e=true)/\K (.sl sz es)
   |false=>False)
  |_=>False)
 |.raw (.slice none 0 0)=>∃sz,K (.sl sz [])
 |.lit b=>K (.bool b)
 |.om l=>Cm H l λob=>(match ob with|.map ks vs=>K (.mp ks vs)|_=>False)
 |v=>(match closed v with|true=>v.force K|false=>False)
def Gb(H:List HO):List AV->(List AV->Prop)->Prop
 |[],K=>K []
 |a::as,K=>CR H a λa=>Gb H as λas=>K (a::as)
def IL(H:List HO):Nat->AV->(AV->Prop)->Prop
 |0,v,K=>CR H v K
 |n+1,v,K=>match v with
  |.fn f cap=>GY (IL H n) cap λcs=>K (.fn f cs)
  |.mv f cap=>GY (IL H n) cap λcs=>K (.mv f cs)
  |.agg cs=>GY (IL H n) cs λcs=>K (.agg cs)
  |.iface t x=>IL H n x λx=>K (.iface t x)
  |.ptr l o=>Cm H l λob=>(match ob with
   |.cells cs=>GY (IL H n) cs λcs=>Kh cs o λcs=>K (.at_ cs)
   |_=>False)
  |v=>CR H v K
def Xn(T:List TY)(E:List AV)(H:List HO):List ResultVar->(List AV->Prop)->Prop
 |[],K=>K []
 |.tmp t::r,K=>lkA E t λv=>Xn T E H r λvs=>K (v::vs)
 |.cell a t::r,K=>lkA E a λp=>ON T H t p λv=>Xn T E H r λvs=>K (v::vs)
def PN(T:List TY)(rs:List ResultVar)(R:AV->Prop)(E:List AV)(H:List HO):Prop:=
 Xn T E H rs λvs=>match vs with
  |[v]=>IL H 4 v R
  |vs=>GY (IL H 4) vs λvs=>R (.tuple vs)
section
variable {G:Cx}{C:Ae}{w w':World}{mu:Mu}{H:List HO}{E:List AV}{a:Act}{T:List TY}{P:Program}
theorem WX{C':Ae}(h:Az G C mu E H a w)(hxx:Ext C C' w w)(oX:∀l g b o,mu l=some g->g.Aq=some b->C' b o){x:AV}{u:Value}(hx:Ah C w x mu u){R:AV->Prop}(hk:CR H x R):
  ∃r,R r/\Ah C' w r Mu.none u:=by
 unfold CR at hk;split at hk
 ·rename_i l sz lo n;replace hk:=AL.1 hk;obtain⟨ob,Bh,hk⟩:=hk
  cases ob with
  |cells _|dead|ghost _ _ _|inv _|map _ _=>exact hk.elim
  |arr e BI es=>
   simp only at hk;split at hk
   ·rename_i hb;simp only[D0]at hb;obtain rfl:=Eg hb.1;obtain rfl:=Eg hb.2;obtain⟨⟨rfl,hc⟩,hk⟩:=hk;exact⟨_,hk,KS h.heap hxx (λg b o hm hb=>oX _ g b o hm hb) Bh hc hx⟩
   ·exact hk.elim
 ·obtain⟨sz,hk⟩:=hk;refine⟨_,hk,?_⟩;unfold Ah at hx⊢;exact .inl ⟨⟨_,hx⟩,rfl⟩
 ·exact⟨_,hk,by unfold Ah at*;exact hx⟩
 ·rename_i l;replace hk:=AL.1 hk;obtain⟨ob,Bh,hk⟩:=hk
  cases ob<;>first|exact hk.elim|skip
  rename_i ks vs;obtain⟨b,es,clock,h1,h2,h3⟩:=h.heap.maps l ks vs Bh;unfold Ah at hx;obtain⟨b',h4,h5⟩:=hx;rw[h1]at h4;simp only[Ji.injEq,GO.CS.injEq]at h4;subst h4;refine⟨_,hk,?_⟩;unfold Ah;exact .inr ⟨b,es,clock,h5,oX l _ b 0 h1 rfl,h2,(h3.2 _ _).1,(h3.2 _ _).2,h3.1⟩
 ·split at hk
  ·rename_i hc;rw[AV.AJ]at hk;exact⟨_,hk,Ah.mono hxx _ (AI.refl _) (Bk _ hc hx)⟩
  ·exact hk.elim
theorem bJ(h:Az G C mu E H a w)(hM:∀b,¬G.M0 b){x:AV}{u:Value}(hx:Ah C w x mu u){R:AV->Prop}(hk:CR H x R):
  ∃r,R r/\Ah (Ld G.C0 G.W0.heap.size w.heap.size) w r Mu.none u:=
 WX h ⟨λb o hc=>(h.c1 b o hc).imp id λk=>⟨k.resolve_right (hM b),h.lt b o hc⟩,λ_ _ _=>rfl⟩ (λl g b o hm hb=>.inr ⟨(h.heap.fresh _ g b hm hb).1.resolve_right (hM b),(h.heap.fresh _ g b hm hb).2.1⟩) hx hk
theorem EB{C':Ae}{mu':Mu}{f:AV->(AV->Prop)->Prop}(hf:∀{x:AV}{u:Value},Ah C w x mu u->∀{R:AV->Prop},f x R->∃r,R r/\Ah C' w r mu' u):
  ∀{xs:List AV}{us:List Value},Ab C w xs mu us->∀{R:List AV->Prop},GY f xs R->∃rs,R rs/\Ab C' w rs mu' us
 |[],us,hx,R,hk=>⟨[],hk,by unfold Ab at*;exact hx⟩
 |x::xs,us,hx,R,hk=>by
  unfold GY at hk;unfold Ab at hx;obtain⟨v,BY,rfl,h2,h3⟩:=hx;obtain⟨r,hk,hr⟩:=hf h2 hk;obtain⟨rs,hk,Jh⟩:=EB hf h3 hk;exact⟨r::rs,hk,by unfold Ab;exact⟨v,BY,rfl,hr,Jh⟩⟩
theorem QG(h:Az G C mu E H a w)(hM:∀b,¬G.M0 b):∀(n:Nat){x:AV}{u:Value},Ah C w x mu u->∀{R:AV->Prop},IL H n x R->
  ∃r,R r/\Ah (Ld G.C0 G.W0.heap.size w.heap.size) w r Mu.none u
 |0,x,u,hx,R,hk=>bJ h hM hx hk
 |n+1,x,u,hx,R,hk=>by
  have ih:∀{x:AV}{u:Value},Ah C w x mu u->∀{R:AV->Prop},IL H n x R->∃r,R r/\Ah (Ld G.C0 G.W0.heap.size w.heap.size) w r Mu.none u:=λhx _ hk=>QG h hM n hx hk
  unfold IL at hk;split at hk
  ·unfold Ah at hx;obtain⟨vs,rfl,hx⟩:=hx;obtain⟨rs,hk,hr⟩:=EB (λhx _ hk=>ih hx hk) hx hk
   exact⟨_,hk,by unfold Ah;exact⟨vs,rfl,hr⟩⟩
  ·unfold Ah at hx;obtain⟨vs,rfl,hx⟩:=hx;obtain⟨rs,hk,hr⟩:=EB (λhx _ hk=>ih hx hk) hx hk
   exact⟨_,hk,by unfold Ah;exact⟨vs,rfl,hr⟩⟩
  ·unfold Ah at hx;obtain⟨vs,rfl,hx⟩:=hx;obtain⟨rs,hk,hr⟩:=EB (λhx _ hk=>ih hx hk) hx hk
   exact⟨_,hk,by unfold Ah;exact⟨vs,rfl,hr⟩⟩
  ·unfold Ah at hx;obtain⟨y,rfl,hx⟩:=hx;obtain⟨r,hk,hr⟩:=ih hx hk;exact⟨_,hk,by unfold Ah;exact⟨y,rfl,hr⟩⟩
  ·rename_i l o;replace hk:=AL.1 hk;obtain⟨ob,Bh,hk⟩:=hk
   cases ob<;>first|exact hk.elim|skip
   rename_i cs;simp only at hk;unfold Ah at hx;obtain⟨b,hm,rfl⟩:=hx;obtain⟨b',cur,e,VD,hb,hr,h1⟩:=h.heap.Cr l cs Bh;rw[hm]at VD;simp only[Ji.injEq,GO.CS.injEq]at VD;subst VD;obtain⟨rs,hk,Jh⟩:=EB (λhx _ hk=>ih hx hk) hr hk
   rw[BF]at hk;obtain⟨f1,f2,_⟩:=h.heap.fresh l _ b hm rfl;refine⟨_,hk,?_⟩;unfold Ah;refine⟨b,o,rfl,(B9 _ _).2 λi hi=>?_⟩
   have Px:=(AH _).1 Jh;have yP:o+i<rs.length:=by simp at hi;omega
   have Sg:o+i<cur.toList.length:=by rw[Px.1];exact yP
   refine⟨cur.toList[o+i],h1 _ (LA Sg),⟨.inr ⟨f1.resolve_right (hM b),f2⟩,?_⟩,?_⟩
   ·rw[cell_of_row w b _ cur e _ hb];simp at Sg⊢
   ·have:=Px.2 (o+i) yP Sg;simp only[Xab];exact this
  ·exact bJ h hM hx hk
theorem Az.S5{D:Nat}{ms:List Nat}(h:Az G C mu E H a w)(hx:BE C w G.fresh mu H ((D::ms).map (λD=>(D,GL))++G.MJ)):
  Az G C mu E H {a with defers:=ms.map mark++G.ds} (w.putObj D (.deferred none))/\BE C (w.putObj D (.deferred none)) G.fresh mu H (ms.map (λD=>(D,GL))++G.MJ):=by
 simp only[Z4,Vz]at hx;generalize vV:ms.map (λD=>(D,GL))++G.MJ=ds at hx
 have hm:=hx.marks (D,GL) (by simp)
 have AP:=(CM.1 hm.at_).1;have VB:∀{b},b≠D->(w.putObj D (.deferred none)).heap[b]?=w.heap[b]?:=λhb=>E8 hb
 have hs:(w.putObj D (.deferred none)).heap.size=w.heap.size:=by simp[World.putObj]
 have gK:Ext C C w (w.putObj D (.deferred none)):=Ext.of_block (λ_ _ h=>h) λb o hc=>VB λe=>hm.KA o (by rw[<-e];exact hc)
 have Qp:D∉ds.map Xaq:=(Py.1 hx.nd).1;have cG:∀{D':Nat×Obj},D'.1≠D->CG C w G.fresh mu D'->CG C (w.putObj D (.deferred none)) G.fresh mu D':=λBq k=>⟨by rw[VB Bq];exact k.at_,k.KA,k.own,k.fr⟩
 have hX:BE C (w.putObj D (.deferred none)) G.fresh mu H ds:=by
  refine⟨λl cs vs DE hl=>?_,λl I hl=>?_,λD' hd=>cG (λe=>Qp (e▸List.mem_map_of_mem hd)) (hx.marks D' (by simp[hd])),(Py.1 hx.nd).2,hx.sep⟩
  ·obtain⟨k1,k2,k3⟩:=hx.Bl l cs vs DE hl;exact⟨Ab.mono gK _ (AI.refl _) k1,k2,λD' hd=>⟨cG (λe=>(k3 D' hd).2 (KF.2 (.inl e))) (k3 D' hd).1,λhd'=>(k3 D' hd).2 (F0 _ hd')⟩⟩
  ·obtain⟨h0,Sw,Sr,h1,h2,h3,h4⟩:=hx.Hz l I hl;exact⟨h0,Sw,Sr,⟨h1.fr,by rw[hs];exact h1.base,h1.cb,h1.ob,h1.sub,λb hb=>by rw[hs];exact h1.lt b hb,h1.own,h1.KA⟩,I.Ta Sw Sr w _ h2 ⟨rfl,rfl,rfl,Nat.le_of_eq hs.symm,λb hb=>VB λe=>h3 (D,GL) (by simp) (e▸hb)⟩,λD' hd=>h3 D' (F0 _ hd),h4⟩
 refine⟨⟨h.c0,h.c1,λb o hc=>by rw[hs];exact h.lt b o hc,⟨h.heap.Is,λl g b hl hg=>?_,h.heap.sep,h.heap.dead,λl cs hl=>?_,λl e sz es hl=>?_,λl ks vs hl=>?_⟩,Ab.mono gK _ (AI.refl _) h.env,⟨ms,rfl,vV▸hX⟩,
  ⟨h.Ax.os,h.Ax.tape,h.Ax.output,by rw[hs];exact h.Ax.size,λk hk hn=>?_⟩,h.Ds⟩,hX⟩
 ·obtain⟨k1,k2,k3⟩:=h.heap.fresh l g b hl hg;exact⟨k1,by rw[hs];exact k2,k3⟩
 ·obtain⟨b,cur,e,k1,k2,k3,k4⟩:=h.heap.Cr l cs hl;exact⟨b,cur,e,k1,by rw[VB λee=>hm.own l _ k1 (by rw[<-ee];rfl)];exact k2,Ab.mono gK _ (AI.refl _) k3,k4⟩
 ·obtain⟨k0,k⟩:=h.heap.BM l e sz es hl;exact⟨k0,k.imp id λ⟨b,cap,cur,k1,k2,k3,k4,k5,k6,k7⟩=>⟨b,cap,cur,k1,k2.of_eq (by rw[VB λee=>hm.own l _ k1 (by rw[<-ee];rfl)]),k3,k4,k5,Ab.mono gK _ (AI.refl _) k6,k7⟩⟩
 ·obtain⟨b,es,cl,k1,k2,k3⟩:=h.heap.maps l ks vs hl;exact⟨b,es,cl,k1,by rw[VB λee=>hm.own l _ k1 (by rw[<-ee];rfl)];exact k2,k3⟩
 ·rw[VB λe=>?_]
  ·exact h.Ax.block k hk hn
  ·subst e;rcases hm.fr with k|k;·omega
   ·exact hn k
theorem Je{n:Nat}{fn:Func}{R:Ending->World->Prop}{tmps:Array Value}(vV:G.ds=[]):∀(ms:List Nat){w:World}{a:Act},a.tmps=tmps->Az G C mu E H a w->BE C w G.fresh mu H (ms.map (λD=>(D,GL))++G.MJ)->
  (∀a' w',a'.tmps=tmps->Az G C mu E H a' w'->∃v,(results fn tmps).run G.P w'=.ok v w'/\R (.returned v) w')->LeavesInM (fw none) n G.P fn tmps R (ms.map mark) .returning w
 |[],w,a,ha,h,hx,hr=>by
  simp only[List.map_nil,LeavesInM,LeavesIn];exact hr a w ha h
 |D::ms,w,a,ha,h,hx,hr=>by
  simp only[Z4,LeavesInM];obtain⟨h1,h2⟩:=h.S5 hx;exact⟨by simp,.inl ⟨D,_,rfl,run_takeDeferred (hx.marks (D,GL) (by simp)).at_,Je vV ms (a:={a with defers:=ms.map mark++G.ds}) ha h1 h2 hr⟩⟩
def Zf(tmps:Array Value):ResultVar->Sem Value
 |.tmp t=>pure (tmps.getD t undef)
 |.cell a t=>do loadVar t (<-asAddr (tmps.getD a undef))
theorem FR(fn:Func)(tmps:Array Value):results fn tmps=(fn.results.mapM (Zf tmps) >>= λvs=>pure (if h:vs.size=1 then vs[0]else .tuple vs)):=by
 unfold results;congr 1
theorem Uq(C:Ae)(w:World)(fr:Nat->Prop):AU C w fr Mu.none []:=by
 refine⟨?_,?_,?_,?_,?_,?_,?_⟩;·intro l g h;cases h
 ·intro l g b h;cases h
 ·intro l g b l' g' h;cases h
 ·intro l h;cases h
 ·intro l cs h;cases h
 ·intro l e sz es h;cases h
 ·intro l ks vs h;cases h
theorem SI(C:Ae)(w:World)(fr:Nat->Prop)(mu:Mu):BE C w fr mu [] []:=
 ⟨λl cs vs ms h=>(by simp at h),λl I h=>(by simp at h),λD h=>(by cases h),Rr,λl l' cs vs ms cs' BY DE h=>(by simp at h)⟩
theorem P6(hT:BG G.P T)(h:Az G C mu E H a w):∀(rs:List ResultVar){K:List AV->Prop},Xn T E H rs K->
  ∃xs us,K xs/\Ab C w xs mu us/\(rs.mapM (Zf a.tmps)).run G.P w=.ok us w
 |[],K,hk=>⟨[],[],hk,by unfold Ab;rfl,by simp⟩
 |.tmp t::r,K,hk=>by
  unfold Xn at hk;rw[SC]at hk;obtain⟨xs,us,h1,h2,h3⟩:=P6 hT h r hk;refine⟨_,_,h1,by unfold Ab;exact⟨_,us,rfl,h.env.get t,h2⟩,?_⟩
  rw[Xao];simp only[Zf,Ul,Xah,Qs,h3]
 |.cell p t::r,K,hk=>by
  unfold Xn at hk;rw[SC]at hk;have hp:=h.env.get p;obtain⟨x,v,hk,hr,A0⟩:=PM hT h.heap hp hk;obtain⟨xs,us,h1,h2,h3⟩:=P6 hT h r hk;refine⟨_,_,h1,by unfold Ab;exact⟨v,us,rfl,hr,h2⟩,?_⟩
  have ha:∃ad,a.tmps.getD p undef=.pointer (some ad):=by
   unfold Instr.loadAt Instr.sureAddr at A0;generalize a.tmps.getD p undef=q at A0;cases q<;>first|(simp at A0;done)|skip
   rename_i o;cases o with
   |none=>simp at A0
   |some ad=>exact⟨ad,rfl⟩
  obtain⟨ad,ha⟩:=ha;rw[ha]at A0;simp only[Instr.loadAt,Instr.sureAddr,Ul,Xah,Qs]at A0;rw[Xao];simp only[Zf,ha,asAddr,Ul,Xah,Qs,A0,h3]
theorem sY(hT:BG G.P T)(h:Az G C mu E H a w)(hM:∀b,¬G.M0 b){fn:Func}{R:AV->Prop}(hk:PN T fn.results.toList R E H):
  ∃r v,R r/\(results fn a.tmps).run G.P w=.ok v w/\Ah (Ld G.C0 G.W0.heap.size w.heap.size) w r Mu.none v:=by
 unfold PN at hk;obtain⟨xs,us,hk,hr,A0⟩:=P6 hT h _ hk
 have hm:(fn.results.mapM (Zf a.tmps)).run G.P w=.ok us.toArray w:=by
  rw[U9];simp only[Sem.run_map,A0,Qs]
 have Gt:(results fn a.tmps).run G.P w=.ok (if h:us.toArray.size=1 then us.toArray[0]else .tuple us.toArray) w:=by
  rw[FR,Ul,hm];rfl
 rw[Gt];split at hk
 ·rename_i v;unfold Ab at hr;obtain⟨u,Xc,rfl,hr,OZ⟩:=hr;unfold Ab at OZ;subst OZ;obtain⟨r,hk,hr⟩:=QG h hM 4 hr hk;exact⟨r,u,hk,by simp,hr⟩
 ·rename_i Bq;obtain⟨rs,hk,Jh⟩:=EB (λhx _ hk=>QG h hM 4 hx hk) hr hk
  have hl:us.length≠1:=λe=>by
   have:=Ap _ hr;rw[e]at this;cases xs with
   |nil=>simp at this
   |cons x xs=>
    cases xs with
    |nil=>exact Bq x rfl
    |cons _ _=>simp at this
  exact⟨_,_,hk,by simp[hl];rfl,by unfold Ah;exact⟨us,rfl,Jh⟩⟩
theorem B2:∀(n:Nat),Ab C w (N0 n (.raw undef)) mu (N0 n undef)
 |0=>by simp[Ab]
 |n+1=>by
  simp only[List.replicate_succ];unfold Ab;exact⟨_,_,rfl,by unfold Ah;rfl,B2 n⟩
def Ei(n:Nat)(args:List AV)(K:List AV->Prop):Prop:=nO (AV.raw undef) (n-args.length) λr=>bP args r K
theorem AO.A3{f:FuncId}{fn:Func}{c:Code}{args:List AV}{R:AV->Prop}(hf:P.funcs[f]?=some fn)(hb:fn.body=some c)(hT:BG P T)(hg:Cq P f=true)
  (h:Ei fn.ntmps args λE=>Aa P c E [] (PN T fn.results.toList R) (λe E H=>match e with|.ret=>PN T fn.results.toList R E H|_=>False)):AO P f args R:=by
 refine⟨hg,λC w vs AP hr=>(callsIn_wide (n:=0)).1 (callsIn_of_wp_marks (F:=Fence.wide) (n:=0) hf hb trivial ?_ rfl)⟩
 unfold Ei at h;rw[DS,Db]at h;let G:Cx:={P:=P,C0:=C,M0:=λ_=>False,W0:=w,pM:=⟨AP,λ_ _ _ h=>h⟩}
 have Af:St G (args++N0 (fn.ntmps-args.length) (.raw undef)) [] {tmps:=vs.toArray++QJ (fn.ntmps-vs.toArray.size) undef,defers:=[]} w:=by
  refine⟨C,Mu.none,λ_ _ h=>h,λ_ _ h=>.inl h,AP.lt,Uq _ _ _,?_,⟨[],rfl,SI _ _ _ _⟩,⟨rfl,rfl,rfl,PC _,λ_ _ _=>rfl⟩,Nat.zero_le _,λ_ _ h=>absurd h (Xal _)⟩
  have hl:=Ap _ hr;have:=AF hr (B2 (C:=C) (w:=w) (mu:=Mu.none) (fn.ntmps-args.length));simpa[hl]using this
 have fin:∀E H a w',PN T fn.results.toList R E H->St G E H a w'->LeavesInM (fw none) 0 P fn a.tmps (λe w'=>∃r v',e=.returned v'/\R r/\Below w.heap.size w w'/\Ah (Ld C w.heap.size w'.heap.size) w' r Mu.none v') a.defers .returning w':=by
  rintro E H a w' hk ⟨C',mu',Af⟩;obtain⟨ms,d1,d2⟩:=Af.defers;rw[show a.defers=ms.map mark by simpa[G]using d1]
  refine Je (G:=G) rfl ms rfl Af d2 λa' NR ha Gs=>?_
  obtain⟨r,v,h1,h2,h3⟩:=sY (G:=G) hT Gs (λ_ h=>h) hk
  rw[ha]at h2;exact⟨v,h2,r,v,rfl,h1,⟨Gs.Ax.os,Gs.Ax.tape,Gs.Ax.output,Gs.Ax.size,λk hk=>Gs.Ax.block k hk (λh=>h)⟩,h3⟩
 refine wpIn_mono (h.out 0 G _ w rfl Af) λe a w' q=>?_
 cases e with
 |normal|ret=>obtain⟨E,H,h1,h2⟩:=q;exact fin E H a w' h1 h2
 |exit id=>obtain⟨E,H,h1,h2⟩:=q;exact h1.elim
 |panic ch=>obtain⟨x,v,E,H,C,mu,_,h1,_⟩:=q;exact h1.elim
 |goto l|outgrown=>exact q.elim
theorem Aj.Dk{f:FuncId}{args:List AV}{R:AV->Prop}{K:AV->KK}{X:XX}(h:AO P f args R)(hc:An args=true)(hk:∀r,R r->K r E H):Aj P f args E H K X:=by
 refine⟨h.Eh,λG C mu a w vs hP Af hr=>?_⟩
 refine(h.out C w vs Af.qI (A8 args hc hr)).mono λe w' ⟨r,v,h1,h2,h3,h4⟩=>?_
 exact .inl ⟨r,v,E,H,_,mu,h1,hk r h2,Af.below h3,Ah.mono (Ext.refl _ _) _ (AI.none mu) h4⟩
end
mutual
def ED(l:Nat):AV->Bool
 |.ptr k _|.el k _ _ _|.own k _ _ _|.om k=>Ll k l
 |.fn _ cap|.mv _ cap=>K7 l cap
 |.iface _ x=>ED l x
 |.agg cs=>K7 l cs
 |.tuple vs=>K7 l vs
 |_=>false
def K7(l:Nat):List AV->Bool
 |[]=>false
 |a::as=>ED l a||K7 l as
end
section
variable {C:Ae}{w:World}{mu:Mu}
mutual
theorem Xo{l:Nat}(hl:mu l=none):∀(x:AV){v:Value},Ah C w x mu v->ED l x=false
 |.any,_,_|.int _ _,_,_|.bool _,_,_|.lit _,_,_|.str _,_,_|.sl _ _,_,_|.at_ _,_,_|.raw _,_,_|.mp _ _,_,_=>rfl
 |.om k,_,h=>by
  unfold Ah at h;obtain⟨b,h1,_⟩:=h;unfold ED;cases hb:Ll k l with
  |false=>rfl
  |true=>rw[Eg hb,hl]at h1;cases h1
 |.ptr k o,_,h=>by
  unfold Ah at h;obtain⟨b,h1,_⟩:=h;unfold ED;cases hb:Ll k l with
  |false=>rfl
  |true=>rw[Eg hb,hl]at h1;cases h1
 |.el k sz i o,_,h=>by
  unfold Ah at h;obtain⟨b,n,c,h1,_⟩:=h;unfold ED;cases hb:Ll k l with
  |false=>rfl
  |true=>rw[Eg hb,hl]at h1;cases h1
 |.own k sz lo n,_,h=>by
  unfold Ah at h;obtain⟨x,h1,_⟩:=h;unfold ED;cases hb:Ll k l with
  |false=>rfl
  |true=>rw[Eg hb,hl]at h1;cases h1
 |.fn f cap,_,h=>by
  unfold Ah at h;obtain⟨vs,_,h2⟩:=h;unfold ED;exact K5 hl cap h2
 |.mv f cap,_,h=>by
  unfold Ah at h;obtain⟨vs,_,h2⟩:=h;unfold ED;exact K5 hl cap h2
 |.iface t x,_,h=>by
  unfold Ah at h;obtain⟨y,_,h2⟩:=h;unfold ED;exact Xo hl x h2
 |.agg cs,_,h=>by
  unfold Ah at h;obtain⟨vs,_,h2⟩:=h;unfold ED;exact K5 hl cs h2
 |.tuple cs,_,h=>by
  unfold Ah at h;obtain⟨vs,_,h2⟩:=h;unfold ED;exact K5 hl cs h2
theorem K5{l:Nat}(hl:mu l=none):∀(xs:List AV){vs:List Value},Ab C w xs mu vs->K7 l xs=false
 |[],_,_=>rfl
 |x::xs,_,h=>by
  unfold Ab at h;obtain⟨v,BY,_,h2,h3⟩:=h;unfold K7;rw[Xo hl x h2,K5 hl xs h3];rfl
end
end
def VM(x:AV)(H H':List HO):Prop:=∀(l:Nat)(ob:HO),ED l x=true->H[l]?=some ob->H'[l]?=some ob
def bW(E:List AV)(o:Op)(H H':List HO):Prop:=∀x∈o.operands,VM (AM E x) H H'
def J7{α:Type}(t:(α->Prop)->Prop)(K:α->Prop):Prop:=∃r,K r/\∀K':α->Prop,K' r->t K'
theorem nX{k:Nat}{a b:AV}{K:Bool->Prop}(h:T4 k a b K):J7 (T4 k a b) K:=by
 unfold T4 at h;split at h
 ·split at h;·split at h<;>first|exact h.elim|exact⟨_,h,λK' k=>k⟩
  ·split at h<;>first|exact h.elim|exact⟨_,h,λK' k=>k⟩
  ·exact h.elim
 ·split at h
  ·split at h
   ·split at h
    ·rename_i hk;exact⟨_,h,λK' k=>by simp only[T4,hk];exact k⟩
    ·exact h.elim
   ·exact h.elim
  ·exact h.elim
 ·split at h;·split at h<;>first|exact h.elim|exact⟨_,h,λK' k=>k⟩
  ·exact h.elim
 ·exact h.elim
theorem TF:∀{ls:List Nat}{xs ys:List AV}{K:Bool->Prop},iE ls xs ys K->J7 (iE ls xs ys) K
 |[],[],[],K,h=>⟨_,h,λK' k=>k⟩
 |k::ls,a::xs,b::ys,K,h=>by
  obtain⟨p,h,hp⟩:=nX h;obtain⟨r,h,hr⟩:=TF h;exact⟨_,h,λK' k=>hp _ (hr _ k)⟩
 |[],[],_::_,_,h|[],_::_,_,_,h|_::_,[],_,_,h|_::_,_::_,[],_,h=>h.elim
theorem eZ{T:List TY}{op:BinOp}{t:TypeId}{cs ds:List AV}{K:AV->Prop}(h:QN T op t cs ds K):J7 (QN T op t cs ds) K:=by
 unfold QN at h;replace h:=AL.1 h;obtain⟨y,hy,h⟩:=h
 split at h
 ·rename_i ha;split at h
  ·rename_i ls hl;cases op<;>simp only[]at h
   case eql=>
    obtain⟨r,h1,h2⟩:=TF h;exact⟨_,h1,λK' k=>AL.2 ⟨y,hy,by rw[ha,hl];exact h2 _ k⟩⟩
   case neq=>
    obtain⟨r,h1,h2⟩:=TF h;exact⟨_,h1,λK' k=>AL.2 ⟨y,hy,by rw[ha,hl];exact h2 _ k⟩⟩
  ·exact h.elim
 ·exact h.elim
theorem tR{T:List TY}{op:BinOp}{t:TypeId}{a b:AV}{K:AV->Prop}(h:NL T op t a b K):J7 (NL T op t a b) K:=by
 have bl:∀{p q:Bool},(Cm T t λy=>(match y.k with|.bool=>UU op p q K|_=>False))->J7 (λK=>Cm T t λy=>(match y.k with|.bool=>UU op p q K|_=>False)) K:=by
  intro p q h;replace h:=AL.1 h;obtain⟨y,hy,h⟩:=h
  split at h
  ·rename_i hk;unfold UU at h;cases op<;>first|exact h.elim|exact⟨_,h,λK' k=>AL.2 ⟨y,hy,by rw[hk];exact k⟩⟩
  ·exact h.elim
 cases a<;>cases b<;>first|exact h.elim|skip
 case int.int k m k' n=>
  simp only[NL]at h;split at h
  ·rename_i hk;cases op<;>simp only[oS]at h
   case quo=>exact⟨_,h.2,λK' k=>by simp only[NL,hk,oS];exact⟨h.1,k⟩⟩
   case rem=>exact⟨_,h.2,λK' k=>by simp only[NL,hk,oS];exact⟨h.1,k⟩⟩
   all_goals exact⟨_,h,λK' k=>by simp only[NL,hk,oS];exact k⟩
  ·exact h.elim
 case str.str p q=>
  simp only[NL]at h;cases op<;>simp only[sB]at h
  case add=>exact⟨_,h.2,λK' k=>by simp only[NL,sB];exact⟨h.1,k⟩⟩
  all_goals exact⟨_,h,λK' k=>by simp only[NL,sB];exact k⟩
 case bool.bool p q=>exact bl h
 case bool.lit p q=>exact bl h
 case lit.bool p q=>exact bl h
 case lit.lit p q=>exact bl h
 case agg.agg cs ds=>exact eZ h
theorem TD{T:List TY}{op:BinOp}{t:TypeId}{r:Bool}{K:AV->Prop}(h:Z2 T op t r K):J7 (Z2 T op t r) K:=by
 unfold Z2 at h;replace h:=AL.1 h;obtain⟨y,hy,h⟩:=h
 split at h
 ·rename_i hk;cases op<;>first|exact h.elim|(cases r<;>exact⟨_,h,λK' k=>AL.2 ⟨y,hy,by rw[hk];exact k⟩⟩)
 ·exact h.elim
theorem Zao{T:List TY}{op:BinOp}{t:TypeId}{a b:AV}{c:Bool}(h1:∀t x,a≠.iface t x)(h2:∀u,a≠.raw u):oD T op t a b c=NL T op t a b:=by
 cases a<;>first|rfl|exact absurd rfl (h1 _ _)|exact absurd rfl (h2 _)
theorem tO{T:List TY}{op:BinOp}{t:TypeId}{a b:AV}{c:Bool}{K:AV->Prop}(h:oD T op t a b c K):J7 (oD T op t a b c) K:=by
 cases a
 case iface ty x=>
  cases b<;>first|exact h.elim|skip
  case raw v=>cases v<;>first|exact h.elim|exact @TD T op t false K h
 case raw u=>
  cases u<;>first|exact h.elim|skip
  cases b<;>first|exact h.elim|exact @TD T op t false K h|skip
  case raw v=>
   cases v<;>first|exact h.elim|skip
   cases c<;>first|exact h.elim|exact @TD T op t true K h
 all_goals (rw[Zao (by simp) (by simp)]at h ⊢;exact tR h)
theorem Zag{op:UnOp}{a:AV}{K:AV->Prop}(h:unK op a K):J7 (unK op a) K:=by
 cases op<;>cases a<;>first|exact h.elim|exact⟨_,h,λK' k=>k⟩|skip
 case not.lit b=>cases b<;>exact⟨_,h,λK' k=>k⟩
theorem Xx{T:List TY}{t:TypeId}{cs:List AV}{K:AV->Prop}(h:ldK T t cs K):J7 (ldK T t cs) K:=by
 unfold ldK at h;replace h:=AL.1 h;obtain⟨y,hy,h⟩:=h
 cases ha:y.agg with
 |true=>
  rw[ha]at h;obtain⟨hn,h⟩:=(FK _ _ _).1 h;exact⟨_,h,λK' k=>AL.2 ⟨y,hy,by rw[ha];exact(FK _ _ _).2 ⟨hn,k⟩⟩⟩
 |false=>
  rw[ha]at h;cases cs with
  |nil=>exact h.elim
  |cons c cs=>
   simp only[AV.AJ]at h;exact⟨c,h,λK' k=>AL.2 ⟨y,hy,by rw[ha];simpa only[AV.AJ]using k⟩⟩
theorem nW{T:List TY}{H:List HO}{t:TypeId}{p:AV}{K:AV->Prop}(h:ON T H t p K):∃r,K r/\∀H',VM p H H'->∀K':AV->Prop,K' r->ON T H' t p K':=by
 cases p<;>first|exact h.elim|skip
 case at_ cs=>
  obtain⟨r,h1,h2⟩:=Xx h;exact⟨r,h1,λH' _ K' k=>h2 K' k⟩
 case ptr l o=>
  simp only[ON]at h;replace h:=AL.1 h;obtain⟨ob,Bh,h⟩:=h
  cases ob<;>first|exact h.elim|skip
  rename_i cs;simp only at h;rw[BF]at h;obtain⟨r,h1,h2⟩:=Xx h;exact⟨r,h1,λH' hl K' k=>AL.2 ⟨_,hl _ _ (by simp[ED]) Bh,by simp only;rw[BF];exact h2 K' k⟩⟩
 case el l sz i o=>
  simp only[ON]at h;replace h:=AL.1 h;obtain⟨ob,Bh,h⟩:=h
  cases ob<;>first|exact h.elim|skip
  rename_i e BI es;simp only at h;split at h
  ·rename_i hz;obtain⟨v,hv,h⟩:=h;rw[Am,BF]at h;obtain⟨r,h1,h2⟩:=Xx h;exact⟨r,h1,λH' hl K' k=>AL.2 ⟨_,hl _ _ (by simp[ED]) Bh,by simp only[hz];exact⟨v,hv,by rw[Am,BF];exact h2 K' k⟩⟩⟩
  ·exact h.elim
theorem TC{T:List TY}{H:List HO}{t:TypeId}{x i:AV}{K:AV->Prop}(h:BS T H t x i K):∃r,K r/\∀H',VM x H H'->∀K':AV->Prop,K' r->BS T H' t x i K':=by
 cases x<;>first|exact h.elim|skip
 case sl sz es=>
  simp only[BS]at h;replace h:=AL.1 h;obtain⟨y,hy,h⟩:=h
  split at h
  ·rename_i hk;split at h
   ·rename_i hb;cases i<;>first|exact h.elim|skip
    obtain⟨h0,v,hv,h⟩:=h;rw[Am]at h
    exact⟨_,h,λH' _ K' k=>by
     simp only[BS];exact AL.2 ⟨y,hy,by simp only[hk,hb];exact⟨h0,v,hv,by rw[Am];exact k⟩⟩⟩
   ·exact h.elim
  ·exact h.elim
 case own l sz lo m=>
  simp only[BS]at h;replace h:=AL.1 h;obtain⟨y,hy,h⟩:=h
  split at h
  ·rename_i hk;replace h:=AL.1 h;obtain⟨ob,Bh,h⟩:=h
   cases ob<;>first|exact h.elim|skip
   simp only at h;split at h
   ·rename_i hb;cases i<;>first|exact h.elim|skip
    obtain⟨h0,h⟩:=h
    exact⟨_,h,λH' hl K' k=>by
     simp only[BS];exact AL.2 ⟨y,hy,by simp only[hk];exact AL.2 ⟨_,hl _ _ (by simp[ED]) Bh,by simp only[hb];exact⟨h0,k⟩⟩⟩⟩
   ·exact h.elim
  ·exact h.elim
 case ptr l o=>
  simp only[BS]at h;replace h:=AL.1 h;obtain⟨y,hy,h⟩:=h
  split at h
  ·rename_i hk;split at h
   ·rename_i hb;cases i<;>first|exact h.elim|skip
    obtain⟨h0,h⟩:=h
    exact⟨_,h,λH' hl K' k=>by
     simp only[BS];exact AL.2 ⟨y,hy,by simp only[hk,hb];exact⟨h0,k⟩⟩⟩
   ·exact h.elim
  ·exact h.elim
theorem eV{T:List TY}{t:TypeId}{x i:AV}{K:AV->Prop}(h:HA T t x i K):J7 (HA T t x i) K:=by
 cases x<;>first|exact h.elim|skip
 ·simp only[HA]at h;replace h:=AL.1 h;obtain⟨y,hy,h⟩:=h
  split at h
  ·rename_i hk;cases i<;>first|exact h.elim|skip
   exact⟨_,h.2,λK' k=>by simp only[HA];exact AL.2 ⟨y,hy,by simp only[hk];exact⟨h.1,k⟩⟩⟩
  ·exact h.elim
 ·simp only[HA]at h;replace h:=AL.1 h;obtain⟨y,hy,h⟩:=h
  split at h
  ·rename_i n sz ag hk;split at h
   ·rename_i hb;cases i<;>first|exact h.elim|skip
    obtain⟨h1,v,hv,h2⟩:=h;exact⟨v,h2,λK' k=>by simp only[HA];exact AL.2 ⟨y,hy,by simp only[hk,hb];exact⟨h1,v,hv,k⟩⟩⟩
   ·rename_i hb;split at h
    ·rename_i G0;cases i<;>first|exact h.elim|skip
     exact⟨_,h.2,λK' k=>by simp only[HA];exact AL.2 ⟨y,hy,by simp only[hk,hb,G0];exact⟨h.1,k⟩⟩⟩
    ·exact h.elim
  ·exact h.elim
theorem TE{T:List TY}{t:TypeId}{x:AV}{f:Nat}{K:AV->Prop}(h:DZ T t x f K):J7 (DZ T t x f) K:=by
 unfold DZ at h;replace h:=AL.1 h;obtain⟨y,hy,h⟩:=h
 split at h
 ·rename_i fs hk;replace h:=AL.1 h;obtain⟨⟨off,size,ag⟩,hf,h⟩:=h
  cases size with
  |zero=>exact h.elim
  |succ n=>
   have fin:∀K':AV->Prop,(match (generalizing:=false) x with|.at_ cs=>Kh cs off λcs=>K' (.at_ cs)|.ptr l o=>K' (.ptr l (o+off))|.el l sz i o=>K' (.el l sz i (o+off))|.raw v=>(match (generalizing:=false) v with|.pointer p=>(match (generalizing:=false) p with|some ⟨b,o,none⟩=>K' (.raw (.pointer (some ⟨b,o+off,none⟩)))|_=>False)|_=>False)|_=>False)->DZ T t x f K':=λK' k=>by
    unfold DZ;exact AL.2 ⟨y,hy,by simp only[hk];exact AL.2 ⟨_,hf,by simp only;exact k⟩⟩
   cases x with
   |at_ cs=>
    simp only at h;rw[BF]at h;exact⟨_,h,λK' k=>fin K' (by simp only;rw[BF];exact k)⟩
   |ptr l o|el l sz i o=>exact⟨_,h,λK' k=>fin K' k⟩
   |raw v=>
    simp only at h;split at h;case h_2=>exact h.elim
    split at h;case h_2=>exact h.elim
    exact⟨_,h,λK' k=>fin K' k⟩
   |_=>exact h.elim
 ·exact h.elim
theorem eW{T:List TY}{t:TypeId}{x:AV}{f:Nat}{K:AV->Prop}(h:Ls T t x f K):J7 (Ls T t x f) K:=by
 unfold Ls at h;replace h:=AL.1 h;obtain⟨y,hy,h⟩:=h
 split at h
 ·rename_i fs hk;replace h:=AL.1 h;obtain⟨⟨off,size,ag⟩,hf,h⟩:=h
  cases x<;>first|exact h.elim|skip
  rename_i cs;simp only at h;rw[BF]at h
  have fin:∀K':AV->Prop,(match (generalizing:=false) ag with|true=>S6 (cs.drop off) size λcs=>K' (.agg cs)|false=>match (generalizing:=false) size with|0=>False|_+1=>match (generalizing:=false) cs.drop off with|c::_=>c.force K'|[]=>False)->Ls T t (.agg cs) f K':=λK' k=>by
   unfold Ls;exact AL.2 ⟨y,hy,by simp only[hk];exact AL.2 ⟨_,hf,by simp only;rw[BF];exact k⟩⟩
  cases ag with
  |true=>
   simp only at h;obtain⟨hn,h⟩:=(FK _ _ _).1 h;exact⟨_,h,λK' k=>fin K' ((FK _ _ _).2 ⟨hn,k⟩)⟩
  |false=>
   simp only at h;cases size with
   |zero=>exact h.elim
   |succ n=>
    simp only at h fin;cases hd:cs.drop off with
    |nil=>rw[hd]at h;exact h.elim
    |cons c r=>
     rw[hd]at h;simp only[AV.AJ]at h;exact⟨c,h,λK' k=>fin K' (by rw[hd];simpa only[AV.AJ]using k)⟩
 ·exact h.elim
theorem tQ{T:List TY}{t:TypeId}{x:AV}{K:AV->Prop}(h:Vu T t x K):J7 (Vu T t x) K:=by
 unfold Vu at h;replace h:=AL.1 h;obtain⟨y,hy,h⟩:=h
 split at h
 ·rename_i hk;split at h;·exact⟨_,h,λK' k=>by unfold Vu;exact AL.2 ⟨y,hy,by simp only[hk];exact k⟩⟩
  ·exact⟨_,h,λK' k=>by unfold Vu;exact AL.2 ⟨y,hy,by simp only[hk];exact k⟩⟩
  ·exact⟨_,h,λK' k=>by unfold Vu;exact AL.2 ⟨y,hy,by simp only[hk];exact k⟩⟩
  ·exact h.elim
 ·rename_i hk;split at h;·exact⟨_,h,λK' k=>by unfold Vu;exact AL.2 ⟨y,hy,by simp only[hk];exact k⟩⟩
  ·exact h.elim
 ·exact h.elim
theorem nY{T:List TY}{s d:TypeId}{x:AV}{K:AV->Prop}(h:Jo T s d x K):J7 (Jo T s d x) K:=by
 cases x<;>first|exact h.elim|skip
 all_goals
  simp only[Jo]at h;replace h:=AL.1 h;obtain⟨y0,yB,h⟩:=h
  replace h:=AL.1 h;obtain⟨y,hy,h⟩:=h
  split at h
  ·rename_i hk;exact⟨_,h,λK' k=>by simp only[Jo];exact AL.2 ⟨y0,yB,AL.2 ⟨y,hy,by simp only[hk];exact k⟩⟩⟩
  ·first
    |exact h.elim
    |(rename_i hk
      exact⟨_,h.2,λK' k=>by simp only[Jo];exact AL.2 ⟨y0,yB,AL.2 ⟨y,hy,by simp only[hk];exact⟨h.1,k⟩⟩⟩⟩)
  all_goals exact h.elim
theorem tP{a b:AV}{K:AV->Prop}(h:fJ a b K):J7 (fJ a b) K:=by
 unfold fJ at h;split at h
 ·split at h
  ·split at h
   ·rename_i hk;exact⟨_,h,λK' k=>by simp only[fJ,hk];exact k⟩
   ·exact h.elim
  ·exact h.elim
 ·exact h.elim
theorem I9{o:Option AV}{d:Int}{K:Int->Prop}(h:OE o d K):J7 (OE o d) K:=by
 cases o with
 |none=>exact⟨d,h,λK' k=>k⟩
 |some v=>cases v<;>first|(simp[OE]at h;done)|exact⟨_,h,λK' k=>k⟩
theorem eT{T:List TY}{t:TypeId}{x:AV}{lo hi:Option AV}{K:AV->Prop}(h:Dy T t x lo hi K):J7 (Dy T t x lo hi) K:=by
 cases x<;>first|exact h.elim|skip
 case str l=>
  simp only[Dy]at h;replace h:=AL.1 h;obtain⟨y,hy,h⟩:=h
  split at h
  ·rename_i hk;obtain⟨a,h,ha⟩:=I9 h;obtain⟨b,h,hb⟩:=I9 h;exact⟨_,h.2,λK' k=>by simp only[Dy];exact AL.2 ⟨y,hy,by simp only[hk];exact ha _ (hb _ ⟨h.1,k⟩)⟩⟩
  ·exact h.elim
 case sl sz es=>
  simp only[Dy]at h;replace h:=AL.1 h;obtain⟨y,hy,h⟩:=h
  split at h
  ·rename_i hk;split at h
   ·rename_i hz;obtain⟨a,h,ha⟩:=I9 h;obtain⟨b,h,hb⟩:=I9 h;exact⟨_,h.2,λK' k=>by simp only[Dy];exact AL.2 ⟨y,hy,by simp only[hk,hz];exact ha _ (hb _ ⟨h.1,k⟩)⟩⟩
   ·exact h.elim
  ·exact h.elim
 case own l sz p n=>
  simp only[Dy]at h;replace h:=AL.1 h;obtain⟨y,hy,h⟩:=h
  split at h
  ·rename_i hk;split at h
   ·rename_i hz;obtain⟨a,h,ha⟩:=I9 h;obtain⟨b,h,hb⟩:=I9 h;exact⟨_,h.2,λK' k=>by simp only[Dy];exact AL.2 ⟨y,hy,by simp only[hk,hz];exact ha _ (hb _ ⟨h.1,k⟩)⟩⟩
   ·exact h.elim
  ·exact h.elim
def bY(E E':List AV)(o:Op):Prop:=∀x∈o.operands,AM E' x=AM E x
theorem eS{T:List TY}{e:TypeId}{K:AV->Prop}(h:Iz T e K):∃z,K z/\∀K':AV->Prop,K' z->Iz T e K':=by
 unfold Iz at h;replace h:=AL.1 h;obtain⟨y,hy,h⟩:=h
 split at h
 ·rename_i ha;split at h;·exact h.elim
  ·rename_i z zs hz;exact⟨_,h,λK' k=>by unfold Iz;exact AL.2 ⟨y,hy,by simp only[ha,hz];exact k⟩⟩
 ·rename_i ha;split at h
  ·rename_i z hz;rw[AV.AJ]at h;exact⟨_,h,λK' k=>by unfold Iz;exact AL.2 ⟨y,hy,by simp only[ha,hz];rw[AV.AJ];exact k⟩⟩
  ·exact h.elim
theorem eU{H:List HO}{x:AV}{K:List AV->List AV->Prop}(h:Nx H x K):∃ks vs,K ks vs/\∀H',VM x H H'->∀K':List AV->List AV->Prop,K' ks vs->Nx H' x K':=by
 unfold Nx at h;split at h;·exact⟨_,_,h,λH' _ K' k=>k⟩
 ·replace h:=AL.1 h;obtain⟨ob,Bh,h⟩:=h
  cases ob<;>first|exact h.elim|skip
  exact⟨_,_,h,λH' hu K' k=>AL.2 ⟨_,hu _ _ (by simp[ED]) Bh,k⟩⟩
 ·exact h.elim
theorem Zv{T:List TY}{H:List HO}{t:TypeId}{x k:AV}{ok:Bool}{K:AV->Prop}(h:Ic T H t x k ok K):∃r,K r/\∀H',VM x H H'->∀K':AV->Prop,K' r->Ic T H' t x k ok K':=by
 unfold Ic at h;replace h:=AL.1 h;obtain⟨y,hy,h⟩:=h
 split at h
 ·rename_i kt vt hk;replace h:=AL.1 h;obtain⟨yk,XU,h⟩:=h
  split at h
  ·rename_i ho;obtain⟨ks,vs,⟨hl,hn,hs⟩,hm⟩:=eU h
   have up:∀(r:AV)(H':List HO),VM x H H'->∀K':AV->Prop,((Qg k ks vs=none->Iz T vt λz=>(match (generalizing:=false) ok with|true=>K' (.tuple [z,.lit false])|false=>z.force K'))/\
      ∀v,Qg k ks vs=some v->(match (generalizing:=false) ok with|true=>K' (.tuple [v,.lit true])|false=>K' v))->Ic T H' t x k ok K':=λr H' hu K' q=>by
    unfold Ic;exact AL.2 ⟨y,hy,by simp only[hk];exact AL.2 ⟨yk,XU,by simp only[ho];exact hm H' hu _ ⟨hl,q⟩⟩⟩
   cases hg:Qg k ks vs with
   |none=>
    obtain⟨z,hz,Sd⟩:=eS (hn hg);cases ok with
    |true=>exact⟨_,hz,λH' hu K' q=>up .any H' hu K' ⟨λ_=>Sd _ q,λv e=>(by rw[hg]at e;cases e)⟩⟩
    |false=>
     simp only[AV.AJ]at hz;exact⟨_,hz,λH' hu K' q=>up .any H' hu K' ⟨λ_=>Sd _ (by simp only[AV.AJ];exact q),λv e=>(by rw[hg]at e;cases e)⟩⟩
   |some v=>
    have hv:=hs v hg;cases ok with
    |true|false=>exact⟨_,hv,λH' hu K' q=>up .any H' hu K' ⟨λe=>(by rw[hg]at e;cases e),λu e=>(by rw[hg]at e;cases e;exact q)⟩⟩
  ·exact h.elim
 ·exact h.elim
theorem G8{T:List TY}{E:List AV}{H:List HO}{o:Op}{K:AV->Prop}(h:Bj T E H o K):∃r,K r/\∀E' H',bY E E' o->bW E o H H'->∀K':AV->Prop,K' r->Bj T E' H' o K':=by
 unfold Bj at h;split at h;case h_1 x=>rw[Ac]at h;exact⟨_,h,λE' H' ha _ K' k=>by unfold Bj;simp only;rw[Ac,ha x (by simp[Ak])];exact k⟩
 case h_2 x=>rw[Ac]at h;exact⟨_,h,λE' H' ha _ K' k=>by unfold Bj;simp only;rw[Ac,ha x (by simp[Ak])];exact k⟩
 case h_3 c x y=>
  rw[Ac]at h;split at h
  ·rename_i t hb;cases t with
   |true=>simp only at h;rw[Ac]at h;exact⟨_,h,λE' H' ha _ K' k=>by unfold Bj;simp only;rw[Ac,ha c (by simp[Ak]),hb];simp only;rw[Ac,ha x (by simp[Ak])];exact k⟩
   |false=>simp only at h;rw[Ac]at h;exact⟨_,h,λE' H' ha _ K' k=>by unfold Bj;simp only;rw[Ac,ha c (by simp[Ak]),hb];simp only;rw[Ac,ha y (by simp[Ak])];exact k⟩
  ·exact h.elim
 case h_4 op t x y ty=>
  rw[Ac,Ac]at h;obtain⟨r,h1,h2⟩:=tO h;exact⟨r,h1,λE' H' ha _ K' k=>by unfold Bj;simp only;rw[Ac,Ac,ha x (by simp[Ak]),ha y (by simp[Ak])];exact h2 K' k⟩
 case h_5 op t x=>
  rw[Ac]at h;obtain⟨r,h1,h2⟩:=Zag h;exact⟨r,h1,λE' H' ha _ K' k=>by unfold Bj;simp only;rw[Ac,ha x (by simp[Ak])];exact h2 K' k⟩
 case h_6 t x=>
  rw[Ac]at h;obtain⟨r,h1,h2⟩:=nW h;exact⟨r,h1,λE' H' ha hl K' k=>by unfold Bj;simp only;rw[Ac,ha x (by simp[Ak])];exact h2 H' (hl x (by simp[Ak])) K' k⟩
 case h_7 t x f=>
  rw[Ac]at h;obtain⟨r,h1,h2⟩:=TE h;exact⟨r,h1,λE' H' ha hl K' k=>by unfold Bj;simp only;rw[Ac,ha x (by simp[Ak])];exact h2 K' k⟩
 case h_8 t x f=>
  rw[Ac]at h;obtain⟨r,h1,h2⟩:=eW h;exact⟨r,h1,λE' H' ha hl K' k=>by unfold Bj;simp only;rw[Ac,ha x (by simp[Ak])];exact h2 K' k⟩
 case h_9 t x i=>
  rw[Ac,Ac]at h;obtain⟨r,h1,h2⟩:=TC h;exact⟨r,h1,λE' H' ha hl K' k=>by unfold Bj;simp only;rw[Ac,Ac,ha x (by simp[Ak]),ha i (by simp[Ak])];exact h2 H' (hl x (by simp[Ak])) K' k⟩
 case h_10 t x i=>
  rw[Ac,Ac]at h;obtain⟨r,h1,h2⟩:=eV h;exact⟨r,h1,λE' H' ha hl K' k=>by unfold Bj;simp only;rw[Ac,Ac,ha x (by simp[Ak]),ha i (by simp[Ak])];exact h2 K' k⟩
 case h_11 s d x=>
  rw[Ac]at h;obtain⟨r,h1,h2⟩:=nY h;exact⟨r,h1,λE' H' ha hl K' k=>by unfold Bj;simp only;rw[Ac,ha x (by simp[Ak])];exact h2 K' k⟩
 case h_12 x i=>
  rw[Ac]at h;split at h
  ·rename_i vs hb;replace h:=AL.1 h;obtain⟨v,hv,h⟩:=h
   rw[AV.AJ]at h;exact⟨v,h,λE' H' ha hl K' k=>by unfold Bj;simp only;rw[Ac,ha x (by simp[Ak]),hb];exact AL.2 ⟨v,hv,by rw[AV.AJ];exact k⟩⟩
  ·exact h.elim
 case h_13 x=>
  rw[Ac]at h
  have fin:∀E' H',bY E E' (.nilCheck x)->∀K':AV->Prop,(match (generalizing:=false) AM E x with|.at_ cs=>K' (.at_ cs)|.ptr l o=>K' (.ptr l o)|.el l sz i o=>K' (.el l sz i o)|.fn f cap=>K' (.fn f cap)|.mv f cap=>K' (.mv f cap)|.raw v=>(match (generalizing:=false) v with|.pointer p=>(match (generalizing:=false) p with|some a=>K' (.raw (.pointer (some a)))|_=>False)|_=>False)|_=>False)->Bj T E' H' (.nilCheck x) K':=λE' H' ha K' k=>by
   unfold Bj;simp only;rw[Ac,ha x (by simp[Ak])];exact k
  generalize pC:AM E x=ex at h fin;cases ex with
  |raw v=>
   simp only at h;split at h;case h_2=>exact h.elim
   split at h;case h_2=>exact h.elim
   exact⟨_,h,λE' H' ha hl K' k=>fin E' H' ha K' k⟩
  |_=>first|exact h.elim|exact⟨_,h,λE' H' ha hl K' k=>fin E' H' ha K' k⟩
 case h_14 fn first cap=>
  split at h
  ·rename_i f;split at h
   ·rename_i hf;rw[C7 (De E) (AM E) (Ac E)]at h;refine⟨_,h,λE' H' ha hl K' k=>?_⟩
    unfold Bj;simp only[hf];rw[C7 (De E') (AM E') (Ac E')];have:cap.toList.map (AM E')=cap.toList.map (AM E):=Ts λx hx=>ha x (by simp[Ak];exact .inr (by simpa using hx))
    rw[this];exact k
   ·rename_i hf;split at h
    ·rename_i hc;rw[C7 (De E) (AM E) (Ac E)]at h;refine⟨_,h,λE' H' ha hl K' k=>?_⟩
     unfold Bj;simp only[hf,hc];rw[<-hf,C7 (De E') (AM E') (Ac E')];have:first.toList.map (AM E')=first.toList.map (AM E):=Ts λx hx=>ha x (by simp[Ak];exact .inl (by simpa using hx))
     rw[this];exact k
    ·exact h.elim
  ·exact h.elim
 case h_15 t x=>
  rw[Ac]at h;replace h:=AL.1 h;obtain⟨y,hy,h⟩:=h
  have hK:K (.iface t (AM E x))/\y.k≠.iface:=by
   split at h;·exact h.elim
   ·rename_i Bq;exact⟨h,Bq⟩
  exact⟨_,hK.1,λE' H' ha hl K' k=>by
   unfold Bj;simp only
   rw[Ac,ha x (by simp[Ak])]
   refine AL.2 ⟨y,hy,?_⟩;split;·rename_i hk;exact absurd hk hK.2
   ·exact k⟩
 case h_16 t x lo hi mx=>
  split at h
  ·rw[Ac]at h
   have fin:∀E' H',bY E E' (.slice t x lo hi none)->∀K':AV->Prop,Dy T t (AM E x) (lo.map (AM E)) (hi.map (AM E)) K'->Bj T E' H' (.slice t x lo hi none) K':=λE' H' ha K' k=>by
    unfold Bj;simp only
    rw[Ac,ha x (by simp[Ak])]
    cases lo with
    |none=>
     cases hi with
     |none=>exact k
     |some q=>simp only;rw[Ac,ha q (by simp[Ak])];exact k
    |some p=>
     cases hi with
     |none=>simp only;rw[Ac,ha p (by simp[Ak])];exact k
     |some q=>simp only;rw[Ac,Ac,ha q (by simp[Ak]),ha p (by simp[Ak])];exact k
   have h':Dy T t (AM E x) (lo.map (AM E)) (hi.map (AM E)) K:=by
    cases lo with
    |none=>
     cases hi with
     |none=>exact h
     |some q=>simp only at h;rw[Ac]at h;exact h
    |some p=>
     cases hi with
     |none=>simp only at h;rw[Ac]at h;exact h
     |some q=>simp only at h;rw[Ac,Ac]at h;exact h
   obtain⟨r,h1,h2⟩:=eT h';exact⟨r,h1,λE' H' ha hl K' k=>fin E' H' ha K' (h2 K' k)⟩
  ·exact h.elim
 case h_17 c=>
  split at h
  ·rename_i hc;split at h
   ·rename_i x hx;split at h
    ·rename_i t ht;rw[Ac]at h;obtain⟨r,h1,h2⟩:=tQ h;refine⟨r,h1,λE' H' ha hl K' k=>?_⟩
     unfold Bj;simp only[hc,hx,ht];have:c.args=#[x]:=by cases hca:c.args;simp_all
     rw[Ac,ha x (by simp[Ak,Call.operands,hc,this])];exact h2 K' k
    ·exact h.elim
   ·exact h.elim
  ·rename_i hc;split at h
   ·rename_i x y hx;rw[Ac,Ac]at h;obtain⟨r,h1,h2⟩:=tP h;refine⟨r,h1,λE' H' ha hl K' k=>?_⟩
    unfold Bj;simp only[hc,hx];have:c.args=#[x,y]:=by cases hca:c.args;simp_all
    rw[Ac,Ac,ha x (by simp[Ak,Call.operands,hc,this]),ha y (by simp[Ak,Call.operands,hc,this])];exact h2 K' k
   ·exact h.elim
  ·exact h.elim
 case h_18 t x i ok=>
  rw[Ac,Ac]at h;obtain⟨r,h1,h2⟩:=Zv h;exact⟨r,h1,λE' H' ha hl K' k=>by unfold Bj;simp only;rw[Ac,Ac,ha x (by simp[Ak]),ha i (by simp[Ak])];exact h2 H' (hl x (by simp[Ak])) K' k⟩
 case h_19=>exact h.elim
end Go.Av
namespace Go.Av
open Go.RowKit (Below)
def Dh(w:World):Ae:=λb _=>b<w.heap.size
def OX:AV->Bool
 |.int _ _=>true
 |_=>false
def Ud:AV->Bool
 |.int _ _|.bool _=>true
 |.sl _ es=>es.all λe=>e.cells.all OX
 |_=>false
def oT:AV->Bool
 |.agg cs=>cs.all Ud
 |x=>Ud x
def Qb:AV->Bool
 |.str _|.sl _ _=>true
 |_=>false
def Wu(e:AV):Bool:=e.cells.all Qb
def ZaG(C:Ae)(w:World):Ae:=λb o=>C b o/\∃k n,w.cell? ⟨b,o,none⟩=some (.int k n)
def ZbJ:AV->AV->Bool
 |.own _ _ _ _,.sl _ es=>es.all Wu
 |.lit _,_|.raw (.slice none 0 0),_=>true
 |a,_=>closed a
def T3:List AV->List AV->Bool
 |[],[]=>true
 |a::as,b::bs=>ZbJ a b&&T3 as bs
 |_,_=>false
def T2(C:Ae)(H:List HO)(mu:Mu):Ae:=λb o=>C b o\/∃l e sz es g,H[l]?=some (.arr e sz es)/\(∀e∈es,Wu e=true)/\mu l=some g/\g.Aq=some b/\o<es.length*sz
section
variable {G:Cx}{C C2:Ae}{w w':World}{mu:Mu}{H:List HO}{E:List AV}{a:Act}{T:List TY}{P:Program}
theorem Z0{x:AV}{v:Value}(hi:Ud x=true)(h:Ah C w x mu v):Ah (ZaG C w) w x mu v:=by
 cases x<;>first|(simp[Ud]at hi;done)|skip
 ·unfold Ah at*;exact h
 ·unfold Ah at*;exact h
 ·rename_i sz es;unfold Ud at hi;unfold Ah at*;rcases h with h|⟨b,o,cap,h1,h2,h3,h4⟩;·exact .inl h
  ·refine .inr ⟨b,o,cap,h1,h2,h3,(DQ es o).2 λi hl=>?_⟩
   obtain⟨k1,k2⟩:=(DQ es o).1 h4 i hl;refine⟨k1,(B9 _ _).2 λj hj=>?_⟩
   obtain⟨u,q1,q2,q3⟩:=(B9 _ _).1 k2 j hj;have hc:=ND.1 (ND.1 hi es[i] (LA hl)) es[i].cells[j] (LA hj);generalize es[i].cells[j]=c at q3 hc⊢;cases c<;>first|(simp[OX]at hc;done)|skip
   rename_i k n;have q4:=q3;unfold Ah at q4;obtain⟨rfl,_⟩:=q4;exact⟨_,q1,⟨⟨q2.1,k,n,q2.2⟩,q2.2⟩,by unfold Ah at*;exact q3⟩
theorem WD:∀{xs:List AV}{vs:List Value},xs.all Ud=true->Ab C w xs mu vs->Ab (ZaG C w) w xs mu vs
 |[],_,_,h=>by unfold Ab at*;exact h
 |x::xs,_,hi,h=>by
  rw[Z8,D0]at hi;unfold Ab at*;obtain⟨v,BY,h1,h2,h3⟩:=h;exact⟨v,BY,h1,Z0 hi.1 h2,WD hi.2 h3⟩
theorem ZaF{x:AV}{v:Value}(hi:oT x=true)(h:Ah C w x mu v):Ah (ZaG C w) w x mu v:=by
 unfold oT at hi;split at hi
 ·unfold Ah at*;obtain⟨vs,h1,h2⟩:=h;exact⟨vs,h1,WD hi h2⟩
 ·exact Z0 hi h
theorem nL{fr:Nat->Prop}(hh:AU C w fr mu H)(hx:Ext C C2 w w){l:Nat}{e:TypeId}{sz:Nat}{es:List AV}(hB:∀g b o,mu l=some g->g.Aq=some b->o<es.length*sz->C2 b o)(hl:H[l]?=some (.arr e sz es))(hc:∀e∈es,closed e=true){u:Value}
  (hu:Ah C w (.own l sz 0 es.length) mu u):Ah C2 w (.sl sz es) Mu.none u:=by
 unfold Ah at hu⊢;obtain⟨x,hm,hle,NT,rfl⟩:=hu;obtain⟨hz,h2⟩:=hh.BM l e sz es hl;rcases h2 with⟨h2,rfl⟩|⟨b,cap,cur,h3,⟨fz,h4,O3⟩,h5,h6,h7,h8,h9⟩
 ·rw[hm]at h2;simp only[Ji.injEq,GO.arr.injEq]at h2;subst h2;exact .inl ⟨⟨_,rfl⟩,rfl⟩
 ·rw[hm]at h3;simp only[Ji.injEq,GO.arr.injEq]at h3;subst h3;refine .inr ⟨b,0,cap,by simp[BO],h5,h6,(DQ es 0).2 λi hi=>⟨hz _ (LA hi),(B9 _ _).2 λj hj=>?_⟩⟩
  have hei:es[i]?=some es[i]:=KT hi;obtain⟨r,hr⟩:=Ha es hz i _ hei;have Px:=(AH _).1 h8;have EI:=hz _ (LA hi);have KB:=Bx es hz;have hmul:(i+1)*sz<=es.length*sz:=SG _ hi;rw[Nat.add_mul]at hmul;have WI:es.length*sz<=cap*sz:=SG _ h5;have HC:cur.toList.length=cap*sz:=by simpa using h7
  have hk:i*sz+j<(flat es).length:=by omega
  have HB:i*sz+j<(cur.toList.take (es.length*sz)).length:=by rw[Px.1];exact hk
  have Fi:=Px.2 (i*sz+j) hk HB
  have WK:(flat es)[i*sz+j]=es[i].cells[j]:=by
   have e1:((flat es).drop (i*sz))[j]?=(es[i].cells++r)[j]?:=by rw[hr]
   rw[List.getElem?_drop,KT hk,Kx hj,KT hj]at e1;simpa using e1
  rw[WK]at Fi
  have vY:closed es[i].cells[j]=true:=by
   have:=hc _ (LA hi);generalize es[i]=q at this hj⊢;cases q with
   |agg cs=>
    unfold closed at this
    have key:∀(cs:List AV),An cs=true->∀j (hj:j<cs.length),closed cs[j]=true:=by
     intro cs;induction cs with
     |nil=>intro _ j hj;simp at hj
     |cons c cs ih=>
      intro h j hj;unfold An at h;simp only[D0]at h;cases j with
      |zero=>exact h.1
      |succ j=>exact ih h.2 j (by simpa using hj)
    exact key cs this j hj
   |_=>
    simp only[AV.cells,Xaj,List.length_nil]at hj;obtain rfl:j=0:=by omega
    exact this
  have AP:i*sz+j<cur.toList.length:=by omega
  have lI:(cur.toList.take (es.length*sz))[i*sz+j]=cur.toList[i*sz+j]:=by simp
  refine⟨cur.toList[i*sz+j],h9 _ (LA AP),⟨hB _ _ _ hm rfl (by omega),?_⟩,?_⟩
  ·rw[show 0+i*sz+j=i*sz+j by omega,cell_of_row w b _ cur e _ h4]
   simp at AP⊢
  ·rw[lI]at Fi;exact Ah.mono hx _ (AI.refl _) (Bk _ vY Fi)
theorem dU{fr:Nat->Prop}(hh:AU C w fr mu H){l:Nat}{e:TypeId}{sz:Nat}{es:List AV}(hl:H[l]?=some (.arr e sz es))(hn:∀e∈es,Wu e=true){g:GO}{b o:Nat}(hm:mu l=some g)(hb:g.Aq=some b)(ho:o<es.length*sz){k:IntKind}{n:Int}(hv:w.cell? ⟨b,o,none⟩=some (.int k n)):False:=by
 obtain⟨hz,h2⟩:=hh.BM l e sz es hl;rcases h2 with⟨h2,rfl⟩|⟨b',cap,cur,h3,⟨fz,h4,O3⟩,h5,h6,h7,h8,h9⟩;·simp at ho
 ·rw[hm]at h3;cases h3;obtain rfl:b'=b:=by simpa[GO.Aq]using hb
  have Px:=(AH _).1 h8;have KB:=Bx es hz;have WI:es.length*sz<=cap*sz:=SG _ h5;have HC:cur.toList.length=cap*sz:=by simpa using h7
  have hk:o<(flat es).length:=by omega
  have HB:o<(cur.toList.take (es.length*sz)).length:=by rw[Px.1];exact hk
  have Fi:=Px.2 o hk HB;have AP:o<cur.toList.length:=by omega
  have lI:(cur.toList.take (es.length*sz))[o]=cur.toList[o]:=by simp
  rw[lI]at Fi
  have Eu:w.cell? ⟨b',o,none⟩=some cur.toList[o]:=by
   rw[cell_of_row w b' _ cur e _ h4];simp at AP⊢
  rw[Eu]at hv;rw[Ji.inj hv]at Fi
  have hc:Qb (flat es)[o]=true:=by
   have MA:(flat es)[o]∈flat es:=LA hk;unfold flat at MA;obtain⟨x,hx,MA⟩:=List.mem_flatMap.1 MA;exact ND.1 (hn x hx) _ MA
  generalize (flat es)[o]=c at Fi hc;cases c<;>first|(simp[Qb]at hc;done)|skip
  ·unfold Ah at Fi;cases Fi.1
  ·unfold Ah at Fi;rcases Fi with⟨⟨_,h⟩,_⟩|⟨_,_,_,h,_⟩<;>cases h
theorem zB(h:Az G C mu E H a w){x:AV}{u:Value}(hx:Ah C w x mu u){R:AV->Prop}(hk:CR H x R):∃r,R r/\Ah (Dh w) w r Mu.none u:=
 WX h ⟨λb o hc=>h.lt b o hc,λ_ _ _=>rfl⟩ (λl g b o hm hb=>(h.heap.fresh l g b hm hb).2.1) hx hk
theorem NX(h:Az G C mu E H a w):cM (Dh w) w:=h.qI.mono ⟨λb o hc=>h.lt b o hc,λ_ _ _=>rfl⟩ λ_ _ h=>h
theorem Ly:∀{xs:List AV}{R:List AV->Prop},An xs=true->Gb H xs R->∃rs,R rs/\∀{C:Ae}{w:World}{mu:Mu}{us:List Value},Ab C w xs mu us->Ab C w rs Mu.none us
 |[],R,_,hk=>⟨[],hk,λh=>by unfold Ab at*;exact h⟩
 |x::xs,R,hc,hk=>by
  unfold Gb at hk;unfold An at hc;simp only[D0]at hc
  have one:∀{Q:AV->Prop},CR H x Q->∃r,Q r/\∀{C:Ae}{w:World}{mu:Mu}{u:Value},Ah C w x mu u->Ah C w r Mu.none u:=by
   intro Q hk;unfold CR at hk;split at hk;·simp[closed]at hc
   ·obtain⟨sz,hk⟩:=hk;exact⟨_,hk,λh=>by unfold Ah at*;exact .inl ⟨⟨_,h⟩,rfl⟩⟩
   ·exact⟨_,hk,λh=>by unfold Ah at*;exact h⟩
   ·simp[closed]at hc
   ·split at hk
    ·rename_i vY;rw[AV.AJ]at hk;exact⟨_,hk,λh=>Bk _ vY h⟩
    ·exact hk.elim
  obtain⟨r,hk,hr⟩:=one hk;obtain⟨rs,hk,Jh⟩:=Ly hc.2 hk
  exact⟨r::rs,hk,λh=>by
   unfold Ab at h⊢;obtain⟨v,BY,h1,h2,h3⟩:=h;exact⟨v,BY,h1,hr h2,Jh h3⟩⟩
theorem mR(h:Az G C mu E H a w){x:AV}{u:Value}(hx:Ah C w x mu u){R:AV->Prop}(hk:CR H x R):∃r,R r/\Ah (Dh w) w r Mu.none u/\(ZbJ x r=true->Ah (T2 C H mu) w r Mu.none u):=by
 have hw:Ext C (Dh w) w w:=⟨λb o hc=>h.lt b o hc,λ_ _ _=>rfl⟩
 have hle:Ext C (T2 C H mu) w w:=⟨λb o hc=>.inl hc,λ_ _ _=>rfl⟩
 unfold CR at hk;split at hk
 ·rename_i l sz lo n;replace hk:=AL.1 hk;obtain⟨ob,Bh,hk⟩:=hk
  cases ob<;>first|exact hk.elim|skip
  rename_i e BI es;simp only at hk;split at hk
  ·rename_i hb;simp only[D0]at hb;obtain rfl:=Eg hb.1;obtain rfl:=Eg hb.2;obtain⟨⟨rfl,hc⟩,hk⟩:=hk;refine⟨_,hk,KS h.heap hw (λg b o h1 h2=>(h.heap.fresh l g b h1 h2).2.1) Bh hc hx,λhn=>?_⟩
   have hn:∀e∈es,Wu e=true:=ND.1 hn;exact nL h.heap hle (λg b o h1 h2 h3=>.inr ⟨l,e,sz,es,g,Bh,hn,h1,h2,h3⟩) Bh hc hx
  ·exact hk.elim
 ·obtain⟨sz,hk⟩:=hk;exact⟨_,hk,by unfold Ah at*;exact .inl ⟨⟨_,hx⟩,rfl⟩,λ_=>by unfold Ah at*;exact .inl ⟨⟨_,hx⟩,rfl⟩⟩
 ·exact⟨_,hk,by unfold Ah at*;exact hx,λ_=>by unfold Ah at*;exact hx⟩
 ·obtain⟨r,q1,q2⟩:=zB h hx (by unfold CR;exact hk:CR H _ R)
  exact⟨r,q1,q2,λhn=>by cases hn⟩
 ·rename_i h1 h2 h3 h4;split at hk
  ·rename_i hc;rw[AV.AJ]at hk;exact⟨_,hk,Ah.mono hw _ (AI.refl _) (Bk _ hc hx),λ_=>Ah.mono hle _ (AI.refl _) (Bk _ hc hx)⟩
  ·exact hk.elim
theorem SP(h:Az G C mu E H a w):∀{xs:List AV}{us:List Value},Ab C w xs mu us->∀{R:List AV->Prop},Gb H xs R->∃rs,R rs/\Ab (Dh w) w rs Mu.none us/\(T3 xs rs=true->Ab (T2 C H mu) w rs Mu.none us)
 |[],us,hx,R,hk=>⟨[],hk,by unfold Ab at*;exact hx,λ_=>by unfold Ab at*;exact hx⟩
 |x::xs,us,hx,R,hk=>by
  unfold Gb at hk;unfold Ab at hx;obtain⟨v,BY,rfl,h2,h3⟩:=hx;obtain⟨r,hk,hr,hl⟩:=mR h h2 hk;obtain⟨rs,hk,Jh,yN⟩:=SP h h3 hk;refine⟨r::rs,hk,by unfold Ab;exact⟨v,BY,rfl,hr,Jh⟩,λhn=>?_⟩
  unfold T3 at hn;rw[D0]at hn;unfold Ab;exact⟨v,BY,rfl,hl hn.1,yN hn.2⟩
def KM(P:Program)(f:FuncId)(H:List HO)(as:List AV)(K:AV->Prop):Prop:=
 Gb H as λas'=>∃v,(AO P f as' (λr=>r=v)/\(An as||BN v||(T3 as as'&&oT v))=true)/\K v
theorem rS{f:FuncId}{as:List AV}{K:AV->Prop}(hP:G.P=P)(Af:Az G C mu E H a w)(hk:KM P f H as K){us:List Value}(hu:Ab C w as mu us):
  Cq P f=true/\∃r,K r/\Calls P f us.toArray w λe w'=>∃v C',e=.returned v/\Az G C' mu E H a w'/\Ah C' w' r mu v:=by
 unfold KM at hk;by_cases hc:An as=true
 ·obtain⟨as',⟨v,⟨MB,_⟩,hk⟩,hr⟩:=Ly hc hk;refine⟨MB.Eh,v,hk,(MB.out C w us Af.qI (hr hu)).mono λe w' ⟨r,u,h1,h2,h3,h4⟩=>?_⟩
  subst h2;exact⟨u,_,h1,Af.below h3,Ah.mono (Ext.refl _ _) _ (AI.none mu) h4⟩
 ·obtain⟨as',⟨v,⟨MB,hm⟩,hk⟩,hr,ZgE⟩:=SP Af hu hk;have hm:BN v=true\/(T3 as as'=true/\oT v=true):=by simpa[hc]using hm
  rcases hm with hm|⟨hle,hi⟩
  ·refine⟨MB.Eh,v,hk,(MB.out (Dh w) w us (NX Af) hr).mono λe w' ⟨r,u,h1,h2,h3,h4⟩=>?_⟩
   subst h2;exact⟨u,_,h1,Af.below h3,Bb _ hm h4⟩
  ·have hx:Ext C (T2 C H mu) w w:=⟨λ_ _ h=>.inl h,λ_ _ _=>rfl⟩
   have AP:∀b o,T2 C H mu b o->b<w.heap.size:=λb o hb=>hb.elim (Af.lt b o) λ⟨l,_,_,_,g,_,_,h1,h2,_⟩=>(Af.heap.fresh l g b h1 h2).2.1
   refine⟨MB.Eh,v,hk,(MB.out (T2 C H mu) w us (Af.qI.mono hx AP) (ZgE hle)).mono λe w' ⟨r,u,h1,h2,h3,h4⟩=>?_⟩
   subst h2;refine⟨u,Ld C w.heap.size w'.heap.size,h1,Af.below h3,Ah.mono (C:=ZaG (Ld (T2 C H mu) w.heap.size w'.heap.size) w') ⟨λb o ⟨hb,k,n,Eu⟩=>?_,λ_ _ _=>rfl⟩ _ (AI.none mu) (ZaF hi h4)⟩
   rcases hb with (hb|⟨l,_,sz,es,g,q0,hn,q1,q2,q3⟩)|hb;·exact .inl hb
   ·have Ur:=(Af.heap.fresh l g b q1 q2).2.1;rw[World.cell?_of_block (h3.block b Ur)]at Eu;exact(dU Af.heap q0 hn q1 q2 q3 Eu).elim
   ·exact .inr hb
theorem Aj.tS{f:FuncId}{as:List AV}{K:AV->KK}{X:XX}(hk:KM P f H as λv=>K v E H)(hg:Cq P f=true):Aj P f as E H K X:=by
 refine⟨hg,λG C mu a w vs hP Af hr=>?_⟩
 obtain⟨_,r,h1,h2⟩:=rS hP Af hk hr;exact h2.mono λe w' ⟨v,C',h3,h4,h5⟩=>.inl ⟨r,v,E,H,C',mu,h3,h1,h4,h5⟩
theorem eY{x:AV}{K:AV->Prop}(h:CR H x K):∃r,K r/\∀H',VM x H H'->∀K':AV->Prop,K' r->CR H' x K':=by
 unfold CR at h;split at h
 ·rename_i l sz lo n;replace h:=AL.1 h;obtain⟨ob,Bh,h⟩:=h
  cases ob<;>first|exact h.elim|skip
  simp only at h;split at h
  ·rename_i hb;exact⟨_,h.2,λH' hu K' k=>by unfold CR;exact AL.2 ⟨_,hu _ _ (by simp[ED]) Bh,by simp only[hb];exact⟨h.1,k⟩⟩⟩
  ·exact h.elim
 ·obtain⟨sz,h⟩:=h;exact⟨_,h,λH' hu K' k=>by unfold CR;exact⟨sz,k⟩⟩
 ·exact⟨_,h,λH' hu K' k=>by unfold CR;exact k⟩
 ·replace h:=AL.1 h;obtain⟨ob,Bh,h⟩:=h
  cases ob<;>first|exact h.elim|skip
  exact⟨_,h,λH' hu K' k=>by unfold CR;exact AL.2 ⟨_,hu _ _ (by simp[ED]) Bh,k⟩⟩
 ·rename_i h1 h2 h3 h4;split at h
  ·rename_i hc;rw[AV.AJ]at h;refine⟨_,h,λH' hu K' k=>?_⟩
   unfold CR;split;·rename_i l sz lo n;exact absurd rfl (h1 l sz lo n)
   ·exact absurd rfl h2
   ·rename_i b;exact absurd rfl (h3 b)
   ·rename_i l;exact absurd rfl (h4 l)
   ·rw[hc];simpa only[AV.AJ]using k
  ·exact h.elim
theorem La:∀{xs:List AV}{K:List AV->Prop},Gb H xs K->∃r,K r/\∀H',(∀x∈xs,VM x H H')->∀K':List AV->Prop,K' r->Gb H' xs K'
 |[],K,h=>⟨[],h,λH' _ K' k=>k⟩
 |x::xs,K,h=>by
  unfold Gb at h;obtain⟨r,h,hr⟩:=eY h;obtain⟨rs,h,Jh⟩:=La h;exact⟨_,h,λH' hu K' k=>by unfold Gb;exact hr H' (hu x (by simp)) _ (Jh H' (λy hy=>hu y (by simp[hy])) _ k)⟩
theorem TA{f:FuncId}{as:List AV}{K:AV->Prop}(h:KM P f H as K):∃r,K r/\∀H',(∀x∈as,VM x H H')->∀K':AV->Prop,K' r->KM P f H' as K':=by
 unfold KM at h;obtain⟨as',⟨v,h1,h⟩,h2⟩:=La h;exact⟨v,h,λH' hu K' k=>h2 H' hu _ ⟨v,h1,k⟩⟩
end
def imK(ob:HO)(K:AV->Prop):Prop:=
 match ob with
 |.arr _ sz es=>(match An es with|true=>K (.sl sz es)|false=>False)
 |_=>False
theorem Zah{ob:HO}{K:AV->Prop}(h:imK ob K):J7 (imK ob) K:=by
 unfold imK at h;split at h
 ·split at h
  ·rename_i hc;exact⟨_,h,λK' k=>by unfold imK;simp only[hc];exact k⟩
  ·exact h.elim
 ·exact h.elim
def rK(P:Program)(T:List TY)(s:Nat)(E:List AV)(H:List HO)(o:Op)(K:AV->Option HO->Prop):Prop:=
 match o with
 |.box _ x=>Yk E x λob f=>K (f s) (some ob)
 |.alloc t=>J4 T t λob f=>K (f s) (some ob)
 |.build t parts=>HI T E t parts.toList λv=>K v none
 |.buildSlice t n parts=>Cm H s λpl=>(match pl with
  |.dead=>BH T E t n parts.toList λob f=>K (f s) (some ob)
  |.ghost _ _ _=>BH T E t n parts.toList λob _=>imK ob λv=>K v none
  |_=>False)
 |.makeSlice t l c=>Dm T E t l c λob f=>K (f s) (some ob)
 |.call c=>match c.callee with
  |.builtin .len|.builtin .min=>Bj T E H (.call c) λv=>K v none
  |.value f=>De E f λfv=>(match fv with
   |.fn f cap=>GY (De E) c.args.toList λas=>bP as cap λas=>KM P f H as λv=>K v none
   |_=>False)
  |_=>False
 |o=>Bj T E H o λv=>K v none
section
variable {P:Program}{T:List TY}{E:List AV}{H:List HO}
theorem Wt{x:Operand}{K:HO->(Nat->AV)->Prop}(h:Yk E x K):∃ob f,K ob f/\∀E',AM E' x=AM E x->∀K':HO->(Nat->AV)->Prop,K' ob f->Yk E' x K':=by
 unfold Yk at h;rw[Ac,Am]at h;split at h
 ·rename_i hb;exact⟨_,_,h,λE' he K' k=>by unfold Yk;rw[Ac,Am,he,hb];exact k⟩
 ·exact h.elim
theorem Q6{t:TypeId}{K:HO->(Nat->AV)->Prop}(h:J4 T t K):∃ob f,K ob f/\∀K':HO->(Nat->AV)->Prop,K' ob f->J4 T t K':=by
 unfold J4 at h;replace h:=AL.1 h;obtain⟨y,hy,h⟩:=h
 split at h
 ·rename_i hb;exact⟨_,_,h,λK' k=>by unfold J4;exact AL.2 ⟨y,hy,by simp only[hb];exact k⟩⟩
 ·exact h.elim
theorem Qa{fs:List (Nat×Nat×Bool)}:∀{parts:List (Nat×Operand)} {cells:List AV} {K:List AV->Prop},Pa E fs parts cells K->
  ∃r,K r/\∀E',(∀p∈parts,AM E' p.2=AM E p.2)->∀K':List AV->Prop,K' r->Pa E' fs parts cells K'
 |[],cells,K,h=>⟨_,h,λE' _ K' k=>k⟩
 |(i,x)::r,cells,K,h=>by
  unfold Pa at h;replace h:=AL.1 h;obtain⟨⟨off,size,ag⟩,hf,h⟩:=h
  simp only at h;rw[Ac,Am]at h;split at h
  ·rename_i hb;rw[Cs]at h;obtain⟨rr,h,hr⟩:=Qa h;refine⟨rr,h,λE' he K' k=>?_⟩
   unfold Pa;refine AL.2 ⟨_,hf,?_⟩;simp only;rw[Ac,Am,he (i,x) (by simp),hb]
   simp only;rw[Cs];exact hr E' (λp hp=>he p (by simp[hp])) K' k
  ·exact h.elim
theorem TG{t:TypeId}{parts:List (Nat×Operand)}{K:AV->Prop}(h:HI T E t parts K):∃r,K r/\∀E',(∀p∈parts,AM E' p.2=AM E p.2)->∀K':AV->Prop,K' r->HI T E' t parts K':=by
 unfold HI at h;replace h:=AL.1 h;obtain⟨y,hy,h⟩:=h
 split at h
 ·rename_i fs hk;split at h
  ·rename_i hb;obtain⟨r,h,hr⟩:=Qa h;exact⟨_,h,λE' he K' k=>by unfold HI;exact AL.2 ⟨y,hy,by simp only[hk,hb];exact hr E' he _ k⟩⟩
  ·exact h.elim
 ·rename_i n sz ag hk;split at h
  ·rename_i hb;obtain⟨r,h,hr⟩:=Qa h;exact⟨_,h,λE' he K' k=>by unfold HI;exact AL.2 ⟨y,hy,by simp only[hk,hb];exact hr E' he _ k⟩⟩
  ·exact h.elim
 ·exact h.elim
theorem I8{e:TypeId}{K:AV->Prop}(h:Gc T e K):J7 (Gc T e) K:=by
 unfold Gc at h;replace h:=AL.1 h;obtain⟨y,hy,h⟩:=h
 split at h
 ·rename_i ha;exact⟨_,h,λK' k=>by unfold Gc;exact AL.2 ⟨y,hy,by simp only[ha];exact k⟩⟩
 ·rename_i ha;split at h
  ·rename_i z hz;rw[AV.AJ]at h;exact⟨_,h,λK' k=>by unfold Gc;exact AL.2 ⟨y,hy,by simp only[ha,hz];rw[AV.AJ];exact k⟩⟩
  ·exact h.elim
theorem Q5{sz:Nat}:∀{parts:List (Nat×Operand)} {es:List AV} {K:List AV->Prop},Ir E sz parts es K->
  ∃r,K r/\∀E',(∀p∈parts,AM E' p.2=AM E p.2)->∀K':List AV->Prop,K' r->Ir E' sz parts es K'
 |[],es,K,h=>⟨_,h,λE' _ K' k=>k⟩
 |(i,x)::r,es,K,h=>by
  unfold Ir at h;rw[Ac,Am]at h;split at h
  ·rename_i hb;rw[AG]at h;obtain⟨rr,h,hr⟩:=Q5 h;refine⟨rr,h,λE' he K' k=>?_⟩
   unfold Ir;rw[Ac,Am,he (i,x) (by simp),hb]
   simp only;rw[AG];exact hr E' (λp hp=>he p (by simp[hp])) K' k
  ·exact h.elim
theorem GB{t:TypeId}{n:Nat}{parts:List (Nat×Operand)}{K:HO->(Nat->AV)->Prop}(h:BH T E t n parts K):
  ∃ob f,K ob f/\∀E',(∀p∈parts,AM E' p.2=AM E p.2)->∀K':HO->(Nat->AV)->Prop,K' ob f->BH T E' t n parts K':=by
 unfold BH at h;replace h:=AL.1 h;obtain⟨y,hy,h⟩:=h
 split at h
 ·rename_i e Bv by' ag hk
  obtain⟨z,h,hz⟩:=I8 h;rw[Am]at h;split at h
  ·rename_i hb;rw[DS]at h;obtain⟨r,h,hr⟩:=Q5 h;exact⟨_,_,h,λE' he K' k=>by unfold BH;exact AL.2 ⟨y,hy,by simp only[hk];exact hz _ (by rw[Am,hb];simp only;rw[DS];exact hr E' he _ k)⟩⟩
  ·exact h.elim
 ·exact h.elim
theorem K9{t:TypeId}{ln cp:Operand}{K:HO->(Nat->AV)->Prop}(h:Dm T E t ln cp K):
  ∃ob f,K ob f/\∀E',AM E' ln=AM E ln->AM E' cp=AM E cp->∀K':HO->(Nat->AV)->Prop,K' ob f->Dm T E' t ln cp K':=by
 unfold Dm at h;replace h:=AL.1 h;obtain⟨y,hy,h⟩:=h
 split at h
 ·rename_i e Bv by' ag hk
  obtain⟨z,h,hz⟩:=I8 h;rw[Am]at h;split at h
  ·rename_i hb;rw[Ac,Ac]at h;split at h
   ·rename_i n c e1 e2
    exact⟨_,_,h.2,λE' h1 h2 K' k=>by
     unfold Dm
     exact AL.2 ⟨y,hy,by
      simp only[hk];refine hz _ ?_;rw[Am,hb];simp only;rw[Ac,Ac,h1,h2,e1,e2];exact⟨h.1,k⟩⟩⟩
   ·exact h.elim
  ·exact h.elim
 ·exact h.elim
theorem tN{s:Nat}{o:Op}{K:AV->Option HO->Prop}(h:rK P T s E H o K):∃r ob,K r ob/\∀E' H',bY E E' o->bW E o H H'->H'[s]?=H[s]?->∀K':AV->Option HO->Prop,K' r ob->rK P T s E' H' o K':=by
 unfold rK at h;split at h
 case h_1 t x=>
  obtain⟨ob,f,h,hf⟩:=Wt h;exact⟨_,_,h,λE' H' ha _ _ K' k=>by unfold rK;exact hf E' (ha x (by simp[Ak])) _ k⟩
 case h_2 t=>
  obtain⟨ob,f,h,hf⟩:=Q6 h;exact⟨_,_,h,λE' H' ha _ _ K' k=>by unfold rK;exact hf _ k⟩
 case h_3 t parts=>
  obtain⟨r,h,hr⟩:=TG h;exact⟨_,_,h,λE' H' ha _ _ K' k=>by unfold rK;exact hr E' (λp hp=>ha p.2 (by simp only[Ak];simp;exact⟨p.1,by simpa using hp⟩)) _ k⟩
 case h_4 t n parts=>
  replace h:=AL.1 h;obtain⟨pl,Lj,h⟩:=h
  split at h
  ·obtain⟨ob,f,h,hr⟩:=GB h;exact⟨_,_,h,λE' H' ha _ hs K' k=>by unfold rK;exact AL.2 ⟨.dead,by rw[hs];exact Lj,hr E' (λp hp=>ha p.2 (by simp only[Ak];simp;exact⟨p.1,by simpa using hp⟩)) _ k⟩⟩
  ·rename_i cs vs ms;obtain⟨ob,f,h,hr⟩:=GB h;obtain⟨v,h,hv⟩:=Zah h;exact⟨_,_,h,λE' H' ha _ hs K' k=>by unfold rK;exact AL.2 ⟨.ghost cs vs ms,by rw[hs];exact Lj,hr E' (λp hp=>ha p.2 (by simp only[Ak];simp;exact⟨p.1,by simpa using hp⟩)) _ (hv _ k)⟩⟩
  ·exact h.elim
 case h_5 t l c=>
  obtain⟨ob,f,h,hr⟩:=K9 h;exact⟨_,_,h,λE' H' ha _ _ K' k=>by unfold rK;exact hr E' (ha l (by simp[Ak])) (ha c (by simp[Ak])) _ k⟩
 case h_6 c=>
  split at h
  ·rename_i hc;obtain⟨r,h1,h2⟩:=G8 h;exact⟨_,_,h1,λE' H' ha hu _ K' k=>by unfold rK;simp only[hc];exact h2 E' H' ha hu _ k⟩
  ·rename_i hc;obtain⟨r,h1,h2⟩:=G8 h;exact⟨_,_,h1,λE' H' ha hu _ K' k=>by unfold rK;simp only[hc];exact h2 E' H' ha hu _ k⟩
  ·rename_i f hc;rw[Ac]at h;split at h
   ·rename_i fi cap Yw;rw[C7 (De E) (AM E) (Ac E),Db]at h;obtain⟨r,h1,h2⟩:=TA h;refine⟨_,_,h1,λE' H' ha hu _ K' k=>?_⟩
    have oW:f∈(Op.call c).operands:=by simp[Ak,Call.operands,hc]
    have Zgq:∀x∈c.args.toList,x∈(Op.call c).operands:=λx hx=>by simp[Ak,Call.operands,hc];exact .inr (by simpa using hx)
    unfold rK;simp only[hc];rw[Ac,ha f oW,Yw];simp only;rw[C7 (De E') (AM E') (Ac E'),Db];have hm:c.args.toList.map (AM E')=c.args.toList.map (AM E):=Ts λx hx=>ha x (Zgq x hx)
    rw[hm];refine h2 H' (λx hx=>?_) _ k
    rcases Rj.1 hx with hx|hx
    ·obtain⟨y,hy,rfl⟩:=PR.1 hx;exact hu y (Zgq y hy)
    ·intro l ob hr hl;refine hu f oW l ob ?_ hl;rw[Yw];unfold ED
     have key:∀(xs:List AV),x∈xs->K7 l xs=true:=by
      intro xs;induction xs with
      |nil=>intro h;cases h
      |cons y ys ih=>
       intro h;unfold K7;rcases KF.1 h with rfl|h;·rw[hr];rfl
       ·rw[ih h];simp
     exact key cap hx
   ·exact h.elim
  ·exact h.elim
 case h_7 h1 h2 h3 h4 h5 h6=>
  obtain⟨r,k1,k2⟩:=G8 h;refine⟨_,_,k1,λE' H' ha hu _ K' k=>?_⟩
  unfold rK;split;·exact absurd rfl (h1 _ _)
  ·exact absurd rfl (h2 _)
  ·exact absurd rfl (h3 _ _)
  ·exact absurd rfl (h4 _ _ _)
  ·exact absurd rfl (h5 _ _ _)
  ·exact absurd rfl (h6 _)
  ·exact k2 E' H' ha hu _ k
end
def Ra(v:AV)(K:AV->Prop):Prop:=
 match v with
 |.bool b=>(b=true->K (.lit true))/\(b=false->K (.lit false))
 |w=>K w
def Vb(ops:List Oper)(E:List AV)(g:Option (Nat×Bool))(Ky Kn:Prop):Prop:=
 match g with
 |none=>Ky
 |some (j,want)=>Cm ops j λoj=>match oj.dst with
  |some d=>Cm E d λv=>(match v with
   |.lit b=>(match b,want with
    |true,true|false,false=>Ky
    |true,false=>Kn
    |false,true=>Kn)
   |.raw (.tuple ⟨[]⟩)=>Kn
   |_=>False)
  |none=>False
def QT(H:List HO)(s:Nat)(ob:Option HO)(K:List HO->Prop):Prop:=
 match ob with
 |none=>K H
 |some ob=>Cm H s λo=>(match o with|.dead=>FI H s ob K|_=>False)
def BP(H:List HO)(s:Nat)(ob:Option HO):List HO:=match ob with|none=>H|some ob=>H.set s ob
theorem PL(H:List HO)(s:Nat)(ob:Option HO)(K:List HO->Prop):QT H s ob K↔(∀x,ob=some x->H[s]?=some .dead)/\K (BP H s ob):=by
 cases ob with
 |none=>simp[QT,BP]
 |some ob=>
  simp only[QT,BP];rw[XK];constructor
  ·rintro⟨o,ho,h⟩;cases o<;>first|exact h.elim|skip
   simp only at h;rw[AG]at h;exact⟨λ_ _=>ho,h⟩
  ·rintro⟨h1,h2⟩;exact⟨.dead,h1 ob rfl,by simp only;rw[AG];exact h2⟩
def FA(P:Program)(T:List TY)(ops:List Oper)(n0 i:Nat)(o:Oper)(E:List AV)(H:List HO)(K:KK):Prop:=
 Vb ops E o.guard (rK P T (n0+i) E H o.op λv ob=>Ra v λv=>Bu E o.dst v λE'=>QT H (n0+i) ob λH'=>K E' H')
  (Bu E o.dst (.raw undef) λE'=>K E' H)
def A4:List Nat->Nat->Bool
 |[],_=>false
 |x::l,n=>match Ll x n with|true=>true|false=>A4 l n
def rdK(P:Program)(T:List TY)(ops:List Oper)(n0:Nat)(we:List Nat):Nat->List Oper->List AV->List HO->KK->XX->Prop
 |_,[],E,H,K,_=>K E H
 |i,o::r,E,H,K,X=>match A4 we i with
  |false=>FA P T ops n0 i o E H λE H=>rdK P T ops n0 we (i+1) r E H K X
  |true=>Vb ops E o.guard (Ty none P T E H o.op (λv E' H'=>Ra v λv=>Bu E' o.dst v λHU=>rdK P T ops n0 we (i+1) r HU H' K X) X)
    (Bu E o.dst (.raw undef) λE'=>rdK P T ops n0 we (i+1) r E' H K X)
def Ek(ops:List Oper)(E E':List AV)(o:Oper):Prop:=bY E E' o.op/\∀j want oj d,o.guard=some (j,want)->ops[j]?=some oj->oj.dst=some d->E'[d]?=E[d]?
section
variable {P:Program}{T:List TY}{E:List AV}{H:List HO}{ops:List Oper}{n0 i:Nat}{o:Oper}
theorem H6{v:AV}{K:AV->Prop}(h:Ra v K):∃u,K u/\(∀K':AV->Prop,K' u->Ra v K')/\(∀(C:Ae)(w:World)(mu:Mu)(z:Value),Ah C w v mu z->Ah C w u mu z)/\(∀b,u≠.bool b):=by
 unfold Ra at h;split at h
 ·rename_i b;cases b with
  |true=>exact⟨.lit true,h.1 rfl,λK' k=>by unfold Ra;exact⟨λ_=>k,λh=>by cases h⟩,λ_ _ _ _ h=>by unfold Ah at*;exact h,λ_ h=>by cases h⟩
  |false=>exact⟨.lit false,h.2 rfl,λK' k=>by unfold Ra;exact⟨λh=>(by cases h),λ_=>k⟩,λ_ _ _ _ h=>by unfold Ah at*;exact h,λ_ h=>by cases h⟩
 ·rename_i Bq;refine⟨v,h,λK' k=>?_,?_,λb hb=>Bq b hb⟩
  ·unfold Ra;split;·rename_i b;exact absurd rfl (Bq b)
   ·exact k
  ·exact λ_ _ _ _ h=>h
theorem pN{g:Option (Nat×Bool)}{Ky Kn:Prop}(h:Vb ops E g Ky Kn):
  (Ky/\∀E' Vf U3,(∀j want oj d,g=some (j,want)->ops[j]?=some oj->oj.dst=some d->E'[d]?=E[d]?)->Vf->Vb ops E' g Vf U3)\/
  (Kn/\∀E' Vf U3,(∀j want oj d,g=some (j,want)->ops[j]?=some oj->oj.dst=some d->E'[d]?=E[d]?)->U3->Vb ops E' g Vf U3):=by
 cases g with
 |none=>exact .inl ⟨h,λ_ _ _ _ k=>k⟩
 |some jw=>
  obtain⟨j,want⟩:=jw;simp only[Vb]at h;replace h:=AL.1 h;obtain⟨oj,El,h⟩:=h
  cases hd:oj.dst with
  |none=>rw[hd]at h;exact h.elim
  |some d=>
   rw[hd]at h;simp only at h;replace h:=AL.1 h;obtain⟨v,hv,h⟩:=h
   have fin:∀E' Vf U3,(∀j' Zft oj' d',some (j,want)=some (j',Zft)->ops[j']?=some oj'->oj'.dst=some d'->E'[d']?=E[d']?)->
     (match (generalizing:=false) v with|.lit b=>(match (generalizing:=false) b,want with|true,true=>Vf|false,false=>Vf|true,false=>U3|false,true=>U3)|.raw (.tuple ⟨[]⟩)=>U3|_=>False)->Vb ops E' (some (j,want)) Vf U3:=λE' Vf U3 he k=>by
    simp only[Vb];refine AL.2 ⟨oj,El,?_⟩;rw[hd];exact AL.2 ⟨v,by rw[he j want oj d rfl El hd];exact hv,k⟩
   split at h
   ·rename_i b;cases b<;>cases want
    ·exact .inl ⟨h,λE' Vf U3 he k=>fin E' Vf U3 he k⟩
    ·exact .inr ⟨h,λE' Vf U3 he k=>fin E' Vf U3 he k⟩
    ·exact .inr ⟨h,λE' Vf U3 he k=>fin E' Vf U3 he k⟩
    ·exact .inl ⟨h,λE' Vf U3 he k=>fin E' Vf U3 he k⟩
   ·exact .inr ⟨h,λE' Vf U3 he k=>fin E' Vf U3 he k⟩
   ·exact h.elim
theorem DD{K:KK}(h:FA P T ops n0 i o E H K):∃v ob,(∀x,ob=some x->H[n0+i]?=some .dead)/\K (A6 E o.dst v) (BP H (n0+i) ob)/\
  ∀E' H',Ek ops E E' o->bW E o.op H H'->H'[n0+i]?=H[n0+i]?->∀K':KK,K' (A6 E' o.dst v) (BP H' (n0+i) ob)->FA P T ops n0 i o E' H' K':=by
 unfold FA at h;rcases pN h with⟨h,hg⟩|⟨h,hg⟩
 ·obtain⟨r,ob,h,hr⟩:=tN h;obtain⟨v,h,hv,_,_⟩:=H6 h;rw[Au,PL]at h;refine⟨v,ob,h.1,h.2,λE' H' ha hu hd K' k=>?_⟩
  unfold FA;refine hg E' _ _ ha.2 (hr E' H' ha.1 hu hd _ (hv _ ?_));rw[Au,PL];exact⟨λx hx=>by rw[hd];exact h.1 x hx,k⟩
 ·rw[Au]at h;refine⟨.raw undef,none,(λ_ h=>by cases h),h,λE' H' ha hu hd K' k=>?_⟩
  unfold FA;refine hg E' _ _ ha.2 ?_;rw[Au];exact k
theorem BA{K K':KK}(h:FA P T ops n0 i o E H K)(hk:∀E H,K E H->K' E H):FA P T ops n0 i o E H K':=by
 obtain⟨v,ob,h1,h2,h3⟩:=DD h;exact h3 E H ⟨λ_ _=>rfl,λ_ _ _ _ _ _ _=>rfl⟩ (λ_ _ _ _ _ h=>h) rfl K' (hk _ _ h2)
theorem ZcU{s:Nat}{r:AV}{ob:Option HO}{X:XX}{op:Op}(h:rK P T s E H op λv TI=>v=r/\TI=ob)(hd:∀x,ob=some x->H[s]?=some .dead)(hbs:∀t n parts,op=.buildSlice t n parts->H[s]?=some .dead):
  Ty (some s) P T E H op (λv E' H'=>v=r/\E'=E/\H'=BP H s ob) X:=by
 have al:∀{x:HO}{f:Nat->AV},f s=r/\some x=ob->YB (some s) H x λH' l=>f l=r/\E=E/\H'=BP H s ob:=λ{x f} k=>by
  obtain⟨k1,rfl⟩:=k;unfold YB;exact AL.2 ⟨.dead,hd x rfl,by dsimp only;rw[AG];exact⟨k1,rfl,rfl⟩⟩
 have pu:∀{op:Op},Bj T E H op (λv=>v=r/\none=ob)->Bj T E H op (λv=>v=r/\E=E/\H=BP H s ob):=λh=>by
  obtain⟨v,k,hv⟩:=G8 h;exact hv E H (λ_ _=>rfl) (λ_ _ _ _ _ h=>h) _ ⟨k.1,rfl,by rw[<-k.2];rfl⟩
 cases op
 case box t x=>
  change Yk E x (λo f=>f s=r/\some o=ob)at h
  show Yk E x (λo f=>YB (some s) H o λH' l=>f l=r/\E=E/\H'=BP H s ob)
  obtain⟨TI,f,k,hf⟩:=Wt h;exact hf E rfl _ (al k)
 case alloc t=>
  change J4 T t (λo f=>f s=r/\some o=ob)at h
  show J4 T t (λo f=>YB (some s) H o λH' l=>f l=r/\E=E/\H'=BP H s ob)
  obtain⟨TI,f,k,hf⟩:=Q6 h;exact hf _ (al k)
 case build t parts=>
  change HI T E t parts.toList (λv=>v=r/\none=ob)at h
  show HI T E t parts.toList (λv=>v=r/\E=E/\H=BP H s ob)
  obtain⟨v,k,hv⟩:=TG h;exact hv E (λ_ _=>rfl) _ ⟨k.1,rfl,by rw[<-k.2];rfl⟩
 case buildSlice t n parts=>
  have h0:=hbs t n parts rfl;unfold rK at h;replace h:=AL.1 h;obtain⟨pl,Lj,h⟩:=h
  rw[h0]at Lj;obtain rfl:=Ji.inj Lj;change BH T E t n parts.toList (λo f=>f s=r/\some o=ob)at h
  show BH T E t n parts.toList (λo f=>YB (some s) H o λH' l=>f l=r/\E=E/\H'=BP H s ob)
  obtain⟨TI,f,k,hf⟩:=GB h;exact hf E (λ_ _=>rfl) _ (al k)
 case makeSlice t l c=>
  change Dm T E t l c (λo f=>f s=r/\some o=ob)at h
  show Dm T E t l c (λo f=>YB (some s) H o λH' l=>f l=r/\E=E/\H'=BP H s ob)
  obtain⟨TI,f,k,hf⟩:=K9 h;exact hf E rfl rfl _ (al k)
 case call c=>
  unfold rK at h;unfold Ty;dsimp only at h⊢;split at h
  ·rename_i hc;rw[hc];exact pu h
  ·rename_i hc;rw[hc];exact pu h
  ·rename_i f hc;rw[hc];dsimp only;rw[Ac]at h ⊢;split at h
   ·rename_i fi cap Yw;rw[Yw];dsimp only;rw[C7 (De E) (AM E) (Ac E),Db]at h ⊢
    have WJ:Cq P fi=true:=by
     unfold KM at h;obtain⟨as',⟨v,hv,_⟩,_⟩:=La h;exact hv.1.Eh
    obtain⟨v,k,hv⟩:=TA h;exact Aj.tS (hv H (λ_ _ _ _ _ h=>h) _ ⟨k.1,rfl,by rw[<-k.2];rfl⟩) WJ
   ·exact h.elim
  ·exact h.elim
 case convert s' d x=>
  have h':=pu (show Bj T E H (.convert s' d x) (λv=>v=r/\none=ob)from h)
  unfold Bj at h';unfold Ty;dsimp only at h'⊢;rw[Ac]at h' ⊢;generalize AM E x=ex at h';cases ex<;>first|exact h'.elim|skip
  ·exact h'
  ·rename_i l;unfold Jo at h';dsimp only at h'⊢;replace h':=AL.1 h';obtain⟨ys,hys,h'⟩:=h'
   replace h':=AL.1 h';obtain⟨yd,hyd,h'⟩:=h'
   refine AL.2 ⟨yd,hyd,?_⟩;cases hk:yd.k<;>rw[hk]at h'<;>first|exact h'.elim|skip
   dsimp only;unfold Jo;exact AL.2 ⟨ys,hys,AL.2 ⟨yd,hyd,by rw[hk];exact h'⟩⟩
 case load t ad=>
  unfold rK at h;dsimp only at h;cases ad with
  |global g=>exact(show False from h).elim
  |_=>exact pu h
 all_goals
  unfold rK at h;dsimp only at h;first|exact pu h|(unfold Bj at h;exact h.elim)
end
section
variable {G:Cx}{C:Ae}{w w':World}{mu:Mu}{H:List HO}{E:List AV}{a:Act}{T:List TY}{P:Program}{ops:Array Oper}{n0 i:Nat}{o:Oper}
theorem Qv{Ky Kn:Prop}(Af:Az G C mu E H a w)(h:Vb ops.toList E o.guard Ky Kn):
  (K0 o (yielded ops a.tmps)=true/\Ky)\/(K0 o (yielded ops a.tmps)=false/\Kn):=by
 cases hg:o.guard with
 |none=>rw[hg]at h;exact .inl ⟨by simp[K0,hg],h⟩
 |some jw=>
  obtain⟨j,want⟩:=jw;rw[hg]at h;simp only[Vb]at h;replace h:=AL.1 h;obtain⟨oj,El,h⟩:=h
  split at h
  ·rename_i d hd;replace h:=AL.1 h;obtain⟨v,hv,h⟩:=h
   obtain⟨u,hu,hr⟩:=Ii Af.env hv;have Zgr:ops[j]?=some oj:=by simpa using El
   have hw:∀b,u=.bool b->K0 o (yielded ops a.tmps)=(b == want):=λb hb=>by
    simp[K0,hg,yielded,Zgr,hd,hu,hb]
   split at h
   ·rename_i b;have hb:=Bi hr;cases b<;>cases want
    ·exact .inl ⟨by rw[hw _ hb];rfl,h⟩
    ·exact .inr ⟨by rw[hw _ hb];rfl,h⟩
    ·exact .inr ⟨by rw[hw _ hb];rfl,h⟩
    ·exact .inl ⟨by rw[hw _ hb];rfl,h⟩
   ·have hb:u=.tuple ⟨[]⟩:=by unfold Ah at hr;exact hr
    refine .inr ⟨?_,h⟩;simp[K0,hg,yielded,Zgr,hd,hu,hb]
   ·exact h.elim
  ·exact h.elim
theorem xP(H:List HO)(ob:HO):Al H H.length (H++[ob]) ob:=⟨by simp,by simp,by simp,λi hi=>by
 rcases Xag i H.length with h|h;·rw[Kx h]
 ·rw[Uj h,Ql (by simp;omega),Ql h],.inl (by simp)⟩
theorem Rz:∀{es:List AV},An es=true->∀e∈es,closed e=true
 |[],_,_,h=>by cases h
 |a::r,hc,e,he=>by
  unfold An at hc;simp only[D0]at hc;rcases KF.1 he with rfl|he;·exact hc.1
  ·exact Rz hc.2 e he
theorem VL(hT:BG G.P T)(h:Az G C mu E H a w){t:TypeId}{n:Nat}{parts:Array (Nat×Operand)}{K:AV->Prop}(hk:BH T E t n parts.toList λob _=>imK ob K):
  ∃r v C' w',K r/\(Instr.buildSlice t n (parts.map λp=>(p.1,a.eval p.2))).run G.P w=.ok v w'/\Az G C' mu E H a w'/\Ah C' w' r mu v:=by
 obtain⟨e,Bv,es,us,k1,k2,k3,k4,k5,k6,k7,k8⟩:=Lz hT h hk;unfold imK at k1;dsimp only at k1;split at k1
 ·rename_i hc;have hb:Below w.heap.size w (w.alloc (.cells us.toArray e)):=(Below.refl _ _).alloc (PC _) _;have EI:(w.alloc (.cells us.toArray e)).heap.size=w.heap.size+1:=by simp
  obtain⟨mu',m1,m2⟩:=SB (cap:=n) h (xP H (.arr e Bv es)) k3 (e:=e) (vs:=us) (by rw[k2,<-k6,List.take_length];exact k4) k5 (by omega) (by omega) k6
  refine⟨_,_,Ld C w.heap.size (w.alloc (.cells us.toArray e)).heap.size,_,k1,k8,h.below hb,?_⟩;have hx:Ext C (Ld C w.heap.size (w.alloc (.cells us.toArray e)).heap.size) (w.alloc (.cells us.toArray e)) (w.alloc (.cells us.toArray e)):=⟨λ_ _ h=>.inl h,λ_ _ _=>rfl⟩
  have m3:=m2;unfold Ah at m3;obtain⟨x,hm,hle,NT,hv⟩:=m3
  have hB:∀g b o,mu' H.length=some g->g.Aq=some b->Ld C w.heap.size (w.alloc (.cells us.toArray e)).heap.size b o:=by
   intro g b o hg MC;rw[hm]at hg;obtain rfl:=Ji.inj hg;unfold BO at hv;split at hv
   ·rename_i ad _ cap;simp only[Value.slice.injEq,Ji.injEq,Addr.mk.injEq]at hv;simp only[GO.Aq,Ji.injEq]at MC;right;rw[EI];omega
   ·simp at hv
  have:=KS (l:=H.length) (e:=e) (sz:=Bv) (es:=es) m1.heap hx hB (by simp) (Rz hc) m2
  rw[k2]at this;exact Ah.mono (Ext.refl _ _) _ (AI.none mu) this
 ·exact k1.elim
theorem N8(hT:BG G.P T){r:Option Nat}{n:Nat}(hi:ops[i]?=some o){K Kn:KK}{X:XX}(h:FA G.P T ops.toList n0 i o E H K)(Af:Az G C mu E H a w):
  (K0 o (yielded ops a.tmps)=true/\o.wpIn (fw r) n G.P a w (λa w=>∃E' H',K E' H'/\St G E' H' a w) (Mg G Kn X))\/
  (K0 o (yielded ops a.tmps)=false/\∃E' H',K E' H'/\St G E' H' (a.put o.dst undef) w):=by
 unfold FA at h;rcases Qv Af h with⟨hw,h⟩|⟨hw,h⟩
 ·refine .inl ⟨hw,?_⟩;obtain⟨r,ob,h,hr⟩:=tN h;obtain⟨v,hk,_,hv,_⟩:=H6 h;rw[Au,PL]at hk;have yF:=hr E H (λ_ _=>rfl) (λ_ _ _ _ _ h=>h) rfl (λv TI=>v=r/\TI=ob) ⟨rfl,rfl⟩
  have fin:∀a' w',IQ G o (λv E' H'=>v=r/\E'=E/\H'=BP H (n0+i) ob) a' w'->∃E' H',K E' H'/\St G E' H' a' w':=by
   intro a' w' hp;obtain⟨r',E',H',⟨rfl,rfl,rfl⟩,C',mu',hs⟩:=hp;refine⟨_,_,hk.2,C',mu',hs.frame ?_ rfl⟩;have he:=hs.env;cases hd:o.dst with
   |none=>rw[hd]at he;exact he
   |some d=>
    rw[hd]at he;rw[AH]at he ⊢;refine⟨by simpa[A6]using he.1,λk hk HB=>?_⟩
    have vP:k<(A6 E' (some d) r').length:=by simpa[A6]using hk
    have:=he.2 k vP HB;by_cases rB:d=k
    ·subst rB;simp only[A6,VA]at this ⊢;exact hv _ _ _ _ this
    ·simp only[A6]at this ⊢;rw[Yx rB]at this ⊢;exact this
  by_cases hbs:∀t n parts,o.op=.buildSlice t n parts->H[n0+i]?=some .dead
  ·have h1:=ZcU (X:=X) yF hk.1 hbs;exact DV hT h1 Af fin
  ·have hbs:∃t n parts,o.op=.buildSlice t n parts/\H[n0+i]?≠some .dead:=by
    apply Classical.byContradiction;intro Bq;exact hbs λt n parts ho=>Classical.byContradiction λhd=>Bq ⟨t,n,parts,ho,hd⟩
   obtain⟨t,m,parts,ho,Qp⟩:=hbs;rw[ho]at yF;unfold rK at yF;replace yF:=AL.1 yF;obtain⟨pl,Lj,yF⟩:=yF
   split at yF;·exact absurd Lj Qp
   ·obtain⟨r',v',C',w',⟨e1,e2⟩,e3,e4,e5⟩:=VL hT Af yF;have h1:r'=r/\E=E/\H=BP H (n0+i) ob:=⟨e1,rfl,by rw[<-e2];rfl⟩
    have h2:(execOp a.eval o).run G.P w=.ok (.value v') w':=AZ (by simp[execOp,ho]) e3
    exact Bz (λc hc=>by rw[ho]at hc;cases hc) (AK (X:=X) (Q:=Kn) (K:=λv E' H'=>v=r/\E'=E/\H'=BP H (n0+i) ob) fin h1 h2 e4 e5)
   ·exact yF.elim
 ·rw[Au]at h;refine .inr ⟨hw,_,_,h,C,mu,Af.frame (Bf Af.env o.dst (by unfold Ah;rfl)) (put_defers _ _ _)⟩
theorem yZ{next:Act->World->Prop}{Q:Exit->Act->World->Prop}(h:o.wpIn (fw none) 0 P a w next Q):(∃a w,next a w)\/∃e a w,Q e a w:=by
 have h:=h.2;generalize (o.semAt (fw none).round a.eval).run P w=r at h;cases r with
 |ok n w'=>
  cases n<;>simp only[Yu]at h<;>first|exact h.elim|exact .inl ⟨_,_,h⟩|skip
  ·obtain⟨e,NR,fr,h,_⟩:=h.2.2 [] (room_wide _);cases e with
   |returned v=>exact .inl ⟨_,_,h⟩
   |panicked c=>exact .inr ⟨_,_,_,h⟩
   |outgrown=>obtain⟨a,w,h⟩:=h;exact .inr ⟨_,_,_,h⟩
  ·obtain⟨e,NR,h,_⟩:=h.2.2 (Frame.ofRow P "" #[] .normal) [] (room_wide _)
   cases e with
   |returned v=>exact .inl ⟨_,_,h⟩
   |panicked c=>exact .inr ⟨_,_,_,h⟩
   |outgrown=>obtain⟨a,w,h⟩:=h;exact .inr ⟨_,_,_,h⟩
  ·obtain⟨v,NR,h,_⟩:=h.2 (Frame.ofRow P "" #[] .normal) [] (room_wide _)
   exact .inl ⟨_,_,h⟩
 |halt x w'=>cases x<;>simp only[Yu]at h<;>first|exact h.elim|exact .inr ⟨_,_,_,h⟩
def Sat(P:Program)(E:List AV)(H:List HO):Prop:=∃G a w,G.P=P/\St G E H a w
theorem Hg(hT:BG P T)(hi:ops[i]?=some o){E':List AV}{H':List HO}(h:FA P T ops.toList n0 i o E H λE1 H1=>E1=E'/\H1=H')(hs:Sat P E H):Sat P E' H':=by
 obtain⟨G,a,w,rfl,C,mu,Af⟩:=hs;rcases N8 (r:=none) (n:=0) hT hi (Kn:=λ_ _=>False) (X:=λ_ _ _=>False) h Af with⟨_,h1⟩|⟨_,E1,H1,⟨e1,e2⟩,h1⟩
 ·rcases yZ h1 with⟨a',w',E1,H1,⟨e1,e2⟩,h2⟩|⟨e,a',w',h2⟩;·subst e1 e2;exact⟨G,a',w',rfl,h2⟩
  ·cases e<;>simp[Mg]at h2
 ·subst e1 e2;exact⟨G,_,w,rfl,h1⟩
theorem V8(hs:Sat P E H){l:Nat}(hl:H[l]?=some .dead)(x:Operand):ED l (AM E x)=false:=by
 obtain⟨G,a,w,rfl,C,mu,Af⟩:=hs;exact Xo (Af.heap.dead l hl) _ (AX Af.env x)
end
section
variable {H:List HO}{E:List AV}{T:List TY}{P:Program}
structure Zbu(f:AV->AV):Prop where
 any:f .any=.any
 bool:∀b,f (.bool b)=.bool b
 lit:∀b,f (.lit b)=.lit b
 ZfT:∀x b,f x=.bool b->x=.bool b
theorem uC:Zbu id:=⟨rfl,λ_=>rfl,λ_=>rfl,λ_ _ h=>h⟩
theorem oG(l:Nat):Zbu (Co l):=by
 refine⟨by unfold Co;rfl,λb=>by unfold Co;rfl,λb=>by unfold Co;rfl,λx b h=>?_⟩
 cases x<;>unfold Co at h<;>first|exact h|(split at h<;>cases h)|cases h
theorem M4(l:Nat):∀E:List AV,BK l E=E.map (Co l)
 |[]=>by simp[BK]
 |x::E=>by simp[BK,M4 l E]
theorem eX{x:AV}{K:Nat->List AV->Prop}(h:Fo H x K):∃sz es,K sz es/\∀K':Nat->List AV->Prop,K' sz es->Fo H x K':=by
 unfold Fo at h;split at h;·exact⟨_,_,h,λK' k=>k⟩
 ·replace h:=AL.1 h;obtain⟨ob,Bh,h⟩:=h
  split at h
  ·split at h
   ·rename_i hb;exact⟨_,_,h.2,λK' k=>by unfold Fo;exact AL.2 ⟨_,Bh,by simp only[hb];exact⟨h.1,k⟩⟩⟩
   ·exact h.elim
  ·exact h.elim
 ·exact h.elim
mutual
theorem JA(l:Nat):∀x:AV,closed x=true->Co l x=x
 |.own _ _ _ _,h|.el _ _ _ _,h|.ptr _ _,h|.om _,h=>by unfold closed at h;cases h
 |.fn f cap,h|.mv f cap,h=>by unfold closed at h;unfold Co;rw[F8 l cap h]
 |.iface t x,h=>by unfold closed at h;unfold Co;rw[JA l x h]
 |.agg cs,h|.tuple cs,h=>by unfold closed at h;unfold Co;rw[F8 l cs h]
 |.any,_|.int _ _,_|.bool _,_|.lit _,_|.str _,_|.sl _ _,_|.at_ _,_|.raw _,_|.mp _ _,_=>by unfold Co;rfl
theorem F8(l:Nat):∀xs:List AV,An xs=true->BK l xs=xs
 |[],_=>by unfold BK;rfl
 |x::xs,h=>by
  unfold An at h;simp only[D0]at h;unfold BK;rw[JA l x h.1,F8 l xs h.2]
end
structure U5(H:List HO)(f:AV->AV)(H1:List HO):Prop where
 nat:Zbu f
 cl:∀v,closed v=true->f v=v
 ptr:∀l o,f (.ptr l o)=.ptr l o
 cells:∀(l:Nat) cs,H[l]?=some (.cells cs)->An cs=true->H1[l]?=some (.cells cs)
 place:∀(l:Nat),H[l]?=some .dead\/H[l]?=some (.ghost [] [] [])->H1[l]?=H[l]?
theorem lS(H:List HO):U5 H id H:=⟨uC,λ_ _=>rfl,λ_ _=>rfl,λ_ _ h _=>h,λ_ _=>rfl⟩
theorem YZ{x:HO}{l:Nat}{y:HO}(h:H[l]?=some y):(H++[x])[l]?=some y:=by
 rw[Kx (Fl.1 h).1];exact h
theorem pK(H:List HO)(x:HO):U5 H id (H++[x]):=⟨uC,λ_ _=>rfl,λ_ _=>rfl,λ_ _ h _=>YZ h,λl h=>by
 rcases h with h|h<;>rw[YZ h,h]⟩
theorem wB{l:Nat}{e e':TypeId}{sz BI:Nat}{es Cg:List AV}(h:H[l]?=some (.arr e sz es)):U5 H (Co l) ((H.map (Bd l)).set l (.arr e' BI Cg)):=by
 have key:∀{k:Nat}{y:HO},H[k]?=some y->(∀e sz es,y≠.arr e sz es)->Bd l y=y->((H.map (Bd l)).set l (.arr e' BI Cg))[k]?=some y:=λ{k y} hk Bq hy=>by
  have NU:l≠k:=λhe=>by subst he;rw[h]at hk;injection hk with hk;exact Bq _ _ _ hk.symm
  rw[Ff NU,Xac,hk];simp[hy]
 refine⟨oG l,λv hv=>JA l v hv,λk o=>by unfold Co;rfl,λk cs hk hc=>key hk (by intros;simp) (by show HO.cells (BK l cs)=_;rw[F8 l cs hc]),λk hk=>?_⟩
 rcases hk with hk|hk;·rw[key hk (by intros;simp) rfl,hk]
 ·rw[key hk (by intros;simp) (by unfold Bd BK;rfl),hk]
theorem OH{t t':TypeId}{s x:Operand}{K:AV->KK}(h:Ft none T E H t t' s x K):
  ∃r f H',U5 H f H'/\K r (E.map f) H'/\∀(E2:List AV),AM E2 s=AM E s->AM E2 x=AM E x->∀K':AV->KK,K' r (E2.map f) H'->Ft none T E2 H t t' s x K':=by
 unfold Ft at h;split at h;case h_2=>exact h.elim
 rename_i ht;replace h:=AL.1 h;obtain⟨y,hy,h⟩:=h
 split at h;case h_2=>exact h.elim
 rename_i e Bv by' ag hk
 split at h;case h_2=>exact h.elim
 rename_i hb;rw[Ac,Ac]at h
 have fin:∀(E2:List AV),AM E2 s=AM E s->AM E2 x=AM E x->∀K':AV->KK,(match (generalizing:=false) AM E x with
    |.raw (.slice none 0 0)=>(match AM E s with
     |.own l sz lo n=>Cm H l λob=>(match ob with|.arr _ _ _=>K' (.own l sz lo n) E2 H|_=>False)
     |.raw (.slice none 0 0)=>K' (.raw (.slice none 0 0)) E2 H
     |_=>False)
    |_=>Fo H (AM E x) λsz xs=>(match Ll sz Bv with
     |true=>(match AM E s with
      |.raw (.slice none 0 0)=>(xs.length*by'<=140737488355328)/\Gc T e λz=>DB z λzc=>(match Ll zc.length Bv&&zc.all Dr with
       |true=>YB none H (.arr e Bv xs) λH' l=>K' (.own l Bv 0 xs.length) E2 H'
       |false=>False)
      |.own l BI lo n=>Cm H l λob=>(match ob with
       |.arr e' dE es=>(match Ll BI Bv&&Ll dE Bv&&Ll lo 0&&Ll e' e with
        |true=>(n=es.length/\(es++xs).length*by'<=140737488355328)/\Gc T e λz=>DB z λzc=>(match Ll zc.length Bv&&zc.all Dr with
         |true=>JB l E2 λE'=>Di l H λH=>FI H l (.arr e Bv (es++xs)) λH'=>K' (.own l Bv 0 (es++xs).length) E' H'
         |false=>False)
        |false=>False)
       |_=>False)
      |_=>False)
     |false=>False))->Ft none T E2 H t t' s x K':=λE2 h1 h2 K' k=>by
  unfold Ft;simp only[ht];refine AL.2 ⟨y,hy,?_⟩;simp only[hk,hb];rw[Ac,Ac,h1,h2];exact k
 generalize AM E s=sv at h fin;generalize AM E x=xv at h fin;split at h
 ·split at h
  ·rename_i l sz lo n;replace h:=AL.1 h;obtain⟨ob,Bh,h⟩:=h
   split at h;·exact⟨_,id,H,(lS H),by simpa using h,λE2 h1 h2 K' k=>fin E2 h1 h2 K' (AL.2 ⟨_,Bh,by simpa using k⟩)⟩
   ·exact h.elim
  ·exact⟨_,id,H,(lS H),by simpa using h,λE2 h1 h2 K' k=>fin E2 h1 h2 K' (by simpa using k)⟩
  ·exact h.elim
 ·rename_i Bq;obtain⟨sz,xs,h,he⟩:=eX h
  have wL:∀(E2:List AV),AM E2 s=sv->AM E2 x=xv->∀K':AV->KK,Fo H xv (λsz xs=>(match Ll sz Bv with
     |true=>(match (generalizing:=false) sv with
      |.raw (.slice none 0 0)=>(xs.length*by'<=140737488355328)/\Gc T e λz=>DB z λzc=>(match Ll zc.length Bv&&zc.all Dr with
       |true=>YB none H (.arr e Bv xs) λH' l=>K' (.own l Bv 0 xs.length) E2 H'
       |false=>False)
      |.own l BI lo n=>Cm H l λob=>(match ob with
       |.arr e' dE es=>(match Ll BI Bv&&Ll dE Bv&&Ll lo 0&&Ll e' e with
        |true=>(n=es.length/\(es++xs).length*by'<=140737488355328)/\Gc T e λz=>DB z λzc=>(match Ll zc.length Bv&&zc.all Dr with
         |true=>JB l E2 λE'=>Di l H λH=>FI H l (.arr e Bv (es++xs)) λH'=>K' (.own l Bv 0 (es++xs).length) E' H'
         |false=>False)
        |false=>False)
       |_=>False)
      |_=>False)
     |false=>False))->Ft none T E2 H t t' s x K':=λE2 h1 h2 K' k=>fin E2 h1 h2 K' (by
   split;·exact absurd rfl Bq
   ·exact k)
  split at h;case h_2=>exact h.elim
  rename_i EI;split at h
  ·obtain⟨hl,h⟩:=h;obtain⟨z,h,hz⟩:=I8 h;rw[Am]at h;split at h
   ·rename_i hc;unfold YB at h;simp only at h;rw[LK]at h;refine⟨_,id,_,(pK H _),by simpa using h,λE2 h1 h2 K' k=>wL E2 h1 h2 K' (he _ ?_)⟩
    simp only[EI];refine⟨hl,hz _ ?_⟩;rw[Am];simp only[hc];unfold YB;simp only;rw[LK];simpa using k
   ·exact h.elim
  ·rename_i l BI lo n;replace h:=AL.1 h;obtain⟨ob,Bh,h⟩:=h
   split at h;case h_2=>exact h.elim
   rename_i e' dE es;split at h;case h_2=>exact h.elim
   rename_i hq;obtain⟨hl,h⟩:=h;obtain⟨z,h,hz⟩:=I8 h;rw[Am]at h;split at h
   ·rename_i hc;rw[FO,DP,AG]at h;rw[M4]at h;refine⟨_,Co _,_,wB Bh,h,λE2 h1 h2 K' k=>wL E2 h1 h2 K' (he _ ?_)⟩
    simp only[EI];refine AL.2 ⟨_,Bh,?_⟩;simp only[hq];refine⟨hl,hz _ ?_⟩;rw[Am];simp only[hc];rw[FO,DP,AG,M4];exact k
   ·exact h.elim
  ·exact h.elim
end
end Go.Av
namespace Go.Av
open Go.RowKit (Below)
section
variable {G:Cx}{C:Ae}{w w':World}{mu:Mu}{H:List HO}{E:List AV}{a:Act}{T:List TY}{P:Program}{ops:Array Oper}{n0 i j:Nat}{o oi oj:Oper}{we:List Nat}{K:KK}{X:XX}
theorem IU{d e:Option Tmp}{x y:AV}(h:∀t,d=some t->e≠some t):A6 (A6 E d x) e y=A6 (A6 E e y) d x:=by
 cases d with
 |none=>rfl
 |some d=>
  cases e with
  |none=>rfl
  |some e=>
   have Bq:d≠e:=λhe=>h d rfl (he▸rfl)
   simp only[A6];exact Z9 _ _ Bq
theorem V4{s t:Nat}{x y:Option HO}(h:s≠t):BP (BP H s x) t y=BP (BP H t y) s x:=by
 cases x<;>cases y<;>simp only[BP]
 exact Z9 _ _ h
theorem L9{d:Option Tmp}{x:AV}{y:Operand}(h:∀t,d=some t->y≠.tmp t):AM (A6 E d x) y=AM E y:=by
 cases d with
 |none=>rfl
 |some d=>
  cases y with
  |tmp t=>
   have Bq:d≠t:=λhe=>h d rfl (he▸rfl)
   simp only[A6,AM,Uk];rw[Ff Bq]
  |_=>rfl
theorem CH{d:Option Tmp}{x:AV}(h:∀t,d=some t->t∉o.looksAt ops):Ek ops.toList E (A6 E d x) o:=by
 refine⟨λy hy=>L9 λt ht he=>h t ht ?_,λg want og t hg hog ht=>?_⟩
 ·subst he;unfold Uo;refine Mx _ (List.mem_filterMap.2 ⟨.tmp t,by simpa using hy,rfl⟩)
 ·cases d with
  |none=>rfl
  |some d=>
   have Bq:d≠t:=λhe=>h d rfl (by
    subst he;unfold Uo;refine NF _ ?_;have:ops[g]?=some og:=by simpa using hog
    simp[hg,this,ht])
   simp only[A6];rw[Ff Bq]
theorem Ek.symm{E':List AV}(h:Ek ops.toList E E' o):Ek ops.toList E' E o:=
 ⟨λx hx=>(h.1 x hx).symm,λg want og t hg hog ht=>(h.2 g want og t hg hog ht).symm⟩
theorem Z6(hs:Sat P E H){op:Op}{s:Nat}{x:Option HO}(hd:∀y,x=some y->H[s]?=some .dead):bW E op H (BP H s x):=by
 intro y _ l ob hr hl;cases x with
 |none=>exact hl
 |some x=>
  by_cases yN:s=l
  ·subst yN;rw[V8 hs (hd x rfl) y]at hr;cases hr
  ·simp only[BP];rw[Ff yN];exact hl
theorem Uh(hs:Sat P E H){E':List AV}{op:Op}{s:Nat}{x:Option HO}(he:∀y∈op.operands,AM E' y=AM E y)(hd:∀y,x=some y->H[s]?=some .dead):bW E' op (BP H s x) H:=by
 intro y hy l ob hr hl;cases x with
 |none=>exact hl
 |some x=>
  by_cases yN:s=l
  ·subst yN;rw[he y hy,V8 hs (hd x rfl) y]at hr;cases hr
  ·simp only[BP]at hl;rw[Ff yN]at hl;exact hl
theorem jN(hT:BG P T)(hs:Sat P E H)(hi:ops[i]?=some oi)(hj:ops[j]?=some oj)(PB:i≠j)(Ut:oi.apart ops oj=true){Ki Kj:KK}
  (h:FA P T ops.toList n0 i oi E H Ki) (hk:∀E' H',Sat P E' H'->Ki E' H'->FA P T ops.toList n0 j oj E' H' Kj):
  FA P T ops.toList n0 j oj E H λE1 H1=>FA P T ops.toList n0 i oi E1 H1 Kj:=by
 obtain⟨p1,p2,p3⟩:=Xam Ut;obtain⟨vi,Pw,di,ki,ti⟩:=DD h;have refl:∀o:Oper,Ek ops.toList E E o:=λo=>⟨λ_ _=>rfl,λ_ _ _ _ _ _ _=>rfl⟩
 have Gs:Sat P (A6 E oi.dst vi) (BP H (n0+i) Pw):=Hg hT hi (ti E H (refl oi) (λ_ _ _ _ _ h=>h) rfl _ ⟨rfl,rfl⟩) hs
 have h2:=hk _ _ Gs ki;obtain⟨vj,obj,dj,kj,tj⟩:=DD h2;have ag:=CH (x:=vi) (E:=E) p1
 have dj':∀x,obj=some x->H[n0+j]?=some .dead:=λx hx=>by
  have:=dj x hx;cases Pw with
  |none=>exact this
  |some y=>simp only[BP]at this;rwa [Ff (by omega)]at this
 have sne:∀(x:Option HO)(s t:Nat),s≠t->(BP H s x)[t]?=H[t]?:=λx s t Af=>by
  cases x with
  |none=>rfl
  |some y=>simp only[BP];rw[Ff Af]
 refine tj E H ag.symm (Uh hs ag.1 di) (sne _ _ _ (by omega)).symm _ ?_
 refine ti _ _ (CH p3) (Z6 hs dj') (sne _ _ _ (by omega)) _ ?_
 ·rw[IU p2,V4 (show n0+i≠n0+j by omega)]at kj
  exact kj
def D6(P:Program)(T:List TY)(ops:List Oper)(o:Oper)(E:List AV)(H:List HO)(K:KK)(X:XX):Prop:=
 Vb ops E o.guard (Ty none P T E H o.op (λv E' H'=>Ra v λv=>Bu E' o.dst v λHU=>K HU H') X) (Bu E o.dst (.raw undef) λE'=>K E' H)
def mvB(o:Oper):Bool:=match o.op with|.move (.tmp _)=>o.guard.isNone&&o.dst.isSome|_=>false
def apB(o:Oper):Bool:=match o.op with
 |.call c=>(match c.callee with|.builtin .append=>o.guard.isNone&&Ll c.args.size 2&&Ll c.argTypes.size 2|_=>false)
 |_=>false
theorem kM(PA:mvB oi=true)(Mz:apB oj=true)(p1:∀t,oi.dst=some t->t∉oj.looksAt ops)(p2:∀t,oi.dst=some t->oj.dst≠some t)(p3:∀t,oj.dst=some t->t∉oi.looksAt ops){Kw:KK}
  (h:FA P T ops.toList n0 i oi E H λE' H'=>D6 P T ops.toList oj E' H' Kw X):D6 P T ops.toList oj E H (λE1 H1=>FA P T ops.toList n0 i oi E1 H1 Kw) X:=by
 obtain⟨Uf,WC,ity,ZX,Z3,uZ⟩:=oi;obtain⟨Kz,jop,jty,fQ,fR,jgd⟩:=oj;unfold mvB at PA;unfold apB at Mz;simp only at PA Mz;cases WC<;>first|cases PA|skip
 rename_i x;cases x<;>first|cases PA|skip
 rename_i s;cases uZ<;>simp at PA
 cases Uf<;>simp at PA
 rename_i d;cases jop<;>first|cases Mz|skip
 rename_i c;obtain⟨cK,args,Jt⟩:=c;simp only at Mz;cases cK<;>first|cases Mz|skip
 rename_i bi;cases bi<;>first|cases Mz|skip
 cases jgd<;>simp at Mz
 obtain⟨ha,ht⟩:=Mz
 obtain⟨sx,xx,rfl⟩:∃sx xx,args=#[sx,xx]:=by
  match args,ha with
  |⟨[a,b]⟩,_=>exact⟨a,b,rfl⟩
 obtain⟨t1,t2,rfl⟩:∃t1 t2,Jt=#[t1,t2]:=by
  match Jt,ht with
  |⟨[a,b]⟩,_=>exact⟨a,b,rfl⟩
 have hd:=p1 d rfl;have q1:sx≠.tmp d:=λe=>hd (by subst e;simp[Uo,Ak,Call.operands])
 have q2:xx≠.tmp d:=λe=>hd (by subst e;simp[Uo,Ak,Call.operands])
 have q3:∀t,Kz=some t->t≠s:=λt e he=>p3 t e (by subst he;simp[Uo,Ak])
 have q4:Kz≠some d:=p2 d rfl
 have Ve:∀{v:AV}{x:Operand},x≠.tmp d->AM (E.set d v) x=AM E x:=λ{v x} hx=>by
  have:=L9 (E:=E) (d:=some d) (x:=v) (y:=x) (λt ht he=>hx (by cases ht;exact he))
  simpa[A6]using this
 -- the move,at any frame
 have mv:∀{E:List AV}{H:List HO}{K:KK},FA P T ops.toList n0 i {dst:=some d,op:=.move (.tmp s),type:=ity,pos:=ZX,after:=Z3,guard:=none} E H K↔Ra (AM E (.tmp s)) λv=>K (E.set d v) H:=λ{E H K}=>by
  unfold FA Vb rK Bj;simp only[Ac,QT,Au,A6]
 have ap:∀{E:List AV}{H:List HO}{K:KK},D6 P T ops.toList {dst:=Kz,op:=.call ⟨.builtin .append,#[sx,xx],#[t1,t2]⟩,type:=jty,pos:=fQ,after:=fR,guard:=none} E H K X↔
   Ft none T E H t1 t2 sx xx (λv E' H'=>Ra v λv=>Bu E' Kz v λHU=>K HU H'):=λ{E H K}=>by
  unfold D6 Vb Ty;exact Iff.rfl
 rw[mv]at h;rw[ap]
 obtain⟨v,hv,Us⟩:∃v,D6 P T ops.toList {dst:=Kz,op:=.call ⟨.builtin .append,#[sx,xx],#[t1,t2]⟩,type:=jty,pos:=fQ,after:=fR,guard:=none} (E.set d v) H Kw X/\
   ∀f,Zbu f->∀K':AV->Prop,K' (f v)->Ra (f (AM E (.tmp s))) K':=by
  generalize AM E (.tmp s)=z at h⊢;by_cases hz:∃b,z=.bool b
  ·obtain⟨b,rfl⟩:=hz;refine⟨.lit b,?_,λf hf K' k=>?_⟩
   ·unfold Ra at h;cases b with
    |true=>exact h.1 rfl
    |false=>exact h.2 rfl
   ·rw[hf.bool];rw[hf.lit]at k;unfold Ra;exact⟨λe=>by subst e;exact k,λe=>by subst e;exact k⟩
  ·have nb:∀{z:AV}{K:AV->Prop},(∀b,z≠.bool b)->(Ra z K↔K z):=λ{z K} hz=>by
    cases z<;>first|exact Iff.rfl|exact absurd rfl (hz _)
   refine⟨z,?_,λf hf K' k=>?_⟩
   ·exact(nb λb e=>hz ⟨b,e⟩).1 h
   ·exact(nb λb e=>hz ⟨b,hf.ZfT z b e⟩).2 k
 rw[ap]at hv;obtain⟨r,f,H',⟨hf,_⟩,hk,hto⟩:=OH hv;refine hto E (Ve q1).symm (Ve q2).symm _ ?_;obtain⟨u,hu,hu2,_,_⟩:=H6 hk;refine hu2 _ ?_;rw[Au]at hu ⊢;rw[mv]
 have e1:AM (A6 (E.map f) Kz u) (.tmp s)=f (AM E (.tmp s)):=by
  rw[L9 λt ht he=>q3 t ht (by cases he;rfl)]
  simp only[AM,Uk,Xac];cases E[s]? with
  |none=>exact hf.any.symm
  |some x=>rfl
 rw[e1];refine Us f hf _ ?_
 have e2:(A6 (E.map f) Kz u).set d (f v)=A6 ((E.set d v).map f) Kz u:=by
  rw[List.map_set];cases Kz with
  |none=>rfl
  |some j=>
   have Bq:j≠d:=λe=>q4 (by rw[e])
   simp only[A6];exact Z9 _ _ Bq
 rw[e2];exact hu
def WV(P:Program)(T:List TY)(ops:Array Oper)(n0:Nat)(we:List Nat)(K:KK)(X:XX)(j:Nat)(Kn:KK)(E:List AV)(H:List HO):Prop:=
 match ops[j]? with
 |none=>Kn E H
 |some o=>match A4 we j with
  |false=>FA P T ops.toList n0 j o E H Kn
  |true=>∃Kw:KK,D6 P T ops.toList o E H Kw X/\∀E H,Kw E H->Kn E H
def Dc(P:Program)(T:List TY)(ops:Array Oper)(n0:Nat)(we:List Nat)(K:KK)(X:XX):Nat->Array Bool->List AV->List HO->Prop
 |0,listed,E,H=>Sat P E H->Qo .any ops listed=[]/\K E H
 |fuel+1,listed,E,H=>Sat P E H->(Qo .any ops listed=[]->K E H)/\
  ∀i∈Qo .any ops listed,WV P T ops n0 we K X i (Dc P T ops n0 we K X fuel (listed.setIfInBounds i true)) E H
theorem ZA{r:AV}{d:Option Tmp}{Kn:KK}{E':List AV}{H':List HO}{C':Ae}{mu':Mu}(h:Ra r λv=>Bu E' d v λHU=>Kn HU H')(Af:Az G C' mu' (A6 E' d r) H' a w):
  ∃E H,Kn E H/\St G E H a w:=by
 obtain⟨v,hk,_,hv,_⟩:=H6 h;rw[Au]at hk;refine⟨_,_,hk,C',mu',Af.frame ?_ rfl⟩;have he:=Af.env;cases hd:d with
 |none=>rw[hd]at he;exact he
 |some d=>
  rw[hd]at he;rw[AH]at he ⊢;refine⟨by simpa[A6]using he.1,λk hk HB=>?_⟩
  have vP:k<(A6 E' (some d) r).length:=by simpa[A6]using hk
  have:=he.2 k vP HB;by_cases rB:d=k
  ·subst rB;simp only[A6,VA]at this ⊢;exact hv _ _ _ _ this
  ·simp only[A6]at this ⊢;rw[Yx rB]at this ⊢;exact this
theorem qG(hT:BG G.P T){r:Option Nat}{n:Nat}{Kn K:KK}(h:WV G.P T ops n0 we K X i Kn E H)(Af:Az G C mu E H a w):
  wpOpIn (fw r) n G.P ops (Mg G K X) i (λa w=>∃E' H',Kn E' H'/\St G E' H' a w) a w:=by
 unfold WV at h;by_cases hwr:(∃o,ops[i]?=some o)/\A4 we i=true
 ·obtain⟨⟨o,ho⟩,hm⟩:=hwr;rw[ho]at h;simp only at h;rw[hm]at h
  obtain⟨Kw,h,hKw⟩:=h;unfold D6 at h;unfold wpOpIn;rw[ho];simp only
  rcases Qv Af h with⟨hw,h⟩|⟨hw,h⟩
  ·rw[if_pos hw];refine DV hT h Af λa' w' hp=>?_
   obtain⟨r,E',H',hk,C',mu',CL⟩:=hp;obtain⟨E1,H1,k1,k2⟩:=ZA (Kn:=λE H=>Kw E H) hk CL
   exact⟨E1,H1,hKw _ _ k1,k2⟩
  ·rw[if_neg (by simp[hw])]
   rw[Au]at h;exact⟨λ_ _=>trivial,A6 E o.dst (.raw undef),H,hKw _ _ h,C,mu,Af.frame (Bf Af.env o.dst (by unfold Ah;rfl)) (put_defers _ _ _)⟩
 unfold wpOpIn;split;·rename_i ho;rw[ho]at h;exact⟨E,H,h,C,mu,Af⟩
 ·rename_i o ho;rw[ho]at h;simp only at h;split at h
  ·rcases N8 hT ho h Af with⟨hw,h⟩|⟨hw,h⟩;·rw[if_pos hw];exact h
   ·rw[if_neg (by simp[hw])];exact⟨λ_ _=>trivial,h⟩
  ·rename_i hm;exact absurd ⟨⟨o,ho⟩,hm⟩ hwr
theorem HK(hT:BG G.P T){r:Option Nat}{n:Nat}:∀(fuel:Nat)(listed:Array Bool)(E:List AV)(H:List HO)(a:Act)(w:World),Dc G.P T ops n0 we K X fuel listed E H->St G E H a w->wpAnyIn (fw r) n G.P .any ops (Mg G K X) fuel listed a w
 |0,listed,E,H,a,w,h,Af=>by
  unfold Dc at h;obtain⟨h1,h2⟩:=h ⟨G,a,w,rfl,Af⟩;exact⟨h1,E,H,h2,Af⟩
 |fuel+1,listed,E,H,a,w,h,Af=>by
  unfold Dc at h;obtain⟨h1,h2⟩:=h ⟨G,a,w,rfl,Af⟩;refine⟨λh0=>⟨E,H,h1 h0,Af⟩,λi hi=>?_⟩
  obtain⟨C,mu,Af⟩:=Af;exact wpOpIn_mono (λa' w' ⟨E',H',k1,k2⟩=>HK hT fuel _ E' H' a' w' k1 k2) (qG hT (h2 i hi) Af)
theorem UY(hT:BG P T)(hi:ops[i]?=some oi)(XV:A4 we i=false){U:Nat->Bool}(hUi:U i=true)
  (hUp:∀j oj,U j=true->j≠i->ops[j]?=some oj->∃e∈oj.after,Xai .any e=true/\U e.on=true):
  ∀(fuel:Nat)(listed:Array Bool)(E:List AV)(H:List HO),(∀j,U j=true->listed.getD j false=false)->
   (∀j oj,ops[j]?=some oj->U j=false->listed.getD j true=false->(A4 we j=false\/(mvB oi&&apB oj)=true)/\oi.apart ops oj=true)->
   i∈Qo .any ops listed->FA P T ops.toList n0 i oi E H (Dc P T ops n0 we K X fuel (listed.setIfInBounds i true))->Dc P T ops n0 we K X (fuel+1) listed E H:=by
 intro fuel;induction fuel with
 |zero=>
  intro listed E H hU Ut hr h;unfold Dc;intro hs;refine⟨λh0=>(by rw[h0]at hr;cases hr),λj hj=>?_⟩
  by_cases GZ:j=i;·subst GZ;unfold WV;rw[hi];simp only;rw[XV];exact h
  ·obtain⟨Lk,oj,El,BW⟩:=mem_ready.1 hj
   have gS:U j=false:=by
    cases hu:U j with
    |false=>rfl
    |true=>
     obtain⟨e,he,hb,Yt⟩:=hUp j oj hu GZ El;have:=BW e he hb;rw[hU _ Yt]at this;cases this
   obtain⟨fW,Qu⟩:=Ut j oj El gS Lk;exfalso;obtain⟨vi,Pw,di,ki,ti⟩:=DD h;have Gs:Sat P (A6 E oi.dst vi) (BP H (n0+i) Pw):=Hg hT hi (ti E H ⟨λ_ _=>rfl,λ_ _ _ _ _ _ _=>rfl⟩ (λ_ _ _ _ _ h=>h) rfl _ ⟨rfl,rfl⟩) hs
   unfold Dc at ki;have:=ready_mono hj GZ;rw[(ki Gs).1]at this;cases this
 |succ fuel ih=>
  intro listed E H hU Ut hr h;unfold Dc;intro hs;refine⟨λh0=>(by rw[h0]at hr;cases hr),λj hj=>?_⟩
  by_cases GZ:j=i;·subst GZ;unfold WV;rw[hi];simp only;rw[XV];exact h
  ·obtain⟨Lk,oj,El,BW⟩:=mem_ready.1 hj
   have gS:U j=false:=by
    cases hu:U j with
    |false=>rfl
    |true=>
     obtain⟨e,he,hb,Yt⟩:=hUp j oj hu GZ El;have:=BW e he hb;rw[hU _ Yt]at this;cases this
   obtain⟨fW,Qu⟩:=Ut j oj El gS Lk
   have rest:∀E1 H1,FA P T ops.toList n0 i oi E1 H1 (Dc P T ops n0 we K X fuel ((listed.setIfInBounds j true).setIfInBounds i true))->Dc P T ops n0 we K X (fuel+1) (listed.setIfInBounds j true) E1 H1:=λE1 H1 k=>by
    refine ih (listed.setIfInBounds j true) E1 H1 (λk hk=>?_) (λk ok hk hu Vy=>?_) (ready_mono hr (Ne.symm GZ)) k
    ·have Bq:j≠k:=λhe=>by subst he;rw[gS]at hk;cases hk
     rw[getD_set_ne false Bq];exact hU k hk
    ·refine Ut k ok hk hu ?_;by_cases O1:j=k;·subst O1;exact Lk
     ·rw[getD_set_ne true O1]at Vy;exact Vy
   unfold WV;rw[El];simp only
   cases aC:A4 we j with
   |false=>
    simp only
    have hc:=jN (Kj:=Dc P T ops n0 we K X fuel ((listed.setIfInBounds i true).setIfInBounds j true)) hT hs hi El (Ne.symm GZ) Qu h λE' H' Gs k=>by
     unfold Dc at k;have:=(k Gs).2 j (ready_mono hj GZ);unfold WV at this;rw[El]at this;simp only at this;rw[aC]at this;exact this
    refine BA hc λE1 H1 k=>rest E1 H1 ?_
    rw[Vv _ _ GZ];exact k
   |true=>
    simp only
    have hmv:mvB oi=true/\apB oj=true:=by
     rcases fW with k|k;·rw[aC]at k;cases k
     ·simpa using k
    obtain⟨p1,p2,p3⟩:=Xam Qu;obtain⟨vi,Pw,di,ki,ti⟩:=DD h;have refl:Ek ops.toList E E oi:=⟨λ_ _=>rfl,λ_ _ _ _ _ _ _=>rfl⟩
    have Gs:Sat P (A6 E oi.dst vi) (BP H (n0+i) Pw):=Hg hT hi (ti E H refl (λ_ _ _ _ _ h=>h) rfl _ ⟨rfl,rfl⟩) hs
    unfold Dc at ki;have hd:=(ki Gs).2 j (ready_mono hj GZ);unfold WV at hd;rw[El]at hd;simp only at hd;rw[aC]at hd
    obtain⟨Kw,A7,E5⟩:=hd;have h3:=ti E H refl (λ_ _ _ _ _ h=>h) rfl (λE' H'=>D6 P T ops.toList oj E' H' Kw X) A7
    refine⟨_,kM hmv.1 hmv.2 p1 p2 p3 h3,λE1 H1 k=>rest E1 H1 (BA k λE2 H2 k2=>?_)⟩
    rw[Vv _ _ GZ];exact E5 _ _ k2
def En(ops:Array Oper)(k:Nat):List Nat:=
 (Xad ops.size).foldl (λU j=>match ops[j]? with
  |some oj=>(match Ll j k||oj.after.any (λe=>Xai .any e&&A4 U e.on)with|true=>j::U|false=>U)
  |none=>U) []
def wH(ops:Array Oper)(we:List Nat)(listed:Array Bool)(k:Nat)(U:List Nat):Bool:=
 match ops[k]? with
 |none=>false
 |some ok=>A4 U k&&(Xad ops.size).all (λj=>(!A4 U j||(!listed.getD j false))&&match ops[j]? with
   |none=>true
   |some oj=>(match A4 U j with
    |true=>Ll j k||oj.after.any (λe=>Xai .any e&&A4 U e.on)
    |false=>listed.getD j true||((!A4 we j||(mvB ok&&apB oj))&&ok.apart ops oj)))&&U.all λj=>decide (j<ops.size)
def uN(ops:Array Oper)(we:List Nat):Nat->Nat->Array Bool->Bool
 |0,_,listed=>(Qo .any ops listed).isEmpty
 |fuel+1,k,listed=>(match A4 we k with
  |true=>(Qo .any ops listed == [k])
  |false=>(Qo .any ops listed).contains k&&wH ops we listed k (En ops k))&&uN ops we fuel (k+1) (listed.setIfInBounds k true)
def wU(ops:Array Oper)(we:List Nat):Bool:=uN ops we ops.size 0 (QJ ops.size false)
theorem Hv:∀{l:List Nat}{n:Nat},A4 l n=true->n∈l
 |[],_,h=>by cases h
 |x::l,n,h=>by
  unfold A4 at h;split at h;·rename_i hb;rw[Eg hb];simp
  ·exact F0 _ (Hv h)
theorem UX(hT:BG P T):∀(l:List Oper)(k:Nat)(listed:Array Bool)(E:List AV)(H:List HO),(∀j,l[j]?=ops[k+j]?)->
  uN ops we l.length k listed=true->rdK P T ops.toList n0 we k l E H K X->Dc P T ops n0 we K X l.length listed E H
 |[],k,listed,E,H,_,hB,h=>by
  unfold Dc;unfold rdK at h;exact λ_=>⟨by simpa[uN]using hB,h⟩
 |o::l,k,listed,E,H,hl,hB,h=>by
  have h0:ops[k]?=some o:=by simpa using (hl 0).symm
  have Bm:∀j,l[j]?=ops[k+1+j]?:=λj=>by have:=hl (j+1);simpa[Nat.add_assoc,Nat.add_comm 1 j]using this
  simp only[Xaj,uN,D0]at hB;obtain⟨O5,pJ⟩:=hB;unfold rdK at h;cases hw:A4 we k with
  |false=>
   rw[hw]at h O5;simp only[D0]at O5 h;obtain⟨hr,hf⟩:=O5;unfold wH at hf;rw[h0]at hf;simp only[D0,ND,X8]at hf;obtain⟨⟨hUk,BW⟩,AP⟩:=hf;have lt:∀j,A4 (En ops k) j=true->j<ops.size:=λj hj=>by simpa using AP j (Hv hj)
   refine UY hT h0 hw (U:=A4 (En ops k)) hUk (λj oj hu O1 El=>?_) l.length listed E H (λj hu=>?_) (λj oj El hu Vy=>?_) (by simpa using hr) (BA h λE' H' h'=>UX hT l (k+1) _ E' H' Bm pJ h')
   ·have:=(BW j (lt j hu)).2;rw[El]at this;simp only[hu]at this;simp only[Xan]at this;rcases this with h1|h1;·exact absurd (Eg h1) O1
    ·obtain⟨e,he,h2⟩:=Array.any_eq_true'.1 h1;simp only[D0]at h2;exact⟨e,he,h2⟩
   ·have:=(BW j (lt j hu)).1;simpa[hu]using this
   ·have Va:=(CM.1 El).1;have:=(BW j Va).2;rw[El]at this;simp only[hu]at this;simp only[Vy,Xan,D0,Bool.not_eq_true',Bool.false_eq_true,false_or]at this;simpa using this
  |true=>
   rw[hw]at h O5;simp only at h O5;have hr:Qo .any ops listed=[k]:=by simpa using O5
   unfold Dc;intro hs;refine⟨λh0=>(by rw[hr]at h0;cases h0),λj hj=>?_⟩
   rw[hr]at hj;obtain rfl:j=k:=by simpa using hj
   unfold WV;rw[h0];simp only;rw[hw];simp only
   exact⟨_,h,λE1 H1 hh=>UX hT l (j+1) _ E1 H1 Bm pJ hh⟩
def ZcW(im:List Nat)(i:Nat):HO:=match A4 im i with|true=>.ghost [] [] []|false=>.dead
def Xu(im:List Nat)(n:Nat):List HO:=(Xad n).map (ZcW im)
theorem Zu(n:Nat):Xu [] n=N0 n .dead:=by
 unfold Xu ZcW A4;rw[List.map_const',List.length_range]
theorem tJ{im:List Nat}{n l:Nat}{ob:HO}(h:(Xu im n)[l]?=some ob):ob=.dead\/ob=.ghost [] [] []:=by
 have:=X2 h;unfold Xu at this;obtain⟨i,_,rfl⟩:=PR.1 this;unfold ZcW;split<;>simp
theorem Az.pad(h:Az G C mu E H a w)(im:List Nat)(n:Nat):Az G C mu E (H++Xu im n) a w:=by
 have key:∀{l:Nat}{ob:HO},(H++Xu im n)[l]?=some ob->(ob=.dead\/ob=.ghost [] [] [])\/H[l]?=some ob:=λ{l ob} hl=>by
  by_cases AP:l<H.length;·rw[Kx AP]at hl;exact .inr hl
  ·rw[Uj (by omega)]at hl
   exact .inl (tJ hl)
 refine⟨h.c0,h.c1,h.lt,⟨λl g hm=>?_,h.heap.fresh,h.heap.sep,λl hl=>?_,λl cs hl=>?_,λl e sz es hl=>?_,λl ks vs hl=>?_⟩,h.env,?_,h.Ax,by have:=h.Ds.1;simp;omega,h.Ds.2⟩
 rotate_right
 ·obtain⟨ms,k1,k2⟩:=h.defers;refine⟨ms,k1,⟨λl cs vs DE hl=>?_,λl I hl=>?_,k2.marks,k2.nd,λl l' cs vs uF cs' BY U8 hl Bm Bq D hD=>?_⟩⟩
  ·rcases key hl with (hl|hl)|hl;·cases hl
   ·simp only[HO.ghost.injEq]at hl;obtain⟨rfl,rfl,rfl⟩:=hl;exact⟨by unfold Ab;rfl,Rr,λD hD=>by cases hD⟩
   ·exact k2.Bl l cs vs DE hl
  ·rcases key hl with (hl|hl)|hl;·cases hl
   ·cases hl
   ·obtain⟨e0,Sw,Sr,f1,f2,f3,f4⟩:=k2.Hz l I hl;refine⟨e0,Sw,Sr,f1,f2,f3,λl' cs vs DE Bm D hD=>?_⟩
    rcases key Bm with (Bm|Bm)|Bm;·cases Bm
    ·simp only[HO.ghost.injEq]at Bm;rw[Bm.2.2]at hD;cases hD
    ·exact f4 l' cs vs DE Bm D hD
  ·rcases key hl with (hl|hl)|hl;·cases hl
   ·simp only[HO.ghost.injEq]at hl;rw[hl.2.2]at hD;cases hD
   ·rcases key Bm with (Bm|Bm)|Bm;·cases Bm
    ·simp only[HO.ghost.injEq]at Bm;rw[Bm.2.2];simp
    ·exact k2.sep l l' cs vs uF cs' BY U8 hl Bm Bq D hD
 ·have:=h.heap.Is l g hm;rw[List.length_append];omega
 ·by_cases AP:l<H.length;·rw[Kx AP]at hl;exact h.heap.dead l hl
  ·cases hm:mu l with
   |none=>rfl
   |some g=>exact absurd (h.heap.Is l g hm) AP
 ·rcases key hl with (hl|hl)|hl;·cases hl
  ·cases hl
  ·exact h.heap.Cr l cs hl
 ·rcases key hl with (hl|hl)|hl;·cases hl
  ·cases hl
  ·exact h.heap.BM l e sz es hl
 ·rcases key hl with (hl|hl)|hl;·cases hl
  ·cases hl
  ·exact h.heap.maps l ks vs hl
theorem Aa.Ry{id:Nat}(im we:List Nat)(hT:BG P T)(hm:P.follows .mixedOrders=true)(hB:wU ops we=true)
  (h:rdK P T ops.toList H.length we 0 ops.toList E (H++Xu im ops.size) K X):Aa P (.region id ops true) E H K X:=by
 refine⟨λn G a w hP Af=>?_⟩
 subst hP;obtain⟨C,mu,Af⟩:=Af;have CL:Az G C mu E H a w.drew:=Af.drew;have cE:=CL.pad im ops.size;have h1:=UX (ops:=ops) (n0:=H.length) (we:=we) (K:=K) (X:=X) hT ops.toList 0 (QJ ops.size false) E _ (by simp) (by simpa[wU]using hB) h
 refine wpIn_region_any hm ?_;have h2:=HK (r:=G.rd) (n:=n) hT _ _ _ _ a _ h1 ⟨C,mu,cE⟩;simpa using h2
theorem Aa.draw{id:Nat}(we:List Nat)(hT:BG P T)(hm:P.follows .mixedOrders=true)(hB:wU ops we=true)
  (h:rdK P T ops.toList H.length we 0 ops.toList E (H++N0 ops.size .dead) K X):Aa P (.region id ops true) E H K X:=
 Aa.Ry [] we hT hm hB (by rw[Zu];exact h)
end
structure Its(P:Program)(f:FuncId)(cap:List AV)(xs:List (List AV))(d:Prop):Prop where
 Eh:Cq P f=true
 out:∀(l:Nat)(I:Nat->Inv)(Ix:Inv)(C:Ae)(w:World)(us:List Value)(Sw Sr:Nat->Prop),(¬d->∀Sw Sr w,¬(I xs.length).J Sw Sr w)->cM C w->(I 0).Cb=C->(I 0).nb=w.heap.size->
  (∀b o,Sw b->¬C b o)->(∀b,Sw b->Sr b)->(∀b,Sr b->b<w.heap.size)->(I 0).J Sw Sr w->Ab C w cap Mu.none us->
  (∀k x,xs[k]?=some x->U7 P (.func (.yield l) #[] #[]) x (I k) (I (k+1)) Ix)->
  Calls P f (Vw (.yield l) #[] #[]::us).toArray w λe w'=>∃v HM FB,e=.returned v/\((I xs.length).J HM FB w'\/Ix.J HM FB w')
def OV(I:Nat->Inv)(Ix:Inv)(n:Nat):KK:=λ_ H=>Cm H 0 λob=>match ob with|.inv J=>J=I n\/J=Ix|_=>False
section
variable {T:List TY}{P:Program}
theorem Its.A3{f:FuncId}{fn:Func}{c:Code}{cap:List AV}{xs:List (List AV)}{d:Prop}(hf:P.funcs[f]?=some fn)(hb:fn.body=some c)(hT:BG P T)(hg:Cq P f=true)(Gt:fn.results=#[])
  (h:∀(l:Nat)(I:Nat->Inv)(Ix:Inv),(¬d->∀Sw Sr w,¬(I xs.length).J Sw Sr w)->(∀k x,xs[k]?=some x->U7 P (.func (.yield l) #[] #[]) x (I k) (I (k+1)) Ix)->
   Ei fn.ntmps (.raw (.func (.yield l) #[] #[])::cap) λE=>Aa P c E [.inv (I 0)] (OV I Ix xs.length) (λe E H=>match e with|.ret=>OV I Ix xs.length E H|_=>False)):Its P f cap xs d:=by
 refine⟨hg,λl I Ix C w us Sw Sr Pz AP hCb yI gI XY DG hJ hr hy=>(callsIn_wide (n:=0)).1 (callsIn_of_wp_marks (F:=Fence.wide) (n:=0) hf hb trivial ?_ rfl)⟩
 have h:=h l I Ix Pz hy;unfold Ei at h;rw[DS,Db]at h;let G:Cx:={P:=P,C0:=C,M0:=Sw,W0:=w,pM:=⟨AP,λb o hc hs=>gI b o hs hc⟩}
 have vI:Ab C w (AV.raw (.func (.yield l) #[] #[])::cap) Mu.none (Vw (.yield l) #[] #[]::us):=by
  unfold Ab;exact⟨_,_,rfl,by unfold Ah;rfl,hr⟩
 have Af:St G ((AV.raw (.func (.yield l) #[] #[])::cap)++N0 (fn.ntmps-(AV.raw (.func (.yield l) #[] #[])::cap).length) (.raw undef)) [.inv (I 0)]
   {tmps:=(Vw (.yield l) #[] #[]::us).toArray++QJ (fn.ntmps-(Vw (.yield l) #[] #[]::us).toArray.size) undef,defers:=[]} w:=by
  refine⟨C,Mu.none,λ_ _ h=>h,λ_ _ h=>.inl h,AP.lt,⟨λ_ _ h=>(by cases h),λ_ _ _ h=>(by cases h),λ_ _ _ _ _ h=>(by cases h),λi hi=>rfl,λi cs hi=>?_,λi e sz es hi=>?_,λi ks vs hi=>?_⟩,?_,⟨[],rfl,?_⟩,⟨rfl,rfl,rfl,PC _,λ_ _ _=>rfl⟩,Nat.zero_le _,λ_ _ h=>absurd h (Xal _)⟩
  ·cases i<;>simp at hi
  ·cases i<;>simp at hi
  ·cases i<;>simp at hi
  ·have hl:=Ap _ vI;have:=AF vI (B2 (C:=C) (w:=w) (mu:=Mu.none) (fn.ntmps-(AV.raw (.func (.yield l) #[] #[])::cap).length));simpa[<-hl,Ap _ hr]using this
  ·refine⟨λi cs vs ms hi=>?_,λi J hi=>?_,λD hD=>(by cases hD),Rr,λi i' cs vs ms cs' BY DE hi=>?_⟩
   ·cases i<;>simp at hi
   ·cases i with
    |succ i=>simp at hi
    |zero=>
     simp only[Nw,Ji.injEq,HO.inv.injEq]at hi;subst hi;exact⟨rfl,Sw,Sr,⟨λb hb=>.inr hb,by rw[yI];exact PC _,λb o hc=>.inl (by rw[hCb];exact hc),λ_ _ _ h=>(by cases h),XY,DG,λ_ _ _ _ h=>(by cases h),gI⟩,hJ,λD hD=>(by cases hD),λi cs vs ms hi=>by cases i<;>simp at hi⟩
   ·cases i<;>simp at hi
 have fin:∀E H a w',OV I Ix xs.length E H->St G E H a w'->LeavesInM (fw none) 0 P fn a.tmps (λe w'=>∃v HM FB,e=.returned v/\((I xs.length).J HM FB w'\/Ix.J HM FB w')) a.defers .returning w':=by
  rintro E H a w' hk ⟨C',mu',Af⟩;unfold OV at hk;replace hk:=AL.1 hk;obtain⟨ob,Bh,hk⟩:=hk
  cases ob<;>first|exact hk.elim|skip
  rename_i J;obtain⟨ms,d1,d2⟩:=Af.defers;rw[show a.defers=ms.map mark by simpa[G]using d1]
  refine Je (G:=G) rfl ms rfl Af d2 λa' NR ha Gs=>?_
  obtain⟨DE,_,x2⟩:=Gs.defers;obtain⟨_,HM,FB,_,hJ',_⟩:=x2.Hz 0 J Bh
  have Jh:(results fn a.tmps).run P NR=.ok (.tuple #[]) NR:=by
   rw[FR,Gt];simp
  refine⟨_,Jh,_,HM,FB,rfl,?_⟩;rcases hk with rfl|rfl;·exact .inl hJ'
  ·exact .inr hJ'
 refine wpIn_mono (h.out 0 G _ w rfl Af) λe a w' q=>?_
 cases e with
 |normal|ret=>obtain⟨E,H,h1,h2⟩:=q;exact fin E H a w' h1 h2
 |exit id=>obtain⟨E,H,h1,h2⟩:=q;exact h1.elim
 |panic ch=>obtain⟨x,v,E,H,C,mu,_,h1,_⟩:=q;exact h1.elim
 |goto l|outgrown=>exact q.elim
end
section
variable {G:Cx}{C:Ae}{w w':World}{mu:Mu}{H:List HO}{E:List AV}{a:Act}{T:List TY}{P:Program}
def Rel(G:Cx)(C:Ae)(mu:Mu)(ds:List (Nat×Obj))(b:Nat):Prop:=
 b<G.W0.heap.size\/(∃o,C b o)\/(∃l g,mu l=some g/\g.Aq=some b)\/∃d∈ds,d.1=b
def FD(G:Cx)(ms:List Nat):List (Nat×Obj):=ms.map (λD=>(D,GL))++G.MJ
theorem BE.Zd3{ds:List (Nat×Obj)}{fr:Nat->Prop}(hx:BE C w fr mu H ds)(Sf:∀(l:Nat) I,H[l]?≠some (.inv I))(cF:∀(l:Nat) cs vs gm,H[l]?=some (.ghost cs vs gm)->gm=[])
  (he:Ext C C w w') (hd:∀d∈ds,w'.heap[d.1]?=w.heap[d.1]?):BE C w' fr mu H ds:=by
 refine⟨λl cs vs gm hl=>?_,λl I hl=>absurd hl (Sf l I),λd hdd=>?_,hx.nd,hx.sep⟩
 ·obtain⟨k1,k2,k3⟩:=hx.Bl l cs vs gm hl;have:=cF l cs vs gm hl;subst this;exact⟨Ab.mono he _ (AI.refl _) k1,k2,λD hD=>by cases hD⟩
 ·have k:=hx.marks d hdd;exact⟨by rw[hd d hdd];exact k.at_,k.KA,k.own,k.fr⟩
theorem Az.Zd3(h:Az G C mu E H a w){ms:List Nat}(My:a.defers=ms.map mark++G.ds)(hx:BE C w G.fresh mu H (FD G ms))(Sf:∀(l:Nat) I,H[l]?≠some (.inv I))
  (cF:∀(l:Nat) cs vs gm,H[l]?=some (.ghost cs vs gm)->gm=[]) (hs:NP (Rel G C mu (FD G ms)) w w'):Az G C mu E H a w'/\BE C w' G.fresh mu H (FD G ms):=by
 have he:Ext C C w w':=Ext.of_block (λ_ _ h=>h) λb o hc=>hs.block b (.inr (.inl ⟨o,hc⟩))
 have hX:=hx.Zd3 (w':=w') Sf cF he λd hd=>hs.block d.1 (.inr (.inr (.inr ⟨d,hd,rfl⟩)))
 have own:∀{l g b},mu l=some g->g.Aq=some b->w'.heap[b]?=w.heap[b]?:=λhl hg=>hs.block _ (.inr (.inr (.inl ⟨_,_,hl,hg⟩)))
 refine⟨⟨h.c0,h.c1,λb o hc=>Kr (h.lt b o hc) hs.size,⟨h.heap.Is,λl g b hl hg=>?_,h.heap.sep,h.heap.dead,λl cs hl=>?_,λl e sz es hl=>?_,λl ks vs hl=>?_⟩,Ab.mono he _ (AI.refl _) h.env,⟨ms,My,hX⟩,
  ⟨hs.os.trans h.Ax.os,hs.tape.trans h.Ax.tape,hs.output.trans h.Ax.output,K2 h.Ax.size hs.size,λk hk hn=>(hs.block k (.inl hk)).trans (h.Ax.block k hk hn)⟩,h.Ds⟩,hX⟩
 ·obtain⟨k1,k2,k3⟩:=h.heap.fresh l g b hl hg;exact⟨k1,Kr k2 hs.size,k3⟩
 ·obtain⟨b,cur,e,k1,k2,k3,k4⟩:=h.heap.Cr l cs hl;exact⟨b,cur,e,k1,by rw[own k1 rfl];exact k2,Ab.mono he _ (AI.refl _) k3,k4⟩
 ·obtain⟨k0,k⟩:=h.heap.BM l e sz es hl;exact⟨k0,k.imp id λ⟨b,cap,cur,k1,k2,k3,k4,k5,k6,k7⟩=>⟨b,cap,cur,k1,k2.of_eq (by rw[own k1 rfl]),k3,k4,k5,Ab.mono he _ (AI.refl _) k6,k7⟩⟩
 ·obtain⟨b,es,cl,k1,k2,k3⟩:=h.heap.maps l ks vs hl;exact⟨b,es,cl,k1,by rw[own k1 rfl];exact k2,k3⟩
theorem Az.NN(h:Az G C mu E H a w)(o:Obj):Az G C mu E H a (w.alloc o):=by
 have hx:=Jm (C:=C) (w:=w) h.lt o;have GW:∀{l g b},mu l=some g->g.Aq=some b->(w.alloc o).heap[b]?=w.heap[b]?:=λhl hg=>heap_alloc_old _ _ (h.heap.fresh _ _ _ hl hg).2.1
 refine⟨h.c0,h.c1,λb i hc=>by have:=h.lt b i hc;simp;omega,⟨h.heap.Is,λl g b hl hg=>?_,h.heap.sep,h.heap.dead,λl cs hl=>?_,λl e sz es hl=>?_,λl ks vs hl=>?_⟩,Ab.mono hx _ (AI.refl _) h.env,?_,h.Ax.alloc o,h.Ds⟩
 ·obtain⟨k1,k2,k3⟩:=h.heap.fresh l g b hl hg;exact⟨k1,by simp;omega,k3⟩
 ·obtain⟨b,cur,e,k1,k2,k3,k4⟩:=h.heap.Cr l cs hl;exact⟨b,cur,e,k1,by rw[GW k1 rfl];exact k2,Ab.mono hx _ (AI.refl _) k3,k4⟩
 ·obtain⟨k0,k⟩:=h.heap.BM l e sz es hl;exact⟨k0,k.imp id λ⟨b,cap,cur,k1,k2,k3,k4,k5,k6,k7⟩=>⟨b,cap,cur,k1,k2.of_eq (by rw[GW k1 rfl]),k3,k4,k5,Ab.mono hx _ (AI.refl _) k6,k7⟩⟩
 ·obtain⟨b,es,cl,k1,k2,k3⟩:=h.heap.maps l ks vs hl;exact⟨b,es,cl,k1,by rw[GW k1 rfl];exact k2,k3⟩
 ·obtain⟨ms,k1,k2⟩:=h.defers;exact⟨ms,k1,k2.step (Hk (λb hb=>hb.1) o) (λl g b hm hb=>.inl ⟨l,g,hm,hb⟩) (λ_ _ h=>.inl h) (λl cs vs ms hl=>⟨cs,hl,Ab.mono hx _ (AI.refl _)⟩) (λ_ _ h=>h)⟩
theorem BE.push{ds:List (Nat×Obj)}{fr:Nat->Prop}{D:Nat×Obj}(hx:BE C w fr mu H ds)(Sf:∀(l:Nat) I,H[l]?≠some (.inv I))(cF:∀(l:Nat) cs vs gm,H[l]?=some (.ghost cs vs gm)->gm=[])
  (hD:CG C w fr mu D) (hn:D.1∉ds.map Xaq):BE C w fr mu H (D::ds):=by
 refine⟨λl cs vs gm hl=>?_,λl I hl=>absurd hl (Sf l I),λd hd=>?_,Py.2 ⟨hn,hx.nd⟩,hx.sep⟩
 ·obtain⟨k1,k2,k3⟩:=hx.Bl l cs vs gm hl;have:=cF l cs vs gm hl;subst this;exact⟨k1,k2,λD hD=>by cases hD⟩
 ·rcases KF.1 hd with rfl|hd;·exact hD
  ·exact hx.marks d hd
theorem Az.XD(h:Az G C mu E H a w)(o:Obj):CG C (w.alloc o) G.fresh mu (w.heap.size,o):=
 ⟨heap_alloc_new _ _,λi hc=>absurd (h.lt _ _ hc) (Xaa _),λl g hl hg=>absurd (h.heap.fresh l g _ hl hg).2.1 (Xaa _),.inl h.Ax.size⟩
end
section
variable {G:Cx}{C:Ae}{w w':World}{mu:Mu}{H:List HO}{E:List AV}{a:Act}{T:List TY}{P:Program}
theorem BE.sM{ds:List (Nat×Obj)}{fr:Nat->Prop}{l:Nat}{o o':Obj}(hx:BE C w fr mu H ((l,o)::ds)):BE C (w.putObj l o') fr mu H ((l,o')::ds):=by
 have hl:=hx.marks (l,o) (by simp)
 have hn:=Py.1 hx.nd;have AP:=(CM.1 hl.at_).1;have he:Ext C C w (w.putObj l o'):=Ext.of_block (λ_ _ h=>h) λb i hc=>E8 λe=>hl.KA i (by rw[<-e];exact hc)
 refine⟨λi cs vs gm hi=>?_,λi I hi=>?_,λd hd=>?_,Py.2 hn,hx.sep⟩
 ·obtain⟨k1,k2,k3⟩:=hx.Bl i cs vs gm hi;refine⟨Ab.mono he _ (AI.refl _) k1,k2,λD hD=>⟨?_,(k3 D hD).2⟩⟩
  have k:=(k3 D hD).1;have Bq:D≠l:=λe=>(k3 D hD).2 (by simp[e])
  exact⟨by rw[E8 Bq];exact k.at_,k.KA,k.own,k.fr⟩
 ·obtain⟨h0,Sw,Sr,h1,h2,h3,h4⟩:=hx.Hz i I hi;have yN:¬Sr l:=h3 (l,o) (by simp)
  refine⟨h0,Sw,Sr,⟨h1.fr,by simpa using h1.base,h1.cb,h1.ob,h1.sub,λb hb=>by simpa using h1.lt b hb,h1.own,h1.KA⟩,I.Ta Sw Sr w _ h2 ⟨rfl,rfl,rfl,by simp,λb hb=>E8 λe=>yN (by rw[<-e];exact hb)⟩,λD hD=>?_,h4⟩
  rcases KF.1 hD with rfl|hD;·exact yN
  ·exact h3 D (F0 _ hD)
 ·rcases KF.1 hd with rfl|hd;·exact⟨World.putObj_heap_same AP,hl.KA,hl.own,hl.fr⟩
  ·have k:=hx.marks d (F0 _ hd);have Bq:d.1≠l:=λe=>hn.1 (by rw[PR];exact⟨d,hd,e⟩)
   exact⟨by rw[E8 Bq];exact k.at_,k.KA,k.own,k.fr⟩
theorem BE.perm{ds ds':List (Nat×Obj)}{fr:Nat->Prop}(hx:BE C w fr mu H ds)(hp:ds.Perm ds'):BE C w fr mu H ds':=by
 refine⟨λl cs vs gm hl=>?_,λl I hl=>?_,λd hd=>hx.marks d (hp.mem_iff.2 hd),(hp.map Xaq).nodup_iff.1 hx.nd,hx.sep⟩
 ·obtain⟨k1,k2,k3⟩:=hx.Bl l cs vs gm hl;exact⟨k1,k2,λD hD=>⟨(k3 D hD).1,λh=>(k3 D hD).2 ((hp.map Xaq).mem_iff.2 h)⟩⟩
 ·obtain⟨h0,Sw,Sr,h1,h2,h3,h4⟩:=hx.Hz l I hl;exact⟨h0,Sw,Sr,h1,h2,λD hD=>h3 D (hp.mem_iff.2 hD),h4⟩
theorem Az.Xq{G':Cx}{C2:Ae}{E':List AV}{a':Act}(h:Az G C mu E H a w)(EI:w.heap.size<=w'.heap.size)(hs:∀b,((∃o,C b o)\/∃l g,mu l=some g/\g.Aq=some b)->w'.heap[b]?=w.heap[b]?)
  (gO:∀b o,G'.C0 b o->C2 b o) (hc1:∀b o,C2 b o->G'.C0 b o\/G'.fresh b) (AP:∀b o,C2 b o->b<w'.heap.size) (XY:∀b o,C b o->C2 b o)
  (FY:∀l g b,mu l=some g->g.Aq=some b->G'.fresh b/\∀o,¬C2 b o) (aG:Ab C2 w' E' mu a'.tmps.toList) (Zj0:∃ms:List Nat,a'.defers=ms.map mark++G'.ds/\BE C2 w' G'.fresh mu H (FD G' ms)) (ZgH:KC G' w') (Zjo:G'.np<=H.length/\∀l b,l<G'.np->G'.Ds l b->mu l=some (.CS b)):
  Az G' C2 mu E' H a' w':=by
 have he:Ext C C2 w w':=Ext.of_block (XY) λb o hc=>hs b (.inl ⟨o,hc⟩)
 refine⟨gO,hc1,AP,⟨h.heap.Is,λl g b hl hg=>?_,h.heap.sep,h.heap.dead,λl cs hl=>?_,λl e sz es hl=>?_,λl ks vs hl=>?_⟩,aG,Zj0,ZgH,Zjo⟩
 ·obtain⟨k1,k2,k3⟩:=h.heap.fresh l g b hl hg;exact⟨(FY l g b hl hg).1,Kr k2 EI,(FY l g b hl hg).2⟩
 ·obtain⟨b,cur,e,k1,k2,k3,k4⟩:=h.heap.Cr l cs hl;exact⟨b,cur,e,k1,by rw[hs _ (.inr ⟨_,_,k1,rfl⟩)];exact k2,Ab.mono he _ (AI.refl _) k3,k4⟩
 ·obtain⟨k0,k⟩:=h.heap.BM l e sz es hl;exact⟨k0,k.imp id λ⟨b,cap,cur,k1,k2,k3,k4,k5,k6,k7⟩=>⟨b,cap,cur,k1,k2.of_eq (by rw[hs _ (.inr ⟨_,_,k1,rfl⟩)]),k3,k4,k5,Ab.mono he _ (AI.refl _) k6,k7⟩⟩
 ·obtain⟨b,es,cl,k1,k2,k3⟩:=h.heap.maps l ks vs hl;exact⟨b,es,cl,k1,by rw[hs _ (.inr ⟨_,_,k1,rfl⟩)];exact k2,k3⟩
end
def QS:List Tmp->List AV->List AV->List AV
 |p::ps,x::xs,E=>QS ps xs (E.set p x)
 |_,_,E=>E
theorem Y4{C:Ae}{w:World}{mu:Mu}:∀(ps:List Tmp){xs E:List AV}{us:List Value}{tmps:Array Value},Ab C w xs mu us->Ab C w E mu tmps.toList->
  Ab C w (QS ps xs E) mu ((ps.zip us).foldl (λt (p,v)=>t.setIfInBounds p v) tmps).toList
 |[],_,_,_,_,_,h=>by simpa[QS]using h
 |_::_,[],_,us,_,hx,h=>by unfold Ab at hx;subst hx;simpa[QS]using h
 |p::ps,x::xs,E,us,tmps,hx,h=>by
  unfold Ab at hx;obtain⟨v,Xc,rfl,h1,h2⟩:=hx;simp only[QS,List.zip_cons_cons,List.foldl_cons];exact Y4 ps h2 (h.put p h1)
def Cx.B0(G:Cx)(l:Nat)(o:Obj):Cx:={G with MJ:=(l,o)::G.MJ,Se:=λl' h=>let ⟨r,hr⟩:=G.Se l' h;⟨r,F0 _ hr⟩}
def rG(G:Cx)(l:Nat)(o:Obj)(ms:List Nat)(H:List HO)(Sw Sr:Nat->Prop)(W:World):Prop:=
 ∃C mu,Az (G.B0 l o) C mu [] H {tmps:=#[],defers:=ms.map mark++G.ds} W/\BE C W G.fresh mu H (FD (G.B0 l o) ms)/\
  (∀b,Sw b↔(∃i g,mu i=some g/\g.Aq=some b)\/b=l)/\∀b,Rel (G.B0 l o) C mu (FD (G.B0 l o) ms) b->Sr b
theorem rG.Ta{G:Cx}{l:Nat}{o:Obj}{ms:List Nat}{H:List HO}(Sf:∀(l:Nat) I,H[l]?≠some (.inv I))(cF:∀(l:Nat) cs vs gm,H[l]?=some (.ghost cs vs gm)->gm=[])
  {Sw Sr:Nat->Prop} {w w':World} (h:rG G l o ms H Sw Sr w) (hs:NP Sr w w'):rG G l o ms H Sw Sr w':=by
 obtain⟨C,mu,h1,h2,h3,h4⟩:=h;obtain⟨k1,k2⟩:=h1.Zd3 (ms:=ms) rfl h2 Sf cF ⟨hs.os,hs.tape,hs.output,hs.size,λb hb=>hs.block b (h4 b hb)⟩
 exact⟨C,mu,k1,k2,h3,h4⟩
section
variable {G:Cx}{C C':Ae}{w w':World}{mu mu':Mu}{H H0 R:List HO}{E:List AV}{a:Act}{T:List TY}{P:Program}
def Mu.below(mu:Mu)(N:Nat):Mu:=λl=>if l<N then mu l else Option.none
theorem CC{N l:Nat}(h:l<N):mu.below N l=mu l:=by simp[Mu.below,h]
theorem BD{N l:Nat}{g:GO}(h:mu.below N l=some g):l<N/\mu l=some g:=by unfold Mu.below at h;split at h<;>simp_all
theorem Fs:∀{es:List AV},(∀e∈es,closed e=true)->An (flat es)=true
 |[],_=>rfl
 |e::es,h=>by
  have e1:flat (e::es)=e.cells++flat es:=by simp[flat]
  have app:∀(xs ys:List AV),An xs=true->An ys=true->An (xs++ys)=true:=by
   intro xs ys;induction xs with
   |nil=>intro _ h;exact h
   |cons x xs ih=>
    intro h1 h2;unfold An at h1;simp only[D0]at h1;simp only[Vz];unfold An;simp only[D0];exact⟨h1.1,ih h1.2 h2⟩
  rw[e1];refine app _ _ ?_ (Fs λa ha=>h a (by simp[ha]))
  have he:=h e (by simp)
  cases e with
  |agg cs=>unfold closed at he;exact he
  |_=>simp only[AV.cells,An,Bool.and_true];exact he
def AR:List HO->Nat->Bool
 |[],_=>false
 |.cells _::_,0|.arr _ _ _::_,0|.map _ _::_,0=>true
 |_::_,0=>false
 |_::r,k+1=>AR r k
mutual
def within(H0:List HO):AV->Bool
 |.own k _ _ _|.el k _ _ _|.ptr k _|.om k=>AR H0 k
 |.fn _ cap|.mv _ cap=>Bo H0 cap
 |.iface _ x=>within H0 x
 |.agg cs=>Bo H0 cs
 |.tuple vs=>Bo H0 vs
 |_=>true
def Bo(H0:List HO):List AV->Bool
 |[]=>true
 |a::as=>within H0 a&&Bo H0 as
end
def Mu.only(mu:Mu)(H0:List HO):Mu:=λl=>if AR H0 l=true then mu l else Option.none
theorem B8{l:Nat}{g:GO}(h:mu.only H0 l=some g):AR H0 l=true/\mu l=some g:=by unfold Mu.only at h;split at h<;>simp_all
theorem Fa{l:Nat}(h:AR H0 l=true):mu.only H0 l=mu l:=by simp[Mu.only,h]
mutual
theorem SN:∀(x:AV){v:Value},within H0 x=true->Ah C w x mu v->Ah C w x (mu.only H0) v
 |.any,_,_,_=>by unfold Ah;trivial
 |.int _ _,_,_,h|.bool _,_,_,h|.lit _,_,_,h|.str _,_,_,h|.sl _ _,_,_,h|.at_ _,_,_,h|.raw _,_,_,h|.mp _ _,_,_,h=>by unfold Ah at*;exact h
 |.om k,_,hn,h=>by
  unfold within at hn;unfold Ah at*;rw[Fa hn];exact h
 |.ptr k o,_,hn,h=>by
  unfold within at hn;unfold Ah at*;rw[Fa hn];exact h
 |.el k sz i o,_,hn,h=>by
  unfold within at hn;unfold Ah at*;rw[Fa hn];exact h
 |.own k sz lo n,_,hn,h=>by
  unfold within at hn;unfold Ah at*;rw[Fa hn];exact h
 |.fn f cap,_,hn,h=>by
  unfold within at hn;unfold Ah at*;obtain⟨vs,h1,h2⟩:=h;exact⟨vs,h1,BZ cap hn h2⟩
 |.mv f cap,_,hn,h=>by
  unfold within at hn;unfold Ah at*;obtain⟨vs,h1,h2⟩:=h;exact⟨vs,h1,BZ cap hn h2⟩
 |.iface t x,_,hn,h=>by
  unfold within at hn;unfold Ah at*;obtain⟨y,h1,h2⟩:=h;exact⟨y,h1,SN x hn h2⟩
 |.agg cs,_,hn,h=>by
  unfold within at hn;unfold Ah at*;obtain⟨vs,h1,h2⟩:=h;exact⟨vs,h1,BZ cs hn h2⟩
 |.tuple cs,_,hn,h=>by
  unfold within at hn;unfold Ah at*;obtain⟨vs,h1,h2⟩:=h;exact⟨vs,h1,BZ cs hn h2⟩
theorem BZ:∀(xs:List AV){vs:List Value},Bo H0 xs=true->Ab C w xs mu vs->Ab C w xs (mu.only H0) vs
 |[],_,_,h=>by unfold Ab at*;exact h
 |x::xs,_,hn,h=>by
  unfold Bo at hn;simp only[D0]at hn;unfold Ab at*;obtain⟨v,BY,h1,h2,h3⟩:=h;exact⟨v,BY,h1,SN x hn.1 h2,BZ xs hn.2 h3⟩
end
theorem Cw:∀{H:List HO}{l:Nat},AR H l=true↔∃ob,H[l]?=some ob/\ob.real=true
 |[],l=>by simp[AR]
 |o::r,0=>by cases o<;>simp[AR]
 |o::r,l+1=>by
  have:AR (o::r) (l+1)=AR r l:=by cases o<;>rfl
  rw[this,Cw];simp
def Dl(F:List HO):List HO->Prop->Prop
 |[],Q=>Q
 |.cells cs::r,Q=>Bo F cs=true/\Dl F r Q
 |.arr _ _ es::r,Q=>(∀e∈es,closed e=true)/\Dl F r Q
 |.dead::r,Q=>Dl F r Q
 |.ghost cs _ _::r,Q=>Bo F cs=true/\Dl F r Q
 |.inv _::r,Q|.map _ _::r,Q=>Dl F r Q
theorem EF{F:List HO}:∀{H:List HO}{Q:Prop},Dl F H Q->Q/\(∀(i:Nat) cs,H[i]?=some (.cells cs)->Bo F cs=true)/\(∀(i:Nat) e sz es,H[i]?=some (.arr e sz es)->∀a∈es,closed a=true)/\
   (∀(i:Nat) cs vs ms,H[i]?=some (.ghost cs vs ms)->Bo F cs=true)
 |[],Q,h=>⟨h,λi cs hi=>by simp at hi,λi e sz es hi=>by simp at hi,λi cs vs ms hi=>by simp at hi⟩
 |o::r,Q,h=>by
  cases o with
  |cells Fy=>
   unfold Dl at h;obtain⟨h0,h⟩:=h;obtain⟨k0,k1,k2,k3⟩:=EF h;refine⟨k0,λi cs hi=>?_,λi e sz es hi=>?_,λi cs vs ms hi=>?_⟩
   ·cases i with
    |zero=>simp at hi;subst hi;exact h0
    |succ i=>exact k1 i cs (by simpa using hi)
   ·cases i with
    |zero=>simp at hi
    |succ i=>exact k2 i e sz es (by simpa using hi)
   ·cases i with
    |zero=>simp at hi
    |succ i=>exact k3 i cs vs ms (by simpa using hi)
  |arr e0 sz0 rE=>
   unfold Dl at h;obtain⟨h0,h⟩:=h;obtain⟨k0,k1,k2,k3⟩:=EF h;refine⟨k0,λi cs hi=>?_,λi e sz es hi=>?_,λi cs vs ms hi=>?_⟩
   ·cases i with
    |zero=>simp at hi
    |succ i=>exact k1 i cs (by simpa using hi)
   ·cases i with
    |zero=>simp at hi;obtain⟨rfl,rfl,rfl⟩:=hi;exact h0
    |succ i=>exact k2 i e sz es (by simpa using hi)
   ·cases i with
    |zero=>simp at hi
    |succ i=>exact k3 i cs vs ms (by simpa using hi)
  |ghost Fy qT ms0=>
   unfold Dl at h;obtain⟨h0,h⟩:=h;obtain⟨k0,k1,k2,k3⟩:=EF h;refine⟨k0,λi cs hi=>?_,λi e sz es hi=>?_,λi cs vs ms hi=>?_⟩
   ·cases i with
    |zero=>simp at hi
    |succ i=>exact k1 i cs (by simpa using hi)
   ·cases i with
    |zero=>simp at hi
    |succ i=>exact k2 i e sz es (by simpa using hi)
   ·cases i with
    |zero=>simp at hi;obtain⟨rfl,rfl,rfl⟩:=hi;exact h0
    |succ i=>exact k3 i cs vs ms (by simpa using hi)
  |dead=>
   unfold Dl at h;obtain⟨k0,k1,k2,k3⟩:=EF h;refine⟨k0,λi cs hi=>?_,λi e sz es hi=>?_,λi cs vs ms hi=>?_⟩
   ·cases i with
    |zero=>simp at hi
    |succ i=>exact k1 i cs (by simpa using hi)
   ·cases i with
    |zero=>simp at hi
    |succ i=>exact k2 i e sz es (by simpa using hi)
   ·cases i with
    |zero=>simp at hi
    |succ i=>exact k3 i cs vs ms (by simpa using hi)
  |inv I=>
   unfold Dl at h;obtain⟨k0,k1,k2,k3⟩:=EF h;refine⟨k0,λi cs hi=>?_,λi e sz es hi=>?_,λi cs vs ms hi=>?_⟩
   ·cases i with
    |zero=>simp at hi
    |succ i=>exact k1 i cs (by simpa using hi)
   ·cases i with
    |zero=>simp at hi
    |succ i=>exact k2 i e sz es (by simpa using hi)
   ·cases i with
    |zero=>simp at hi
    |succ i=>exact k3 i cs vs ms (by simpa using hi)
  |map _ _=>
   unfold Dl at h;obtain⟨k0,k1,k2,k3⟩:=EF h;refine⟨k0,λi cs hi=>?_,λi e sz es hi=>?_,λi cs vs ms hi=>?_⟩
   ·cases i with
    |zero=>simp at hi
    |succ i=>exact k1 i cs (by simpa using hi)
   ·cases i with
    |zero=>simp at hi
    |succ i=>exact k2 i e sz es (by simpa using hi)
   ·cases i with
    |zero=>simp at hi
    |succ i=>exact k3 i cs vs ms (by simpa using hi)
theorem eR:AI (mu.only H) (mu.below H.length):=λl g hl=>by
 obtain⟨k1,k2⟩:=B8 hl;obtain⟨ob,ho,_⟩:=Cw.1 k1;rw[CC (Fl.1 ho).1];exact k2
theorem Az.drop(h:Az G C mu E (H++R) a w)(hE:Bo H E=true)(hO:Dl H H True)(hn:G.np<=H.length):Az G C (mu.below H.length) E H a w:=by
 obtain⟨_,o1,o2,o3⟩:=EF hO
 have up:∀{i:Nat}{ob:HO},H[i]?=some ob->(H++R)[i]?=some ob:=λ{i ob} hi=>by
  rw[Kx (Fl.1 hi).1];exact hi
 have lt:∀{i:Nat}{ob:HO},H[i]?=some ob->i<H.length:=λhi=>(Fl.1 hi).1
 have wr:∀(xs:List AV){vs:List Value},Bo H xs=true->Ab C w xs mu vs->Ab C w xs (mu.below H.length) vs:=λxs vs h1 h2=>Ab.mono (Ext.refl _ _) _ eR (BZ xs h1 h2)
 refine⟨h.c0,h.c1,h.lt,⟨λl g hl=>(BD hl).1,λl g b hl hg=>h.heap.fresh l g b (BD hl).2 hg,λl g b l' g' hl hg Bm SD=>h.heap.sep l g b l' g' (BD hl).2 hg (BD Bm).2 SD,λl hl=>?_,λl cs hl=>?_,λl e sz es hl=>?_,λl ks vs hl=>?_⟩,
  wr E hE h.env,?_,h.Ax,hn,λl b hl hp=>?_⟩
 ·rw[CC (lt hl)];exact h.heap.dead l (up hl)
 ·obtain⟨b,cur,e,k1,k2,k3,k4⟩:=h.heap.Cr l cs (up hl);exact⟨b,cur,e,by rw[CC (lt hl)];exact k1,k2,wr cs (o1 l cs hl) k3,k4⟩
 ·obtain⟨k0,k⟩:=h.heap.BM l e sz es (up hl);refine⟨k0,?_⟩;rw[CC (lt hl)];exact k.imp id λ⟨b,cap,cur,k1,k2,k3,k4,k5,k6,k7⟩=>⟨b,cap,cur,k1,k2,k3,k4,k5,Ab.mono (Ext.refl _ _) _ (AI.none _) (A8 _ (Fs (o2 l e sz es hl)) k6),k7⟩
 ·obtain⟨b,es,cl,k1,k2,k3⟩:=h.heap.maps l ks vs (up hl);exact⟨b,es,cl,by rw[CC (lt hl)];exact k1,k2,k3⟩
 ·obtain⟨ms,d1,d2⟩:=h.defers;have cG:∀{D:Nat×Obj},CG C w G.fresh mu D->CG C w G.fresh (mu.below H.length) D:=λk=>⟨k.at_,k.KA,λl g hl=>k.own l g (BD hl).2,k.fr⟩
  refine⟨ms,d1,⟨λl cs vs gm hl=>?_,λl I hl=>?_,λd hd=>cG (d2.marks d hd),d2.nd,λl l' cs vs gm cs' BY gm' hl Bm=>d2.sep l l' cs vs gm cs' BY gm' (up hl) (up Bm)⟩⟩
  ·obtain⟨k1,k2,k3⟩:=d2.Bl l cs vs gm (up hl);exact⟨wr cs (o3 l cs vs gm hl) k1,k2,λD hD=>⟨cG (k3 D hD).1,(k3 D hD).2⟩⟩
  ·obtain⟨h0,Sw,Sr,f,q2,q3,q4⟩:=d2.Hz l I (up hl);exact⟨h0,Sw,Sr,⟨f.fr,f.base,f.cb,λi g b hi=>f.ob i g b (BD hi).2,f.sub,f.lt,λb hb i g hi=>f.own b hb i g (BD hi).2,f.KA⟩,q2,q3,λk cs vs gm hk=>q4 k cs vs gm (up hk)⟩
 ·rw[CC (Kr hl hn)];exact h.Ds.2 l b hl hp
def Rl:List HO->List HO->Prop->Prop
 |_,[],Q=>Q
 |x::xs,y::ys,Q=>x=y/\Rl xs ys Q
 |[],_::_,_=>False
theorem L4:∀{xs ys:List HO}{Q:Prop},Rl xs ys Q->Q/\∃R,xs=ys++R
 |xs,[],Q,h=>⟨by cases xs<;>exact h,xs,by simp⟩
 |x::xs,y::ys,Q,h=>by
  unfold Rl at h;obtain⟨rfl,h⟩:=h;obtain⟨q,R,rfl⟩:=L4 h;exact⟨q,R,rfl⟩
 |[],_::_,_,h=>by unfold Rl at h;exact h.elim
end
end Go.Av
namespace Go.Av
open Go.RowKit (Below)
section
variable {G:Cx}{T:List TY}{P:Program}
structure HOk(H:List HO)(g:Nat)(E:List AV)(vs:List Value):Prop where
 gh:H[g]?=some (.ghost E vs [])
 ni:∀(l:Nat) I,H[l]?≠some (.inv I)
 ng:∀(l:Nat) cs vs gm,H[l]?=some (.ghost cs vs gm)->gm=[]
def T7:AE->Option Code
 |.ret=>some .ret
 |.exit id=>some (.exit id)
 |.panic _=>none
def LpX(G:Cx)(l:Nat)(rec:Code->Obj)(ms:List Nat)(g:Nat)(E:List AV)(vs:List Value)(Hx:AE->List HO->Prop)(Sw Sr:Nat->Prop)(W:World):Prop:=
 ∃e c H,T7 e=some c/\Hx e H/\HOk H g E vs/\rG G l (rec c) ms H Sw Sr W
theorem LpX.Ta{l:Nat}{rec:Code->Obj}{ms:List Nat}{g:Nat}{E:List AV}{vs:List Value}{Hx:AE->List HO->Prop}{Sw Sr:Nat->Prop}{w w':World}(h:LpX G l rec ms g E vs Hx Sw Sr w)(hs:NP Sr w w'):LpX G l rec ms g E vs Hx Sw Sr w':=by
 obtain⟨e,c,H,h1,h2,h3,h4⟩:=h;exact⟨e,c,H,h1,h2,h3,h4.Ta h3.ni h3.ng hs⟩
def IG(fn:FuncId)(tmps:Array Value)(ps:Array Tmp)(assign body:Code)(D:Nat)(st:LoopState)(pe:Option Code):Loop:={state:=st,pending:=pe,fn,tmps,params:=ps,assign,body,defers:=D}
theorem oK{l:Nat}{fn:FuncId}{tmps:Array Value}{ps:Array Tmp}{assign body:Code}{D:Nat}{ms:List Nat}{g:Nat}{E:List AV}{H:List HO}{x:List AV}{Hx:AE->List HO->Prop}{C1:Ae}{n1:Nat}(hGP:G.P=P)
  (hk:HOk H g E tmps.toList) (N:List HO->Prop) (hN:∀H1,N H1->HOk H1 g E tmps.toList/\Dl H1 H1 True/\G.np<=H1.length) (hlen:x.length=ps.size)
  (gC:Aa P assign (QS ps.toList x E) H (λE2 H2=>Aa P body E2 H2 (λ_ H'=>∃H1,N H1/\Rl H' H1 True) (λe _ H'=>(∃c,T7 e=some c)/\Hx e H'/\HOk H' g E tmps.toList)) (λ_ _ _=>False))
  (Yv:G.W0.heap.size<=l) (O0:l<n1) (My:∀d∈FD G ms,d.1<n1) (hC1:∀b o,C1 b o->G.C0 b o\/G.fresh b) (yK:G.W0.heap.size<=n1) (Zkr:∀o,¬C1 l o) (Zks:∀d∈FD G ms,∀o,¬C1 d.1 o)
  {C':Ae} {W:World} {us:List Value} {Sw Sr:Nat->Prop} {n:Nat} (gF:∀b o,C' b o->b<W.heap.size) (hC':∀b o,C' b o->C1 b o\/n1<=b) (hnW:n1<=W.heap.size) (gI:∀b o,Sw b->¬C' b o)
  (hJ:rG G l (.loop (IG fn tmps ps assign body D .ready none)) ms H Sw Sr W) (hx:Ab C' W x Mu.none us):
  YieldAt (fw none) n P l us.toArray W λe w'=>∃HM FB,NP (λb=>b<W.heap.size/\¬Sw b) W w'/\(∀b,HM b->Sw b\/W.heap.size<=b)/\(∀b,FB b->Sr b\/W.heap.size<=b\/∃o,C' b o)/\
   (∀b,HM b->FB b)/\(∀b,FB b->b<w'.heap.size)/\
   ((e=.returned (.bool true)/\∃H1,N H1/\rG G l (.loop (IG fn tmps ps assign body D .ready none)) ms H1 HM FB w')\/
    (e=.returned (.bool false)/\LpX G l (λc=>.loop (IG fn tmps ps assign body D .done (some c))) ms g E tmps.toList Hx HM FB w')):=by
 obtain⟨C,mu,Af,hX,hSw,yS⟩:=hJ;have hl:=hX.marks (l,.loop (IG fn tmps ps assign body D .ready none)) (by simp[FD,Cx.B0])
 have lC:us.toArray.size=ps.size:=by have:=Ap _ hx;simp;omega
 have hy:=run_yield (P:=P) (args:=us.toArray) hl.at_ lC;refine⟨fn,_,assign,body,hy,roundIn_of_wpIn trivial ?_⟩;obtain⟨ready,JV⟩:∃o,o=Obj.loop (IG fn tmps ps assign body D .ready none):=⟨_,rfl⟩;rw[<-JV]at hl hX Af yS;have hXp:BE C W G.fresh mu H ((l,ready)::FD G ms):=hX.perm (by simp[FD,Cx.B0])
 let C2:Ae:=λb o=>C b o\/C' b o
 let M0:Nat->Prop:=λb=>(∃i g,mu i=some g/\g.Aq=some b)\/∃d∈(l,ready)::FD G ms,d.1=b
 have Zg5:∀d∈(l,ready)::FD G ms,∀o,¬C' d.1 o:=λd hd o hc=>by
  rcases KF.1 hd with rfl|hd
  ·rcases hC' _ _ hc with k|k;·exact Zkr o k
   ·simp only at k;omega
  ·rcases hC' _ _ hc with k|k;·exact Zks d hd o k
   ·have:=My d hd;omega
 have e1:Ext C C2 W W:=⟨λ_ _ h=>.inl h,λ_ _ _=>rfl⟩
 have e2:Ext C' C2 W W:=⟨λ_ _ h=>.inr h,λ_ _ _=>rfl⟩
 have hgE:=(hX.Bl g E tmps.toList [] hk.gh).1
 have ZgO:Zhv C2 M0 W:=⟨Af.qI.mono e1 (λb o hc=>hc.elim (Af.lt b o) (gF b o)),λb o hc hM=>by
  rcases hM with⟨i,g,hi,hg⟩|⟨d,hd,rfl⟩;·exact hc.elim ((Af.heap.fresh i g b hi hg).2.2 o) (gI b o ((hSw b).2 (.inl ⟨i,g,hi,hg⟩)))
  ·exact hc.elim ((hXp.marks d hd).KA o) (Zg5 d hd o)⟩
 let G1:Cx:={P:=P,pM:=ZgO,C0:=C2,M0:=M0,W0:=W,MJ:=(l,ready)::FD G ms,rd:=some l,Ds:=G.Ds,np:=G.np,Se:=λl' h=>⟨IG fn tmps ps assign body D .ready none,by cases h;rw[JV];simp⟩}
 have hX1:BE C2 W G1.fresh mu H ((l,ready)::FD G ms):=by
  refine⟨λi cs vs gm hi=>?_,λi I hi=>absurd hi (hk.ni i I),λd hd=>?_,hXp.nd,hXp.sep⟩
  ·obtain⟨k1,k2,k3⟩:=hXp.Bl i cs vs gm hi;have:=hk.ng i cs vs gm hi;subst this;exact⟨Ab.mono e1 _ (AI.refl _) k1,k2,λD hD=>by cases hD⟩
  ·have k:=hXp.marks d hd;exact⟨k.at_,λo hc=>hc.elim (k.KA o) (Zg5 d hd o),k.own,.inr (.inr ⟨d,hd,rfl⟩)⟩
 have Jg:Az G1 C2 mu (QS ps.toList x E) H {tmps:=(ps.zip us.toArray).foldl (λt (p,v)=>t.setIfInBounds p v) tmps,defers:=[]} W:=by
  refine Af.Xq (PC _) (λ_ _=>rfl) (λ_ _ h=>h) (λ_ _ h=>.inl h) (λb o hc=>hc.elim (Af.lt b o) (gF b o)) (λ_ _ h=>.inl h) (λi g b hi hg=>⟨.inr (.inl ⟨i,g,hi,hg⟩),λo hc=>?_⟩) ?_ ⟨[],rfl,hX1⟩ ⟨rfl,rfl,rfl,PC _,λ_ _ _=>rfl⟩ Af.Ds
  ·exact hc.elim ((Af.heap.fresh i g b hi hg).2.2 o) (gI b o ((hSw b).2 (.inl ⟨i,g,hi,hg⟩)))
  ·have:=Y4 (C:=C2) (w:=W) (mu:=mu) ps.toList (Ab.mono e2 _ (AI.none mu) hx) (Ab.mono e1 _ (AI.refl _) hgE);rw[<-Array.foldl_toList];simpa using this
 obtain⟨busy,vZ⟩:∃o,o=Obj.loop (IG fn tmps ps assign body D .busy none):=⟨_,rfl⟩;let G2:Cx:={P:=P,pM:=ZgO,C0:=C2,M0:=M0,W0:=W,MJ:=(l,busy)::FD G ms,rd:=some l,Ds:=G.Ds,np:=G.np,Se:=λl' h=>⟨IG fn tmps ps assign body D .busy none,by cases h;rw[vZ];simp⟩}
 have fin:∀{C4:Ae}{cC:Mu}{E4:List AV}{H4:List HO}{a4:Act}{w4:World}(o2:Obj),HOk H4 g E tmps.toList->Az G2 C4 cC E4 H4 a4 w4->
   ∃HM FB,NP (λb=>b<W.heap.size/\¬Sw b) W (w4.putObj l o2)/\(∀b,HM b->Sw b\/W.heap.size<=b)/\(∀b,FB b->Sr b\/W.heap.size<=b\/∃o,C' b o)/\
    (∀b,HM b->FB b)/\(∀b,FB b->b<(w4.putObj l o2).heap.size)/\rG G l o2 ms H4 HM FB (w4.putObj l o2):=by
  intro C4 cC E4 H4 a4 w4 o2 hk4 Ef;obtain⟨ms4,hd4,hX4⟩:=Ef.defers
  have rC:BE C4 w4 G2.fresh cC H4 ((l,busy)::(FD G ms++ms4.map λD=>(D,GL))):=hX4.perm (by
   show(ms4.map (λD=>(D,GL))++((l,busy)::FD G ms)).Perm _
   exact Sh)
  have hXo:=rC.sM (o':=o2)
  have cG:∀d∈FD G ms,W.heap[d.1]?=some d.2/\G.fresh d.1:=λd hd=>by
   have k:=hXp.marks d (F0 _ hd);exact⟨k.at_,k.fr⟩
  have hlf:G.fresh l:=.inl Yv
  have hfr:∀b,G2.fresh b->G.fresh b:=λb hb=>by
   rcases hb with hb|⟨i,gg,hi,hg⟩|⟨d,hd,rfl⟩;·exact .inl (K2 Af.Ax.size hb)
   ·exact(Af.heap.fresh i gg b hi hg).1
   ·rcases KF.1 hd with rfl|hd;·exact hlf
    ·exact(cG d hd).2
  have Zb5:∀(i:Nat)(gg:GO)(b:Nat),cC i=some gg->gg.Aq=some b->(∃i g,mu i=some g/\g.Aq=some b)\/W.heap.size<=b:=λi gg b hi hg=>by
   rcases (Ef.heap.fresh i gg b hi hg).1 with hb|hb|⟨d,hd,rfl⟩;·exact .inr hb
   ·exact .inl hb
   ·exfalso;rcases KF.1 hd with rfl|hd;·exact(rC.marks (l,busy) (by simp)).own i gg hi hg
    ·exact(rC.marks d (by simp[hd])).own i gg hi hg
  have Qq:KC G (w4.putObj l o2):=by
   refine⟨Ef.Ax.os.trans Af.Ax.os,Ef.Ax.tape.trans Af.Ax.tape,Ef.Ax.output.trans Af.Ax.output,?_,λk hk hn=>?_⟩
   ·simp;exact K2 Af.Ax.size Ef.Ax.size
   ·have cF:¬G.fresh k:=λh=>h.elim (λh=>absurd h (Nat.not_le_of_lt hk)) hn
    rw[E8 (λe=>cF (by rw[e];exact hlf))]
    rw[Ef.Ax.block k (Kr hk Af.Ax.size) (λhM=>?_)]
    ·exact Af.Ax.block k hk hn
    ·rcases hM with⟨i,gg,hi,hg⟩|⟨d,hd,rfl⟩;·exact cF (Af.heap.fresh i gg k hi hg).1
     ·rcases KF.1 hd with rfl|hd;·exact cF hlf
      ·exact cF (cG d hd).2
  have Zkc:∀b o,G.C0 b o->C4 b o:=λb o h=>Ef.c0 b o (.inl (Af.c0 b o h))
  have Zka:∀b o,C4 b o->G.C0 b o\/G.fresh b:=λb o h=>by
   rcases Ef.c1 b o h with h|h
   ·rcases h with h|h;·exact Af.c1 b o h
    ·rcases hC' b o h with h|h;·exact hC1 b o h
     ·exact .inr (.inl (K2 yK h))
   ·exact .inr (hfr b h)
  have HC:∀o,¬C4 l o:=(rC.marks (l,busy) (by simp)).KA
  have hXf:BE C4 (w4.putObj l o2) G.fresh cC H4 (FD (G.B0 l o2) ms):=by
   have hXm:BE C4 (w4.putObj l o2) G2.fresh cC H4 ((FD (G.B0 l o2) ms)++ms4.map λD=>(D,GL)):=hXo.perm (by
    simp only[FD,Cx.B0];refine Xar.trans ?_ (Xar.append_right _ Xak.symm);simp)
   refine⟨λi cs vs gm hi=>?_,λi I hi=>absurd hi (hk4.ni i I),λd hd=>?_,?_,hXm.sep⟩
   ·obtain⟨k1,k2,k3⟩:=hXm.Bl i cs vs gm hi;have:=hk4.ng i cs vs gm hi;subst this;exact⟨k1,k2,λD hD=>by cases hD⟩
   ·have k:=hXm.marks d (Mx _ hd);exact⟨k.at_,k.KA,k.own,hfr _ k.fr⟩
   ·have:=hXm.nd;rw[List.map_append]at this;exact(List.nodup_append.1 this).1
  have oV:Az (G.B0 l o2) C4 cC [] H4 {tmps:=#[],defers:=ms.map mark++G.ds} (w4.putObj l o2):=by
   refine Ef.Xq (by simp) (λb hb=>?_) Zkc Zka (λb o hc=>by simpa using Ef.lt b o hc) (λ_ _ h=>h) (λi gg b hi hg=>⟨hfr _ (Ef.heap.fresh i gg b hi hg).1,(Ef.heap.fresh i gg b hi hg).2.2⟩) (by simp[Ab]) ⟨ms,rfl,hXf⟩ ⟨Qq.os,Qq.tape,Qq.output,Qq.size,Qq.block⟩ Ef.Ds
   refine E8 λe=>?_
   subst e;rcases hb with⟨o,hc⟩|⟨i,gg,hi,hg⟩;·exact HC o hc
   ·exact(rC.marks (b,busy) (by simp)).own i gg hi hg
  have Zjc:W.heap.size<=(w4.putObj l o2).heap.size:=by simp;exact Ef.Ax.size
  refine⟨λb=>(∃i g,cC i=some g/\g.Aq=some b)\/b=l,λb=>Rel (G.B0 l o2) C4 cC (FD (G.B0 l o2) ms) b/\b<(w4.putObj l o2).heap.size,?_,?_,?_,?_,λb hb=>hb.2,C4,cC,oV,hXf,λb=>Iff.rfl,λb hb=>⟨hb,?_⟩⟩
  ·refine⟨Ef.Ax.os,Ef.Ax.tape,Ef.Ax.output,Zjc,λb hb=>?_⟩
   have Ur:b≠l:=λe=>hb.2 ((hSw b).2 (.inr e))
   rw[E8 Ur];by_cases hd:∃d∈FD G ms,d.1=b
   ·obtain⟨d,hd,rfl⟩:=hd;have:=(rC.marks d (by simp[hd])).at_
    rw[this,(cG d hd).1]
   ·refine Ef.Ax.block b hb.1 λhM=>?_
    rcases hM with hM|⟨d,hd',rfl⟩;·exact hb.2 ((hSw b).2 (.inl hM))
    ·rcases KF.1 hd' with rfl|hd';·exact Ur rfl
     ·exact hd ⟨d,hd',rfl⟩
  ·intro b hb;rcases hb with⟨i,gg,hi,hg⟩|rfl;·exact(Zb5 i gg b hi hg).imp (λh=>(hSw b).2 (.inl h)) id
   ·exact .inl ((hSw b).2 (.inr rfl))
  ·intro b hb;rcases hb.1 with h|⟨o,h⟩|⟨i,gg,hi,hg⟩|⟨d,hd,rfl⟩;·exact .inl (yS b (.inl h))
   ·rcases Ef.c1 b o h with h|h
    ·rcases h with h|h;·exact .inl (yS b (.inr (.inl ⟨o,h⟩)))
     ·exact .inr (.inr ⟨o,h⟩)
    ·rcases h with h|h|⟨d,hd,rfl⟩;·exact .inr (.inl h)
     ·exact .inl (yS b (.inr (.inr (.inl h))))
     ·refine .inl (yS d.1 (.inr (.inr (.inr ⟨d,?_,rfl⟩))));simp only[FD,Cx.B0,Rj,KF]at hd ⊢;rcases hd with hd|hd|hd;·exact .inr (.inl hd)
      ·exact .inl hd
      ·exact .inr (.inr hd)
   ·rcases Zb5 i gg b hi hg with h|h;·exact .inl (yS b (.inr (.inr (.inl h))))
    ·exact .inr (.inl h)
   ·refine .inl (yS d.1 (.inr (.inr (.inr ?_))));simp only[FD,Cx.B0,Rj,KF]at hd ⊢;rcases hd with hd|rfl|hd;·exact⟨d,.inl hd,rfl⟩
    ·exact⟨(l,ready),.inr (.inl rfl),rfl⟩
    ·exact⟨d,.inr (.inr hd),rfl⟩
  ·intro b hb;rcases hb with⟨i,gg,hi,hg⟩|rfl;·exact⟨.inr (.inr (.inl ⟨i,gg,hi,hg⟩)),(oV.heap.fresh i gg b hi hg).2.1⟩
   ·exact⟨.inr (.inr (.inr ⟨(b,o2),by simp[FD,Cx.B0],rfl⟩)),(CM.1 (hXf.marks (b,o2) (by simp[FD,Cx.B0])).at_).1⟩
  ·rcases hb with h|⟨o,h⟩|⟨i,gg,hi,hg⟩|⟨d,hd,rfl⟩;·exact Kr h Qq.size
   ·exact oV.lt b o h
   ·exact(oV.heap.fresh i gg b hi hg).2.1
   ·exact(CM.1 (hXf.marks d hd).at_).1
 refine wpIn_mono (gC.out n G1 _ W rfl ⟨C2,mu,Jg⟩) λe1 a1 w1 hq=>?_
 cases e1 with
 |exit id=>obtain⟨_,_,h,_⟩:=hq;exact h.elim
 |goto t=>exact hq.elim
 |ret=>obtain⟨_,_,h,_⟩:=hq;exact h.elim
 |panic chain=>obtain⟨_,_,_,_,_,_,_,h,_⟩:=hq;exact h.elim
 |outgrown=>exact hq.elim
 |normal=>
  obtain⟨E2,H2,hB,C3,mu3,FX⟩:=hq;obtain⟨ms3,yQ,hX3⟩:=FX.defers
  have rC:BE C3 w1 G1.fresh mu3 H2 ((l,ready)::(FD G ms++ms3.map λD=>(D,GL))):=hX3.perm (by
   show(ms3.map (λD=>(D,GL))++((l,ready)::FD G ms)).Perm _
   exact Sh)
  have hl3:=rC.marks (l,ready) (by simp)
  have hlr:w1.heap[l]?=some (.loop (IG fn tmps ps assign body D .ready none)):=by rw[<-JV];exact hl3.at_
  refine⟨w1.putObj l busy,by rw[vZ];exact run_beginRound hlr rfl,?_⟩
  have hX2:=rC.sM (o':=busy);have he2:Ext C3 C3 w1 (w1.putObj l busy):=Ext.of_block (λ_ _ h=>h) λb i hc=>E8 λe=>hl3.KA i (by rw[<-e];exact hc)
  have NC:Az G2 C3 mu3 E2 H2 a1 (w1.putObj l busy):=by
   refine FX.Xq (by simp) (λb hb=>?_) FX.c0 FX.c1 (λb o hc=>by simpa using FX.lt b o hc) (λ_ _ h=>h) (λi gg b hi hg=>⟨(FX.heap.fresh i gg b hi hg).1,(FX.heap.fresh i gg b hi hg).2.2⟩) (Ab.mono he2 _ (AI.refl _) FX.env) ⟨ms3,yQ,hX2.perm ?_⟩ ⟨FX.Ax.os,FX.Ax.tape,FX.Ax.output,by simpa using FX.Ax.size,λk hk hn=>?_⟩ FX.Ds
   ·refine E8 λe=>?_
    subst e;rcases hb with⟨o,hc⟩|⟨i,gg,hi,hg⟩;·exact hl3.KA o hc
    ·exact hl3.own i gg hi hg
   ·show Xar _ (ms3.map (λD=>(D,GL))++((l,busy)::FD G ms))
    exact(Sh (l₁:=ms3.map (λD=>(D,GL))) (l₂:=(l,busy)::FD G ms)).symm
   ·rw[E8 (λe=>hn (by rw[e];exact .inr ⟨(l,ready),by simp,rfl⟩))]
    exact FX.Ax.block k hk hn
  refine wpIn_mono (hB.out n G2 a1 _ rfl ⟨C3,mu3,NC⟩) λe4 a4 w4 hq4=>?_
  have rd4:∀{C4:Ae}{cC:Mu}{E4:List AV}{H4:List HO},Az G2 C4 cC E4 H4 a4 w4->w4.heap[l]?=some (.loop (IG fn tmps ps assign body D .busy none)):=λEf=>by
   obtain⟨ms4,hd4,hX4⟩:=Ef.defers;rw[<-vZ];exact(hX4.marks (l,busy) (by simp[G2])).at_
  cases e4 with
  |normal=>
   obtain⟨E4,H4,⟨H1,hN1,Zjm⟩,C4,cC,Ef⟩:=hq4;obtain⟨lH,Bh,hnp⟩:=hN H1 hN1;have hr:=run_endRound (P:=P) none (rd4 Ef);obtain⟨_,R,rfl⟩:=L4 Zjm;have oV:Az G2 C4 cC [] (H1++R) {tmps:=#[],defers:=a4.defers} w4:=Ef.frame (by unfold Ab;rfl) rfl
   obtain⟨HM,FB,q1,q2,q3,q4,q5,q6⟩:=fin ready lH (oV.drop rfl Bh hnp);rw[JV]at q1 q5 q6;exact⟨_,_,hr,HM,FB,q1,q2,q3,q4,q5,.inl ⟨rfl,H1,hN1,q6⟩⟩
  |ret=>
   obtain⟨E4,H4,⟨_,hx4,hk4⟩,C4,cC,Ef⟩:=hq4;have hr:=run_endRound (P:=P) (some .ret) (rd4 Ef);obtain⟨HM,FB,q1,q2,q3,q4,q5,q6⟩:=fin (.loop (IG fn tmps ps assign body D .done (some .ret))) hk4 Ef;exact⟨_,_,hr,HM,FB,q1,q2,q3,q4,q5,.inr ⟨rfl,.ret,.ret,H4,rfl,hx4,hk4,q6⟩⟩
  |exit id=>
   obtain⟨E4,H4,⟨_,hx4,hk4⟩,C4,cC,Ef⟩:=hq4;have hr:=run_endRound (P:=P) (some (.exit id)) (rd4 Ef);obtain⟨HM,FB,q1,q2,q3,q4,q5,q6⟩:=fin (.loop (IG fn tmps ps assign body D .done (some (.exit id)))) hk4 Ef;exact⟨_,_,hr,HM,FB,q1,q2,q3,q4,q5,.inr ⟨rfl,.exit id,.exit id,H4,rfl,hx4,hk4,q6⟩⟩
  |goto t=>exact hq4.elim
  |panic chain=>obtain⟨_,_,_,_,_,_,_,⟨⟨_,h⟩,_⟩,_⟩:=hq4;cases h
  |outgrown=>exact hq4.elim
end
section
variable {G:Cx}{C:Ae}{w w':World}{mu:Mu}{H:List HO}{E:List AV}{a:Act}{T:List TY}{P:Program}
theorem Az.mH(h:Az G C mu E H a w){ms:List Nat}(hx:BE C w G.fresh mu H (FD G ms))(o:Obj):BE C (w.alloc o) G.fresh mu H (FD G ms):=
 hx.step (Hk (λb hb=>hb.1) o) (λl g b hm hb=>.inl ⟨l,g,hm,hb⟩) (λ_ _ h=>.inl h) (λl cs vs ms hl=>⟨cs,hl,Ab.mono (Jm h.lt o) _ (AI.refl _)⟩) (λ_ _ h=>h)
def FT:List HO->Bool
 |[]=>true
 |.inv _::_=>false
 |.ghost _ _ []::r=>FT r
 |.ghost _ _ (_::_)::_=>false
 |.cells _::r|.arr _ _ _::r|.dead::r|.map _ _::r=>FT r
theorem I6:∀{H:List HO},FT H=true->∀(l:Nat) I,H[l]?≠some (.inv I)
 |[],_,l,I=>by simp
 |o::r,h,0,I=>by intro e;simp at e;subst e;cases h
 |o::r,h,l+1,I=>by
  have hr:FT r=true:=by
   cases o with
   |ghost cs vs ms=>cases ms<;>simp_all[FT]
   |_=>simp_all[FT]
  simpa using I6 hr l I
theorem LS:∀{H:List HO},FT H=true->∀(l:Nat) cs vs gm,H[l]?=some (.ghost cs vs gm)->gm=[]
 |[],_,l,cs,vs,gm=>by simp
 |o::r,h,0,cs,vs,gm=>by
  intro e;simp at e;subst e
  cases gm with
  |nil=>rfl
  |cons _ _=>cases h
 |o::r,h,l+1,cs,vs,gm=>by
  have hr:FT r=true:=by
   cases o with
   |ghost cs vs ms=>cases ms<;>simp_all[FT]
   |_=>simp_all[FT]
  simpa using LS hr l cs vs gm
theorem wO(Af:Az G C mu E H a w){ms:List Nat}(hx:BE C w G.fresh mu H (FD G ms))(Sf:∀(l:Nat) I,H[l]?≠some (.inv I))(cF:∀(l:Nat) cs vs gm,H[l]?=some (.ghost cs vs gm)->gm=[])
  (fn:FuncId) (tmps:Array Value) (ps:Array Tmp) (assign body:Code):
  ∃l D new W1,(Instr.enterLoop fn tmps ps assign body G.rd).run P w=.ok (l,new.map mark) W1/\w.heap.size<=l/\l<W1.heap.size/\Az G C mu E H a W1/\
   BE C W1 G.fresh mu H ((l,.loop (IG fn tmps ps assign body D .ready none))::FD G (new++ms)):=by
 cases Se:G.rd with
 |none=>
  have h1:=Af.NN GL;have x1:=Af.mH hx GL;have m1:=Af.XD GL;have yK:∀d∈FD G ms,d.1<w.heap.size:=λd hd=>(CM.1 (hx.marks d hd).at_).1
  have p1:BE C (w.alloc GL) G.fresh mu H ((w.heap.size,GL)::FD G ms):=x1.push Sf cF m1 (by
   intro hm;obtain⟨d,hd,he⟩:=PR.1 hm;have:=yK d hd;omega)
  obtain⟨o2,ho2⟩:∃o2:Obj,o2=.loop (IG fn tmps ps assign body w.heap.size .ready none):=⟨_,rfl⟩;have h2:=h1.NN o2;have x2:BE C ((w.alloc GL).alloc o2) G.fresh mu H ((w.heap.size,GL)::FD G ms):=p1.step (Hk (λb hb=>hb.1) o2) (λl g b hm hb=>.inl ⟨l,g,hm,hb⟩) (λ_ _ h=>.inl h) (λl cs vs ms hl=>⟨cs,hl,Ab.mono (Jm h1.lt o2) _ (AI.refl _)⟩) (λ_ _ h=>h)
  have m2:=h1.XD o2
  have p2:BE C ((w.alloc GL).alloc o2) G.fresh mu H (((w.alloc GL).heap.size,o2)::(w.heap.size,GL)::FD G ms):=x2.push Sf cF m2 (by
   intro hm;obtain⟨d,hd,he⟩:=PR.1 hm
   simp only[World.size_alloc]at he;rcases KF.1 hd with rfl|hd;·simp at he
   ·have:=yK d hd;omega)
  refine⟨w.heap.size+1,w.heap.size,[w.heap.size],(w.alloc GL).alloc o2,?_,by omega,by simp,h2,?_⟩
  ·rw[run_enterLoop_outer,ho2];rfl
  ·rw[<-ho2];simpa[FD]using p2
 |some l0=>
  obtain⟨r0,MP⟩:=G.Se l0 Se;have Yv:=(hx.marks (l0,.loop r0) (by simp[FD,MP])).at_
  have yK:∀d∈FD G ms,d.1<w.heap.size:=λd hd=>(CM.1 (hx.marks d hd).at_).1
  obtain⟨o2,ho2⟩:∃o2:Obj,o2=.loop (IG fn tmps ps assign body r0.defers .ready none):=⟨_,rfl⟩;have h2:=Af.NN o2;have x2:=Af.mH hx o2;have m2:=Af.XD o2
  have p2:BE C (w.alloc o2) G.fresh mu H ((w.heap.size,o2)::FD G ms):=x2.push Sf cF m2 (by
   intro hm;obtain⟨d,hd,he⟩:=PR.1 hm;have:=yK d hd;omega)
  refine⟨w.heap.size,r0.defers,[],w.alloc o2,?_,PC _,by simp,h2,?_⟩
  ·rw[run_enterLoop_inner Yv,ho2];rfl
  ·rw[<-ho2];simpa using p2
theorem Az.nS(h:Az G C mu E H a w){ms:List Nat}(hx:BE C w G.fresh mu H (FD G ms)){E0:List AV}{vs:List Value}(he:Ab C w E0 mu vs)(Sf:∀(l:Nat) I,H[l]?≠some (.inv I)):
  AU C w G.fresh mu (H++[.ghost E0 vs []])/\BE C w G.fresh mu (H++[.ghost E0 vs []]) (FD G ms):=by
 have hd:∀l g,mu l=some g->l<(H++[HO.ghost E0 vs []]).length:=λl g hg=>by have:=h.heap.Is l g hg;simp;omega
 have Rn:∀(l:Nat)(ob:HO),(H++[HO.ghost E0 vs []])[l]?=some ob->H[l]?=some ob\/ob=.ghost E0 vs []:=λl ob hl=>by
  rw[List.getElem?_append]at hl;split at hl;·exact .inl hl
  ·right;cases hq:l-H.length with
   |zero=>rw[hq]at hl;simpa using hl.symm
   |succ n=>rw[hq]at hl;simp at hl
 refine⟨⟨hd,h.heap.fresh,h.heap.sep,λl hl=>?_,λl cs hl=>?_,λl e sz es hl=>?_,λl ks vs hl=>?_⟩,⟨λl cs BY gm hl=>?_,λl I hl=>?_,hx.marks,hx.nd,λl l' cs vs ms cs' BY DE hl Bm Bq D hD=>?_⟩⟩
 ·rcases Rn l _ hl with k|k;·exact h.heap.dead l k
  ·cases k
 ·rcases Rn l _ hl with k|k;·exact h.heap.Cr l cs k
  ·cases k
 ·rcases Rn l _ hl with k|k;·exact h.heap.BM l e sz es k
  ·cases k
 ·rcases Rn l _ hl with k|k;·exact h.heap.maps l ks vs k
  ·cases k
 ·rcases Rn l _ hl with k|k;·exact hx.Bl l cs BY gm k
  ·cases k;exact⟨he,Rr,λD hD=>by cases hD⟩
 ·rcases Rn l _ hl with k|k;·exact absurd k (Sf l I)
  ·cases k
 ·intro wA;rcases Rn l _ hl with k|k
  ·rcases Rn l' _ Bm with k'|k';·exact hx.sep l l' _ _ _ _ _ _ k k' Bq D hD wA
   ·cases k';cases wA
  ·cases k;cases hD
theorem ZL{l:Nat}{o o':Obj}{ms:List Nat}{g:Nat}{E:List AV}{H:List HO}{Sw Sr:Nat->Prop}{W:World}{a:Act}(hk:HOk H g E a.tmps.toList)(hJ:rG G l o ms H Sw Sr W)(hd:a.defers=ms.map mark++G.ds):
  St G E H a (W.putObj l o'):=by
 obtain⟨C,mu,Af,hX,_,_⟩:=hJ;have rC:BE C W G.fresh mu H ((l,o)::FD G ms):=hX.perm (by simp[FD,Cx.B0])
 have hl:=rC.marks (l,o) (by simp)
 have hX2:=rC.sM (o':=o')
 have hX3:BE C (W.putObj l o') G.fresh mu H (FD G ms):=by
  refine⟨λi cs vs gm hi=>?_,λi I hi=>absurd hi (hk.ni i I),λd hd=>hX2.marks d (F0 _ hd),(Py.1 hX2.nd).2,hX2.sep⟩
  obtain⟨k1,k2,k3⟩:=hX2.Bl i cs vs gm hi;exact⟨k1,k2,λD hD=>⟨(k3 D hD).1,λh=>(k3 D hD).2 (F0 _ h)⟩⟩
 refine⟨C,mu,Af.Xq (by simp) (λb hb=>?_) Af.c0 Af.c1 (λb o hc=>by simpa using Af.lt b o hc) (λ_ _ h=>h) (λi gg b hi hg=>⟨(Af.heap.fresh i gg b hi hg).1,(Af.heap.fresh i gg b hi hg).2.2⟩) (hX2.Bl g E _ [] hk.gh).1 ⟨ms,hd,hX3⟩
  ⟨Af.Ax.os,Af.Ax.tape,Af.Ax.output,(by have:=Af.Ax.size;simp[Cx.B0]at this ⊢;exact this),λk HB hn=>?_⟩ Af.Ds⟩
 ·refine E8 λe=>?_
  subst e;rcases hb with⟨o,hc⟩|⟨i,gg,hi,hg⟩;·exact hl.KA o hc
  ·exact hl.own i gg hi hg
 ·rw[E8 (λe=>?_)]
  ·exact Af.Ax.block k HB hn
  ·subst e;rcases hl.fr with h|h;·simp only at h;omega
   ·exact hn h
theorem W5{F:Fence}{m:Nat}{P:Program}{l:Nat}{args:Array Value}{W:World}{R R':Ending->World->Prop}(h:YieldAt F m P l args W R)(hr:∀e w,R e w->R' e w):YieldAt F m P l args W R':=by
 obtain⟨fn,tmps,assign,body,hy,hR⟩:=h;exact⟨fn,tmps,assign,body,hy,hR.mono hr⟩
theorem Aa.JM{ι:Type}{d:Prop}{g:Operand}{ps:Array Tmp}{assign body:Code}{E E0:List AV}{H:List HO}{K:KK}{X:XX}{f:FuncId}{cap:List AV}{xs:List (List AV)}
  (hE:LeE E E0) (hg:AM E g=.fn f cap) (hc:An cap=true) (VE:Its P f cap xs d) (hH:FT H=true)
  (Hs:List Value->Nat->ι->List HO) (pre:Nat->ι->Prop) (i0:ι) (hp0:pre 0 i0) (Hx:List Value->AE->List HO->Prop) (h0:∀vs,Hs vs 0 i0=H++[.ghost E0 vs []]) (Fj:∀vs k i,pre k i->FT (Hs vs k i)=true/\(Hs vs k i)[H.length]?=some (.ghost E0 vs [])/\Dl (Hs vs k i) (Hs vs k i) True)
  (round:∀vs k i x,pre k i->xs[k]?=some x->x.length=ps.size/\Aa P assign (QS ps.toList x E0) (Hs vs k i)
   (λE2 H2=>Aa P body E2 H2 (λ_ H'=>∃j,pre (k+1) j/\Rl H' (Hs vs (k+1) j) True) (λe _ H'=>(∃c,T7 e=some c)/\Hx vs e H'/\FT H'=true/\H'[H.length]?=some (.ghost E0 vs []))) (λ_ _ _=>False))
  (aI:¬d->∀i,¬pre xs.length i) (done:∀vs i,pre xs.length i->K E0 (Hs vs xs.length i)) (exit:∀vs e H',Hx vs e H'->X e E0 H'):Aa P (.rangeFunc g ps assign body) E H K X:=by
 refine⟨λn G a w hP Af=>?_⟩
 obtain⟨C,mu,Af⟩:=Af;obtain⟨ms,hd,hx⟩:=Af.defers;subst hP;refine wpIn_rangeFunc λfn _=>?_
 obtain⟨l,D,new,W1,he,Yv,O0,Jg,vB⟩:=wO (P:=G.P) Af hx (I6 hH) (LS hH) fn a.tmps ps assign body;obtain⟨vs,WG⟩:∃vs,vs=a.tmps.toList:=⟨_,rfl⟩;obtain⟨ready,JV⟩:∃o,o=Obj.loop (IG fn a.tmps ps assign body D .ready none):=⟨_,rfl⟩;rw[<-JV]at vB;have hE0:Ab C W1 E0 mu vs:=by rw[WG];exact U2 hE Jg.env
 have hgv:=AX Jg.env g;rw[hg]at hgv;unfold Ah at hgv;obtain⟨us,hgv,HR⟩:=hgv;have HR:=A8 cap hc HR
 obtain⟨fnd,MQ,Zg0,Um⟩:∃fd,G.P.funcs[f]?=some fd/\fd.body≠none/\fd.name ≠ "runtime.NumGoroutine":=by
  have hgd:=VE.Eh;unfold Cq at hgd;cases MQ:G.P.funcs[f]? with
  |none=>rw[MQ]at hgd;cases hgd
  |some fd=>
   rw[MQ]at hgd;simp only[D0]at hgd;exact⟨fd,rfl,by cases hh:fd.body<;>simp_all,by simpa using hgd.2⟩
 have vM:∀k i,pre k i->HOk (Hs vs k i) H.length E0 vs:=λk i hi=>⟨(Fj vs k i hi).2.1,I6 (Fj vs k i hi).1,LS (Fj vs k i hi).1⟩
 -- the state before the first round
 have Zdi:BE C W1 G.fresh mu H (FD (G.B0 l ready) (new++ms)):=vB.perm (by
  simp only[FD,Cx.B0];exact Xak.symm)
 have NC:Az (G.B0 l ready) C mu [] H {tmps:=#[],defers:=(new++ms).map mark++G.ds} W1:=
  ⟨Jg.c0,Jg.c1,Jg.lt,Jg.heap,by simp[Ab],⟨_,rfl,Zdi⟩,⟨Jg.Ax.os,Jg.Ax.tape,Jg.Ax.output,Jg.Ax.size,Jg.Ax.block⟩,Jg.Ds⟩
 obtain⟨yH,KG⟩:=NC.nS Zdi hE0 (I6 hH)
 have hJ0:rG G l ready (new++ms) (Hs vs 0 i0) (λb=>(∃i g,mu i=some g/\g.Aq=some b)\/b=l) (λb=>Rel (G.B0 l ready) C mu (FD (G.B0 l ready) (new++ms)) b) W1:=by
  rw[h0 vs];exact⟨C,mu,⟨NC.c0,NC.c1,NC.lt,yH,by simp[Ab],⟨_,rfl,KG⟩,NC.Ax,by have:=NC.Ds.1;simp;omega,NC.Ds.2⟩,KG,λb=>Iff.rfl,λb hb=>hb⟩
 let I:Nat->Inv:=λk=>⟨λSw Sr W=>∃i,pre k i/\rG G l ready (new++ms) (Hs vs k i) Sw Sr W,λSw Sr w w' ⟨i,hi,h⟩ hs=>⟨i,hi,rG.Ta (vM k i hi).ni (vM k i hi).ng h hs⟩,C,W1.heap.size⟩
 let Ix:Inv:=⟨λSw Sr W=>LpX G l (λc=>.loop (IG fn a.tmps ps assign body D .done (some c))) (new++ms) H.length E0 vs (Hx vs) Sw Sr W,λSw Sr w w' h hs=>LpX.Ta h hs,C,W1.heap.size⟩
 have hlm:=vB.marks (l,ready) (by simp)
 have hxm:∀d∈FD G (new++ms),CG C W1 G.fresh mu d:=λd hd=>vB.marks d (F0 _ hd)
 have hW1:w.heap.size<=W1.heap.size:=by omega
 have ZgZ:=VE.out l I Ix C W1 us _ _ (λhd Sw Sr w ⟨i,hi,_⟩=>aI hd i hi) Jg.qI rfl rfl (λb o hb hc=>?_) (λb hb=>?_) (λb hb=>?_) ⟨i0,hp0,hJ0⟩ HR (λk x hk=>?_)
 ·have SE:(Vw (.yield l) #[] #[]::us).toArray=#[Vw (.yield l) #[] #[]]++us.toArray:=by simp
  refine⟨l,new.map mark,W1,{target:=.fn (.func f) us.toArray,args:=#[.func (.yield l) #[] #[]]},W1,f,#[.func (.yield l) #[] #[]]++us.toArray,W1,he,?_,?_,?_,λh=>(by cases h),?_⟩
  ·simp only[resolve,hgv];simp[go_sem]
  ·intro f' hf';trivial
  ·simp[invoke,callFunc,MQ,Um,Zg0]
  ·refine(callsIn_wide (n:=n-1)).2 ?_;rw[<-SE];refine ZgZ.mono λe w3 GK=>?_
   obtain⟨v,HM,FB,rfl,GK⟩:=GK;have hda:({a with defers:=new.map mark++a.defers}:Act).defers=(new++ms).map mark++G.ds:=by simp[hd]
   have htm:({a with defers:=new.map mark++a.defers}:Act).tmps.toList=vs:=WG.symm
   rcases GK with⟨i,hi,hJ⟩|hJ
   ·have hl3:w3.heap[l]?=some (.loop (IG fn a.tmps ps assign body D .ready none)):=by
     obtain⟨C3,mu3,_,hX,_,_⟩:=hJ;rw[<-JV];exact(hX.marks (l,ready) (by simp[FD,Cx.B0])).at_
    exact⟨none,_,run_endLoop hl3 (by simp[IG]),E0,_,done vs i hi,ZL (g:=H.length) (by rw[htm];exact vM _ _ hi) hJ hda⟩
   ·obtain⟨e,c,H',h1,h2,h3,hJ⟩:=hJ
    have hl3:w3.heap[l]?=some (.loop (IG fn a.tmps ps assign body D .done (some c))):=by
     obtain⟨C3,mu3,_,hX,_,_⟩:=hJ;exact(hX.marks (l,_) (by simp[FD,Cx.B0])).at_
    have hS:=λo'=>ZL (o':=o') (g:=H.length) (a:={a with defers:=new.map mark++a.defers}) (by rw[htm];exact h3) hJ hda
    refine⟨some c,_,run_endLoop hl3 (by simp[IG]),?_⟩
    cases e with
    |ret=>simp only[T7,Ji.injEq]at h1;subst h1;exact wpIn_ret ⟨E0,H',exit vs _ _ h2,hS _⟩
    |exit id=>simp only[T7,Ji.injEq]at h1;subst h1;exact wpIn_exit ⟨E0,H',exit vs _ _ h2,hS _⟩
    |panic x=>cases h1
 ·rcases hb with⟨i,gg,hi,hg⟩|rfl;·exact(Jg.heap.fresh i gg b hi hg).2.2 o hc
  ·exact hlm.KA o hc
 ·rcases hb with hb|rfl;·exact .inr (.inr (.inl hb))
  ·exact .inr (.inr (.inr ⟨(b,ready),by simp[FD,Cx.B0],rfl⟩))
 ·rcases hb with h|⟨o,h⟩|⟨i,gg,hi,hg⟩|⟨d,hd,rfl⟩;·exact Kr h Jg.Ax.size
  ·exact Jg.lt b o h
  ·exact(Jg.heap.fresh i gg b hi hg).2.1
  ·exact(CM.1 (Zdi.marks d hd).at_).1
 ·refine⟨⟨rfl,rfl,rfl,rfl⟩,l,rfl,λC' W Xc Sw Sr n' gF hC' hnW gI XY ZmL hJ Vx=>?_⟩
  obtain⟨i,hi,hJ'⟩:∃i,pre k i/\rG G l ready (new++ms) (Hs vs k i) Sw Sr W:=hJ;obtain⟨hlen,gC⟩:=round vs k i x hi hk;have hkk:HOk (Hs vs k i) H.length E0 a.tmps.toList:=by rw[<-WG];exact vM k i hi
  have hN:∀H1,(∃j,pre (k+1) j/\H1=Hs vs (k+1) j)->HOk H1 H.length E0 a.tmps.toList/\Dl H1 H1 True/\G.np<=H1.length:=by
   rintro H1 ⟨j,hj,rfl⟩;exact⟨by rw[<-WG];exact vM _ _ hj,(Fj vs _ j hj).2.2,K2 Af.Ds.1 (Nat.le_of_lt (Fl.1 (Fj vs _ j hj).2.1).1)⟩
  rw[JV]at hJ'
  have hY:=oK (n:=n') (P:=G.P) (Hx:=Hx vs) (C1:=C) (n1:=W1.heap.size) rfl hkk _ hN hlen
    (gC.mono (λE2 H2 h=>h.mono (λ_ _ ⟨j,hj,h⟩=>⟨_,⟨j,hj,rfl⟩,h⟩) (λe E' H' h=>⟨h.1,h.2.1,by rw[WG]at h;exact h.2.2.2,I6 h.2.2.1,LS h.2.2.1⟩)) (λ_ _ _ h=>h))
    (K2 Af.Ax.size Yv) O0 (λd hd=>(CM.1 (hxm d hd).at_).1) Jg.c1 (K2 Af.Ax.size hW1) hlm.KA (λd hd=>(hxm d hd).KA) gF hC' hnW gI hJ' Vx
  refine W5 hY ?_
  ·rintro e w' ⟨HM,FB,q1,q2,q3,q4,q5,q6⟩;refine⟨HM,FB,q1,q2,q3,q4,q5,?_⟩;rcases q6 with⟨rfl,H1,⟨j,hj,rfl⟩,q⟩|⟨rfl,q⟩;·exact .inl ⟨rfl,j,hj,by rw[<-JV]at q;exact q⟩
   ·exact .inr ⟨rfl,by rw[<-WG]at q;exact q⟩
end
structure Kl(C:Ae)(mu:Mu)(w:World)(C':Ae)(mu':Mu)(w':World):Prop where
 same:NP (λb=>b<w.heap.size/\∀l g,mu l=some g->g.Aq≠some b) w w'
 sub:∀b o,C b o->C' b o
 new:∀b o,C' b o->b<w'.heap.size/\(C b o\/w.heap.size<=b\/∃l g,mu l=some g/\g.Aq=some b)
 Ds:∀l b,mu l=some (.CS b)->mu' l=some (.CS b)
 ob:∀l g b,mu' l=some g->g.Aq=some b->(∃l g,mu l=some g/\g.Aq=some b)\/w.heap.size<=b
def Cp:List HO->Bool
 |[]=>true
 |.cells _::r|.arr _ _ _::r|.map _ _::r|.dead::r=>Cp r
 |_::_=>false
theorem G7:∀{H:List HO},Cp H=true->∀{l:Nat}{ob:HO},H[l]?=some ob->ob.real=true\/ob=.dead
 |[],_,l,ob,h=>by simp at h
 |o::r,hr,0,ob,h=>by
  simp only[Nw,Ji.injEq]at h;subst h;cases o<;>simp_all[Cp]
 |o::r,hr,l+1,ob,h=>by
  have OZ:Cp r=true:=by cases o<;>first|exact hr|cases hr
  exact G7 OZ (by simpa using h)
structure F7(P:Program)(f:FuncId)(args:List AV)(H0:List HO)(R X:AV->List HO->Prop):Prop where
 Eh:Cq P f=true
 out:∀(C:Ae)(mu:Mu)(w:World)(vs:List Value),cM C w->AU C w (λ_=>True) mu H0->Ab C w args mu vs->
  Calls P f vs.toArray w λe w'=>∃r v H1 C' mu',((e=.returned v/\R r H1)\/(e=.panicked [{v,recovered:=false}]/\X r H1))/\Kl C mu w C' mu' w'/\AU C' w' (λ_=>True) mu' H1/\Ah C' w' r mu' v/\
   H1.length=H0.length/\Cp H1=true/\∀l:Nat,H0[l]?=some HO.dead->H1[l]?=some HO.dead
def CQ(N:Nat)(H:List HO):Nat->AV->(AV->Prop)->Prop
 |0,v,K=>match closed v with|true=>v.force K|false=>False
 |n+1,v,K=>match v with
  |.own l sz lo m=>match Xae l N with
   |true=>K (.own l sz lo m)
   |false=>Cm H l λob=>(match ob with
    |.arr _ BI es=>(match Ll sz BI&&Ll lo 0 with
     |true=>(m=es.length/\∀e∈es,closed e=true)/\K (.sl sz es)
     |false=>False)
    |_=>False)
  |.el l sz i o=>match Xae l N with|true=>K (.el l sz i o)|false=>False
  |.ptr l o=>match Xae l N with
   |true=>K (.ptr l o)
   |false=>Cm H l λob=>(match ob with
    |.cells cs=>GY (CQ N H n) cs λcs=>(match An cs with|true=>Kh cs o λcs=>K (.at_ cs)|false=>False)
    |_=>False)
  |.fn f cap=>GY (CQ N H n) cap λcs=>K (.fn f cs)
  |.mv f cap=>GY (CQ N H n) cap λcs=>K (.mv f cs)
  |.agg cs=>GY (CQ N H n) cs λcs=>K (.agg cs)
  |.tuple cs=>GY (CQ N H n) cs λcs=>K (.tuple cs)
  |.iface t x=>CQ N H n x λx=>K (.iface t x)
  |.om l=>(match Xae l N with
   |true=>K (.om l)
   |false=>Cm H l λob=>(match ob with|.map ks vs=>K (.mp ks vs)|_=>False))
  |v=>v.force K
def CT(N:Nat)(H:List HO):List HO->List HO->(List HO->Prop)->Prop
 |[],_,K=>K []
 |.dead::r0,.dead::r,K=>CT N H r0 r λr=>K (.dead::r)
 |.dead::_,_,_=>False
 |_::r0,.dead::r,K=>CT N H r0 r λr=>K (.dead::r)
 |_::r0,.cells cs::r,K=>GY (CQ N H 4) cs λcs=>CT N H r0 r λr=>K (.cells cs::r)
 |_::r0,.arr e sz es::r,K=>(∀e∈es,closed e=true)/\CT N H r0 r λr=>K (.arr e sz es::r)
 |_::r0,.map ks vs::r,K=>CT N H r0 r λr=>K (.map ks vs::r)
 |_,_,_=>False
def lE(T:List TY)(rs:List ResultVar)(H0:List HO)(R:AV->List HO->Prop)(E:List AV)(H:List HO):Prop:=
 Xn T E H rs λvs=>match vs with
  |[v]=>CQ H0.length H 4 v λv=>CT H0.length H H0 H λH1=>R v H1
  |vs=>CQ H0.length H 5 (.tuple vs) λv=>CT H0.length H H0 H λH1=>R v H1
def Zgp(H0:List HO)(X:AV->List HO->Prop)(x:AV)(H:List HO):Prop:=
 CQ H0.length H 4 x λx=>CT H0.length H H0 H λH1=>X x H1
section
variable {G:Cx}{C C':Ae}{w w':World}{mu:Mu}{H:List HO}{E:List AV}{a:Act}{T:List TY}{P:Program}
theorem FU{n:Nat}{fn:Func}{R:Ending->World->Prop}{tmps tm2:Array Value}(vV:G.ds=[]){u:FrameMode}(hu:u≠.run):∀(ms:List Nat){w:World}{a:Act},a.tmps=tm2->Az G C mu E H a w->BE C w G.fresh mu H (ms.map (λD=>(D,GL))++G.MJ)->
  (∀a' w',a'.tmps=tm2->Az G C mu E H a' w'->LeavesIn (fw none) n G.P fn tmps R [] u w')->LeavesInM (fw none) n G.P fn tmps R (ms.map mark) u w
 |[],w,a,ha,h,hx,hr=>by
  simp only[List.map_nil,LeavesInM];exact hr a w ha h
 |D::ms,w,a,ha,h,hx,hr=>by
  simp only[Z4,LeavesInM];obtain⟨h1,h2⟩:=h.S5 hx;refine⟨hu,.inl ⟨D,_,rfl,run_takeDeferred ?_,FU vV hu ms (by exact ha) h1 h2 hr⟩⟩
  exact(hx.marks (D,GL) (by simp)).at_
def bE(G:Cx)(C:Ae)(mu:Mu)(w:World)(N:Nat):Ae:=λb o=>C b o\/(b<w.heap.size/\G.fresh b/\∀l g,mu.below N l=some g->g.Aq≠some b)
theorem Pc(N:Nat):Ext C (bE G C mu w N) w w:=⟨λ_ _ h=>.inl h,λ_ _ _=>rfl⟩
theorem QH(h:Az G C mu E H a w)(N:Nat):∀(n:Nat){x:AV}{u:Value},Ah C w x mu u->∀{R:AV->Prop},CQ N H n x R->
  ∃r,R r/\Ah (bE G C mu w N) w r (mu.below N) u
 |0,x,u,hx,R,hk=>by
  unfold CQ at hk;split at hk
  ·rename_i hc;rw[AV.AJ]at hk;exact⟨_,hk,Ah.mono (Pc N) _ (AI.none _) (Bk _ hc hx)⟩
  ·exact hk.elim
 |n+1,x,u,hx,R,hk=>by
  have ih:∀{x:AV}{u:Value},Ah C w x mu u->∀{R:AV->Prop},CQ N H n x R->∃r,R r/\Ah (bE G C mu w N) w r (mu.below N) u:=λhx _ hk=>QH h N n hx hk
  have Ur:∀{l},Xae l N=true->l<N:=λhb=>VC hb
  have ZdR:∀{l},Xae l N=false->¬l<N:=λ{l} hb AP=>by
   have:Xae l N=true:=Nat.ble_eq_true_of_le AP;rw[hb]at this;cases this
  have FZ:∀{l g b},¬l<N->mu l=some g->g.Aq=some b->∀o,bE G C mu w N b o:=λ{l g b} hl hm hb o=>
   .inr ⟨(h.heap.fresh l g b hm hb).2.1,(h.heap.fresh l g b hm hb).1,λl' g' Bm MC=>hl (by
    obtain⟨k1,k2⟩:=BD Bm;have:=h.heap.sep l g b l' g' hm hb k2 MC;omega)⟩
  unfold CQ at hk;split at hk
  ·rename_i l sz lo m;split at hk
   ·rename_i hb;refine⟨_,hk,?_⟩;unfold Ah at*;obtain⟨x,h1,h2⟩:=hx;exact⟨x,by rw[CC (Ur hb)];exact h1,h2⟩
   ·rename_i hb;replace hk:=AL.1 hk;obtain⟨ob,Bh,hk⟩:=hk
    cases ob<;>first|exact hk.elim|skip
    rename_i e BI es;simp only at hk;split at hk
    ·rename_i hc;simp only[D0]at hc;obtain rfl:=Eg hc.1;obtain rfl:=Eg hc.2;obtain⟨⟨rfl,HC⟩,hk⟩:=hk;exact⟨_,hk,Ah.mono (Ext.refl _ _) _ (AI.none _) (KS h.heap (Pc N) (λg b o hm hg=>FZ (ZdR hb) hm hg o) Bh HC hx)⟩
    ·exact hk.elim
  ·rename_i l sz i o;split at hk
   ·rename_i hb;refine⟨_,hk,?_⟩;unfold Ah at*;obtain⟨b,n,c,h1,h2⟩:=hx;exact⟨b,n,c,by rw[CC (Ur hb)];exact h1,h2⟩
   ·exact hk.elim
  ·rename_i l o;split at hk
   ·rename_i hb;refine⟨_,hk,?_⟩;unfold Ah at*;obtain⟨b,h1,h2⟩:=hx;exact⟨b,by rw[CC (Ur hb)];exact h1,h2⟩
   ·rename_i hb;replace hk:=AL.1 hk;obtain⟨ob,Bh,hk⟩:=hk
    cases ob<;>first|exact hk.elim|skip
    rename_i cs;simp only at hk;unfold Ah at hx;obtain⟨b,hm,rfl⟩:=hx;obtain⟨b',cur,e,VD,Yy,hr,h1⟩:=h.heap.Cr l cs Bh;rw[hm]at VD;simp only[Ji.injEq,GO.CS.injEq]at VD;subst VD;obtain⟨rs,hk,Jh⟩:=EB (λhx _ hk=>ih hx hk) hr hk
    split at hk
    ·rename_i HC;rw[BF]at hk;have Jh:=A8 rs HC Jh;refine⟨_,hk,?_⟩;unfold Ah;refine⟨b,o,rfl,(B9 _ _).2 λi hi=>?_⟩
     have Px:=(AH _).1 Jh;have yP:o+i<rs.length:=by simp at hi;omega
     have Sg:o+i<cur.toList.length:=by rw[Px.1];exact yP
     refine⟨cur.toList[o+i],h1 _ (LA Sg),⟨FZ (ZdR hb) hm rfl _,?_⟩,?_⟩
     ·rw[cell_of_row w b _ cur e _ Yy];simp at Sg⊢
     ·have:=Px.2 (o+i) yP Sg;simp only[Xab];exact this
    ·exact hk.elim
  ·unfold Ah at hx;obtain⟨vs,rfl,hx⟩:=hx;obtain⟨rs,hk,hr⟩:=EB (λhx _ hk=>ih hx hk) hx hk
   exact⟨_,hk,by unfold Ah;exact⟨vs,rfl,hr⟩⟩
  ·unfold Ah at hx;obtain⟨vs,rfl,hx⟩:=hx;obtain⟨rs,hk,hr⟩:=EB (λhx _ hk=>ih hx hk) hx hk
   exact⟨_,hk,by unfold Ah;exact⟨vs,rfl,hr⟩⟩
  ·unfold Ah at hx;obtain⟨vs,rfl,hx⟩:=hx;obtain⟨rs,hk,hr⟩:=EB (λhx _ hk=>ih hx hk) hx hk
   exact⟨_,hk,by unfold Ah;exact⟨vs,rfl,hr⟩⟩
  ·unfold Ah at hx;obtain⟨vs,rfl,hx⟩:=hx;obtain⟨rs,hk,hr⟩:=EB (λhx _ hk=>ih hx hk) hx hk
   exact⟨_,hk,by unfold Ah;exact⟨vs,rfl,hr⟩⟩
  ·unfold Ah at hx;obtain⟨y,rfl,hx⟩:=hx;obtain⟨r,hk,hr⟩:=ih hx hk;exact⟨_,hk,by unfold Ah;exact⟨y,rfl,hr⟩⟩
  ·rename_i l;split at hk
   ·rename_i hb;refine⟨_,hk,?_⟩;unfold Ah at*;obtain⟨b,h1,h2⟩:=hx;exact⟨b,by rw[CC (Ur hb)];exact h1,h2⟩
   ·rename_i hb;replace hk:=AL.1 hk;obtain⟨ob,Bh,hk⟩:=hk
    cases ob<;>first|exact hk.elim|skip
    rename_i ks vs;simp only at hk;obtain⟨b,es,clock,h1,h2,h3⟩:=h.heap.maps l ks vs Bh;unfold Ah at hx;obtain⟨b',h4,h5⟩:=hx;rw[h1]at h4;simp only[Ji.injEq,GO.CS.injEq]at h4;subst h4;refine⟨_,hk,?_⟩;unfold Ah;exact .inr ⟨b,es,clock,h5,FZ (ZdR hb) h1 rfl 0,h2,(h3.2 _ _).1,(h3.2 _ _).2,h3.1⟩
  ·rename_i q1 q2 q3 q4 q4b q5 q6 q7 q8;rw[AV.AJ]at hk;refine⟨_,hk,?_⟩
   have HC:closed x=true:=by
    cases x with
    |own l sz lo m=>exact absurd rfl (q1 l sz lo m)
    |el l sz i o=>exact absurd rfl (q2 l sz i o)
    |ptr l o=>exact absurd rfl (q3 l o)
    |fn f cap=>exact absurd rfl (q4 f cap)
    |mv f cap=>exact absurd rfl (q4b f cap)
    |agg cs=>exact absurd rfl (q5 cs)
    |tuple cs=>exact absurd rfl (q6 cs)
    |iface t x=>exact absurd rfl (q7 t x)
    |om l=>exact absurd rfl (q8 l)
    |_=>rfl
   exact Ah.mono (Pc N) _ (AI.none _) (Bk _ HC hx)
theorem O4(h:Az G C mu E H a w)(N:Nat):∀(r0 r:List HO){k:Nat},(∀i,r[i]?=H[k+i]?)->k+r0.length<=N->∀{R:List HO->Prop},CT N H r0 r R->
  ∃H1,R H1/\H1.length=r0.length/\Cp H1=true/\(∀l:Nat,r0[l]?=some HO.dead->H1[l]?=some HO.dead)/\(∀l:Nat,H1[l]?=some HO.dead->mu (k+l)=none)/\
   (∀(l:Nat) cs,H1[l]?=some (.cells cs)->∃b cur e,mu (k+l)=some (.CS b)/\w.heap[b]?=some (.cells cur e (0,0))/\Ab (bE G C mu w N) w cs (mu.below N) cur.toList/\∀v∈cur.toList,v.oneCell'=true)/\
   (∀(l:Nat) e sz es,H1[l]?=some (.arr e sz es)->(∀a∈es,closed a=true)/\H[k+l]?=some (.arr e sz es))/\(∀(l:Nat) ks vs,H1[l]?=some (.map ks vs)->H[k+l]?=some (.map ks vs))
 |[],r,k,hr,hkN,R,hk=>by
  unfold CT at hk;exact⟨[],hk,rfl,rfl,λl h=>by simp at h,λl h=>by simp at h,λl cs h=>by simp at h,λl e sz es h=>by simp at h,λl ks vs h=>by simp at h⟩
 |o0::r0,r,k,hr,hkN,R,hk=>by
  have h0:=hr 0
  have step:∀(o:HO)(r':List HO),r=o::r'->∀i,r'[i]?=H[k+1+i]?:=λo r' e i=>by
   have:=hr (i+1);rw[e]at this;simp only[List.getElem?_cons_succ]at this;rw[this];congr 1;omega
  have dd:∀{r':List HO},r=.dead::r'->CT N H r0 r' (λr=>R (.dead::r))->∃H1,R H1/\H1.length=(o0::r0).length/\Cp H1=true/\(∀l:Nat,(o0::r0)[l]?=some HO.dead->H1[l]?=some HO.dead)/\(∀l:Nat,H1[l]?=some HO.dead->mu (k+l)=none)/\
   (∀(l:Nat) cs,H1[l]?=some (.cells cs)->∃b cur e,mu (k+l)=some (.CS b)/\w.heap[b]?=some (.cells cur e (0,0))/\Ab (bE G C mu w N) w cs (mu.below N) cur.toList/\∀v∈cur.toList,v.oneCell'=true)/\
   (∀(l:Nat) e sz es,H1[l]?=some (.arr e sz es)->(∀a∈es,closed a=true)/\H[k+l]?=some (.arr e sz es))/\(∀(l:Nat) ks vs,H1[l]?=some (.map ks vs)->H[k+l]?=some (.map ks vs)):=λ{r'} e hk=>by
   obtain⟨H1,q1,q2,q3,q4,q5,q6,q7,q8⟩:=O4 h N r0 r' (k:=k+1) (step _ _ e) (by simp at hkN;omega) hk
   refine⟨.dead::H1,q1,by simp[q2],by simpa[Cp]using q3,λl hl=>?_,λl hl=>?_,λl cs hl=>?_,λl e' sz es hl=>?_,λl ks vs hl=>?_⟩
   ·cases l with
    |zero=>rfl
    |succ l=>simpa using q4 l (by simpa using hl)
   ·cases l with
    |zero=>exact h.heap.dead k (by rw[<-XW k,<-h0,e];rfl)
    |succ l=>rw[show k+(l+1)=k+1+l by omega];exact q5 l (by simpa using hl)
   ·cases l with
    |zero=>simp at hl
    |succ l=>rw[show k+(l+1)=k+1+l by omega];exact q6 l cs (by simpa using hl)
   ·cases l with
    |zero=>simp at hl
    |succ l=>rw[show k+(l+1)=k+1+l by omega];exact q7 l e' sz es (by simpa using hl)
   ·cases l with
    |zero=>simp at hl
    |succ l=>rw[show k+(l+1)=k+1+l by omega];exact q8 l ks vs (by simpa using hl)
  have nd:∀{o1:HO}{H1:List HO},o0≠.dead->H1.length=r0.length->Cp (o1::H1)=true->o1≠.dead->(∀l:Nat,r0[l]?=some HO.dead->H1[l]?=some HO.dead)->(∀l:Nat,H1[l]?=some HO.dead->mu (k+1+l)=none)->
    (o1::H1).length=(o0::r0).length/\Cp (o1::H1)=true/\(∀l:Nat,(o0::r0)[l]?=some HO.dead->(o1::H1)[l]?=some HO.dead)/\(∀l:Nat,(o1::H1)[l]?=some HO.dead->mu (k+l)=none):=λ{o1 H1} Bq q2 q3 Zju q4 q5=>by
   refine⟨by simp[q2],q3,λl hl=>?_,λl hl=>?_⟩
   ·cases l with
    |zero=>simp at hl;exact absurd hl Bq
    |succ l=>simpa using q4 l (by simpa using hl)
   ·cases l with
    |zero=>simp at hl;exact absurd hl Zju
    |succ l=>rw[show k+(l+1)=k+1+l by omega];exact q5 l (by simpa using hl)
  have core:∀(Bq:o0≠.dead),(match r with
    |.dead::r=>CT N H r0 r λr=>R (.dead::r)
    |.cells cs::r=>GY (CQ N H 4) cs λcs=>CT N H r0 r λr=>R (.cells cs::r)
    |.arr e sz es::r=>(∀e∈es,closed e=true)/\CT N H r0 r λr=>R (.arr e sz es::r)
    |.map ks vs::r=>CT N H r0 r λr=>R (.map ks vs::r)
    |_=>False)->∃H1,R H1/\H1.length=(o0::r0).length/\Cp H1=true/\(∀l:Nat,(o0::r0)[l]?=some HO.dead->H1[l]?=some HO.dead)/\(∀l:Nat,H1[l]?=some HO.dead->mu (k+l)=none)/\
   (∀(l:Nat) cs,H1[l]?=some (.cells cs)->∃b cur e,mu (k+l)=some (.CS b)/\w.heap[b]?=some (.cells cur e (0,0))/\Ab (bE G C mu w N) w cs (mu.below N) cur.toList/\∀v∈cur.toList,v.oneCell'=true)/\
   (∀(l:Nat) e sz es,H1[l]?=some (.arr e sz es)->(∀a∈es,closed a=true)/\H[k+l]?=some (.arr e sz es))/\(∀(l:Nat) ks vs,H1[l]?=some (.map ks vs)->H[k+l]?=some (.map ks vs)):=λBq hk=>by
   cases r with
   |nil=>exact hk.elim
   |cons o r'=>
    cases o with
    |dead=>exact dd rfl hk
    |ghost _ _ _|inv _=>exact hk.elim
    |cells cs=>
     have Bh:H[k]?=some (.cells cs):=by rw[<-XW k,<-h0];rfl
     obtain⟨b,cur,e,m1,m2,m3,m4⟩:=h.heap.Cr k cs Bh;obtain⟨rs,hk,Jh⟩:=EB (C':=bE G C mu w N) (mu':=mu.below N) (λhx _ hk=>QH h N 4 hx hk) m3 hk
     obtain⟨H1,q1,q2,q3,q4,q5,q6,q7,q8⟩:=O4 h N r0 r' (k:=k+1) (step _ _ rfl) (by simp at hkN;omega) hk
     obtain⟨n1,n2,n3,n4⟩:=nd (o1:=.cells rs) Bq q2 q3 (by simp) q4 q5
     refine⟨.cells rs::H1,q1,n1,n2,n3,n4,λl cs' hl=>?_,λl e' sz es hl=>?_,λl ks vs hl=>?_⟩
     ·cases l with
      |zero=>
       simp only[Nw,Ji.injEq,HO.cells.injEq]at hl;subst hl;exact⟨b,cur,e,m1,m2,Jh,m4⟩
      |succ l=>rw[show k+(l+1)=k+1+l by omega];exact q6 l cs' (by simpa using hl)
     ·cases l with
      |zero=>simp at hl
      |succ l=>rw[show k+(l+1)=k+1+l by omega];exact q7 l e' sz es (by simpa using hl)
     ·cases l with
      |zero=>simp at hl
      |succ l=>rw[show k+(l+1)=k+1+l by omega];exact q8 l ks vs (by simpa using hl)
    |map ks vs=>
     have Bh:H[k]?=some (.map ks vs):=by rw[<-XW k,<-h0];rfl
     obtain⟨H1,q1,q2,q3,q4,q5,q6,q7,q8⟩:=O4 h N r0 r' (k:=k+1) (step _ _ rfl) (by simp at hkN;omega) hk
     obtain⟨n1,n2,n3,n4⟩:=nd (o1:=.map ks vs) Bq q2 q3 (by simp) q4 q5
     refine⟨.map ks vs::H1,q1,n1,n2,n3,n4,λl cs' hl=>?_,λl e' sz es hl=>?_,λl ks' BY hl=>?_⟩
     ·cases l with
      |zero=>simp at hl
      |succ l=>rw[show k+(l+1)=k+1+l by omega];exact q6 l cs' (by simpa using hl)
     ·cases l with
      |zero=>simp at hl
      |succ l=>rw[show k+(l+1)=k+1+l by omega];exact q7 l e' sz es (by simpa using hl)
     ·cases l with
      |zero=>
       simp only[Nw,Ji.injEq,HO.map.injEq]at hl;obtain⟨rfl,rfl⟩:=hl;exact Bh
      |succ l=>rw[show k+(l+1)=k+1+l by omega];exact q8 l ks' BY (by simpa using hl)
    |arr e sz es=>
     have Bh:H[k]?=some (.arr e sz es):=by rw[<-XW k,<-h0];rfl
     obtain⟨hc,hk⟩:=hk;obtain⟨H1,q1,q2,q3,q4,q5,q6,q7,q8⟩:=O4 h N r0 r' (k:=k+1) (step _ _ rfl) (by simp at hkN;omega) hk
     obtain⟨n1,n2,n3,n4⟩:=nd (o1:=.arr e sz es) Bq q2 q3 (by simp) q4 q5
     refine⟨.arr e sz es::H1,q1,n1,n2,n3,n4,λl cs' hl=>?_,λl e' BI Cg hl=>?_,λl ks vs hl=>?_⟩
     ·cases l with
      |zero=>simp at hl
      |succ l=>rw[show k+(l+1)=k+1+l by omega];exact q6 l cs' (by simpa using hl)
     ·cases l with
      |zero=>
       simp only[Nw,Ji.injEq,HO.arr.injEq]at hl;obtain⟨rfl,rfl,rfl⟩:=hl;exact⟨hc,Bh⟩
      |succ l=>rw[show k+(l+1)=k+1+l by omega];exact q7 l e' BI Cg (by simpa using hl)
     ·cases l with
      |zero=>simp at hl
      |succ l=>rw[show k+(l+1)=k+1+l by omega];exact q8 l ks vs (by simpa using hl)
  cases o0 with
  |dead=>
   cases r with
   |nil=>unfold CT at hk;exact hk.elim
   |cons o r'=>
    cases o with
    |dead=>unfold CT at hk;exact dd rfl hk
    |_=>unfold CT at hk;exact hk.elim
  |_=>
   refine core (by simp) ?_
   cases r with
   |nil=>unfold CT at hk;exact hk.elim
   |cons o r'=>
    cases o with
    |_=>unfold CT at hk;exact hk
end
section
variable {G:Cx}{C C':Ae}{w w':World}{mu:Mu}{H:List HO}{E:List AV}{a:Act}{T:List TY}{P:Program}
theorem VO{fr:Nat->Prop}(hr:Cp H=true):BE C w fr mu H []:=by
 refine⟨λl cs vs ms h=>?_,λl I h=>?_,λD h=>(by cases h),Rr,λl l' cs vs ms cs' BY DE h=>?_⟩
 ·rcases G7 hr h with k|k<;>cases k
 ·rcases G7 hr h with k|k<;>cases k
 ·rcases G7 hr h with k|k<;>cases k
theorem Zcf{C0:Ae}{fF:Mu}{w0:World}{H0:List HO}{gk:_}(hh:AU C0 w0 (λ_=>True) fF H0)
  (h:Az {P:=P,pM:=gk,C0:=C0,M0:=λb=>∃l g,fF l=some g/\g.Aq=some b,W0:=w0,Ds:=λl b=>fF l=some (.CS b),np:=H0.length} C mu E H a w)
  {x:AV} {v:Value} (hx:Ah C w x mu v) {R:AV->List HO->Prop} {n:Nat} (hk:CQ H0.length H n x λx=>CT H0.length H H0 H λH1=>R x H1):
  ∃r H1 C',R r H1/\Kl C0 fF w0 C' (mu.below H0.length) w/\AU C' w (λ_=>True) (mu.below H0.length) H1/\Ah C' w r (mu.below H0.length) v/\H1.length=H0.length/\Cp H1=true/\∀l:Nat,H0[l]?=some HO.dead->H1[l]?=some HO.dead:=by
 obtain⟨r,hk,hr⟩:=QH h H0.length n hx hk;obtain⟨H1,hR,q2,q3,q4,q5,q6,q7,q8⟩:=O4 h H0.length H0 H (k:=0) (λi=>by simp) (by simp) hk
 simp only[Nat.zero_add]at q5 q6 q7 q8;have AP:∀{l:Nat}{ob:HO},H1[l]?=some ob->l<H0.length:=λhl=>by rw[<-q2];exact(Fl.1 hl).1
 refine⟨r,H1,_,hR,⟨⟨h.Ax.os,h.Ax.tape,h.Ax.output,h.Ax.size,λb hb=>h.Ax.block b hb.1 λ⟨l,g,k1,k2⟩=>hb.2 l g k1 k2⟩,λb o hc=>.inl (h.c0 b o hc),λb o hc=>?_,λl b hl=>?_,λl g b hl hg=>?_⟩,
  ⟨λl g hl=>by rw[q2];exact(BD hl).1,λl g b hl hg=>⟨trivial,?_,λo hc=>?_⟩,λl g b l' g' hl hg Bm SD=>h.heap.sep l g b l' g' (BD hl).2 hg (BD Bm).2 SD,λl hl=>?_,λl cs hl=>?_,λl e sz es hl=>?_,λl ks vs hl=>?_⟩,hr,q2,q3,q4⟩
 ·rcases hc with hc|⟨k1,k2,k3⟩
  ·refine⟨h.lt b o hc,?_⟩;rcases h.c1 b o hc with k|k|k;·exact .inl k
   ·exact .inr (.inl k)
   ·exact .inr (.inr k)
  ·refine⟨k1,.inr ?_⟩;exact k2
 ·rw[CC (hh.Is l _ hl)];exact h.Ds.2 l b (hh.Is l _ hl) hl
 ·obtain⟨k1,k2⟩:=BD hl;rcases (h.heap.fresh l g b k2 hg).1 with k|k;·exact .inr k
  ·exact .inl k
 ·exact(h.heap.fresh l g b (BD hl).2 hg).2.1
 ·rcases hc with hc|⟨k1,k2,k3⟩;·exact(h.heap.fresh l g b (BD hl).2 hg).2.2 o hc
  ·exact k3 l g hl hg
 ·have:=q5 l hl;unfold Mu.below;split;·exact this
  ·rfl
 ·obtain⟨b,cur,e,k1,k2⟩:=q6 l cs hl;exact⟨b,cur,e,by rw[CC (AP hl)];exact k1,k2⟩
 ·obtain⟨k1,k2⟩:=q7 l e sz es hl;obtain⟨k3,k⟩:=h.heap.BM l e sz es k2;refine⟨k3,?_⟩;rw[CC (AP hl)];exact k.imp id λ⟨b,cap,cur,m1,m2,m3,m4,m5,m6,m7⟩=>⟨b,cap,cur,m1,m2,m3,m4,m5,Ab.mono (Pc _) _ (AI.none _) (A8 _ (Fs k1) m6),m7⟩
 ·have k1:=q8 l ks vs hl;obtain⟨b,es,cl,m1,m2,m3⟩:=h.heap.maps l ks vs k1;exact⟨b,es,cl,by rw[CC (AP hl)];exact m1,m2,m3⟩
theorem pB{C0:Ae}{fF:Mu}{w0:World}{H0:List HO}{gk:_}(hh:AU C0 w0 (λ_=>True) fF H0)
  (h:Az {P:=P,pM:=gk,C0:=C0,M0:=λb=>∃l g,fF l=some g/\g.Aq=some b,W0:=w0,Ds:=λl b=>fF l=some (.CS b),np:=H0.length} C mu E H a w)
  {x:AV} {v:Value} (hx:Ah C w x mu v) {R:AV->List HO->Prop} {n:Nat} (hk:CQ H0.length H n x λx=>CT H0.length H H0 H λH1=>R x H1):
  ∃r H1 C' mu',R r H1/\Kl C0 fF w0 C' mu' w/\AU C' w (λ_=>True) mu' H1/\Ah C' w r mu' v/\H1.length=H0.length/\Cp H1=true/\∀l:Nat,H0[l]?=some HO.dead->H1[l]?=some HO.dead:=by
 obtain⟨r,H1,C',q⟩:=Zcf hh h hx hk;exact⟨r,H1,C',_,q⟩
theorem F7.A3{f:FuncId}{fn:Func}{c:Code}{args:List AV}{H0:List HO}{R X:AV->List HO->Prop}(hf:P.funcs[f]?=some fn)(hb:fn.body=some c)(hT:BG P T)(hg:Cq P f=true)(Rk:Cp H0=true)
  (h:Ei fn.ntmps args λE=>Aa P c E H0 (lE T fn.results.toList H0 R) (λe E H=>match e with|.ret=>lE T fn.results.toList H0 R E H|.panic x=>Zgp H0 X x H|_=>False)):F7 P f args H0 R X:=by
 refine⟨hg,λC mu w vs AP hh hr=>(callsIn_wide (n:=0)).1 (callsIn_of_wp_marks (F:=Fence.wide) (n:=0) hf hb trivial ?_ rfl)⟩
 unfold Ei at h;rw[DS,Db]at h;let G:Cx:={P:=P,pM:=⟨AP,λb o hc ⟨l,g,hl,hg⟩=>(hh.fresh l g b hl hg).2.2 o hc⟩,C0:=C,M0:=λb=>∃l g,mu l=some g/\g.Aq=some b,W0:=w,Ds:=λl b=>mu l=some (.CS b),np:=H0.length}
 have Af:St G (args++N0 (fn.ntmps-args.length) (.raw undef)) H0 {tmps:=vs.toArray++QJ (fn.ntmps-vs.toArray.size) undef,defers:=[]} w:=by
  refine⟨C,mu,λ_ _ h=>h,λ_ _ h=>.inl h,AP.lt,⟨hh.Is,λl g b hl hg=>⟨.inr ⟨l,g,hl,hg⟩,(hh.fresh l g b hl hg).2⟩,hh.sep,hh.dead,hh.Cr,hh.BM,hh.maps⟩,?_,⟨[],rfl,VO Rk⟩,⟨rfl,rfl,rfl,PC _,λ_ _ _=>rfl⟩,PC _,λ_ _ _ h=>h⟩
  have hl:=Ap _ hr;have:=AF hr (B2 (C:=C) (w:=w) (mu:=mu) (fn.ntmps-args.length));simpa[hl]using this
 have fin:∀E H a w',lE T fn.results.toList H0 R E H->St G E H a w'->LeavesInM (fw none) 0 P fn a.tmps (λe w'=>∃r v H1 C' mu',((e=.returned v/\R r H1)\/(e=.panicked [{v,recovered:=false}]/\X r H1))/\Kl C mu w C' mu' w'/\
   AU C' w' (λ_=>True) mu' H1/\Ah C' w' r mu' v/\H1.length=H0.length/\Cp H1=true/\∀l:Nat,H0[l]?=some HO.dead->H1[l]?=some HO.dead) a.defers .returning w':=by
  rintro E H a w' hk ⟨C1,HQ,Af⟩;obtain⟨ms,d1,d2⟩:=Af.defers;rw[show a.defers=ms.map mark by simpa[G]using d1]
  refine FU (G:=G) rfl (by simp) ms rfl Af d2 λa' NR ha Gs=>?_
  unfold lE at hk;obtain⟨xs,us,hk,hr,A0⟩:=P6 (G:=G) hT Gs _ hk
  have hm:(fn.results.mapM (Zf a'.tmps)).run P NR=.ok us.toArray NR:=by
   rw[U9];simp only[Sem.run_map,A0,Qs,G]
  have Gt:(results fn a.tmps).run P NR=.ok (if h:us.toArray.size=1 then us.toArray[0]else .tuple us.toArray) NR:=by
   rw[<-ha,FR,Ul,hm];rfl
  unfold LeavesIn;split at hk
  ·rename_i x;unfold Ab at hr;obtain⟨u,Xc,rfl,hr,OZ⟩:=hr;unfold Ab at OZ;subst OZ;obtain⟨r,H1,C',mu',k1,k2⟩:=pB hh Gs hr hk;exact⟨u,by rw[Gt];simp,r,u,H1,C',mu',.inl ⟨rfl,k1⟩,k2⟩
  ·rename_i Bq
   have hl:us.length≠1:=λe=>by
    have:=Ap _ hr;rw[e]at this;cases xs with
    |nil=>simp at this
    |cons x xs=>
     cases xs with
     |nil=>exact Bq x rfl
     |cons _ _=>simp at this
   have hrt:Ah C1 NR (.tuple xs) HQ (.tuple us.toArray):=by unfold Ah;exact⟨us,rfl,hr⟩
   obtain⟨r,H1,C',mu',k1,k2⟩:=pB hh Gs hrt hk;exact⟨.tuple us.toArray,by rw[Gt];simp[hl],r,.tuple us.toArray,H1,C',mu',.inl ⟨rfl,k1⟩,k2⟩
 refine wpIn_mono (h.out 0 G _ w rfl Af) λe a w' q=>?_
 cases e with
 |normal|ret=>obtain⟨E,H,h1,h2⟩:=q;exact fin E H a w' h1 h2
 |exit id=>obtain⟨E,H,h1,h2⟩:=q;exact h1.elim
 |goto l|outgrown=>exact q.elim
 |panic ch=>
  obtain⟨x,v,E,H,C1,HQ,rfl,hk,Af,hx⟩:=q;obtain⟨ms,d1,d2⟩:=Af.defers;show LeavesInM (fw none) 0 P fn a.tmps _ a.defers (.panicking [{v,recovered:=false}]) w'
  rw[show a.defers=ms.map mark by simpa[G]using d1]
  have NC:Az G C1 HQ [x] H {tmps:=#[v],defers:=a.defers} w':=Af.frame (by unfold Ab;exact⟨v,[],rfl,hx,by unfold Ab;rfl⟩) rfl
  refine FU (G:=G) (tm2:=#[v]) rfl (by simp) ms (a:={tmps:=#[v],defers:=a.defers}) rfl NC d2 λa' NR ha Gs=>?_
  have Mw:Ah C1 NR x HQ v:=by
   have:=Gs.env;rw[ha]at this;unfold Ab at this;obtain⟨v',BY,he,k,_⟩:=this;simp only[List.cons.injEq]at he;obtain⟨rfl,_⟩:=he;exact k
  obtain⟨r,H1,C',mu',k1,k2⟩:=pB hh Gs Mw hk;exact⟨r,v,H1,C',mu',.inr ⟨rfl,k1⟩,k2⟩
def Iw:List HO->Nat->Bool
 |[],_=>false
 |.arr _ _ _::_,0=>true
 |_::_,0=>false
 |_::r,k+1=>Iw r k
mutual
def RS(H0:List HO):AV->AV
 |.own k sz lo n=>match Iw H0 k with|true=>.any|false=>.own k sz lo n
 |.el k sz i o=>match Iw H0 k with|true=>.any|false=>.el k sz i o
 |.fn f cap=>.fn f (Ko H0 cap)
 |.mv f cap=>.mv f (Ko H0 cap)
 |.iface t x=>.iface t (RS H0 x)
 |.agg cs=>.agg (Ko H0 cs)
 |.tuple vs=>.tuple (Ko H0 vs)
 |a=>a
def Ko(H0:List HO):List AV->List AV
 |[]=>[]
 |a::as=>RS H0 a::Ko H0 as
end
def Xj(H0:List HO):List AV->(List AV->Prop)->Prop
 |[],K=>K []
 |a::as,K=>(RS H0 a).force λb=>Xj H0 as λbs=>K (b::bs)
def GR(H0:List HO):HO->HO
 |.cells cs=>.cells (Ko H0 cs)
 |.ghost cs vs ms=>.ghost (Ko H0 cs) vs ms
 |o=>o
def jV(H0:List HO)(o:HO)(K:HO->Prop):Prop:=
 match o with
 |.cells cs=>Xj H0 cs λcs=>K (.cells cs)
 |.ghost cs vs ms=>Xj H0 cs λcs=>K (.ghost cs vs ms)
 |.arr e sz es=>K (.arr e sz es)
 |.dead=>K .dead
 |.inv I=>K (.inv I)
 |.map ks vs=>K (.map ks vs)
def BL(F:List HO):List HO->List HO->List HO->(List HO->Prop)->Prop
 |[],_,[],K=>K []
 |[],_,h::hs,K=>jV F h λh=>BL F [] [] hs λr=>K (h::r)
 |.dead::r0,_::r1,h::hs,K=>jV F h λh=>BL F r0 r1 hs λr=>K (h::r)
 |_::r0,o1::r1,_::hs,K=>BL F r0 r1 hs λr=>K (o1::r)
 |_,_,_,_=>False
def Ew(F:List HO):List HO->List HO->Prop->Prop
 |[],_,Q=>Q
 |.dead::r0,_::hs,Q=>Ew F r0 hs Q
 |.cells cs::r0,h::hs,Q=>h=.cells cs/\Bo F cs=true/\Ew F r0 hs Q
 |.arr e sz es::r0,h::hs,Q=>h=.arr e sz es/\(∀e∈es,closed e=true)/\Ew F r0 hs Q
 |.map ks vs::r0,h::hs,Q=>h=.map ks vs/\Ew F r0 hs Q
 |_,_,_=>False
end
end Go.Av
namespace Go.Av
open Go.RowKit (Below)
section
variable {G:Cx}{C C':Ae}{w w':World}{mu mu':Mu}{H H0:List HO}{E:List AV}{a:Act}{T:List TY}{P:Program}
def Mu.mix(mu mu':Mu)(H0:List HO):Mu:=λl=>if AR H0 l=true then mu' l else mu l
theorem GF{l:Nat}(h:AR H0 l=true):mu.mix mu' H0 l=mu' l:=by simp[Mu.mix,h]
theorem GD{l:Nat}(h:AR H0 l=false):mu.mix mu' H0 l=mu l:=by simp[Mu.mix,h]
section
variable {cD:Mu}(hx:Ext C C' w w')(hb:∀l b,mu l=some (.CS b)->cD l=some (.CS b))(ha:∀l x,Iw H0 l=false->mu l=some (.arr x)->cD l=some (.arr x))
include hx hb ha
mutual
theorem jT:∀(x:AV){v:Value},Ah C w x mu v->Ah C' w' (RS H0 x) cD v
 |.any,_,_=>by unfold RS Ah;trivial
 |.int _ _,_,h|.bool _,_,h|.lit _,_,h|.str _,_,h=>by unfold RS;unfold Ah at*;exact h
 |.sl _ _,_,h|.at_ _,_,h=>by unfold RS;exact Ah.mono hx _ (AI.none _) (Bk _ rfl h)
 |.raw _,_,h=>by unfold RS;unfold Ah at*;exact h
 |.mp _ _,_,h=>by unfold RS;exact Ah.mono hx _ (AI.none _) (Bk _ rfl h)
 |.om k,_,h=>by
  unfold RS;unfold Ah at*
  obtain⟨b,h1,h2⟩:=h;exact⟨b,hb _ _ h1,h2⟩
 |.ptr k o,_,h=>by
  unfold RS;unfold Ah at*
  obtain⟨b,h1,h2⟩:=h;exact⟨b,hb _ _ h1,h2⟩
 |.el k sz i o,_,h=>by
  unfold RS;split;·unfold Ah;trivial
  ·rename_i hk;unfold Ah at*;obtain⟨b,n,c,h1,h2⟩:=h;exact⟨b,n,c,ha _ _ hk h1,h2⟩
 |.own k sz lo n,_,h=>by
  unfold RS;split;·unfold Ah;trivial
  ·rename_i hk;unfold Ah at*;obtain⟨x,h1,h2⟩:=h;exact⟨x,ha _ _ hk h1,h2⟩
 |.fn f cap,_,h=>by
  unfold RS;unfold Ah at*
  obtain⟨vs,h1,h2⟩:=h;exact⟨vs,h1,IY cap h2⟩
 |.mv f cap,_,h=>by
  unfold RS;unfold Ah at*
  obtain⟨vs,h1,h2⟩:=h;exact⟨vs,h1,IY cap h2⟩
 |.iface t x,_,h=>by
  unfold RS;unfold Ah at*
  obtain⟨y,h1,h2⟩:=h;exact⟨y,h1,jT x h2⟩
 |.agg cs,_,h=>by
  unfold RS;unfold Ah at*
  obtain⟨vs,h1,h2⟩:=h;exact⟨vs,h1,IY cs h2⟩
 |.tuple cs,_,h=>by
  unfold RS;unfold Ah at*
  obtain⟨vs,h1,h2⟩:=h;exact⟨vs,h1,IY cs h2⟩
theorem IY:∀(xs:List AV){vs:List Value},Ab C w xs mu vs->Ab C' w' (Ko H0 xs) cD vs
 |[],_,h=>by unfold Ko;unfold Ab at*;exact h
 |x::xs,_,h=>by
  unfold Ko;unfold Ab at*
  obtain⟨v,BY,h1,h2,h3⟩:=h;exact⟨v,BY,h1,jT x h2,IY xs h3⟩
end
end
theorem Hj:∀(as:List AV)(K:List AV->Prop),Xj H0 as K↔K (Ko H0 as)
 |[],_=>by simp[Xj,Ko]
 |a::as,K=>by simp[Xj,Ko,AV.AJ,Hj as]
theorem LM(o:HO)(K:HO->Prop):jV H0 o K↔K (GR H0 o):=by
 cases o<;>simp[jV,GR,Hj]
theorem EU{F:List HO}:∀{H0 H1 H:List HO}{K:List HO->Prop},Cp H0=true->BL F H0 H1 H K->∃H',K H'/\H'.length=H.length/\(∀i,AR H0 i=true->H'[i]?=H1[i]?)/\∀i,AR H0 i=false->H'[i]?=(H[i]?).map (GR F)
 |[],H1,[],K,_,h=>by
  unfold BL at h;exact⟨[],h,rfl,λi hi=>by simp[AR]at hi,λi _=>by simp⟩
 |[],H1,o::hs,K,hr,h=>by
  unfold BL at h;rw[LM]at h;obtain⟨H',k1,k2,k3,k4⟩:=EU (H0:=[]) rfl h;refine⟨_,k1,by simp[k2],λi hi=>by simp[AR]at hi,λi _=>?_⟩
  cases i with
  |zero=>simp
  |succ i=>simpa using k4 i rfl
 |.dead::r0,[],H,K,_,h=>by cases H<;>(unfold BL at h;exact h.elim)
 |.dead::r0,_::_,[],K,_,h=>by unfold BL at h;exact h.elim
 |.dead::r0,o1::r1,o::hs,K,hr,h=>by
  unfold BL at h;rw[LM]at h;obtain⟨H',k1,k2,k3,k4⟩:=EU (H0:=r0) (by simpa[Cp]using hr) h
  refine⟨_,k1,by simp[k2],λi hi=>?_,λi hi=>?_⟩
  ·cases i with
   |zero=>simp[AR]at hi
   |succ i=>simpa using k3 i hi
  ·cases i with
   |zero=>simp
   |succ i=>simpa using k4 i hi
 |.cells cs::r0,[],H,K,_,h=>by cases H<;>(unfold BL at h;exact h.elim)
 |.cells cs::r0,_::_,[],K,_,h=>by unfold BL at h;exact h.elim
 |.cells cs::r0,o1::r1,o::hs,K,hr,h=>by
  unfold BL at h;obtain⟨H',k1,k2,k3,k4⟩:=EU (H0:=r0) (by simpa[Cp]using hr) h
  refine⟨_,k1,by simp[k2],λi hi=>?_,λi hi=>?_⟩
  ·cases i with
   |zero=>simp
   |succ i=>simpa using k3 i hi
  ·cases i with
   |zero=>simp[AR]at hi
   |succ i=>simpa using k4 i hi
 |.arr e sz es::r0,[],H,K,_,h=>by cases H<;>(unfold BL at h;exact h.elim)
 |.arr e sz es::r0,_::_,[],K,_,h=>by unfold BL at h;exact h.elim
 |.arr e sz es::r0,o1::r1,o::hs,K,hr,h=>by
  unfold BL at h;obtain⟨H',k1,k2,k3,k4⟩:=EU (H0:=r0) (by simpa[Cp]using hr) h
  refine⟨_,k1,by simp[k2],λi hi=>?_,λi hi=>?_⟩
  ·cases i with
   |zero=>simp
   |succ i=>simpa using k3 i hi
  ·cases i with
   |zero=>simp[AR]at hi
   |succ i=>simpa using k4 i hi
 |.ghost _ _ _::r0,H1,H,K,hr,h|.inv _::r0,H1,H,K,hr,h=>by cases hr
 |.map _ _::r0,[],H,K,_,h=>by cases H<;>(unfold BL at h;exact h.elim)
 |.map _ _::r0,_::_,[],K,_,h=>by unfold BL at h;exact h.elim
 |.map _ _::r0,o1::r1,o::hs,K,hr,h=>by
  unfold BL at h;obtain⟨H',k1,k2,k3,k4⟩:=EU (H0:=r0) (by simpa[Cp]using hr) h
  refine⟨_,k1,by simp[k2],λi hi=>?_,λi hi=>?_⟩
  ·cases i with
   |zero=>simp
   |succ i=>simpa using k3 i hi
  ·cases i with
   |zero=>simp[AR]at hi
   |succ i=>simpa using k4 i hi
theorem Ev{F:List HO}:∀{H0 H:List HO}{Q:Prop},Ew F H0 H Q->Cp H0=true/\H0.length<=H.length/\(∀(i:Nat) ob,H0[i]?=some ob->ob.real=true->H[i]?=some ob)/\
   (∀(i:Nat) cs,H0[i]?=some (.cells cs)->Bo F cs=true)/\(∀(i:Nat) e sz es,H0[i]?=some (.arr e sz es)->∀a∈es,closed a=true)
 |[],H,Q,h=>⟨rfl,by simp,λi ob hi=>by simp at hi,λi cs hi=>by simp at hi,λi e sz es hi=>by simp at hi⟩
 |.dead::r0,[],Q,h=>by unfold Ew at h;exact h.elim
 |.dead::r0,o::hs,Q,h=>by
  unfold Ew at h;obtain⟨k1,k2,k3,k4,k5⟩:=Ev h;refine⟨by simpa[Cp]using k1,by simpa using k2,λi ob hi ho=>?_,λi cs hi=>?_,λi e sz es hi=>?_⟩
  ·cases i with
   |zero=>simp at hi;subst hi;cases ho
   |succ i=>simpa using k3 i ob (by simpa using hi) ho
  ·cases i with
   |zero=>simp at hi
   |succ i=>exact k4 i cs (by simpa using hi)
  ·cases i with
   |zero=>simp at hi
   |succ i=>exact k5 i e sz es (by simpa using hi)
 |.cells cs::r0,[],Q,h=>by unfold Ew at h;exact h.elim
 |.cells Fy::r0,o::hs,Q,h=>by
  unfold Ew at h;obtain⟨rfl,hw,h⟩:=h;obtain⟨k1,k2,k3,k4,k5⟩:=Ev h;refine⟨by simpa[Cp]using k1,by simpa using k2,λi ob hi ho=>?_,λi cs hi=>?_,λi e sz es hi=>?_⟩
  ·cases i with
   |zero=>simpa using hi
   |succ i=>simpa using k3 i ob (by simpa using hi) ho
  ·cases i with
   |zero=>simp at hi;subst hi;exact hw
   |succ i=>exact k4 i cs (by simpa using hi)
  ·cases i with
   |zero=>simp at hi
   |succ i=>exact k5 i e sz es (by simpa using hi)
 |.arr e sz es::r0,[],Q,h=>by unfold Ew at h;exact h.elim
 |.arr e0 sz0 rE::r0,o::hs,Q,h=>by
  unfold Ew at h;obtain⟨rfl,hw,h⟩:=h;obtain⟨k1,k2,k3,k4,k5⟩:=Ev h;refine⟨by simpa[Cp]using k1,by simpa using k2,λi ob hi ho=>?_,λi cs hi=>?_,λi e sz es hi=>?_⟩
  ·cases i with
   |zero=>simpa using hi
   |succ i=>simpa using k3 i ob (by simpa using hi) ho
  ·cases i with
   |zero=>simp at hi
   |succ i=>exact k4 i cs (by simpa using hi)
  ·cases i with
   |zero=>simp at hi;obtain⟨rfl,rfl,rfl⟩:=hi;exact hw
   |succ i=>exact k5 i e sz es (by simpa using hi)
 |.ghost _ _ _::r0,H,Q,h|.inv _::r0,H,Q,h=>by cases H<;>(unfold Ew at h;exact h.elim)
 |.map _ _::r0,[],Q,h=>by unfold Ew at h;exact h.elim
 |.map ks0 qT::r0,o::hs,Q,h=>by
  unfold Ew at h;obtain⟨rfl,h⟩:=h;obtain⟨k1,k2,k3,k4,k5⟩:=Ev h;refine⟨by simpa[Cp]using k1,by simpa using k2,λi ob hi ho=>?_,λi cs hi=>?_,λi e sz es hi=>?_⟩
  ·cases i with
   |zero=>simpa using hi
   |succ i=>simpa using k3 i ob (by simpa using hi) ho
  ·cases i with
   |zero=>simp at hi
   |succ i=>exact k4 i cs (by simpa using hi)
  ·cases i with
   |zero=>simp at hi
   |succ i=>exact k5 i e sz es (by simpa using hi)
theorem XG{HS H1 H':List HO}(Af:Az G C mu E H a w)(hh:Ew H0 H0 H True)(hp:Kl C (mu.only H0) w C' mu' w')(pI:AU C' w' (λ_=>True) mu' H1)(hlen:H1.length=H0.length)(vI:Cp H1=true)(Qt:∀l:Nat,H0[l]?=some HO.dead->H1[l]?=some HO.dead)
  (Bm:H'.length=H.length) (h1:∀i,AR H0 i=true->H'[i]?=H1[i]?) (h2:∀i,AR H0 i=false->H'[i]?=(H[i]?).map (GR HS)) (ha:∀l x,Iw HS l=false->mu l=some (.arr x)->(mu.mix mu' H0) l=some (.arr x)):
  Az G C' (mu.mix mu' H0) (Ko HS E) H' a w'/\AI mu' (mu.mix mu' H0):=by
 obtain⟨MP,hle,Kf,XV,HC⟩:=Ev hh;have hx:Ext C C' w w':=Ext.of_block (hp.sub) λb o hc=>hp.same.block b ⟨Af.lt b o hc,λl g hl hg=>(Af.heap.fresh l g b (B8 hl).2 hg).2.2 o hc⟩
 have Zdv:AI mu' (mu.mix mu' H0):=λl g hl=>by
  have AP:l<H0.length:=by rw[<-hlen];exact pI.Is l g hl
  cases hr:AR H0 l with
  |true=>rw[GF hr];exact hl
  |false=>
   exfalso
   have:H0[l]?=some HO.dead:=by
    have ho:H0[l]?=some H0[l]:=KT AP;rcases G7 MP ho with k|k;·rw[Cw.2 ⟨_,ho,k⟩]at hr;cases hr
    ·rw[ho,k]
   have:=pI.dead l (Qt l this);rw[hl]at this;cases this
 have hb:∀l b,mu l=some (.CS b)->(mu.mix mu' H0) l=some (.CS b):=λl b hl=>by
  cases hr:AR H0 l with
  |true=>rw[GF hr];exact hp.Ds l b (by rw[Fa hr];exact hl)
  |false=>rw[GD hr];exact hl
 have vN:=λ(xs:List AV) {vs:List Value} (h:Ab C w xs mu vs)=>IY (H0:=HS) hx hb ha xs h
 -- blocks of the others
 have oth:∀{l g b},AR H0 l=false->mu l=some g->g.Aq=some b->w'.heap[b]?=w.heap[b]?/\∀o,¬C' b o:=λ{l g b} hr hl hg=>by
  obtain⟨k1,k2,k3⟩:=Af.heap.fresh l g b hl hg
  have Pz:∀l' g',mu.only H0 l'=some g'->g'.Aq≠some b:=λl' g' Bm SD=>by
   obtain⟨m1,m2⟩:=B8 Bm;have:=Af.heap.sep l g b l' g' hl hg m2 SD;subst this;rw[hr]at m1;cases m1
  refine⟨hp.same.block b ⟨k2,Pz⟩,λo hc=>?_⟩
  rcases (hp.new b o hc).2 with k|k|⟨l',g',k,k'⟩;·exact k3 o k
  ·omega
  ·exact Pz l' g' k k'
 have FY:∀{l g b},(mu.mix mu' H0) l=some g->g.Aq=some b->(∃l' g',mu l'=some g'/\g'.Aq=some b)\/w.heap.size<=b:=λ{l g b} hl hg=>by
  cases hr:AR H0 l with
  |true=>
   rw[GF hr]at hl;rcases hp.ob l g b hl hg with⟨l',g',k,k'⟩|k;·exact .inl ⟨l',g',(B8 k).2,k'⟩
   ·exact .inr k
  |false=>rw[GD hr]at hl;exact .inl ⟨l,g,hl,hg⟩
 have Zgu:∀{l g b},(mu.mix mu' H0) l=some g->g.Aq=some b->b<w'.heap.size/\∀o,¬C' b o:=λ{l g b} hl hg=>by
  cases hr:AR H0 l with
  |true=>rw[GF hr]at hl;exact(pI.fresh l g b hl hg).2
  |false=>
   rw[GD hr]at hl;exact⟨Kr (Af.heap.fresh l g b hl hg).2.1 hp.same.size,(oth hr hl hg).2⟩
 have vW:∀{l g b l' g'},AR H0 l=true->AR H0 l'=false->mu' l=some g->g.Aq=some b->mu l'=some g'->g'.Aq=some b->False:=λ{l g b l' g'} hr OZ hl hg Bm SD=>by
  rcases hp.ob l g b hl hg with⟨l2,g2,k,k'⟩|k
  ·obtain⟨m1,m2⟩:=B8 k;have:=Af.heap.sep l' g' b l2 g2 Bm SD m2 k';subst this;rw[OZ]at m1;cases m1
  ·have:=(Af.heap.fresh l' g' b Bm SD).2.1;omega
 have hold:∀{i:Nat}{ob:HO},AR H0 i=false->H'[i]?=some ob->∃o,H[i]?=some o/\ob=GR HS o:=λ{i ob} hr hi=>by
  rw[h2 i hr]at hi;cases ho:H[i]? with
  |none=>simp[ho]at hi
  |some o=>exact⟨o,rfl,by simpa[ho]using hi.symm⟩
 refine⟨⟨λb o hc=>hp.sub b o (Af.c0 b o hc),λb o hc=>?_,λb o hc=>(hp.new b o hc).1,⟨λl g hl=>?_,λl g b hl hg=>?_,λl g b l' g' hl hg Bm SD=>?_,λl hl=>?_,λl cs hl=>?_,λl e sz es hl=>?_,λl ks vs hl=>?_⟩,vN E Af.env,?_,
  ⟨hp.same.os.trans Af.Ax.os,hp.same.tape.trans Af.Ax.tape,hp.same.output.trans Af.Ax.output,K2 Af.Ax.size hp.same.size,λk hk hn=>?_⟩,by rw[Bm];exact Af.Ds.1,λl b hn hl=>hb l b (Af.Ds.2 l b hn hl)⟩,Zdv⟩
 ·rcases (hp.new b o hc).2 with k|k|⟨l,g,k,k'⟩;·exact Af.c1 b o k
  ·exact .inr (.inl (K2 Af.Ax.size k))
  ·exact .inr (Af.heap.fresh l g b (B8 k).2 k').1
 ·rw[Bm];cases hr:AR H0 l with
  |true=>rw[GF hr]at hl;have:=pI.Is l g hl;omega
  |false=>rw[GD hr]at hl;exact Af.heap.Is l g hl
 ·refine⟨?_,Zgu hl hg⟩;rcases FY hl hg with⟨l',g',k,k'⟩|k;·exact(Af.heap.fresh l' g' b k k').1
  ·exact .inl (K2 Af.Ax.size k)
 ·cases hr:AR H0 l with
  |true=>
   rw[GF hr]at hl;cases OZ:AR H0 l' with
   |true=>rw[GF OZ]at Bm;exact pI.sep l g b l' g' hl hg Bm SD
   |false=>rw[GD OZ]at Bm;exact(vW hr OZ hl hg Bm SD).elim
  |false=>
   rw[GD hr]at hl;cases OZ:AR H0 l' with
   |true=>rw[GF OZ]at Bm;exact(vW OZ hr Bm SD hl hg).elim
   |false=>rw[GD OZ]at Bm;exact Af.heap.sep l g b l' g' hl hg Bm SD
 ·cases hr:AR H0 l with
  |true=>rw[GF hr];exact pI.dead l (by rw[<-h1 l hr];exact hl)
  |false=>
   rw[GD hr];obtain⟨o,ho,he⟩:=hold hr hl;cases o with
   |dead=>exact Af.heap.dead l ho
   |_=>simp[GR]at he
 ·cases hr:AR H0 l with
  |true=>
   obtain⟨b,cur,e,k1,k2,k3,k4⟩:=pI.Cr l cs (by rw[<-h1 l hr];exact hl)
   exact⟨b,cur,e,by rw[GF hr];exact k1,k2,Ab.mono (Ext.refl _ _) _ Zdv k3,k4⟩
  |false=>
   obtain⟨o,ho,he⟩:=hold hr hl;cases o with
   |cells Fy=>
    simp only[GR,HO.cells.injEq]at he;subst he;obtain⟨b,cur,e,k1,k2,k3,k4⟩:=Af.heap.Cr l Fy ho;exact⟨b,cur,e,by rw[GD hr];exact k1,by rw[(oth hr k1 rfl).1];exact k2,vN _ k3,k4⟩
   |_=>simp[GR]at he
 ·have Yy:AI (Bc mu) (Bc (mu.mix mu' H0)):=D2 hb;have Zke:AI (Bc mu') (Bc (mu.mix mu' H0)):=D2 λl b h=>Zdv l _ h
  cases hr:AR H0 l with
  |true=>
   obtain⟨k0,k⟩:=pI.BM l e sz es (by rw[<-h1 l hr];exact hl)
   refine⟨k0,?_⟩;rw[GF hr];exact k.imp id λ⟨b,cap,cur,k1,k2,k3,k4,k5,k6,k7⟩=>⟨b,cap,cur,k1,k2,k3,k4,k5,Ab.mono (Ext.refl _ _) _ Zke k6,k7⟩
  |false=>
   obtain⟨o,ho,he⟩:=hold hr hl;cases o with
   |arr e0 s0 rE=>
    simp only[GR,HO.arr.injEq]at he;obtain⟨rfl,rfl,rfl⟩:=he;obtain⟨k0,k⟩:=Af.heap.BM l _ _ _ ho;refine⟨k0,?_⟩;rw[GD hr];exact k.imp id λ⟨b,cap,cur,k1,k2,k3,k4,k5,k6,k7⟩=>⟨b,cap,cur,k1,k2.of_eq (by rw[(oth hr k1 rfl).1]),k3,k4,k5,Ab.mono hx _ Yy k6,k7⟩
   |_=>simp[GR]at he
 ·cases hr:AR H0 l with
  |true=>
   obtain⟨b,es,cl,k1,k2,k3⟩:=pI.maps l ks vs (by rw[<-h1 l hr];exact hl)
   exact⟨b,es,cl,by rw[GF hr];exact k1,k2,k3⟩
  |false=>
   obtain⟨o,ho,he⟩:=hold hr hl;cases o with
   |map ks0 qT=>
    simp only[GR,HO.map.injEq]at he;obtain⟨rfl,rfl⟩:=he;obtain⟨b,es,cl,k1,k2,k3⟩:=Af.heap.maps l _ _ ho;exact⟨b,es,cl,by rw[GD hr];exact k1,by rw[(oth hr k1 rfl).1];exact k2,k3⟩
   |_=>simp[GR]at he
 ·obtain⟨ms,d1,d2⟩:=Af.defers
  have hgi:∀{i:Nat}{ob:HO},H'[i]?=some ob->ob.real=false->ob≠.dead->∃o,H[i]?=some o/\ob=GR HS o:=λ{i ob} hi yG Qp=>by
   cases hr:AR H0 i with
   |false=>exact hold hr hi
   |true=>
    rw[h1 i hr]at hi;rcases G7 vI hi with k|k;·rw[k]at yG;cases yG
    ·exact absurd k Qp
  refine⟨ms,d1,d2.step ⟨hp.same.os,hp.same.tape,hp.same.output,hp.same.size,λb Yy=>hp.same.block b ⟨Yy.1,λl g hl hg=>Yy.2 l g (B8 hl).2 hg⟩⟩ (λl g b hl hg=>FY hl hg) (λb o hc=>?_) (λl cs vs ms hl=>?_) (λl I hl=>?_)⟩
  ·rcases (hp.new b o hc).2 with k|k|⟨l,g,k,k'⟩;·exact .inl k
   ·exact .inr (.inl k)
   ·exact .inr (.inr ⟨l,g,(B8 k).2,k'⟩)
  ·obtain⟨o,ho,he⟩:=hgi hl rfl (by simp)
   cases o with
   |ghost Fy qT ms0=>
    simp only[GR,HO.ghost.injEq]at he;obtain⟨rfl,rfl,rfl⟩:=he;exact⟨Fy,ho,λh=>vN Fy h⟩
   |_=>simp[GR]at he
  ·obtain⟨o,ho,he⟩:=hgi hl rfl (by simp)
   cases o with
   |inv I0=>simp only[GR,HO.inv.injEq]at he;subst he;exact ho
   |_=>simp[GR]at he
 ·rw[hp.same.block k ⟨Kr hk Af.Ax.size,λl g hl hg=>?_⟩]
  ·exact Af.Ax.block k hk hn
  ·rcases (Af.heap.fresh l g k (B8 hl).2 hg).1 with q|q;·omega
   ·exact hn q
theorem merged{H1 H':List HO}(Af:Az G C mu E H a w)(hh:Ew H0 H0 H True)(hp:Kl C (mu.only H0) w C' mu' w')(pI:AU C' w' (λ_=>True) mu' H1)(hlen:H1.length=H0.length)(vI:Cp H1=true)(Qt:∀l:Nat,H0[l]?=some HO.dead->H1[l]?=some HO.dead)
  (Bm:H'.length=H.length) (h1:∀i,AR H0 i=true->H'[i]?=H1[i]?) (h2:∀i,AR H0 i=false->H'[i]?=(H[i]?).map (GR H0)):
  Az G C' (mu.mix mu' H0) (Ko H0 E) H' a w'/\AI mu' (mu.mix mu' H0):=by
 obtain⟨MP,hle,Kf,XV,HC⟩:=Ev hh
 have Zkj:∀l x,Iw H0 l=false->mu l=some (.arr x)->AR H0 l=false:=λl x hl hm=>by
  cases hr:AR H0 l with
  |false=>rfl
  |true=>
   exfalso;obtain⟨ob,ho,yG⟩:=Cw.1 hr;cases ob with
   |cells cs=>
    obtain⟨b,cur,e,k1,_⟩:=Af.heap.Cr l cs (Kf l _ ho rfl);rw[hm]at k1;cases k1
   |map ks vs=>
    obtain⟨b,es,cl,k1,_⟩:=Af.heap.maps l ks vs (Kf l _ ho rfl);rw[hm]at k1;cases k1
   |arr e sz es=>
    have key:∀{H:List HO}{l:Nat},H[l]?=some (.arr e sz es)->Iw H l=true:=by
     intro H;induction H with
     |nil=>intro l h;simp at h
     |cons o r ih=>
      intro l h;cases l with
      |zero=>simp at h;subst h;rfl
      |succ l=>
       have:=ih (l:=l) (by simpa using h)
       cases o<;>exact this
    rw[key ho]at hl;cases hl
   |_=>cases yG
 have ha:∀l x,Iw H0 l=false->mu l=some (.arr x)->(mu.mix mu' H0) l=some (.arr x):=λl x hl hm=>by
  rw[GD (Zkj l x hl hm)];exact hm
 exact XG Af hh hp pI hlen vI Qt Bm h1 h2 ha
theorem Tz(Af:Az G C mu E H a w)(hh:Ew H0 H0 H True):AU C w (λ_=>True) (mu.only H0) H0:=by
 obtain⟨MP,hle,Kf,XV,HC⟩:=Ev hh;refine⟨λl g hl=>?_,λl g b hl hg=>⟨trivial,(Af.heap.fresh l g b (B8 hl).2 hg).2⟩,λl g b l' g' hl hg Bm SD=>Af.heap.sep l g b l' g' (B8 hl).2 hg (B8 Bm).2 SD,λl hl=>?_,λl cs hl=>?_,λl e sz es hl=>?_,λl ks vs hl=>?_⟩
 ·obtain⟨ob,ho,_⟩:=Cw.1 (B8 hl).1;exact(Fl.1 ho).1
 ·cases hr:AR H0 l with
  |false=>simp[Mu.only,hr]
  |true=>
   obtain⟨ob,ho,yG⟩:=Cw.1 hr;rw[hl]at ho;simp only[Ji.injEq]at ho;subst ho;cases yG
 ·have hr:AR H0 l=true:=Cw.2 ⟨_,hl,rfl⟩;obtain⟨b,cur,e,k1,k2,k3,k4⟩:=Af.heap.Cr l cs (Kf l _ hl rfl);exact⟨b,cur,e,by rw[Fa hr];exact k1,k2,BZ cs (XV l cs hl) k3,k4⟩
 ·have hr:AR H0 l=true:=Cw.2 ⟨_,hl,rfl⟩;obtain⟨k0,k⟩:=Af.heap.BM l e sz es (Kf l _ hl rfl);refine⟨k0,?_⟩;rw[Fa hr];exact k.imp id λ⟨b,cap,cur,k1,k2,k3,k4,k5,k6,k7⟩=>⟨b,cap,cur,k1,k2,k3,k4,k5,Ab.mono (Ext.refl _ _) _ (AI.none _) (A8 _ (Fs (HC l e sz es hl)) k6),k7⟩
 ·have hr:AR H0 l=true:=Cw.2 ⟨_,hl,rfl⟩;obtain⟨b,es,cl,k1,k2,k3⟩:=Af.heap.maps l ks vs (Kf l _ hl rfl);exact⟨b,es,cl,by rw[Fa hr];exact k1,k2,k3⟩
theorem Aj.tT{f:FuncId}{args:List AV}{R X':AV->List HO->Prop}{K:AV->KK}{X:XX}(h:F7 P f args H0 R X')(hw:Bo H0 args=true)(hh:Ew H0 H0 H True)
  (hk:∀r H1,R r H1->Xj H0 E λE'=>BL H0 H0 H1 H λH'=>K r E' H') (hx:∀r H1,X' r H1->Xj H0 E λE'=>BL H0 H0 H1 H λH'=>X (.panic r) E' H'):Aj P f args E H K X:=by
 refine⟨h.Eh,λG C mu a w vs hP Af hr=>(h.out C (mu.only H0) w vs Af.qI (Tz Af hh) (BZ args hw hr)).mono λe w' hp=>?_⟩
 obtain⟨r,v,H1,C',mu',Zjr,GK,Z7,Fi,hlen,Rk,lM⟩:=hp;have MP:=(Ev hh).1;rcases Zjr with⟨rfl,hR⟩|⟨rfl,hR⟩
 ·have hk:=hk r H1 hR;rw[Hj]at hk;obtain⟨H',k1,k2,k3,k4⟩:=EU MP hk;obtain⟨m1,m2⟩:=merged Af hh GK Z7 hlen Rk lM k2 k3 k4;exact .inl ⟨r,v,_,_,C',_,rfl,k1,m1,Ah.mono (Ext.refl _ _) _ m2 Fi⟩
 ·have hk:=hx r H1 hR;rw[Hj]at hk;obtain⟨H',k1,k2,k3,k4⟩:=EU MP hk;obtain⟨m1,m2⟩:=merged Af hh GK Z7 hlen Rk lM k2 k3 k4;exact .inr ⟨r,v,_,_,C',_,rfl,k1,m1,Ah.mono (Ext.refl _ _) _ m2 Fi⟩
theorem Aa.freeze(l:Nat){c:Code}{K:KK}{X:XX}(h:pR l E H λE H=>Aa P c E H K X):Aa P c E H K X:=by
 refine⟨λn G a w hP Af=>?_⟩
 obtain⟨C,mu,Af⟩:=Af;obtain⟨E',H',C',mu',hk,CL⟩:=Af.freeze h;exact hk.out n G a w hP ⟨C',mu',CL⟩
theorem Aj.freeze(l:Nat){f:FuncId}{args:List AV}{K:AV->KK}{X:XX}(h:pR l (args++E) H λE' H'=>Aj P f (E'.take args.length) (E'.drop args.length) H' K X)(hg:Cq P f=true):Aj P f args E H K X:=by
 refine⟨hg,λG C mu a w vs hP Af hr=>?_⟩
 have NC:Az G C mu (args++E) H {tmps:=(vs++a.tmps.toList).toArray,defers:=a.defers} w:=Af.frame (by simpa using AF hr Af.env) rfl
 obtain⟨E',H',C',mu',hk,CL⟩:=NC.freeze h;have aG:=CL.env;have hl:vs.length=args.length:=Ap _ hr
 have h1:Ab C' w (E'.take args.length) mu' vs:=by
  have:=aG.take args.length;simpa[<-hl]using this
 have h2:Ab C' w (E'.drop args.length) mu' a.tmps.toList:=by
  have:=aG.drop args.length;simpa[<-hl]using this
 exact hk.out G C' mu' a w vs hP (CL.frame h2 rfl) h1
theorem Yp(H:List HO)(ob:HO):Al H H.length (H++[ob]) ob:=by
 refine⟨by simp,by simp,by simp,λi hi=>?_,.inl (by simp)⟩
 rcases Xag i H.length with h|h;·rw[Kx h]
 ·rw[Ql (by simp;omega),Ql h]
theorem Aa.Qc(t:Nat)(e:TypeId)(sz:Nat){c:Code}{K:KK}{X:XX}(he:E[t]?=some (.raw (.slice none 0 0)))(h:Aa P c (E.set t (.own H.length sz 0 0)) (H++[HO.arr e sz []]) K X):Aa P c E H K X:=by
 refine⟨λn G a w hP Af=>?_⟩
 obtain⟨C,mu,Af⟩:=Af;obtain⟨h1,h2⟩:=Af.Qc (Yp H (HO.arr e sz []));refine h.out n G a w hP ⟨C,_,h1.frame ?_ rfl⟩;obtain⟨v,hv,hr⟩:=Ii h1.env he;unfold Ah at hr;subst hr;exact IC h1.env hv h2
theorem Az.GX(Af:Az G C mu E H a w)(l i:Nat)(e:TypeId)(sz:Nat){cs:List AV}(hl:H[l]?=some (.cells cs))(he:cs[i]?=some (.raw (.slice none 0 0))):
  Az G C (mu.set H.length (some (.arr (.slice none 0 0)))) E ((H++[HO.arr e sz []]).set l (HO.cells (cs.set i (.own H.length sz 0 0)))) a w/\AI mu (mu.set H.length (some (.arr (.slice none 0 0)))):=by
 obtain⟨h1,h2⟩:=Af.Qc (Yp H (HO.arr e sz []));have AP:l<H.length:=(Fl.1 hl).1;have O0:(H++[HO.arr e sz []])[l]?=some (.cells cs):=by rw[Kx AP];exact hl
 have XZ:l<(H++[HO.arr e sz []]).length:=by simp;omega
 refine⟨⟨h1.c0,h1.c1,h1.lt,⟨λi g hi=>by simpa using h1.heap.Is i g hi,h1.heap.fresh,h1.heap.sep,λk hk=>?_,λk cs' hk=>?_,λk e' BI Cg hk=>?_,λk ks vs hk=>?_⟩,h1.env,?_,h1.Ax,by simpa using h1.Ds.1,h1.Ds.2⟩,OJ _ ?_⟩
 ·by_cases NU:k=l;·subst NU;rw[Li XZ]at hk;cases hk
  ·rw[Ff (λe=>NU e.symm)]at hk;exact h1.heap.dead k hk
 ·by_cases NU:k=l
  ·subst NU;rw[Li XZ]at hk;simp only[Ji.injEq,HO.cells.injEq]at hk;subst hk;obtain⟨b,cur,e',k1,k2,k3,k4⟩:=h1.heap.Cr k cs O0;refine⟨b,cur,e',k1,k2,?_,k4⟩;obtain⟨v,hv,hr⟩:=Ii k3 he;unfold Ah at hr;subst hr;exact IC k3 hv h2
  ·rw[Ff (λe=>NU e.symm)]at hk;exact h1.heap.Cr k cs' hk
 ·by_cases NU:k=l;·subst NU;rw[Li XZ]at hk;cases hk
  ·rw[Ff (λe=>NU e.symm)]at hk;exact h1.heap.BM k e' BI Cg hk
 ·by_cases NU:k=l;·subst NU;rw[Li XZ]at hk;cases hk
  ·rw[Ff (λe=>NU e.symm)]at hk;exact h1.heap.maps k ks vs hk
 ·obtain⟨ms,d1,d2⟩:=h1.defers
  have hg:∀{k:Nat}{ob:HO},((H++[HO.arr e sz []]).set l (.cells (cs.set i (.own H.length sz 0 0))))[k]?=some ob->ob.real=false->(H++[HO.arr e sz []])[k]?=some ob:=λ{k ob} hk yG=>by
   by_cases NU:k=l
   ·subst NU;rw[Li XZ]at hk;simp only[Ji.injEq]at hk;subst hk;cases yG
   ·rwa [Ff (λe=>NU e.symm)]at hk
  exact⟨ms,d1,⟨λk cs' vs gm hk=>d2.Bl k cs' vs gm (hg hk rfl),λk I hk=>by
   obtain⟨h0,Sw,Sr,q1,q2,q3,q4⟩:=d2.Hz k I (hg hk rfl);exact⟨h0,Sw,Sr,q1,q2,q3,λk' cs' vs gm HB=>q4 k' cs' vs gm (hg HB rfl)⟩,d2.marks,d2.nd,λk k' cs' vs gm cs2 zA gm2 hk HB=>d2.sep k k' cs' vs gm cs2 zA gm2 (hg hk rfl) (hg HB rfl)⟩⟩
 ·cases hm:mu H.length with
  |none=>rfl
  |some g=>exact absurd (Af.heap.Is _ _ hm) (Xaa _)
theorem Aa.GX(l i:Nat)(e:TypeId)(sz:Nat){cs:List AV}{c:Code}{K:KK}{X:XX}(hl:H[l]?=some (.cells cs))(he:cs[i]?=some (.raw (.slice none 0 0)))
  (h:Aa P c E ((H++[HO.arr e sz []]).set l (HO.cells (cs.set i (.own H.length sz 0 0)))) K X):Aa P c E H K X:=by
 refine⟨λn G a w hP Af=>?_⟩
 obtain⟨C,mu,Af⟩:=Af;exact h.out n G a w hP ⟨C,_,(Af.GX l i e sz hl he).1⟩
theorem Aj.GX(l i:Nat)(e:TypeId)(sz:Nat){cs:List AV}{f:FuncId}{args:List AV}{K:AV->KK}{X:XX}(hl:H[l]?=some (.cells cs))(he:cs[i]?=some (.raw (.slice none 0 0)))
  (h:Aj P f args E ((H++[HO.arr e sz []]).set l (HO.cells (cs.set i (.own H.length sz 0 0)))) K X):Aj P f args E H K X:=by
 refine⟨h.Eh,λG C mu a w vs hP Af hr=>?_⟩
 obtain⟨h1,h2⟩:=Af.GX l i e sz hl he;exact h.out G C _ a w vs hP h1 (Ab.mono (Ext.refl _ _) _ h2 hr)
end
end Go.Av
namespace Go.Av
open Go.RowKit (Below)
section
variable {G:Cx}{C C':Ae}{w w':World}{mu mu':Mu}{H R:List HO}{E:List AV}{a:Act}{T:List TY}{P:Program}
open Classical in
theorem Aa.Aw{b:Code}{ι:Type}(tm:ι->List AV)(hp:ι->List HO)(pre:ι->Prop)(μ:ι->Nat){K:KK}{X:XX}(ok:∀i,pre i->Bo (hp i) (tm i)=true/\Dl (hp i) (hp i) True)
  (h0:∃i,oM E (tm i) (H=hp i/\pre i))
  (len:∀i,(hp i).length=H.length)
  (step:∀i,pre i->Aa P b (tm i) (hp i) (λE' H'=>∃j,oM E' (tm j) (Rl H' (hp j) (pre j/\μ j<μ i))) X):Aa P (.loop b) E H K X:=by
 refine⟨λn G a w hP Af=>?_⟩
 obtain⟨i0,h0⟩:=h0;obtain⟨hle,hH,hp0⟩:=OQ _ _ _ h0;have Ui:St G (tm i0) (hp i0) a w:=by rw[<-hH];exact Af.le hle
 have hnp:G.np<=H.length:=by obtain⟨C,mu,h⟩:=Af;exact h.Ds.1
 refine wpIn_loop (λa w=>∃i,pre i/\St G (tm i) (hp i) a w) (λa w=>if h:∃n i,μ i=n/\pre i/\St G (tm i) (hp i) a w then Classical.choose (NJ _ h)else 0) ⟨i0,hp0,Ui⟩ ?_
 rintro a w ⟨i,hi,Af⟩;have hex:∃n i,μ i=n/\pre i/\St G (tm i) (hp i) a w:=⟨_,i,rfl,hi,Af⟩;obtain⟨⟨i',Fk,Zjp,Zgi⟩,ZmJ⟩:=Classical.choose_spec (NJ _ hex);refine wpIn_mono ((step i' Zjp).out n G a w hP Zgi) λe a' w' hq=>?_
 cases e with
 |normal=>
  obtain⟨E',H',⟨j,hj⟩,CL⟩:=hq;obtain⟨ZdA,hj⟩:=OQ _ _ _ hj;obtain⟨⟨hpj,AP⟩,R,rfl⟩:=L4 hj;obtain⟨C,mu,CL⟩:=CL.le ZdA;have hd:St G (tm j) (hp j) a' w':=⟨C,_,CL.drop (ok j hpj).1 (ok j hpj).2 (by rw[len];exact hnp)⟩
  refine⟨⟨j,hpj,hd⟩,?_⟩;have ZgT:∃n i,μ i=n/\pre i/\St G (tm i) (hp i) a' w':=⟨_,j,rfl,hpj,hd⟩;rw[dif_pos hex,dif_pos ZgT];have h2:=(Classical.choose_spec (NJ _ ZgT)).2 (μ j) ⟨j,rfl,hpj,hd⟩;omega
 |exit id|ret|panic c|goto l|outgrown=>exact hq
end
open Go.RowKit (Below ok_one shut_bool okWide_bool_mk)
open Go.ChangeShapes Go.WideShapes
def Zem(P:Program)(t:TypeId)(x:AV):Prop:=(AT P t=true->∃c,x=.agg c)/\(AT P t=false->x.cells=[x])
def MU(P:Program):Nat->TypeId->List AV->Prop
 |0,_,_=>False
 |n+1,t,cs=>match P.underlying t with
  |some .bool=>∃b,cs=[.bool b]
  |some (.int k)=>∃i,cs=[.int k i]/\DJ k i
  |some .string=>∃l,cs=[.str l]/\l.length<=reachBytes
  |some (.slice e)=>∃es:List AV,cs=[.sl (P.cellsOf e) es]/\es.length<=maxLen/\∀x∈es,MU P n e x.cells/\Zem P e x
  |some (.struct fs)=>∃parts:List (List AV),cs=parts.flatten/\parts.length=fs.size/\∀(i:Nat) f p,fs[i]?=some f->parts[i]?=some p->MU P n f.type p
  |_=>False
def Jr(P:Program)(m:Nat)(t:TypeId)(x:AV):Prop:=MU P m t x.cells/\Zem P t x
def Iy(P:Program)(m:Nat):List TypeId->List AV->Prop
 |[],[]=>True
 |t::ts,x::xs=>Jr P m t x/\Iy P m ts xs
 |_,_=>False
def Pg(P:Program):Nat->List Field->Nat->Bool
 |off,[],zH=>Ll off zH
 |off,f::r,zH=>Ll f.offset off&&Pg P (off+P.cellsOf f.type) r zH
def MG(P:Program):Nat->TypeId->Bool
 |0,_=>false
 |n+1,t=>match P.underlying t with
  |some .bool|some (.int _)|some .string=>true
  |some (.slice e)=>MG P n e&&Nat.ble 1 (P.cellsOf e)
  |some (.struct fs)=>Pg P 0 fs.toList (P.cellsOf t)&&fs.toList.all (λf=>MG P n f.type)
  |_=>false
section
variable {P:Program}{W:World}{H:Type}{enc:TypeId×Value->H}{base:Nat}{held:Bool}
def oH(P:Program)(e:TypeId)(c:List AV):AV:=if AT P e=true then .agg c else c.headD .any
theorem Xf{n:Nat}{t:TypeId}{c:List AV}(h:MU P n t c)(ha:AT P t=false):∃x,c=[x]/\x.cells=[x]:=by
 cases n with
 |zero=>exact h.elim
 |succ n=>
  unfold MU at h;unfold AT at ha;split at h<;>rename_i hu
  ·obtain⟨b,rfl⟩:=h;exact⟨_,rfl,rfl⟩
  ·obtain⟨b,rfl,_⟩:=h;exact⟨_,rfl,rfl⟩
  ·obtain⟨b,rfl,_⟩:=h;exact⟨_,rfl,rfl⟩
  ·obtain⟨b,rfl,_⟩:=h;exact⟨_,rfl,rfl⟩
  ·rw[hu]at ha;cases ha
  ·exact h.elim
theorem Nv{n:Nat}{e:TypeId}{c:List AV}(h:MU P n e c):(oH P e c).cells=c:=by
 unfold oH;split;·rfl
 ·rename_i ha;obtain⟨x,rfl,hx⟩:=Xf h (by simpa using ha)
  exact hx
theorem Wh{Q:Field->List AV->Prop}:∀(fs:List Field)(off zH:Nat)(vs:List Value),Pg P off fs zH=true->vs.length=zH->
  (∀(i:Nat) f,fs[i]?=some f->∃c,Q f c/\Ab (Dh W) W c Mu.none ((vs.drop f.offset).take (P.cellsOf f.type))/\∀v∈(vs.drop f.offset).take (P.cellsOf f.type),v.oneCell'=true)->
  ∃parts:List (List AV),parts.length=fs.length/\(∀(i:Nat) f p,fs[i]?=some f->parts[i]?=some p->Q f p)/\Ab (Dh W) W parts.flatten Mu.none (vs.drop off)/\∀v∈vs.drop off,v.oneCell'=true
 |[],off,zH,vs,hc,hl,h=>by
  unfold Pg at hc;have:=Eg hc;have hd:vs.drop off=[]:=List.drop_eq_nil_of_le (by omega)
  exact⟨[],rfl,λi f p hf=>by simp at hf,by rw[hd];simp[Ab],by rw[hd];simp⟩
 |f::r,off,zH,vs,hc,hl,h=>by
  unfold Pg at hc;simp only[D0]at hc;have ho:=Eg hc.1;obtain⟨parts,k1,k2,k3,k4⟩:=Wh r (off+P.cellsOf f.type) zH vs hc.2 hl (λi g hg=>h (i+1) g (by simpa using hg))
  obtain⟨c,q,hr,h1⟩:=h 0 f rfl;rw[ho]at hr h1
  have hs:vs.drop off=(vs.drop off).take (P.cellsOf f.type)++vs.drop (off+P.cellsOf f.type):=by
   rw[<-List.drop_drop,List.take_append_drop]
  refine⟨c::parts,by simp[k1],λi g p hg hp=>?_,?_,?_⟩
  ·cases i with
   |zero=>simp at hg hp;subst hg;subst hp;exact q
   |succ i=>exact k2 i g p (by simpa using hg) (by simpa using hp)
  ·rw[hs,List.flatten_cons];exact AF hr k3
  ·intro v hv;rw[hs,Rj]at hv;rcases hv with hv|hv;·exact h1 v hv
   ·exact k4 v hv
theorem mC{a:Addr}{v:Value}(h:W.cell? a=some v):a.spot=none/\a.block<W.heap.size:=by
 unfold World.cell? at h;split at h
 ·rename_i c e f hb;refine⟨?_,(CM.1 hb).1⟩;split at h;·cases h
  ·rename_i hs;simpa using hs
 ·cases h
def Lgt(l:List Nat):Prop:=∀n∈l,n<=reachBytes
theorem KJ{e:TypeId}:∀{ds:List (DataW H)} {d:DataW H},d∈ds->∀n∈d.weights P e,n∈DataW.weightsAll P e ds
 |d::ds,x,h,n,hn=>by
  unfold DataW.weightsAll;rcases KF.1 h with rfl|h;·exact Mx _ hn
  ·exact NF _ (KJ h n hn)
theorem J9:∀{ts:List TypeId}{ds:List (DataW H)} {i:Nat} {t:TypeId} {d:DataW H},ts[i]?=some t->ds[i]?=some d->∀n∈d.weights P t,n∈DataW.weightsEach P ts ds
 |[],_,_,_,_,h,_,_,_|_::_,[],_,_,_,_,h,_,_=>by simp at h
 |t::ts,d::ds,0,_,_,h1,h2,n,hn=>by
  simp at h1 h2;subst h1;subst h2
  unfold DataW.weightsEach;exact Mx _ hn
 |t::ts,d::ds,i+1,_,_,h1,h2,n,hn=>by
  unfold DataW.weightsEach;exact NF _ (J9 (i:=i) (by simpa using h1) (by simpa using h2) n hn)
theorem dA:∀(m:Nat)(t:TypeId),MG P m t=true->∀(fuel:Nat)(vs:List Value)(x:DataW H×List MemPlace),DataW.trod enc P W base (λ_=>true) held fuel t vs=some x->Lgt (x.1.weights P t)->
  ∃cs,MU P m t cs/\Ab (Dh W) W cs Mu.none vs/\∀v∈vs,v.oneCell'=true
 |0,t,hs,_,_,_,_,_=>by cases hs
 |m+1,t,hs,fuel,vs,x,h,vC=>by
  unfold MG at hs;unfold MU;split at hs<;>rename_i hu
  ·obtain⟨b,rfl,_⟩:=DataW.trod_bool hu h;exact⟨[.bool b],by first|exact⟨b,rfl⟩|(rw[hu];exact⟨b,rfl⟩),by simp[Ab,Ah],by simp[RR]⟩
  ·rename_i kk;obtain⟨b,rfl,_,hw⟩:=DataW.trod_int hu h;have hk:DJ kk b:=by unfold DJ;simpa[Lit.wf]using hw
   exact⟨[.int kk b],by first|exact⟨b,rfl,hk⟩|(rw[hu];exact⟨b,rfl,hk⟩),by simp[Ab,Ah,hk],by simp[RR]⟩
  ·obtain⟨s,rfl,rfl,hw⟩:=DataW.trod_string hu h;have hl:s.data.toList.length<=reachBytes:=vC _ (by unfold DataW.weights;simp)
   refine⟨[.str s.data.toList],by first|exact⟨_,rfl,hl⟩|(rw[hu];exact⟨_,rfl,hl⟩),?_,by simp[RR]⟩
   unfold Ab;refine⟨_,[],rfl,?_,by unfold Ab;rfl⟩
   unfold Ah;refine⟨by simp,?_⟩
   unfold reachBytes at hl;omega
  ·rename_i e;simp only[D0]at hs;have EI:=VC hs.2;rcases Deep.open_slice hu h with⟨rfl,_⟩|⟨a,len,cap,mm,n,D,Pl,rfl,hb,hl,hm,yL,Z5,vT⟩
   ·refine⟨[.sl (P.cellsOf e) []],by first|exact⟨[],rfl,by simp,λx hx=>by simp at hx⟩|(rw[hu];exact⟨[],rfl,by simp,λx hx=>by simp at hx⟩),?_,by simp[RR]⟩
    simp[Ab,Ah]
   ·simp only[if_true]at yL;rw[yL]at vT;clear yL
    have hx:∀i,i<len->∃c,MU P m e c/\∃cs',W.cells? base (a.add (i*P.cellsOf e)) (P.cellsOf e)=some cs'/\Ab (Dh W) W c Mu.none cs'/\∀v∈cs',v.oneCell'=true:=λi hi=>by
     obtain⟨cs',h1,h2⟩:=vT i (by omega)
     obtain⟨c,k1,k2,k3⟩:=dA m e hs.1 _ _ _ h2 λn hn=>vC n (by
      rw[Z5];unfold DataW.weights;simp only[hu];refine F0 _ (Mx _ (KJ (PR.2 ⟨i,X8.2 hi,rfl⟩) n hn)))
     exact⟨c,k1,cs',h1,k2,k3⟩
    obtain⟨f,hf⟩:=Deep.choose_lt (α:=List AV) hx;let es:List AV:=(Xad len).map λi=>oH P e (f i)
    have hlen:es.length=len:=by simp[es]
    have yE:∀x∈es,MU P m e x.cells/\Zem P e x:=λx hx=>by
     simp only[es,PR,X8]at hx;obtain⟨i,hi,rfl⟩:=hx;refine⟨by rw[Nv (hf i hi).1];exact(hf i hi).1,λha=>⟨f i,by simp[oH,ha]⟩,λha=>?_⟩
     obtain⟨y,hy,hy2⟩:=Xf (hf i hi).1 ha;simp only[oH,ha,hy];exact hy2
    refine⟨[.sl (P.cellsOf e) es],by first|exact⟨es,rfl,by rw[hlen];omega,yE⟩|(rw[hu];exact⟨es,rfl,by rw[hlen];omega,yE⟩),?_,by simp[RR]⟩
    unfold Ab;refine⟨_,[],rfl,?_,by unfold Ab;rfl⟩
    unfold Ah;rcases Nat.eq_zero_or_pos cap with hc|hc
    ·subst hc;obtain rfl:len=0:=by omega
     exact .inl ⟨⟨_,rfl⟩,by simp[es]⟩
    ·obtain⟨Fy,h0,_⟩:=vT 0 hc;obtain⟨_,Yv,h0⟩:=Xaf h0;have h00:=h0 0 (by omega)
     rw[KT (by omega)]at h00
     simp only[Nat.zero_mul]at h00
     have lD:a.spot=none:=by
      have:=(mC h00).1;unfold Addr.add at this;simpa using this
     obtain⟨b,o,sp⟩:=a;simp only at lD;subst lD;refine .inr ⟨b,o,cap,by rw[hlen],by rw[hlen];exact hl,by unfold maxLen at hm;omega,(DQ es o).2 λi hi=>?_⟩
     rw[hlen]at hi;obtain⟨hti,cs',h1,h2,h3⟩:=hf i hi;obtain⟨_,O0,h1⟩:=Xaf h1;have hei:es[i]'(by rw[hlen];exact hi)=oH P e (f i):=by simp[es]
     rw[hei];have Px:=(AH _).1 h2;refine⟨by rw[Nv hti,<-Px.1];exact O0,?_⟩
     rw[Nv hti];refine(B9 _ _).2 λj hj=>?_
     have gH:j<cs'.length:=by omega
     have hcj:=h1 j (by omega)
     rw[KT gH,add_lit,add_lit]at hcj;exact⟨cs'[j],h3 _ (LA _),⟨(mC hcj).2,hcj⟩,Px.2 j hj gH⟩
  ·rename_i fs;simp only[D0]at hs;obtain⟨xs,n,_,Z5,hl,_,hf⟩:=DataW.trod_struct hu h
   obtain⟨parts,k1,k2,k3,k4⟩:=Wh (P:=P) (W:=W) (Q:=λf c=>MU P m f.type c) fs.toList 0 _ vs hs.1 hl (λi f lK=>by
    have hfa:fs[i]?=some f:=by simpa using lK
    have hfx:=hf i f hfa;have AP:i<fs.size:=(CM.1 hfa).1;have hsf:MG P m f.type=true:=ND.1 hs.2 f (X2 lK);obtain⟨xsl,_⟩:∃y,xs[i]?=some y:=⟨_,KT (by omega)⟩
    cases hxi:xs[i]? with
    |none=>rw[List.getElem?_eq_none_iff]at hxi;omega
    |some y=>
     rw[hxi]at hfx
     obtain⟨c,q1,q2,q3⟩:=dA m f.type hsf n _ y hfx λk hk=>vC k (by
      rw[Z5];unfold DataW.weights;simp only[hu];exact J9 (i:=i) (t:=f.type) (d:=y.1) (by simp[lK]) (by simp[hxi]) k hk)
     exact⟨c,q1,q2,q3⟩)
   refine⟨parts.flatten,by first|exact⟨parts,rfl,by simpa using k1,λi f p hf hp=>k2 i f p (by simpa using hf) hp⟩|(rw[hu];exact⟨parts,rfl,by simpa using k1,λi f p hf hp=>k2 i f p (by simpa using hf) hp⟩),by simpa using k3,by simpa using k4⟩
  ·cases hs
theorem Vr{r:Reach}{t:TypeId}{v:Value}(h:Sk P W r base t v)(ha:AT P t=false)(hs:∃m,MG P m t=true):v.cells=#[v]:=by
 obtain⟨m,hs⟩:=hs;cases m with
 |zero=>cases hs
 |succ m=>
  unfold MG at hs;unfold AT at ha;unfold Sk at h;split at hs<;>rename_i hu
  ·rw[hu]at h;simp only[Cell.okWide,Cell.ok,hu]at h
   cases v<;>simp_all[Value.cells]
  ·rw[hu]at h;simp only[Cell.okWide,Cell.ok,hu]at h
   cases v<;>simp_all[Value.cells]
  ·rw[hu]at h;simp only[Cell.okWide,Cell.ok,hu]at h
   cases v<;>simp_all[Value.cells]
  ·rw[hu]at h;simp only[Cell.okWide,Cell.ok,hu]at h
   cases v<;>simp_all[Value.cells]
  ·rw[hu]at ha;cases ha
  ·cases hs
theorem Zeh{m:Nat}{r:Reach}{b0:Nat}{t:TypeId}{v:Value}{d:DataW H}{ps:List MemPlace}(hs:MG P m t=true)(hv:Sk P W r b0 t v)(hd:DataW.Trod enc P W base (λ_=>true) held t v d ps)(vC:Lgt (d.weights P t)):
  ∃x,Jr P m t x/\Ah (Dh W) W x Mu.none v:=by
 obtain⟨fuel,hd⟩:=hd;obtain⟨cs,h1,h2,h3⟩:=dA m t hs fuel _ _ hd vC;cases ha:AT P t with
 |false=>
  obtain⟨x,rfl,hx⟩:=Xf h1 ha;rw[Vr hv ha ⟨m,hs⟩]at h2;refine⟨x,⟨by rw[hx];exact h1,⟨(λh=>by rw[ha]at h;cases h),λ_=>hx⟩⟩,?_⟩
  simp only[Ab]at h2;obtain⟨u,us,he,hr,lC⟩:=h2;simp only[List.cons.injEq]at he;rw[he.1];exact hr
 |true=>
  refine⟨.agg cs,⟨h1,⟨λ_=>⟨cs,rfl⟩,(λh=>by rw[ha]at h;cases h)⟩⟩,?_⟩
  unfold Ah
  have hva:∃c,v=.agg c:=by
   unfold Sk at hv;unfold AT at ha;split at hv;·obtain⟨c,hc,_⟩:=hv;exact⟨c,hc⟩
   ·obtain⟨c,hc,_⟩:=hv;exact⟨c,hc⟩
   ·rename_i yK yJ;split at ha;·rename_i q hq;exact absurd hq (yK q)
    ·rename_i q1 q2 hq;exact absurd hq (yJ q1 q2)
    ·cases ha
  obtain⟨c,rfl⟩:=hva;exact⟨c.toList,by simp,by simpa[Value.cells]using h2⟩
theorem mG{m:Nat}{r:Reach}{b0:Nat}:∀{ts:List TypeId}{vs:List Value}{ds:List (DataW H)} {ps:List MemPlace},ts.all (MG P m)=true->(∀(j:Nat) t v,ts[j]?=some t->vs[j]?=some v->Sk P W r b0 t v)->
  DataW.TrodAll enc P W base (λ_=>true) held ts vs ds ps->Lgt (DataW.weightsEach P ts ds)->∃xs,Iy P m ts xs/\Ab (Dh W) W xs Mu.none vs
 |[],[],ds,ps,_,_,_,_=>⟨[],trivial,by unfold Ab;rfl⟩
 |[],v::vs,ds,ps,_,_,h,_|t::ts,[],ds,ps,_,_,h,_=>by cases ds<;>exact h.elim
 |t::ts,v::vs,[],ps,_,_,h,_=>h.elim
 |t::ts,v::vs,d::ds,ps,hs,hv,h,vC=>by
  simp only[Z8,D0]at hs;obtain⟨p,q,h1,h2,rfl⟩:=h;unfold DataW.weightsEach at vC;obtain⟨x,k1,k2⟩:=Zeh hs.1 (hv 0 t v rfl rfl) h1 λn hn=>vC n (Mx _ hn)
  obtain⟨xs,k3,k4⟩:=mG hs.2 (λj t v ht hv'=>hv (j+1) t v (by simpa using ht) (by simpa using hv')) h2 λn hn=>vC n (NF _ hn)
  exact⟨x::xs,⟨k1,k3⟩,by unfold Ab;exact⟨v,vs,rfl,k2,k4⟩⟩
theorem Ka:∀{ts us:List TypeId}{ds es:List (DataW H)},ds.length=ts.length->∀n∈DataW.weightsEach P ts ds,n∈DataW.weightsEach P (ts++us) (ds++es)
 |[],_,_,_,_,n,hn=>by unfold DataW.weightsEach at hn;simp at hn
 |_::_,_,[],_,h,_,_=>by simp at h
 |t::ts,us,d::ds,es,h,n,hn=>by
  simp only[Vz];unfold DataW.weightsEach at hn⊢;rcases Rj.1 hn with hn|hn;·exact Mx _ hn
  ·exact NF _ (Ka (by simpa using h) n hn)
theorem QQ:∀{ts:List TypeId}{vs:List Value}{ds:List (DataW H)} {ps:List MemPlace} {sp:Nat->Bool},DataW.TrodAll enc P W base sp held ts vs ds ps->ds.length=ts.length
 |[],[],[],_,_,_=>rfl
 |[],[],_::_,_,_,h=>h.elim
 |[],_::_,ds,_,_,h|_::_,[],ds,_,_,h=>by cases ds<;>exact h.elim
 |_::_,_::_,[],_,_,h=>h.elim
 |t::ts,v::vs,d::ds,ps,sp,h=>by
  obtain⟨p,q,_,h2,_⟩:=h;simp[QQ h2]
theorem WZ{W':World}(hl:laidOutB P=true)(hb:Below W.heap.size W W'){sp:Nat->Bool}:∀{ts:List TypeId}{vs:List Value}{ds:List (DataW H)} {ps:List MemPlace},ts.all (λt=>P.readableRec t&&decide (t<P.types.size))=true->
  (∀x∈ps,x.block<W.heap.size)->(∀x∈ps,sp x.block=true)->DataW.TrodAll enc P W 0 (λ_=>true) true ts vs ds ps->DataW.TrodAll enc P W' 0 sp true ts vs ds ps
 |[],[],[],ps,_,_,_,h=>h
 |[],[],_::_,_,_,_,_,h=>h.elim
 |[],_::_,ds,_,_,_,_,h|_::_,[],ds,_,_,_,_,h=>by cases ds<;>exact h.elim
 |_::_,_::_,[],_,_,_,_,h=>h.elim
 |t::ts,v::vs,d::ds,ps,hs,AP,lD,h=>by
  simp only[Z8,D0]at hs;obtain⟨p,q,h1,h2,rfl⟩:=h;refine⟨p,q,WideElems.Trod_stays hl hs.1.1 (of_decide_eq_true hs.1.2) h1 (λx hx=>hb.same (AP x (by simp[hx]))) (λx hx=>lD x (by simp[hx])),?_,rfl⟩
  exact WZ hl hb hs.2 (λx hx=>AP x (by simp[hx])) (λx hx=>lD x (by simp[hx])) h2
theorem EW{f:FuncId}{fn:Func}{s:ChangeSpec}{W:World}{b0:Nat}{args:Array Value}{ds gs:List (DataW H)}{before:List MemPlace}{ps:List TypeId}{tb:TypeId}{m:Nat}{fresh handsOn again apart:Bool}
  (Zjl:fn.params=ps.toArray) (Zgh:ps.all (MG P m)=true) (Zgn:ps.all (λt=>P.readableRec t&&decide (t<P.types.size))=true) (ZgG:laidOutB P=true)
  (Gt:fn.resultTypes=#[tb]) (Zcj:P.underlying tb=some .bool) (hsv:s.vars=[])
  (vF:∀ds:List (DataW H),ds.length=ps.length->(s.fn H ds).results=[.lit (.bool true)]/\(s.fn H ds).args=ds/\(s.fn H ds).vars=[])
  (ZjG:∀xs:List AV,Iy P m ps xs->AO P f xs (λr=>r=.bool true))
  (II:∀(j:Nat) t v,fn.params[j]?=some t->args[j]?=some v->Sk P W .any b0 t v)
  (hgl:∀x∈O6,Cells (Dh W) W x.2 x.1 0:=by intro x hx;cases hx)
  (hgs:∀x∈O6,x.2≠[]->∃cur e fz,W.heap[x.1]?=some (.cells cur e fz)/\cur.size=x.2.length:=by intro x hx;cases hx)
  (ZiZ:(DataW.weightsEach P (fn.params.toList++s.plain.varTypes P) (ds++gs)).all (·<=reachBytes)=true)
  (hW:DataW.Whole enc P fn.params.toList s.vars apart W args.toList ds gs before):
  Calls P f args W λe W'=>∃v,e=.returned v/\s.post enc P fn apart fresh handsOn again W args v W':=by
 have qZ:fn.params.toList=ps:=by rw[Zjl]
 have hW':=hW;obtain⟨p,q,hA,hV,hpq,O3,Qp⟩:=hW;rw[qZ]at hA;have hlen:=QQ hA
 obtain⟨xs,hx,hr⟩:=mG (r:=.any) (b0:=b0) Zgh (λj t v ht hv=>II j t v (by rw[<-qZ]at ht;simpa using ht) (by simpa using hv)) hA λn hn=>by
  have h9:=ND.1 ZiZ n (by
   rw[qZ];exact Ka hlen n hn)
  simpa using h9
 rw[hsv]at hV;obtain⟨rfl,rfl⟩:=trodVars_none hV;obtain⟨s1,s2,s3⟩:=vF ds hlen;have hc:=(ZjG xs hx).out (Dh W) W args.toList ⟨λ_ _ h=>h,hgl,hgs⟩ hr
 rw[Array.toArray_toList]at hc;refine hc.mono λe W' ⟨r,v,he,hrr,hb,Fi⟩=>?_
 subst hrr;obtain rfl:=Bg Fi;have AP:∀x∈before,x.block<W.heap.size:=λx hx=>hW'.lt x hx
 have hold:∀x∈before,(λb=>decide (b<W.heap.size)) x.block=true:=λx hx=>by simpa using AP x hx
 subst hpq
 have Ro:∀sp:Nat->Bool,(∀x∈p++[],sp x.block=true)->DataW.TrodAll enc P W' 0 sp true fn.params.toList args.toList (s.fn H (ds++[])).args p:=λsp lD=>by
  rw[X1,s2,qZ];exact WZ ZgG hb Zgn (λx hx=>AP x (by simpa using hx)) (λx hx=>lD x (by simpa using hx)) hA
 have Zb0:∀(b:Nat)(sp:Nat->Bool)(hd:Bool),DataW.TrodAll enc P W' b sp hd fn.resultTypes.toList ((Value.bool true).resultList fn.resultTypes.size) (s.fn H (ds++[])).results []:=λb sp hd=>by
  rw[X1,s1,Gt];exact trodAll_mk1 (shut_bool Zcj true)
 have ZbP:∀sp:Nat->Bool,DataW.TrodVars enc P W' sp s.vars (s.fn H (ds++[])).vars []:=λsp=>by
  rw[X1,s3,hsv];exact rfl
 refine⟨_,he,ds,[],p++[],[],p,[],hW',Zb0 _ _ _,Ro _ hold,ZbP _,World.keptBut_mono (λx hx=>⟨hx,?_⟩) (hb.frame (·∈p++[])),λ_=>?_⟩
 ·simpa using hx
 ·refine⟨ok_one Gt rfl (okWide_bool_mk Zcj true),_,_,([]++p)++[],⟨[]++p,[],trodAll_append (Ro _ (λ_ _=>rfl)) (Zb0 _ _ _),ZbP _,rfl,?_,?_⟩,?_⟩
  ·intro b off hp;have hin:MemPlace.cell b off∈p++[]:=by simpa using hp
   rw[hb.frozen (AP _ hin)];exact O3 b off hin
  ·intro ha;have:=Qp ha;simpa using this
  ·intro x hx _;simpa using hx
theorem Uc{t:TypeId}{d:TypeDesc}(hu:P.underlying t=some d)(hd:∀fs,d≠.struct fs)(hd':∀n e,d≠.array n e):AT P t=false:=by
 unfold AT;rw[hu];cases d<;>first|rfl|exact absurd rfl (hd _)|exact absurd rfl (hd' _ _)
theorem Ci{t:TypeId}{k:IntKind}{m:Nat}{x:AV}(hu:P.underlying t=some (.int k))(h:Jr P (m+1) t x):∃n,x=.int k n/\DJ k n:=by
 obtain⟨h1,_,h2⟩:=h;rw[h2 (Uc hu (λ_ h=>by cases h) (λ_ _ h=>by cases h))]at h1
 unfold MU at h1;rw[hu]at h1;obtain⟨b,hb,hk⟩:=h1;exact⟨b,by simpa using hb,hk⟩
theorem Xd{t:TypeId}{m:Nat}{x:AV}(hu:P.underlying t=some .string)(h:Jr P (m+1) t x):∃l,x=.str l/\l.length<=reachBytes:=by
 obtain⟨h1,_,h2⟩:=h;rw[h2 (Uc hu (λ_ h=>by cases h) (λ_ _ h=>by cases h))]at h1
 unfold MU at h1;rw[hu]at h1;obtain⟨b,hb,hk⟩:=h1;exact⟨b,by simpa using hb,hk⟩
theorem IW{t e:TypeId}{m:Nat}{x:AV}(hu:P.underlying t=some (.slice e))(h:Jr P (m+1) t x):∃es:List AV,x=.sl (P.cellsOf e) es/\es.length<=maxLen/\∀y∈es,Jr P m e y:=by
 obtain⟨h1,_,h2⟩:=h;rw[h2 (Uc hu (λ_ h=>by cases h) (λ_ _ h=>by cases h))]at h1
 unfold MU at h1;rw[hu]at h1;obtain⟨es,hb,hl,hk⟩:=h1;exact⟨es,by simpa using hb,hl,hk⟩
theorem Ea{α:Type}{f:α->AV}{p:α->Prop}:∀{es:List AV},(∀y∈es,∃a,y=f a/\p a)->∃l:List α,es=l.map f/\∀a∈l,p a
 |[],_=>⟨[],rfl,λa h=>by cases h⟩
 |e::es,h=>by
  obtain⟨a,rfl,ha⟩:=h e (by simp)
  obtain⟨l,rfl,hl⟩:=Ea (es:=es) (λy hy=>h y (by simp[hy]))
  exact⟨a::l,rfl,λb hb=>by rcases KF.1 hb with rfl|hb;exact ha;exact hl b hb⟩
theorem IV{t e:TypeId}{m:Nat}{x:AV}(hu:P.underlying t=some (.slice e))(he:P.underlying e=some .string)(hc:P.cellsOf e=1)(h:Jr P (m+2) t x):
  ∃l:List (List UInt8),x=.sl 1 (l.map .str)/\l.length<=maxLen/\∀s∈l,s.length<=reachBytes:=by
 obtain⟨es,rfl,hl,cI⟩:=IW hu h;obtain⟨l,rfl,hp⟩:=Ea (f:=AV.str) (p:=λs=>s.length<=reachBytes) (es:=es) (λy hy=>Xd he (cI y hy))
 exact⟨l,by rw[hc],by simpa using hl,hp⟩
theorem Ao{m:Nat}{t:TypeId}{ts:List TypeId}{xs:List AV}(h:Iy P m (t::ts) xs):∃x r,xs=x::r/\Jr P m t x/\Iy P m ts r:=by
 cases xs with
 |nil=>exact h.elim
 |cons x r=>exact⟨x,r,rfl,h.1,h.2⟩
theorem Ge{m:Nat}{xs:List AV}(h:Iy P m [] xs):xs=[]:=by
 cases xs with
 |nil=>rfl
 |cons x r=>exact h.elim
end
end Go.Av