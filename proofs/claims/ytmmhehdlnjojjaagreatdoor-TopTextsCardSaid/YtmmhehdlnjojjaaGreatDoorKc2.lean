/- AV: one operation. -/
import Derived.Test.YtmmhehdlnjojjaaGreatDoorKa2
import Derived.RangeFuncNested
import Derived.RangeFuncLeaves
import Derived.RangeFuncCalls
import Derived.TacticsIn
import Derived.OrdersIn
import Derived.ProofKit
import Derived.Below
import Derived.ChangeSame
import Derived.Deep.Slices
set_option linter.unusedVariables false
set_option maxRecDepth 100000
set_option linter.unusedSectionVars false
set_option linter.unusedSimpArgs false
open Array renaming getElem?_eq_some_iff → Am, replicate → Fw, getElem?_setIfInBounds → LL, mapM_eq_mapM_toList → L2, setIfInBounds_comm → L3, ext_getElem? → N3
open Go.Op renaming operands → Ao
open Bool renaming and_eq_true → Ap, or_eq_true → UK
open Nat renaming eq_of_beq_eq_true → As, lt_of_lt_of_le → A4, le_trans → Bc, beq → Bg, le_refl → Hq, mul_le_mul_right → LJ, le_of_ble_eq_true → M3, add_zero → M4, lt_irrefl → Pg, blt → P1, lt_or_ge → Rr, strongRecOn → Ts, not_lt_zero → UG
open Go.World renaming putObj_heap_other → AZ, cells?_some → Q4
open List renaming getElem?_set_ne → A0, getElem?_eq_some_iff → A1, mem_cons_of_mem → A2, getElem?_append_left → A5, mem_cons → A6, getElem?_eq_getElem → A9, getElem?_set_self → Be, getElem_mem → Cc, mem_append_left → CL, getElem?_cons_zero → C5, all_eq_true → Dy, mem_append_right → D0, replicate → GL, nodup_cons → G8, mem_map → HB, getElem?_eq_none → Ib, mem_append → Jg, nodup_nil → Kp, perm_append_comm → K0, map_congr_left → LM, getElem?_append_right → LP, getD_eq_getElem?_getD → LR, map_cons → L5, cons_append → MM, getElem_set_self → M1, append_nil → M5, mem_of_getElem? → Np, mem_range → NA, getElem_set_ne → N2, all_cons → N4, set_comm → OL, getElem_drop → PU, getElem?_map → PV, range → PW, map_nil → RR, length_cons → R5, perm_middle → Sa, mapM_cons → UL, Perm → VJ
open Option renaming some → A3
open Go.Region renaming wanted → Bb, ready → IV, binds → R4
open Go.Result renaming andThen_ok → IW
open Go.Value renaming oneCell' → KO, okWide → K2, func → L4
open Go.Sem renaming run_bind → L0, run_pure → R2
open Go.Oper renaming looksAt → L1, wp → NB, uponIn → N1, apart_spec → UI, semAt_eq → Vb
open Prod renaming fst → VC
namespace Go.Av
theorem Yae{P:Prop}(e:P:=by
 unfold CR at h;obtain⟨k0,k1,k2,k3⟩:=E6 h;refine⟨k0,λi cs hi=>?_,λi e sz es hi=>?_,λi cs vs ms hi=>?_⟩
 ·cases i with
  |zero=>simp at hi
  |succ i=>exact k1 i cs (by simpa using hi)
 ·cases i with
  |zero=>simp at hi
  |succ i=>exact k2 i e sz es (by simpa using hi)
 cases i with
 |zero=>simp at hi
 |succ i=>exact k3 i cs vs ms (by simpa using hi)):P:=e
theorem Yaf{P:Prop}(e:P:=by
 unfold Cg at h;obtain⟨H',k1,k2,k3,k4⟩:=Gg (H0:=r0) (by simpa[DC]using hr) h;refine⟨_,k1,by simp[k2],λi hi=>?_,λi hi=>?_⟩
 ·cases i with
  |zero=>simp
  |succ i=>simpa using k3 i hi
 cases i with
 |zero=>simp[Bi]at hi
 |succ i=>simpa using k4 i hi):P:=e
theorem Yag{P:Prop}(e:P:=by
 refine⟨rfl,EU,D9,⟨λb hb=>?_,by rw[eq2];exact Bc hf.base q1.size,by rw[eq1,eq2];exact hf.cb,by rw[eq2];exact hf.ob,q4,q5,λb hb i g hi hg=>?_,λb o hb hc=>?_⟩,hIn,pP⟩
 ·rcases q2 b hb with k|k;·exact hf.fr b k
  exact .inl (Bc Ai.Ax.size k)
 obtain⟨_,k2,k3⟩:=Ai.heap.fresh i g b hi hg;rcases q3 b hb with k|k|⟨o,k⟩;exact hf.own b k i g hi hg;omega;exact k3 o k;rcases q2 b hb with k|k;exact hf.HT b o k hc;have:=Ai.lt b o hc;omega):P:=e
theorem Yah{P:Prop}(e:P:=by
 unfold NB;have:(execOp a.eval o).run G.P w=.ok .skip w':=by simp[execOp,ho,h2]
 rw[this];exact hn _ _ ⟨_,E',H',h1,C',mu',h3.frame (BF h3.env o.dst (by unfold Aj;rfl)) (put_defers _ _ _)⟩):P:=e
theorem Yai{P:Prop}(e:P:=by
 split at h;·rename_i x y hx;rw[Ae,Ae]at h;obtain⟨r,h1,h2⟩:=bQ h;refine⟨r,h1,λE' H' ha hl K' k=>?_⟩;unfold Cj;simp only[hc,hx];(have:c.args=#[x,y]:=by cases hca:c.args;simp_all);rw[Ae,Ae,ha x (by simp[Ao,Call.operands,hc,this]),ha y (by simp[Ao,Call.operands,hc,this])];exact h2 K' k
 exact h.elim):P:=e
theorem Yaj{P:Prop}(e:P:=by
 simp only[EK]at h;replace h:=Bf.1 h;obtain⟨y,hy,h⟩:=h;split at h
 ·rename_i hk;split at h;·rename_i hz;obtain⟨a,h,ha⟩:=Ka h;obtain⟨b,h,hb⟩:=Ka h;exact⟨_,h.2,λK' k=>by simp only[EK];exact Bf.2 ⟨y,hy,by simp only[hk,hz];exact ha _ (hb _ ⟨h.1,k⟩)⟩⟩
  exact h.elim
 exact h.elim):P:=e
theorem Yak{P:Prop}(e:P:=by unfold NB;rw[BQ];refine(h.out G C mu a w _ rfl Ai Xu).mono λe O6 hp=>?_;rcases hp with⟨r,v,E',H',C',mu',rfl,k1,k2,k3⟩|⟨x,v,E',H',C',mu',rfl,k1,k2,k3⟩;exact hn _ _ ⟨r,E',H',k1,C',mu',k2.frame (BF k2.env o.dst k3) (put_defers _ _ _)⟩;exact⟨x,v,E',H',C',mu',rfl,k1,k2,k3⟩):P:=e
theorem Yal{P:Prop}(e:P:=by exact⟨r,h1,λE' H' ha hl K' k=>by unfold Cj;simp only;rw[Ae,ha x (by simp[Ao])];exact h2 K' k⟩):P:=e
theorem Yam{P:Prop}(e:P:=by exact A8 (X:=X) (Q:=Kn) hn h1 (Bm (by simp[execOp,ho]) h2) h3 h4):P:=e
theorem Yan{P:Prop}(e:P:=by obtain⟨h1,_,h2⟩:=h;rw[h2 (UD hu (λ_ h=>by cases h) (λ_ _ h=>by cases h))]at h1;unfold LO at h1;rw[hu]at h1;obtain⟨b,hb,hk⟩:=h1;exact⟨b,by simpa using hb,hk⟩):P:=e
theorem Yao{P:Prop}(e:P:=by
 split at h;·rename_i hb;obtain⟨r,h,hr⟩:=QQ h;exact⟨_,h,λE' he K' k=>by unfold I8;exact Bf.2 ⟨y,hy,by simp only[hk,hb];exact hr E' he _ k⟩⟩
 exact h.elim):P:=e
theorem Yap{P:Prop}(e:P:=by have:=he.2 k hk0 KR;by_cases yI:d=k;subst yI;simp only[B8,M1]at this ⊢;exact hv _ _ _ _ this;simp only[B8]at this ⊢;rw[N2 yI]at this ⊢;exact this):P:=e
theorem Yaq{P:Prop}(e:P:=by rw[hu]at h;simp only[Cell.okWide,Cell.ok,hu]at h;cases v<;>simp_all[Value.cells]):P:=e
theorem Yar{P:Prop}(e:P:=by exact⟨r,h1,λE' H' ha hl K' k=>by unfold Cj;simp only;rw[Ae,Ae,ha x (by simp[Ao]),ha i (by simp[Ao])];exact h2 H' (hl x (by simp[Ao])) K' k⟩):P:=e
theorem Yas{P:Prop}(e:P:=by obtain⟨r,h1,h2⟩:=Iv h;exact⟨_,_,h1,λE' H' ha hu _ K' k=>by unfold rK;simp only[hc];exact h2 E' H' ha hu _ k⟩):P:=e
theorem Yat{P:Prop}(e:P:=by obtain⟨r,v,h1,h2,h3⟩:=Lg hT Ai.heap Ai.env (o:=o) (by rw[ho];exact h);exact A8 (X:=X) (Q:=Kn) hn h1 h3 Ai h2):P:=e
theorem Yau{P:Prop}(e:P:=by obtain⟨r,h1,h2⟩:=T7 h;exact⟨_,h1,λK' k=>Bf.2 ⟨y,hy,by rw[ha,hl];exact h2 _ k⟩⟩):P:=e
end Go.Av
namespace Go.Av
open Go.RowKit (Below)
variable {o:Oper}{v:Value}{K R:AV->Prop}{next:Act->World->Prop}{c y:Code}{x b:AV}{t:TypeId}{f:FuncId}{fn:Func}{args:List AV}{tmps:Array Value}{op:BinOp}
inductive AE where
 |exit (id:Nat)
 |ret
 |panic (x:AV)
abbrev XX:=AE->KK
def Cp(P:Program)(f:FuncId):Bool:=match P.funcs[f]? with|some fn=>fn.body.isSome&&fn.name != "runtime.NumGoroutine"|none=>false
structure Ah(P:Program)(f:FuncId)(args:List AV)(E:List AV)(H:List HO)(K:AV->KK)(X:XX):Prop where
 D7:Cp P f=true
 out:∀(G:Cx) C mu (a:Act) (w:World) (vs:List Value),G.P=P->AJ G C mu E H a w->Ac C w args mu vs->
  Calls P f vs.toArray w λe w'=>
   (∃r v E' H' C' mu',e=.returned v/\K r E' H'/\AJ G C' mu' E' H' a w'/\Aj C' w' r mu' v)\/
   (∃x v E' H' C' mu',e=.panicked [{v,recovered:=false}]/\X (.panic x) E' H'/\AJ G C' mu' E' H' a w'/\Aj C' w' x mu' v)
def Zx{α:Type}:List α->List α->(List α->Prop)->Prop
 |[],m,K=>K m
 |x::l,m,K=>Zx l m λr=>K (x::r)
theorem Dl{α:Type}:∀(l m:List α)(K:List α->Prop),Zx l m K↔K (l++m)
 |[],_,_=>by simp[Zx]
 |x::l,m,K=>by simp[Zx,Dl l m]
def fw(r:Option Nat):Fence:={Fence.wide with round:=r}
structure Nd(P:Program)(v:Value)(as:List AV)(I It If:Inv)(Ip:Value->Inv):Prop where
 eqs:It.Cb=I.Cb/\It.nb=I.nb/\If.Cb=I.Cb/\If.nb=I.nb/\∀u,(Ip u).Cb=I.Cb/\(Ip u).nb=I.nb
 out:∃l,v=.func (.yield l) #[] #[]/\∀(C:Af)(w:World)(us:List Value)(Sw Sr:Nat->Prop)(n:Nat),(∀b o,C b o->b<w.heap.size)->(∀b o,C b o->I.Cb b o\/I.nb<=b)->I.nb<=w.heap.size->(∀b o,Sw b->¬C b o)->(∀b,Sw b->Sr b)->(∀b,Sr b->b<w.heap.size)->
  I.J Sw Sr w->Ac C w as Mu.none us->YieldAt (fw none) n P l us.toArray w λe w'=>∃EU D9,GV (λb=>b<w.heap.size/\¬Sw b) w w'/\(∀b,EU b->Sw b\/w.heap.size<=b)/\(∀b,D9 b->Sr b\/w.heap.size<=b\/∃o,C b o)/\
   (∀b,EU b->D9 b)/\(∀b,D9 b->b<w'.heap.size)/\((e=.returned (.bool true)/\It.J EU D9 w')\/(e=.returned (.bool false)/\If.J EU D9 w')\/∃u,e=.panicked [{v:=u,recovered:=false}]/\(Ip u).J EU D9 w')
def yP(P:Program)(v:Value)(as:List AV)(E:List AV)(H:List HO)(K:AV->KK)(X:XX):Prop:=
 AI as=true/\Dr H 0 λob=>match ob with
  |.inv I=>∃It If Ip,Nd P v as I It If Ip/\(∀u,Dn H 0 (.inv (Ip u)) (λH'=>X (.panic (.raw u)) E H'))/\Dn H 0 (.inv It) (λH'=>K (.lit true) E H')/\Dn H 0 (.inv If) (λH'=>K (.lit false) E H')
  |_=>False
def Xy:List (Nat×List AV)->Nat->List AV
 |[],_=>[]
 |x::r,g=>match Bg x.1 g with|true=>x.2|false=>Xy r g
theorem dX{C:Af}{w:World}{g:Nat}:∀(l:List (Nat×List AV)),(∀x∈l,Cells C w x.2 x.1 0)->Cells C w (Xy l g) g 0
 |[],_=>by unfold Xy Cells;trivial
 |x::r,h=>by
  unfold Xy;split;·rename_i hb;have:=As hb;subst this;exact h x (by simp)
  exact dX r λy hy=>h y (A2 _ hy)
def TX(al:Option Nat)(P:Program)(T:List TY)(E:List AV)(H:List HO)(o:Op)(K:AV->KK)(X:XX):Prop:=
 match o with
 |.box _ x=>ZhV al E H x K
 |.alloc t=>OY al T E H t K
 |.store t a x=>DF E a λp=>(match p with
  |.el _ _ _ _=>DF E x λv=>XB v E H λE H=>EJ T E H t a x K
  |_=>EJ T E H t a x K)
 |.build t parts=>I8 T E t parts.toList λv=>K v E H
 |.buildSlice t n parts=>(match al with
  |none=>ND parts.toList E H λE H=>HP none T E H t n parts.toList K
  |some s=>HP (some s) T E H t n parts.toList K)
 |.makeSlice t l c=>OE al T E H t l c K
 |.panic x=>DF E x λv=>(match v with|.iface t y=>X (.panic (.iface t y)) E H|_=>False)
 |.convert s d x=>DF E x λu=>(match u with
  |.int k n=>KG T s d (.int k n) λv=>K v E H
  |.str l=>Dr T d λyd=>(match yd.k with
   |.string=>KG T s d (.str l) λv=>K v E H
   |_=>Vn T E H s d x K)
  |_=>Vn T E H s d x K)
 |.call c=>match c.callee with
  |.builtin .len|.builtin .min|.builtin .max=>Cj T E H (.call c) λv=>K v E H
  |.builtin .clear=>(match c.args.toList,c.argTypes.toList with
   |[x],[t]=>mI T E H t x K
   |_,_=>False)
  |.builtin .append=>(match c.args.toList,c.argTypes.toList with
   |[s,x],[t,t']=>HD al T E H t t' s x K
   |_,_=>False)
  |.value f=>DF E f λfv=>(match fv with
   |.fn f cap=>GZ (DF E) c.args.toList λas=>Zx as cap λas=>Ah P f as E H K X
   |.mv f fs=>GZ (DF E) c.args.toList λas=>Zx fs as λas=>Ah P f as E H K X
   |.raw v=>GZ (DF E) c.args.toList λas=>yP P v as E H K X
   |_=>False)
  |_=>False
 |.load t (.global g)=>Oc T H t (.at_ (Xy MO g)) λv=>K v E H
 |.makeMap _ r=>(match r with|none=>Ul al E H K|some _=>False)
 |.mapUpdate t m k x|.insert t m k x=>YH T E H t m k x K
 |o=>Cj T E H o λv=>K v E H
section
variable {G:Cx}{C:Af}{w w':World}{mu:Mu}{H:List HO}{E:List AV}{a:Act}{T:List TY}
def L6(G:Cx)(K:KK)(X:XX):Exit->Act->World->Prop
 |.normal,a,w=>∃E H,K E H/\St G E H a w
 |.exit id,a,w=>∃E H,X (.exit id) E H/\St G E H a w
 |.ret,a,w=>∃E H,X .ret E H/\St G E H a w
 |.panic chain,a,w=>∃x v E H C mu,chain=[{v,recovered:=false}]/\X (.panic x) E H/\AJ G C mu E H a w/\Aj C w x mu v
 |_,_,_=>False
theorem Bm{s:Sem Value}{w':World}{ρ:Operand->Value}(h:execOp ρ o=(do pure (.value (<-s))))(hs:s.run G.P w=.ok v w'):(execOp ρ o).run G.P w=.ok (.value v) w':=by
 rw[h];simp[hs]
def I9(G:Cx)(o:Oper)(K:AV->KK)(a:Act)(w:World):Prop:=∃r E' H',K r E' H'/\St G (B8 E' o.dst r) H' a w
theorem A8{K:AV->KK}{X:XX}{Q:KK}{Qx:Exit->Act->World->Prop}{r:AV}{E':List AV}{H':List HO}{C':Af}{mu':Mu}{w':World}
  (hn:∀a w,I9 G o K a w->next a w) (hk:K r E' H') (BQ:(execOp a.eval o).run G.P w=.ok (.value v) w') (Ai:AJ G C' mu' E' H' a w') (hr:Aj C' w' r mu' v):o.wp G.P a w next Qx:=by
 unfold NB;rw[BQ];exact hn _ _ ⟨r,E',H',hk,C',mu',Ai.frame (BF Ai.env o.dst hr) (put_defers _ _ _)⟩
theorem tL{al:Option Nat}(hT:CY G.P T){K:AV->KK}{X:XX}{Kn:KK}(h:TX al G.P T E H o.op K X)(Ai:AJ G C mu E H a w)(hn:∀a w,I9 G o K a w->next a w)
  (hy:¬∃c f v,o.op=.call c/\c.callee=.value f/\BL E f=.raw v):o.wp G.P a w next (L6 G Kn X):=by
 unfold TX at h;split at h
 case h_1 t x ho=>
  obtain⟨r,v,E',H',C',mu',w',h1,h2,h3,h4⟩:=ZhU (t:=t) Ai h;exact Yam
 case h_2 t ho=>
  obtain⟨r,v,E',H',C',mu',w',h1,h2,h3,h4⟩:=ZcE hT Ai h;exact Yam
 case h_3 t ad x ho=>
  obtain⟨E,H,C,mu,h,Ai⟩:∃E H C mu,EJ T E H t ad x K/\AJ G C mu E H a w:=by rw[Ae]at h;split at h;rw[Ae]at h;obtain⟨E',H',C',mu',h1,h2⟩:=qH Ai h;exact⟨E',H',C',mu',h1,h2⟩;exact⟨E,H,C,mu,h,Ai⟩
  obtain⟨E',H',C',mu',w',h1,h2,h3⟩:=zR hT Ai h;exact Yah
 case h_4 t parts ho=>
  obtain⟨r,v,h1,h2,h3⟩:=Zcz hT Ai.env h;exact A8 (X:=X) (Q:=Kn) hn h1 (Bm (by simp[execOp,ho]) h3) Ai h2
 case h_5 t n parts ho=>
  obtain⟨al,E,H,C,mu,h,Ai⟩:∃al E H C mu,HP al T E H t n parts.toList K/\AJ G C mu E H a w:=by split at h;obtain⟨E',H',C',mu',h1,h2⟩:=Sc _ Ai h;exact⟨none,E',H',C',mu',h1,h2⟩;exact⟨_,E,H,C,mu,h,Ai⟩
  obtain⟨r,v,E',H',C',mu',w',h1,h2,h3,h4⟩:=Wc hT Ai h;exact Yam
 case h_6 t l c ho=>
  obtain⟨r,v,E',H',C',mu',w',h1,h2,h3,h4⟩:=YI hT Ai h;exact Yam
 case h_7 x ho=>
  rw[Ae]at h;have hx:=Bv Ai.env x;split at h;·rename_i t y kP;rw[kP]at hx;have Oe:=hx;unfold Aj at hx;obtain⟨u,hu,_⟩:=hx;unfold NB;(have:(execOp a.eval o).run G.P w=.halt (.panic (a.eval x)) w:=by simp[execOp,ho,hu,Instr.panic]);rw[this];exact⟨_,_,E,H,C,mu,rfl,h,Ai,Oe⟩
  exact h.elim
 case h_8 s d x ho=>
  rw[Ae]at h;have eff:Vn T E H s d x K->o.wp G.P a w next (L6 G Kn X):=λh=>by obtain⟨r,v,E',H',C',mu',w',h1,h2,h3,h4⟩:=Zcy hT Ai h;exact A8 (X:=X) (Q:=Kn) hn h1 (Bm (by simp[execOp,ho]) h2) h3 h4
  have hx:=Bv Ai.env x;split at h;·rename_i k n kP;rw[kP]at hx;obtain⟨r,v,h1,h2,h3⟩:=TD hT hx h;exact A8 (X:=X) (Q:=Kn) hn h1 (Bm (by simp[execOp,ho]) h3) Ai h2
  ·rename_i l kP;rw[kP]at hx;replace h:=Bf.1 h;obtain⟨yd,hyd,h⟩:=h;split at h;·obtain⟨r,v,h1,h2,h3⟩:=TD hT hx h;exact A8 (X:=X) (Q:=Kn) hn h1 (Bm (by simp[execOp,ho]) h3) Ai h2
   exact eff h
  exact eff h
 case h_9 c ho=>
  split at h;·rename_i hc;obtain⟨r,v,h1,h2,h3⟩:=Lg hT Ai.heap Ai.env (o:=o) (by rw[ho];exact h);exact A8 (X:=X) (Q:=Kn) hn h1 h3 Ai h2
  ·rename_i hc;exact Yat
  ·rename_i hc;exact Yat
  ·rename_i hc;split at h;·rename_i x t h1 h2;obtain⟨Gs,args,N0⟩:=c;simp only at hc h1 h2;subst hc;(obtain rfl:args=#[x]:=by cases args;simp_all);(obtain rfl:N0=#[t]:=by cases N0;simp_all);obtain⟨r,v,E',H',C',mu',w',k1,k2,k3,k4⟩:=Zcv (ty:=o.type) hT Ai h;exact A8 (X:=X) (Q:=Kn) hn k1 (by simp[execOp,ho,resolve,invoke,builtin,k2]) k3 k4
   exact h.elim
  ·rename_i hc;split at h;·rename_i s x t t' h1 h2;obtain⟨Gs,args,N0⟩:=c;simp only at hc h1 h2;subst hc;(obtain rfl:args=#[s,x]:=by cases args;simp_all);(obtain rfl:N0=#[t,t']:=by cases N0;simp_all);obtain⟨r,v,E',H',C',mu',w',k1,k2,k3,k4⟩:=xN (ty:=o.type) hT Ai h;exact A8 (X:=X) (Q:=Kn) hn k1 (by simp[execOp,ho,resolve,invoke,builtin,k2]) k3 k4
   exact h.elim
  ·rename_i f hc;rw[Ae]at h;have hf:=Bv Ai.env f;split at h
   ·rename_i fi cap dP;rw[dP]at hf;rw[Di (DF E) (BL E) (Ae E),Dl]at h;unfold Aj at hf;obtain⟨vs,vT,Kv⟩:=hf;have Xu:Ac C w (c.args.toList.map (BL E)++cap) mu (c.args.toList.map a.eval++vs):=Bj (Li Ai.env _) Kv;have hg:=h.D7;unfold Cp at hg;cases Xo:G.P.funcs[fi]? with
    |none=>rw[Xo]at hg;cases hg
    |some fn=>
     rw[Xo]at hg;simp only[Ap]at hg;(have BQ:(execOp a.eval o).run G.P w=.ok (.enter fi (c.args.toList.map a.eval++vs).toArray) w:=by obtain⟨Gs,args,N0⟩:=c;simp only at hc;subst hc;(have BK:fn.name ≠ "runtime.NumGoroutine":=by simpa using hg.2);(have hb:fn.body≠none:=by cases hh:fn.body<;>simp_all);simp[execOp,ho,resolve,invoke,vT,Deferred.ofValue,callFunc,Xo,BK,hb]);exact Yak
   ·rename_i fi cap dP;rw[dP]at hf;rw[Di (DF E) (BL E) (Ae E),Dl]at h;unfold Aj at hf;obtain⟨vs,vT,Kv⟩:=hf;have Xu:Ac C w (cap++c.args.toList.map (BL E)) mu (vs++c.args.toList.map a.eval):=Bj Kv (Li Ai.env _);have hg:=h.D7;unfold Cp at hg;cases Xo:G.P.funcs[fi]? with
    |none=>rw[Xo]at hg;cases hg
    |some fn=>
     rw[Xo]at hg;simp only[Ap]at hg;(have BQ:(execOp a.eval o).run G.P w=.ok (.enter fi (vs++c.args.toList.map a.eval).toArray) w:=by obtain⟨Gs,args,N0⟩:=c;simp only at hc;subst hc;(have BK:fn.name ≠ "runtime.NumGoroutine":=by simpa using hg.2);(have hb:fn.body≠none:=by cases hh:fn.body<;>simp_all);simp[execOp,ho,resolve,invoke,vT,Deferred.ofValue,callFunc,Xo,BK,hb]);exact Yak
   ·rename_i v dP;exact absurd ⟨c,f,v,ho,hc,dP⟩ hy
   exact h.elim
  exact h.elim
 case h_10 t g ho=>
  have hr:Aj C w (.at_ (Xy MO g)) mu (a.eval (.global g)):=by unfold Aj;exact⟨g,0,rfl,dX _ Ai.qR.gl⟩
  obtain⟨r,v,h1,h2,h3⟩:=Nk hT Ai.heap hr h;exact A8 (X:=X) (Q:=Kn) hn h1 (Bm (by simp[execOp,ho]) h3) Ai h2
 case h_11 t r ho=>
  split at h;obtain⟨r,v,E',H',C',mu',w',h1,h2,h3,h4⟩:=kG (t:=t) Ai h;exact A8 (X:=X) (Q:=Kn) hn h1 (Bm (by simp[execOp,ho]) h2) h3 h4;exact h.elim
 case h_12 t m k x ho=>
  obtain⟨E',H',C',mu',w',h1,h2,h3⟩:=W5 hT Ai h;exact Yah
 case h_13 t m k x ho=>
  obtain⟨E',H',C',mu',w',h1,h2,h3⟩:=W5 hT Ai h;exact Yah
 case h_14=>
  obtain⟨r,v,h1,h2,h3⟩:=Lg hT Ai.heap Ai.env (o:=o) h;exact A8 (X:=X) (Q:=Kn) hn h1 h3 Ai h2
theorem Dd{P:Program}{a:Act}{w:World}{r:Option Nat}{n:Nat}{Q:Exit->Act->World->Prop}(O2:∀c,o.op≠.defer c)(h:o.wp P a w next Q):o.wpIn (fw r) n P a w next Q:=by
 refine⟨λ_ _=>trivial,?_⟩;rw[Vb _ _ _ O2];unfold NB at h;generalize (execOp a.eval o).run P w=res at h;cases res with
 |ok x w'=>
  cases x<;>simp only[Oper.upon]at h<;>simp only[N1]<;>first|exact h.elim|exact h|skip
  exact⟨λhd=>(by cases hd),(callsIn_wide (n:=n-1)).2 h⟩;refine⟨λhd=>(by cases hd),λc cs _=>?_⟩;obtain⟨v,O6,k1,k2⟩:=h c cs;exact⟨v,O6,k1,stepsIn_wide.2 k2⟩
 |halt x w'=>cases x<;>simp only[Oper.upon]at h<;>simp only[N1]<;>first|exact h.elim|exact h
theorem yO{as us:List AV}{vs:List Value}{K:AV->KK}{X:XX}(h:yP G.P v as E H K X)(Ai:AJ G C mu E H a w)(hr:Ac C w as mu vs):
  ∃l,v=.func (.yield l) #[] #[]/\∀n,YieldAt (fw none) n G.P l vs.toArray w λe w'=>(∃r u H',e=.returned u/\K r E H'/\AJ G C mu E H' a w'/\Aj C w' r mu u)\/∃u H',e=.panicked [{v:=u,recovered:=false}]/\X (.panic (.raw u)) E H'/\AJ G C mu E H' a w':=by
 obtain⟨hc,h⟩:=h;replace h:=Bf.1 h;obtain⟨ob,BR,h⟩:=h;cases ob<;>first|exact h.elim|skip
 rename_i I;obtain⟨It,If,Ip,⟨eqs,l,hv,hy⟩,h3,h1,h2⟩:=h;rw[AY]at h1 h2;obtain⟨ms,d1,d2⟩:=Ai.defers;obtain⟨_,Sw,Sr,hf,hJ,wD,wB⟩:=d2.Ho 0 I BR;have h0:0<H.length:=(A1.1 BR).1;refine⟨l,hv,λn=>?_⟩;obtain⟨fn,tmps,assign,body,y1,y2⟩:=hy C w vs Sw Sr n Ai.lt hf.cb hf.base hf.HT hf.sub hf.lt hJ (BD as hc hr);refine⟨fn,tmps,assign,body,y1,y2.mono λe w' ⟨EU,D9,q1,q2,q3,q4,q5,q6⟩=>?_⟩;have hx:Ext C C w w':=Ext.of_block (λ_ _ h=>h) λb o hc=>q1.block b ⟨Ai.lt b o hc,λhs=>hf.HT b o hs hc⟩;have Ce:∀{i g b},mu i=some g->g.Az=some b->w'.heap[b]?=w.heap[b]?:=λ{i g b} hi hg=>q1.block b ⟨(Ai.heap.fresh i g b hi hg).2.1,λhs=>hf.own b (hf.sub b hs) i g hi hg⟩
 have key:∀(In:Inv),In.Cb=I.Cb->In.nb=I.nb->In.J EU D9 w'->AJ G C mu E (H.set 0 (.inv In)) a w':=λIn eq1 eq2 hIn=>by
  have get:∀{i QS},(H.set 0 (.inv In))[i]?=some QS->(i=0/\QS=.inv In)\/(H[i]?=some QS):=λ{i QS} hi=>by by_cases e:0=i;subst e;rw[Be h0]at hi;simp only[A3.injEq]at hi;exact .inl ⟨rfl,hi.symm⟩;rw[A0 e]at hi;exact .inr hi
  have R7:∀D:Nat×Obj,¬Sr D.1->CS C w G.fresh mu D->CS C w' G.fresh mu D:=λD hd m=>by refine⟨?_,m.HT,m.own,m.fr⟩;rw[q1.block D.1 ⟨(Am.1 m.at_).1,λhs=>hd (hf.sub D.1 hs)⟩];exact m.at_
  have VB:∀D:Nat×Obj,¬Sr D.1->CS C w G.fresh mu D->¬D9 D.1:=λD hd m hs=>by rcases q3 D.1 hs with k|k|⟨o,k⟩;exact hd k;have:=(Am.1 m.at_).1;omega;exact m.HT o k
  have gg:∀{i:Nat}{cs:List AV}{us:List Value}{DL:List Nat},(H.set 0 (.inv In))[i]?=some (.ghost cs us DL)->H[i]?=some (.ghost cs us DL):=λ{i cs us DL} hi=>by rcases get hi with⟨_,h⟩|h;cases h;exact h
  have pP:(∀D∈ms.map (λD=>(D,Gj))++G.Lf,¬D9 D.1)/\∀(l:Nat)(cs:List AV)(vs:List Value)(DL:List Nat),(H.set 0 (.inv In))[l]?=some (.ghost cs vs DL)->∀D∈DL,¬D9 D:=
   ⟨λD hd=>VB D (wD D hd) (d2.marks D hd),λl cs vs DL hl D hd=>VB (D,Gj) (wB l cs vs DL (gg hl) D hd) ((d2.BG l cs vs DL (gg hl)).2.2 D hd).1⟩
  refine⟨Ai.c0,Ai.c1,λb o hc=>A4 (Ai.lt b o hc) q1.size,⟨λi g hi=>by simpa using Ai.heap.JX i g hi,λi g b hi hg=>?_,Ai.heap.sep,λi hi=>?_,λi cs hi=>?_,λi e sz es hi=>?_,λi ks vs hi=>?_⟩,
   Ac.mono hx _ (AU.refl _) Ai.env,⟨ms,d1,λi cs us DL hi=>?_,λi I' hi=>?_,λd hd=>R7 d (wD d hd) (d2.marks d hd),d2.nd,λl l' cs vs ms cs' CJ DL hl CT BK=>d2.sep l l' cs vs ms cs' CJ DL (gg hl) (gg CT) BK⟩,?_,by simpa using Ai.Dv.1,Ai.Dv.2⟩
  obtain⟨k1,k2,k3⟩:=Ai.heap.fresh i g b hi hg;exact⟨k1,A4 k2 q1.size,k3⟩
  ·rcases get hi with⟨_,h⟩|h;·cases h
   exact Ai.heap.dead i h
  ·rcases get hi with⟨_,h⟩|h;·cases h
   obtain⟨b,cur,e,k1,k2,k3,k4⟩:=Ai.heap.Dp i cs h;exact⟨b,cur,e,k1,by rw[Ce k1 rfl];exact k2,Ac.mono hx _ (AU.refl _) k3,k4⟩
  ·rcases get hi with⟨_,h⟩|h;·cases h
   obtain⟨k0,k⟩:=Ai.heap.Dk i e sz es h;refine⟨k0,k.imp id λ⟨b,cap,cur,k1,k2,k3,k4,k5,k6,k7⟩=>⟨b,cap,cur,k1,k2.of_eq (by rw[Ce k1 rfl]),k3,k4,k5,Ac.mono hx _ (AU.refl _) k6,k7⟩⟩
  ·rcases get hi with⟨_,h⟩|h;·cases h
   obtain⟨b,es,cl,k1,k2,k3⟩:=Ai.heap.maps i ks vs h;exact⟨b,es,cl,k1,by rw[Ce k1 rfl];exact k2,k3⟩
  ·rcases get hi with⟨_,h⟩|h;·cases h
   obtain⟨k1,k3,k2⟩:=d2.BG i cs us DL h;exact⟨Ac.mono hx _ (AU.refl _) k1,k3,λd hd=>⟨R7 (d,Gj) (wB i cs us DL h d hd) (k2 d hd).1,(k2 d hd).2⟩⟩
  ·rcases get hi with⟨rfl,h⟩|h
   ·simp only[HO.inv.injEq]at h;subst h;exact Yag
   have hi0:=(d2.Ho i I' h).1;subst hi0;rw[Be h0]at hi;simp only[A3.injEq,HO.inv.injEq]at hi;subst hi;exact Yag
  refine⟨q1.os.trans Ai.Ax.os,q1.tape.trans Ai.Ax.tape,q1.output.trans Ai.Ax.output,Bc Ai.Ax.size q1.size,λk hk hm=>?_⟩;rw[q1.block k ⟨A4 hk Ai.Ax.size,λhs=>?_⟩];exact Ai.Ax.block k hk hm;rcases hf.fr k hs with h|h;omega;exact hm h
 rcases q6 with⟨rfl,Y8⟩|⟨rfl,Y8⟩|⟨u,rfl,Y8⟩;exact .inl ⟨_,_,_,rfl,h1,key It eqs.1 eqs.2.1 Y8,by unfold Aj;rfl⟩;exact .inl ⟨_,_,_,rfl,h2,key If eqs.2.2.1 eqs.2.2.2.1 Y8,by unfold Aj;rfl⟩;have h3:=h3 u;rw[AY]at h3;exact .inr ⟨u,_,rfl,h3,key (Ip u) (eqs.2.2.2.2 u).1 (eqs.2.2.2.2 u).2 Y8⟩
theorem Ex{al:Option Nat}(hT:CY G.P T){K:AV->KK}{X:XX}{Kn:KK}{r:Option Nat}{n:Nat}(h:TX al G.P T E H o.op K X)(Ai:AJ G C mu E H a w)(hn:∀a w,I9 G o K a w->next a w):
  o.wpIn (fw r) n G.P a w next (L6 G Kn X):=by
 have O2:∀c,o.op≠.defer c:=λc hc=>by rw[hc]at h;exact h
 by_cases hy:∃c f v,o.op=.call c/\c.callee=.value f/\BL E f=.raw v
 ·obtain⟨c,f,v,ho,hc,dP⟩:=hy;rw[ho]at h;unfold TX at h;simp only[hc]at h;rw[Ae,dP]at h;simp only at h;rw[Di (DF E) (BL E) (Ae E)]at h;have hf:=Bv Ai.env f;rw[dP]at hf;have vT:a.eval f=v:=by unfold Aj at hf;exact hf
  obtain⟨l,rfl,hy⟩:=yO (us:=[]) h Ai (Li Ai.env _);refine⟨λ_ _=>trivial,?_⟩;rw[Vb _ _ _ O2];obtain⟨fn,tmps,assign,body,y1,y2⟩:=hy (n-1);have BQ:(execOp a.eval o).run G.P w=.ok (.round l fn tmps assign body) w:=by obtain⟨Gs,args,N0⟩:=c;simp only at hc;subst hc;simp only[<-Array.toList_map]at y1;simp[execOp,ho,resolve,invoke,vT,Deferred.ofValue,y1]
  rw[BQ];refine⟨λh=>(by cases h),y2.mono λe w' hp=>?_⟩;rcases hp with⟨r,u,H',he,k1,k2,k3⟩|⟨u,H',he,k1,k2⟩;subst he;exact hn _ _ ⟨r,E,H',k1,C,mu,k2.frame (BF k2.env o.dst k3) (put_defers _ _ _)⟩;subst he;exact⟨.raw u,u,E,H',C,mu,rfl,k1,k2,by unfold Aj;rfl⟩
 exact Dd O2 (tL hT h Ai hn hy)
end
def gdK(ops:List Oper)(E:List AV)(g:Option (Nat×Bool))(Ky Kn:List AV->Prop):Prop:=
 match g with
 |none=>Ky E
 |some (j,want)=>Dr ops j λoj=>match oj.dst with
  |some d=>Dr E d λv=>(match v with
   |.lit b=>(match b,want with
    |true,true|false,false=>Ky E
    |true,false=>Kn E
    |false,true=>Kn E)
   |.bool b=>(match want with
    |true=>(b=true->Dn E d (.lit true) Ky)/\(b=false->Dn E d (.lit false) Kn)
    |false=>(b=false->Dn E d (.lit false) Ky)/\(b=true->Dn E d (.lit true) Kn))
   |.raw (.tuple ⟨[]⟩)=>Kn E
   |_=>False)
  |none=>False
def BV(E:List AV)(d:Option Tmp)(x:AV)(K:List AV->Prop):Prop:=match d with|some d=>Dn E d x K|none=>K E
theorem AF(E:List AV)(d:Option Tmp)(x:AV)(K:List AV->Prop):BV E d x K↔K (B8 E d x):=by
 cases d<;>simp[BV,B8,AY]
def TI(P:Program)(T:List TY)(ops:List Oper):List Oper->List AV->List HO->KK->XX->Prop
 |[],E,H,K,_=>K E H
 |o::r,E,H,K,X=>gdK ops E o.guard
   (λE=>TX none P T E H o.op (λv E' H'=>BV E' o.dst v λGp=>TI P T ops r Gp H' K X) X)
   (λE=>BV E o.dst (.raw undef) λE'=>TI P T ops r E' H K X)
def Qq(F:Fence)(n:Nat)(P:Program)(c:Code)(Q:Exit->Act->World->Prop)(a:Act)(w:World):Prop:=
 ∀(b:Frame)(k:List Item)(cs:List Frame),b.roundOf=F.round->F.fn b.fn->F.room (cs.length+1+n)->(P.funcs[b.fn]?).isSome=true->
  ∃e a' w',Q e a' w'/\ArrivesIn (Machine.fenced P F) P (lone (b.atR a (.code c::k)) cs w) b k cs e a' w'
section
variable {F:Fence}{n:Nat}{P:Program}{Q:Exit->Act->World->Prop}{a:Act}{w:World}
theorem Vy(h:c.wpIn F n P Q a w):Qq F n P c Q a w:=λb k cs h1 h2 h3 _=>h b k cs h1 h2 h3
theorem BX{Q':Exit->Act->World->Prop}(h:Qq F n P c Q a w)(hq:∀e a w,Q e a w->Q' e a w):Qq F n P c Q' a w:=
 λb k cs h1 h2 h3 h4=>let ⟨e,a',w',q,r⟩:=h b k cs h1 h2 h3 h4;⟨e,a',w',hq _ _ _ q,r⟩
theorem SK{x:Code}(h:Qq F n P x (Exit.then (Qq F n P y Q) Q) a w):Qq F n P (.seq x y) Q a w:=λb k cs h1 h2 h3 h4=>by
 have h0:(lone (b.atR a (.code (.seq x y)::k)) cs w).fenced P F:=fenced_calm h2 h3 rfl;obtain⟨e,a1,w1,q,r⟩:=h b (.code y::k) cs h1 h2 h3 h4;cases e with
 |normal=>
  obtain⟨e2,a2,w2,q2,r2⟩:=q b k cs h1 h2 h3 h4;exact⟨e2,a2,w2,q2,.of_steps (.head h0 stepR_seq r) r2⟩
 |_=>exact⟨_,a1,w1,q,.of_steps (.one h0 stepR_seq) (.pass (x:=.code y) rfl (λ_ _=>.inl (by simp)) r)⟩
theorem O4{c:Operand}{x:Code}{t:Bool}(hc:a.eval c=.bool t)(h:Qq F n P (if t then x else y) Q a w):Qq F n P (.cond c x y) Q a w:=
 λb k cs h1 h2 h3 h4=>let ⟨e,a',w',q,r⟩:=h b k cs h1 h2 h3 h4;⟨e,a',w',q,.of_steps (.one (fenced_calm h2 h3 rfl) (stepR_cond hc)) r⟩
theorem NY{c:Operand}{x:Code}(hc:a.eval c=.bool true)(h:Qq F n P x Q a w):Qq F n P (.cond c x y) Q a w:=O4 hc h
theorem Ma{c:Operand}{x:Code}(hc:a.eval c=.bool false)(h:Qq F n P y Q a w):Qq F n P (.cond c x y) Q a w:=O4 hc h
theorem L9{c:Operand}{x:Code}{t:Bool}(hc:a.eval c=.bool t)(ht:t=true->Qq F n P x Q a w)(hf:t=false->Qq F n P y Q a w):Qq F n P (.cond c x y) Q a w:=by
 cases t;exact O4 hc (hf rfl);exact O4 hc (ht rfl)
theorem Wj{id:Nat}(h:Qq F n P c (Exit.inBlock id Q) a w):Qq F n P (.block id c) Q a w:=λb k cs h1 h2 h3 h4=>by
 have h0:(lone (b.atR a (.code (.block id c)::k)) cs w).fenced P F:=fenced_calm h2 h3 rfl;obtain⟨e,a1,w1,q,r⟩:=h b (.inBlock id::k) cs h1 h2 h3 h4;cases e with
 |normal=>exact⟨.normal,a1,w1,q,.head h0 stepR_block (StepsIn.trans r (.one (fenced_calm h2 h3 rfl) stepR_inBlock))⟩
 |exit i=>
  simp only[Exit.inBlock]at q;split at q;·rename_i e;exact⟨.normal,a1,w1,q,.head h0 stepR_block (r.1 k (by simp[exitTo,e]))⟩
  rename_i e;have hx:exitTo i (.inBlock id::k)=exitTo i k:=by (have:(id == i)=false:=by simpa using λh=>e h.symm);simp[exitTo,this]
  exact⟨.exit i,a1,w1,q,λk' hk=>.head h0 stepR_block (r.1 k' (by rw[hx];exact hk)),λhr hk=>let ⟨k1,g1,g2⟩:=r.2 hr (by rw[hx];exact hk);⟨k1,g1,.head h0 stepR_block g2⟩⟩
 |goto l=>
  have hx:gotoIn l (.inBlock id::k)=gotoIn l k:=by simp[gotoIn]
  exact⟨_,a1,w1,q,λk' hk=>.head h0 stepR_block (r.1 k' (by rw[hx];exact hk)),λhr hk=>let ⟨k1,g1,g2⟩:=r.2 hr (by rw[hx];exact hk);⟨k1,g1,.head h0 stepR_block g2⟩⟩
 |ret|panic _|outgrown=>exact⟨_,a1,w1,q,.of_steps (.one h0 stepR_block) r⟩
theorem ZQ(I:Act->World->Prop)(m:Act->World->Nat)(hI:I a w)(round:∀a w,I a w->Qq F n P c (Exit.then (λa' w'=>I a' w'/\m a' w'<m a w) Q) a w):Qq F n P (.loop c) Q a w:=λb k cs h1 h2 h3 h4=>by
 have key:∀j a w,m a w=j->I a w->∃e a' w',Q e a' w'/\ArrivesIn (Machine.fenced P F) P (lone (b.atR a (.code c::.inLoop c::k)) cs w) b k cs e a' w':=by
  intro j
  induction j using Ts with
  |_ j ih=>
   intro a w hj hI;obtain⟨e,a1,w1,q,r⟩:=round a w hI b (.inLoop c::k) cs h1 h2 h3 h4;cases e with
   |normal=>
    obtain⟨e2,a2,w2,q2,r2⟩:=ih _ (by rw[<-hj];exact q.2) a1 w1 rfl q.1;exact⟨e2,a2,w2,q2,.of_steps (StepsIn.trans r (.one (fenced_calm h2 h3 rfl) stepR_inLoop)) r2⟩
   |_=>exact⟨_,a1,w1,q,.pass (x:=.inLoop c) rfl (λ_ _=>.inl (by simp)) r⟩
 obtain⟨e,a1,w1,q,r⟩:=key _ a w rfl hI;exact⟨e,a1,w1,q,.of_steps (.one (fenced_calm h2 h3 rfl) stepR_loop) r⟩
theorem DE{args:Array Value}{R:Ending->World->Prop}(hf:P.funcs[f]?=some fn)(hb:fn.body=some c)(hF:F.fn f)
  (h:Qq F n P c (bodyPostM F n P fn R) {tmps:=args++Fw (fn.ntmps-args.size) undef,defers:=[]} w) (pM:F.round=none:=by rfl):CallsIn F n P f args w R:=by
 refine⟨hF,λcs hr=>?_⟩;let b:Frame:={(default:Frame)with fn:=f,kind:=.normal,roundOf:=none}
 have yJ:Frame.enter P f args .normal=b.atR {tmps:=args++Fw (fn.ntmps-args.size) undef,defers:=[]} [.code c]:=by simp[Frame.enter,Frame.atR,hf,hb,b]
 obtain⟨e,a',w',q,r⟩:=h b [] cs pM.symm hF hr (by simp[b,hf]);rw[<-yJ]at r;cases e with
 |normal=>
  obtain⟨e',w2,fr,k1,k2,k3⟩:=leaves_stepsInM a'.defers .returning w' {b.atR a' []with mode:=.returning} cs rfl rfl rfl hf rfl hF hr q;exact⟨e',w2,fr,k1,ComesIn.of_steps (StepsIn.trans r (.one (fenced_calm (fr:=b.atR a' []) hF hr rfl) (stepR_end rfl))) k2,k3⟩
 |ret=>
  obtain⟨todo,hs⟩:=r.1 rfl;obtain⟨e',w2,fr,k1,k2,k3⟩:=leaves_stepsInM a'.defers .returning w' {b.atR a' todo with mode:=.returning} cs rfl rfl rfl hf rfl hF hr q;exact⟨e',w2,fr,k1,ComesIn.of_steps hs k2,k3⟩
 |panic ch=>
  obtain⟨todo,hs⟩:=r;obtain⟨e',w2,fr,k1,k2,k3⟩:=leaves_stepsInM a'.defers (.panicking ch) w' {b.atR a' todo with mode:=.panicking ch} cs rfl rfl rfl hf rfl hF hr q;exact⟨e',w2,fr,k1,ComesIn.of_steps hs k2,k3⟩
 |outgrown=>exact⟨.outgrown,w',b,q,r.resolve_left (by simp[b]),rfl,trivial⟩
 |_=>exact q.elim
theorem NX{g:Operand}{ps:Array Tmp}{assign body:Code}
  (h:∀fn,F.fn fn->(P.funcs[fn]?).isSome=true->∃(l:Nat) (mark:List Deferred) (w1:World) (d:Deferred) (w1':World) (f:FuncId) (args:Array Value) (w2:World),
   (Instr.enterLoop fn a.tmps ps assign body F.round).run P w=.ok (l,mark) w1/\(resolve a.eval (rangeCall g l) 0).run P w1=.ok d w1'/\(∀f',Target.leads P w1' d.target d.args=some f'->F.fn f')/\
   (invoke d.target d.args).run P w1'=.ok (.enter f args) w2/\(F.depth.isSome=true->1<=n)/\CallsIn F (n-1) P f args w2 (rangePost F n P l Q {a with defers:=mark++a.defers})):
  Qq F n P (.rangeFunc g ps assign body) Q a w:=λb k cs pM hb hr hv=>by
 obtain⟨l,mark,w1,d,w1',f,args,w2,he,Ik,Zkj,hinv,hn,hF,Xt⟩:=h b.fn hb hv;rw[<-pM]at he;obtain⟨a2,ha2⟩:∃a2:Act,a2={a with defers:=mark++a.defers}:=⟨_,rfl⟩;have h0:(lone (b.atR a (.code (.rangeFunc g ps assign body)::k)) cs w).fenced P F:=by refine fenced_lone (.inl hb) (λf' hf'=>Zkj f' ?_) (Fence.room_le hr (by omega));have lC:=Frame.eval_atR b a (.code (.rangeFunc g ps assign body)::k);simp only[Frame.atR]at lC;simp only[Frame.about,Frame.atR,he,lC,Ik]at hf';exact hf'
 have yJ:=stepR_rangeFunc (P:=P) (b:=b) (a:=a) (k:=k) (cs:=cs) (w:=w) he Ik hinv;rw[<-ha2]at yJ Xt;have room:F.room ((b.atR a2 (.inRangeFunc l::k)::cs).length+1+(n-1)):=Fence.room_enter hr hn;obtain⟨e,w3,fr,hR,hs,Xo,hl⟩:=Xt (b.atR a2 (.inRangeFunc l::k)::cs) room;have out:e≠.outgrown->(lone fr (b.atR a2 (.inRangeFunc l::k)::cs) w3).fenced P F:=λhe=>fenced_leaving (Xo▸hF) room hl he;cases e with
 |outgrown=>
  obtain⟨a0,w0,q⟩:=hR;exact⟨.outgrown,a0,w0,q,.inr (Outgrown.of_steps (.one yJ) hs)⟩
 |returned v=>
  obtain⟨jump,w4,vW,hj⟩:=hR;have back:StepsIn (Machine.fenced P F) P (lone (b.atR a (.code (.rangeFunc g ps assign body)::k)) cs w) (lone (b.atR a2 ((jump.map Item.code).toList++k)) cs w4):=by refine .head h0 yJ (StepsIn.trans hs (.head (out (by simp)) ?_ (.one (fenced_calm (fr:=b.atR a2 (.endRangeFunc l::k)) hb hr rfl) (stepR_endRangeFunc vW))));rw[<-finish_atR_inRangeFunc l v];exact step_leave_returned hl
  cases jump with
  |none=>exact⟨.normal,a2,w4,hj,back⟩
  |some c=>
   obtain⟨e',a',w5,q,r⟩:=hj b k cs pM hb hr;exact⟨e',a',w5,q,.of_steps back r⟩
 |panicked ch=>
  refine⟨.panic ch,a2,w3,hR,.inRangeFunc l::k,.head h0 yJ (StepsIn.trans hs (.one (out (by simp)) ?_))⟩;rw[<-Frame.raise_atR];exact step_leave_panicked hl
def iY(F:Fence)(n:Nat)(P:Program)(l:Nat)(fn:Func)(R:Ending->World->Prop):Exit->Act->World->Prop
 |.panic ch,a,w=>LeavesInM F n P fn a.tmps R a.defers (.panicking ch) w
 |e,a,w=>roundPost P l R e a w
theorem Mo{l:Nat}{assign body:Code}{R:Ending->World->Prop}(hF:F.fn f)(hf:P.funcs[f]?=some fn)
  (h:Qq (F.inRound l) n P assign (Exit.then (λa1 w1=>∃w2,(Instr.beginRound l).run P w1=.ok () w2/\Qq (F.inRound l) n P body (iY F n P l fn R) a1 w2) (λ_ _ _=>False)) {tmps:=tmps,defers:=[]} w):
  RoundIn F n P l f tmps assign body w R:=by
 refine⟨hF,λc cs hr=>?_⟩;let b:Frame:={(default:Frame)with fn:=f,kind:=.normal,roundOf:=some l}
 have hb0:Frame.round l f tmps assign body .normal=b.atR {tmps:=tmps,defers:=[]} [.code assign,.beginRound,.code body]:=by simp[Frame.round,Frame.atR,b]
 have Ll:(F.inRound l).room ((c::cs).length+1+n):=hr;have hF':(F.inRound l).fn b.fn:=hF;have hv:(P.funcs[b.fn]?).isSome=true:=by simp[b,hf]
 obtain⟨e,a1,w1,q,r⟩:=h b [.beginRound,.code body] (c::cs) rfl hF' Ll hv;rw[<-hb0]at r;cases e with
 |normal=>
  obtain⟨w2,hbr,ZbP⟩:=q
  have s1:StepsIn (Machine.fenced P (F.inRound l)) P (lone (b.atR a1 [.beginRound,.code body]) (c::cs) w1) (lone (b.atR a1 [.code body]) (c::cs) w2):=
   .one (fenced_calm (fr:=b.atR a1 [.beginRound,.code body]) hF' Ll rfl) (stepR_beginRound rfl hbr)
  obtain⟨e2,a2,w3,q2,r2⟩:=ZbP b [] (c::cs) rfl hF' Ll hv;have go:=StepsIn.trans r s1;cases e2 with
  |normal=>
   obtain⟨v,w4,k1,k2⟩:=q2;exact⟨.returned v,w4,k2,go.trans (StepsIn.trans r2 (.one (fenced_calm (fr:=b.atR a2 []) hF' Ll rfl) (stepR_round_end rfl rfl k1)))⟩
  |ret=>
   obtain⟨v,w4,k1,k2⟩:=q2;obtain⟨k3,hs⟩:=r2.2 rfl;exact⟨.returned v,w4,k2,go.trans (StepsIn.trans hs (.one (fenced_calm (fr:=b.atR a2 (.code .ret::k3)) hF' Ll rfl) (stepR_round_ret rfl rfl k1)))⟩
  |exit id=>
   obtain⟨v,w4,k1,k2⟩:=q2;obtain⟨k3,hk,hs⟩:=r2.2 rfl rfl;exact⟨.returned v,w4,k2,go.trans (StepsIn.trans hs (.one (fenced_calm (fr:=b.atR a2 (.code (.exit id)::k3)) hF' Ll rfl) (stepR_round_exit rfl rfl hk k1)))⟩
  |goto t=>
   obtain⟨v,w4,k1,k2⟩:=q2;obtain⟨k3,hk,hs⟩:=r2.2 rfl rfl;exact⟨.returned v,w4,k2,go.trans (StepsIn.trans hs (.one (fenced_calm (fr:=b.atR a2 (.code (.goto t)::k3)) hF' Ll rfl) (stepR_round_goto rfl rfl hk k1)))⟩
  |panic ch=>
   obtain⟨todo,hs⟩:=r2;obtain⟨e',w4,fr,k1,k2,k3,k4⟩:=leaves_stepsInM a2.defers (.panicking ch) w3 {b.atR a2 todo with mode:=.panicking ch} (c::cs) rfl rfl rfl hf rfl hF hr q2;refine⟨e',w4,k1,?_⟩;cases e' with
   |returned v=>exact(go.trans hs).trans (StepsIn.trans k2 (.one (fenced_leaving (n:=n) (k3▸hF) hr k4) (step_leave_returned k4)))
   |panicked ch2=>exact(go.trans hs).trans (StepsIn.trans k2 (.one (fenced_leaving (n:=n) (k3▸hF) hr k4) (step_leave_panicked k4)))
   |outgrown=>exact Outgrown.of_steps (go.trans hs).steps k2
  |outgrown=>exact q2.elim
 |_=>exact q.elim
end
structure Aa(P:Program)(c:Code)(E:List AV)(H:List HO)(K:KK)(X:XX):Prop where
 out:∀(n:Nat)(G:Cx)(a:Act)(w:World),G.P=P->St G E H a w->Qq (fw G.rd) n P c (L6 G K X) a w
def nD(P:Program)(T:List TY):Code->List AV->List HO->KK->XX->Prop
 |.skip,E,H,K,_=>K E H
 |.region id ops draw,E,H,K,X=>match draw with
  |false=>TI P T ops.toList ops.toList E H K X
  |true=>Aa P (.region id ops true) E H K X
 |.seq a b,E,H,K,X=>nD P T a E H (λE H=>nD P T b E H K X) X
 |.cond c a b,E,H,K,X=>DF E c λv=>match v with
  |.lit t=>(match t with|true=>nD P T a E H K X|false=>nD P T b E H K X)
  |.bool t=>(t=true->nD P T a E H K X)/\(t=false->nD P T b E H K X)
  |_=>False
 |.block id b,E,H,K,X=>nD P T b E H K λe E H=>match e with
  |.exit i=>(match Bg i id with|true=>K E H|false=>X (.exit i) E H)
  |.ret=>X .ret E H
  |.panic x=>X (.panic x) E H
 |.exit id,E,H,_,X=>X (.exit id) E H
 |.ret,E,H,_,X=>X .ret E H
 |.label _,E,H,K,_=>K E H
 |.scope b,E,H,K,X=>nD P T b E H K X
 |c,E,H,K,X=>Aa P c E H K X
section
variable {G:Cx}{C:Af}{w w':World}{mu:Mu}{H:List HO}{E:List AV}{a:Act}{T:List TY}{P:Program}
theorem L6.mono{K K':KK}{X X':XX}(hK:∀E H,K E H->K' E H)(hX:∀e E H,X e E H->X' e E H):∀e a w,L6 G K X e a w->L6 G K' X' e a w
 |.normal,_,_,⟨E,H,h1,h2⟩=>⟨E,H,hK _ _ h1,h2⟩
 |.exit _,_,_,⟨E,H,h1,h2⟩|.ret,_,_,⟨E,H,h1,h2⟩=>⟨E,H,hX _ _ _ h1,h2⟩
 |.panic _,_,_,⟨x,v,E,H,C,mu,h1,h2,h3⟩=>⟨x,v,E,H,C,mu,h1,hX _ _ _ h2,h3⟩
 |.goto _,_,_,h=>h
 |.outgrown,_,_,h=>h
theorem JA{E:List AV}(h:Ac C w E mu tmps.toList){d:Nat}(hd:E[d]?=some x):∃v,tmps[d]?=some v/\Aj C w x mu v:=by
 obtain⟨h1,h2⟩:=(Bo E).1 h;obtain⟨hi,hx⟩:=A1.1 hd;have EW:d<tmps.toList.length:=by omega
 refine⟨tmps.toList[d],by simp at EW⊢,?_⟩;have:=h2 d hi EW;rwa [hx]at this
theorem JI{E:List AV}(h:Ac C w E mu tmps.toList){d:Nat}(hv:tmps[d]?=some v)(hx:Aj C w x mu v):Ac C w (E.set d x) mu tmps.toList:=by
 have:=h.put d hx
 have e:tmps.setIfInBounds d v=tmps:=by
  apply N3;intro i;rw[LL];split;·rename_i hi;subst hi;have AA:=(Am.1 hv).1;simp[AA,hv];obtain⟨_,hv⟩:=Am.1 hv;exact hv.symm
  rfl
 rwa [e]at this
theorem GK{ops:Array Oper}{g:Option (Nat×Bool)}(hg:o.guard=g){Ky Kn:List AV->Prop}(Ai:AJ G C mu E H a w)(h:gdK ops.toList E g Ky Kn):
  (Bb o (yielded ops a.tmps)=true/\∃E',Ky E'/\AJ G C mu E' H a w)\/(Bb o (yielded ops a.tmps)=false/\∃E',Kn E'/\AJ G C mu E' H a w):=by
 subst hg;unfold gdK at h;split at h;·rename_i hg;exact .inl ⟨by simp[Bb,hg],E,h,Ai⟩
 rename_i j want hg;replace h:=Bf.1 h;obtain⟨oj,DP,h⟩:=h;split at h
 ·rename_i d hd;replace h:=Bf.1 h;obtain⟨v,hv,h⟩:=h;obtain⟨u,hu,hr⟩:=JA Ai.env hv;have hy:∀b,u=.bool b->yielded ops a.tmps j=some b:=λb hb=>by (have:ops[j]?=some oj:=by simpa using DP);simp[yielded,this,hd,hu,hb]
  have hw:∀b,u=.bool b->Bb o (yielded ops a.tmps)=(b == want):=λb hb=>by simp[Bb,hg,hy b hb]
  have Zdr:∀b,u=.bool b->AJ G C mu (E.set d (.lit b)) H a w:=λb hb=>
   Ai.frame (JI Ai.env hu (by unfold Aj;exact hb)) rfl
  split at h;·rename_i b;have hb:=B5 hr;split at h;exact .inl ⟨by rw[hw _ hb];rfl,E,h,Ai⟩;exact .inl ⟨by rw[hw _ hb];rfl,E,h,Ai⟩;exact .inr ⟨by rw[hw _ hb];rfl,E,h,Ai⟩;exact .inr ⟨by rw[hw _ hb];rfl,E,h,Ai⟩
  ·rename_i b;have hb:=BY hr;split at h
   ·cases b with
    |true=>have:=h.1 rfl;rw[AY]at this;exact .inl ⟨by rw[hw _ hb];rfl,_,this,Zdr _ hb⟩
    |false=>have:=h.2 rfl;rw[AY]at this;exact .inr ⟨by rw[hw _ hb];rfl,_,this,Zdr _ hb⟩
   cases b with
   |false=>have:=h.1 rfl;rw[AY]at this;exact .inl ⟨by rw[hw _ hb];rfl,_,this,Zdr _ hb⟩
   |true=>have:=h.2 rfl;rw[AY]at this;exact .inr ⟨by rw[hw _ hb];rfl,_,this,Zdr _ hb⟩
  ·(have hb:u=.tuple ⟨[]⟩:=by unfold Aj at hr;exact hr);refine .inr ⟨?_,E,h,Ai⟩;(have:ops[j]?=some oj:=by simpa using DP);simp[Bb,hg,yielded,this,hd,hu,hb]
  exact h.elim
 exact h.elim
theorem Hg(hT:CY G.P T){r:Option Nat}{n:Nat}{ops:Array Oper}{K:KK}{X:XX}:∀(l:List Oper){C:Af}{mu:Mu}{E:List AV}{H:List HO}{a:Act}{w:World},TI G.P T ops.toList l E H K X->AJ G C mu E H a w->wpListIn (fw r) n G.P ops (L6 G K X) l a w
 |[],_,_,_,_,_,_,h,Ai=>⟨_,_,h,_,_,Ai⟩
 |o::l,C,mu,E,H,a,w,h,Ai=>by unfold TI at h;unfold wpListIn;rcases GK rfl Ai h with⟨hw,E',h1,h2⟩|⟨hw,E',h1,h2⟩;rw[if_pos hw];refine Ex hT h1 h2 λa' w' hp=>?_;obtain⟨x,Gp,H',h3,C',mu',h4⟩:=hp;rw[AF]at h3;exact Hg hT l h3 h4;rw[if_neg (by simp[hw])];rw[AF]at h1;exact⟨λ_ _=>trivial,Hg hT l h1 (h2.frame (BF h2.env o.dst (by unfold Aj;rfl)) (put_defers _ _ _))⟩
theorem Jl{b:Frame}{a:Act}{k:List Item}{cs:List Frame}{w:World}:step P (lone (b.atR a (.code (.scope c)::k)) cs w)=.next (lone (b.atR a (.code c::.inScope c::k)) cs w):=
 step_lone_go (by simp[stepG,stepG.exec,Frame.atR])
theorem VK{b:Frame}{a:Act}{k:List Item}{cs:List Frame}{w:World}:step P (lone (b.atR a (.inScope c::k)) cs w)=.next (lone (b.atR a k) cs w):=
 step_lone_go (by simp[stepG,stepG.exec,Frame.atR])
theorem Wi{F:Fence}{n:Nat}{Q:Exit->Act->World->Prop}{a:Act}{w:World}(hg:∀l a w,¬Q (.goto l) a w)(h:Qq F n P c Q a w):Qq F n P (.scope c) Q a w:=by
 intro b k cs pM hb hr hv;have h0:(lone (b.atR a (.code (.scope c)::k)) cs w).fenced P F:=fenced_calm hb hr rfl;obtain⟨e,a₁,w₁,hq,dU⟩:=h b (.inScope c::k) cs pM hb hr hv;cases e with
 |normal=>exact⟨.normal,a₁,w₁,hq,.head h0 Jl (StepsIn.trans dU (.one (fenced_calm hb hr rfl) VK))⟩
 |exit id=>
  have hx:exitTo id (.inScope c::k)=exitTo id k:=by simp[exitTo]
  exact⟨.exit id,a₁,w₁,hq,λk' hk=>.head h0 Jl (dU.1 k' (by rw[hx];exact hk)),
   λLl hk=>let ⟨k₁,h1,h2⟩:=dU.2 Ll (by rw[hx];exact hk);⟨k₁,h1,.head h0 Jl h2⟩⟩
 |goto l=>exact absurd hq (hg _ _ _)
 |ret|panic ch|outgrown=>exact⟨_,a₁,w₁,hq,.of_steps (.one h0 Jl) dU⟩
theorem Ay(hT:CY P T):∀(c:Code){E:List AV}{H:List HO}{K:KK}{X:XX},nD P T c E H K X->Aa P c E H K X
 |.skip,E,H,K,X,h=>⟨λn G a w hP Ai=>Vy (wpIn_skip ⟨E,H,h,Ai⟩)⟩
 |.region id ops draw,E,H,K,X,h=>by
  unfold nD at h;cases draw with
  |false=>
   refine⟨λn G a w hP Ai=>?_⟩;obtain⟨C,mu,Ai⟩:=Ai;subst hP;exact Vy (wpIn_region_list (Hg hT _ h Ai))
  |true=>exact h
 |.seq x y,E,H,K,X,h=>⟨λn G a w hP Ai=>by
  unfold nD at h;refine SK (BX ((Ay hT x h).out n G a w hP Ai) λe a w q=>?_);cases e with
  |normal=>obtain⟨E',H',h1,h2⟩:=q;exact(Ay hT y h1).out n G a w hP h2
  |_=>exact q⟩
 |.cond c x y,E,H,K,X,h=>⟨λn G a w hP Ai=>by
  unfold nD at h;rw[Ae]at h;have UH:=Ai;obtain⟨C,mu,Dx⟩:=UH;have hr:=Bv Dx.env c;split at h
  ·rename_i t hb;rw[hb]at hr;have hv:=B5 hr;cases t with
   |true=>exact NY hv ((Ay hT x h).out n G a w hP Ai)
   |false=>exact Ma hv ((Ay hT y h).out n G a w hP Ai)
  ·rename_i t hb;rw[hb]at hr;have hv:=BY hr;exact L9 hv (λht=>(Ay hT x (h.1 ht)).out n G a w hP Ai) (λht=>(Ay hT y (h.2 ht)).out n G a w hP Ai)
  exact h.elim⟩
 |.block id b,E,H,K,X,h=>⟨λn G a w hP Ai=>by
  unfold nD at h;refine Wj (BX ((Ay hT b h).out n G a w hP Ai) λe a w q=>?_);cases e with
  |normal=>exact q
  |exit i=>
   obtain⟨E',H',h1,h2⟩:=q;simp only[Exit.inBlock];simp only at h1;split at h1;·rename_i hb;rw[if_pos (As hb)];exact⟨E',H',h1,h2⟩
   rename_i hb;rw[if_neg (Nat.ne_of_beq_eq_false hb)];exact⟨E',H',h1,h2⟩
  |ret|panic ch|goto l=>exact q
  |outgrown=>exact q⟩
 |.exit id,E,H,K,X,h=>⟨λn G a w hP Ai=>Vy (wpIn_exit ⟨E,H,h,Ai⟩)⟩
 |.ret,E,H,K,X,h=>⟨λn G a w hP Ai=>Vy (wpIn_ret ⟨E,H,h,Ai⟩)⟩
 |.loop b,_,_,_,_,h=>h
 |.rangeFunc _ _ _ _,_,_,_,_,h=>h
 |.scope b,E,H,K,X,h=>⟨λn G a w hP Ai=>by unfold nD at h;exact Wi (λl a w q=>q) ((Ay hT b h).out n G a w hP Ai)⟩
 |.label _,E,H,K,X,h=>⟨λn G a w hP Ai=>Vy (wpIn_label ⟨E,H,h,Ai⟩)⟩
 |.goto _,_,_,_,_,h=>h
 |.refuse _,_,_,_,_,h=>h
theorem Aa.mono{K K':KK}{X X':XX}(h:Aa P c E H K X)(hK:∀E H,K E H->K' E H)(hX:∀e E H,X e E H->X' e E H):Aa P c E H K' X':=
 ⟨λn G a w hP Ai=>BX (h.out n G a w hP Ai) (L6.mono hK hX)⟩
theorem Aa.seq{x:Code}{K:KK}{X:XX}(h:Aa P x E H (λE H=>Aa P y E H K X) X):Aa P (.seq x y) E H K X:=
 ⟨λn G a w hP Ai=>SK (BX (h.out n G a w hP Ai) λe a w q=>by
  cases e with
  |normal=>obtain⟨E',H',h1,h2⟩:=q;exact h1.out n G a w hP h2
  |_=>exact q)⟩
def leA(x y:AV):Prop:=
 match y with
 |.any=>True
 |.int k b=>(match x with|.int k' a=>(match uO k' k with|true=>a=b|false=>False)|_=>False)
 |.bool b=>(match x with|.bool a=>a=b|.lit a=>a=b|_=>False)
 |y=>x=y
def rH:List AV->List AV->Prop
 |[],[]=>True
 |x::xs,y::ys=>leA x y/\rH xs ys
 |_,_=>False
theorem Zd1{y:AV}(h:leA x y)(hr:Aj C w x mu v):Aj C w y mu v:=by
 unfold leA at h;split at h;exact Pp v
 ·split at h
  ·split at h;·rename_i hk;obtain rfl:=Q0 hk;subst h;exact hr
   exact h.elim
  exact h.elim
 ·split at h;·subst h;exact hr
  subst h;unfold Aj at*;exact hr;exact h.elim
 subst h;exact hr
theorem Qj:∀{xs ys:List AV}{vs:List Value},rH xs ys->Ac C w xs mu vs->Ac C w ys mu vs
 |[],[],_,_,h=>h
 |x::xs,y::ys,_,hl,h=>by unfold rH at hl;unfold Ac at*;obtain⟨v,CJ,h1,h2,h3⟩:=h;exact⟨v,CJ,h1,Zd1 hl.1 h2,Qj hl.2 h3⟩
 |[],_::_,_,hl,_|_::_,[],_,hl,_=>by unfold rH at hl;exact hl.elim
theorem St.le{E':List AV}(h:St G E H a w)(hl:rH E E'):St G E' H a w:=by
 obtain⟨C,mu,h⟩:=h;exact⟨C,mu,h.frame (Qj hl h.env) rfl⟩
def ZdV:Nat->Nat->List (Nat×AV)->List AV
 |0,_,_=>[]
 |n+1,i,[]=>.any::ZdV n (i+1) []
 |n+1,i,(j,v)::l=>match Bg i j with
  |true=>v::ZdV n (i+1) l
  |false=>.any::ZdV n (i+1) ((j,v)::l)
def mk(n:Nat)(l:List (Nat×AV)):List AV:=ZdV n 0 l
def YM:List AV->List AV->Prop->Prop
 |[],[],Q=>Q
 |x::xs,y::ys,Q=>(match y with
  |.any=>YM xs ys Q
  |.int k b=>(match x with|.int k' a=>(match uO k' k with|true=>a=b/\YM xs ys Q|false=>False)|_=>False)
  |.bool b=>(match x with|.bool a=>a=b/\YM xs ys Q|.lit a=>a=b/\YM xs ys Q|_=>False)
  |y=>x=y/\YM xs ys Q)
 |_,_,_=>False
theorem Ii:∀(xs ys:List AV)(Q:Prop),YM xs ys Q->rH xs ys/\Q
 |[],[],Q,h=>⟨trivial,h⟩
 |x::xs,y::ys,Q,h=>by
  unfold YM at h
  have key:leA x y/\YM xs ys Q:=by
   cases y with
   |any=>exact⟨trivial,h⟩
   |int k b=>
    cases x with
    |int k' a=>
     simp only at h;unfold leA;simp only;split at h;exact h;exact h.elim
    |_=>exact h.elim
   |bool b=>cases x<;>first|exact h|exact h.elim
   |_=>exact h
  obtain⟨h1,h2⟩:=Ii xs ys Q key.2;exact⟨⟨key.1,h1⟩,h2⟩
 |[],_::_,_,h|_::_,[],_,h=>by unfold YM at h;exact h.elim
theorem QY:∀(xs ys:List AV){Q:Prop},rH xs ys->Q->YM xs ys Q
 |[],[],_,_,q=>q
 |x::xs,y::ys,Q,h,q=>by
  unfold rH at h;have ih:=QY xs ys h.2 q;have h1:=h.1;unfold YM;cases y with
  |any=>exact ih
  |int k b=>
   cases x with
   |int k' a=>
    unfold leA at h1;simp only at h1⊢;split at h1;exact⟨h1,ih⟩;exact h1.elim
   |_=>exact h1.elim
  |bool b=>cases x<;>first|exact⟨h1,ih⟩|exact h1.elim
  |_=>exact⟨h1,ih⟩
 |[],_::_,_,h,_|_::_,[],_,h,_=>by unfold rH at h;exact h.elim
theorem Fe(p:Nat->Prop)(h:∃n,p n):∃n,p n/\∀m,p m->n<=m:=by
 obtain⟨n,hn⟩:=h
 induction n using Ts with
 |_ n ih=>
  by_cases hm:∃m,m<n/\p m;obtain⟨m,h1,h2⟩:=hm;exact ih m h1 h2;exact⟨n,hn,λm h=>by rcases Rr m n with h'|h';exact absurd ⟨m,h',h⟩ hm;exact h'⟩
open Classical in
theorem Aa.loop{b:Code}(Inv:Nat->KK){K:KK}{X:XX}(h0':∃n E',YM E E' (Inv n E' H))
  (step:∀n E H,Inv n E H->Aa P b E H (λE' H'=>∃m Gp,YM E' Gp (m<n/\Inv m Gp H')) X):Aa P (.loop b) E H K X:=by
 have h0:∃n E',rH E E'/\Inv n E' H:=let ⟨n,E',h⟩:=h0';⟨n,E',Ii _ _ _ h⟩
 refine⟨λn G a w hP Ai=>?_⟩;have hI0:∃n E H,Inv n E H/\St G E H a w:=by obtain⟨n,E',h1,h2⟩:=h0;exact⟨n,E',H,h2,Ai.le h1⟩
 let I:Act->World->Prop:=λa w=>∃n E H,Inv n E H/\St G E H a w
 let μ:Act->World->Nat:=λa w=>if h:I a w then Classical.choose (Fe _ h)else 0
 refine ZQ I μ hI0 λa w hI=>?_;have hm:μ a w=Classical.choose (Fe _ hI):=dif_pos hI;obtain⟨E1,H1,k1,k2⟩:=(Classical.choose_spec (Fe _ hI)).1;refine BX ((step _ _ _ k1).out n G a w hP k2) λe a' w' q=>?_;cases e with
 |normal=>
  obtain⟨E2,H2,⟨m,E3,ZmI⟩,k6⟩:=q;obtain⟨k4,k3,k5⟩:=Ii _ _ _ ZmI;have hI':I a' w':=⟨m,E3,H2,k5,k6.le k4⟩;refine⟨hI',?_⟩;have:μ a' w'=Classical.choose (Fe _ hI'):=dif_pos hI';rw[this,hm];have:=(Classical.choose_spec (Fe _ hI')).2 m ⟨E3,H2,k5,k6.le k4⟩;omega
 |exit id|ret|panic ch|goto l|outgrown=>exact q
theorem Aa.G6{b:Code}{ι:Type}(tm:ι->List AV)(hp:ι->List HO)(pre:ι->Prop)(μ:ι->Nat){K:KK}{X:XX}(h0:∃i,YM E (tm i) (H=hp i/\pre i))
  (step:∀i,pre i->Aa P b (tm i) (hp i) (λE' H'=>∃j,YM E' (tm j) (H'=hp j/\pre j/\μ j<μ i)) X):Aa P (.loop b) E H K X:=by
 refine Aa.loop (λn E H=>∃i,n=μ i/\E=tm i/\H=hp i/\pre i) ?_ ?_;obtain⟨i,h⟩:=h0;obtain⟨h1,h2,h3⟩:=Ii _ _ _ h;exact⟨μ i,tm i,QY _ _ h1 ⟨i,rfl,rfl,h2,h3⟩⟩;rintro n E H ⟨i,rfl,rfl,rfl,hi⟩;refine(step i hi).mono (λE' H' ⟨j,h⟩=>?_) (λ_ _ _ h=>h);obtain⟨h1,h2,h3,h4⟩:=Ii _ _ _ h;exact⟨μ j,tm j,QY _ _ h1 ⟨h4,j,rfl,rfl,h2,h3⟩⟩
end
structure Au(P:Program)(f:FuncId)(args:List AV)(R:AV->Prop):Prop where
 D7:Cp P f=true
 out:∀(C:Af)(w:World)(vs:List Value),gE C w->Ac C w args Mu.none vs->
  Calls P f vs.toArray w λe w'=>∃r v,e=.returned v/\R r/\Below w.heap.size w w'/\Aj (Mz C w.heap.size w'.heap.size) w' r Mu.none v
def D4(H:List HO)(v:AV)(K:AV->Prop):Prop:=
 match v with
 |.own l sz lo n=>Dr H l λob=>(match ob with
  |.arr _ De es=>(match Bg sz De&&Bg lo 0 with
   |true=>(n=es.length/\∀e∈es,closed e=true)/\K (.sl sz es)
   |false=>False)
  |_=>False)
 |.raw (.slice none 0 0)=>∃sz,K (.sl sz [])
 |.lit b=>K (.bool b)
 |.om l=>Dr H l λob=>(match ob with|.map ks vs=>K (.mp ks vs)|_=>False)
 |v=>(match closed v with|true=>v.force K|false=>False)
def GQ(H:List HO):List AV->(List AV->Prop)->Prop
 |[],K=>K []
 |a::as,K=>D4 H a λa=>GQ H as λas=>K (a::as)
def JT(H:List HO):Nat->AV->(AV->Prop)->Prop
 |0,v,K=>D4 H v K
 |n+1,v,K=>match v with
  |.fn f cap=>GZ (JT H n) cap λcs=>K (.fn f cs)
  |.mv f cap=>GZ (JT H n) cap λcs=>K (.mv f cs)
  |.agg cs=>GZ (JT H n) cs λcs=>K (.agg cs)
  |.iface t x=>JT H n x λx=>K (.iface t x)
  |.ptr l o=>Dr H l λob=>(match ob with
   |.cells cs=>GZ (JT H n) cs λcs=>MT cs o λcs=>K (.at_ cs)
   |_=>False)
  |v=>D4 H v K
def aS(T:List TY)(E:List AV)(H:List HO):List ResultVar->(List AV->Prop)->Prop
 |[],K=>K []
 |.tmp t::r,K=>lkA E t λv=>aS T E H r λvs=>K (v::vs)
 |.cell a t::r,K=>lkA E a λp=>Oc T H t p λv=>aS T E H r λvs=>K (v::vs)
def Ot(T:List TY)(rs:List ResultVar)(R:AV->Prop)(E:List AV)(H:List HO):Prop:=
 aS T E H rs λvs=>match vs with
  |[v]=>JT H 4 v R
  |vs=>GZ (JT H 4) vs λvs=>R (.tuple vs)
section
variable {G:Cx}{C:Af}{w w':World}{mu:Mu}{H:List HO}{E:List AV}{a:Act}{T:List TY}{P:Program}
theorem XP{C':Af}(h:AJ G C mu E H a w)(hxx:Ext C C' w w)(vP:∀l g b o,mu l=some g->g.Az=some b->C' b o){u:Value}(hx:Aj C w x mu u)(hk:D4 H x R):
  ∃r,R r/\Aj C' w r Mu.none u:=by
 unfold D4 at hk;split at hk
 ·rename_i l sz lo n;replace hk:=Bf.1 hk;obtain⟨ob,BR,hk⟩:=hk;cases ob with
  |cells _|dead|ghost _ _ _|inv _|map _ _=>exact hk.elim
  |arr e De es=>
   simp only at hk;split at hk;·rename_i hb;simp only[Ap]at hb;obtain rfl:=As hb.1;obtain rfl:=As hb.2;obtain⟨⟨rfl,hc⟩,hk⟩:=hk;exact⟨_,hk,Ml h.heap hxx (λg b o hm hb=>vP _ g b o hm hb) BR hc hx⟩
   exact hk.elim
 obtain⟨sz,hk⟩:=hk;refine⟨_,hk,?_⟩;unfold Aj at hx⊢;exact .inl ⟨⟨_,hx⟩,rfl⟩;exact⟨_,hk,by unfold Aj at*;exact hx⟩
 ·rename_i l;replace hk:=Bf.1 hk;obtain⟨ob,BR,hk⟩:=hk;cases ob<;>first|exact hk.elim|skip
  rename_i ks vs;obtain⟨b,es,clock,h1,h2,h3⟩:=h.heap.maps l ks vs BR;unfold Aj at hx;obtain⟨b',h4,h5⟩:=hx;rw[h1]at h4;simp only[A3.injEq,GO.D6.injEq]at h4;subst h4;refine⟨_,hk,?_⟩;unfold Aj;exact .inr ⟨b,es,clock,h5,vP l _ b 0 h1 rfl,h2,(h3.2 _ _).1,(h3.2 _ _).2,h3.1⟩
 split at hk;·rename_i hc;rw[AV.AS]at hk;exact⟨_,hk,Aj.mono hxx _ (AU.refl _) (Ci _ hc hx)⟩
 exact hk.elim
theorem fM(h:AJ G C mu E H a w)(hM:∀b,¬G.M0 b){u:Value}(hx:Aj C w x mu u)(hk:D4 H x R):
  ∃r,R r/\Aj (Mz G.C0 G.W0.heap.size w.heap.size) w r Mu.none u:=
 XP h ⟨λb o hc=>(h.c1 b o hc).imp id λk=>⟨k.resolve_right (hM b),h.lt b o hc⟩,λ_ _ _=>rfl⟩ (λl g b o hm hb=>.inr ⟨(h.heap.fresh _ g b hm hb).1.resolve_right (hM b),(h.heap.fresh _ g b hm hb).2.1⟩) hx hk
theorem FQ{C':Af}{mu':Mu}{f:AV->(AV->Prop)->Prop}(hf:∀{x:AV}{u:Value},Aj C w x mu u->∀{R:AV->Prop},f x R->∃r,R r/\Aj C' w r mu' u):
  ∀{xs:List AV}{us:List Value},Ac C w xs mu us->∀{R:List AV->Prop},GZ f xs R->∃rs,R rs/\Ac C' w rs mu' us
 |[],us,hx,R,hk=>⟨[],hk,by unfold Ac at*;exact hx⟩
 |x::xs,us,hx,R,hk=>by unfold GZ at hk;unfold Ac at hx;obtain⟨v,CJ,rfl,h2,h3⟩:=hx;obtain⟨r,hk,hr⟩:=hf h2 hk;obtain⟨rs,hk,Ic⟩:=FQ hf h3 hk;exact⟨r::rs,hk,by unfold Ac;exact⟨v,CJ,rfl,hr,Ic⟩⟩
theorem Rp(h:AJ G C mu E H a w)(hM:∀b,¬G.M0 b):∀(n:Nat){x:AV}{u:Value},Aj C w x mu u->∀{R:AV->Prop},JT H n x R->
  ∃r,R r/\Aj (Mz G.C0 G.W0.heap.size w.heap.size) w r Mu.none u
 |0,x,u,hx,R,hk=>fM h hM hx hk
 |n+1,x,u,hx,R,hk=>by
  have ih:∀{x:AV}{u:Value},Aj C w x mu u->∀{R:AV->Prop},JT H n x R->∃r,R r/\Aj (Mz G.C0 G.W0.heap.size w.heap.size) w r Mu.none u:=λhx _ hk=>Rp h hM n hx hk;unfold JT at hk;split at hk;unfold Aj at hx;obtain⟨vs,rfl,hx⟩:=hx;obtain⟨rs,hk,hr⟩:=FQ (λhx _ hk=>ih hx hk) hx hk;exact⟨_,hk,by unfold Aj;exact⟨vs,rfl,hr⟩⟩;unfold Aj at hx;obtain⟨vs,rfl,hx⟩:=hx;obtain⟨rs,hk,hr⟩:=FQ (λhx _ hk=>ih hx hk) hx hk;exact⟨_,hk,by unfold Aj;exact⟨vs,rfl,hr⟩⟩;unfold Aj at hx;obtain⟨vs,rfl,hx⟩:=hx;obtain⟨rs,hk,hr⟩:=FQ (λhx _ hk=>ih hx hk) hx hk;exact⟨_,hk,by unfold Aj;exact⟨vs,rfl,hr⟩⟩;unfold Aj at hx;obtain⟨y,rfl,hx⟩:=hx;obtain⟨r,hk,hr⟩:=ih hx hk;exact⟨_,hk,by unfold Aj;exact⟨y,rfl,hr⟩⟩
  ·rename_i l o;replace hk:=Bf.1 hk;obtain⟨ob,BR,hk⟩:=hk;(cases ob<;>first|exact hk.elim|skip);rename_i cs;simp only at hk;unfold Aj at hx;obtain⟨b,hm,rfl⟩:=hx;obtain⟨b',cur,e,UN,hb,hr,h1⟩:=h.heap.Dp l cs BR;rw[hm]at UN;simp only[A3.injEq,GO.D6.injEq]at UN;subst UN;obtain⟨rs,hk,Ic⟩:=FQ (λhx _ hk=>ih hx hk) hr hk;rw[BC]at hk;obtain⟨f1,f2,_⟩:=h.heap.fresh l _ b hm rfl;refine⟨_,hk,?_⟩;unfold Aj;refine⟨b,o,rfl,(Dc _ _).2 λi hi=>?_⟩;have MJ:=(Bo _).1 Ic;(have gK:o+i<rs.length:=by simp at hi;omega);(have ZE:o+i<cur.toList.length:=by rw[MJ.1];exact gK);refine⟨cur.toList[o+i],h1 _ (Cc ZE),⟨.inr ⟨f1.resolve_right (hM b),f2⟩,?_⟩,?_⟩;·rw[cell_of_row w b _ cur e _ hb];simp at ZE⊢
   have:=MJ.2 (o+i) gK ZE;simp only[PU];exact this
  exact fM h hM hx hk
theorem AJ.O8{D:Nat}{ms:List Nat}(h:AJ G C mu E H a w)(hx:B2 C w G.fresh mu H ((D::ms).map (λD=>(D,Gj))++G.Lf)):
  AJ G C mu E H {a with defers:=ms.map mark++G.ds} (w.putObj D (.deferred none))/\B2 C (w.putObj D (.deferred none)) G.fresh mu H (ms.map (λD=>(D,Gj))++G.Lf):=by
 simp only[L5,MM]at hx;generalize Y4:ms.map (λD=>(D,Gj))++G.Lf=ds at hx;have hm:=hx.marks (D,Gj) (by simp);have AA:=(Am.1 hm.at_).1;have kV:∀{b},b≠D->(w.putObj D (.deferred none)).heap[b]?=w.heap[b]?:=λhb=>AZ hb;have hs:(w.putObj D (.deferred none)).heap.size=w.heap.size:=by simp[World.putObj]
 have vV:Ext C C w (w.putObj D (.deferred none)):=Ext.of_block (λ_ _ h=>h) λb o hc=>kV λe=>hm.HT o (by rw[<-e];exact hc);have O2:D∉ds.map VC:=(G8.1 hx.nd).1;have V4:∀{D':Nat×Obj},D'.1≠D->CS C w G.fresh mu D'->CS C (w.putObj D (.deferred none)) G.fresh mu D':=λBK k=>⟨by rw[kV BK];exact k.at_,k.HT,k.own,k.fr⟩;have hX:B2 C (w.putObj D (.deferred none)) G.fresh mu H ds:=by refine⟨λl cs vs DL hl=>?_,λl I hl=>?_,λD' hd=>V4 (λe=>O2 (e▸List.mem_map_of_mem hd)) (hx.marks D' (by simp[hd])),(G8.1 hx.nd).2,hx.sep⟩;obtain⟨k1,k2,k3⟩:=hx.BG l cs vs DL hl;exact⟨Ac.mono vV _ (AU.refl _) k1,k2,λD' hd=>⟨V4 (λe=>(k3 D' hd).2 (A6.2 (.inl e))) (k3 D' hd).1,λdR=>(k3 D' hd).2 (A2 _ dR)⟩⟩;obtain⟨h0,Sw,Sr,h1,h2,h3,h4⟩:=hx.Ho l I hl;exact⟨h0,Sw,Sr,⟨h1.fr,by rw[hs];exact h1.base,h1.cb,h1.ob,h1.sub,λb hb=>by rw[hs];exact h1.lt b hb,h1.own,h1.HT⟩,I.Ol Sw Sr w _ h2 ⟨rfl,rfl,rfl,Nat.le_of_eq hs.symm,λb hb=>kV λe=>h3 (D,Gj) (by simp) (e▸hb)⟩,λD' hd=>h3 D' (A2 _ hd),h4⟩
 refine⟨⟨h.c0,h.c1,λb o hc=>by rw[hs];exact h.lt b o hc,⟨h.heap.JX,λl g b hl hg=>?_,h.heap.sep,h.heap.dead,λl cs hl=>?_,λl e sz es hl=>?_,λl ks vs hl=>?_⟩,Ac.mono vV _ (AU.refl _) h.env,⟨ms,rfl,Y4▸hX⟩,
  ⟨h.Ax.os,h.Ax.tape,h.Ax.output,by rw[hs];exact h.Ax.size,λk hk hn=>?_⟩,h.Dv⟩,hX⟩
 obtain⟨k1,k2,k3⟩:=h.heap.fresh l g b hl hg;exact⟨k1,by rw[hs];exact k2,k3⟩;obtain⟨b,cur,e,k1,k2,k3,k4⟩:=h.heap.Dp l cs hl;exact⟨b,cur,e,k1,by rw[kV λee=>hm.own l _ k1 (by rw[<-ee];rfl)];exact k2,Ac.mono vV _ (AU.refl _) k3,k4⟩;obtain⟨k0,k⟩:=h.heap.Dk l e sz es hl;exact⟨k0,k.imp id λ⟨b,cap,cur,k1,k2,k3,k4,k5,k6,k7⟩=>⟨b,cap,cur,k1,k2.of_eq (by rw[kV λee=>hm.own l _ k1 (by rw[<-ee];rfl)]),k3,k4,k5,Ac.mono vV _ (AU.refl _) k6,k7⟩⟩;obtain⟨b,es,cl,k1,k2,k3⟩:=h.heap.maps l ks vs hl;exact⟨b,es,cl,k1,by rw[kV λee=>hm.own l _ k1 (by rw[<-ee];rfl)];exact k2,k3⟩;rw[kV λe=>?_];exact h.Ax.block k hk hn;subst e;rcases hm.fr with k|k;omega;exact hn k
theorem Iw{n:Nat}{fn:Func}{R:Ending->World->Prop}{tmps:Array Value}(Y4:G.ds=[]):∀(ms:List Nat){w:World}{a:Act},a.tmps=tmps->AJ G C mu E H a w->B2 C w G.fresh mu H (ms.map (λD=>(D,Gj))++G.Lf)->
  (∀a' w',a'.tmps=tmps->AJ G C mu E H a' w'->∃v,(results fn tmps).run G.P w'=.ok v w'/\R (.returned v) w')->LeavesInM (fw none) n G.P fn tmps R (ms.map mark) .returning w
 |[],w,a,ha,h,hx,hr=>by simp only[RR,LeavesInM,LeavesIn];exact hr a w ha h
 |D::ms,w,a,ha,h,hx,hr=>by simp only[L5,LeavesInM];obtain⟨h1,h2⟩:=h.O8 hx;exact⟨by simp,.inl ⟨D,_,rfl,run_takeDeferred (hx.marks (D,Gj) (by simp)).at_,Iw Y4 ms (a:={a with defers:=ms.map mark++G.ds}) ha h1 h2 hr⟩⟩
def iZ(tmps:Array Value):ResultVar->Sem Value
 |.tmp t=>pure (tmps.getD t undef)
 |.cell a t=>do loadVar t (<-asAddr (tmps.getD a undef))
theorem FX(fn:Func)(tmps:Array Value):results fn tmps=(fn.results.mapM (iZ tmps) >>= λvs=>pure (if h:vs.size=1 then vs[0]else .tuple vs)):=by
 unfold results;congr 1
theorem US(C:Af)(w:World)(fr:Nat->Prop):B0 C w fr Mu.none []:=by
 refine⟨?_,?_,?_,?_,?_,?_,?_⟩;intro l g h;cases h;intro l g b h;cases h;intro l g b l' g' h;cases h;intro l h;cases h;intro l cs h;cases h;intro l e sz es h;cases h;intro l ks vs h;cases h
theorem S4(C:Af)(w:World)(fr:Nat->Prop)(mu:Mu):B2 C w fr mu [] []:=
 ⟨λl cs vs ms h=>(by simp at h),λl I h=>(by simp at h),λD h=>(by cases h),Kp,λl l' cs vs ms cs' CJ DL h=>(by simp at h)⟩
theorem TF(hT:CY G.P T)(h:AJ G C mu E H a w):∀(rs:List ResultVar){K:List AV->Prop},aS T E H rs K->
  ∃xs us,K xs/\Ac C w xs mu us/\(rs.mapM (iZ a.tmps)).run G.P w=.ok us w
 |[],K,hk=>⟨[],[],hk,by unfold Ac;rfl,by simp⟩
 |.tmp t::r,K,hk=>by unfold aS at hk;rw[SW]at hk;obtain⟨xs,us,h1,h2,h3⟩:=TF hT h r hk;refine⟨_,_,h1,by unfold Ac;exact⟨_,us,rfl,h.env.get t,h2⟩,?_⟩;rw[UL];simp only[iZ,L0,R2,IW,h3]
 |.cell p t::r,K,hk=>by
  unfold aS at hk;rw[SW]at hk;have hp:=h.env.get p;obtain⟨x,v,hk,hr,BQ⟩:=Nk hT h.heap hp hk;obtain⟨xs,us,h1,h2,h3⟩:=TF hT h r hk;refine⟨_,_,h1,by unfold Ac;exact⟨v,us,rfl,hr,h2⟩,?_⟩
  have ha:∃ad,a.tmps.getD p undef=.pointer (some ad):=by
   unfold Instr.loadAt Instr.sureAddr at BQ;generalize a.tmps.getD p undef=q at BQ;(cases q<;>first|(simp at BQ;done)|skip);rename_i o;cases o with
   |none=>simp at BQ
   |some ad=>exact⟨ad,rfl⟩
  obtain⟨ad,ha⟩:=ha;rw[ha]at BQ;simp only[Instr.loadAt,Instr.sureAddr,L0,R2,IW]at BQ;rw[UL];simp only[iZ,ha,asAddr,L0,R2,IW,BQ,h3]
theorem Zal(hT:CY G.P T)(h:AJ G C mu E H a w)(hM:∀b,¬G.M0 b)(hk:Ot T fn.results.toList R E H):
  ∃r v,R r/\(results fn a.tmps).run G.P w=.ok v w/\Aj (Mz G.C0 G.W0.heap.size w.heap.size) w r Mu.none v:=by
 unfold Ot at hk;obtain⟨xs,us,hk,hr,BQ⟩:=TF hT h _ hk;have hm:(fn.results.mapM (iZ a.tmps)).run G.P w=.ok us.toArray w:=by rw[L2];simp only[Sem.run_map,BQ,IW]
 have Ik:(results fn a.tmps).run G.P w=.ok (if h:us.toArray.size=1 then us.toArray[0]else .tuple us.toArray) w:=by rw[FX,L0,hm];rfl
 rw[Ik];split at hk;·rename_i v;unfold Ac at hr;obtain⟨u,Tf,rfl,hr,Ll⟩:=hr;unfold Ac at Ll;subst Ll;obtain⟨r,hk,hr⟩:=Rp h hM 4 hr hk;exact⟨r,u,hk,by simp,hr⟩
 rename_i BK;obtain⟨rs,hk,Ic⟩:=FQ (λhx _ hk=>Rp h hM 4 hx hk) hr hk
 have hl:us.length≠1:=λe=>by
  have:=AM _ hr;rw[e]at this;cases xs with
  |nil=>simp at this
  |cons x xs=>
   cases xs with
   |nil=>exact BK x rfl
   |cons _ _=>simp at this
 exact⟨_,_,hk,by simp[hl];rfl,by unfold Aj;exact⟨us,rfl,Ic⟩⟩
theorem CG:∀(n:Nat),Ac C w (GL n (.raw undef)) mu (GL n undef)
 |0=>by simp[Ac]
 |n+1=>by simp only[List.replicate_succ];unfold Ac;exact⟨_,_,rfl,by unfold Aj;rfl,CG n⟩
def EN(n:Nat)(args:List AV)(K:List AV->Prop):Prop:=sY (AV.raw undef) (n-args.length) λr=>Zx args r K
theorem Au.Ak(hf:P.funcs[f]?=some fn)(hb:fn.body=some c)(hT:CY P T)(hg:Cp P f=true)
  (h:EN fn.ntmps args λE=>Aa P c E [] (Ot T fn.results.toList R) (λe E H=>match e with|.ret=>Ot T fn.results.toList R E H|_=>False)):Au P f args R:=by
 refine⟨hg,λC w vs AA hr=>(callsIn_wide (n:=0)).1 (DE (F:=Fence.wide) (n:=0) hf hb trivial ?_ rfl)⟩;unfold EN at h;rw[Ev,Dl]at h;let G:Cx:={P:=P,C0:=C,M0:=λ_=>False,W0:=w,lL:=⟨AA,λ_ _ _ h=>h⟩}
 have Ai:St G (args++GL (fn.ntmps-args.length) (.raw undef)) [] {tmps:=vs.toArray++Fw (fn.ntmps-vs.toArray.size) undef,defers:=[]} w:=by refine⟨C,Mu.none,λ_ _ h=>h,λ_ _ h=>.inl h,AA.lt,US _ _ _,?_,⟨[],rfl,S4 _ _ _ _⟩,⟨rfl,rfl,rfl,Hq _,λ_ _ _=>rfl⟩,Nat.zero_le _,λ_ _ h=>absurd h (UG _)⟩;have hl:=AM _ hr;have:=Bj hr (CG (C:=C) (w:=w) (mu:=Mu.none) (fn.ntmps-args.length));simpa[hl]using this
 have fin:∀E H a w',Ot T fn.results.toList R E H->St G E H a w'->LeavesInM (fw none) 0 P fn a.tmps (λe w'=>∃r v',e=.returned v'/\R r/\Below w.heap.size w w'/\Aj (Mz C w.heap.size w'.heap.size) w' r Mu.none v') a.defers .returning w':=by rintro E H a w' hk ⟨C',mu',Ai⟩;obtain⟨ms,d1,d2⟩:=Ai.defers;rw[show a.defers=ms.map mark by simpa[G]using d1];refine Iw (G:=G) rfl ms rfl Ai d2 λa' O6 ha JW=>?_;obtain⟨r,v,h1,h2,h3⟩:=Zal (G:=G) hT JW (λ_ h=>h) hk;rw[ha]at h2;exact⟨v,h2,r,v,rfl,h1,⟨JW.Ax.os,JW.Ax.tape,JW.Ax.output,JW.Ax.size,λk hk=>JW.Ax.block k hk (λh=>h)⟩,h3⟩
 refine BX (h.out 0 G _ w rfl Ai) λe a w' q=>?_;cases e with
 |normal|ret=>obtain⟨E,H,h1,h2⟩:=q;exact fin E H a w' h1 h2
 |exit id=>obtain⟨E,H,h1,h2⟩:=q;exact h1.elim
 |panic ch=>obtain⟨x,v,E,H,C,mu,_,h1,_⟩:=q;exact h1.elim
 |goto l|outgrown=>exact q.elim
theorem Au.mono{R':AV->Prop}(h:Au P f args R)(hr:∀r,R r->R' r):Au P f args R':=
 ⟨h.D7,λC w vs h1 h2=>(h.out C w vs h1 h2).mono λe w' ⟨r,v,k1,k2,k3⟩=>⟨r,v,k1,hr r k2,k3⟩⟩
theorem Ah.BZ{K:AV->KK}{X:XX}(h:Au P f args R)(hc:AI args=true)(hk:∀r,R r->K r E H):Ah P f args E H K X:=by
 refine⟨h.D7,λG C mu a w vs hP Ai hr=>?_⟩;refine(h.out C w vs Ai.qR (BD args hc hr)).mono λe w' ⟨r,v,h1,h2,h3,h4⟩=>?_;exact .inl ⟨r,v,E,H,_,mu,h1,hk r h2,Ai.below h3,Aj.mono (Ext.refl _ _) _ (AU.none mu) h4⟩
end
mutual
def Jc(l:Nat):AV->Bool
 |.ptr k _|.el k _ _ _|.own k _ _ _|.om k=>Bg k l
 |.fn _ cap|.mv _ cap=>RV l cap
 |.iface _ x=>Jc l x
 |.agg cs=>RV l cs
 |.tuple vs=>RV l vs
 |_=>false
def RV(l:Nat):List AV->Bool
 |[]=>false
 |a::as=>Jc l a||RV l as
end
section
variable {C:Af}{w:World}{mu:Mu}
mutual
theorem Yt{l:Nat}(hl:mu l=none):∀(x:AV){v:Value},Aj C w x mu v->Jc l x=false
 |.any,_,_|.int _ _,_,_|.bool _,_,_|.lit _,_,_|.str _,_,_|.sl _ _,_,_|.at_ _,_,_|.raw _,_,_|.mp _ _,_,_=>rfl
 |.om k,_,h=>by
  unfold Aj at h;obtain⟨b,h1,_⟩:=h;unfold Jc;cases hb:Bg k l with
  |false=>rfl
  |true=>rw[As hb,hl]at h1;cases h1
 |.ptr k o,_,h=>by
  unfold Aj at h;obtain⟨b,h1,_⟩:=h;unfold Jc;cases hb:Bg k l with
  |false=>rfl
  |true=>rw[As hb,hl]at h1;cases h1
 |.el k sz i o,_,h=>by
  unfold Aj at h;obtain⟨b,n,c,h1,_⟩:=h;unfold Jc;cases hb:Bg k l with
  |false=>rfl
  |true=>rw[As hb,hl]at h1;cases h1
 |.own k sz lo n,_,h=>by
  unfold Aj at h;obtain⟨x,h1,_⟩:=h;unfold Jc;cases hb:Bg k l with
  |false=>rfl
  |true=>rw[As hb,hl]at h1;cases h1
 |.fn f cap,_,h=>by unfold Aj at h;obtain⟨vs,_,h2⟩:=h;unfold Jc;exact Mp hl cap h2
 |.mv f cap,_,h=>by unfold Aj at h;obtain⟨vs,_,h2⟩:=h;unfold Jc;exact Mp hl cap h2
 |.iface t x,_,h=>by unfold Aj at h;obtain⟨y,_,h2⟩:=h;unfold Jc;exact Yt hl x h2
 |.agg cs,_,h=>by unfold Aj at h;obtain⟨vs,_,h2⟩:=h;unfold Jc;exact Mp hl cs h2
 |.tuple cs,_,h=>by unfold Aj at h;obtain⟨vs,_,h2⟩:=h;unfold Jc;exact Mp hl cs h2
theorem Mp{l:Nat}(hl:mu l=none):∀(xs:List AV){vs:List Value},Ac C w xs mu vs->RV l xs=false
 |[],_,_=>rfl
 |x::xs,_,h=>by unfold Ac at h;obtain⟨v,CJ,_,h2,h3⟩:=h;unfold RV;rw[Yt hl x h2,Mp hl xs h3];rfl
end
end
def ZA(x:AV)(H H':List HO):Prop:=∀(l:Nat)(ob:HO),Jc l x=true->H[l]?=some ob->H'[l]?=some ob
def gC(E:List AV)(o:Op)(H H':List HO):Prop:=∀x∈o.operands,ZA (BL E x) H H'
def LB{α:Type}(t:(α->Prop)->Prop)(K:α->Prop):Prop:=∃r,K r/\∀K':α->Prop,K' r->t K'
theorem tO{k:Nat}{a:AV}{K:Bool->Prop}(h:Uy k a b K):LB (Uy k a b) K:=by
 unfold Uy at h;split at h
 ·split at h;·split at h<;>first|exact h.elim|exact⟨_,h,λK' k=>k⟩
  ·split at h<;>first|exact h.elim|exact⟨_,h,λK' k=>k⟩
  exact h.elim
 ·split at h
  ·split at h
   ·split at h;·rename_i hk;exact⟨_,h,λK' k=>by simp only[Uy,hk];exact k⟩
    exact h.elim
   exact h.elim
  exact h.elim
 ·split at h;·split at h<;>first|exact h.elim|exact⟨_,h,λK' k=>k⟩
  exact h.elim
 exact h.elim
theorem T7:∀{ls:List Nat}{xs ys:List AV}{K:Bool->Prop},mA ls xs ys K->LB (mA ls xs ys) K
 |[],[],[],K,h=>⟨_,h,λK' k=>k⟩
 |k::ls,a::xs,b::ys,K,h=>by obtain⟨p,h,hp⟩:=tO h;obtain⟨r,h,hr⟩:=T7 h;exact⟨_,h,λK' k=>hp _ (hr _ k)⟩
 |[],[],_::_,_,h|[],_::_,_,_,h|_::_,[],_,_,h|_::_,_::_,[],_,h=>h.elim
theorem jQ{T:List TY}{cs ds:List AV}(h:Ry T op t cs ds K):LB (Ry T op t cs ds) K:=by
 unfold Ry at h;replace h:=Bf.1 h;obtain⟨y,hy,h⟩:=h;split at h
 ·rename_i ha;split at h
  ·rename_i ls hl;cases op<;>simp only[]at h
   case eql=>
    exact Yau
   case neq=>
    exact Yau
  exact h.elim
 exact h.elim
theorem ZaH{T:List TY}{a:AV}(h:OV T op t a b K):LB (OV T op t a b) K:=by
 have bl:∀{p q:Bool},(Dr T t λy=>(match y.k with|.bool=>Vo op p q K|_=>False))->LB (λK=>Dr T t λy=>(match y.k with|.bool=>Vo op p q K|_=>False)) K:=by
  intro p q h;replace h:=Bf.1 h;obtain⟨y,hy,h⟩:=h;split at h;·rename_i hk;unfold Vo at h;cases op<;>first|exact h.elim|exact⟨_,h,λK' k=>Bf.2 ⟨y,hy,by rw[hk];exact k⟩⟩
  exact h.elim
 cases a<;>cases b<;>first|exact h.elim|skip
 case int.int k m k' n=>
  simp only[OV]at h;split at h;·rename_i hk;cases op<;>simp only[uT]at h;(case quo=>exact⟨_,h.2,λK' k=>by simp only[OV,hk,uT];exact⟨h.1,k⟩⟩);(case rem=>exact⟨_,h.2,λK' k=>by simp only[OV,hk,uT];exact⟨h.1,k⟩⟩);all_goals exact⟨_,h,λK' k=>by simp only[OV,hk,uT];exact k⟩
  exact h.elim
 case str.str p q=>
  simp only[OV]at h;cases op<;>simp only[zQ]at h;case add=>exact⟨_,h.2,λK' k=>by simp only[OV,zQ];exact⟨h.1,k⟩⟩
  all_goals exact⟨_,h,λK' k=>by simp only[OV,zQ];exact k⟩
 case bool.bool p q=>exact bl h
 case bool.lit p q=>exact bl h
 case lit.bool p q=>exact bl h
 case lit.lit p q=>exact bl h
 case agg.agg cs ds=>exact jQ h
theorem T5{T:List TY}{op:BinOp}{t:TypeId}{r:Bool}{K:AV->Prop}(h:dE T op t r K):LB (dE T op t r) K:=by
 unfold dE at h;replace h:=Bf.1 h;obtain⟨y,hy,h⟩:=h;split at h;·rename_i hk;cases op<;>first|exact h.elim|(cases r<;>exact⟨_,h,λK' k=>Bf.2 ⟨y,hy,by rw[hk];exact k⟩⟩)
 exact h.elim
theorem ZdP{T:List TY}{a:AV}{c:Bool}(h1:∀t x,a≠.iface t x)(h2:∀u,a≠.raw u):tV T op t a b c=OV T op t a b:=by
 cases a<;>first|rfl|exact absurd rfl (h1 _ _)|exact absurd rfl (h2 _)
theorem ZaF{T:List TY}{a:AV}{c:Bool}(h:tV T op t a b c K):LB (tV T op t a b c) K:=by
 cases a
 case iface ty x=>
  cases b<;>first|exact h.elim|skip
  case raw v=>cases v<;>first|exact h.elim|exact @T5 T op t false K h
 case raw u=>
  cases u<;>first|exact h.elim|skip
  cases b<;>first|exact h.elim|exact @T5 T op t false K h|skip
  case raw v=>
   (cases v<;>first|exact h.elim|skip);cases c<;>first|exact h.elim|exact @T5 T op t true K h
 all_goals (rw[ZdP (by simp) (by simp)]at h ⊢;exact ZaH h)
theorem ZdH{op:UnOp}{a:AV}(h:unK op a K):LB (unK op a) K:=by
 cases op<;>cases a<;>first|exact h.elim|exact⟨_,h,λK' k=>k⟩|skip
 case not.lit b=>cases b<;>exact⟨_,h,λK' k=>k⟩
theorem SR{T:List TY}{cs:List AV}(h:ldK T t cs K):LB (ldK T t cs) K:=by
 unfold ldK at h;replace h:=Bf.1 h;obtain⟨y,hy,h⟩:=h;cases ha:y.agg with
 |true=>
  rw[ha]at h;obtain⟨hn,h⟩:=(Fj _ _ _).1 h;exact⟨_,h,λK' k=>Bf.2 ⟨y,hy,by rw[ha];exact(Fj _ _ _).2 ⟨hn,k⟩⟩⟩
 |false=>
  rw[ha]at h;cases cs with
  |nil=>exact h.elim
  |cons c cs=>
   simp only[AV.AS]at h;exact⟨c,h,λK' k=>Bf.2 ⟨y,hy,by rw[ha];simpa only[AV.AS]using k⟩⟩
theorem tN{T:List TY}{H:List HO}{p:AV}(h:Oc T H t p K):∃r,K r/\∀H',ZA p H H'->∀K':AV->Prop,K' r->Oc T H' t p K':=by
 cases p<;>first|exact h.elim|skip
 case at_ cs=>
  obtain⟨r,h1,h2⟩:=SR h;exact⟨r,h1,λH' _ K' k=>h2 K' k⟩
 case ptr l o=>
  simp only[Oc]at h;replace h:=Bf.1 h;obtain⟨ob,BR,h⟩:=h;cases ob<;>first|exact h.elim|skip
  rename_i cs;simp only at h;rw[BC]at h;obtain⟨r,h1,h2⟩:=SR h;exact⟨r,h1,λH' hl K' k=>Bf.2 ⟨_,hl _ _ (by simp[Jc]) BR,by simp only;rw[BC];exact h2 K' k⟩⟩
 case el l sz i o=>
  simp only[Oc]at h;replace h:=Bf.1 h;obtain⟨ob,BR,h⟩:=h;cases ob<;>first|exact h.elim|skip
  rename_i e De es;simp only at h;split at h;·rename_i hz;obtain⟨v,hv,h⟩:=h;rw[AB,BC]at h;obtain⟨r,h1,h2⟩:=SR h;exact⟨r,h1,λH' hl K' k=>Bf.2 ⟨_,hl _ _ (by simp[Jc]) BR,by simp only[hz];exact⟨v,hv,by rw[AB,BC];exact h2 K' k⟩⟩⟩
  exact h.elim
theorem T4{T:List TY}{H:List HO}{i:AV}(h:Ch T H t x i K):∃r,K r/\∀H',ZA x H H'->∀K':AV->Prop,K' r->Ch T H' t x i K':=by
 cases x<;>first|exact h.elim|skip
 case sl sz es=>
  simp only[Ch]at h;replace h:=Bf.1 h;obtain⟨y,hy,h⟩:=h;split at h
  ·rename_i hk;split at h;·rename_i hb;(cases i<;>first|exact h.elim|skip);obtain⟨h0,v,hv,h⟩:=h;rw[AB]at h;exact⟨_,h,λH' _ K' k=>by simp only[Ch];exact Bf.2 ⟨y,hy,by simp only[hk,hb];exact⟨h0,v,hv,by rw[AB];exact k⟩⟩⟩
   exact h.elim
  exact h.elim
 case own l sz lo m=>
  simp only[Ch]at h;replace h:=Bf.1 h;obtain⟨y,hy,h⟩:=h;split at h
  ·rename_i hk;replace h:=Bf.1 h;obtain⟨ob,BR,h⟩:=h;(cases ob<;>first|exact h.elim|skip);simp only at h;split at h;·rename_i hb;(cases i<;>first|exact h.elim|skip);obtain⟨h0,h⟩:=h;exact⟨_,h,λH' hl K' k=>by simp only[Ch];exact Bf.2 ⟨y,hy,by simp only[hk];exact Bf.2 ⟨_,hl _ _ (by simp[Jc]) BR,by simp only[hb];exact⟨h0,k⟩⟩⟩⟩
   exact h.elim
  exact h.elim
 case ptr l o=>
  simp only[Ch]at h;replace h:=Bf.1 h;obtain⟨y,hy,h⟩:=h;split at h
  ·rename_i hk;split at h;·rename_i hb;(cases i<;>first|exact h.elim|skip);obtain⟨h0,h⟩:=h;exact⟨_,h,λH' hl K' k=>by simp only[Ch];exact Bf.2 ⟨y,hy,by simp only[hk,hb];exact⟨h0,k⟩⟩⟩
   exact h.elim
  exact h.elim
 case at_ cs=>
  simp only[Ch]at h;replace h:=Bf.1 h;obtain⟨y,hy,h⟩:=h;split at h
  ·rename_i hk;split at h;·rename_i hb;(cases i<;>first|exact h.elim|skip);obtain⟨h0,v,hv,h⟩:=h;exact⟨_,h,λH' hl K' k=>by simp only[Ch];exact Bf.2 ⟨y,hy,by simp only[hk,hb];exact⟨h0,v,hv,k⟩⟩⟩
   exact h.elim
  exact h.elim
theorem jM{T:List TY}{i:AV}(h:IT T t x i K):LB (IT T t x i) K:=by
 cases x<;>first|exact h.elim|skip
 ·simp only[IT]at h;replace h:=Bf.1 h;obtain⟨y,hy,h⟩:=h;split at h;·rename_i hk;(cases i<;>first|exact h.elim|skip);exact⟨_,h.2,λK' k=>by simp only[IT];exact Bf.2 ⟨y,hy,by simp only[hk];exact⟨h.1,k⟩⟩⟩
  exact h.elim
 simp only[IT]at h;replace h:=Bf.1 h;obtain⟨y,hy,h⟩:=h;split at h
 ·rename_i n sz ag hk;split at h;·rename_i hb;(cases i<;>first|exact h.elim|skip);obtain⟨h1,v,hv,h2⟩:=h;exact⟨v,h2,λK' k=>by simp only[IT];exact Bf.2 ⟨y,hy,by simp only[hk,hb];exact⟨h1,v,hv,k⟩⟩⟩
  rename_i hb;split at h;·rename_i OJ;(cases i<;>first|exact h.elim|skip);exact⟨_,h.2,λK' k=>by simp only[IT];exact Bf.2 ⟨y,hy,by simp only[hk,hb,OJ];exact⟨h.1,k⟩⟩⟩
  exact h.elim
 exact h.elim
theorem T6{T:List TY}{f:Nat}(h:Es T t x f K):LB (Es T t x f) K:=by
 unfold Es at h;replace h:=Bf.1 h;obtain⟨y,hy,h⟩:=h;split at h
 ·rename_i fs hk;replace h:=Bf.1 h;obtain⟨⟨off,size,ag⟩,hf,h⟩:=h;cases size with
  |zero=>exact h.elim
  |succ n=>
   (have fin:∀K':AV->Prop,(match (generalizing:=false) x with|.at_ cs=>MT cs off λcs=>K' (.at_ cs)|.ptr l o=>K' (.ptr l (o+off))|.el l sz i o=>K' (.el l sz i (o+off))|.raw v=>(match (generalizing:=false) v with|.pointer p=>(match (generalizing:=false) p with|some ⟨b,o,none⟩=>K' (.raw (.pointer (some ⟨b,o+off,none⟩)))|_=>False)|_=>False)|_=>False)->Es T t x f K':=λK' k=>by unfold Es;exact Bf.2 ⟨y,hy,by simp only[hk];exact Bf.2 ⟨_,hf,by simp only;exact k⟩⟩);cases x with
   |at_ cs=>
    simp only at h;rw[BC]at h;exact⟨_,h,λK' k=>fin K' (by simp only;rw[BC];exact k)⟩
   |ptr l o|el l sz i o=>exact⟨_,h,λK' k=>fin K' k⟩
   |raw v=>
    simp only at h;split at h;(case h_2=>exact h.elim);split at h;(case h_2=>exact h.elim);exact⟨_,h,λK' k=>fin K' k⟩
   |_=>exact h.elim
 exact h.elim
theorem jN{T:List TY}{f:Nat}(h:BH T t x f K):LB (BH T t x f) K:=by
 unfold BH at h;replace h:=Bf.1 h;obtain⟨y,hy,h⟩:=h;split at h
 ·rename_i fs hk;replace h:=Bf.1 h;obtain⟨⟨off,size,ag⟩,hf,h⟩:=h;cases x<;>first|exact h.elim|skip
  rename_i cs;simp only at h;rw[BC]at h;have fin:∀K':AV->Prop,(match (generalizing:=false) ag with|true=>Tm (cs.drop off) size λcs=>K' (.agg cs)|false=>match (generalizing:=false) size with|0=>False|_+1=>match (generalizing:=false) cs.drop off with|c::_=>c.force K'|[]=>False)->BH T t (.agg cs) f K':=λK' k=>by unfold BH;exact Bf.2 ⟨y,hy,by simp only[hk];exact Bf.2 ⟨_,hf,by simp only;rw[BC];exact k⟩⟩
  cases ag with
  |true=>
   simp only at h;obtain⟨hn,h⟩:=(Fj _ _ _).1 h;exact⟨_,h,λK' k=>fin K' ((Fj _ _ _).2 ⟨hn,k⟩)⟩
  |false=>
   simp only at h;cases size with
   |zero=>exact h.elim
   |succ n=>
    simp only at h fin;cases hd:cs.drop off with
    |nil=>rw[hd]at h;exact h.elim
    |cons c r=>
     rw[hd]at h;simp only[AV.AS]at h;exact⟨c,h,λK' k=>fin K' (by rw[hd];simpa only[AV.AS]using k)⟩
 exact h.elim
theorem ZaG{T:List TY}(h:V0 T t x K):LB (V0 T t x) K:=by
 unfold V0 at h;replace h:=Bf.1 h;obtain⟨y,hy,h⟩:=h;split at h;·rename_i hk;split at h;exact⟨_,h,λK' k=>by unfold V0;exact Bf.2 ⟨y,hy,by simp only[hk];exact k⟩⟩;exact⟨_,h,λK' k=>by unfold V0;exact Bf.2 ⟨y,hy,by simp only[hk];exact k⟩⟩;exact⟨_,h,λK' k=>by unfold V0;exact Bf.2 ⟨y,hy,by simp only[hk];exact k⟩⟩;exact h.elim
 ·rename_i hk;split at h;exact⟨_,h,λK' k=>by unfold V0;exact Bf.2 ⟨y,hy,by simp only[hk];exact k⟩⟩;exact h.elim
 exact h.elim
theorem tP{T:List TY}{s d:TypeId}(h:KG T s d x K):LB (KG T s d x) K:=by
 cases x<;>first|exact h.elim|skip
 all_goals
  simp only[KG]at h;replace h:=Bf.1 h;obtain⟨y0,hy0,h⟩:=h;replace h:=Bf.1 h;obtain⟨y,hy,h⟩:=h;split at h;·rename_i hk;exact⟨_,h,λK' k=>by simp only[KG];exact Bf.2 ⟨y0,hy0,Bf.2 ⟨y,hy,by simp only[hk];exact k⟩⟩⟩
  ·first
    |exact h.elim
    |(rename_i hk
      exact⟨_,h.2,λK' k=>by simp only[KG];exact Bf.2 ⟨y0,hy0,Bf.2 ⟨y,hy,by simp only[hk];exact⟨h.1,k⟩⟩⟩⟩)
  all_goals exact h.elim
theorem bQ{f:Int->Int->Int}{a:AV}(h:cB f a b K):LB (cB f a b) K:=by
 unfold cB at h;split at h
 ·split at h
  ·split at h;·rename_i hk;exact⟨_,h,λK' k=>by simp only[cB,hk];exact k⟩
   exact h.elim
  exact h.elim
 exact h.elim
theorem Ka{o:Option AV}{d:Int}{K:Int->Prop}(h:Py o d K):LB (Py o d) K:=by
 cases o with
 |none=>exact⟨d,h,λK' k=>k⟩
 |some v=>cases v<;>first|(simp[Py]at h;done)|exact⟨_,h,λK' k=>k⟩
theorem jK{T:List TY}{lo hi:Option AV}(h:EK T t x lo hi K):LB (EK T t x lo hi) K:=by
 cases x<;>first|exact h.elim|skip
 case str l=>
  simp only[EK]at h;replace h:=Bf.1 h;obtain⟨y,hy,h⟩:=h;split at h;·rename_i hk;obtain⟨a,h,ha⟩:=Ka h;obtain⟨b,h,hb⟩:=Ka h;exact⟨_,h.2,λK' k=>by simp only[EK];exact Bf.2 ⟨y,hy,by simp only[hk];exact ha _ (hb _ ⟨h.1,k⟩)⟩⟩
  exact h.elim
 case sl sz es=>
  exact Yaj
 case own l sz p n=>
  exact Yaj
def X3(E E':List AV)(o:Op):Prop:=∀x∈o.operands,BL E' x=BL E x
theorem jJ{T:List TY}{e:TypeId}(h:KS T e K):∃z,K z/\∀K':AV->Prop,K' z->KS T e K':=by
 unfold KS at h;replace h:=Bf.1 h;obtain⟨y,hy,h⟩:=h;split at h;·rename_i ha;split at h;exact h.elim;rename_i z zs hz;exact⟨_,h,λK' k=>by unfold KS;exact Bf.2 ⟨y,hy,by simp only[ha,hz];exact k⟩⟩
 rename_i ha;split at h;·rename_i z hz;rw[AV.AS]at h;exact⟨_,h,λK' k=>by unfold KS;exact Bf.2 ⟨y,hy,by simp only[ha,hz];rw[AV.AS];exact k⟩⟩
 exact h.elim
theorem jL{H:List HO}{K:List AV->List AV->Prop}(h:QX H x K):∃ks vs,K ks vs/\∀H',ZA x H H'->∀K':List AV->List AV->Prop,K' ks vs->QX H' x K':=by
 unfold QX at h;split at h;exact⟨_,_,h,λH' _ K' k=>k⟩
 ·replace h:=Bf.1 h;obtain⟨ob,BR,h⟩:=h;cases ob<;>first|exact h.elim|skip
  exact⟨_,_,h,λH' hu K' k=>Bf.2 ⟨_,hu _ _ (by simp[Jc]) BR,k⟩⟩
 exact h.elim
theorem bR{T:List TY}{H:List HO}{k:AV}{ok:Bool}(h:Jx T H t x k ok K):∃r,K r/\∀H',ZA x H H'->∀K':AV->Prop,K' r->Jx T H' t x k ok K':=by
 unfold Jx at h;replace h:=Bf.1 h;obtain⟨y,hy,h⟩:=h;split at h
 ·rename_i kt vt hk;replace h:=Bf.1 h;obtain⟨yk,hyk,h⟩:=h;split at h
  ·rename_i ho;obtain⟨ks,vs,⟨hl,hn,hs⟩,hm⟩:=jL h
   have up:∀(r:AV)(H':List HO),ZA x H H'->∀K':AV->Prop,((QV k ks vs=none->KS T vt λz=>(match (generalizing:=false) ok with|true=>K' (.tuple [z,.lit false])|false=>z.force K'))/\
      ∀v,QV k ks vs=some v->(match (generalizing:=false) ok with|true=>K' (.tuple [v,.lit true])|false=>K' v))->Jx T H' t x k ok K':=λr H' hu K' q=>by
    unfold Jx;exact Bf.2 ⟨y,hy,by simp only[hk];exact Bf.2 ⟨yk,hyk,by simp only[ho];exact hm H' hu _ ⟨hl,q⟩⟩⟩
   cases hg:QV k ks vs with
   |none=>
    obtain⟨z,hz,NS⟩:=jJ (hn hg);cases ok with
    |true=>exact⟨_,hz,λH' hu K' q=>up .any H' hu K' ⟨λ_=>NS _ q,λv e=>(by rw[hg]at e;cases e)⟩⟩
    |false=>
     simp only[AV.AS]at hz;exact⟨_,hz,λH' hu K' q=>up .any H' hu K' ⟨λ_=>NS _ (by simp only[AV.AS];exact q),λv e=>(by rw[hg]at e;cases e)⟩⟩
   |some v=>
    have hv:=hs v hg;cases ok with
    |true|false=>exact⟨_,hv,λH' hu K' q=>up .any H' hu K' ⟨λe=>(by rw[hg]at e;cases e),λu e=>(by rw[hg]at e;cases e;exact q)⟩⟩
  exact h.elim
 exact h.elim
theorem Iv{T:List TY}{E:List AV}{H:List HO}{o:Op}(h:Cj T E H o K):∃r,K r/\∀E' H',X3 E E' o->gC E o H H'->∀K':AV->Prop,K' r->Cj T E' H' o K':=by
 unfold Cj at h;split at h;case h_1 x=>rw[Ae]at h;exact⟨_,h,λE' H' ha _ K' k=>by unfold Cj;simp only;rw[Ae,ha x (by simp[Ao])];exact k⟩
 case h_2 x=>rw[Ae]at h;exact⟨_,h,λE' H' ha _ K' k=>by unfold Cj;simp only;rw[Ae,ha x (by simp[Ao])];exact k⟩
 case h_3 c x y=>
  rw[Ae]at h;split at h
  ·rename_i t hb;cases t with
   |true=>simp only at h;rw[Ae]at h;exact⟨_,h,λE' H' ha _ K' k=>by unfold Cj;simp only;rw[Ae,ha c (by simp[Ao]),hb];simp only;rw[Ae,ha x (by simp[Ao])];exact k⟩
   |false=>simp only at h;rw[Ae]at h;exact⟨_,h,λE' H' ha _ K' k=>by unfold Cj;simp only;rw[Ae,ha c (by simp[Ao]),hb];simp only;rw[Ae,ha y (by simp[Ao])];exact k⟩
  exact h.elim
 case h_4 op t x y ty=>
  rw[Ae,Ae]at h;obtain⟨r,h1,h2⟩:=ZaF h;exact⟨r,h1,λE' H' ha _ K' k=>by unfold Cj;simp only;rw[Ae,Ae,ha x (by simp[Ao]),ha y (by simp[Ao])];exact h2 K' k⟩
 case h_5 op t x=>
  rw[Ae]at h;obtain⟨r,h1,h2⟩:=ZdH h;exact⟨r,h1,λE' H' ha _ K' k=>by unfold Cj;simp only;rw[Ae,ha x (by simp[Ao])];exact h2 K' k⟩
 case h_6 t x=>
  rw[Ae]at h;obtain⟨r,h1,h2⟩:=tN h;exact⟨r,h1,λE' H' ha hl K' k=>by unfold Cj;simp only;rw[Ae,ha x (by simp[Ao])];exact h2 H' (hl x (by simp[Ao])) K' k⟩
 case h_7 t x f=>
  rw[Ae]at h;obtain⟨r,h1,h2⟩:=T6 h;exact Yal
 case h_8 t x f=>
  rw[Ae]at h;obtain⟨r,h1,h2⟩:=jN h;exact Yal
 case h_9 t x i=>
  rw[Ae,Ae]at h;obtain⟨r,h1,h2⟩:=T4 h;exact Yar
 case h_10 t x i=>
  rw[Ae,Ae]at h;obtain⟨r,h1,h2⟩:=jM h;exact⟨r,h1,λE' H' ha hl K' k=>by unfold Cj;simp only;rw[Ae,Ae,ha x (by simp[Ao]),ha i (by simp[Ao])];exact h2 K' k⟩
 case h_11 s d x=>
  rw[Ae]at h;obtain⟨r,h1,h2⟩:=tP h;exact Yal
 case h_12 x i=>
  rw[Ae]at h;split at h;·rename_i vs hb;replace h:=Bf.1 h;obtain⟨v,hv,h⟩:=h;rw[AV.AS]at h;exact⟨v,h,λE' H' ha hl K' k=>by unfold Cj;simp only;rw[Ae,ha x (by simp[Ao]),hb];exact Bf.2 ⟨v,hv,by rw[AV.AS];exact k⟩⟩
  exact h.elim
 case h_13 x=>
  rw[Ae]at h;have fin:∀E' H',X3 E E' (.nilCheck x)->∀K':AV->Prop,(match (generalizing:=false) BL E x with|.at_ cs=>K' (.at_ cs)|.ptr l o=>K' (.ptr l o)|.el l sz i o=>K' (.el l sz i o)|.fn f cap=>K' (.fn f cap)|.mv f cap=>K' (.mv f cap)|.raw v=>(match (generalizing:=false) v with|.pointer p=>(match (generalizing:=false) p with|some a=>K' (.raw (.pointer (some a)))|_=>False)|_=>False)|_=>False)->Cj T E' H' (.nilCheck x) K':=λE' H' ha K' k=>by unfold Cj;simp only;rw[Ae,ha x (by simp[Ao])];exact k
  generalize lC:BL E x=ex at h fin;cases ex with
  |raw v=>
   simp only at h;split at h;(case h_2=>exact h.elim);split at h;(case h_2=>exact h.elim);exact⟨_,h,λE' H' ha hl K' k=>fin E' H' ha K' k⟩
  |_=>first|exact h.elim|exact⟨_,h,λE' H' ha hl K' k=>fin E' H' ha K' k⟩
 case h_14 fn first cap=>
  split at h
  ·rename_i f;split at h;·rename_i hf;rw[Di (DF E) (BL E) (Ae E)]at h;refine⟨_,h,λE' H' ha hl K' k=>?_⟩;unfold Cj;simp only[hf];rw[Di (DF E') (BL E') (Ae E')];have:cap.toList.map (BL E')=cap.toList.map (BL E):=LM λx hx=>ha x (by simp[Ao];exact .inr (by simpa using hx));rw[this];exact k
   rename_i hf;split at h;·rename_i hc;rw[Di (DF E) (BL E) (Ae E)]at h;refine⟨_,h,λE' H' ha hl K' k=>?_⟩;unfold Cj;simp only[hf,hc];rw[<-hf,Di (DF E') (BL E') (Ae E')];(have:first.toList.map (BL E')=first.toList.map (BL E):=LM λx hx=>ha x (by simp[Ao];exact .inl (by simpa using hx)));rw[this];exact k
   exact h.elim
  exact h.elim
 case h_15 t x=>
  rw[Ae]at h;replace h:=Bf.1 h;obtain⟨y,hy,h⟩:=h;have hK:K (.iface t (BL E x))/\y.k≠.iface:=by split at h;exact h.elim;rename_i BK;exact⟨h,BK⟩
  exact⟨_,hK.1,λE' H' ha hl K' k=>by
   unfold Cj;simp only;rw[Ae,ha x (by simp[Ao])];refine Bf.2 ⟨y,hy,?_⟩;split;·rename_i hk;exact absurd hk hK.2
   exact k⟩
 case h_16 t x lo hi mx=>
  split at h
  ·rw[Ae]at h
   have fin:∀E' H',X3 E E' (.slice t x lo hi none)->∀K':AV->Prop,EK T t (BL E x) (lo.map (BL E)) (hi.map (BL E)) K'->Cj T E' H' (.slice t x lo hi none) K':=λE' H' ha K' k=>by
    unfold Cj;simp only;rw[Ae,ha x (by simp[Ao])];cases lo with
    |none=>
     cases hi with
     |none=>exact k
     |some q=>simp only;rw[Ae,ha q (by simp[Ao])];exact k
    |some p=>
     cases hi with
     |none=>simp only;rw[Ae,ha p (by simp[Ao])];exact k
     |some q=>simp only;rw[Ae,Ae,ha q (by simp[Ao]),ha p (by simp[Ao])];exact k
   have h':EK T t (BL E x) (lo.map (BL E)) (hi.map (BL E)) K:=by
    cases lo with
    |none=>
     cases hi with
     |none=>exact h
     |some q=>simp only at h;rw[Ae]at h;exact h
    |some p=>
     cases hi with
     |none=>simp only at h;rw[Ae]at h;exact h
     |some q=>simp only at h;rw[Ae,Ae]at h;exact h
   obtain⟨r,h1,h2⟩:=jK h';exact⟨r,h1,λE' H' ha hl K' k=>fin E' H' ha K' (h2 K' k)⟩
  exact h.elim
 case h_17 c=>
  split at h
  ·rename_i hc;split at h
   ·rename_i x hx;split at h;·rename_i t ht;rw[Ae]at h;obtain⟨r,h1,h2⟩:=ZaG h;refine⟨r,h1,λE' H' ha hl K' k=>?_⟩;unfold Cj;simp only[hc,hx,ht];(have:c.args=#[x]:=by cases hca:c.args;simp_all);rw[Ae,ha x (by simp[Ao,Call.operands,hc,this])];exact h2 K' k
    exact h.elim
   exact h.elim
  ·rename_i hc;exact Yai
  ·rename_i hc;exact Yai
  exact h.elim
 case h_18 t x i ok=>
  rw[Ae,Ae]at h;obtain⟨r,h1,h2⟩:=bR h;exact Yar
 case h_19=>exact h.elim
end Go.Av
namespace Go.Av
open Go.RowKit (Below)
variable {x:AV}{l sz n:Nat}{e t:TypeId}{es as:List AV}{u:Value}{f:FuncId}{K:AV->Prop}
def IA(w:World):Af:=λb _=>b<w.heap.size
def pG:AV->Bool
 |.int _ _=>true
 |_=>false
def Xg:AV->Bool
 |.int _ _|.bool _=>true
 |.sl _ es=>es.all λe=>e.cells.all pG
 |_=>false
def Zea:AV->Bool
 |.agg cs=>cs.all Xg
 |x=>Xg x
def QT:AV->Bool
 |.str _|.sl _ _=>true
 |_=>false
def oR(e:AV):Bool:=e.cells.all QT
def Zd9(C:Af)(w:World):Af:=λb o=>C b o/\∃k n,w.cell? ⟨b,o,none⟩=some (.int k n)
def Zfn:AV->AV->Bool
 |.own _ _ _ _,.sl _ es=>es.all oR
 |.lit _,_|.raw (.slice none 0 0),_=>true
 |a,_=>closed a
def cI:List AV->List AV->Bool
 |[],[]=>true
 |a::as,b::bs=>Zfn a b&&cI as bs
 |_,_=>false
def Uu(C:Af)(H:List HO)(mu:Mu):Af:=λb o=>C b o\/∃l e sz es g,H[l]?=some (.arr e sz es)/\(∀e∈es,oR e=true)/\mu l=some g/\g.Az=some b/\o<es.length*sz
section
variable {G:Cx}{C C2:Af}{w w':World}{mu:Mu}{H:List HO}{E:List AV}{a:Act}{T:List TY}{P:Program}
theorem dA{v:Value}(hi:Xg x=true)(h:Aj C w x mu v):Aj (Zd9 C w) w x mu v:=by
 cases x<;>first|(simp[Xg]at hi;done)|skip
 unfold Aj at*;exact h;unfold Aj at*;exact h;rename_i sz es;unfold Xg at hi;unfold Aj at*;rcases h with h|⟨b,o,cap,h1,h2,h3,h4⟩;exact .inl h;refine .inr ⟨b,o,cap,h1,h2,h3,(FC es o).2 λi hl=>?_⟩;obtain⟨k1,k2⟩:=(FC es o).1 h4 i hl;refine⟨k1,(Dc _ _).2 λj hj=>?_⟩;obtain⟨u,q1,q2,q3⟩:=(Dc _ _).1 k2 j hj;have hc:=Dy.1 (Dy.1 hi es[i] (Cc hl)) es[i].cells[j] (Cc hj);generalize es[i].cells[j]=c at q3 hc⊢;cases c<;>first|(simp[pG]at hc;done)|skip
 rename_i k n;have q4:=q3;unfold Aj at q4;obtain⟨rfl,_⟩:=q4;exact⟨_,q1,⟨⟨q2.1,k,n,q2.2⟩,q2.2⟩,by unfold Aj at*;exact q3⟩
theorem Xf:∀{xs:List AV}{vs:List Value},xs.all Xg=true->Ac C w xs mu vs->Ac (Zd9 C w) w xs mu vs
 |[],_,_,h=>by unfold Ac at*;exact h
 |x::xs,_,hi,h=>by rw[N4,Ap]at hi;unfold Ac at*;obtain⟨v,CJ,h1,h2,h3⟩:=h;exact⟨v,CJ,h1,dA hi.1 h2,Xf hi.2 h3⟩
theorem Zd8{v:Value}(hi:Zea x=true)(h:Aj C w x mu v):Aj (Zd9 C w) w x mu v:=by
 unfold Zea at hi;split at hi;unfold Aj at*;obtain⟨vs,h1,h2⟩:=h;exact⟨vs,h1,Xf hi h2⟩;exact dA hi h
theorem sW{fr:Nat->Prop}(hh:B0 C w fr mu H)(hx:Ext C C2 w w)(hB:∀g b o,mu l=some g->g.Az=some b->o<es.length*sz->C2 b o)(hl:H[l]?=some (.arr e sz es))(hc:∀e∈es,closed e=true)
  (hu:Aj C w (.own l sz 0 es.length) mu u):Aj C2 w (.sl sz es) Mu.none u:=by
 unfold Aj at hu⊢;obtain⟨x,hm,hle,UM,rfl⟩:=hu;obtain⟨hz,h2⟩:=hh.Dk l e sz es hl;rcases h2 with⟨h2,rfl⟩|⟨b,cap,cur,h3,⟨fz,h4,Qn⟩,h5,h6,h7,h8,h9⟩;rw[hm]at h2;simp only[A3.injEq,GO.arr.injEq]at h2;subst h2;exact .inl ⟨⟨_,rfl⟩,rfl⟩;rw[hm]at h3;simp only[A3.injEq,GO.arr.injEq]at h3;subst h3;refine .inr ⟨b,0,cap,by simp[DJ],h5,h6,(FC es 0).2 λi hi=>⟨hz _ (Cc hi),(Dc _ _).2 λj hj=>?_⟩⟩;have hei:es[i]?=some es[i]:=A9 hi;obtain⟨r,hr⟩:=KA es hz i _ hei;have MJ:=(Bo _).1 h8;have DT:=hz _ (Cc hi);have Xp:=CP es hz;have hmul:(i+1)*sz<=es.length*sz:=LJ _ hi;rw[Nat.add_mul]at hmul;have dN:es.length*sz<=cap*sz:=LJ _ h5;have LS:cur.toList.length=cap*sz:=by simpa using h7
 have hk:i*sz+j<(flat es).length:=by omega
 have KR:i*sz+j<(cur.toList.take (es.length*sz)).length:=by rw[MJ.1];exact hk
 have F4:=MJ.2 (i*sz+j) hk KR
 have Xq:(flat es)[i*sz+j]=es[i].cells[j]:=by
  have e1:((flat es).drop (i*sz))[j]?=(es[i].cells++r)[j]?:=by rw[hr]
  rw[List.getElem?_drop,A9 hk,A5 hj,A9 hj]at e1;simpa using e1
 rw[Xq]at F4
 have SZ:closed es[i].cells[j]=true:=by
  have:=hc _ (Cc hi);generalize es[i]=q at this hj⊢;cases q with
  |agg cs=>
   unfold closed at this
   have key:∀(cs:List AV),AI cs=true->∀j (hj:j<cs.length),closed cs[j]=true:=by
    intro cs
    induction cs with
    |nil=>intro _ j hj;simp at hj
    |cons c cs ih=>
     intro h j hj;unfold AI at h;simp only[Ap]at h;cases j with
     |zero=>exact h.1
     |succ j=>exact ih h.2 j (by simpa using hj)
   exact key cs this j hj
  |_=>
   simp only[AV.cells,R5,List.length_nil]at hj;(obtain rfl:j=0:=by omega);exact this
 have AA:i*sz+j<cur.toList.length:=by omega
 have ET:(cur.toList.take (es.length*sz))[i*sz+j]=cur.toList[i*sz+j]:=by simp
 refine⟨cur.toList[i*sz+j],h9 _ (Cc AA),⟨hB _ _ _ hm rfl (by omega),?_⟩,?_⟩;rw[show 0+i*sz+j=i*sz+j by omega,cell_of_row w b _ cur e _ h4];simp at AA⊢;rw[ET]at F4;exact Aj.mono hx _ (AU.refl _) (Ci _ SZ F4)
theorem iT{fr:Nat->Prop}(hh:B0 C w fr mu H)(hl:H[l]?=some (.arr e sz es))(hn:∀e∈es,oR e=true){g:GO}{b o:Nat}(hm:mu l=some g)(hb:g.Az=some b)(ho:o<es.length*sz){k:IntKind}{n:Int}(hv:w.cell? ⟨b,o,none⟩=some (.int k n)):False:=by
 obtain⟨hz,h2⟩:=hh.Dk l e sz es hl;rcases h2 with⟨h2,rfl⟩|⟨b',cap,cur,h3,⟨fz,h4,Qn⟩,h5,h6,h7,h8,h9⟩;simp at ho;rw[hm]at h3;cases h3;obtain rfl:b'=b:=by simpa[GO.Az]using hb
 have MJ:=(Bo _).1 h8;have Xp:=CP es hz;have dN:es.length*sz<=cap*sz:=LJ _ h5;have LS:cur.toList.length=cap*sz:=by simpa using h7
 have hk:o<(flat es).length:=by omega
 have KR:o<(cur.toList.take (es.length*sz)).length:=by rw[MJ.1];exact hk
 have F4:=MJ.2 o hk KR;have AA:o<cur.toList.length:=by omega
 have ET:(cur.toList.take (es.length*sz))[o]=cur.toList[o]:=by simp
 rw[ET]at F4;have FG:w.cell? ⟨b',o,none⟩=some cur.toList[o]:=by rw[cell_of_row w b' _ cur e _ h4];simp at AA⊢
 rw[FG]at hv;rw[A3.inj hv]at F4;have hc:QT (flat es)[o]=true:=by have OI:(flat es)[o]∈flat es:=Cc hk;unfold flat at OI;obtain⟨x,hx,OI⟩:=List.mem_flatMap.1 OI;exact Dy.1 (hn x hx) _ OI
 generalize (flat es)[o]=c at F4 hc;cases c<;>first|(simp[QT]at hc;done)|skip
 unfold Aj at F4;cases F4.1;unfold Aj at F4;rcases F4 with⟨⟨_,h⟩,_⟩|⟨_,_,_,h,_⟩<;>cases h
theorem Zde(h:AJ G C mu E H a w)(hx:Aj C w x mu u){R:AV->Prop}(hk:D4 H x R):∃r,R r/\Aj (IA w) w r Mu.none u:=
 XP h ⟨λb o hc=>h.lt b o hc,λ_ _ _=>rfl⟩ (λl g b o hm hb=>(h.heap.fresh l g b hm hb).2.1) hx hk
theorem yV(h:AJ G C mu E H a w):gE (IA w) w:=h.qR.mono ⟨λb o hc=>h.lt b o hc,λ_ _ _=>rfl⟩ λ_ _ h=>h
theorem MZ:∀{xs:List AV}{R:List AV->Prop},AI xs=true->GQ H xs R->∃rs,R rs/\∀{C:Af}{w:World}{mu:Mu}{us:List Value},Ac C w xs mu us->Ac C w rs Mu.none us
 |[],R,_,hk=>⟨[],hk,λh=>by unfold Ac at*;exact h⟩
 |x::xs,R,hc,hk=>by
  unfold GQ at hk;unfold AI at hc;simp only[Ap]at hc
  have one:∀{Q:AV->Prop},D4 H x Q->∃r,Q r/\∀{C:Af}{w:World}{mu:Mu}{u:Value},Aj C w x mu u->Aj C w r Mu.none u:=by
   intro Q hk;unfold D4 at hk;split at hk;simp[closed]at hc;obtain⟨sz,hk⟩:=hk;exact⟨_,hk,λh=>by unfold Aj at*;exact .inl ⟨⟨_,h⟩,rfl⟩⟩;exact⟨_,hk,λh=>by unfold Aj at*;exact h⟩;simp[closed]at hc;split at hk;·rename_i SZ;rw[AV.AS]at hk;exact⟨_,hk,λh=>Ci _ SZ h⟩
   exact hk.elim
  obtain⟨r,hk,hr⟩:=one hk;obtain⟨rs,hk,Ic⟩:=MZ hc.2 hk;exact⟨r::rs,hk,λh=>by unfold Ac at h⊢;obtain⟨v,CJ,h1,h2,h3⟩:=h;exact⟨v,CJ,h1,hr h2,Ic h3⟩⟩
theorem rX(h:AJ G C mu E H a w)(hx:Aj C w x mu u){R:AV->Prop}(hk:D4 H x R):∃r,R r/\Aj (IA w) w r Mu.none u/\(Zfn x r=true->Aj (Uu C H mu) w r Mu.none u):=by
 have hw:Ext C (IA w) w w:=⟨λb o hc=>h.lt b o hc,λ_ _ _=>rfl⟩;have hle:Ext C (Uu C H mu) w w:=⟨λb o hc=>.inl hc,λ_ _ _=>rfl⟩;unfold D4 at hk;split at hk
 ·rename_i l sz lo n;replace hk:=Bf.1 hk;obtain⟨ob,BR,hk⟩:=hk;cases ob<;>first|exact hk.elim|skip
  rename_i e De es;simp only at hk;split at hk;·rename_i hb;simp only[Ap]at hb;obtain rfl:=As hb.1;obtain rfl:=As hb.2;obtain⟨⟨rfl,hc⟩,hk⟩:=hk;refine⟨_,hk,Ml h.heap hw (λg b o h1 h2=>(h.heap.fresh l g b h1 h2).2.1) BR hc hx,λhn=>?_⟩;have hn:∀e∈es,oR e=true:=Dy.1 hn;exact sW h.heap hle (λg b o h1 h2 h3=>.inr ⟨l,e,sz,es,g,BR,hn,h1,h2,h3⟩) BR hc hx
  exact hk.elim
 obtain⟨sz,hk⟩:=hk;exact⟨_,hk,by unfold Aj at*;exact .inl ⟨⟨_,hx⟩,rfl⟩,λ_=>by unfold Aj at*;exact .inl ⟨⟨_,hx⟩,rfl⟩⟩;exact⟨_,hk,by unfold Aj at*;exact hx,λ_=>by unfold Aj at*;exact hx⟩;obtain⟨r,q1,q2⟩:=Zde h hx (by unfold D4;exact hk:D4 H _ R);exact⟨r,q1,q2,λhn=>by cases hn⟩;rename_i h1 h2 h3 h4;split at hk;·rename_i hc;rw[AV.AS]at hk;exact⟨_,hk,Aj.mono hw _ (AU.refl _) (Ci _ hc hx),λ_=>Aj.mono hle _ (AU.refl _) (Ci _ hc hx)⟩
 exact hk.elim
theorem Td(h:AJ G C mu E H a w):∀{xs:List AV}{us:List Value},Ac C w xs mu us->∀{R:List AV->Prop},GQ H xs R->∃rs,R rs/\Ac (IA w) w rs Mu.none us/\(cI xs rs=true->Ac (Uu C H mu) w rs Mu.none us)
 |[],us,hx,R,hk=>⟨[],hk,by unfold Ac at*;exact hx,λ_=>by unfold Ac at*;exact hx⟩
 |x::xs,us,hx,R,hk=>by unfold GQ at hk;unfold Ac at hx;obtain⟨v,CJ,rfl,h2,h3⟩:=hx;obtain⟨r,hk,hr,hl⟩:=rX h h2 hk;obtain⟨rs,hk,Ic,hls⟩:=Td h h3 hk;refine⟨r::rs,hk,by unfold Ac;exact⟨v,CJ,rfl,hr,Ic⟩,λhn=>?_⟩;unfold cI at hn;rw[Ap]at hn;unfold Ac;exact⟨v,CJ,rfl,hl hn.1,hls hn.2⟩
structure gB(P:Program)(f:FuncId)(l:Nat)(cs as:List AV)(v:AV):Prop where
 D7:Cp P f=true
 out:∀(G:Cx)(C:Af)(mu:Mu)(E:List AV)(H:List HO)(a:Act)(w:World)(us:List Value),G.P=P->AJ G C mu E H a w->H[l]?=some (.cells cs)->Ac C w as mu us->
  Calls P f us.toArray w λe w'=>∃u C',e=.returned u/\AJ G C' mu E H a w'/\Aj C' w' v mu u
def Zau:List AV->Option Nat
 |.ptr l 0::_=>some l
 |_=>none
def IB(P:Program)(f:FuncId)(H:List HO)(as:List AV)(K:AV->Prop):Prop:=
 match Zau as with
 |some l=>Dr H l λob=>(match ob with|.cells cs=>∃v,gB P f l cs as v/\K v|_=>False)
 |none=>GQ H as λas'=>∃v,(Au P f as' (λr=>r=v)/\(AI as||ER v||(cI as as'&&Zea v))=true)/\K v
theorem Zat(h:Zau as=some l):∃r,as=.ptr l 0::r:=by
 unfold Zau at h;split at h;simp only[A3.injEq]at h;subst h;exact⟨_,rfl⟩;cases h
theorem gV(h:IB P f H as K)(hc:∀{xs:List AV}{K:List AV->Prop},GQ H xs K->∃r,K r):Cp P f=true:=by
 unfold IB at h;split at h
 ·replace h:=Bf.1 h;obtain⟨ob,_,h⟩:=h;cases ob<;>first|exact h.elim|skip
  obtain⟨v,hv,_⟩:=h;exact hv.D7
 obtain⟨as',v,hv,_⟩:=hc h;exact hv.1.D7
theorem zC(hP:G.P=P)(Ai:AJ G C mu E H a w)(hk:IB P f H as K){us:List Value}(hu:Ac C w as mu us):
  Cp P f=true/\∃r,K r/\Calls P f us.toArray w λe w'=>∃v C',e=.returned v/\AJ G C' mu E H a w'/\Aj C' w' r mu v:=by
 unfold IB at hk;split at hk
 ·replace hk:=Bf.1 hk;obtain⟨ob,BR,hk⟩:=hk;cases ob<;>first|exact hk.elim|skip
  obtain⟨v,hv,hk⟩:=hk;exact⟨hv.D7,v,hk,(hv.out G C mu E H a w us hP Ai BR hu).mono λe w' ⟨u,C',h1,h2,h3⟩=>⟨u,C',h1,h2,h3⟩⟩
 by_cases hc:AI as=true;obtain⟨as',⟨v,⟨Q6,_⟩,hk⟩,hr⟩:=MZ hc hk;refine⟨Q6.D7,v,hk,(Q6.out C w us Ai.qR (hr hu)).mono λe w' ⟨r,u,h1,h2,h3,h4⟩=>?_⟩;subst h2;exact⟨u,_,h1,Ai.below h3,Aj.mono (Ext.refl _ _) _ (AU.none mu) h4⟩;obtain⟨as',⟨v,⟨Q6,hm⟩,hk⟩,hr,Zki⟩:=Td Ai hu hk;have hm:ER v=true\/(cI as as'=true/\Zea v=true):=by simpa[hc]using hm
 rcases hm with hm|⟨hle,hi⟩;refine⟨Q6.D7,v,hk,(Q6.out (IA w) w us (yV Ai) hr).mono λe w' ⟨r,u,h1,h2,h3,h4⟩=>?_⟩;subst h2;exact⟨u,_,h1,Ai.below h3,E9 _ hm h4⟩;have hx:Ext C (Uu C H mu) w w:=⟨λ_ _ h=>.inl h,λ_ _ _=>rfl⟩;have AA:∀b o,Uu C H mu b o->b<w.heap.size:=λb o hb=>hb.elim (Ai.lt b o) λ⟨l,_,_,_,g,_,_,h1,h2,_⟩=>(Ai.heap.fresh l g b h1 h2).2.1;refine⟨Q6.D7,v,hk,(Q6.out (Uu C H mu) w us (Ai.qR.mono hx AA) (Zki hle)).mono λe w' ⟨r,u,h1,h2,h3,h4⟩=>?_⟩;subst h2;refine⟨u,Mz C w.heap.size w'.heap.size,h1,Ai.below h3,Aj.mono (C:=Zd9 (Mz (Uu C H mu) w.heap.size w'.heap.size) w') ⟨λb o ⟨hb,k,n,FG⟩=>?_,λ_ _ _=>rfl⟩ _ (AU.none mu) (Zd8 hi h4)⟩;rcases hb with (hb|⟨l,_,sz,es,g,q0,hn,q1,q2,q3⟩)|hb;exact .inl hb;have gO:=(Ai.heap.fresh l g b q1 q2).2.1;rw[World.cell?_of_block (h3.block b gO)]at FG;exact(iT Ai.heap q0 hn q1 q2 q3 FG).elim;exact .inr hb
theorem Ah.T9{K:AV->KK}{X:XX}(hk:IB P f H as λv=>K v E H)(hg:Cp P f=true):Ah P f as E H K X:=by
 refine⟨hg,λG C mu a w vs hP Ai hr=>?_⟩;obtain⟨_,r,h1,h2⟩:=zC hP Ai hk hr;exact h2.mono λe w' ⟨v,C',h3,h4,h5⟩=>.inl ⟨r,v,E,H,C',mu,h3,h1,h4,h5⟩
theorem jP(h:D4 H x K):∃r,K r/\∀H',ZA x H H'->∀K':AV->Prop,K' r->D4 H' x K':=by
 unfold D4 at h;split at h
 ·rename_i l sz lo n;replace h:=Bf.1 h;obtain⟨ob,BR,h⟩:=h;cases ob<;>first|exact h.elim|skip
  simp only at h;split at h;·rename_i hb;exact⟨_,h.2,λH' hu K' k=>by unfold D4;exact Bf.2 ⟨_,hu _ _ (by simp[Jc]) BR,by simp only[hb];exact⟨h.1,k⟩⟩⟩
  exact h.elim
 obtain⟨sz,h⟩:=h;exact⟨_,h,λH' hu K' k=>by unfold D4;exact⟨sz,k⟩⟩;exact⟨_,h,λH' hu K' k=>by unfold D4;exact k⟩
 ·replace h:=Bf.1 h;obtain⟨ob,BR,h⟩:=h;cases ob<;>first|exact h.elim|skip
  exact⟨_,h,λH' hu K' k=>by unfold D4;exact Bf.2 ⟨_,hu _ _ (by simp[Jc]) BR,k⟩⟩
 rename_i h1 h2 h3 h4;split at h
 ·rename_i hc;rw[AV.AS]at h;refine⟨_,h,λH' hu K' k=>?_⟩;unfold D4;split;·rename_i l sz lo n;exact absurd rfl (h1 l sz lo n)
  exact absurd rfl h2;·rename_i b;exact absurd rfl (h3 b)
  ·rename_i l;exact absurd rfl (h4 l)
  rw[hc];simpa only[AV.AS]using k
 exact h.elim
theorem Mt:∀{xs:List AV}{K:List AV->Prop},GQ H xs K->∃r,K r/\∀H',(∀x∈xs,ZA x H H')->∀K':List AV->Prop,K' r->GQ H' xs K'
 |[],K,h=>⟨[],h,λH' _ K' k=>k⟩
 |x::xs,K,h=>by unfold GQ at h;obtain⟨r,h,hr⟩:=jP h;obtain⟨rs,h,Ic⟩:=Mt h;exact⟨_,h,λH' hu K' k=>by unfold GQ;exact hr H' (hu x (by simp)) _ (Ic H' (λy hy=>hu y (by simp[hy])) _ k)⟩
theorem T2(h:IB P f H as K):∃r,K r/\∀H',(∀x∈as,ZA x H H')->∀K':AV->Prop,K' r->IB P f H' as K':=by
 unfold IB at h;split at h
 ·rename_i l hp;replace h:=Bf.1 h;obtain⟨ob,BR,h⟩:=h;cases ob<;>first|exact h.elim|skip
  obtain⟨v,hv,h⟩:=h;obtain⟨r,rfl⟩:=Zat hp;exact⟨v,h,λH' hu K' k=>by unfold IB;simp only[hp];exact Bf.2 ⟨_,hu (.ptr l 0) (List.mem_cons_self ..) l _ (by simp[Jc]) BR,v,hv,k⟩⟩
 rename_i hp;obtain⟨as',⟨v,h1,h⟩,h2⟩:=Mt h;exact⟨v,h,λH' hu K' k=>by unfold IB;simp only[hp];exact h2 H' hu _ ⟨v,h1,k⟩⟩
end
def imK(ob:HO)(K:AV->Prop):Prop:=
 match ob with
 |.arr _ sz es=>(match AI es with|true=>K (.sl sz es)|false=>False)
 |_=>False
theorem ZdI{ob:HO}(h:imK ob K):LB (imK ob) K:=by
 unfold imK at h;split at h
 ·split at h;·rename_i hc;exact⟨_,h,λK' k=>by unfold imK;simp only[hc];exact k⟩
  exact h.elim
 exact h.elim
def rK(P:Program)(T:List TY)(s:Nat)(E:List AV)(H:List HO)(o:Op)(K:AV->Option HO->Prop):Prop:=
 match o with
 |.box _ x=>Zt E x λob f=>K (f s) (some ob)
 |.alloc t=>Lw T t λob f=>K (f s) (some ob)
 |.build t parts=>I8 T E t parts.toList λv=>K v none
 |.buildSlice t n parts=>Dr H s λpl=>(match pl with
  |.dead=>CQ T E t n parts.toList λob f=>K (f s) (some ob)
  |.ghost _ _ _=>CQ T E t n parts.toList λob _=>imK ob λv=>K v none
  |_=>False)
 |.makeSlice t l c=>Ep T E t l c λob f=>K (f s) (some ob)
 |.call c=>match c.callee with
  |.builtin .len|.builtin .min|.builtin .max=>Cj T E H (.call c) λv=>K v none
  |.value f=>DF E f λfv=>(match fv with
   |.fn f cap=>GZ (DF E) c.args.toList λas=>Zx as cap λas=>IB P f H as λv=>K v none
   |_=>False)
  |_=>False
 |o=>Cj T E H o λv=>K v none
section
variable {P:Program}{T:List TY}{E:List AV}{H:List HO}
theorem WT{x:Operand}{K:HO->(Nat->AV)->Prop}(h:Zt E x K):∃ob f,K ob f/\∀E',BL E' x=BL E x->∀K':HO->(Nat->AV)->Prop,K' ob f->Zt E' x K':=by
 unfold Zt at h;rw[Ae,AB]at h;split at h;·rename_i hb;exact⟨_,_,h,λE' he K' k=>by unfold Zt;rw[Ae,AB,he,hb];exact k⟩
 exact h.elim
theorem R0{K:HO->(Nat->AV)->Prop}(h:Lw T t K):∃ob f,K ob f/\∀K':HO->(Nat->AV)->Prop,K' ob f->Lw T t K':=by
 unfold Lw at h;replace h:=Bf.1 h;obtain⟨y,hy,h⟩:=h;split at h;·rename_i hb;exact⟨_,_,h,λK' k=>by unfold Lw;exact Bf.2 ⟨y,hy,by simp only[hb];exact k⟩⟩
 exact h.elim
theorem QQ{fs:List (Nat×Nat×Bool)}:∀{parts:List (Nat×Operand)} {cells:List AV} {K:List AV->Prop},P5 E fs parts cells K->
  ∃r,K r/\∀E',(∀p∈parts,BL E' p.2=BL E p.2)->∀K':List AV->Prop,K' r->P5 E' fs parts cells K'
 |[],cells,K,h=>⟨_,h,λE' _ K' k=>k⟩
 |(i,x)::r,cells,K,h=>by
  unfold P5 at h;replace h:=Bf.1 h;obtain⟨⟨off,size,ag⟩,hf,h⟩:=h;simp only at h;rw[Ae,AB]at h;split at h;·rename_i hb;rw[DS]at h;obtain⟨rr,h,hr⟩:=QQ h;refine⟨rr,h,λE' he K' k=>?_⟩;unfold P5;refine Bf.2 ⟨_,hf,?_⟩;simp only;rw[Ae,AB,he (i,x) (by simp),hb];simp only;rw[DS];exact hr E' (λp hp=>he p (by simp[hp])) K' k
  exact h.elim
theorem T8{parts:List (Nat×Operand)}(h:I8 T E t parts K):∃r,K r/\∀E',(∀p∈parts,BL E' p.2=BL E p.2)->∀K':AV->Prop,K' r->I8 T E' t parts K':=by
 unfold I8 at h;replace h:=Bf.1 h;obtain⟨y,hy,h⟩:=h;split at h
 ·rename_i fs hk;exact Yao
 ·rename_i n sz ag hk;exact Yao
 exact h.elim
theorem Ns(h:H8 T e K):LB (H8 T e) K:=by
 unfold H8 at h;replace h:=Bf.1 h;obtain⟨y,hy,h⟩:=h;split at h;·rename_i ha;exact⟨_,h,λK' k=>by unfold H8;exact Bf.2 ⟨y,hy,by simp only[ha];exact k⟩⟩
 rename_i ha;split at h;·rename_i z hz;rw[AV.AS]at h;exact⟨_,h,λK' k=>by unfold H8;exact Bf.2 ⟨y,hy,by simp only[ha,hz];rw[AV.AS];exact k⟩⟩
 exact h.elim
theorem RZ{sz:Nat}:∀{parts:List (Nat×Operand)} {es:List AV} {K:List AV->Prop},JC E sz parts es K->
  ∃r,K r/\∀E',(∀p∈parts,BL E' p.2=BL E p.2)->∀K':List AV->Prop,K' r->JC E' sz parts es K'
 |[],es,K,h=>⟨_,h,λE' _ K' k=>k⟩
 |(i,x)::r,es,K,h=>by
  unfold JC at h;rw[Ae,AB]at h;split at h;·rename_i hb;rw[AY]at h;obtain⟨rr,h,hr⟩:=RZ h;refine⟨rr,h,λE' he K' k=>?_⟩;unfold JC;rw[Ae,AB,he (i,x) (by simp),hb];simp only;rw[AY];exact hr E' (λp hp=>he p (by simp[hp])) K' k
  exact h.elim
theorem HX{parts:List (Nat×Operand)}{K:HO->(Nat->AV)->Prop}(h:CQ T E t n parts K):
  ∃ob f,K ob f/\∀E',(∀p∈parts,BL E' p.2=BL E p.2)->∀K':HO->(Nat->AV)->Prop,K' ob f->CQ T E' t n parts K':=by
 unfold CQ at h;replace h:=Bf.1 h;obtain⟨y,hy,h⟩:=h;split at h
 ·rename_i e Cz by' ag hk
  obtain⟨z,h,hz⟩:=Ns h;rw[AB]at h;split at h;·rename_i hb;rw[Ev]at h;obtain⟨r,h,hr⟩:=RZ h;exact⟨_,_,h,λE' he K' k=>by unfold CQ;exact Bf.2 ⟨y,hy,by simp only[hk];exact hz _ (by rw[AB,hb];simp only;rw[Ev];exact hr E' he _ k)⟩⟩
  exact h.elim
 exact h.elim
theorem Ms{ln cp:Operand}{K:HO->(Nat->AV)->Prop}(h:Ep T E t ln cp K):
  ∃ob f,K ob f/\∀E',BL E' ln=BL E ln->BL E' cp=BL E cp->∀K':HO->(Nat->AV)->Prop,K' ob f->Ep T E' t ln cp K':=by
 unfold Ep at h;replace h:=Bf.1 h;obtain⟨y,hy,h⟩:=h;split at h
 ·rename_i e Cz by' ag hk
  obtain⟨z,h,hz⟩:=Ns h;rw[AB]at h;split at h
  ·rename_i hb;rw[Ae,Ae]at h;split at h;·rename_i n c e1 e2;exact⟨_,_,h.2,λE' h1 h2 K' k=>by unfold Ep;exact Bf.2 ⟨y,hy,by simp only[hk];refine hz _ ?_;rw[AB,hb];simp only;rw[Ae,Ae,h1,h2,e1,e2];exact⟨h.1,k⟩⟩⟩
   exact h.elim
  exact h.elim
 exact h.elim
theorem ZaE{s:Nat}{o:Op}{K:AV->Option HO->Prop}(h:rK P T s E H o K):∃r ob,K r ob/\∀E' H',X3 E E' o->gC E o H H'->H'[s]?=H[s]?->∀K':AV->Option HO->Prop,K' r ob->rK P T s E' H' o K':=by
 unfold rK at h;split at h
 case h_1 t x=>
  obtain⟨ob,f,h,hf⟩:=WT h;exact⟨_,_,h,λE' H' ha _ _ K' k=>by unfold rK;exact hf E' (ha x (by simp[Ao])) _ k⟩
 case h_2 t=>
  obtain⟨ob,f,h,hf⟩:=R0 h;exact⟨_,_,h,λE' H' ha _ _ K' k=>by unfold rK;exact hf _ k⟩
 case h_3 t parts=>
  obtain⟨r,h,hr⟩:=T8 h;exact⟨_,_,h,λE' H' ha _ _ K' k=>by unfold rK;exact hr E' (λp hp=>ha p.2 (by simp only[Ao];simp;exact⟨p.1,by simpa using hp⟩)) _ k⟩
 case h_4 t n parts=>
  replace h:=Bf.1 h;obtain⟨pl,V1,h⟩:=h;split at h;obtain⟨ob,f,h,hr⟩:=HX h;exact⟨_,_,h,λE' H' ha _ hs K' k=>by unfold rK;exact Bf.2 ⟨.dead,by rw[hs];exact V1,hr E' (λp hp=>ha p.2 (by simp only[Ao];simp;exact⟨p.1,by simpa using hp⟩)) _ k⟩⟩;·rename_i cs vs ms;obtain⟨ob,f,h,hr⟩:=HX h;obtain⟨v,h,hv⟩:=ZdI h;exact⟨_,_,h,λE' H' ha _ hs K' k=>by unfold rK;exact Bf.2 ⟨.ghost cs vs ms,by rw[hs];exact V1,hr E' (λp hp=>ha p.2 (by simp only[Ao];simp;exact⟨p.1,by simpa using hp⟩)) _ (hv _ k)⟩⟩
  exact h.elim
 case h_5 t l c=>
  obtain⟨ob,f,h,hr⟩:=Ms h;exact⟨_,_,h,λE' H' ha _ _ K' k=>by unfold rK;exact hr E' (ha l (by simp[Ao])) (ha c (by simp[Ao])) _ k⟩
 case h_6 c=>
  split at h;·rename_i hc;obtain⟨r,h1,h2⟩:=Iv h;exact⟨_,_,h1,λE' H' ha hu _ K' k=>by unfold rK;simp only[hc];exact h2 E' H' ha hu _ k⟩
  ·rename_i hc;exact Yas
  ·rename_i hc;exact Yas
  ·rename_i f hc;rw[Ae]at h;split at h
   ·rename_i fi cap dP;rw[Di (DF E) (BL E) (Ae E),Dl]at h;obtain⟨r,h1,h2⟩:=T2 h;refine⟨_,_,h1,λE' H' ha hu _ K' k=>?_⟩;(have vO:f∈(Op.call c).operands:=by simp[Ao,Call.operands,hc]);(have Zj3:∀x∈c.args.toList,x∈(Op.call c).operands:=λx hx=>by simp[Ao,Call.operands,hc];exact .inr (by simpa using hx));unfold rK;simp only[hc];rw[Ae,ha f vO,dP];simp only;rw[Di (DF E') (BL E') (Ae E'),Dl];have hm:c.args.toList.map (BL E')=c.args.toList.map (BL E):=LM λx hx=>ha x (Zj3 x hx);rw[hm];refine h2 H' (λx hx=>?_) _ k;rcases Jg.1 hx with hx|hx;·obtain⟨y,hy,rfl⟩:=HB.1 hx;exact hu y (Zj3 y hy)
    intro l ob hr hl;refine hu f vO l ob ?_ hl;rw[dP];unfold Jc
    have key:∀(xs:List AV),x∈xs->RV l xs=true:=by
     intro xs
     induction xs with
     |nil=>intro h;cases h
     |cons y ys ih=>
      intro h;unfold RV;rcases A6.1 h with rfl|h;rw[hr];rfl;rw[ih h];simp
    exact key cap hx
   exact h.elim
  exact h.elim
 case h_7 h1 h2 h3 h4 h5 h6=>
  obtain⟨r,k1,k2⟩:=Iv h;refine⟨_,_,k1,λE' H' ha hu _ K' k=>?_⟩;unfold rK;split;exact absurd rfl (h1 _ _);exact absurd rfl (h2 _);exact absurd rfl (h3 _ _);exact absurd rfl (h4 _ _ _);exact absurd rfl (h5 _ _ _);exact absurd rfl (h6 _);exact k2 E' H' ha hu _ k
end
def SD(v:AV)(K:AV->Prop):Prop:=
 match v with
 |.bool b=>(b=true->K (.lit true))/\(b=false->K (.lit false))
 |w=>K w
def Zb(ops:List Oper)(E:List AV)(g:Option (Nat×Bool))(Ky Kn:Prop):Prop:=
 match g with
 |none=>Ky
 |some (j,want)=>Dr ops j λoj=>match oj.dst with
  |some d=>Dr E d λv=>(match v with
   |.lit b=>(match b,want with
    |true,true|false,false=>Ky
    |true,false=>Kn
    |false,true=>Kn)
   |.raw (.tuple ⟨[]⟩)=>Kn
   |_=>False)
  |none=>False
def Tw(H:List HO)(s:Nat)(ob:Option HO)(K:List HO->Prop):Prop:=
 match ob with
 |none=>K H
 |some ob=>Dr H s λo=>(match o with|.dead=>Dn H s ob K|_=>False)
def Fu(H:List HO)(s:Nat)(ob:Option HO):List HO:=match ob with|none=>H|some ob=>H.set s ob
theorem Qz(H:List HO)(s:Nat)(ob:Option HO)(K:List HO->Prop):Tw H s ob K↔(∀x,ob=some x->H[s]?=some .dead)/\K (Fu H s ob):=by
 cases ob with
 |none=>simp[Tw,Fu]
 |some ob=>
  simp only[Tw,Fu];rw[PH];constructor;·rintro⟨o,ho,h⟩;(cases o<;>first|exact h.elim|skip);simp only at h;rw[AY]at h;exact⟨λ_ _=>ho,h⟩
  rintro⟨h1,h2⟩;exact⟨.dead,h1 ob rfl,by simp only;rw[AY];exact h2⟩
def KQ(P:Program)(T:List TY)(ops:List Oper)(n0 i:Nat)(o:Oper)(E:List AV)(H:List HO)(K:KK):Prop:=
 Zb ops E o.guard (rK P T (n0+i) E H o.op λv ob=>SD v λv=>BV E o.dst v λE'=>Tw H (n0+i) ob λH'=>K E' H')
  (BV E o.dst (.raw undef) λE'=>K E' H)
def DO:List Nat->Nat->Bool
 |[],_=>false
 |x::l,n=>match Bg x n with|true=>true|false=>DO l n
def rdK(P:Program)(T:List TY)(ops:List Oper)(n0:Nat)(we:List Nat):Nat->List Oper->List AV->List HO->KK->XX->Prop
 |_,[],E,H,K,_=>K E H
 |i,o::r,E,H,K,X=>match DO we i with
  |false=>KQ P T ops n0 i o E H λE H=>rdK P T ops n0 we (i+1) r E H K X
  |true=>Zb ops E o.guard (TX none P T E H o.op (λv E' H'=>SD v λv=>BV E' o.dst v λGp=>rdK P T ops n0 we (i+1) r Gp H' K X) X)
    (BV E o.dst (.raw undef) λE'=>rdK P T ops n0 we (i+1) r E' H K X)
def Fi(ops:List Oper)(E E':List AV)(o:Oper):Prop:=X3 E E' o.op/\∀j want oj d,o.guard=some (j,want)->ops[j]?=some oj->oj.dst=some d->E'[d]?=E[d]?
section
variable {P:Program}{T:List TY}{E:List AV}{H:List HO}{ops:List Oper}{n0 i:Nat}{o:Oper}
theorem Nt{v:AV}(h:SD v K):∃u,K u/\(∀K':AV->Prop,K' u->SD v K')/\(∀(C:Af)(w:World)(mu:Mu)(z:Value),Aj C w v mu z->Aj C w u mu z)/\(∀b,u≠.bool b):=by
 unfold SD at h;split at h
 ·rename_i b;cases b with
  |true=>exact⟨.lit true,h.1 rfl,λK' k=>by unfold SD;exact⟨λ_=>k,λh=>by cases h⟩,λ_ _ _ _ h=>by unfold Aj at*;exact h,λ_ h=>by cases h⟩
  |false=>exact⟨.lit false,h.2 rfl,λK' k=>by unfold SD;exact⟨λh=>(by cases h),λ_=>k⟩,λ_ _ _ _ h=>by unfold Aj at*;exact h,λ_ h=>by cases h⟩
 rename_i BK;refine⟨v,h,λK' k=>?_,?_,λb hb=>BK b hb⟩
 ·unfold SD;split;·rename_i b;exact absurd rfl (BK b)
  exact k
 exact λ_ _ _ _ h=>h
theorem wI{g:Option (Nat×Bool)}{Ky Kn:Prop}(h:Zb ops E g Ky Kn):
  (Ky/\∀E' Zz XY,(∀j want oj d,g=some (j,want)->ops[j]?=some oj->oj.dst=some d->E'[d]?=E[d]?)->Zz->Zb ops E' g Zz XY)\/
  (Kn/\∀E' Zz XY,(∀j want oj d,g=some (j,want)->ops[j]?=some oj->oj.dst=some d->E'[d]?=E[d]?)->XY->Zb ops E' g Zz XY):=by
 cases g with
 |none=>exact .inl ⟨h,λ_ _ _ _ k=>k⟩
 |some jw=>
  obtain⟨j,want⟩:=jw;simp only[Zb]at h;replace h:=Bf.1 h;obtain⟨oj,DP,h⟩:=h;cases hd:oj.dst with
  |none=>rw[hd]at h;exact h.elim
  |some d=>
   rw[hd]at h;simp only at h;replace h:=Bf.1 h;obtain⟨v,hv,h⟩:=h
   have fin:∀E' Zz XY,(∀j' Zjk oj' d',some (j,want)=some (j',Zjk)->ops[j']?=some oj'->oj'.dst=some d'->E'[d']?=E[d']?)->
     (match (generalizing:=false) v with|.lit b=>(match (generalizing:=false) b,want with|true,true=>Zz|false,false=>Zz|true,false=>XY|false,true=>XY)|.raw (.tuple ⟨[]⟩)=>XY|_=>False)->Zb ops E' (some (j,want)) Zz XY:=λE' Zz XY he k=>by
    simp only[Zb];refine Bf.2 ⟨oj,DP,?_⟩;rw[hd];exact Bf.2 ⟨v,by rw[he j want oj d rfl DP hd];exact hv,k⟩
   split at h;·rename_i b;cases b<;>cases want;exact .inl ⟨h,λE' Zz XY he k=>fin E' Zz XY he k⟩;exact .inr ⟨h,λE' Zz XY he k=>fin E' Zz XY he k⟩;exact .inr ⟨h,λE' Zz XY he k=>fin E' Zz XY he k⟩;exact .inl ⟨h,λE' Zz XY he k=>fin E' Zz XY he k⟩
   exact .inr ⟨h,λE' Zz XY he k=>fin E' Zz XY he k⟩;exact h.elim
theorem Ih{K:KK}(h:KQ P T ops n0 i o E H K):∃v ob,(∀x,ob=some x->H[n0+i]?=some .dead)/\K (B8 E o.dst v) (Fu H (n0+i) ob)/\
  ∀E' H',Fi ops E E' o->gC E o.op H H'->H'[n0+i]?=H[n0+i]?->∀K':KK,K' (B8 E' o.dst v) (Fu H' (n0+i) ob)->KQ P T ops n0 i o E' H' K':=by
 unfold KQ at h;rcases wI h with⟨h,hg⟩|⟨h,hg⟩;obtain⟨r,ob,h,hr⟩:=ZaE h;obtain⟨v,h,hv,_,_⟩:=Nt h;rw[AF,Qz]at h;refine⟨v,ob,h.1,h.2,λE' H' ha hu hd K' k=>?_⟩;unfold KQ;refine hg E' _ _ ha.2 (hr E' H' ha.1 hu hd _ (hv _ ?_));rw[AF,Qz];exact⟨λx hx=>by rw[hd];exact h.1 x hx,k⟩;rw[AF]at h;refine⟨.raw undef,none,(λ_ h=>by cases h),h,λE' H' ha hu hd K' k=>?_⟩;unfold KQ;refine hg E' _ _ ha.2 ?_;rw[AF];exact k
theorem ID{K K':KK}(h:KQ P T ops n0 i o E H K)(hk:∀E H,K E H->K' E H):KQ P T ops n0 i o E H K':=by
 obtain⟨v,ob,h1,h2,h3⟩:=Ih h;exact h3 E H ⟨λ_ _=>rfl,λ_ _ _ _ _ _ _=>rfl⟩ (λ_ _ _ _ _ h=>h) rfl K' (hk _ _ h2)
theorem Zgw{s:Nat}{r:AV}{ob:Option HO}{X:XX}{op:Op}(h:rK P T s E H op λv QS=>v=r/\QS=ob)(hd:∀x,ob=some x->H[s]?=some .dead)(yL:∀t n parts,op=.buildSlice t n parts->H[s]?=some .dead):
  TX (some s) P T E H op (λv E' H'=>v=r/\E'=E/\H'=Fu H s ob) X:=by
 have al:∀{x:HO}{f:Nat->AV},f s=r/\some x=ob->ZH (some s) H x λH' l=>f l=r/\E=E/\H'=Fu H s ob:=λ{x f} k=>by obtain⟨k1,rfl⟩:=k;unfold ZH;exact Bf.2 ⟨.dead,hd x rfl,by dsimp only;rw[AY];exact⟨k1,rfl,rfl⟩⟩
 have pu:∀{op:Op},Cj T E H op (λv=>v=r/\none=ob)->Cj T E H op (λv=>v=r/\E=E/\H=Fu H s ob):=λh=>by obtain⟨v,k,hv⟩:=Iv h;exact hv E H (λ_ _=>rfl) (λ_ _ _ _ _ h=>h) _ ⟨k.1,rfl,by rw[<-k.2];rfl⟩
 cases op
 case box t x=>
  change Zt E x (λo f=>f s=r/\some o=ob)at h;show Zt E x (λo f=>ZH (some s) H o λH' l=>f l=r/\E=E/\H'=Fu H s ob);obtain⟨QS,f,k,hf⟩:=WT h;exact hf E rfl _ (al k)
 case alloc t=>
  change Lw T t (λo f=>f s=r/\some o=ob)at h;show Lw T t (λo f=>ZH (some s) H o λH' l=>f l=r/\E=E/\H'=Fu H s ob);obtain⟨QS,f,k,hf⟩:=R0 h;exact hf _ (al k)
 case build t parts=>
  change I8 T E t parts.toList (λv=>v=r/\none=ob)at h;show I8 T E t parts.toList (λv=>v=r/\E=E/\H=Fu H s ob);obtain⟨v,k,hv⟩:=T8 h;exact hv E (λ_ _=>rfl) _ ⟨k.1,rfl,by rw[<-k.2];rfl⟩
 case buildSlice t n parts=>
  have h0:=yL t n parts rfl;unfold rK at h;replace h:=Bf.1 h;obtain⟨pl,V1,h⟩:=h;rw[h0]at V1;obtain rfl:=A3.inj V1;change CQ T E t n parts.toList (λo f=>f s=r/\some o=ob)at h;show CQ T E t n parts.toList (λo f=>ZH (some s) H o λH' l=>f l=r/\E=E/\H'=Fu H s ob);obtain⟨QS,f,k,hf⟩:=HX h;exact hf E (λ_ _=>rfl) _ (al k)
 case makeSlice t l c=>
  change Ep T E t l c (λo f=>f s=r/\some o=ob)at h;show Ep T E t l c (λo f=>ZH (some s) H o λH' l=>f l=r/\E=E/\H'=Fu H s ob);obtain⟨QS,f,k,hf⟩:=Ms h;exact hf E rfl rfl _ (al k)
 case call c=>
  unfold rK at h;unfold TX;dsimp only at h⊢;split at h;·rename_i hc;rw[hc];exact pu h
  ·rename_i hc;rw[hc];exact pu h
  ·rename_i hc;rw[hc];exact pu h
  ·rename_i f hc;rw[hc];dsimp only;rw[Ae]at h ⊢;split at h;·rename_i fi cap dP;rw[dP];dsimp only;rw[Di (DF E) (BL E) (Ae E),Dl]at h ⊢;(have Kt:Cp P fi=true:=gV h λh=>by obtain⟨r,hr,_⟩:=Mt h;exact⟨r,hr⟩);obtain⟨v,k,hv⟩:=T2 h;exact Ah.T9 (hv H (λ_ _ _ _ _ h=>h) _ ⟨k.1,rfl,by rw[<-k.2];rfl⟩) Kt
   exact h.elim
  exact h.elim
 case convert s' d x=>
  have h':=pu (show Cj T E H (.convert s' d x) (λv=>v=r/\none=ob)from h);unfold Cj at h';unfold TX;dsimp only at h'⊢;rw[Ae]at h' ⊢;generalize BL E x=ex at h';cases ex<;>first|exact h'.elim|skip
  exact h';rename_i l;unfold KG at h';dsimp only at h'⊢;replace h':=Bf.1 h';obtain⟨ys,hys,h'⟩:=h';replace h':=Bf.1 h';obtain⟨yd,hyd,h'⟩:=h';refine Bf.2 ⟨yd,hyd,?_⟩;cases hk:yd.k<;>rw[hk]at h'<;>first|exact h'.elim|skip
  dsimp only;unfold KG;exact Bf.2 ⟨ys,hys,Bf.2 ⟨yd,hyd,by rw[hk];exact h'⟩⟩
 case load t ad=>
  unfold rK at h;dsimp only at h;cases ad with
  |global g=>exact(show False from h).elim
  |_=>exact pu h
 all_goals
  unfold rK at h;dsimp only at h;first|exact pu h|(unfold Cj at h;exact h.elim)
end
section
variable {G:Cx}{C:Af}{w w':World}{mu:Mu}{H:List HO}{E:List AV}{a:Act}{T:List TY}{P:Program}{ops:Array Oper}{n0 i:Nat}{o:Oper}
theorem Ra{Ky Kn:Prop}(Ai:AJ G C mu E H a w)(h:Zb ops.toList E o.guard Ky Kn):
  (Bb o (yielded ops a.tmps)=true/\Ky)\/(Bb o (yielded ops a.tmps)=false/\Kn):=by
 cases hg:o.guard with
 |none=>rw[hg]at h;exact .inl ⟨by simp[Bb,hg],h⟩
 |some jw=>
  obtain⟨j,want⟩:=jw;rw[hg]at h;simp only[Zb]at h;replace h:=Bf.1 h;obtain⟨oj,DP,h⟩:=h;split at h
  ·rename_i d hd;replace h:=Bf.1 h;obtain⟨v,hv,h⟩:=h;obtain⟨u,hu,hr⟩:=JA Ai.env hv;(have Zj5:ops[j]?=some oj:=by simpa using DP);(have hw:∀b,u=.bool b->Bb o (yielded ops a.tmps)=(b == want):=λb hb=>by simp[Bb,hg,yielded,Zj5,hd,hu,hb]);split at h;·rename_i b;have hb:=B5 hr;cases b<;>cases want;exact .inl ⟨by rw[hw _ hb];rfl,h⟩;exact .inr ⟨by rw[hw _ hb];rfl,h⟩;exact .inr ⟨by rw[hw _ hb];rfl,h⟩;exact .inl ⟨by rw[hw _ hb];rfl,h⟩
   ·(have hb:u=.tuple ⟨[]⟩:=by unfold Aj at hr;exact hr);refine .inr ⟨?_,h⟩;simp[Bb,hg,yielded,Zj5,hd,hu,hb]
   exact h.elim
  exact h.elim
theorem ZcF(H:List HO)(ob:HO):Al H H.length (H++[ob]) ob:=⟨by simp,by simp,by simp,λi hi=>by
 rcases Rr i H.length with h|h;rw[A5 h];rw[LP h,Ib (by simp;omega),Ib h],.inl (by simp)⟩
theorem Sl:∀{es:List AV},AI es=true->∀e∈es,closed e=true
 |[],_,_,h=>by cases h
 |a::r,hc,e,he=>by unfold AI at hc;simp only[Ap]at hc;rcases A6.1 he with rfl|he;exact hc.1;exact Sl hc.2 e he
theorem Wd(hT:CY G.P T)(h:AJ G C mu E H a w){parts:Array (Nat×Operand)}(hk:CQ T E t n parts.toList λob _=>imK ob K):
  ∃r v C' w',K r/\(Instr.buildSlice t n (parts.map λp=>(p.1,a.eval p.2))).run G.P w=.ok v w'/\AJ G C' mu E H a w'/\Aj C' w' r mu v:=by
 obtain⟨e,Cz,es,us,k1,k2,k3,k4,k5,k6,k7,k8⟩:=M8 hT h hk;unfold imK at k1;dsimp only at k1;split at k1
 ·rename_i hc;have hb:Below w.heap.size w (w.alloc (.cells us.toArray e)):=(Below.refl _ _).alloc (Hq _) _;have DT:(w.alloc (.cells us.toArray e)).heap.size=w.heap.size+1:=by simp
  obtain⟨mu',m1,m2⟩:=SU (cap:=n) h (ZcF H (.arr e Cz es)) k3 (e:=e) (vs:=us) (by rw[k2,<-k6,List.take_length];exact k4) k5 (by omega) (by omega) k6;refine⟨_,_,Mz C w.heap.size (w.alloc (.cells us.toArray e)).heap.size,_,k1,k8,h.below hb,?_⟩;have hx:Ext C (Mz C w.heap.size (w.alloc (.cells us.toArray e)).heap.size) (w.alloc (.cells us.toArray e)) (w.alloc (.cells us.toArray e)):=⟨λ_ _ h=>.inl h,λ_ _ _=>rfl⟩;have m3:=m2;unfold Aj at m3;obtain⟨x,hm,hle,UM,hv⟩:=m3
  have hB:∀g b o,mu' H.length=some g->g.Az=some b->Mz C w.heap.size (w.alloc (.cells us.toArray e)).heap.size b o:=by
   intro g b o hg dT;rw[hm]at hg;obtain rfl:=A3.inj hg;unfold DJ at hv;split at hv;·rename_i ad _ cap;simp only[Value.slice.injEq,A3.injEq,Addr.mk.injEq]at hv;simp only[GO.Az,A3.injEq]at dT;right;rw[DT];omega
   simp at hv
  have:=Ml (l:=H.length) (e:=e) (sz:=Cz) (es:=es) m1.heap hx hB (by simp) (Sl hc) m2;rw[k2]at this;exact Aj.mono (Ext.refl _ _) _ (AU.none mu) this
 exact k1.elim
theorem Pd(hT:CY G.P T){r:Option Nat}(hi:ops[i]?=some o){K Kn:KK}{X:XX}(h:KQ G.P T ops.toList n0 i o E H K)(Ai:AJ G C mu E H a w):
  (Bb o (yielded ops a.tmps)=true/\o.wpIn (fw r) n G.P a w (λa w=>∃E' H',K E' H'/\St G E' H' a w) (L6 G Kn X))\/
  (Bb o (yielded ops a.tmps)=false/\∃E' H',K E' H'/\St G E' H' (a.put o.dst undef) w):=by
 unfold KQ at h;rcases Ra Ai h with⟨hw,h⟩|⟨hw,h⟩
 ·refine .inl ⟨hw,?_⟩;obtain⟨r,ob,h,hr⟩:=ZaE h;obtain⟨v,hk,_,hv,_⟩:=Nt h;rw[AF,Qz]at hk;have pN:=hr E H (λ_ _=>rfl) (λ_ _ _ _ _ h=>h) rfl (λv QS=>v=r/\QS=ob) ⟨rfl,rfl⟩
  have fin:∀a' w',I9 G o (λv E' H'=>v=r/\E'=E/\H'=Fu H (n0+i) ob) a' w'->∃E' H',K E' H'/\St G E' H' a' w':=by
   intro a' w' hp;obtain⟨r',E',H',⟨rfl,rfl,rfl⟩,C',mu',hs⟩:=hp;refine⟨_,_,hk.2,C',mu',hs.frame ?_ rfl⟩;have he:=hs.env;cases hd:o.dst with
   |none=>rw[hd]at he;exact he
   |some d=>
    rw[hd]at he;rw[Bo]at he ⊢;refine⟨by simpa[B8]using he.1,λk hk KR=>?_⟩;(have hk0:k<(B8 E' (some d) r').length:=by simpa[B8]using hk);exact Yap
  by_cases yL:∀t n parts,o.op=.buildSlice t n parts->H[n0+i]?=some .dead;have h1:=Zgw (X:=X) pN hk.1 yL;exact Ex hT h1 Ai fin;have yL:∃t n parts,o.op=.buildSlice t n parts/\H[n0+i]?≠some .dead:=by apply Classical.byContradiction;intro BK;exact yL λt n parts ho=>Classical.byContradiction λhd=>BK ⟨t,n,parts,ho,hd⟩
  obtain⟨t,m,parts,ho,O2⟩:=yL;rw[ho]at pN;unfold rK at pN;replace pN:=Bf.1 pN;obtain⟨pl,V1,pN⟩:=pN;split at pN;exact absurd V1 O2;obtain⟨r',v',C',w',⟨e1,e2⟩,e3,e4,e5⟩:=Wd hT Ai pN;have h1:r'=r/\E=E/\H=Fu H (n0+i) ob:=⟨e1,rfl,by rw[<-e2];rfl⟩;have h2:(execOp a.eval o).run G.P w=.ok (.value v') w':=Bm (by simp[execOp,ho]) e3;exact Dd (λc hc=>by rw[ho]at hc;cases hc) (A8 (X:=X) (Q:=Kn) (K:=λv E' H'=>v=r/\E'=E/\H'=Fu H (n0+i) ob) fin h1 h2 e4 e5);exact pN.elim
 rw[AF]at h;refine .inr ⟨hw,_,_,h,C,mu,Ai.frame (BF Ai.env o.dst (by unfold Aj;rfl)) (put_defers _ _ _)⟩
theorem Zdc{next:Act->World->Prop}{Q:Exit->Act->World->Prop}(h:o.wpIn (fw none) 0 P a w next Q):(∃a w,next a w)\/∃e a w,Q e a w:=by
 have h:=h.2;generalize (o.semAt (fw none).round a.eval).run P w=r at h;cases r with
 |ok n w'=>
  cases n<;>simp only[N1]at h<;>first|exact h.elim|exact .inl ⟨_,_,h⟩|skip
  ·obtain⟨e,O6,fr,h,_⟩:=h.2.2 [] (room_wide _);cases e with
   |returned v=>exact .inl ⟨_,_,h⟩
   |panicked c=>exact .inr ⟨_,_,_,h⟩
   |outgrown=>obtain⟨a,w,h⟩:=h;exact .inr ⟨_,_,_,h⟩
  ·obtain⟨e,O6,h,_⟩:=h.2.2 (Frame.ofRow P "" #[] .normal) [] (room_wide _);cases e with
   |returned v=>exact .inl ⟨_,_,h⟩
   |panicked c=>exact .inr ⟨_,_,_,h⟩
   |outgrown=>obtain⟨a,w,h⟩:=h;exact .inr ⟨_,_,_,h⟩
  obtain⟨v,O6,h,_⟩:=h.2 (Frame.ofRow P "" #[] .normal) [] (room_wide _);exact .inl ⟨_,_,h⟩
 |halt x w'=>cases x<;>simp only[N1]at h<;>first|exact h.elim|exact .inr ⟨_,_,_,h⟩
def Sat(P:Program)(E:List AV)(H:List HO):Prop:=∃G a w,G.P=P/\St G E H a w
theorem Tq(hT:CY P T)(hi:ops[i]?=some o){E':List AV}{H':List HO}(h:KQ P T ops.toList n0 i o E H λE1 H1=>E1=E'/\H1=H')(hs:Sat P E H):Sat P E' H':=by
 obtain⟨G,a,w,rfl,C,mu,Ai⟩:=hs;rcases Pd (r:=none) (n:=0) hT hi (Kn:=λ_ _=>False) (X:=λ_ _ _=>False) h Ai with⟨_,h1⟩|⟨_,E1,H1,⟨e1,e2⟩,h1⟩
 ·rcases Zdc h1 with⟨a',w',E1,H1,⟨e1,e2⟩,h2⟩|⟨e,a',w',h2⟩;·subst e1 e2;exact⟨G,a',w',rfl,h2⟩
  cases e<;>simp[L6]at h2
 subst e1 e2;exact⟨G,_,w,rfl,h1⟩
theorem Wy(hs:Sat P E H)(hl:H[l]?=some .dead)(x:Operand):Jc l (BL E x)=false:=by
 obtain⟨G,a,w,rfl,C,mu,Ai⟩:=hs;exact Yt (Ai.heap.dead l hl) _ (Bv Ai.env x)
end
section
variable {H:List HO}{E:List AV}{T:List TY}{P:Program}
structure Ze7(f:AV->AV):Prop where
 any:f .any=.any
 bool:∀b,f (.bool b)=.bool b
 lit:∀b,f (.lit b)=.lit b
 ZjD:∀x b,f x=.bool b->x=.bool b
theorem ZaX:Ze7 id:=⟨rfl,λ_=>rfl,λ_=>rfl,λ_ _ h=>h⟩
theorem tX(l:Nat):Ze7 (Dh l):=by
 refine⟨by unfold Dh;rfl,λb=>by unfold Dh;rfl,λb=>by unfold Dh;rfl,λx b h=>?_⟩;cases x<;>unfold Dh at h<;>first|exact h|(split at h<;>cases h)|cases h
theorem Oo(l:Nat):∀E:List AV,Cw l E=E.map (Dh l)
 |[]=>by simp[Cw]
 |x::E=>by simp[Cw,Oo l E]
theorem jO{K:Nat->List AV->Prop}(h:HZ H x K):∃sz es,K sz es/\∀K':Nat->List AV->Prop,K' sz es->HZ H x K':=by
 unfold HZ at h;split at h;exact⟨_,_,h,λK' k=>k⟩
 ·replace h:=Bf.1 h;obtain⟨ob,BR,h⟩:=h;split at h
  ·split at h;·rename_i hb;exact⟨_,_,h.2,λK' k=>by unfold HZ;exact Bf.2 ⟨_,BR,by simp only[hb];exact⟨h.1,k⟩⟩⟩
   exact h.elim
  exact h.elim
 exact h.elim
mutual
theorem K5(l:Nat):∀x:AV,closed x=true->Dh l x=x
 |.own _ _ _ _,h|.el _ _ _ _,h|.ptr _ _,h|.om _,h=>by unfold closed at h;cases h
 |.fn f cap,h|.mv f cap,h=>by unfold closed at h;unfold Dh;rw[Hy l cap h]
 |.iface t x,h=>by unfold closed at h;unfold Dh;rw[K5 l x h]
 |.agg cs,h|.tuple cs,h=>by unfold closed at h;unfold Dh;rw[Hy l cs h]
 |.any,_|.int _ _,_|.bool _,_|.lit _,_|.str _,_|.sl _ _,_|.at_ _,_|.raw _,_|.mp _ _,_=>by unfold Dh;rfl
theorem Hy(l:Nat):∀xs:List AV,AI xs=true->Cw l xs=xs
 |[],_=>by unfold Cw;rfl
 |x::xs,h=>by unfold AI at h;simp only[Ap]at h;unfold Cw;rw[K5 l x h.1,Hy l xs h.2]
end
structure ZB(H:List HO)(f:AV->AV)(H1:List HO):Prop where
 nat:Ze7 f
 cl:∀v,closed v=true->f v=v
 ptr:∀l o,f (.ptr l o)=.ptr l o
 cells:∀(l:Nat) cs,H[l]?=some (.cells cs)->AI cs=true->H1[l]?=some (.cells cs)
 place:∀(l:Nat),H[l]?=some .dead\/H[l]?=some (.ghost [] [] [])->H1[l]?=H[l]?
theorem pZ(H:List HO):ZB H id H:=⟨ZaX,λ_ _=>rfl,λ_ _=>rfl,λ_ _ h _=>h,λ_ _=>rfl⟩
theorem aD{x:HO}{y:HO}(h:H[l]?=some y):(H++[x])[l]?=some y:=by
 rw[A5 (A1.1 h).1];exact h
theorem wF(H:List HO)(x:HO):ZB H id (H++[x]):=⟨ZaX,λ_ _=>rfl,λ_ _=>rfl,λ_ _ h _=>aD h,λl h=>by
 rcases h with h|h<;>rw[aD h,h]⟩
theorem ZbY{e':TypeId}{De:Nat}{es':List AV}(h:H[l]?=some (.arr e sz es)):ZB H (Dh l) ((H.map (BW l)).set l (.arr e' De es')):=by
 have key:∀{k:Nat}{y:HO},H[k]?=some y->(∀e sz es,y≠.arr e sz es)->BW l y=y->((H.map (BW l)).set l (.arr e' De es'))[k]?=some y:=λ{k y} hk BK hy=>by
  have Jb:l≠k:=λhe=>by subst he;rw[h]at hk;injection hk with hk;exact BK _ _ _ hk.symm
  rw[A0 Jb,PV,hk];simp[hy]
 refine⟨tX l,λv hv=>K5 l v hv,λk o=>by unfold Dh;rfl,λk cs hk hc=>key hk (by intros;simp) (by show HO.cells (Cw l cs)=_;rw[Hy l cs hc]),λk hk=>?_⟩;rcases hk with hk|hk;rw[key hk (by intros;simp) rfl,hk];rw[key hk (by intros;simp) (by unfold BW Cw;rfl),hk]
theorem Yy{t':TypeId}{s x:Operand}{K:AV->KK}(h:HD none T E H t t' s x K):
  ∃r f H',ZB H f H'/\K r (E.map f) H'/\∀(E2:List AV),BL E2 s=BL E s->BL E2 x=BL E x->∀K':AV->KK,K' r (E2.map f) H'->HD none T E2 H t t' s x K':=by
 unfold HD at h;split at h;case h_2=>exact h.elim
 rename_i ht;replace h:=Bf.1 h;obtain⟨y,hy,h⟩:=h;split at h;case h_2=>exact h.elim
 rename_i e Cz by' ag hk
 split at h;case h_2=>exact h.elim
 rename_i hb;rw[Ae,Ae]at h
 have fin:∀(E2:List AV),BL E2 s=BL E s->BL E2 x=BL E x->∀K':AV->KK,(match (generalizing:=false) BL E x with
    |.raw (.slice none 0 0)=>(match BL E s with
     |.own l sz lo n=>Dr H l λob=>(match ob with|.arr _ _ _=>K' (.own l sz lo n) E2 H|_=>False)
     |.raw (.slice none 0 0)=>K' (.raw (.slice none 0 0)) E2 H
     |_=>False)
    |_=>HZ H (BL E x) λsz xs=>(match Bg sz Cz with
     |true=>(match BL E s with
      |.raw (.slice none 0 0)=>(xs.length*by'<=140737488355328)/\H8 T e λz=>EP z λzc=>(match Bg zc.length Cz&&zc.all Eg with
       |true=>ZH none H (.arr e Cz xs) λH' l=>K' (.own l Cz 0 xs.length) E2 H'
       |false=>False)
      |.own l De lo n=>Dr H l λob=>(match ob with
       |.arr e' iB es=>(match Bg De Cz&&Bg iB Cz&&Bg lo 0&&Bg e' e with
        |true=>(n=es.length/\(es++xs).length*by'<=140737488355328)/\H8 T e λz=>EP z λzc=>(match Bg zc.length Cz&&zc.all Eg with
         |true=>K6 l E2 λE'=>Ej l H λH=>Dn H l (.arr e Cz (es++xs)) λH'=>K' (.own l Cz 0 (es++xs).length) E' H'
         |false=>False)
        |false=>False)
       |_=>False)
      |_=>False)
     |false=>False))->HD none T E2 H t t' s x K':=λE2 h1 h2 K' k=>by
  unfold HD;simp only[ht];refine Bf.2 ⟨y,hy,?_⟩;simp only[hk,hb];rw[Ae,Ae,h1,h2];exact k
 generalize BL E s=sv at h fin;generalize BL E x=xv at h fin;split at h
 ·split at h;·rename_i l sz lo n;replace h:=Bf.1 h;obtain⟨ob,BR,h⟩:=h;split at h;exact⟨_,id,H,(pZ H),by simpa using h,λE2 h1 h2 K' k=>fin E2 h1 h2 K' (Bf.2 ⟨_,BR,by simpa using k⟩)⟩;exact h.elim
  exact⟨_,id,H,(pZ H),by simpa using h,λE2 h1 h2 K' k=>fin E2 h1 h2 K' (by simpa using k)⟩;exact h.elim
 rename_i BK;obtain⟨sz,xs,h,he⟩:=jO h
 have Zcb:∀(E2:List AV),BL E2 s=sv->BL E2 x=xv->∀K':AV->KK,HZ H xv (λsz xs=>(match Bg sz Cz with
    |true=>(match (generalizing:=false) sv with
     |.raw (.slice none 0 0)=>(xs.length*by'<=140737488355328)/\H8 T e λz=>EP z λzc=>(match Bg zc.length Cz&&zc.all Eg with
      |true=>ZH none H (.arr e Cz xs) λH' l=>K' (.own l Cz 0 xs.length) E2 H'
      |false=>False)
     |.own l De lo n=>Dr H l λob=>(match ob with
      |.arr e' iB es=>(match Bg De Cz&&Bg iB Cz&&Bg lo 0&&Bg e' e with
       |true=>(n=es.length/\(es++xs).length*by'<=140737488355328)/\H8 T e λz=>EP z λzc=>(match Bg zc.length Cz&&zc.all Eg with
        |true=>K6 l E2 λE'=>Ej l H λH=>Dn H l (.arr e Cz (es++xs)) λH'=>K' (.own l Cz 0 (es++xs).length) E' H'
        |false=>False)
       |false=>False)
      |_=>False)
     |_=>False)
    |false=>False))->HD none T E2 H t t' s x K':=λE2 h1 h2 K' k=>fin E2 h1 h2 K' (by
  split;exact absurd rfl BK;exact k)
 split at h;case h_2=>exact h.elim
 rename_i DT;split at h
 ·obtain⟨hl,h⟩:=h;obtain⟨z,h,hz⟩:=Ns h;rw[AB]at h;split at h;·rename_i hc;unfold ZH at h;simp only at h;rw[Nh]at h;refine⟨_,id,_,(wF H _),by simpa using h,λE2 h1 h2 K' k=>Zcb E2 h1 h2 K' (he _ ?_)⟩;simp only[DT];refine⟨hl,hz _ ?_⟩;rw[AB];simp only[hc];unfold ZH;simp only;rw[Nh];simpa using k
  exact h.elim
 ·rename_i l De lo n;replace h:=Bf.1 h;obtain⟨ob,BR,h⟩:=h;split at h;case h_2=>exact h.elim
  rename_i e' iB es;split at h;case h_2=>exact h.elim
  rename_i hq;obtain⟨hl,h⟩:=h;obtain⟨z,h,hz⟩:=Ns h;rw[AB]at h;split at h;·rename_i hc;rw[FW,EZ,AY]at h;rw[Oo]at h;refine⟨_,Dh _,_,ZbY BR,h,λE2 h1 h2 K' k=>Zcb E2 h1 h2 K' (he _ ?_)⟩;simp only[DT];refine Bf.2 ⟨_,BR,?_⟩;simp only[hq];refine⟨hl,hz _ ?_⟩;rw[AB];simp only[hc];rw[FW,EZ,AY,Oo];exact k
  exact h.elim
 exact h.elim
end
end Go.Av
namespace Go.Av
open Go.RowKit (Below)
variable {d:Option Tmp}{x:AV}{s l:Nat}{E':List AV}{ds:List (Nat×Obj)}{fr:Nat->Prop}
section
variable {G:Cx}{C:Af}{w w':World}{mu:Mu}{H:List HO}{E:List AV}{a:Act}{T:List TY}{P:Program}{ops:Array Oper}{n0 i j:Nat}{o oi oj:Oper}{we:List Nat}{K:KK}{X:XX}
theorem rZ{e:Option Tmp}{y:AV}(h:∀t,d=some t->e≠some t):B8 (B8 E d x) e y=B8 (B8 E e y) d x:=by
 cases d with
 |none=>rfl
 |some d=>
  cases e with
  |none=>rfl
  |some e=>
   have BK:d≠e:=λhe=>h d rfl (he▸rfl);simp only[B8];exact OL _ _ BK
theorem sI{t:Nat}{x y:Option HO}(h:s≠t):Fu (Fu H s x) t y=Fu (Fu H t y) s x:=by
 cases x<;>cases y<;>simp only[Fu];exact OL _ _ h
theorem P7{y:Operand}(h:∀t,d=some t->y≠.tmp t):BL (B8 E d x) y=BL E y:=by
 cases d with
 |none=>rfl
 |some d=>
  cases y with
  |tmp t=>
   have BK:d≠t:=λhe=>h d rfl (he▸rfl);simp only[B8,BL,LR];rw[A0 BK]
  |_=>rfl
theorem XU(h:∀t,d=some t->t∉o.looksAt ops):Fi ops.toList E (B8 E d x) o:=by
 refine⟨λy hy=>P7 λt ht he=>h t ht ?_,λg want og t hg hog ht=>?_⟩;subst he;unfold L1;refine CL _ (List.mem_filterMap.2 ⟨.tmp t,by simpa using hy,rfl⟩);cases d with
 |none=>rfl
 |some d=>
  have BK:d≠t:=λhe=>h d rfl (by subst he;unfold L1;refine D0 _ ?_;(have:ops[g]?=some og:=by simpa using hog);simp[hg,this,ht]);simp only[B8];rw[A0 BK]
theorem Fi.symm(h:Fi ops.toList E E' o):Fi ops.toList E' E o:=
 ⟨λx hx=>(h.1 x hx).symm,λg want og t hg hog ht=>(h.2 g want og t hg hog ht).symm⟩
theorem Zbs(hs:Sat P E H){op:Op}{x:Option HO}(hd:∀y,x=some y->H[s]?=some .dead):gC E op H (Fu H s x):=by
 intro y _ l ob hr hl;cases x with
 |none=>exact hl
 |some x=>
  by_cases hls:s=l;subst hls;rw[Wy hs (hd x rfl) y]at hr;cases hr;simp only[Fu];rw[A0 hls];exact hl
theorem kT(hs:Sat P E H){op:Op}{x:Option HO}(he:∀y∈op.operands,BL E' y=BL E y)(hd:∀y,x=some y->H[s]?=some .dead):gC E' op (Fu H s x) H:=by
 intro y hy l ob hr hl;cases x with
 |none=>exact hl
 |some x=>
  by_cases hls:s=l;subst hls;rw[he y hy,Wy hs (hd x rfl) y]at hr;cases hr;simp only[Fu]at hl;rw[A0 hls]at hl;exact hl
theorem nZ(hT:CY P T)(hs:Sat P E H)(hi:ops[i]?=some oi)(hj:ops[j]?=some oj)(UQ:i≠j)(hap:oi.apart ops oj=true){Ki Kj:KK}
  (h:KQ P T ops.toList n0 i oi E H Ki) (hk:∀E' H',Sat P E' H'->Ki E' H'->KQ P T ops.toList n0 j oj E' H' Kj):
  KQ P T ops.toList n0 j oj E H λE1 H1=>KQ P T ops.toList n0 i oi E1 H1 Kj:=by
 obtain⟨p1,p2,p3⟩:=UI hap;obtain⟨vi,obi,di,ki,ti⟩:=Ih h;have refl:∀o:Oper,Fi ops.toList E E o:=λo=>⟨λ_ _=>rfl,λ_ _ _ _ _ _ _=>rfl⟩;have JW:Sat P (B8 E oi.dst vi) (Fu H (n0+i) obi):=Tq hT hi (ti E H (refl oi) (λ_ _ _ _ _ h=>h) rfl _ ⟨rfl,rfl⟩) hs;have h2:=hk _ _ JW ki;obtain⟨vj,obj,dj,kj,tj⟩:=Ih h2;have ag:=XU (x:=vi) (E:=E) p1
 have dj':∀x,obj=some x->H[n0+j]?=some .dead:=λx hx=>by
  have:=dj x hx;cases obi with
  |none=>exact this
  |some y=>simp only[Fu]at this;rwa [A0 (by omega)]at this
 have sne:∀(x:Option HO)(s t:Nat),s≠t->(Fu H s x)[t]?=H[t]?:=λx s t Ai=>by
  cases x with
  |none=>rfl
  |some y=>simp only[Fu];rw[A0 Ai]
 refine tj E H ag.symm (kT hs ag.1 di) (sne _ _ _ (by omega)).symm _ ?_;refine ti _ _ (XU p3) (Zbs hs dj') (sne _ _ _ (by omega)) _ ?_;rw[rZ p2,sI (show n0+i≠n0+j by omega)]at kj;exact kj
def FR(P:Program)(T:List TY)(ops:List Oper)(o:Oper)(E:List AV)(H:List HO)(K:KK)(X:XX):Prop:=
 Zb ops E o.guard (TX none P T E H o.op (λv E' H'=>SD v λv=>BV E' o.dst v λGp=>K Gp H') X) (BV E o.dst (.raw undef) λE'=>K E' H)
def mvB(o:Oper):Bool:=match o.op with|.move (.tmp _)=>o.guard.isNone&&o.dst.isSome|_=>false
def apB(o:Oper):Bool:=match o.op with
 |.call c=>(match c.callee with|.builtin .append=>o.guard.isNone&&Bg c.args.size 2&&Bg c.argTypes.size 2|_=>false)
 |_=>false
theorem oS(OH:mvB oi=true)(SY:apB oj=true)(p1:∀t,oi.dst=some t->t∉oj.looksAt ops)(p2:∀t,oi.dst=some t->oj.dst≠some t)(p3:∀t,oj.dst=some t->t∉oi.looksAt ops){Kw:KK}
  (h:KQ P T ops.toList n0 i oi E H λE' H'=>FR P T ops.toList oj E' H' Kw X):FR P T ops.toList oj E H (λE1 H1=>KQ P T ops.toList n0 i oi E1 H1 Kw) X:=by
 obtain⟨kN,nG,ity,Zbg,Zbn,igd⟩:=oi;obtain⟨UB,jop,jty,uP,uR,jgd⟩:=oj;unfold mvB at OH;unfold apB at SY;simp only at OH SY;cases nG<;>first|cases OH|skip
 rename_i x;cases x<;>first|cases OH|skip
 rename_i s;cases igd<;>simp at OH;cases kN<;>simp at OH;rename_i d;cases jop<;>first|cases SY|skip
 rename_i c;obtain⟨Gs,args,N0⟩:=c;simp only at SY;cases Gs<;>first|cases SY|skip
 rename_i bi;cases bi<;>first|cases SY|skip
 cases jgd<;>simp at SY;obtain⟨ha,ht⟩:=SY
 obtain⟨sx,xx,rfl⟩:∃sx xx,args=#[sx,xx]:=by
  match args,ha with
  |⟨[a,b]⟩,_=>exact⟨a,b,rfl⟩
 obtain⟨t1,t2,rfl⟩:∃t1 t2,N0=#[t1,t2]:=by
  match N0,ht with
  |⟨[a,b]⟩,_=>exact⟨a,b,rfl⟩
 have hd:=p1 d rfl;have q1:sx≠.tmp d:=λe=>hd (by subst e;simp[L1,Ao,Call.operands]);have q2:xx≠.tmp d:=λe=>hd (by subst e;simp[L1,Ao,Call.operands]);have q3:∀t,UB=some t->t≠s:=λt e he=>p3 t e (by subst he;simp[L1,Ao]);have q4:UB≠some d:=p2 d rfl;have XN:∀{v:AV}{x:Operand},x≠.tmp d->BL (E.set d v) x=BL E x:=λ{v x} hx=>by have:=P7 (E:=E) (d:=some d) (x:=v) (y:=x) (λt ht he=>hx (by cases ht;exact he));simpa[B8]using this
 -- zJ move,at any frame
 have mv:∀{E:List AV}{H:List HO}{K:KK},KQ P T ops.toList n0 i {dst:=some d,op:=.move (.tmp s),type:=ity,pos:=Zbg,after:=Zbn,guard:=none} E H K↔SD (BL E (.tmp s)) λv=>K (E.set d v) H:=λ{E H K}=>by unfold KQ Zb rK Cj;simp only[Ae,Tw,AF,B8]
 have ap:∀{E:List AV}{H:List HO}{K:KK},FR P T ops.toList {dst:=UB,op:=.call ⟨.builtin .append,#[sx,xx],#[t1,t2]⟩,type:=jty,pos:=uP,after:=uR,guard:=none} E H K X↔
   HD none T E H t1 t2 sx xx (λv E' H'=>SD v λv=>BV E' UB v λGp=>K Gp H'):=λ{E H K}=>by
  unfold FR Zb TX;exact Iff.rfl
 rw[mv]at h;rw[ap]
 obtain⟨v,hv,dS⟩:∃v,FR P T ops.toList {dst:=UB,op:=.call ⟨.builtin .append,#[sx,xx],#[t1,t2]⟩,type:=jty,pos:=uP,after:=uR,guard:=none} (E.set d v) H Kw X/\
   ∀f,Ze7 f->∀K':AV->Prop,K' (f v)->SD (f (BL E (.tmp s))) K':=by
  generalize BL E (.tmp s)=z at h⊢;by_cases hz:∃b,z=.bool b
  ·obtain⟨b,rfl⟩:=hz;refine⟨.lit b,?_,λf hf K' k=>?_⟩
   ·unfold SD at h;cases b with
    |true=>exact h.1 rfl
    |false=>exact h.2 rfl
   rw[hf.bool];rw[hf.lit]at k;unfold SD;exact⟨λe=>by subst e;exact k,λe=>by subst e;exact k⟩
  have nb:∀{z:AV}{K:AV->Prop},(∀b,z≠.bool b)->(SD z K↔K z):=λ{z K} hz=>by cases z<;>first|exact Iff.rfl|exact absurd rfl (hz _)
  refine⟨z,?_,λf hf K' k=>?_⟩;exact(nb λb e=>hz ⟨b,e⟩).1 h;exact(nb λb e=>hz ⟨b,hf.ZjD z b e⟩).2 k
 rw[ap]at hv;obtain⟨r,f,H',⟨hf,_⟩,hk,hto⟩:=Yy hv;refine hto E (XN q1).symm (XN q2).symm _ ?_;obtain⟨u,hu,hu2,_,_⟩:=Nt hk;refine hu2 _ ?_;rw[AF]at hu ⊢;rw[mv]
 have e1:BL (B8 (E.map f) UB u) (.tmp s)=f (BL E (.tmp s)):=by
  rw[P7 λt ht he=>q3 t ht (by cases he;rfl)];simp only[BL,LR,PV];cases E[s]? with
  |none=>exact hf.any.symm
  |some x=>rfl
 rw[e1];refine dS f hf _ ?_
 have e2:(B8 (E.map f) UB u).set d (f v)=B8 ((E.set d v).map f) UB u:=by
  rw[List.map_set];cases UB with
  |none=>rfl
  |some j=>
   have BK:j≠d:=λe=>q4 (by rw[e]);simp only[B8];exact OL _ _ BK
 rw[e2];exact hu
def mD(P:Program)(T:List TY)(ops:Array Oper)(n0:Nat)(we:List Nat)(K:KK)(X:XX)(j:Nat)(Kn:KK)(E:List AV)(H:List HO):Prop:=
 match ops[j]? with
 |none=>Kn E H
 |some o=>match DO we j with
  |false=>KQ P T ops.toList n0 j o E H Kn
  |true=>∃Kw:KK,FR P T ops.toList o E H Kw X/\∀E H,Kw E H->Kn E H
def Gu(P:Program)(T:List TY)(ops:Array Oper)(n0:Nat)(we:List Nat)(K:KK)(X:XX):Nat->Array Bool->List AV->List HO->Prop
 |0,listed,E,H=>Sat P E H->IV .any ops listed=[]/\K E H
 |fuel+1,listed,E,H=>Sat P E H->(IV .any ops listed=[]->K E H)/\
  ∀i∈IV .any ops listed,mD P T ops n0 we K X i (Gu P T ops n0 we K X fuel (listed.setIfInBounds i true)) E H
theorem bZ{r:AV}{Kn:KK}{H':List HO}{C':Af}{mu':Mu}(h:SD r λv=>BV E' d v λGp=>Kn Gp H')(Ai:AJ G C' mu' (B8 E' d r) H' a w):
  ∃E H,Kn E H/\St G E H a w:=by
 obtain⟨v,hk,_,hv,_⟩:=Nt h;rw[AF]at hk;refine⟨_,_,hk,C',mu',Ai.frame ?_ rfl⟩;have he:=Ai.env;cases hd:d with
 |none=>rw[hd]at he;exact he
 |some d=>
  rw[hd]at he;rw[Bo]at he ⊢;refine⟨by simpa[B8]using he.1,λk hk KR=>?_⟩;have hk0:k<(B8 E' (some d) r).length:=by simpa[B8]using hk
  exact Yap
theorem wS(hT:CY G.P T){r:Option Nat}{n:Nat}{Kn K:KK}(h:mD G.P T ops n0 we K X i Kn E H)(Ai:AJ G C mu E H a w):
  wpOpIn (fw r) n G.P ops (L6 G K X) i (λa w=>∃E' H',Kn E' H'/\St G E' H' a w) a w:=by
 unfold mD at h;by_cases hwr:(∃o,ops[i]?=some o)/\DO we i=true
 ·obtain⟨⟨o,ho⟩,hm⟩:=hwr;rw[ho]at h;simp only at h;rw[hm]at h;obtain⟨Kw,h,hKw⟩:=h;unfold FR at h;unfold wpOpIn;rw[ho];simp only;rcases Ra Ai h with⟨hw,h⟩|⟨hw,h⟩;·rw[if_pos hw];refine Ex hT h Ai λa' w' hp=>?_;obtain⟨r,E',H',hk,C',mu',Dx⟩:=hp;obtain⟨E1,H1,k1,k2⟩:=bZ (Kn:=λE H=>Kw E H) hk Dx;exact⟨E1,H1,hKw _ _ k1,k2⟩
  rw[if_neg (by simp[hw])];rw[AF]at h;exact⟨λ_ _=>trivial,B8 E o.dst (.raw undef),H,hKw _ _ h,C,mu,Ai.frame (BF Ai.env o.dst (by unfold Aj;rfl)) (put_defers _ _ _)⟩
 unfold wpOpIn;split;·rename_i ho;rw[ho]at h;exact⟨E,H,h,C,mu,Ai⟩
 rename_i o ho;rw[ho]at h;simp only at h;split at h
 ·rcases Pd hT ho h Ai with⟨hw,h⟩|⟨hw,h⟩;·rw[if_pos hw];exact h
  rw[if_neg (by simp[hw])];exact⟨λ_ _=>trivial,h⟩
 rename_i hm;exact absurd ⟨⟨o,ho⟩,hm⟩ hwr
theorem Hv(hT:CY G.P T){r:Option Nat}{n:Nat}:∀(fuel:Nat)(listed:Array Bool)(E:List AV)(H:List HO)(a:Act)(w:World),Gu G.P T ops n0 we K X fuel listed E H->St G E H a w->wpAnyIn (fw r) n G.P .any ops (L6 G K X) fuel listed a w
 |0,listed,E,H,a,w,h,Ai=>by unfold Gu at h;obtain⟨h1,h2⟩:=h ⟨G,a,w,rfl,Ai⟩;exact⟨h1,E,H,h2,Ai⟩
 |fuel+1,listed,E,H,a,w,h,Ai=>by unfold Gu at h;obtain⟨h1,h2⟩:=h ⟨G,a,w,rfl,Ai⟩;refine⟨λh0=>⟨E,H,h1 h0,Ai⟩,λi hi=>?_⟩;obtain⟨C,mu,Ai⟩:=Ai;exact wpOpIn_mono (λa' w' ⟨E',H',k1,k2⟩=>Hv hT fuel _ E' H' a' w' k1 k2) (wS hT (h2 i hi) Ai)
theorem nL(hT:CY P T)(hi:ops[i]?=some oi)(hwi:DO we i=false){U:Nat->Bool}(hUi:U i=true)
  (hUp:∀j oj,U j=true->j≠i->ops[j]?=some oj->∃e∈oj.after,R4 .any e=true/\U e.on=true):
  ∀(fuel:Nat)(listed:Array Bool)(E:List AV)(H:List HO),(∀j,U j=true->listed.getD j false=false)->
   (∀j oj,ops[j]?=some oj->U j=false->listed.getD j true=false->(DO we j=false\/(mvB oi&&apB oj)=true)/\oi.apart ops oj=true)->
   i∈IV .any ops listed->KQ P T ops.toList n0 i oi E H (Gu P T ops n0 we K X fuel (listed.setIfInBounds i true))->Gu P T ops n0 we K X (fuel+1) listed E H:=by
 intro fuel
 induction fuel with
 |zero=>
  intro listed E H hU hap hr h;unfold Gu;intro hs;refine⟨λh0=>(by rw[h0]at hr;cases hr),λj hj=>?_⟩;by_cases NU:j=i;subst NU;unfold mD;rw[hi];simp only;rw[hwi];exact h;obtain⟨Y2,oj,DP,Dj⟩:=mem_ready.1 hj
  have hUj:U j=false:=by
   cases hu:U j with
   |false=>rfl
   |true=>
    obtain⟨e,he,hb,yA⟩:=hUp j oj hu NU DP;have:=Dj e he hb;rw[hU _ yA]at this;cases this
  obtain⟨hwj,lG⟩:=hap j oj DP hUj Y2;exfalso;obtain⟨vi,obi,di,ki,ti⟩:=Ih h;have JW:Sat P (B8 E oi.dst vi) (Fu H (n0+i) obi):=Tq hT hi (ti E H ⟨λ_ _=>rfl,λ_ _ _ _ _ _ _=>rfl⟩ (λ_ _ _ _ _ h=>h) rfl _ ⟨rfl,rfl⟩) hs;unfold Gu at ki;have:=ready_mono hj NU;rw[(ki JW).1]at this;cases this
 |succ fuel ih=>
  intro listed E H hU hap hr h;unfold Gu;intro hs;refine⟨λh0=>(by rw[h0]at hr;cases hr),λj hj=>?_⟩;by_cases NU:j=i;subst NU;unfold mD;rw[hi];simp only;rw[hwi];exact h;obtain⟨Y2,oj,DP,Dj⟩:=mem_ready.1 hj
  have hUj:U j=false:=by
   cases hu:U j with
   |false=>rfl
   |true=>
    obtain⟨e,he,hb,yA⟩:=hUp j oj hu NU DP;have:=Dj e he hb;rw[hU _ yA]at this;cases this
  obtain⟨hwj,lG⟩:=hap j oj DP hUj Y2
  have rest:∀E1 H1,KQ P T ops.toList n0 i oi E1 H1 (Gu P T ops n0 we K X fuel ((listed.setIfInBounds j true).setIfInBounds i true))->Gu P T ops n0 we K X (fuel+1) (listed.setIfInBounds j true) E1 H1:=λE1 H1 k=>by
   refine ih (listed.setIfInBounds j true) E1 H1 (λk hk=>?_) (λk ok hk hu hun=>?_) (ready_mono hr (Ne.symm NU)) k;·(have BK:j≠k:=λhe=>by subst he;rw[hUj]at hk;cases hk);rw[getD_set_ne false BK];exact hU k hk
   refine hap k ok hk hu ?_;by_cases hjk:j=k;subst hjk;exact Y2;rw[getD_set_ne true hjk]at hun;exact hun
  unfold mD;rw[DP];simp only;cases hmw:DO we j with
  |false=>
   simp only;(have hc:=nZ (Kj:=Gu P T ops n0 we K X fuel ((listed.setIfInBounds i true).setIfInBounds j true)) hT hs hi DP (Ne.symm NU) lG h λE' H' JW k=>by unfold Gu at k;have:=(k JW).2 j (ready_mono hj NU);unfold mD at this;rw[DP]at this;simp only at this;rw[hmw]at this;exact this);refine ID hc λE1 H1 k=>rest E1 H1 ?_;rw[L3 _ _ NU];exact k
  |true=>
   simp only;(have hmv:mvB oi=true/\apB oj=true:=by rcases hwj with k|k;rw[hmw]at k;cases k;simpa using k);obtain⟨p1,p2,p3⟩:=UI lG;obtain⟨vi,obi,di,ki,ti⟩:=Ih h;have refl:Fi ops.toList E E oi:=⟨λ_ _=>rfl,λ_ _ _ _ _ _ _=>rfl⟩;have JW:Sat P (B8 E oi.dst vi) (Fu H (n0+i) obi):=Tq hT hi (ti E H refl (λ_ _ _ _ _ h=>h) rfl _ ⟨rfl,rfl⟩) hs;unfold Gu at ki;have hd:=(ki JW).2 j (ready_mono hj NU);unfold mD at hd;rw[DP]at hd;simp only at hd;rw[hmw]at hd;obtain⟨Kw,EV,hw2⟩:=hd;have h3:=ti E H refl (λ_ _ _ _ _ h=>h) rfl (λE' H'=>FR P T ops.toList oj E' H' Kw X) EV;refine⟨_,oS hmv.1 hmv.2 p1 p2 p3 h3,λE1 H1 k=>rest E1 H1 (ID k λE2 H2 k2=>?_)⟩;rw[L3 _ _ NU];exact hw2 _ _ k2
def Wp(ops:Array Oper)(k:Nat):List Nat:=
 (PW ops.size).foldl (λU j=>match ops[j]? with
  |some oj=>(match Bg j k||oj.after.any (λe=>R4 .any e&&DO U e.on)with|true=>j::U|false=>U)
  |none=>U) []
def Zca(ops:Array Oper)(we:List Nat)(listed:Array Bool)(k:Nat)(U:List Nat):Bool:=
 match ops[k]? with
 |none=>false
 |some ok=>DO U k&&(PW ops.size).all (λj=>(!DO U j||(!listed.getD j false))&&match ops[j]? with
   |none=>true
   |some oj=>(match DO U j with
    |true=>Bg j k||oj.after.any (λe=>R4 .any e&&DO U e.on)
    |false=>listed.getD j true||((!DO we j||(mvB ok&&apB oj))&&ok.apart ops oj)))&&U.all λj=>decide (j<ops.size)
def Za7(ops:Array Oper)(we:List Nat):Nat->Nat->Array Bool->Bool
 |0,_,listed=>(IV .any ops listed).isEmpty
 |fuel+1,k,listed=>(match DO we k with
  |true=>(IV .any ops listed == [k])
  |false=>(IV .any ops listed).contains k&&Zca ops we listed k (Wp ops k))&&Za7 ops we fuel (k+1) (listed.setIfInBounds k true)
def Zcl(ops:Array Oper)(we:List Nat):Bool:=Za7 ops we ops.size 0 (Fw ops.size false)
theorem Uk:∀{l:List Nat}{n:Nat},DO l n=true->n∈l
 |[],_,h=>by cases h
 |x::l,n,h=>by
  unfold DO at h;split at h;·rename_i hb;rw[As hb];simp
  exact A2 _ (Uk h)
theorem Vr(hT:CY P T):∀(l:List Oper)(k:Nat)(listed:Array Bool)(E:List AV)(H:List HO),(∀j,l[j]?=ops[k+j]?)->
  Za7 ops we l.length k listed=true->rdK P T ops.toList n0 we k l E H K X->Gu P T ops n0 we K X l.length listed E H
 |[],k,listed,E,H,_,hB,h=>by unfold Gu;unfold rdK at h;exact λ_=>⟨by simpa[Za7]using hB,h⟩
 |o::l,k,listed,E,H,hl,hB,h=>by
  have h0:ops[k]?=some o:=by simpa using (hl 0).symm
  have CT:∀j,l[j]?=ops[k+1+j]?:=λj=>by have:=hl (j+1);simpa[Nat.add_assoc,Nat.add_comm 1 j]using this
  simp only[R5,Za7,Ap]at hB;obtain⟨lJ,hB2⟩:=hB;unfold rdK at h;cases hw:DO we k with
  |false=>
   rw[hw]at h lJ;simp only[Ap]at lJ h;obtain⟨hr,hf⟩:=lJ;unfold Zca at hf;rw[h0]at hf;simp only[Ap,Dy,NA]at hf;obtain⟨⟨hUk,Dj⟩,AA⟩:=hf;(have lt:∀j,DO (Wp ops k) j=true->j<ops.size:=λj hj=>by simpa using AA j (Uk hj));refine nL hT h0 hw (U:=DO (Wp ops k)) hUk (λj oj hu hjk DP=>?_) l.length listed E H (λj hu=>?_) (λj oj DP hu hun=>?_) (by simpa using hr) (ID h λE' H' h'=>Vr hT l (k+1) _ E' H' CT hB2 h');have:=(Dj j (lt j hu)).2;rw[DP]at this;simp only[hu]at this;simp only[UK]at this;rcases this with h1|h1;exact absurd (As h1) hjk;obtain⟨e,he,h2⟩:=Array.any_eq_true'.1 h1;simp only[Ap]at h2;exact⟨e,he,h2⟩;have:=(Dj j (lt j hu)).1;simpa[hu]using this;have hjl:=(Am.1 DP).1;have:=(Dj j hjl).2;rw[DP]at this;simp only[hu]at this;simp only[hun,UK,Ap,Bool.not_eq_true',Bool.false_eq_true,false_or]at this;simpa using this
  |true=>
   rw[hw]at h lJ;simp only at h lJ;(have hr:IV .any ops listed=[k]:=by simpa using lJ);unfold Gu;intro hs;refine⟨λh0=>(by rw[hr]at h0;cases h0),λj hj=>?_⟩;rw[hr]at hj;(obtain rfl:j=k:=by simpa using hj);unfold mD;rw[h0];simp only;rw[hw];simp only;exact⟨_,h,λE1 H1 hh=>Vr hT l (j+1) _ E1 H1 CT hB2 hh⟩
def Zgx(im:List Nat)(i:Nat):HO:=match DO im i with|true=>.ghost [] [] []|false=>.dead
def jF(im:List Nat)(n:Nat):List HO:=(PW n).map (Zgx im)
theorem bL(n:Nat):jF [] n=GL n .dead:=by
 unfold jF Zgx DO;rw[List.map_const',List.length_range]
theorem ZaC{im:List Nat}{n:Nat}{ob:HO}(h:(jF im n)[l]?=some ob):ob=.dead\/ob=.ghost [] [] []:=by
 have:=Np h;unfold jF at this;obtain⟨i,_,rfl⟩:=HB.1 this;unfold Zgx;split<;>simp
theorem AJ.pad(h:AJ G C mu E H a w)(im:List Nat)(n:Nat):AJ G C mu E (H++jF im n) a w:=by
 have key:∀{l:Nat}{ob:HO},(H++jF im n)[l]?=some ob->(ob=.dead\/ob=.ghost [] [] [])\/H[l]?=some ob:=λ{l ob} hl=>by by_cases AA:l<H.length;rw[A5 AA]at hl;exact .inr hl;rw[LP (by omega)]at hl;exact .inl (ZaC hl)
 refine⟨h.c0,h.c1,h.lt,⟨λl g hm=>?_,h.heap.fresh,h.heap.sep,λl hl=>?_,λl cs hl=>?_,λl e sz es hl=>?_,λl ks vs hl=>?_⟩,h.env,?_,h.Ax,by have:=h.Dv.1;simp;omega,h.Dv.2⟩
 rotate_right
 ·obtain⟨ms,k1,k2⟩:=h.defers;refine⟨ms,k1,⟨λl cs vs DL hl=>?_,λl I hl=>?_,k2.marks,k2.nd,λl l' cs vs ms1 cs' CJ cA hl CT BK D hD=>?_⟩⟩
  ·rcases key hl with (hl|hl)|hl;·cases hl
   ·simp only[HO.ghost.injEq]at hl;obtain⟨rfl,rfl,rfl⟩:=hl;exact⟨by unfold Ac;rfl,Kp,λD hD=>by cases hD⟩
   exact k2.BG l cs vs DL hl
  ·rcases key hl with (hl|hl)|hl;·cases hl
   cases hl;obtain⟨e0,Sw,Sr,f1,f2,f3,f4⟩:=k2.Ho l I hl;refine⟨e0,Sw,Sr,f1,f2,f3,λl' cs vs DL CT D hD=>?_⟩;rcases key CT with (CT|CT)|CT;cases CT;simp only[HO.ghost.injEq]at CT;rw[CT.2.2]at hD;cases hD;exact f4 l' cs vs DL CT D hD
  rcases key hl with (hl|hl)|hl;cases hl;simp only[HO.ghost.injEq]at hl;rw[hl.2.2]at hD;cases hD;rcases key CT with (CT|CT)|CT;cases CT;simp only[HO.ghost.injEq]at CT;rw[CT.2.2];simp;exact k2.sep l l' cs vs ms1 cs' CJ cA hl CT BK D hD
 have:=h.heap.JX l g hm;rw[List.length_append];omega
 ·by_cases AA:l<H.length;·rw[A5 AA]at hl;exact h.heap.dead l hl
  cases hm:mu l with
  |none=>rfl
  |some g=>exact absurd (h.heap.JX l g hm) AA
 ·rcases key hl with (hl|hl)|hl;·cases hl
  cases hl;exact h.heap.Dp l cs hl
 ·rcases key hl with (hl|hl)|hl;·cases hl
  cases hl;exact h.heap.Dk l e sz es hl
 rcases key hl with (hl|hl)|hl;cases hl;cases hl;exact h.heap.maps l ks vs hl
theorem Aa.KE{id:Nat}(im we:List Nat)(hT:CY P T)(hm:P.follows .mixedOrders=true)(hB:Zcl ops we=true)
  (h:rdK P T ops.toList H.length we 0 ops.toList E (H++jF im ops.size) K X):Aa P (.region id ops true) E H K X:=by
 refine⟨λn G a w hP Ai=>?_⟩;subst hP;obtain⟨C,mu,Ai⟩:=Ai;have Dx:AJ G C mu E H a w.drew:=Ai.drew;have dH:=Dx.pad im ops.size;have h1:=Vr (ops:=ops) (n0:=H.length) (we:=we) (K:=K) (X:=X) hT ops.toList 0 (Fw ops.size false) E _ (by simp) (by simpa[Zcl]using hB) h;refine Vy (wpIn_region_any hm ?_);have h2:=Hv (r:=G.rd) (n:=n) hT _ _ _ _ a _ h1 ⟨C,mu,dH⟩;simpa using h2
theorem Aa.draw{id:Nat}(we:List Nat)(hT:CY P T)(hm:P.follows .mixedOrders=true)(hB:Zcl ops we=true)
  (h:rdK P T ops.toList H.length we 0 ops.toList E (H++GL ops.size .dead) K X):Aa P (.region id ops true) E H K X:=
 Aa.KE [] we hT hm hB (by rw[bL];exact h)
end
def Zfp(I:Nat->Inv)(Ix:Inv)(Ip:Value->Inv)(n:Nat)(e:Ending)(w':World):Prop:=
 ∃EU D9,(∃v,e=.returned v/\((I n).J EU D9 w'\/Ix.J EU D9 w'))\/∃u,e=.panicked [{v:=u,recovered:=false}]/\(Ip u).J EU D9 w'
structure xT(P:Program)(f:FuncId)(cap:List AV)(xs:List (List AV))(d:Prop):Prop where
 D7:Cp P f=true
 out:∀(l:Nat)(I:Nat->Inv)(Ix:Inv)(Ip:Value->Inv)(C:Af)(w:World)(us:List Value)(Sw Sr:Nat->Prop),(¬d->∀Sw Sr w,¬(I xs.length).J Sw Sr w)->gE C w->(I 0).Cb=C->(I 0).nb=w.heap.size->
  (∀b o,Sw b->¬C b o)->(∀b,Sw b->Sr b)->(∀b,Sr b->b<w.heap.size)->(I 0).J Sw Sr w->Ac C w cap Mu.none us->
  (∀k x,xs[k]?=some x->Nd P (.func (.yield l) #[] #[]) x (I k) (I (k+1)) Ix Ip)->
  Calls P f (L4 (.yield l) #[] #[]::us).toArray w λe w'=>Zfp I Ix Ip xs.length e w'
def Zfo(Ip:Value->Inv)(x:AV):KK:=λ_ H=>Dr H 0 λob=>match ob with|.inv J=>∃u,x=.raw u/\J=Ip u|_=>False
def pF(I:Nat->Inv)(Ix:Inv)(n:Nat):KK:=λ_ H=>Dr H 0 λob=>match ob with|.inv J=>J=I n\/J=Ix|_=>False
section
variable {T:List TY}{P:Program}
theorem Lk{G:Cx}{C:Af}{mu:Mu}{E:List AV}{H:List HO}{n:Nat}{fn:Func}{R:Ending->World->Prop}{tmps:Array Value}{r:Option Nat}{ch:List PanicEntry}(Y4:G.ds=[]):∀(ms:List Nat){w:World}{a:Act},a.tmps=tmps->AJ G C mu E H a w->B2 C w G.fresh mu H (ms.map (λD=>(D,Gj))++G.Lf)->
  (∀a' w',a'.tmps=tmps->AJ G C mu E H a' w'->R (.panicked ch) w')->LeavesInM (fw r) n G.P fn tmps R (ms.map mark) (.panicking ch) w
 |[],w,a,ha,h,hx,hr=>by simp only[RR,LeavesInM,LeavesIn];exact hr a w ha h
 |D::ms,w,a,ha,h,hx,hr=>by simp only[L5,LeavesInM];obtain⟨h1,h2⟩:=h.O8 hx;exact⟨by simp,.inl ⟨D,_,rfl,run_takeDeferred (hx.marks (D,Gj) (by simp)).at_,Lk Y4 ms (a:={a with defers:=ms.map mark++G.ds}) ha h1 h2 hr⟩⟩
theorem xT.Ak{f:FuncId}{fn:Func}{c:Code}{cap:List AV}{xs:List (List AV)}{d:Prop}(hf:P.funcs[f]?=some fn)(hb:fn.body=some c)(hT:CY P T)(hg:Cp P f=true)(Ik:fn.results=#[])
  (h:∀(l:Nat)(I:Nat->Inv)(Ix:Inv)(Ip:Value->Inv),(¬d->∀Sw Sr w,¬(I xs.length).J Sw Sr w)->(∀k x,xs[k]?=some x->Nd P (.func (.yield l) #[] #[]) x (I k) (I (k+1)) Ix Ip)->
   EN fn.ntmps (.raw (.func (.yield l) #[] #[])::cap) λE=>Aa P c E [.inv (I 0)] (pF I Ix xs.length) (λe E H=>match e with|.ret=>pF I Ix xs.length E H|.panic x=>Zfo Ip x E H|_=>False)):xT P f cap xs d:=by
 refine⟨hg,λl I Ix Ip C w us Sw Sr G0 AA hCb hnb PX vI VB hJ hr hy=>(callsIn_wide (n:=0)).1 (DE (F:=Fence.wide) (n:=0) hf hb trivial ?_ rfl)⟩;have h:=h l I Ix Ip G0 hy;unfold EN at h;rw[Ev,Dl]at h;let G:Cx:={P:=P,C0:=C,M0:=Sw,W0:=w,lL:=⟨AA,λb o hc hs=>PX b o hs hc⟩}
 have R6:Ac C w (AV.raw (.func (.yield l) #[] #[])::cap) Mu.none (L4 (.yield l) #[] #[]::us):=by unfold Ac;exact⟨_,_,rfl,by unfold Aj;rfl,hr⟩
 have Ai:St G ((AV.raw (.func (.yield l) #[] #[])::cap)++GL (fn.ntmps-(AV.raw (.func (.yield l) #[] #[])::cap).length) (.raw undef)) [.inv (I 0)]
   {tmps:=(L4 (.yield l) #[] #[]::us).toArray++Fw (fn.ntmps-(L4 (.yield l) #[] #[]::us).toArray.size) undef,defers:=[]} w:=by
  refine⟨C,Mu.none,λ_ _ h=>h,λ_ _ h=>.inl h,AA.lt,⟨λ_ _ h=>(by cases h),λ_ _ _ h=>(by cases h),λ_ _ _ _ _ h=>(by cases h),λi hi=>rfl,λi cs hi=>?_,λi e sz es hi=>?_,λi ks vs hi=>?_⟩,?_,⟨[],rfl,?_⟩,⟨rfl,rfl,rfl,Hq _,λ_ _ _=>rfl⟩,Nat.zero_le _,λ_ _ h=>absurd h (UG _)⟩;·cases i<;>simp at hi
  ·cases i<;>simp at hi
  ·cases i<;>simp at hi
  have hl:=AM _ R6;have:=Bj R6 (CG (C:=C) (w:=w) (mu:=Mu.none) (fn.ntmps-(AV.raw (.func (.yield l) #[] #[])::cap).length));simpa[<-hl,AM _ hr]using this;refine⟨λi cs vs ms hi=>?_,λi J hi=>?_,λD hD=>(by cases hD),Kp,λi i' cs vs ms cs' CJ DL hi=>?_⟩;·cases i<;>simp at hi
  ·cases i with
   |succ i=>simp at hi
   |zero=>
    simp only[C5,A3.injEq,HO.inv.injEq]at hi;subst hi;exact⟨rfl,Sw,Sr,⟨λb hb=>.inr hb,by rw[hnb];exact Hq _,λb o hc=>.inl (by rw[hCb];exact hc),λ_ _ _ h=>(by cases h),vI,VB,λ_ _ _ _ h=>(by cases h),PX⟩,hJ,λD hD=>(by cases hD),λi cs vs ms hi=>by cases i<;>simp at hi⟩
  cases i<;>simp at hi
 have fin:∀E H a w',pF I Ix xs.length E H->St G E H a w'->LeavesInM (fw none) 0 P fn a.tmps (λe w'=>Zfp I Ix Ip xs.length e w') a.defers .returning w':=by
  rintro E H a w' hk ⟨C',mu',Ai⟩;unfold pF at hk;replace hk:=Bf.1 hk;obtain⟨ob,BR,hk⟩:=hk;cases ob<;>first|exact hk.elim|skip
  rename_i J;obtain⟨ms,d1,d2⟩:=Ai.defers;rw[show a.defers=ms.map mark by simpa[G]using d1];refine Iw (G:=G) rfl ms rfl Ai d2 λa' O6 ha JW=>?_;obtain⟨DL,_,x2⟩:=JW.defers;obtain⟨_,EU,D9,_,Y8,_⟩:=x2.Ho 0 J BR;have Ic:(results fn a.tmps).run P O6=.ok (.tuple #[]) O6:=by rw[FX,Ik];simp
  refine⟨_,Ic,EU,D9,.inl ⟨_,rfl,?_⟩⟩;rcases hk with rfl|rfl;exact .inl Y8;exact .inr Y8
 refine BX (h.out 0 G _ w rfl Ai) λe a w' q=>?_;cases e with
 |normal|ret=>obtain⟨E,H,h1,h2⟩:=q;exact fin E H a w' h1 h2
 |exit id=>obtain⟨E,H,h1,h2⟩:=q;exact h1.elim
 |panic ch=>
  obtain⟨x,v,E,H,C',mu',rfl,hk,Ai,hv⟩:=q;simp only[Zfo]at hk;replace hk:=Bf.1 hk;obtain⟨ob,BR,hk⟩:=hk;cases ob<;>first|exact hk.elim|skip
  rename_i J;obtain⟨u,rfl,rfl⟩:=hk;unfold Aj at hv;subst hv;obtain⟨ms,d1,d2⟩:=Ai.defers;show LeavesInM (fw none) 0 P fn a.tmps _ a.defers (.panicking [{v:=v,recovered:=false}]) w';rw[show a.defers=ms.map mark by simpa[G]using d1];refine Lk (G:=G) rfl ms rfl Ai d2 λa' O6 ha JW=>?_;obtain⟨DL,_,x2⟩:=JW.defers;obtain⟨_,EU,D9,_,Y8,_⟩:=x2.Ho 0 _ BR;exact⟨EU,D9,.inr ⟨_,rfl,Y8⟩⟩
 |goto l|outgrown=>exact q.elim
end
section
variable {G:Cx}{C:Af}{w w':World}{mu:Mu}{H:List HO}{E:List AV}{a:Act}{T:List TY}{P:Program}
def Rel(G:Cx)(C:Af)(mu:Mu)(ds:List (Nat×Obj))(b:Nat):Prop:=
 b<G.W0.heap.size\/(∃o,C b o)\/(∃l g,mu l=some g/\g.Az=some b)\/∃d∈ds,d.1=b
def DM(G:Cx)(ms:List Nat):List (Nat×Obj):=ms.map (λD=>(D,Gj))++G.Lf
theorem B2.ZhH(hx:B2 C w fr mu H ds)(V2:∀(l:Nat) I,H[l]?≠some (.inv I))(V3:∀(l:Nat) cs vs gm,H[l]?=some (.ghost cs vs gm)->gm=[])
  (he:Ext C C w w') (hd:∀d∈ds,w'.heap[d.1]?=w.heap[d.1]?):B2 C w' fr mu H ds:=by
 refine⟨λl cs vs gm hl=>?_,λl I hl=>absurd hl (V2 l I),λd hdd=>?_,hx.nd,hx.sep⟩;obtain⟨k1,k2,k3⟩:=hx.BG l cs vs gm hl;have:=V3 l cs vs gm hl;subst this;exact⟨Ac.mono he _ (AU.refl _) k1,k2,λD hD=>by cases hD⟩;have k:=hx.marks d hdd;exact⟨by rw[hd d hdd];exact k.at_,k.HT,k.own,k.fr⟩
theorem AJ.ZhH(h:AJ G C mu E H a w){ms:List Nat}(ML:a.defers=ms.map mark++G.ds)(hx:B2 C w G.fresh mu H (DM G ms))(V2:∀(l:Nat) I,H[l]?≠some (.inv I))
  (V3:∀(l:Nat) cs vs gm,H[l]?=some (.ghost cs vs gm)->gm=[]) (hs:GV (Rel G C mu (DM G ms)) w w'):AJ G C mu E H a w'/\B2 C w' G.fresh mu H (DM G ms):=by
 have he:Ext C C w w':=Ext.of_block (λ_ _ h=>h) λb o hc=>hs.block b (.inr (.inl ⟨o,hc⟩));have hX:=hx.ZhH (w':=w') V2 V3 he λd hd=>hs.block d.1 (.inr (.inr (.inr ⟨d,hd,rfl⟩)));have own:∀{l g b},mu l=some g->g.Az=some b->w'.heap[b]?=w.heap[b]?:=λhl hg=>hs.block _ (.inr (.inr (.inl ⟨_,_,hl,hg⟩)))
 refine⟨⟨h.c0,h.c1,λb o hc=>A4 (h.lt b o hc) hs.size,⟨h.heap.JX,λl g b hl hg=>?_,h.heap.sep,h.heap.dead,λl cs hl=>?_,λl e sz es hl=>?_,λl ks vs hl=>?_⟩,Ac.mono he _ (AU.refl _) h.env,⟨ms,ML,hX⟩,
  ⟨hs.os.trans h.Ax.os,hs.tape.trans h.Ax.tape,hs.output.trans h.Ax.output,Bc h.Ax.size hs.size,λk hk hn=>(hs.block k (.inl hk)).trans (h.Ax.block k hk hn)⟩,h.Dv⟩,hX⟩
 obtain⟨k1,k2,k3⟩:=h.heap.fresh l g b hl hg;exact⟨k1,A4 k2 hs.size,k3⟩;obtain⟨b,cur,e,k1,k2,k3,k4⟩:=h.heap.Dp l cs hl;exact⟨b,cur,e,k1,by rw[own k1 rfl];exact k2,Ac.mono he _ (AU.refl _) k3,k4⟩;obtain⟨k0,k⟩:=h.heap.Dk l e sz es hl;exact⟨k0,k.imp id λ⟨b,cap,cur,k1,k2,k3,k4,k5,k6,k7⟩=>⟨b,cap,cur,k1,k2.of_eq (by rw[own k1 rfl]),k3,k4,k5,Ac.mono he _ (AU.refl _) k6,k7⟩⟩;obtain⟨b,es,cl,k1,k2,k3⟩:=h.heap.maps l ks vs hl;exact⟨b,es,cl,k1,by rw[own k1 rfl];exact k2,k3⟩
theorem AJ.OY(h:AJ G C mu E H a w)(o:Obj):AJ G C mu E H a (w.alloc o):=by
 have hx:=KD (C:=C) (w:=w) h.lt o;have G5:∀{l g b},mu l=some g->g.Az=some b->(w.alloc o).heap[b]?=w.heap[b]?:=λhl hg=>heap_alloc_old _ _ (h.heap.fresh _ _ _ hl hg).2.1;refine⟨h.c0,h.c1,λb i hc=>by have:=h.lt b i hc;simp;omega,⟨h.heap.JX,λl g b hl hg=>?_,h.heap.sep,h.heap.dead,λl cs hl=>?_,λl e sz es hl=>?_,λl ks vs hl=>?_⟩,Ac.mono hx _ (AU.refl _) h.env,?_,h.Ax.alloc o,h.Dv⟩;obtain⟨k1,k2,k3⟩:=h.heap.fresh l g b hl hg;exact⟨k1,by simp;omega,k3⟩;obtain⟨b,cur,e,k1,k2,k3,k4⟩:=h.heap.Dp l cs hl;exact⟨b,cur,e,k1,by rw[G5 k1 rfl];exact k2,Ac.mono hx _ (AU.refl _) k3,k4⟩;obtain⟨k0,k⟩:=h.heap.Dk l e sz es hl;exact⟨k0,k.imp id λ⟨b,cap,cur,k1,k2,k3,k4,k5,k6,k7⟩=>⟨b,cap,cur,k1,k2.of_eq (by rw[G5 k1 rfl]),k3,k4,k5,Ac.mono hx _ (AU.refl _) k6,k7⟩⟩;obtain⟨b,es,cl,k1,k2,k3⟩:=h.heap.maps l ks vs hl;exact⟨b,es,cl,k1,by rw[G5 k1 rfl];exact k2,k3⟩;obtain⟨ms,k1,k2⟩:=h.defers;exact⟨ms,k1,k2.step (IF (λb hb=>hb.1) o) (λl g b hm hb=>.inl ⟨l,g,hm,hb⟩) (λ_ _ h=>.inl h) (λl cs vs ms hl=>⟨cs,hl,Ac.mono hx _ (AU.refl _)⟩) (λ_ _ h=>h)⟩
theorem B2.push{D:Nat×Obj}(hx:B2 C w fr mu H ds)(V2:∀(l:Nat) I,H[l]?≠some (.inv I))(V3:∀(l:Nat) cs vs gm,H[l]?=some (.ghost cs vs gm)->gm=[])
  (hD:CS C w fr mu D) (hn:D.1∉ds.map VC):B2 C w fr mu H (D::ds):=by
 refine⟨λl cs vs gm hl=>?_,λl I hl=>absurd hl (V2 l I),λd hd=>?_,G8.2 ⟨hn,hx.nd⟩,hx.sep⟩;obtain⟨k1,k2,k3⟩:=hx.BG l cs vs gm hl;have:=V3 l cs vs gm hl;subst this;exact⟨k1,k2,λD hD=>by cases hD⟩;rcases A6.1 hd with rfl|hd;exact hD;exact hx.marks d hd
theorem AJ.YE(h:AJ G C mu E H a w)(o:Obj):CS C (w.alloc o) G.fresh mu (w.heap.size,o):=
 ⟨heap_alloc_new _ _,λi hc=>absurd (h.lt _ _ hc) (Pg _),λl g hl hg=>absurd (h.heap.fresh l g _ hl hg).2.1 (Pg _),.inl h.Ax.size⟩
theorem B2.aG{o o':Obj}(hx:B2 C w fr mu H ((l,o)::ds)):B2 C (w.putObj l o') fr mu H ((l,o')::ds):=by
 have hl:=hx.marks (l,o) (by simp);have hn:=G8.1 hx.nd;have AA:=(Am.1 hl.at_).1;have he:Ext C C w (w.putObj l o'):=Ext.of_block (λ_ _ h=>h) λb i hc=>AZ λe=>hl.HT i (by rw[<-e];exact hc);refine⟨λi cs vs gm hi=>?_,λi I hi=>?_,λd hd=>?_,G8.2 hn,hx.sep⟩;obtain⟨k1,k2,k3⟩:=hx.BG i cs vs gm hi;refine⟨Ac.mono he _ (AU.refl _) k1,k2,λD hD=>⟨?_,(k3 D hD).2⟩⟩;have k:=(k3 D hD).1;have BK:D≠l:=λe=>(k3 D hD).2 (by simp[e]);exact⟨by rw[AZ BK];exact k.at_,k.HT,k.own,k.fr⟩;obtain⟨h0,Sw,Sr,h1,h2,h3,h4⟩:=hx.Ho i I hi;have hls:¬Sr l:=h3 (l,o) (by simp);refine⟨h0,Sw,Sr,⟨h1.fr,by simpa using h1.base,h1.cb,h1.ob,h1.sub,λb hb=>by simpa using h1.lt b hb,h1.own,h1.HT⟩,I.Ol Sw Sr w _ h2 ⟨rfl,rfl,rfl,by simp,λb hb=>AZ λe=>hls (by rw[<-e];exact hb)⟩,λD hD=>?_,h4⟩;rcases A6.1 hD with rfl|hD;exact hls;exact h3 D (A2 _ hD);rcases A6.1 hd with rfl|hd;exact⟨World.putObj_heap_same AA,hl.HT,hl.own,hl.fr⟩;have k:=hx.marks d (A2 _ hd);have BK:d.1≠l:=λe=>hn.1 (by rw[HB];exact⟨d,hd,e⟩);exact⟨by rw[AZ BK];exact k.at_,k.HT,k.own,k.fr⟩
theorem B2.perm{ds':List (Nat×Obj)}(hx:B2 C w fr mu H ds)(hp:ds.Perm ds'):B2 C w fr mu H ds':=by
 refine⟨λl cs vs gm hl=>?_,λl I hl=>?_,λd hd=>hx.marks d (hp.mem_iff.2 hd),(hp.map VC).nodup_iff.1 hx.nd,hx.sep⟩;obtain⟨k1,k2,k3⟩:=hx.BG l cs vs gm hl;exact⟨k1,k2,λD hD=>⟨(k3 D hD).1,λh=>(k3 D hD).2 ((hp.map VC).mem_iff.2 h)⟩⟩;obtain⟨h0,Sw,Sr,h1,h2,h3,h4⟩:=hx.Ho l I hl;exact⟨h0,Sw,Sr,h1,h2,λD hD=>h3 D (hp.mem_iff.2 hD),h4⟩
theorem AJ.Ox{G':Cx}{C2:Af}{a':Act}(h:AJ G C mu E H a w)(DT:w.heap.size<=w'.heap.size)(hs:∀b,((∃o,C b o)\/∃l g,mu l=some g/\g.Az=some b)->w'.heap[b]?=w.heap[b]?)
  (hc0:∀b o,G'.C0 b o->C2 b o) (hc1:∀b o,C2 b o->G'.C0 b o\/G'.fresh b) (AA:∀b o,C2 b o->b<w'.heap.size) (vI:∀b o,C b o->C2 b o)
  (Ce:∀l g b,mu l=some g->g.Az=some b->G'.fresh b/\∀o,¬C2 b o) (dQ:Ac C2 w' E' mu a'.tmps.toList) (ZnF:∃ms:List Nat,a'.defers=ms.map mark++G'.ds/\B2 C2 w' G'.fresh mu H (DM G' ms)) (Zkn:LD G' w') (Zm5:G'.np<=H.length/\∀l b,l<G'.np->G'.Dv l b->mu l=some (.D6 b)):
  AJ G' C2 mu E' H a' w':=by
 have he:Ext C C2 w w':=Ext.of_block (vI) λb o hc=>hs b (.inl ⟨o,hc⟩);refine⟨hc0,hc1,AA,⟨h.heap.JX,λl g b hl hg=>?_,h.heap.sep,h.heap.dead,λl cs hl=>?_,λl e sz es hl=>?_,λl ks vs hl=>?_⟩,dQ,ZnF,Zkn,Zm5⟩;obtain⟨k1,k2,k3⟩:=h.heap.fresh l g b hl hg;exact⟨(Ce l g b hl hg).1,A4 k2 DT,(Ce l g b hl hg).2⟩;obtain⟨b,cur,e,k1,k2,k3,k4⟩:=h.heap.Dp l cs hl;exact⟨b,cur,e,k1,by rw[hs _ (.inr ⟨_,_,k1,rfl⟩)];exact k2,Ac.mono he _ (AU.refl _) k3,k4⟩;obtain⟨k0,k⟩:=h.heap.Dk l e sz es hl;exact⟨k0,k.imp id λ⟨b,cap,cur,k1,k2,k3,k4,k5,k6,k7⟩=>⟨b,cap,cur,k1,k2.of_eq (by rw[hs _ (.inr ⟨_,_,k1,rfl⟩)]),k3,k4,k5,Ac.mono he _ (AU.refl _) k6,k7⟩⟩;obtain⟨b,es,cl,k1,k2,k3⟩:=h.heap.maps l ks vs hl;exact⟨b,es,cl,k1,by rw[hs _ (.inr ⟨_,_,k1,rfl⟩)];exact k2,k3⟩
end
def LI:List Tmp->List AV->List AV->List AV
 |p::ps,x::xs,E=>LI ps xs (E.set p x)
 |_,_,E=>E
theorem Tv{C:Af}{w:World}{mu:Mu}:∀(ps:List Tmp){xs E:List AV}{us:List Value}{tmps:Array Value},Ac C w xs mu us->Ac C w E mu tmps.toList->
  Ac C w (LI ps xs E) mu ((ps.zip us).foldl (λt (p,v)=>t.setIfInBounds p v) tmps).toList
 |[],_,_,_,_,_,h=>by simpa[LI]using h
 |_::_,[],_,us,_,hx,h=>by unfold Ac at hx;subst hx;simpa[LI]using h
 |p::ps,x::xs,E,us,tmps,hx,h=>by unfold Ac at hx;obtain⟨v,Tf,rfl,h1,h2⟩:=hx;simp only[LI,List.zip_cons_cons,List.foldl_cons];exact Tv ps h2 (h.put p h1)
def Cx.AX(G:Cx)(l:Nat)(o:Obj):Cx:={G with Lf:=(l,o)::G.Lf,MK:=λl' h=>let ⟨r,hr⟩:=G.MK l' h;⟨r,A2 _ hr⟩}
def Zy(G:Cx)(l:Nat)(o:Obj)(ms:List Nat)(H:List HO)(Sw Sr:Nat->Prop)(W:World):Prop:=
 ∃C mu,AJ (G.AX l o) C mu [] H {tmps:=#[],defers:=ms.map mark++G.ds} W/\B2 C W G.fresh mu H (DM (G.AX l o) ms)/\
  (∀b,Sw b↔(∃i g,mu i=some g/\g.Az=some b)\/b=l)/\∀b,Rel (G.AX l o) C mu (DM (G.AX l o) ms) b->Sr b
theorem Zy.Ol{G:Cx}{o:Obj}{ms:List Nat}{H:List HO}(V2:∀(l:Nat) I,H[l]?≠some (.inv I))(V3:∀(l:Nat) cs vs gm,H[l]?=some (.ghost cs vs gm)->gm=[])
  {Sw Sr:Nat->Prop} {w w':World} (h:Zy G l o ms H Sw Sr w) (hs:GV Sr w w'):Zy G l o ms H Sw Sr w':=by
 obtain⟨C,mu,h1,h2,h3,h4⟩:=h;obtain⟨k1,k2⟩:=h1.ZhH (ms:=ms) rfl h2 V2 V3 ⟨hs.os,hs.tape,hs.output,hs.size,λb hb=>hs.block b (h4 b hb)⟩;exact⟨C,mu,k1,k2,h3,h4⟩
section
variable {G:Cx}{C C':Af}{w w':World}{mu mu':Mu}{H H0 R:List HO}{E:List AV}{a:Act}{T:List TY}{P:Program}
def Mu.below(mu:Mu)(N:Nat):Mu:=λl=>if l<N then mu l else Option.none
theorem DY{N:Nat}(h:l<N):mu.below N l=mu l:=by simp[Mu.below,h]
theorem CI{N:Nat}{g:GO}(h:mu.below N l=some g):l<N/\mu l=some g:=by unfold Mu.below at h;split at h<;>simp_all
theorem GR:∀{es:List AV},(∀e∈es,closed e=true)->AI (flat es)=true
 |[],_=>rfl
 |e::es,h=>by
  have e1:flat (e::es)=e.cells++flat es:=by simp[flat]
  have app:∀(xs ys:List AV),AI xs=true->AI ys=true->AI (xs++ys)=true:=by
   intro xs ys
   induction xs with
   |nil=>intro _ h;exact h
   |cons x xs ih=>
    intro h1 h2;unfold AI at h1;simp only[Ap]at h1;simp only[MM];unfold AI;simp only[Ap];exact⟨h1.1,ih h1.2 h2⟩
  rw[e1];refine app _ _ ?_ (GR λa ha=>h a (by simp[ha]));have he:=h e (by simp);cases e with
  |agg cs=>unfold closed at he;exact he
  |_=>simp only[AV.cells,AI,Bool.and_true];exact he
def Bi:List HO->Nat->Bool
 |[],_=>false
 |.cells _::_,0|.arr _ _ _::_,0|.map _ _::_,0=>true
 |_::_,0=>false
 |_::r,k+1=>Bi r k
mutual
def within(H0:List HO):AV->Bool
 |.own k _ _ _|.el k _ _ _|.ptr k _|.om k=>Bi H0 k
 |.fn _ cap|.mv _ cap=>AR H0 cap
 |.iface _ x=>within H0 x
 |.agg cs=>AR H0 cs
 |.tuple vs=>AR H0 vs
 |_=>true
def AR(H0:List HO):List AV->Bool
 |[]=>true
 |a::as=>within H0 a&&AR H0 as
end
def Mu.only(mu:Mu)(H0:List HO):Mu:=λl=>if Bi H0 l=true then mu l else Option.none
theorem CZ{g:GO}(h:mu.only H0 l=some g):Bi H0 l=true/\mu l=some g:=by unfold Mu.only at h;split at h<;>simp_all
theorem Ig(h:Bi H0 l=true):mu.only H0 l=mu l:=by simp[Mu.only,h]
mutual
theorem S8:∀(x:AV){v:Value},within H0 x=true->Aj C w x mu v->Aj C w x (mu.only H0) v
 |.any,_,_,_=>by unfold Aj;trivial
 |.int _ _,_,_,h|.bool _,_,_,h|.lit _,_,_,h|.str _,_,_,h|.sl _ _,_,_,h|.at_ _,_,_,h|.raw _,_,_,h|.mp _ _,_,_,h=>by unfold Aj at*;exact h
 |.om k,_,hn,h=>by unfold within at hn;unfold Aj at*;rw[Ig hn];exact h
 |.ptr k o,_,hn,h=>by unfold within at hn;unfold Aj at*;rw[Ig hn];exact h
 |.el k sz i o,_,hn,h=>by unfold within at hn;unfold Aj at*;rw[Ig hn];exact h
 |.own k sz lo n,_,hn,h=>by unfold within at hn;unfold Aj at*;rw[Ig hn];exact h
 |.fn f cap,_,hn,h=>by unfold within at hn;unfold Aj at*;obtain⟨vs,h1,h2⟩:=h;exact⟨vs,h1,CM cap hn h2⟩
 |.mv f cap,_,hn,h=>by unfold within at hn;unfold Aj at*;obtain⟨vs,h1,h2⟩:=h;exact⟨vs,h1,CM cap hn h2⟩
 |.iface t x,_,hn,h=>by unfold within at hn;unfold Aj at*;obtain⟨y,h1,h2⟩:=h;exact⟨y,h1,S8 x hn h2⟩
 |.agg cs,_,hn,h=>by unfold within at hn;unfold Aj at*;obtain⟨vs,h1,h2⟩:=h;exact⟨vs,h1,CM cs hn h2⟩
 |.tuple cs,_,hn,h=>by unfold within at hn;unfold Aj at*;obtain⟨vs,h1,h2⟩:=h;exact⟨vs,h1,CM cs hn h2⟩
theorem CM:∀(xs:List AV){vs:List Value},AR H0 xs=true->Ac C w xs mu vs->Ac C w xs (mu.only H0) vs
 |[],_,_,h=>by unfold Ac at*;exact h
 |x::xs,_,hn,h=>by unfold AR at hn;simp only[Ap]at hn;unfold Ac at*;obtain⟨v,CJ,h1,h2,h3⟩:=h;exact⟨v,CJ,h1,S8 x hn.1 h2,CM xs hn.2 h3⟩
end
theorem Cq:∀{H:List HO}{l:Nat},Bi H l=true↔∃ob,H[l]?=some ob/\ob.real=true
 |[],l=>by simp[Bi]
 |o::r,0=>by cases o<;>simp[Bi]
 |o::r,l+1=>by
  have:Bi (o::r) (l+1)=Bi r l:=by cases o<;>rfl
  rw[this,Cq];simp
def CR(F:List HO):List HO->Prop->Prop
 |[],Q=>Q
 |.cells cs::r,Q=>AR F cs=true/\CR F r Q
 |.arr _ _ es::r,Q=>(∀e∈es,closed e=true)/\CR F r Q
 |.dead::r,Q=>CR F r Q
 |.ghost cs _ _::r,Q=>AR F cs=true/\CR F r Q
 |.inv _::r,Q|.map _ _::r,Q=>CR F r Q
theorem E6{F:List HO}:∀{H:List HO}{Q:Prop},CR F H Q->Q/\(∀(i:Nat) cs,H[i]?=some (.cells cs)->AR F cs=true)/\(∀(i:Nat) e sz es,H[i]?=some (.arr e sz es)->∀a∈es,closed a=true)/\
   (∀(i:Nat) cs vs ms,H[i]?=some (.ghost cs vs ms)->AR F cs=true)
 |[],Q,h=>⟨h,λi cs hi=>by simp at hi,λi e sz es hi=>by simp at hi,λi cs vs ms hi=>by simp at hi⟩
 |o::r,Q,h=>by
  cases o with
  |cells FK=>
   unfold CR at h;obtain⟨h0,h⟩:=h;obtain⟨k0,k1,k2,k3⟩:=E6 h;refine⟨k0,λi cs hi=>?_,λi e sz es hi=>?_,λi cs vs ms hi=>?_⟩
   ·cases i with
    |zero=>simp at hi;subst hi;exact h0
    |succ i=>exact k1 i cs (by simpa using hi)
   ·cases i with
    |zero=>simp at hi
    |succ i=>exact k2 i e sz es (by simpa using hi)
   cases i with
   |zero=>simp at hi
   |succ i=>exact k3 i cs vs ms (by simpa using hi)
  |arr e0 sz0 lX=>
   unfold CR at h;obtain⟨h0,h⟩:=h;obtain⟨k0,k1,k2,k3⟩:=E6 h;refine⟨k0,λi cs hi=>?_,λi e sz es hi=>?_,λi cs vs ms hi=>?_⟩
   ·cases i with
    |zero=>simp at hi
    |succ i=>exact k1 i cs (by simpa using hi)
   ·cases i with
    |zero=>simp at hi;obtain⟨rfl,rfl,rfl⟩:=hi;exact h0
    |succ i=>exact k2 i e sz es (by simpa using hi)
   cases i with
   |zero=>simp at hi
   |succ i=>exact k3 i cs vs ms (by simpa using hi)
  |ghost FK Tc ms0=>
   unfold CR at h;obtain⟨h0,h⟩:=h;obtain⟨k0,k1,k2,k3⟩:=E6 h;refine⟨k0,λi cs hi=>?_,λi e sz es hi=>?_,λi cs vs ms hi=>?_⟩
   ·cases i with
    |zero=>simp at hi
    |succ i=>exact k1 i cs (by simpa using hi)
   ·cases i with
    |zero=>simp at hi
    |succ i=>exact k2 i e sz es (by simpa using hi)
   cases i with
   |zero=>simp at hi;obtain⟨rfl,rfl,rfl⟩:=hi;exact h0
   |succ i=>exact k3 i cs vs ms (by simpa using hi)
  |dead=>
   exact Yae
  |inv I=>
   exact Yae
  |map _ _=>
   exact Yae
theorem jI:AU (mu.only H) (mu.below H.length):=λl g hl=>by
 obtain⟨k1,k2⟩:=CZ hl;obtain⟨ob,ho,_⟩:=Cq.1 k1;rw[DY (A1.1 ho).1];exact k2
theorem AJ.drop(h:AJ G C mu E (H++R) a w)(hE:AR H E=true)(hO:CR H H True)(hn:G.np<=H.length):AJ G C (mu.below H.length) E H a w:=by
 obtain⟨_,o1,o2,o3⟩:=E6 hO;have up:∀{i:Nat}{ob:HO},H[i]?=some ob->(H++R)[i]?=some ob:=λ{i ob} hi=>by rw[A5 (A1.1 hi).1];exact hi
 have lt:∀{i:Nat}{ob:HO},H[i]?=some ob->i<H.length:=λhi=>(A1.1 hi).1;have wr:∀(xs:List AV){vs:List Value},AR H xs=true->Ac C w xs mu vs->Ac C w xs (mu.below H.length) vs:=λxs vs h1 h2=>Ac.mono (Ext.refl _ _) _ jI (CM xs h1 h2)
 refine⟨h.c0,h.c1,h.lt,⟨λl g hl=>(CI hl).1,λl g b hl hg=>h.heap.fresh l g b (CI hl).2 hg,λl g b l' g' hl hg CT R8=>h.heap.sep l g b l' g' (CI hl).2 hg (CI CT).2 R8,λl hl=>?_,λl cs hl=>?_,λl e sz es hl=>?_,λl ks vs hl=>?_⟩,
  wr E hE h.env,?_,h.Ax,hn,λl b hl hp=>?_⟩
 rw[DY (lt hl)];exact h.heap.dead l (up hl);obtain⟨b,cur,e,k1,k2,k3,k4⟩:=h.heap.Dp l cs (up hl);exact⟨b,cur,e,by rw[DY (lt hl)];exact k1,k2,wr cs (o1 l cs hl) k3,k4⟩;obtain⟨k0,k⟩:=h.heap.Dk l e sz es (up hl);refine⟨k0,?_⟩;rw[DY (lt hl)];exact k.imp id λ⟨b,cap,cur,k1,k2,k3,k4,k5,k6,k7⟩=>⟨b,cap,cur,k1,k2,k3,k4,k5,Ac.mono (Ext.refl _ _) _ (AU.none _) (BD _ (GR (o2 l e sz es hl)) k6),k7⟩;obtain⟨b,es,cl,k1,k2,k3⟩:=h.heap.maps l ks vs (up hl);exact⟨b,es,cl,by rw[DY (lt hl)];exact k1,k2,k3⟩
 ·obtain⟨ms,d1,d2⟩:=h.defers;have V4:∀{D:Nat×Obj},CS C w G.fresh mu D->CS C w G.fresh (mu.below H.length) D:=λk=>⟨k.at_,k.HT,λl g hl=>k.own l g (CI hl).2,k.fr⟩;refine⟨ms,d1,⟨λl cs vs gm hl=>?_,λl I hl=>?_,λd hd=>V4 (d2.marks d hd),d2.nd,λl l' cs vs gm cs' CJ gm' hl CT=>d2.sep l l' cs vs gm cs' CJ gm' (up hl) (up CT)⟩⟩;·obtain⟨k1,k2,k3⟩:=d2.BG l cs vs gm (up hl);exact⟨wr cs (o3 l cs vs gm hl) k1,k2,λD hD=>⟨V4 (k3 D hD).1,(k3 D hD).2⟩⟩
  obtain⟨h0,Sw,Sr,f,q2,q3,q4⟩:=d2.Ho l I (up hl);exact⟨h0,Sw,Sr,⟨f.fr,f.base,f.cb,λi g b hi=>f.ob i g b (CI hi).2,f.sub,f.lt,λb hb i g hi=>f.own b hb i g (CI hi).2,f.HT⟩,q2,q3,λk cs vs gm hk=>q4 k cs vs gm (up hk)⟩
 rw[DY (A4 hl hn)];exact h.Dv.2 l b hl hp
def Kr:List HO->List HO->Prop->Prop
 |_,[],Q=>Q
 |x::xs,y::ys,Q=>x=y/\Kr xs ys Q
 |[],_::_,_=>False
theorem Kq:∀{xs ys:List HO}{Q:Prop},Kr xs ys Q->Q/\∃R,xs=ys++R
 |xs,[],Q,h=>⟨by cases xs<;>exact h,xs,by simp⟩
 |x::xs,y::ys,Q,h=>by unfold Kr at h;obtain⟨rfl,h⟩:=h;obtain⟨q,R,rfl⟩:=Kq h;exact⟨q,R,rfl⟩
 |[],_::_,_,h=>by unfold Kr at h;exact h.elim
end
end Go.Av
namespace Go.Av
open Go.RowKit (Below)
variable {l g:Nat}{ms:List Nat}{E:List AV}{Sw Sr:Nat->Prop}{w:World}
section
variable {G:Cx}{T:List TY}{P:Program}
structure nT(H:List HO)(g:Nat)(E:List AV)(vs:List Value):Prop where
 gh:H[g]?=some (.ghost E vs [])
 ni:∀(l:Nat) I,H[l]?≠some (.inv I)
 ng:∀(l:Nat) cs vs gm,H[l]?=some (.ghost cs vs gm)->gm=[]
def YQ:AE->Option Code
 |.ret=>some .ret
 |.exit id=>some (.exit id)
 |.panic _=>none
def LpX(G:Cx)(l:Nat)(rec:Code->Obj)(ms:List Nat)(g:Nat)(E:List AV)(vs:List Value)(Hx:AE->List HO->Prop)(Sw Sr:Nat->Prop)(W:World):Prop:=
 ∃e c H,YQ e=some c/\Hx e H/\nT H g E vs/\Zy G l (rec c) ms H Sw Sr W
theorem LpX.Ol{rec:Code->Obj}{vs:List Value}{Hx:AE->List HO->Prop}{w':World}(h:LpX G l rec ms g E vs Hx Sw Sr w)(hs:GV Sr w w'):LpX G l rec ms g E vs Hx Sw Sr w':=by
 obtain⟨e,c,H,h1,h2,h3,h4⟩:=h;exact⟨e,c,H,h1,h2,h3,h4.Ol h3.ni h3.ng hs⟩
mutual
def NZ:AV->Bool
 |.int _ _|.bool _|.lit _|.raw _=>true
 |.iface _ x=>NZ x
 |.agg cs=>X6 cs
 |_=>false
def X6:List AV->Bool
 |[]=>true
 |a::as=>NZ a&&X6 as
end
mutual
theorem JZ{C C':Af}{w w':World}{mu mu':Mu}:∀(x:AV){v:Value},NZ x=true->Aj C w x mu v->Aj C' w' x mu' v
 |.int _ _,_,_,h|.bool _,_,_,h|.lit _,_,_,h|.raw _,_,_,h=>by unfold Aj at*;exact h
 |.iface t x,_,hf,h=>by unfold NZ at hf;unfold Aj at*;obtain⟨y,h1,h2⟩:=h;exact⟨y,h1,JZ x hf h2⟩
 |.agg cs,_,hf,h=>by unfold NZ at hf;unfold Aj at*;obtain⟨vs,h1,h2⟩:=h;exact⟨vs,h1,S9 cs hf h2⟩
 |.any,_,hf,_|.str _,_,hf,_|.sl _ _,_,hf,_|.at_ _,_,hf,_|.mp _ _,_,hf,_|.om _,_,hf,_|.ptr _ _,_,hf,_|.el _ _ _ _,_,hf,_|.own _ _ _ _,_,hf,_|.fn _ _,_,hf,_|.mv _ _,_,hf,_|.tuple _,_,hf,_=>by unfold NZ at hf;cases hf
theorem S9{C C':Af}{w w':World}{mu mu':Mu}:∀(xs:List AV){vs:List Value},X6 xs=true->Ac C w xs mu vs->Ac C' w' xs mu' vs
 |[],_,_,h=>by unfold Ac at*;exact h
 |x::xs,_,hf,h=>by unfold X6 at hf;simp only[Ap]at hf;unfold Ac at*;obtain⟨v,vs,h1,h2,h3⟩:=h;exact⟨v,vs,h1,JZ x hf.1 h2,S9 xs hf.2 h3⟩
end
@[reducible] def okX(e:AE):Prop:=match e with|.panic x=>NZ x=true|e=>∃c,YQ e=some c
def LpP(G:Cx)(l:Nat)(o:Obj)(ms:List Nat)(g:Nat)(E:List AV)(vs:List Value)(Hx:AE->List HO->Prop)(u:Value)(Sw Sr:Nat->Prop)(W:World):Prop:=
 ∃x H,(∀C w mu,Aj C w x mu u)/\Hx (.panic x) H/\nT H g E vs/\Zy G l o ms H Sw Sr W
theorem LpP.Ol{o:Obj}{vs:List Value}{Hx:AE->List HO->Prop}{u:Value}{w':World}(h:LpP G l o ms g E vs Hx u Sw Sr w)(hs:GV Sr w w'):LpP G l o ms g E vs Hx u Sw Sr w':=by
 obtain⟨x,H,h1,h2,h3,h4⟩:=h;exact⟨x,H,h1,h2,h3,h4.Ol h3.ni h3.ng hs⟩
theorem Jr{o:Obj}(h:w.heap[l]?=some o):w.putObj l o=w:=by
 have e:w.heap.setIfInBounds l o=w.heap:=by
  apply N3;intro i;rw[LL];split;·rename_i hi;subst hi;have:=(Am.1 h).1;simp[this,h];exact(Am.1 h).2.symm
  rfl
 unfold World.putObj;rw[e]
def D3(fn:FuncId)(tmps:Array Value)(ps:Array Tmp)(assign body:Code)(D:Nat)(st:LoopState)(pe:Option Code):Loop:={state:=st,pending:=pe,fn,tmps,params:=ps,assign,body,defers:=D}
theorem uE{fn:FuncId}{U7:Func}(hfd:P.funcs[fn]?=some U7){tmps:Array Value}{ps:Array Tmp}{assign body:Code}{D:Nat}{H:List HO}{x:List AV}{Hx:AE->List HO->Prop}{C1:Af}{n1:Nat}(hGP:G.P=P)
  (hk:nT H g E tmps.toList) (N:List HO->Prop) (hN:∀H1,N H1->nT H1 g E tmps.toList/\CR H1 H1 True/\G.np<=H1.length) (hlen:x.length=ps.size)
  (OG:Aa P assign (LI ps.toList x E) H (λE2 H2=>Aa P body E2 H2 (λ_ H'=>∃H1,N H1/\Kr H' H1 True) (λe _ H'=>okX e/\Hx e H'/\nT H' g E tmps.toList)) (λ_ _ _=>False))
  (yG:G.fresh l) (Qm:l<n1) (ML:∀d∈DM G ms,d.1<n1) (hC1:∀b o,C1 b o->G.C0 b o\/G.fresh b) (yF:G.W0.heap.size<=n1) (Zhx:∀o,¬C1 l o) (Zhy:∀d∈DM G ms,∀o,¬C1 d.1 o)
  {C':Af} {W:World} {us:List Value}  {n:Nat} (F5:∀b o,C' b o->b<W.heap.size) (hC':∀b o,C' b o->C1 b o\/n1<=b) (hnW:n1<=W.heap.size) (PX:∀b o,Sw b->¬C' b o)
  (hJ:Zy G l (.loop (D3 fn tmps ps assign body D .ready none)) ms H Sw Sr W) (hx:Ac C' W x Mu.none us):
  YieldAt (fw none) n P l us.toArray W λe w'=>∃EU D9,GV (λb=>b<W.heap.size/\¬Sw b) W w'/\(∀b,EU b->Sw b\/W.heap.size<=b)/\(∀b,D9 b->Sr b\/W.heap.size<=b\/∃o,C' b o)/\
   (∀b,EU b->D9 b)/\(∀b,D9 b->b<w'.heap.size)/\
   ((e=.returned (.bool true)/\∃H1,N H1/\Zy G l (.loop (D3 fn tmps ps assign body D .ready none)) ms H1 EU D9 w')\/
    (e=.returned (.bool false)/\LpX G l (λc=>.loop (D3 fn tmps ps assign body D .done (some c))) ms g E tmps.toList Hx EU D9 w')\/
    ∃u,e=.panicked [{v:=u,recovered:=false}]/\LpP G l (.loop (D3 fn tmps ps assign body D .busy none)) ms g E tmps.toList Hx u EU D9 w'):=by
 obtain⟨C,mu,Ai,hX,wA,lH⟩:=hJ;have hl:=hX.marks (l,.loop (D3 fn tmps ps assign body D .ready none)) (by simp[DM,Cx.AX]);have pI:us.toArray.size=ps.size:=by have:=AM _ hx;simp;omega
 have hy:=run_yield (P:=P) (args:=us.toArray) hl.at_ pI;refine⟨fn,_,assign,body,hy,Mo trivial hfd ?_⟩;obtain⟨ready,GH⟩:∃o,o=Obj.loop (D3 fn tmps ps assign body D .ready none):=⟨_,rfl⟩;rw[<-GH]at hl hX Ai lH;have vY:B2 C W G.fresh mu H ((l,ready)::DM G ms):=hX.perm (by simp[DM,Cx.AX]);let C2:Af:=λb o=>C b o\/C' b o
 let M0:Nat->Prop:=λb=>(∃i g,mu i=some g/\g.Az=some b)\/∃d∈(l,ready)::DM G ms,d.1=b
 have ZbW:∀d∈(l,ready)::DM G ms,∀o,¬C' d.1 o:=λd hd o hc=>by
  rcases A6.1 hd with rfl|hd
  ·rcases hC' _ _ hc with k|k;·exact Zhx o k
   simp only at k;omega
  rcases hC' _ _ hc with k|k;exact Zhy d hd o k;have:=ML d hd;omega
 have e1:Ext C C2 W W:=⟨λ_ _ h=>.inl h,λ_ _ _=>rfl⟩;have e2:Ext C' C2 W W:=⟨λ_ _ h=>.inr h,λ_ _ _=>rfl⟩;have hgE:=(hX.BG g E tmps.toList [] hk.gh).1;have ZbG:Zh5 C2 M0 W:=⟨Ai.qR.mono e1 (λb o hc=>hc.elim (Ai.lt b o) (F5 b o)),λb o hc hM=>by rcases hM with⟨i,g,hi,hg⟩|⟨d,hd,rfl⟩;exact hc.elim ((Ai.heap.fresh i g b hi hg).2.2 o) (PX b o ((wA b).2 (.inl ⟨i,g,hi,hg⟩)));exact hc.elim ((vY.marks d hd).HT o) (ZbW d hd o)⟩;let G1:Cx:={P:=P,lL:=ZbG,C0:=C2,M0:=M0,W0:=W,Lf:=(l,ready)::DM G ms,rd:=some l,Dv:=G.Dv,np:=G.np,MK:=λl' h=>⟨D3 fn tmps ps assign body D .ready none,by cases h;rw[GH];simp⟩}
 have hX1:B2 C2 W G1.fresh mu H ((l,ready)::DM G ms):=by refine⟨λi cs vs gm hi=>?_,λi I hi=>absurd hi (hk.ni i I),λd hd=>?_,vY.nd,vY.sep⟩;obtain⟨k1,k2,k3⟩:=vY.BG i cs vs gm hi;have:=hk.ng i cs vs gm hi;subst this;exact⟨Ac.mono e1 _ (AU.refl _) k1,k2,λD hD=>by cases hD⟩;have k:=vY.marks d hd;exact⟨k.at_,λo hc=>hc.elim (k.HT o) (ZbW d hd o),k.own,.inr (.inr ⟨d,hd,rfl⟩)⟩
 have Fc:AJ G1 C2 mu (LI ps.toList x E) H {tmps:=(ps.zip us.toArray).foldl (λt (p,v)=>t.setIfInBounds p v) tmps,defers:=[]} W:=by refine Ai.Ox (Hq _) (λ_ _=>rfl) (λ_ _ h=>h) (λ_ _ h=>.inl h) (λb o hc=>hc.elim (Ai.lt b o) (F5 b o)) (λ_ _ h=>.inl h) (λi g b hi hg=>⟨.inr (.inl ⟨i,g,hi,hg⟩),λo hc=>?_⟩) ?_ ⟨[],rfl,hX1⟩ ⟨rfl,rfl,rfl,Hq _,λ_ _ _=>rfl⟩ Ai.Dv;exact hc.elim ((Ai.heap.fresh i g b hi hg).2.2 o) (PX b o ((wA b).2 (.inl ⟨i,g,hi,hg⟩)));have:=Tv (C:=C2) (w:=W) (mu:=mu) ps.toList (Ac.mono e2 _ (AU.none mu) hx) (Ac.mono e1 _ (AU.refl _) hgE);rw[<-Array.foldl_toList];simpa using this
 obtain⟨busy,P0⟩:∃o,o=Obj.loop (D3 fn tmps ps assign body D .busy none):=⟨_,rfl⟩;let G2:Cx:={P:=P,lL:=ZbG,C0:=C2,M0:=M0,W0:=W,Lf:=(l,busy)::DM G ms,rd:=some l,Dv:=G.Dv,np:=G.np,MK:=λl' h=>⟨D3 fn tmps ps assign body D .busy none,by cases h;rw[P0];simp⟩}
 have fin:∀{C4:Af}{Fo:Mu}{E4:List AV}{H4:List HO}{a4:Act}{w4:World}(o2:Obj),nT H4 g E tmps.toList->AJ G2 C4 Fo E4 H4 a4 w4->
   ∃EU D9,GV (λb=>b<W.heap.size/\¬Sw b) W (w4.putObj l o2)/\(∀b,EU b->Sw b\/W.heap.size<=b)/\(∀b,D9 b->Sr b\/W.heap.size<=b\/∃o,C' b o)/\
    (∀b,EU b->D9 b)/\(∀b,D9 b->b<(w4.putObj l o2).heap.size)/\Zy G l o2 ms H4 EU D9 (w4.putObj l o2):=by
  intro C4 Fo E4 H4 a4 w4 o2 UP BU;obtain⟨SV,hd4,vZ⟩:=BU.defers;have VD:B2 C4 w4 G2.fresh Fo H4 ((l,busy)::(DM G ms++SV.map λD=>(D,Gj))):=vZ.perm (by show(SV.map (λD=>(D,Gj))++((l,busy)::DM G ms)).Perm _;exact K0);have hXo:=VD.aG (o':=o2);have V4:∀d∈DM G ms,W.heap[d.1]?=some d.2/\G.fresh d.1:=λd hd=>by have k:=vY.marks d (A2 _ hd);exact⟨k.at_,k.fr⟩
  have hfr:∀b,G2.fresh b->G.fresh b:=λb hb=>by rcases hb with hb|⟨i,gg,hi,hg⟩|⟨d,hd,rfl⟩;exact .inl (Bc Ai.Ax.size hb);exact(Ai.heap.fresh i gg b hi hg).1;rcases A6.1 hd with rfl|hd;exact yG;exact(V4 d hd).2
  have dJ:∀(i:Nat)(gg:GO)(b:Nat),Fo i=some gg->gg.Az=some b->(∃i g,mu i=some g/\g.Az=some b)\/W.heap.size<=b:=λi gg b hi hg=>by rcases (BU.heap.fresh i gg b hi hg).1 with hb|hb|⟨d,hd,rfl⟩;exact .inr hb;exact .inl hb;exfalso;rcases A6.1 hd with rfl|hd;exact(VD.marks (l,busy) (by simp)).own i gg hi hg;exact(VD.marks d (by simp[hd])).own i gg hi hg
  have Hp:LD G (w4.putObj l o2):=by refine⟨BU.Ax.os.trans Ai.Ax.os,BU.Ax.tape.trans Ai.Ax.tape,BU.Ax.output.trans Ai.Ax.output,?_,λk hk hn=>?_⟩;simp;exact Bc Ai.Ax.size BU.Ax.size;have V3:¬G.fresh k:=λh=>h.elim (λh=>absurd h (Nat.not_le_of_lt hk)) hn;rw[AZ (λe=>V3 (by rw[e];exact yG))];rw[BU.Ax.block k (A4 hk Ai.Ax.size) (λhM=>?_)];exact Ai.Ax.block k hk hn;rcases hM with⟨i,gg,hi,hg⟩|⟨d,hd,rfl⟩;exact V3 (Ai.heap.fresh i gg k hi hg).1;rcases A6.1 hd with rfl|hd;exact V3 yG;exact V3 (V4 d hd).2
  have Zhp:∀b o,G.C0 b o->C4 b o:=λb o h=>BU.c0 b o (.inl (Ai.c0 b o h))
  have Zho:∀b o,C4 b o->G.C0 b o\/G.fresh b:=λb o h=>by
   rcases BU.c1 b o h with h|h
   ·rcases h with h|h;·exact Ai.c1 b o h
    rcases hC' b o h with h|h;exact hC1 b o h;exact .inr (.inl (Bc yF h))
   exact .inr (hfr b h)
  have LS:∀o,¬C4 l o:=(VD.marks (l,busy) (by simp)).HT;have hXf:B2 C4 (w4.putObj l o2) G.fresh Fo H4 (DM (G.AX l o2) ms):=by have hXm:B2 C4 (w4.putObj l o2) G2.fresh Fo H4 ((DM (G.AX l o2) ms)++SV.map λD=>(D,Gj)):=hXo.perm (by simp only[DM,Cx.AX];refine VJ.trans ?_ (VJ.append_right _ Sa.symm);simp);refine⟨λi cs vs gm hi=>?_,λi I hi=>absurd hi (UP.ni i I),λd hd=>?_,?_,hXm.sep⟩;obtain⟨k1,k2,k3⟩:=hXm.BG i cs vs gm hi;have:=UP.ng i cs vs gm hi;subst this;exact⟨k1,k2,λD hD=>by cases hD⟩;have k:=hXm.marks d (CL _ hd);exact⟨k.at_,k.HT,k.own,hfr _ k.fr⟩;have:=hXm.nd;rw[List.map_append]at this;exact(List.nodup_append.1 this).1
  have JQ:AJ (G.AX l o2) C4 Fo [] H4 {tmps:=#[],defers:=ms.map mark++G.ds} (w4.putObj l o2):=by refine BU.Ox (by simp) (λb hb=>?_) Zhp Zho (λb o hc=>by simpa using BU.lt b o hc) (λ_ _ h=>h) (λi gg b hi hg=>⟨hfr _ (BU.heap.fresh i gg b hi hg).1,(BU.heap.fresh i gg b hi hg).2.2⟩) (by simp[Ac]) ⟨ms,rfl,hXf⟩ ⟨Hp.os,Hp.tape,Hp.output,Hp.size,Hp.block⟩ BU.Dv;refine AZ λe=>?_;subst e;rcases hb with⟨o,hc⟩|⟨i,gg,hi,hg⟩;exact LS o hc;exact(VD.marks (b,busy) (by simp)).own i gg hi hg
  have ZgX:W.heap.size<=(w4.putObj l o2).heap.size:=by simp;exact BU.Ax.size
  refine⟨λb=>(∃i g,Fo i=some g/\g.Az=some b)\/b=l,λb=>Rel (G.AX l o2) C4 Fo (DM (G.AX l o2) ms) b/\b<(w4.putObj l o2).heap.size,?_,?_,?_,?_,λb hb=>hb.2,C4,Fo,JQ,hXf,λb=>Iff.rfl,λb hb=>⟨hb,?_⟩⟩
  ·refine⟨BU.Ax.os,BU.Ax.tape,BU.Ax.output,ZgX,λb hb=>?_⟩;have gO:b≠l:=λe=>hb.2 ((wA b).2 (.inr e));rw[AZ gO];by_cases hd:∃d∈DM G ms,d.1=b;·obtain⟨d,hd,rfl⟩:=hd;have:=(VD.marks d (by simp[hd])).at_;rw[this,(V4 d hd).1]
   refine BU.Ax.block b hb.1 λhM=>?_;rcases hM with hM|⟨d,dR,rfl⟩;exact hb.2 ((wA b).2 (.inl hM));rcases A6.1 dR with rfl|dR;exact gO rfl;exact hd ⟨d,dR,rfl⟩
  intro b hb;rcases hb with⟨i,gg,hi,hg⟩|rfl;exact(dJ i gg b hi hg).imp (λh=>(wA b).2 (.inl h)) id;exact .inl ((wA b).2 (.inr rfl))
  ·intro b hb;rcases hb.1 with h|⟨o,h⟩|⟨i,gg,hi,hg⟩|⟨d,hd,rfl⟩;exact .inl (lH b (.inl h))
   ·rcases BU.c1 b o h with h|h
    ·rcases h with h|h;·exact .inl (lH b (.inr (.inl ⟨o,h⟩)))
     exact .inr (.inr ⟨o,h⟩)
    rcases h with h|h|⟨d,hd,rfl⟩;exact .inr (.inl h);exact .inl (lH b (.inr (.inr (.inl h))));refine .inl (lH d.1 (.inr (.inr (.inr ⟨d,?_,rfl⟩))));simp only[DM,Cx.AX,Jg,A6]at hd ⊢;rcases hd with hd|hd|hd;exact .inr (.inl hd);exact .inl hd;exact .inr (.inr hd)
   ·rcases dJ i gg b hi hg with h|h;·exact .inl (lH b (.inr (.inr (.inl h))))
    exact .inr (.inl h)
   refine .inl (lH d.1 (.inr (.inr (.inr ?_))));simp only[DM,Cx.AX,Jg,A6]at hd ⊢;rcases hd with hd|rfl|hd;exact⟨d,.inl hd,rfl⟩;exact⟨(l,ready),.inr (.inl rfl),rfl⟩;exact⟨d,.inr (.inr hd),rfl⟩
  intro b hb;rcases hb with⟨i,gg,hi,hg⟩|rfl;exact⟨.inr (.inr (.inl ⟨i,gg,hi,hg⟩)),(JQ.heap.fresh i gg b hi hg).2.1⟩;exact⟨.inr (.inr (.inr ⟨(b,o2),by simp[DM,Cx.AX],rfl⟩)),(Am.1 (hXf.marks (b,o2) (by simp[DM,Cx.AX])).at_).1⟩;rcases hb with h|⟨o,h⟩|⟨i,gg,hi,hg⟩|⟨d,hd,rfl⟩;exact A4 h Hp.size;exact JQ.lt b o h;exact(JQ.heap.fresh i gg b hi hg).2.1;exact(Am.1 (hXf.marks d hd).at_).1
 refine BX (OG.out n G1 _ W rfl ⟨C2,mu,Fc⟩) λe1 a1 w1 hq=>?_;cases e1 with
 |exit id=>obtain⟨_,_,h,_⟩:=hq;exact h.elim
 |goto t=>exact hq.elim
 |ret=>obtain⟨_,_,h,_⟩:=hq;exact h.elim
 |panic chain=>obtain⟨_,_,_,_,_,_,_,h,_⟩:=hq;exact h.elim
 |outgrown=>exact hq.elim
 |normal=>
  obtain⟨E2,H2,hB,C3,xW,DW⟩:=hq;obtain⟨xX,hd3,hX3⟩:=DW.defers;have VD:B2 C3 w1 G1.fresh xW H2 ((l,ready)::(DM G ms++xX.map λD=>(D,Gj))):=hX3.perm (by show(xX.map (λD=>(D,Gj))++((l,ready)::DM G ms)).Perm _;exact K0);have O3:=VD.marks (l,ready) (by simp);have hlr:w1.heap[l]?=some (.loop (D3 fn tmps ps assign body D .ready none)):=by rw[<-GH];exact O3.at_
  refine⟨w1.putObj l busy,by rw[P0];exact run_beginRound hlr rfl,?_⟩;have hX2:=VD.aG (o':=busy);have he2:Ext C3 C3 w1 (w1.putObj l busy):=Ext.of_block (λ_ _ h=>h) λb i hc=>AZ λe=>O3.HT i (by rw[<-e];exact hc);have Gr:AJ G2 C3 xW E2 H2 a1 (w1.putObj l busy):=by refine DW.Ox (by simp) (λb hb=>?_) DW.c0 DW.c1 (λb o hc=>by simpa using DW.lt b o hc) (λ_ _ h=>h) (λi gg b hi hg=>⟨(DW.heap.fresh i gg b hi hg).1,(DW.heap.fresh i gg b hi hg).2.2⟩) (Ac.mono he2 _ (AU.refl _) DW.env) ⟨xX,hd3,hX2.perm ?_⟩ ⟨DW.Ax.os,DW.Ax.tape,DW.Ax.output,by simpa using DW.Ax.size,λk hk hn=>?_⟩ DW.Dv;refine AZ λe=>?_;subst e;rcases hb with⟨o,hc⟩|⟨i,gg,hi,hg⟩;exact O3.HT o hc;exact O3.own i gg hi hg;show VJ _ (xX.map (λD=>(D,Gj))++((l,busy)::DM G ms));exact(K0 (l₁:=xX.map (λD=>(D,Gj))) (l₂:=(l,busy)::DM G ms)).symm;rw[AZ (λe=>hn (by rw[e];exact .inr ⟨(l,ready),by simp,rfl⟩))];exact DW.Ax.block k hk hn
  refine BX (hB.out n G2 a1 _ rfl ⟨C3,xW,Gr⟩) λe4 a4 w4 vM=>?_;have rd4:∀{C4:Af}{Fo:Mu}{E4:List AV}{H4:List HO},AJ G2 C4 Fo E4 H4 a4 w4->w4.heap[l]?=some (.loop (D3 fn tmps ps assign body D .busy none)):=λBU=>by obtain⟨SV,hd4,vZ⟩:=BU.defers;rw[<-P0];exact(vZ.marks (l,busy) (by simp[G2])).at_
  cases e4 with
  |normal=>
   obtain⟨E4,H4,⟨H1,hN1,Zg0⟩,C4,Fo,BU⟩:=vM;obtain⟨vR,BR,hnp⟩:=hN H1 hN1;have hr:=run_endRound (P:=P) none (rd4 BU);obtain⟨_,R,rfl⟩:=Kq Zg0;have JQ:AJ G2 C4 Fo [] (H1++R) {tmps:=#[],defers:=a4.defers} w4:=BU.frame (by unfold Ac;rfl) rfl;obtain⟨EU,D9,q1,q2,q3,q4,q5,q6⟩:=fin ready vR (JQ.drop rfl BR hnp);rw[GH]at q1 q5 q6;exact⟨_,_,hr,EU,D9,q1,q2,q3,q4,q5,.inl ⟨rfl,H1,hN1,q6⟩⟩
  |ret=>
   obtain⟨E4,H4,⟨_,hx4,UP⟩,C4,Fo,BU⟩:=vM;have hr:=run_endRound (P:=P) (some .ret) (rd4 BU);obtain⟨EU,D9,q1,q2,q3,q4,q5,q6⟩:=fin (.loop (D3 fn tmps ps assign body D .done (some .ret))) UP BU;exact⟨_,_,hr,EU,D9,q1,q2,q3,q4,q5,.inr (.inl ⟨rfl,.ret,.ret,H4,rfl,hx4,UP,q6⟩)⟩
  |exit id=>
   obtain⟨E4,H4,⟨_,hx4,UP⟩,C4,Fo,BU⟩:=vM;have hr:=run_endRound (P:=P) (some (.exit id)) (rd4 BU);obtain⟨EU,D9,q1,q2,q3,q4,q5,q6⟩:=fin (.loop (D3 fn tmps ps assign body D .done (some (.exit id)))) UP BU;exact⟨_,_,hr,EU,D9,q1,q2,q3,q4,q5,.inr (.inl ⟨rfl,.exit id,.exit id,H4,rfl,hx4,UP,q6⟩)⟩
  |goto t=>exact vM.elim
  |panic chain=>
   obtain⟨x,v,E4,H4,C4,Fo,rfl,⟨hwf,hx4,UP⟩,BU,hv⟩:=vM;obtain⟨SV,hd4,vZ⟩:=BU.defers;show LeavesInM (fw none) n P U7 a4.tmps _ a4.defers (.panicking [{v:=v,recovered:=false}]) w4;rw[show a4.defers=SV.map mark by simpa[G2]using hd4];refine Lk (G:=G2) rfl SV rfl BU vZ λa5 w5 _ JQ=>?_;(have hb5:w5.heap[l]?=some busy:=by obtain⟨ms5,_,hX5⟩:=JQ.defers;exact(hX5.marks (l,busy) (by simp[G2])).at_);obtain⟨EU,D9,q1,q2,q3,q4,q5,q6⟩:=fin busy UP JQ;rw[Jr hb5]at q1 q5 q6;rw[P0]at q6;exact⟨EU,D9,q1,q2,q3,q4,q5,.inr (.inr ⟨v,rfl,x,H4,λC w mu=>JZ x hwf hv,hx4,UP,q6⟩)⟩
  |outgrown=>exact vM.elim
end
end Go.Av
namespace Go.Av
open Go.RowKit (Below)
variable {ms:List Nat}{R:AV->List HO->Prop}{H0:List HO}
section
variable {G:Cx}{C:Af}{w w':World}{mu:Mu}{H:List HO}{E:List AV}{a:Act}{T:List TY}{P:Program}
theorem AJ.rE(h:AJ G C mu E H a w)(hx:B2 C w G.fresh mu H (DM G ms))(o:Obj):B2 C (w.alloc o) G.fresh mu H (DM G ms):=
 hx.step (IF (λb hb=>hb.1) o) (λl g b hm hb=>.inl ⟨l,g,hm,hb⟩) (λ_ _ h=>.inl h) (λl cs vs ms hl=>⟨cs,hl,Ac.mono (KD h.lt o) _ (AU.refl _)⟩) (λ_ _ h=>h)
def DD:List HO->Bool
 |[]=>true
 |.inv _::_=>false
 |.ghost _ _ []::r=>DD r
 |.ghost _ _ (_::_)::_=>false
 |.cells _::r|.arr _ _ _::r|.dead::r|.map _ _::r=>DD r
theorem EH:∀{H:List HO},DD H=true->∀(l:Nat) I,H[l]?≠some (.inv I)
 |[],_,l,I=>by simp
 |o::r,h,0,I=>by intro e;simp at e;subst e;cases h
 |o::r,h,l+1,I=>by
  have hr:DD r=true:=by
   cases o with
   |ghost cs vs ms=>cases ms<;>simp_all[DD]
   |_=>simp_all[DD]
  simpa using EH hr l I
theorem Iu:∀{H:List HO},DD H=true->∀(l:Nat) cs vs gm,H[l]?=some (.ghost cs vs gm)->gm=[]
 |[],_,l,cs,vs,gm=>by simp
 |o::r,h,0,cs,vs,gm=>by
  intro e;simp at e;subst e;cases gm with
  |nil=>rfl
  |cons _ _=>cases h
 |o::r,h,l+1,cs,vs,gm=>by
  have hr:DD r=true:=by
   cases o with
   |ghost cs vs ms=>cases ms<;>simp_all[DD]
   |_=>simp_all[DD]
  simpa using Iu hr l cs vs gm
theorem eP(Ai:AJ G C mu E H a w)(hx:B2 C w G.fresh mu H (DM G ms))(V2:∀(l:Nat) I,H[l]?≠some (.inv I))(V3:∀(l:Nat) cs vs gm,H[l]?=some (.ghost cs vs gm)->gm=[])
  (fn:FuncId) (tmps:Array Value) (ps:Array Tmp) (assign body:Code):
  ∃l D new W1,(Instr.enterLoop fn tmps ps assign body G.rd).run P w=.ok (l,new.map mark) W1/\w.heap.size<=l/\l<W1.heap.size/\AJ G C mu E H a W1/\
   B2 C W1 G.fresh mu H ((l,.loop (D3 fn tmps ps assign body D .ready none))::DM G (new++ms)):=by
 cases MK:G.rd with
 |none=>
  have h1:=Ai.OY Gj;have x1:=Ai.rE hx Gj;have m1:=Ai.YE Gj;have yF:∀d∈DM G ms,d.1<w.heap.size:=λd hd=>(Am.1 (hx.marks d hd).at_).1;have p1:B2 C (w.alloc Gj) G.fresh mu H ((w.heap.size,Gj)::DM G ms):=x1.push V2 V3 m1 (by intro hm;obtain⟨d,hd,he⟩:=HB.1 hm;have:=yF d hd;omega);obtain⟨o2,ho2⟩:∃o2:Obj,o2=.loop (D3 fn tmps ps assign body w.heap.size .ready none):=⟨_,rfl⟩;have h2:=h1.OY o2;have x2:B2 C ((w.alloc Gj).alloc o2) G.fresh mu H ((w.heap.size,Gj)::DM G ms):=p1.step (IF (λb hb=>hb.1) o2) (λl g b hm hb=>.inl ⟨l,g,hm,hb⟩) (λ_ _ h=>.inl h) (λl cs vs ms hl=>⟨cs,hl,Ac.mono (KD h1.lt o2) _ (AU.refl _)⟩) (λ_ _ h=>h);have m2:=h1.YE o2;have p2:B2 C ((w.alloc Gj).alloc o2) G.fresh mu H (((w.alloc Gj).heap.size,o2)::(w.heap.size,Gj)::DM G ms):=x2.push V2 V3 m2 (by intro hm;obtain⟨d,hd,he⟩:=HB.1 hm;simp only[World.size_alloc]at he;rcases A6.1 hd with rfl|hd;simp at he;have:=yF d hd;omega);refine⟨w.heap.size+1,w.heap.size,[w.heap.size],(w.alloc Gj).alloc o2,?_,by omega,by simp,h2,?_⟩;rw[run_enterLoop_outer,ho2];rfl;rw[<-ho2];simpa[DM]using p2
 |some l0=>
  obtain⟨r0,Q3⟩:=G.MK l0 MK;have hl0:=(hx.marks (l0,.loop r0) (by simp[DM,Q3])).at_;have yF:∀d∈DM G ms,d.1<w.heap.size:=λd hd=>(Am.1 (hx.marks d hd).at_).1;obtain⟨o2,ho2⟩:∃o2:Obj,o2=.loop (D3 fn tmps ps assign body r0.defers .ready none):=⟨_,rfl⟩;have h2:=Ai.OY o2;have x2:=Ai.rE hx o2;have m2:=Ai.YE o2;have p2:B2 C (w.alloc o2) G.fresh mu H ((w.heap.size,o2)::DM G ms):=x2.push V2 V3 m2 (by intro hm;obtain⟨d,hd,he⟩:=HB.1 hm;have:=yF d hd;omega);refine⟨w.heap.size,r0.defers,[],w.alloc o2,?_,Hq _,by simp,h2,?_⟩;rw[run_enterLoop_inner hl0,ho2];rfl;rw[<-ho2];simpa using p2
theorem AJ.QK(h:AJ G C mu E H a w)(hx:B2 C w G.fresh mu H (DM G ms)){E0:List AV}{vs:List Value}(he:Ac C w E0 mu vs)(V2:∀(l:Nat) I,H[l]?≠some (.inv I)):
  B0 C w G.fresh mu (H++[.ghost E0 vs []])/\B2 C w G.fresh mu (H++[.ghost E0 vs []]) (DM G ms):=by
 have hd:∀l g,mu l=some g->l<(H++[HO.ghost E0 vs []]).length:=λl g hg=>by have:=h.heap.JX l g hg;simp;omega
 have R9:∀(l:Nat)(ob:HO),(H++[HO.ghost E0 vs []])[l]?=some ob->H[l]?=some ob\/ob=.ghost E0 vs []:=λl ob hl=>by
  rw[List.getElem?_append]at hl;split at hl;exact .inl hl;right;cases hq:l-H.length with
  |zero=>rw[hq]at hl;simpa using hl.symm
  |succ n=>rw[hq]at hl;simp at hl
 refine⟨⟨hd,h.heap.fresh,h.heap.sep,λl hl=>?_,λl cs hl=>?_,λl e sz es hl=>?_,λl ks vs hl=>?_⟩,⟨λl cs CJ gm hl=>?_,λl I hl=>?_,hx.marks,hx.nd,λl l' cs vs ms cs' CJ DL hl CT BK D hD=>?_⟩⟩
 ·rcases R9 l _ hl with k|k;·exact h.heap.dead l k
  cases k
 ·rcases R9 l _ hl with k|k;·exact h.heap.Dp l cs k
  cases k
 ·rcases R9 l _ hl with k|k;·exact h.heap.Dk l e sz es k
  cases k
 ·rcases R9 l _ hl with k|k;·exact h.heap.maps l ks vs k
  cases k
 ·rcases R9 l _ hl with k|k;·exact hx.BG l cs CJ gm k
  cases k;exact⟨he,Kp,λD hD=>by cases hD⟩
 ·rcases R9 l _ hl with k|k;·exact absurd k (V2 l I)
  cases k
 intro hD';rcases R9 l _ hl with k|k
 ·rcases R9 l' _ CT with k'|k';·exact hx.sep l l' _ _ _ _ _ _ k k' BK D hD hD'
  cases k';cases hD'
 cases k;cases hD
theorem MC{l:Nat}{o o':Obj}{g:Nat}{E:List AV}{H:List HO}{Sw Sr:Nat->Prop}{W:World}{a:Act}(hk:nT H g E a.tmps.toList)(hJ:Zy G l o ms H Sw Sr W)(hd:a.defers=ms.map mark++G.ds):
  St G E H a (W.putObj l o'):=by
 obtain⟨C,mu,Ai,hX,_,_⟩:=hJ;have VD:B2 C W G.fresh mu H ((l,o)::DM G ms):=hX.perm (by simp[DM,Cx.AX]);have hl:=VD.marks (l,o) (by simp);have hX2:=VD.aG (o':=o');have hX3:B2 C (W.putObj l o') G.fresh mu H (DM G ms):=by refine⟨λi cs vs gm hi=>?_,λi I hi=>absurd hi (hk.ni i I),λd hd=>hX2.marks d (A2 _ hd),(G8.1 hX2.nd).2,hX2.sep⟩;obtain⟨k1,k2,k3⟩:=hX2.BG i cs vs gm hi;exact⟨k1,k2,λD hD=>⟨(k3 D hD).1,λh=>(k3 D hD).2 (A2 _ h)⟩⟩
 refine⟨C,mu,Ai.Ox (by simp) (λb hb=>?_) Ai.c0 Ai.c1 (λb o hc=>by simpa using Ai.lt b o hc) (λ_ _ h=>h) (λi gg b hi hg=>⟨(Ai.heap.fresh i gg b hi hg).1,(Ai.heap.fresh i gg b hi hg).2.2⟩) (hX2.BG g E _ [] hk.gh).1 ⟨ms,hd,hX3⟩
  ⟨Ai.Ax.os,Ai.Ax.tape,Ai.Ax.output,(by have:=Ai.Ax.size;simp[Cx.AX]at this ⊢;exact this),λk KR hn=>?_⟩ Ai.Dv⟩
 refine AZ λe=>?_;subst e;rcases hb with⟨o,hc⟩|⟨i,gg,hi,hg⟩;exact hl.HT o hc;exact hl.own i gg hi hg;rw[AZ (λe=>?_)];exact Ai.Ax.block k KR hn;subst e;rcases hl.fr with h|h;simp only at h;omega;exact hn h
theorem X4{F:Fence}{m:Nat}{P:Program}{l:Nat}{args:Array Value}{W:World}{R R':Ending->World->Prop}(h:YieldAt F m P l args W R)(hr:∀e w,R e w->R' e w):YieldAt F m P l args W R':=by
 obtain⟨fn,tmps,assign,body,hy,hR⟩:=h;exact⟨fn,tmps,assign,body,hy,hR.mono hr⟩
theorem Aa.Hi{ι:Type}{d:Prop}{g:Operand}{ps:Array Tmp}{assign body:Code}{E E0:List AV}{H:List HO}{K:KK}{X:XX}{f:FuncId}{cap:List AV}{xs:List (List AV)}
  (hE:rH E E0) (hg:BL E g=.fn f cap) (hc:AI cap=true) (LQ:xT P f cap xs d) (hH:DD H=true)
  (Hs:List Value->Nat->ι->List HO) (pre:Nat->ι->Prop) (i0:ι) (hp0:pre 0 i0) (Hx:List Value->AE->List HO->Prop) (h0:∀vs,Hs vs 0 i0=H++[.ghost E0 vs []]) (Nz:∀vs k i,pre k i->DD (Hs vs k i)=true/\(Hs vs k i)[H.length]?=some (.ghost E0 vs [])/\CR (Hs vs k i) (Hs vs k i) True)
  (round:∀vs k i x,pre k i->xs[k]?=some x->x.length=ps.size/\Aa P assign (LI ps.toList x E0) (Hs vs k i)
   (λE2 H2=>Aa P body E2 H2 (λ_ H'=>∃j,pre (k+1) j/\Kr H' (Hs vs (k+1) j) True) (λe _ H'=>okX e/\Hx vs e H'/\DD H'=true/\H'[H.length]?=some (.ghost E0 vs []))) (λ_ _ _=>False))
  (NV:¬d->∀i,¬pre xs.length i) (done:∀vs i,pre xs.length i->K E0 (Hs vs xs.length i)) (exit:∀vs e H',Hx vs e H'->X e E0 H'):Aa P (.rangeFunc g ps assign body) E H K X:=by
 refine⟨λn G a w hP Ai=>?_⟩;obtain⟨C,mu,Ai⟩:=Ai;obtain⟨ms,hd,hx⟩:=Ai.defers;subst hP;refine NX λfn _ vT=>?_;obtain⟨ZkX,Zhe⟩:=Option.isSome_iff_exists.1 vT;obtain⟨l,D,new,W1,he,hl0,Qm,Fc,Xj⟩:=eP (P:=G.P) Ai hx (EH hH) (Iu hH) fn a.tmps ps assign body;obtain⟨vs,EA⟩:∃vs,vs=a.tmps.toList:=⟨_,rfl⟩;obtain⟨ready,GH⟩:∃o,o=Obj.loop (D3 fn a.tmps ps assign body D .ready none):=⟨_,rfl⟩;rw[<-GH]at Xj;have hE0:Ac C W1 E0 mu vs:=by rw[EA];exact Qj hE Fc.env
 have hgv:=Bv Fc.env g;rw[hg]at hgv;unfold Aj at hgv;obtain⟨us,hgv,Kv⟩:=hgv;have Kv:=BD cap hc Kv
 obtain⟨U7,Xo,ZbP,dM⟩:∃fd,G.P.funcs[f]?=some fd/\fd.body≠none/\fd.name ≠ "runtime.NumGoroutine":=by
  have lA:=LQ.D7;unfold Cp at lA;cases Xo:G.P.funcs[f]? with
  |none=>rw[Xo]at lA;cases lA
  |some fd=>
   rw[Xo]at lA;simp only[Ap]at lA;exact⟨fd,rfl,by cases hh:fd.body<;>simp_all,by simpa using lA.2⟩
 have Zbz:∀k i,pre k i->nT (Hs vs k i) H.length E0 vs:=λk i hi=>⟨(Nz vs k i hi).2.1,EH (Nz vs k i hi).1,Iu (Nz vs k i hi).1⟩
 -- zJ state before zJ first round
 have ZgQ:B2 C W1 G.fresh mu H (DM (G.AX l ready) (new++ms)):=Xj.perm (by simp only[DM,Cx.AX];exact Sa.symm)
 have Gr:AJ (G.AX l ready) C mu [] H {tmps:=#[],defers:=(new++ms).map mark++G.ds} W1:=
  ⟨Fc.c0,Fc.c1,Fc.lt,Fc.heap,by simp[Ac],⟨_,rfl,ZgQ⟩,⟨Fc.Ax.os,Fc.Ax.tape,Fc.Ax.output,Fc.Ax.size,Fc.Ax.block⟩,Fc.Dv⟩
 obtain⟨hp1,vN⟩:=Gr.QK ZgQ hE0 (EH hH);have hJ0:Zy G l ready (new++ms) (Hs vs 0 i0) (λb=>(∃i g,mu i=some g/\g.Az=some b)\/b=l) (λb=>Rel (G.AX l ready) C mu (DM (G.AX l ready) (new++ms)) b) W1:=by rw[h0 vs];exact⟨C,mu,⟨Gr.c0,Gr.c1,Gr.lt,hp1,by simp[Ac],⟨_,rfl,vN⟩,Gr.Ax,by have:=Gr.Dv.1;simp;omega,Gr.Dv.2⟩,vN,λb=>Iff.rfl,λb hb=>hb⟩
 let I:Nat->Inv:=λk=>⟨λSw Sr W=>∃i,pre k i/\Zy G l ready (new++ms) (Hs vs k i) Sw Sr W,λSw Sr w w' ⟨i,hi,h⟩ hs=>⟨i,hi,Zy.Ol (Zbz k i hi).ni (Zbz k i hi).ng h hs⟩,C,W1.heap.size⟩
 let Ix:Inv:=⟨λSw Sr W=>LpX G l (λc=>.loop (D3 fn a.tmps ps assign body D .done (some c))) (new++ms) H.length E0 vs (Hx vs) Sw Sr W,λSw Sr w w' h hs=>LpX.Ol h hs,C,W1.heap.size⟩
 let Ip:Value->Inv:=λu=>⟨λSw Sr W=>LpP G l (.loop (D3 fn a.tmps ps assign body D .busy none)) (new++ms) H.length E0 vs (Hx vs) u Sw Sr W,λSw Sr w w' h hs=>LpP.Ol h hs,C,W1.heap.size⟩
 have hlm:=Xj.marks (l,ready) (by simp);have hxm:∀d∈DM G (new++ms),CS C W1 G.fresh mu d:=λd hd=>Xj.marks d (A2 _ hd);have hW1:w.heap.size<=W1.heap.size:=by omega
 have Xt:=LQ.out l I Ix Ip C W1 us _ _ (λhd Sw Sr w ⟨i,hi,_⟩=>NV hd i hi) Fc.qR rfl rfl (λb o hb hc=>?_) (λb hb=>?_) (λb hb=>?_) ⟨i0,hp0,hJ0⟩ Kv (λk x hk=>?_)
 ·have hdl:(L4 (.yield l) #[] #[]::us).toArray=#[L4 (.yield l) #[] #[]]++us.toArray:=by simp
  refine⟨l,new.map mark,W1,{target:=.fn (.func f) us.toArray,args:=#[.func (.yield l) #[] #[]]},W1,f,#[.func (.yield l) #[] #[]]++us.toArray,W1,he,?_,?_,?_,λh=>(by cases h),?_⟩;simp only[resolve,hgv];simp[go_sem];intro f' hf';trivial;simp[invoke,callFunc,Xo,dM,ZbP];refine(callsIn_wide (n:=n-1)).2 ?_;rw[<-hdl];refine Xt.mono λe w3 Ks=>?_;obtain⟨EU,D9,Ks⟩:=Ks;have hda:({a with defers:=new.map mark++a.defers}:Act).defers=(new++ms).map mark++G.ds:=by simp[hd]
  have htm:({a with defers:=new.map mark++a.defers}:Act).tmps.toList=vs:=EA.symm;rcases Ks with⟨v,rfl,⟨i,hi,hJ⟩|hJ⟩|⟨u,rfl,hJ⟩;·(have O3:w3.heap[l]?=some (.loop (D3 fn a.tmps ps assign body D .ready none)):=by obtain⟨C3,xW,_,hX,_,_⟩:=hJ;rw[<-GH];exact(hX.marks (l,ready) (by simp[DM,Cx.AX])).at_);exact⟨none,_,run_endLoop O3 (by simp[D3]),E0,_,done vs i hi,MC (g:=H.length) (by rw[htm];exact Zbz _ _ hi) hJ hda⟩
  ·obtain⟨e,c,H',h1,h2,h3,hJ⟩:=hJ;(have O3:w3.heap[l]?=some (.loop (D3 fn a.tmps ps assign body D .done (some c))):=by obtain⟨C3,xW,_,hX,_,_⟩:=hJ;exact(hX.marks (l,_) (by simp[DM,Cx.AX])).at_);have hS:=λo'=>MC (o':=o') (g:=H.length) (a:={a with defers:=new.map mark++a.defers}) (by rw[htm];exact h3) hJ hda;refine⟨some c,_,run_endLoop O3 (by simp[D3]),?_⟩;cases e with
   |ret=>simp only[YQ,A3.injEq]at h1;subst h1;exact wpIn_ret ⟨E0,H',exit vs _ _ h2,hS _⟩
   |exit id=>simp only[YQ,A3.injEq]at h1;subst h1;exact wpIn_exit ⟨E0,H',exit vs _ _ h2,hS _⟩
   |panic x=>cases h1
  obtain⟨x,H',h0,h2,h3,hJ⟩:=hJ;have O3:w3.heap[l]?=some (.loop (D3 fn a.tmps ps assign body D .busy none)):=by obtain⟨C3,xW,_,hX,_,_⟩:=hJ;exact(hX.marks (l,_) (by simp[DM,Cx.AX])).at_
  have hS:=MC (o':=.loop (D3 fn a.tmps ps assign body D .busy none)) (g:=H.length) (a:={a with defers:=new.map mark++a.defers}) (by rw[htm];exact h3) hJ hda;rw[Jr O3]at hS;obtain⟨C4,Fo,hS⟩:=hS;exact⟨x,u,E0,H',C4,Fo,rfl,exit vs _ _ h2,hS,h0 _ _ _⟩
 ·rcases hb with⟨i,gg,hi,hg⟩|rfl;·exact(Fc.heap.fresh i gg b hi hg).2.2 o hc
  exact hlm.HT o hc
 ·rcases hb with hb|rfl;·exact .inr (.inr (.inl hb))
  exact .inr (.inr (.inr ⟨(b,ready),by simp[DM,Cx.AX],rfl⟩))
 ·rcases hb with h|⟨o,h⟩|⟨i,gg,hi,hg⟩|⟨d,hd,rfl⟩;·exact A4 h Fc.Ax.size
  exact Fc.lt b o h;exact(Fc.heap.fresh i gg b hi hg).2.1;exact(Am.1 (ZgQ.marks d hd).at_).1
 refine⟨⟨rfl,rfl,rfl,rfl,λ_=>⟨rfl,rfl⟩⟩,l,rfl,λC' W Tf Sw Sr n' F5 hC' hnW PX vI Zp3 hJ vG=>?_⟩;obtain⟨i,hi,Y8⟩:∃i,pre k i/\Zy G l ready (new++ms) (Hs vs k i) Sw Sr W:=hJ;obtain⟨hlen,OG⟩:=round vs k i x hi hk;have hkk:nT (Hs vs k i) H.length E0 a.tmps.toList:=by rw[<-EA];exact Zbz k i hi
 have hN:∀H1,(∃j,pre (k+1) j/\H1=Hs vs (k+1) j)->nT H1 H.length E0 a.tmps.toList/\CR H1 H1 True/\G.np<=H1.length:=by rintro H1 ⟨j,hj,rfl⟩;exact⟨by rw[<-EA];exact Zbz _ _ hj,(Nz vs _ j hj).2.2,Bc Ai.Dv.1 (Nat.le_of_lt (A1.1 (Nz vs _ j hj).2.1).1)⟩
 rw[GH]at Y8
 have hY:=uE Zhe (n:=n') (P:=G.P) (Hx:=Hx vs) (C1:=C) (n1:=W1.heap.size) rfl hkk _ hN hlen
   (OG.mono (λE2 H2 h=>h.mono (λ_ _ ⟨j,hj,h⟩=>⟨_,⟨j,hj,rfl⟩,h⟩) (λe E' H' h=>⟨h.1,h.2.1,by rw[EA]at h;exact h.2.2.2,EH h.2.2.1,Iu h.2.2.1⟩)) (λ_ _ _ h=>h))
   (.inl (Bc Ai.Ax.size hl0)) Qm (λd hd=>(Am.1 (hxm d hd).at_).1) Fc.c1 (Bc Ai.Ax.size hW1) hlm.HT (λd hd=>(hxm d hd).HT) F5 hC' hnW PX Y8 vG
 refine X4 hY ?_;rintro e w' ⟨EU,D9,q1,q2,q3,q4,q5,q6⟩;refine⟨EU,D9,q1,q2,q3,q4,q5,?_⟩;rcases q6 with⟨rfl,H1,⟨j,hj,rfl⟩,q⟩|⟨rfl,q⟩|⟨u,rfl,q⟩;exact .inl ⟨rfl,j,hj,by rw[<-GH]at q;exact q⟩;exact .inr (.inl ⟨rfl,by rw[<-EA]at q;exact q⟩);exact .inr (.inr ⟨u,rfl,by rw[<-EA]at q;exact q⟩)
end
structure Su(C:Af)(mu:Mu)(w:World)(C':Af)(mu':Mu)(w':World):Prop where
 same:GV (λb=>b<w.heap.size/\∀l g,mu l=some g->g.Az≠some b) w w'
 sub:∀b o,C b o->C' b o
 new:∀b o,C' b o->b<w'.heap.size/\(C b o\/w.heap.size<=b\/∃l g,mu l=some g/\g.Az=some b)
 Dv:∀l b,mu l=some (.D6 b)->mu' l=some (.D6 b)
 ob:∀l g b,mu' l=some g->g.Az=some b->(∃l g,mu l=some g/\g.Az=some b)\/w.heap.size<=b
def DC:List HO->Bool
 |[]=>true
 |.cells _::r|.arr _ _ _::r|.map _ _::r|.dead::r=>DC r
 |_::_=>false
theorem Ir:∀{H:List HO},DC H=true->∀{l:Nat}{ob:HO},H[l]?=some ob->ob.real=true\/ob=.dead
 |[],_,l,ob,h=>by simp at h
 |o::r,hr,0,ob,h=>by simp only[C5,A3.injEq]at h;subst h;cases o<;>simp_all[DC]
 |o::r,hr,l+1,ob,h=>by
  have Ll:DC r=true:=by cases o<;>first|exact hr|cases hr
  exact Ir Ll (by simpa using h)
structure Bq(P:Program)(f:FuncId)(args:List AV)(H0:List HO)(R X:AV->List HO->Prop):Prop where
 D7:Cp P f=true
 out:∀(C:Af)(mu:Mu)(w:World)(vs:List Value),gE C w->B0 C w (λ_=>True) mu H0->Ac C w args mu vs->
  Calls P f vs.toArray w λe w'=>∃r v H1 C' mu',((e=.returned v/\R r H1)\/(e=.panicked [{v,recovered:=false}]/\X r H1))/\Su C mu w C' mu' w'/\B0 C' w' (λ_=>True) mu' H1/\Aj C' w' r mu' v/\
   H1.length=H0.length/\DC H1=true/\∀l:Nat,H0[l]?=some HO.dead->H1[l]?=some HO.dead
def EO(N:Nat)(H:List HO):Nat->AV->(AV->Prop)->Prop
 |0,v,K=>match closed v with|true=>v.force K|false=>False
 |n+1,v,K=>match v with
  |.own l sz lo m=>match P1 l N with
   |true=>K (.own l sz lo m)
   |false=>Dr H l λob=>(match ob with
    |.arr _ De es=>(match Bg sz De&&Bg lo 0 with
     |true=>(m=es.length/\∀e∈es,closed e=true)/\K (.sl sz es)
     |false=>False)
    |_=>False)
  |.el l sz i o=>match P1 l N with|true=>K (.el l sz i o)|false=>False
  |.ptr l o=>match P1 l N with
   |true=>K (.ptr l o)
   |false=>Dr H l λob=>(match ob with
    |.cells cs=>GZ (EO N H n) cs λcs=>(match AI cs with|true=>MT cs o λcs=>K (.at_ cs)|false=>False)
    |_=>False)
  |.fn f cap=>GZ (EO N H n) cap λcs=>K (.fn f cs)
  |.mv f cap=>GZ (EO N H n) cap λcs=>K (.mv f cs)
  |.agg cs=>GZ (EO N H n) cs λcs=>K (.agg cs)
  |.tuple cs=>GZ (EO N H n) cs λcs=>K (.tuple cs)
  |.iface t x=>EO N H n x λx=>K (.iface t x)
  |.om l=>(match P1 l N with
   |true=>K (.om l)
   |false=>Dr H l λob=>(match ob with|.map ks vs=>K (.mp ks vs)|_=>False))
  |v=>v.force K
def EB(N:Nat)(H:List HO):List HO->List HO->(List HO->Prop)->Prop
 |[],_,K=>K []
 |.dead::r0,.dead::r,K=>EB N H r0 r λr=>K (.dead::r)
 |.dead::_,_,_=>False
 |_::r0,.dead::r,K=>EB N H r0 r λr=>K (.dead::r)
 |_::r0,.cells cs::r,K=>GZ (EO N H 4) cs λcs=>EB N H r0 r λr=>K (.cells cs::r)
 |_::r0,.arr e sz es::r,K=>(∀e∈es,closed e=true)/\EB N H r0 r λr=>K (.arr e sz es::r)
 |_::r0,.map ks vs::r,K=>EB N H r0 r λr=>K (.map ks vs::r)
 |_,_,_=>False
def pO(T:List TY)(rs:List ResultVar)(H0:List HO)(R:AV->List HO->Prop)(E:List AV)(H:List HO):Prop:=
 aS T E H rs λvs=>match vs with
  |[v]=>EO H0.length H 4 v λv=>EB H0.length H H0 H λH1=>R v H1
  |vs=>EO H0.length H 5 (.tuple vs) λv=>EB H0.length H H0 H λH1=>R v H1
def Zj2(H0:List HO)(X:AV->List HO->Prop)(x:AV)(H:List HO):Prop:=
 EO H0.length H 4 x λx=>EB H0.length H H0 H λH1=>X x H1
section
variable {G:Cx}{C C':Af}{w w':World}{mu:Mu}{H:List HO}{E:List AV}{a:Act}{T:List TY}{P:Program}
theorem F3{n:Nat}{fn:Func}{R:Ending->World->Prop}{tmps tm2:Array Value}(Y4:G.ds=[]){u:FrameMode}(hu:u≠.run):∀(ms:List Nat){w:World}{a:Act},a.tmps=tm2->AJ G C mu E H a w->B2 C w G.fresh mu H (ms.map (λD=>(D,Gj))++G.Lf)->
  (∀a' w',a'.tmps=tm2->AJ G C mu E H a' w'->LeavesIn (fw none) n G.P fn tmps R [] u w')->LeavesInM (fw none) n G.P fn tmps R (ms.map mark) u w
 |[],w,a,ha,h,hx,hr=>by simp only[RR,LeavesInM];exact hr a w ha h
 |D::ms,w,a,ha,h,hx,hr=>by simp only[L5,LeavesInM];obtain⟨h1,h2⟩:=h.O8 hx;refine⟨hu,.inl ⟨D,_,rfl,run_takeDeferred ?_,F3 Y4 hu ms (by exact ha) h1 h2 hr⟩⟩;exact(hx.marks (D,Gj) (by simp)).at_
def eR(G:Cx)(C:Af)(mu:Mu)(w:World)(N:Nat):Af:=λb o=>C b o\/(b<w.heap.size/\G.fresh b/\∀l g,mu.below N l=some g->g.Az≠some b)
theorem P8(N:Nat):Ext C (eR G C mu w N) w w:=⟨λ_ _ h=>.inl h,λ_ _ _=>rfl⟩
theorem Rq(h:AJ G C mu E H a w)(N:Nat):∀(n:Nat){x:AV}{u:Value},Aj C w x mu u->∀{R:AV->Prop},EO N H n x R->
  ∃r,R r/\Aj (eR G C mu w N) w r (mu.below N) u
 |0,x,u,hx,R,hk=>by
  unfold EO at hk;split at hk;·rename_i hc;rw[AV.AS]at hk;exact⟨_,hk,Aj.mono (P8 N) _ (AU.none _) (Ci _ hc hx)⟩
  exact hk.elim
 |n+1,x,u,hx,R,hk=>by
  have ih:∀{x:AV}{u:Value},Aj C w x mu u->∀{R:AV->Prop},EO N H n x R->∃r,R r/\Aj (eR G C mu w N) w r (mu.below N) u:=λhx _ hk=>Rq h N n hx hk;have gO:∀{l},P1 l N=true->l<N:=λhb=>M3 hb;have Zhr:∀{l},P1 l N=false->¬l<N:=λ{l} hb AA=>by have:P1 l N=true:=Nat.ble_eq_true_of_le AA;rw[hb]at this;cases this
  have dL:∀{l g b},¬l<N->mu l=some g->g.Az=some b->∀o,eR G C mu w N b o:=λ{l g b} hl hm hb o=>
   .inr ⟨(h.heap.fresh l g b hm hb).2.1,(h.heap.fresh l g b hm hb).1,λl' g' CT dT=>hl (by obtain⟨k1,k2⟩:=CI CT;have:=h.heap.sep l g b l' g' hm hb k2 dT;omega)⟩
  unfold EO at hk;split at hk
  ·rename_i l sz lo m;split at hk;·rename_i hb;refine⟨_,hk,?_⟩;unfold Aj at*;obtain⟨x,h1,h2⟩:=hx;exact⟨x,by rw[DY (gO hb)];exact h1,h2⟩
   rename_i hb;replace hk:=Bf.1 hk;obtain⟨ob,BR,hk⟩:=hk;(cases ob<;>first|exact hk.elim|skip);rename_i e De es;simp only at hk;split at hk;·rename_i hc;simp only[Ap]at hc;obtain rfl:=As hc.1;obtain rfl:=As hc.2;obtain⟨⟨rfl,LS⟩,hk⟩:=hk;exact⟨_,hk,Aj.mono (Ext.refl _ _) _ (AU.none _) (Ml h.heap (P8 N) (λg b o hm hg=>dL (Zhr hb) hm hg o) BR LS hx)⟩
   exact hk.elim
  ·rename_i l sz i o;split at hk;·rename_i hb;refine⟨_,hk,?_⟩;unfold Aj at*;obtain⟨b,n,c,h1,h2⟩:=hx;exact⟨b,n,c,by rw[DY (gO hb)];exact h1,h2⟩
   exact hk.elim
  ·rename_i l o;split at hk;·rename_i hb;refine⟨_,hk,?_⟩;unfold Aj at*;obtain⟨b,h1,h2⟩:=hx;exact⟨b,by rw[DY (gO hb)];exact h1,h2⟩
   rename_i hb;replace hk:=Bf.1 hk;obtain⟨ob,BR,hk⟩:=hk;(cases ob<;>first|exact hk.elim|skip);rename_i cs;simp only at hk;unfold Aj at hx;obtain⟨b,hm,rfl⟩:=hx;obtain⟨b',cur,e,UN,hbb,hr,h1⟩:=h.heap.Dp l cs BR;rw[hm]at UN;simp only[A3.injEq,GO.D6.injEq]at UN;subst UN;obtain⟨rs,hk,Ic⟩:=FQ (λhx _ hk=>ih hx hk) hr hk;split at hk
   ·rename_i LS;rw[BC]at hk;have Ic:=BD rs LS Ic;refine⟨_,hk,?_⟩;unfold Aj;refine⟨b,o,rfl,(Dc _ _).2 λi hi=>?_⟩;have MJ:=(Bo _).1 Ic;(have gK:o+i<rs.length:=by simp at hi;omega);(have ZE:o+i<cur.toList.length:=by rw[MJ.1];exact gK);refine⟨cur.toList[o+i],h1 _ (Cc ZE),⟨dL (Zhr hb) hm rfl _,?_⟩,?_⟩;·rw[cell_of_row w b _ cur e _ hbb];simp at ZE⊢
    have:=MJ.2 (o+i) gK ZE;simp only[PU];exact this
   exact hk.elim
  unfold Aj at hx;obtain⟨vs,rfl,hx⟩:=hx;obtain⟨rs,hk,hr⟩:=FQ (λhx _ hk=>ih hx hk) hx hk;exact⟨_,hk,by unfold Aj;exact⟨vs,rfl,hr⟩⟩;unfold Aj at hx;obtain⟨vs,rfl,hx⟩:=hx;obtain⟨rs,hk,hr⟩:=FQ (λhx _ hk=>ih hx hk) hx hk;exact⟨_,hk,by unfold Aj;exact⟨vs,rfl,hr⟩⟩;unfold Aj at hx;obtain⟨vs,rfl,hx⟩:=hx;obtain⟨rs,hk,hr⟩:=FQ (λhx _ hk=>ih hx hk) hx hk;exact⟨_,hk,by unfold Aj;exact⟨vs,rfl,hr⟩⟩;unfold Aj at hx;obtain⟨vs,rfl,hx⟩:=hx;obtain⟨rs,hk,hr⟩:=FQ (λhx _ hk=>ih hx hk) hx hk;exact⟨_,hk,by unfold Aj;exact⟨vs,rfl,hr⟩⟩;unfold Aj at hx;obtain⟨y,rfl,hx⟩:=hx;obtain⟨r,hk,hr⟩:=ih hx hk;exact⟨_,hk,by unfold Aj;exact⟨y,rfl,hr⟩⟩
  ·rename_i l;split at hk;·rename_i hb;refine⟨_,hk,?_⟩;unfold Aj at*;obtain⟨b,h1,h2⟩:=hx;exact⟨b,by rw[DY (gO hb)];exact h1,h2⟩
   rename_i hb;replace hk:=Bf.1 hk;obtain⟨ob,BR,hk⟩:=hk;(cases ob<;>first|exact hk.elim|skip);rename_i ks vs;simp only at hk;obtain⟨b,es,clock,h1,h2,h3⟩:=h.heap.maps l ks vs BR;unfold Aj at hx;obtain⟨b',h4,h5⟩:=hx;rw[h1]at h4;simp only[A3.injEq,GO.D6.injEq]at h4;subst h4;refine⟨_,hk,?_⟩;unfold Aj;exact .inr ⟨b,es,clock,h5,dL (Zhr hb) h1 rfl 0,h2,(h3.2 _ _).1,(h3.2 _ _).2,h3.1⟩
  rename_i q1 q2 q3 q4 q4b q5 q6 q7 q8;rw[AV.AS]at hk;refine⟨_,hk,?_⟩
  have LS:closed x=true:=by
   cases x with
   |own l sz lo m=>exact absurd rfl (q1 l sz lo m)
   |el l sz i o=>exact absurd rfl (q2 l sz i o)
   |ptr l o=>exact absurd rfl (q3 l o)
   |fn f cap=>exact absurd rfl (q4 f cap)
   |mv f cap=>exact absurd rfl (q4b f cap)
   |agg cs=>exact absurd rfl (q5 cs)
   |tuple cs=>exact absurd rfl (q6 cs)
   |iface t x=>exact absurd rfl (q7 t x)
   |om l=>exact absurd rfl (q8 l)
   |_=>rfl
  exact Aj.mono (P8 N) _ (AU.none _) (Ci _ LS hx)
theorem PY(h:AJ G C mu E H a w)(N:Nat):∀(r0 r:List HO){k:Nat},(∀i,r[i]?=H[k+i]?)->k+r0.length<=N->∀{R:List HO->Prop},EB N H r0 r R->
  ∃H1,R H1/\H1.length=r0.length/\DC H1=true/\(∀l:Nat,r0[l]?=some HO.dead->H1[l]?=some HO.dead)/\(∀l:Nat,H1[l]?=some HO.dead->mu (k+l)=none)/\
   (∀(l:Nat) cs,H1[l]?=some (.cells cs)->∃b cur e,mu (k+l)=some (.D6 b)/\w.heap[b]?=some (.cells cur e (0,0))/\Ac (eR G C mu w N) w cs (mu.below N) cur.toList/\∀v∈cur.toList,v.oneCell'=true)/\
   (∀(l:Nat) e sz es,H1[l]?=some (.arr e sz es)->(∀a∈es,closed a=true)/\H[k+l]?=some (.arr e sz es))/\(∀(l:Nat) ks vs,H1[l]?=some (.map ks vs)->H[k+l]?=some (.map ks vs))
 |[],r,k,hr,hkN,R,hk=>by unfold EB at hk;exact⟨[],hk,rfl,rfl,λl h=>by simp at h,λl h=>by simp at h,λl cs h=>by simp at h,λl e sz es h=>by simp at h,λl ks vs h=>by simp at h⟩
 |o0::r0,r,k,hr,hkN,R,hk=>by
  have h0:=hr 0;have step:∀(o:HO)(r':List HO),r=o::r'->∀i,r'[i]?=H[k+1+i]?:=λo r' e i=>by have:=hr (i+1);rw[e]at this;simp only[List.getElem?_cons_succ]at this;rw[this];congr 1;omega
  have dd:∀{r':List HO},r=.dead::r'->EB N H r0 r' (λr=>R (.dead::r))->∃H1,R H1/\H1.length=(o0::r0).length/\DC H1=true/\(∀l:Nat,(o0::r0)[l]?=some HO.dead->H1[l]?=some HO.dead)/\(∀l:Nat,H1[l]?=some HO.dead->mu (k+l)=none)/\
   (∀(l:Nat) cs,H1[l]?=some (.cells cs)->∃b cur e,mu (k+l)=some (.D6 b)/\w.heap[b]?=some (.cells cur e (0,0))/\Ac (eR G C mu w N) w cs (mu.below N) cur.toList/\∀v∈cur.toList,v.oneCell'=true)/\
   (∀(l:Nat) e sz es,H1[l]?=some (.arr e sz es)->(∀a∈es,closed a=true)/\H[k+l]?=some (.arr e sz es))/\(∀(l:Nat) ks vs,H1[l]?=some (.map ks vs)->H[k+l]?=some (.map ks vs)):=λ{r'} e hk=>by
   obtain⟨H1,q1,q2,q3,q4,q5,q6,q7,q8⟩:=PY h N r0 r' (k:=k+1) (step _ _ e) (by simp at hkN;omega) hk;refine⟨.dead::H1,q1,by simp[q2],by simpa[DC]using q3,λl hl=>?_,λl hl=>?_,λl cs hl=>?_,λl e' sz es hl=>?_,λl ks vs hl=>?_⟩
   ·cases l with
    |zero=>rfl
    |succ l=>simpa using q4 l (by simpa using hl)
   ·cases l with
    |zero=>exact h.heap.dead k (by rw[<-M4 k,<-h0,e];rfl)
    |succ l=>rw[show k+(l+1)=k+1+l by omega];exact q5 l (by simpa using hl)
   ·cases l with
    |zero=>simp at hl
    |succ l=>rw[show k+(l+1)=k+1+l by omega];exact q6 l cs (by simpa using hl)
   ·cases l with
    |zero=>simp at hl
    |succ l=>rw[show k+(l+1)=k+1+l by omega];exact q7 l e' sz es (by simpa using hl)
   cases l with
   |zero=>simp at hl
   |succ l=>rw[show k+(l+1)=k+1+l by omega];exact q8 l ks vs (by simpa using hl)
  have nd:∀{o1:HO}{H1:List HO},o0≠.dead->H1.length=r0.length->DC (o1::H1)=true->o1≠.dead->(∀l:Nat,r0[l]?=some HO.dead->H1[l]?=some HO.dead)->(∀l:Nat,H1[l]?=some HO.dead->mu (k+1+l)=none)->
    (o1::H1).length=(o0::r0).length/\DC (o1::H1)=true/\(∀l:Nat,(o0::r0)[l]?=some HO.dead->(o1::H1)[l]?=some HO.dead)/\(∀l:Nat,(o1::H1)[l]?=some HO.dead->mu (k+l)=none):=λ{o1 H1} BK q2 q3 Znd q4 q5=>by
   refine⟨by simp[q2],q3,λl hl=>?_,λl hl=>?_⟩
   ·cases l with
    |zero=>simp at hl;exact absurd hl BK
    |succ l=>simpa using q4 l (by simpa using hl)
   cases l with
   |zero=>simp at hl;exact absurd hl Znd
   |succ l=>rw[show k+(l+1)=k+1+l by omega];exact q5 l (by simpa using hl)
  have core:∀(BK:o0≠.dead),(match r with
    |.dead::r=>EB N H r0 r λr=>R (.dead::r)
    |.cells cs::r=>GZ (EO N H 4) cs λcs=>EB N H r0 r λr=>R (.cells cs::r)
    |.arr e sz es::r=>(∀e∈es,closed e=true)/\EB N H r0 r λr=>R (.arr e sz es::r)
    |.map ks vs::r=>EB N H r0 r λr=>R (.map ks vs::r)
    |_=>False)->∃H1,R H1/\H1.length=(o0::r0).length/\DC H1=true/\(∀l:Nat,(o0::r0)[l]?=some HO.dead->H1[l]?=some HO.dead)/\(∀l:Nat,H1[l]?=some HO.dead->mu (k+l)=none)/\
   (∀(l:Nat) cs,H1[l]?=some (.cells cs)->∃b cur e,mu (k+l)=some (.D6 b)/\w.heap[b]?=some (.cells cur e (0,0))/\Ac (eR G C mu w N) w cs (mu.below N) cur.toList/\∀v∈cur.toList,v.oneCell'=true)/\
   (∀(l:Nat) e sz es,H1[l]?=some (.arr e sz es)->(∀a∈es,closed a=true)/\H[k+l]?=some (.arr e sz es))/\(∀(l:Nat) ks vs,H1[l]?=some (.map ks vs)->H[k+l]?=some (.map ks vs)):=λBK hk=>by
   cases r with
   |nil=>exact hk.elim
   |cons o r'=>
    cases o with
    |dead=>exact dd rfl hk
    |ghost _ _ _|inv _=>exact hk.elim
    |cells cs=>
     (have BR:H[k]?=some (.cells cs):=by rw[<-M4 k,<-h0];rfl);obtain⟨b,cur,e,m1,m2,m3,m4⟩:=h.heap.Dp k cs BR;obtain⟨rs,hk,Ic⟩:=FQ (C':=eR G C mu w N) (mu':=mu.below N) (λhx _ hk=>Rq h N 4 hx hk) m3 hk;obtain⟨H1,q1,q2,q3,q4,q5,q6,q7,q8⟩:=PY h N r0 r' (k:=k+1) (step _ _ rfl) (by simp at hkN;omega) hk;obtain⟨n1,n2,n3,n4⟩:=nd (o1:=.cells rs) BK q2 q3 (by simp) q4 q5;refine⟨.cells rs::H1,q1,n1,n2,n3,n4,λl cs' hl=>?_,λl e' sz es hl=>?_,λl ks vs hl=>?_⟩
     ·cases l with
      |zero=>
       simp only[C5,A3.injEq,HO.cells.injEq]at hl;subst hl;exact⟨b,cur,e,m1,m2,Ic,m4⟩
      |succ l=>rw[show k+(l+1)=k+1+l by omega];exact q6 l cs' (by simpa using hl)
     ·cases l with
      |zero=>simp at hl
      |succ l=>rw[show k+(l+1)=k+1+l by omega];exact q7 l e' sz es (by simpa using hl)
     cases l with
     |zero=>simp at hl
     |succ l=>rw[show k+(l+1)=k+1+l by omega];exact q8 l ks vs (by simpa using hl)
    |map ks vs=>
     (have BR:H[k]?=some (.map ks vs):=by rw[<-M4 k,<-h0];rfl);obtain⟨H1,q1,q2,q3,q4,q5,q6,q7,q8⟩:=PY h N r0 r' (k:=k+1) (step _ _ rfl) (by simp at hkN;omega) hk;obtain⟨n1,n2,n3,n4⟩:=nd (o1:=.map ks vs) BK q2 q3 (by simp) q4 q5;refine⟨.map ks vs::H1,q1,n1,n2,n3,n4,λl cs' hl=>?_,λl e' sz es hl=>?_,λl ks' CJ hl=>?_⟩
     ·cases l with
      |zero=>simp at hl
      |succ l=>rw[show k+(l+1)=k+1+l by omega];exact q6 l cs' (by simpa using hl)
     ·cases l with
      |zero=>simp at hl
      |succ l=>rw[show k+(l+1)=k+1+l by omega];exact q7 l e' sz es (by simpa using hl)
     cases l with
     |zero=>
      simp only[C5,A3.injEq,HO.map.injEq]at hl;obtain⟨rfl,rfl⟩:=hl;exact BR
     |succ l=>rw[show k+(l+1)=k+1+l by omega];exact q8 l ks' CJ (by simpa using hl)
    |arr e sz es=>
     (have BR:H[k]?=some (.arr e sz es):=by rw[<-M4 k,<-h0];rfl);obtain⟨hc,hk⟩:=hk;obtain⟨H1,q1,q2,q3,q4,q5,q6,q7,q8⟩:=PY h N r0 r' (k:=k+1) (step _ _ rfl) (by simp at hkN;omega) hk;obtain⟨n1,n2,n3,n4⟩:=nd (o1:=.arr e sz es) BK q2 q3 (by simp) q4 q5;refine⟨.arr e sz es::H1,q1,n1,n2,n3,n4,λl cs' hl=>?_,λl e' De es' hl=>?_,λl ks vs hl=>?_⟩
     ·cases l with
      |zero=>simp at hl
      |succ l=>rw[show k+(l+1)=k+1+l by omega];exact q6 l cs' (by simpa using hl)
     ·cases l with
      |zero=>
       simp only[C5,A3.injEq,HO.arr.injEq]at hl;obtain⟨rfl,rfl,rfl⟩:=hl;exact⟨hc,BR⟩
      |succ l=>rw[show k+(l+1)=k+1+l by omega];exact q7 l e' De es' (by simpa using hl)
     cases l with
     |zero=>simp at hl
     |succ l=>rw[show k+(l+1)=k+1+l by omega];exact q8 l ks vs (by simpa using hl)
  cases o0 with
  |dead=>
   cases r with
   |nil=>unfold EB at hk;exact hk.elim
   |cons o r'=>
    cases o with
    |dead=>unfold EB at hk;exact dd rfl hk
    |_=>unfold EB at hk;exact hk.elim
  |_=>
   refine core (by simp) ?_;cases r with
   |nil=>unfold EB at hk;exact hk.elim
   |cons o r'=>
    cases o with
    |_=>unfold EB at hk;exact hk
theorem Wh{fr:Nat->Prop}(hr:DC H=true):B2 C w fr mu H []:=by
 refine⟨λl cs vs ms h=>?_,λl I h=>?_,λD h=>(by cases h),Kp,λl l' cs vs ms cs' CJ DL h=>?_⟩;·rcases Ir hr h with k|k<;>cases k
 ·rcases Ir hr h with k|k<;>cases k
 rcases Ir hr h with k|k<;>cases k
theorem Zkx{C0:Af}{mu0:Mu}{w0:World}{gk:_}(hh:B0 C0 w0 (λ_=>True) mu0 H0)
  (h:AJ {P:=P,lL:=gk,C0:=C0,M0:=λb=>∃l g,mu0 l=some g/\g.Az=some b,W0:=w0,Dv:=λl b=>mu0 l=some (.D6 b),np:=H0.length} C mu E H a w)
  {x:AV} {v:Value} (hx:Aj C w x mu v)  {n:Nat} (hk:EO H0.length H n x λx=>EB H0.length H H0 H λH1=>R x H1):
  ∃r H1 C',R r H1/\Su C0 mu0 w0 C' (mu.below H0.length) w/\B0 C' w (λ_=>True) (mu.below H0.length) H1/\Aj C' w r (mu.below H0.length) v/\H1.length=H0.length/\DC H1=true/\∀l:Nat,H0[l]?=some HO.dead->H1[l]?=some HO.dead:=by
 obtain⟨r,hk,hr⟩:=Rq h H0.length n hx hk;obtain⟨H1,hR,q2,q3,q4,q5,q6,q7,q8⟩:=PY h H0.length H0 H (k:=0) (λi=>by simp) (by simp) hk;simp only[Nat.zero_add]at q5 q6 q7 q8;have AA:∀{l:Nat}{ob:HO},H1[l]?=some ob->l<H0.length:=λhl=>by rw[<-q2];exact(A1.1 hl).1
 refine⟨r,H1,_,hR,⟨⟨h.Ax.os,h.Ax.tape,h.Ax.output,h.Ax.size,λb hb=>h.Ax.block b hb.1 λ⟨l,g,k1,k2⟩=>hb.2 l g k1 k2⟩,λb o hc=>.inl (h.c0 b o hc),λb o hc=>?_,λl b hl=>?_,λl g b hl hg=>?_⟩,
  ⟨λl g hl=>by rw[q2];exact(CI hl).1,λl g b hl hg=>⟨trivial,?_,λo hc=>?_⟩,λl g b l' g' hl hg CT R8=>h.heap.sep l g b l' g' (CI hl).2 hg (CI CT).2 R8,λl hl=>?_,λl cs hl=>?_,λl e sz es hl=>?_,λl ks vs hl=>?_⟩,hr,q2,q3,q4⟩
 ·rcases hc with hc|⟨k1,k2,k3⟩;·refine⟨h.lt b o hc,?_⟩;rcases h.c1 b o hc with k|k|k;exact .inl k;exact .inr (.inl k);exact .inr (.inr k)
  refine⟨k1,.inr ?_⟩;exact k2
 rw[DY (hh.JX l _ hl)];exact h.Dv.2 l b (hh.JX l _ hl) hl;obtain⟨k1,k2⟩:=CI hl;rcases (h.heap.fresh l g b k2 hg).1 with k|k;exact .inr k;exact .inl k;exact(h.heap.fresh l g b (CI hl).2 hg).2.1
 ·rcases hc with hc|⟨k1,k2,k3⟩;·exact(h.heap.fresh l g b (CI hl).2 hg).2.2 o hc
  exact k3 l g hl hg
 have:=q5 l hl;unfold Mu.below;split;exact this;rfl;obtain⟨b,cur,e,k1,k2⟩:=q6 l cs hl;exact⟨b,cur,e,by rw[DY (AA hl)];exact k1,k2⟩;obtain⟨k1,k2⟩:=q7 l e sz es hl;obtain⟨k3,k⟩:=h.heap.Dk l e sz es k2;refine⟨k3,?_⟩;rw[DY (AA hl)];exact k.imp id λ⟨b,cap,cur,m1,m2,m3,m4,m5,m6,m7⟩=>⟨b,cap,cur,m1,m2,m3,m4,m5,Ac.mono (P8 _) _ (AU.none _) (BD _ (GR k1) m6),m7⟩;have k1:=q8 l ks vs hl;obtain⟨b,es,cl,m1,m2,m3⟩:=h.heap.maps l ks vs k1;exact⟨b,es,cl,by rw[DY (AA hl)];exact m1,m2,m3⟩
theorem vU{C0:Af}{mu0:Mu}{w0:World}{gk:_}(hh:B0 C0 w0 (λ_=>True) mu0 H0)
  (h:AJ {P:=P,lL:=gk,C0:=C0,M0:=λb=>∃l g,mu0 l=some g/\g.Az=some b,W0:=w0,Dv:=λl b=>mu0 l=some (.D6 b),np:=H0.length} C mu E H a w)
  {x:AV} {v:Value} (hx:Aj C w x mu v)  {n:Nat} (hk:EO H0.length H n x λx=>EB H0.length H H0 H λH1=>R x H1):
  ∃r H1 C' mu',R r H1/\Su C0 mu0 w0 C' mu' w/\B0 C' w (λ_=>True) mu' H1/\Aj C' w r mu' v/\H1.length=H0.length/\DC H1=true/\∀l:Nat,H0[l]?=some HO.dead->H1[l]?=some HO.dead:=by
 obtain⟨r,H1,C',q⟩:=Zkx hh h hx hk;exact⟨r,H1,C',_,q⟩
theorem Bq.Ak{f:FuncId}{fn:Func}{c:Code}{args:List AV}{X:AV->List HO->Prop}(hf:P.funcs[f]?=some fn)(hb:fn.body=some c)(hT:CY P T)(hg:Cp P f=true)(Of:DC H0=true)
  (h:EN fn.ntmps args λE=>Aa P c E H0 (pO T fn.results.toList H0 R) (λe E H=>match e with|.ret=>pO T fn.results.toList H0 R E H|.panic x=>Zj2 H0 X x H|_=>False)):Bq P f args H0 R X:=by
 refine⟨hg,λC mu w vs AA hh hr=>(callsIn_wide (n:=0)).1 (DE (F:=Fence.wide) (n:=0) hf hb trivial ?_ rfl)⟩;unfold EN at h;rw[Ev,Dl]at h;let G:Cx:={P:=P,lL:=⟨AA,λb o hc ⟨l,g,hl,hg⟩=>(hh.fresh l g b hl hg).2.2 o hc⟩,C0:=C,M0:=λb=>∃l g,mu l=some g/\g.Az=some b,W0:=w,Dv:=λl b=>mu l=some (.D6 b),np:=H0.length}
 have Ai:St G (args++GL (fn.ntmps-args.length) (.raw undef)) H0 {tmps:=vs.toArray++Fw (fn.ntmps-vs.toArray.size) undef,defers:=[]} w:=by refine⟨C,mu,λ_ _ h=>h,λ_ _ h=>.inl h,AA.lt,⟨hh.JX,λl g b hl hg=>⟨.inr ⟨l,g,hl,hg⟩,(hh.fresh l g b hl hg).2⟩,hh.sep,hh.dead,hh.Dp,hh.Dk,hh.maps⟩,?_,⟨[],rfl,Wh Of⟩,⟨rfl,rfl,rfl,Hq _,λ_ _ _=>rfl⟩,Hq _,λ_ _ _ h=>h⟩;have hl:=AM _ hr;have:=Bj hr (CG (C:=C) (w:=w) (mu:=mu) (fn.ntmps-args.length));simpa[hl]using this
 have fin:∀E H a w',pO T fn.results.toList H0 R E H->St G E H a w'->LeavesInM (fw none) 0 P fn a.tmps (λe w'=>∃r v H1 C' mu',((e=.returned v/\R r H1)\/(e=.panicked [{v,recovered:=false}]/\X r H1))/\Su C mu w C' mu' w'/\
   B0 C' w' (λ_=>True) mu' H1/\Aj C' w' r mu' v/\H1.length=H0.length/\DC H1=true/\∀l:Nat,H0[l]?=some HO.dead->H1[l]?=some HO.dead) a.defers .returning w':=by
  rintro E H a w' hk ⟨C1,Qk,Ai⟩;obtain⟨ms,d1,d2⟩:=Ai.defers;rw[show a.defers=ms.map mark by simpa[G]using d1];refine F3 (G:=G) rfl (by simp) ms rfl Ai d2 λa' O6 ha JW=>?_;unfold pO at hk;obtain⟨xs,us,hk,hr,BQ⟩:=TF (G:=G) hT JW _ hk;have hm:(fn.results.mapM (iZ a'.tmps)).run P O6=.ok us.toArray O6:=by rw[L2];simp only[Sem.run_map,BQ,IW,G]
  have Ik:(results fn a.tmps).run P O6=.ok (if h:us.toArray.size=1 then us.toArray[0]else .tuple us.toArray) O6:=by rw[<-ha,FX,L0,hm];rfl
  unfold LeavesIn;split at hk;·rename_i x;unfold Ac at hr;obtain⟨u,Tf,rfl,hr,Ll⟩:=hr;unfold Ac at Ll;subst Ll;obtain⟨r,H1,C',mu',k1,k2⟩:=vU hh JW hr hk;exact⟨u,by rw[Ik];simp,r,u,H1,C',mu',.inl ⟨rfl,k1⟩,k2⟩
  rename_i BK
  have hl:us.length≠1:=λe=>by
   have:=AM _ hr;rw[e]at this;cases xs with
   |nil=>simp at this
   |cons x xs=>
    cases xs with
    |nil=>exact BK x rfl
    |cons _ _=>simp at this
  have hrt:Aj C1 O6 (.tuple xs) Qk (.tuple us.toArray):=by unfold Aj;exact⟨us,rfl,hr⟩
  obtain⟨r,H1,C',mu',k1,k2⟩:=vU hh JW hrt hk;exact⟨.tuple us.toArray,by rw[Ik];simp[hl],r,.tuple us.toArray,H1,C',mu',.inl ⟨rfl,k1⟩,k2⟩
 refine BX (h.out 0 G _ w rfl Ai) λe a w' q=>?_;cases e with
 |normal|ret=>obtain⟨E,H,h1,h2⟩:=q;exact fin E H a w' h1 h2
 |exit id=>obtain⟨E,H,h1,h2⟩:=q;exact h1.elim
 |goto l|outgrown=>exact q.elim
 |panic ch=>
  obtain⟨x,v,E,H,C1,Qk,rfl,hk,Ai,hx⟩:=q;obtain⟨ms,d1,d2⟩:=Ai.defers;show LeavesInM (fw none) 0 P fn a.tmps _ a.defers (.panicking [{v,recovered:=false}]) w';rw[show a.defers=ms.map mark by simpa[G]using d1];have Gr:AJ G C1 Qk [x] H {tmps:=#[v],defers:=a.defers} w':=Ai.frame (by unfold Ac;exact⟨v,[],rfl,hx,by unfold Ac;rfl⟩) rfl;refine F3 (G:=G) (tm2:=#[v]) rfl (by simp) ms (a:={tmps:=#[v],defers:=a.defers}) rfl Gr d2 λa' O6 ha JW=>?_;have Oe:Aj C1 O6 x Qk v:=by have:=JW.env;rw[ha]at this;unfold Ac at this;obtain⟨v',CJ,he,k,_⟩:=this;simp only[List.cons.injEq]at he;obtain⟨rfl,_⟩:=he;exact k
  obtain⟨r,H1,C',mu',k1,k2⟩:=vU hh JW Oe hk;exact⟨r,v,H1,C',mu',.inr ⟨rfl,k1⟩,k2⟩
def KJ:List HO->Nat->Bool
 |[],_=>false
 |.arr _ _ _::_,0=>true
 |_::_,0=>false
 |_::r,k+1=>KJ r k
mutual
def RN(H0:List HO):AV->AV
 |.own k sz lo n=>match KJ H0 k with|true=>.any|false=>.own k sz lo n
 |.el k sz i o=>match KJ H0 k with|true=>.any|false=>.el k sz i o
 |.fn f cap=>.fn f (JJ H0 cap)
 |.mv f cap=>.mv f (JJ H0 cap)
 |.iface t x=>.iface t (RN H0 x)
 |.agg cs=>.agg (JJ H0 cs)
 |.tuple vs=>.tuple (JJ H0 vs)
 |a=>a
def JJ(H0:List HO):List AV->List AV
 |[]=>[]
 |a::as=>RN H0 a::JJ H0 as
end
def Yl(H0:List HO):List AV->(List AV->Prop)->Prop
 |[],K=>K []
 |a::as,K=>(RN H0 a).force λb=>Yl H0 as λbs=>K (b::bs)
def GX(H0:List HO):HO->HO
 |.cells cs=>.cells (JJ H0 cs)
 |.ghost cs vs ms=>.ghost (JJ H0 cs) vs ms
 |o=>o
def oG(H0:List HO)(o:HO)(K:HO->Prop):Prop:=
 match o with
 |.cells cs=>Yl H0 cs λcs=>K (.cells cs)
 |.ghost cs vs ms=>Yl H0 cs λcs=>K (.ghost cs vs ms)
 |.arr e sz es=>K (.arr e sz es)
 |.dead=>K .dead
 |.inv I=>K (.inv I)
 |.map ks vs=>K (.map ks vs)
def Cg(F:List HO):List HO->List HO->List HO->(List HO->Prop)->Prop
 |[],_,[],K=>K []
 |[],_,h::hs,K=>oG F h λh=>Cg F [] [] hs λr=>K (h::r)
 |.dead::r0,_::r1,h::hs,K=>oG F h λh=>Cg F r0 r1 hs λr=>K (h::r)
 |_::r0,o1::r1,_::hs,K=>Cg F r0 r1 hs λr=>K (o1::r)
 |_,_,_,_=>False
def Eh(F:List HO):List HO->List HO->Prop->Prop
 |[],_,Q=>Q
 |.dead::r0,_::hs,Q=>Eh F r0 hs Q
 |.cells cs::r0,h::hs,Q=>h=.cells cs/\AR F cs=true/\Eh F r0 hs Q
 |.arr e sz es::r0,h::hs,Q=>h=.arr e sz es/\(∀e∈es,closed e=true)/\Eh F r0 hs Q
 |.map ks vs::r0,h::hs,Q=>h=.map ks vs/\Eh F r0 hs Q
 |_,_,_=>False
end
end Go.Av
namespace Go.Av
open Go.RowKit (Below)
variable {f:FuncId}{args cs:List AV}{K:KK}{c:Code}
section
variable {G:Cx}{C C':Af}{w w':World}{mu mu':Mu}{H H0:List HO}{E:List AV}{a:Act}{T:List TY}{P:Program}
def Mu.mix(mu mu':Mu)(H0:List HO):Mu:=λl=>if Bi H0 l=true then mu' l else mu l
theorem Hl{l:Nat}(h:Bi H0 l=true):mu.mix mu' H0 l=mu' l:=by simp[Mu.mix,h]
theorem Hk{l:Nat}(h:Bi H0 l=false):mu.mix mu' H0 l=mu l:=by simp[Mu.mix,h]
section
variable {mu2:Mu}(hx:Ext C C' w w')(hb:∀l b,mu l=some (.D6 b)->mu2 l=some (.D6 b))(ha:∀l x,KJ H0 l=false->mu l=some (.arr x)->mu2 l=some (.arr x))
include hx hb ha
mutual
theorem oF:∀(x:AV){v:Value},Aj C w x mu v->Aj C' w' (RN H0 x) mu2 v
 |.any,_,_=>by unfold RN Aj;trivial
 |.int _ _,_,h|.bool _,_,h|.lit _,_,h|.str _,_,h=>by unfold RN;unfold Aj at*;exact h
 |.sl _ _,_,h|.at_ _,_,h=>by unfold RN;exact Aj.mono hx _ (AU.none _) (Ci _ rfl h)
 |.raw _,_,h=>by unfold RN;unfold Aj at*;exact h
 |.mp _ _,_,h=>by unfold RN;exact Aj.mono hx _ (AU.none _) (Ci _ rfl h)
 |.om k,_,h=>by unfold RN;unfold Aj at*;obtain⟨b,h1,h2⟩:=h;exact⟨b,hb _ _ h1,h2⟩
 |.ptr k o,_,h=>by unfold RN;unfold Aj at*;obtain⟨b,h1,h2⟩:=h;exact⟨b,hb _ _ h1,h2⟩
 |.el k sz i o,_,h=>by unfold RN;split;unfold Aj;trivial;rename_i hk;unfold Aj at*;obtain⟨b,n,c,h1,h2⟩:=h;exact⟨b,n,c,ha _ _ hk h1,h2⟩
 |.own k sz lo n,_,h=>by unfold RN;split;unfold Aj;trivial;rename_i hk;unfold Aj at*;obtain⟨x,h1,h2⟩:=h;exact⟨x,ha _ _ hk h1,h2⟩
 |.fn f cap,_,h=>by unfold RN;unfold Aj at*;obtain⟨vs,h1,h2⟩:=h;exact⟨vs,h1,J4 cap h2⟩
 |.mv f cap,_,h=>by unfold RN;unfold Aj at*;obtain⟨vs,h1,h2⟩:=h;exact⟨vs,h1,J4 cap h2⟩
 |.iface t x,_,h=>by unfold RN;unfold Aj at*;obtain⟨y,h1,h2⟩:=h;exact⟨y,h1,oF x h2⟩
 |.agg cs,_,h=>by unfold RN;unfold Aj at*;obtain⟨vs,h1,h2⟩:=h;exact⟨vs,h1,J4 cs h2⟩
 |.tuple cs,_,h=>by unfold RN;unfold Aj at*;obtain⟨vs,h1,h2⟩:=h;exact⟨vs,h1,J4 cs h2⟩
theorem J4:∀(xs:List AV){vs:List Value},Ac C w xs mu vs->Ac C' w' (JJ H0 xs) mu2 vs
 |[],_,h=>by unfold JJ;unfold Ac at*;exact h
 |x::xs,_,h=>by unfold JJ;unfold Ac at*;obtain⟨v,CJ,h1,h2,h3⟩:=h;exact⟨v,CJ,h1,oF x h2,J4 xs h3⟩
end
end
theorem Bk:∀(as:List AV)(K:List AV->Prop),Yl H0 as K↔K (JJ H0 as)
 |[],_=>by simp[Yl,JJ]
 |a::as,K=>by simp[Yl,JJ,AV.AS,Bk as]
theorem J5(o:HO)(K:HO->Prop):oG H0 o K↔K (GX H0 o):=by
 cases o<;>simp[oG,GX,Bk]
theorem Gg{F:List HO}:∀{H0 H1 H:List HO}{K:List HO->Prop},DC H0=true->Cg F H0 H1 H K->∃H',K H'/\H'.length=H.length/\(∀i,Bi H0 i=true->H'[i]?=H1[i]?)/\∀i,Bi H0 i=false->H'[i]?=(H[i]?).map (GX F)
 |[],H1,[],K,_,h=>by unfold Cg at h;exact⟨[],h,rfl,λi hi=>by simp[Bi]at hi,λi _=>by simp⟩
 |[],H1,o::hs,K,hr,h=>by
  unfold Cg at h;rw[J5]at h;obtain⟨H',k1,k2,k3,k4⟩:=Gg (H0:=[]) rfl h;refine⟨_,k1,by simp[k2],λi hi=>by simp[Bi]at hi,λi _=>?_⟩;cases i with
  |zero=>simp
  |succ i=>simpa using k4 i rfl
 |.dead::r0,[],H,K,_,h=>by cases H<;>(unfold Cg at h;exact h.elim)
 |.dead::r0,_::_,[],K,_,h=>by unfold Cg at h;exact h.elim
 |.dead::r0,o1::r1,o::hs,K,hr,h=>by
  unfold Cg at h;rw[J5]at h;obtain⟨H',k1,k2,k3,k4⟩:=Gg (H0:=r0) (by simpa[DC]using hr) h;refine⟨_,k1,by simp[k2],λi hi=>?_,λi hi=>?_⟩
  ·cases i with
   |zero=>simp[Bi]at hi
   |succ i=>simpa using k3 i hi
  cases i with
  |zero=>simp
  |succ i=>simpa using k4 i hi
 |.cells cs::r0,[],H,K,_,h=>by cases H<;>(unfold Cg at h;exact h.elim)
 |.cells cs::r0,_::_,[],K,_,h=>by unfold Cg at h;exact h.elim
 |.cells cs::r0,o1::r1,o::hs,K,hr,h=>by
  exact Yaf
 |.arr e sz es::r0,[],H,K,_,h=>by cases H<;>(unfold Cg at h;exact h.elim)
 |.arr e sz es::r0,_::_,[],K,_,h=>by unfold Cg at h;exact h.elim
 |.arr e sz es::r0,o1::r1,o::hs,K,hr,h=>by
  exact Yaf
 |.ghost _ _ _::r0,H1,H,K,hr,h|.inv _::r0,H1,H,K,hr,h=>by cases hr
 |.map _ _::r0,[],H,K,_,h=>by cases H<;>(unfold Cg at h;exact h.elim)
 |.map _ _::r0,_::_,[],K,_,h=>by unfold Cg at h;exact h.elim
 |.map _ _::r0,o1::r1,o::hs,K,hr,h=>by
  exact Yaf
theorem GJ{F:List HO}:∀{H0 H:List HO}{Q:Prop},Eh F H0 H Q->DC H0=true/\H0.length<=H.length/\(∀(i:Nat) ob,H0[i]?=some ob->ob.real=true->H[i]?=some ob)/\
   (∀(i:Nat) cs,H0[i]?=some (.cells cs)->AR F cs=true)/\(∀(i:Nat) e sz es,H0[i]?=some (.arr e sz es)->∀a∈es,closed a=true)
 |[],H,Q,h=>⟨rfl,by simp,λi ob hi=>by simp at hi,λi cs hi=>by simp at hi,λi e sz es hi=>by simp at hi⟩
 |.dead::r0,[],Q,h=>by unfold Eh at h;exact h.elim
 |.dead::r0,o::hs,Q,h=>by
  unfold Eh at h;obtain⟨k1,k2,k3,k4,k5⟩:=GJ h;refine⟨by simpa[DC]using k1,by simpa using k2,λi ob hi ho=>?_,λi cs hi=>?_,λi e sz es hi=>?_⟩
  ·cases i with
   |zero=>simp at hi;subst hi;cases ho
   |succ i=>simpa using k3 i ob (by simpa using hi) ho
  ·cases i with
   |zero=>simp at hi
   |succ i=>exact k4 i cs (by simpa using hi)
  cases i with
  |zero=>simp at hi
  |succ i=>exact k5 i e sz es (by simpa using hi)
 |.cells cs::r0,[],Q,h=>by unfold Eh at h;exact h.elim
 |.cells FK::r0,o::hs,Q,h=>by
  unfold Eh at h;obtain⟨rfl,hw,h⟩:=h;obtain⟨k1,k2,k3,k4,k5⟩:=GJ h;refine⟨by simpa[DC]using k1,by simpa using k2,λi ob hi ho=>?_,λi cs hi=>?_,λi e sz es hi=>?_⟩
  ·cases i with
   |zero=>simpa using hi
   |succ i=>simpa using k3 i ob (by simpa using hi) ho
  ·cases i with
   |zero=>simp at hi;subst hi;exact hw
   |succ i=>exact k4 i cs (by simpa using hi)
  cases i with
  |zero=>simp at hi
  |succ i=>exact k5 i e sz es (by simpa using hi)
 |.arr e sz es::r0,[],Q,h=>by unfold Eh at h;exact h.elim
 |.arr e0 sz0 lX::r0,o::hs,Q,h=>by
  unfold Eh at h;obtain⟨rfl,hw,h⟩:=h;obtain⟨k1,k2,k3,k4,k5⟩:=GJ h;refine⟨by simpa[DC]using k1,by simpa using k2,λi ob hi ho=>?_,λi cs hi=>?_,λi e sz es hi=>?_⟩
  ·cases i with
   |zero=>simpa using hi
   |succ i=>simpa using k3 i ob (by simpa using hi) ho
  ·cases i with
   |zero=>simp at hi
   |succ i=>exact k4 i cs (by simpa using hi)
  cases i with
  |zero=>simp at hi;obtain⟨rfl,rfl,rfl⟩:=hi;exact hw
  |succ i=>exact k5 i e sz es (by simpa using hi)
 |.ghost _ _ _::r0,H,Q,h|.inv _::r0,H,Q,h=>by cases H<;>(unfold Eh at h;exact h.elim)
 |.map _ _::r0,[],Q,h=>by unfold Eh at h;exact h.elim
 |.map ks0 Tc::r0,o::hs,Q,h=>by
  unfold Eh at h;obtain⟨rfl,h⟩:=h;obtain⟨k1,k2,k3,k4,k5⟩:=GJ h;refine⟨by simpa[DC]using k1,by simpa using k2,λi ob hi ho=>?_,λi cs hi=>?_,λi e sz es hi=>?_⟩
  ·cases i with
   |zero=>simpa using hi
   |succ i=>simpa using k3 i ob (by simpa using hi) ho
  ·cases i with
   |zero=>simp at hi
   |succ i=>exact k4 i cs (by simpa using hi)
  cases i with
  |zero=>simp at hi
  |succ i=>exact k5 i e sz es (by simpa using hi)
theorem ZdW{HS H1 H':List HO}(Ai:AJ G C mu E H a w)(hh:Eh H0 H0 H True)(hp:Su C (mu.only H0) w C' mu' w')(lI:B0 C' w' (λ_=>True) mu' H1)(hlen:H1.length=H0.length)(R6:DC H1=true)(pX:∀l:Nat,H0[l]?=some HO.dead->H1[l]?=some HO.dead)
  (CT:H'.length=H.length) (h1:∀i,Bi H0 i=true->H'[i]?=H1[i]?) (h2:∀i,Bi H0 i=false->H'[i]?=(H[i]?).map (GX HS)) (ha:∀l x,KJ HS l=false->mu l=some (.arr x)->(mu.mix mu' H0) l=some (.arr x)):
  AJ G C' (mu.mix mu' H0) (JJ HS E) H' a w'/\AU mu' (mu.mix mu' H0):=by
 obtain⟨Q3,hle,UJ,hwi,LS⟩:=GJ hh;have hx:Ext C C' w w':=Ext.of_block (hp.sub) λb o hc=>hp.same.block b ⟨Ai.lt b o hc,λl g hl hg=>(Ai.heap.fresh l g b (CZ hl).2 hg).2.2 o hc⟩
 have Zg7:AU mu' (mu.mix mu' H0):=λl g hl=>by
  have AA:l<H0.length:=by rw[<-hlen];exact lI.JX l g hl
  cases hr:Bi H0 l with
  |true=>rw[Hl hr];exact hl
  |false=>
   exfalso;(have:H0[l]?=some HO.dead:=by have ho:H0[l]?=some H0[l]:=A9 AA;rcases Ir Q3 ho with k|k;rw[Cq.2 ⟨_,ho,k⟩]at hr;cases hr;rw[ho,k]);have:=lI.dead l (pX l this);rw[hl]at this;cases this
 have hb:∀l b,mu l=some (.D6 b)->(mu.mix mu' H0) l=some (.D6 b):=λl b hl=>by
  cases hr:Bi H0 l with
  |true=>rw[Hl hr];exact hp.Dv l b (by rw[Ig hr];exact hl)
  |false=>rw[Hk hr];exact hl
 have ZbC:=λ(xs:List AV) {vs:List Value} (h:Ac C w xs mu vs)=>J4 (H0:=HS) hx hb ha xs h
 -- blocks of zJ others
 have oth:∀{l g b},Bi H0 l=false->mu l=some g->g.Az=some b->w'.heap[b]?=w.heap[b]?/\∀o,¬C' b o:=λ{l g b} hr hl hg=>by
  obtain⟨k1,k2,k3⟩:=Ai.heap.fresh l g b hl hg;have G0:∀l' g',mu.only H0 l'=some g'->g'.Az≠some b:=λl' g' CT R8=>by obtain⟨m1,m2⟩:=CZ CT;have:=Ai.heap.sep l g b l' g' hl hg m2 R8;subst this;rw[hr]at m1;cases m1
  refine⟨hp.same.block b ⟨k2,G0⟩,λo hc=>?_⟩;rcases (hp.new b o hc).2 with k|k|⟨l',g',k,k'⟩;exact k3 o k;omega;exact G0 l' g' k k'
 have Ce:∀{l g b},(mu.mix mu' H0) l=some g->g.Az=some b->(∃l' g',mu l'=some g'/\g'.Az=some b)\/w.heap.size<=b:=λ{l g b} hl hg=>by
  cases hr:Bi H0 l with
  |true=>
   rw[Hl hr]at hl;rcases hp.ob l g b hl hg with⟨l',g',k,k'⟩|k;exact .inl ⟨l',g',(CZ k).2,k'⟩;exact .inr k
  |false=>rw[Hk hr]at hl;exact .inl ⟨l,g,hl,hg⟩
 have Zj9:∀{l g b},(mu.mix mu' H0) l=some g->g.Az=some b->b<w'.heap.size/\∀o,¬C' b o:=λ{l g b} hl hg=>by
  cases hr:Bi H0 l with
  |true=>rw[Hl hr]at hl;exact(lI.fresh l g b hl hg).2
  |false=>
   rw[Hk hr]at hl;exact⟨A4 (Ai.heap.fresh l g b hl hg).2.1 hp.same.size,(oth hr hl hg).2⟩
 have ZbM:∀{l g b l' g'},Bi H0 l=true->Bi H0 l'=false->mu' l=some g->g.Az=some b->mu l'=some g'->g'.Az=some b->False:=λ{l g b l' g'} hr Ll hl hg CT R8=>by rcases hp.ob l g b hl hg with⟨l2,g2,k,k'⟩|k;obtain⟨m1,m2⟩:=CZ k;have:=Ai.heap.sep l' g' b l2 g2 CT R8 m2 k';subst this;rw[Ll]at m1;cases m1;have:=(Ai.heap.fresh l' g' b CT R8).2.1;omega
 have hold:∀{i:Nat}{ob:HO},Bi H0 i=false->H'[i]?=some ob->∃o,H[i]?=some o/\ob=GX HS o:=λ{i ob} hr hi=>by
  rw[h2 i hr]at hi;cases ho:H[i]? with
  |none=>simp[ho]at hi
  |some o=>exact⟨o,rfl,by simpa[ho]using hi.symm⟩
 refine⟨⟨λb o hc=>hp.sub b o (Ai.c0 b o hc),λb o hc=>?_,λb o hc=>(hp.new b o hc).1,⟨λl g hl=>?_,λl g b hl hg=>?_,λl g b l' g' hl hg CT R8=>?_,λl hl=>?_,λl cs hl=>?_,λl e sz es hl=>?_,λl ks vs hl=>?_⟩,ZbC E Ai.env,?_,
  ⟨hp.same.os.trans Ai.Ax.os,hp.same.tape.trans Ai.Ax.tape,hp.same.output.trans Ai.Ax.output,Bc Ai.Ax.size hp.same.size,λk hk hn=>?_⟩,by rw[CT];exact Ai.Dv.1,λl b hn hl=>hb l b (Ai.Dv.2 l b hn hl)⟩,Zg7⟩
 ·rcases (hp.new b o hc).2 with k|k|⟨l,g,k,k'⟩;·exact Ai.c1 b o k
  exact .inr (.inl (Bc Ai.Ax.size k));exact .inr (Ai.heap.fresh l g b (CZ k).2 k').1
 ·rw[CT];cases hr:Bi H0 l with
  |true=>rw[Hl hr]at hl;have:=lI.JX l g hl;omega
  |false=>rw[Hk hr]at hl;exact Ai.heap.JX l g hl
 refine⟨?_,Zj9 hl hg⟩;rcases Ce hl hg with⟨l',g',k,k'⟩|k;exact(Ai.heap.fresh l' g' b k k').1;exact .inl (Bc Ai.Ax.size k)
 ·cases hr:Bi H0 l with
  |true=>
   rw[Hl hr]at hl;cases Ll:Bi H0 l' with
   |true=>rw[Hl Ll]at CT;exact lI.sep l g b l' g' hl hg CT R8
   |false=>rw[Hk Ll]at CT;exact(ZbM hr Ll hl hg CT R8).elim
  |false=>
   rw[Hk hr]at hl;cases Ll:Bi H0 l' with
   |true=>rw[Hl Ll]at CT;exact(ZbM Ll hr CT R8 hl hg).elim
   |false=>rw[Hk Ll]at CT;exact Ai.heap.sep l g b l' g' hl hg CT R8
 ·cases hr:Bi H0 l with
  |true=>rw[Hl hr];exact lI.dead l (by rw[<-h1 l hr];exact hl)
  |false=>
   rw[Hk hr];obtain⟨o,ho,he⟩:=hold hr hl;cases o with
   |dead=>exact Ai.heap.dead l ho
   |_=>simp[GX]at he
 ·cases hr:Bi H0 l with
  |true=>
   obtain⟨b,cur,e,k1,k2,k3,k4⟩:=lI.Dp l cs (by rw[<-h1 l hr];exact hl);exact⟨b,cur,e,by rw[Hl hr];exact k1,k2,Ac.mono (Ext.refl _ _) _ Zg7 k3,k4⟩
  |false=>
   obtain⟨o,ho,he⟩:=hold hr hl;cases o with
   |cells FK=>
    simp only[GX,HO.cells.injEq]at he;subst he;obtain⟨b,cur,e,k1,k2,k3,k4⟩:=Ai.heap.Dp l FK ho;exact⟨b,cur,e,by rw[Hk hr];exact k1,by rw[(oth hr k1 rfl).1];exact k2,ZbC _ k3,k4⟩
   |_=>simp[GX]at he
 ·have hbb:AU (Cf mu) (Cf (mu.mix mu' H0)):=Gc hb;have ZnL:AU (Cf mu') (Cf (mu.mix mu' H0)):=Gc λl b h=>Zg7 l _ h;cases hr:Bi H0 l with
  |true=>
   obtain⟨k0,k⟩:=lI.Dk l e sz es (by rw[<-h1 l hr];exact hl);refine⟨k0,?_⟩;rw[Hl hr];exact k.imp id λ⟨b,cap,cur,k1,k2,k3,k4,k5,k6,k7⟩=>⟨b,cap,cur,k1,k2,k3,k4,k5,Ac.mono (Ext.refl _ _) _ ZnL k6,k7⟩
  |false=>
   obtain⟨o,ho,he⟩:=hold hr hl;cases o with
   |arr e0 s0 lX=>
    simp only[GX,HO.arr.injEq]at he;obtain⟨rfl,rfl,rfl⟩:=he;obtain⟨k0,k⟩:=Ai.heap.Dk l _ _ _ ho;refine⟨k0,?_⟩;rw[Hk hr];exact k.imp id λ⟨b,cap,cur,k1,k2,k3,k4,k5,k6,k7⟩=>⟨b,cap,cur,k1,k2.of_eq (by rw[(oth hr k1 rfl).1]),k3,k4,k5,Ac.mono hx _ hbb k6,k7⟩
   |_=>simp[GX]at he
 ·cases hr:Bi H0 l with
  |true=>
   obtain⟨b,es,cl,k1,k2,k3⟩:=lI.maps l ks vs (by rw[<-h1 l hr];exact hl);exact⟨b,es,cl,by rw[Hl hr];exact k1,k2,k3⟩
  |false=>
   obtain⟨o,ho,he⟩:=hold hr hl;cases o with
   |map ks0 Tc=>
    simp only[GX,HO.map.injEq]at he;obtain⟨rfl,rfl⟩:=he;obtain⟨b,es,cl,k1,k2,k3⟩:=Ai.heap.maps l _ _ ho;exact⟨b,es,cl,by rw[Hk hr];exact k1,by rw[(oth hr k1 rfl).1];exact k2,k3⟩
   |_=>simp[GX]at he
 ·obtain⟨ms,d1,d2⟩:=Ai.defers
  have hgi:∀{i:Nat}{ob:HO},H'[i]?=some ob->ob.real=false->ob≠.dead->∃o,H[i]?=some o/\ob=GX HS o:=λ{i ob} hi dI O2=>by
   cases hr:Bi H0 i with
   |false=>exact hold hr hi
   |true=>
    rw[h1 i hr]at hi;rcases Ir R6 hi with k|k;rw[k]at dI;cases dI;exact absurd k O2
  refine⟨ms,d1,d2.step ⟨hp.same.os,hp.same.tape,hp.same.output,hp.same.size,λb hbb=>hp.same.block b ⟨hbb.1,λl g hl hg=>hbb.2 l g (CZ hl).2 hg⟩⟩ (λl g b hl hg=>Ce hl hg) (λb o hc=>?_) (λl cs vs ms hl=>?_) (λl I hl=>?_)⟩
  ·rcases (hp.new b o hc).2 with k|k|⟨l,g,k,k'⟩;·exact .inl k
   exact .inr (.inl k);exact .inr (.inr ⟨l,g,(CZ k).2,k'⟩)
  ·obtain⟨o,ho,he⟩:=hgi hl rfl (by simp);cases o with
   |ghost FK Tc ms0=>
    simp only[GX,HO.ghost.injEq]at he;obtain⟨rfl,rfl,rfl⟩:=he;exact⟨FK,ho,λh=>ZbC FK h⟩
   |_=>simp[GX]at he
  obtain⟨o,ho,he⟩:=hgi hl rfl (by simp);cases o with
  |inv I0=>simp only[GX,HO.inv.injEq]at he;subst he;exact ho
  |_=>simp[GX]at he
 rw[hp.same.block k ⟨A4 hk Ai.Ax.size,λl g hl hg=>?_⟩];exact Ai.Ax.block k hk hn;rcases (Ai.heap.fresh l g k (CZ hl).2 hg).1 with q|q;omega;exact hn q
theorem merged{H1 H':List HO}(Ai:AJ G C mu E H a w)(hh:Eh H0 H0 H True)(hp:Su C (mu.only H0) w C' mu' w')(lI:B0 C' w' (λ_=>True) mu' H1)(hlen:H1.length=H0.length)(R6:DC H1=true)(pX:∀l:Nat,H0[l]?=some HO.dead->H1[l]?=some HO.dead)
  (CT:H'.length=H.length) (h1:∀i,Bi H0 i=true->H'[i]?=H1[i]?) (h2:∀i,Bi H0 i=false->H'[i]?=(H[i]?).map (GX H0)):
  AJ G C' (mu.mix mu' H0) (JJ H0 E) H' a w'/\AU mu' (mu.mix mu' H0):=by
 obtain⟨Q3,hle,UJ,hwi,LS⟩:=GJ hh
 have ZnN:∀l x,KJ H0 l=false->mu l=some (.arr x)->Bi H0 l=false:=λl x hl hm=>by
  cases hr:Bi H0 l with
  |false=>rfl
  |true=>
   exfalso;obtain⟨ob,ho,dI⟩:=Cq.1 hr;cases ob with
   |cells cs=>
    obtain⟨b,cur,e,k1,_⟩:=Ai.heap.Dp l cs (UJ l _ ho rfl);rw[hm]at k1;cases k1
   |map ks vs=>
    obtain⟨b,es,cl,k1,_⟩:=Ai.heap.maps l ks vs (UJ l _ ho rfl);rw[hm]at k1;cases k1
   |arr e sz es=>
    have key:∀{H:List HO}{l:Nat},H[l]?=some (.arr e sz es)->KJ H l=true:=by
     intro H
     induction H with
     |nil=>intro l h;simp at h
     |cons o r ih=>
      intro l h;cases l with
      |zero=>simp at h;subst h;rfl
      |succ l=>
       have:=ih (l:=l) (by simpa using h);cases o<;>exact this
    rw[key ho]at hl;cases hl
   |_=>cases dI
 have ha:∀l x,KJ H0 l=false->mu l=some (.arr x)->(mu.mix mu' H0) l=some (.arr x):=λl x hl hm=>by rw[Hk (ZnN l x hl hm)];exact hm
 exact ZdW Ai hh hp lI hlen R6 pX CT h1 h2 ha
theorem TZ(Ai:AJ G C mu E H a w)(hh:Eh H0 H0 H True):B0 C w (λ_=>True) (mu.only H0) H0:=by
 obtain⟨Q3,hle,UJ,hwi,LS⟩:=GJ hh;refine⟨λl g hl=>?_,λl g b hl hg=>⟨trivial,(Ai.heap.fresh l g b (CZ hl).2 hg).2⟩,λl g b l' g' hl hg CT R8=>Ai.heap.sep l g b l' g' (CZ hl).2 hg (CZ CT).2 R8,λl hl=>?_,λl cs hl=>?_,λl e sz es hl=>?_,λl ks vs hl=>?_⟩;obtain⟨ob,ho,_⟩:=Cq.1 (CZ hl).1;exact(A1.1 ho).1
 ·cases hr:Bi H0 l with
  |false=>simp[Mu.only,hr]
  |true=>
   obtain⟨ob,ho,dI⟩:=Cq.1 hr;rw[hl]at ho;simp only[A3.injEq]at ho;subst ho;cases dI
 have hr:Bi H0 l=true:=Cq.2 ⟨_,hl,rfl⟩;obtain⟨b,cur,e,k1,k2,k3,k4⟩:=Ai.heap.Dp l cs (UJ l _ hl rfl);exact⟨b,cur,e,by rw[Ig hr];exact k1,k2,CM cs (hwi l cs hl) k3,k4⟩;have hr:Bi H0 l=true:=Cq.2 ⟨_,hl,rfl⟩;obtain⟨k0,k⟩:=Ai.heap.Dk l e sz es (UJ l _ hl rfl);refine⟨k0,?_⟩;rw[Ig hr];exact k.imp id λ⟨b,cap,cur,k1,k2,k3,k4,k5,k6,k7⟩=>⟨b,cap,cur,k1,k2,k3,k4,k5,Ac.mono (Ext.refl _ _) _ (AU.none _) (BD _ (GR (LS l e sz es hl)) k6),k7⟩;have hr:Bi H0 l=true:=Cq.2 ⟨_,hl,rfl⟩;obtain⟨b,es,cl,k1,k2,k3⟩:=Ai.heap.maps l ks vs (UJ l _ hl rfl);exact⟨b,es,cl,by rw[Ig hr];exact k1,k2,k3⟩
theorem Ah.Fv{R X':AV->List HO->Prop}{K:AV->KK}{X:XX}(h:Bq P f args H0 R X')(hw:AR H0 args=true)(hh:Eh H0 H0 H True)
  (hk:∀r H1,R r H1->Yl H0 E λE'=>Cg H0 H0 H1 H λH'=>K r E' H') (hx:∀r H1,X' r H1->Yl H0 E λE'=>Cg H0 H0 H1 H λH'=>X (.panic r) E' H'):Ah P f args E H K X:=by
 refine⟨h.D7,λG C mu a w vs hP Ai hr=>(h.out C (mu.only H0) w vs Ai.qR (TZ Ai hh) (CM args hw hr)).mono λe w' hp=>?_⟩;obtain⟨r,v,H1,C',mu',kU,Ks,vK,F4,hlen,Of,Xs⟩:=hp;have Q3:=(GJ hh).1;rcases kU with⟨rfl,hR⟩|⟨rfl,hR⟩;have hk:=hk r H1 hR;rw[Bk]at hk;obtain⟨H',k1,k2,k3,k4⟩:=Gg Q3 hk;obtain⟨m1,m2⟩:=merged Ai hh Ks vK hlen Of Xs k2 k3 k4;exact .inl ⟨r,v,_,_,C',_,rfl,k1,m1,Aj.mono (Ext.refl _ _) _ m2 F4⟩;have hk:=hx r H1 hR;rw[Bk]at hk;obtain⟨H',k1,k2,k3,k4⟩:=Gg Q3 hk;obtain⟨m1,m2⟩:=merged Ai hh Ks vK hlen Of Xs k2 k3 k4;exact .inr ⟨r,v,_,_,C',_,rfl,k1,m1,Aj.mono (Ext.refl _ _) _ m2 F4⟩
theorem Aa.freeze(l:Nat){X:XX}(h:wJ l E H λE H=>Aa P c E H K X):Aa P c E H K X:=by
 refine⟨λn G a w hP Ai=>?_⟩;obtain⟨C,mu,Ai⟩:=Ai;obtain⟨E',H',C',mu',hk,Dx⟩:=Ai.freeze h;exact hk.out n G a w hP ⟨C',mu',Dx⟩
theorem Ah.freeze(l:Nat){K:AV->KK}{X:XX}(h:wJ l (args++E) H λE' H'=>Ah P f (E'.take args.length) (E'.drop args.length) H' K X)(hg:Cp P f=true):Ah P f args E H K X:=by
 refine⟨hg,λG C mu a w vs hP Ai hr=>?_⟩;have Gr:AJ G C mu (args++E) H {tmps:=(vs++a.tmps.toList).toArray,defers:=a.defers} w:=Ai.frame (by simpa using Bj hr Ai.env) rfl;obtain⟨E',H',C',mu',hk,Dx⟩:=Gr.freeze h;have dQ:=Dx.env;have hl:vs.length=args.length:=AM _ hr;have h1:Ac C' w (E'.take args.length) mu' vs:=by have:=dQ.take args.length;simpa[<-hl]using this
 have h2:Ac C' w (E'.drop args.length) mu' a.tmps.toList:=by have:=dQ.drop args.length;simpa[<-hl]using this
 exact hk.out G C' mu' a w vs hP (Dx.frame h2 rfl) h1
theorem Aa.forget{E':List AV}{X:XX}(hl:rH E E')(h:Aa P c E' H K X):Aa P c E H K X:=
 ⟨λn G a w hP Ai=>h.out n G a w hP (Ai.le hl)⟩
theorem rF(H:List HO)(ob:HO):Al H H.length (H++[ob]) ob:=by
 refine⟨by simp,by simp,by simp,λi hi=>?_,.inl (by simp)⟩;rcases Rr i H.length with h|h;rw[A5 h];rw[Ib (by simp;omega),Ib h]
theorem Aa.Hj(t:Nat)(e:TypeId)(sz:Nat){X:XX}(he:E[t]?=some (.raw (.slice none 0 0)))(h:Aa P c (E.set t (.own H.length sz 0 0)) (H++[HO.arr e sz []]) K X):Aa P c E H K X:=by
 refine⟨λn G a w hP Ai=>?_⟩;obtain⟨C,mu,Ai⟩:=Ai;obtain⟨h1,h2⟩:=Ai.Hj (rF H (HO.arr e sz []));refine h.out n G a w hP ⟨C,_,h1.frame ?_ rfl⟩;obtain⟨v,hv,hr⟩:=JA h1.env he;unfold Aj at hr;subst hr;exact JI h1.env hv h2
theorem AJ.Eb(Ai:AJ G C mu E H a w)(l i:Nat)(e:TypeId)(sz:Nat)(hl:H[l]?=some (.cells cs))(he:cs[i]?=some (.raw (.slice none 0 0))):
  AJ G C (mu.set H.length (some (.arr (.slice none 0 0)))) E ((H++[HO.arr e sz []]).set l (HO.cells (cs.set i (.own H.length sz 0 0)))) a w/\AU mu (mu.set H.length (some (.arr (.slice none 0 0)))):=by
 obtain⟨h1,h2⟩:=Ai.Hj (rF H (HO.arr e sz []));have AA:l<H.length:=(A1.1 hl).1;have Qm:(H++[HO.arr e sz []])[l]?=some (.cells cs):=by rw[A5 AA];exact hl
 have UO:l<(H++[HO.arr e sz []]).length:=by simp;omega
 refine⟨⟨h1.c0,h1.c1,h1.lt,⟨λi g hi=>by simpa using h1.heap.JX i g hi,h1.heap.fresh,h1.heap.sep,λk hk=>?_,λk cs' hk=>?_,λk e' De es' hk=>?_,λk ks vs hk=>?_⟩,h1.env,?_,h1.Ax,by simpa using h1.Dv.1,h1.Dv.2⟩,Uj _ ?_⟩
 ·by_cases Jb:k=l;·subst Jb;rw[Be UO]at hk;cases hk
  rw[A0 (λe=>Jb e.symm)]at hk;exact h1.heap.dead k hk
 ·by_cases Jb:k=l;·subst Jb;rw[Be UO]at hk;simp only[A3.injEq,HO.cells.injEq]at hk;subst hk;obtain⟨b,cur,e',k1,k2,k3,k4⟩:=h1.heap.Dp k cs Qm;refine⟨b,cur,e',k1,k2,?_,k4⟩;obtain⟨v,hv,hr⟩:=JA k3 he;unfold Aj at hr;subst hr;exact JI k3 hv h2
  rw[A0 (λe=>Jb e.symm)]at hk;exact h1.heap.Dp k cs' hk
 ·by_cases Jb:k=l;·subst Jb;rw[Be UO]at hk;cases hk
  rw[A0 (λe=>Jb e.symm)]at hk;exact h1.heap.Dk k e' De es' hk
 ·by_cases Jb:k=l;·subst Jb;rw[Be UO]at hk;cases hk
  rw[A0 (λe=>Jb e.symm)]at hk;exact h1.heap.maps k ks vs hk
 ·obtain⟨ms,d1,d2⟩:=h1.defers;have hg:∀{k:Nat}{ob:HO},((H++[HO.arr e sz []]).set l (.cells (cs.set i (.own H.length sz 0 0))))[k]?=some ob->ob.real=false->(H++[HO.arr e sz []])[k]?=some ob:=λ{k ob} hk dI=>by by_cases Jb:k=l;subst Jb;rw[Be UO]at hk;simp only[A3.injEq]at hk;subst hk;cases dI;rwa [A0 (λe=>Jb e.symm)]at hk
  exact⟨ms,d1,⟨λk cs' vs gm hk=>d2.BG k cs' vs gm (hg hk rfl),λk I hk=>by obtain⟨h0,Sw,Sr,q1,q2,q3,q4⟩:=d2.Ho k I (hg hk rfl);exact⟨h0,Sw,Sr,q1,q2,q3,λk' cs' vs gm KR=>q4 k' cs' vs gm (hg KR rfl)⟩,d2.marks,d2.nd,λk k' cs' vs gm cs2 vs2 gm2 hk KR=>d2.sep k k' cs' vs gm cs2 vs2 gm2 (hg hk rfl) (hg KR rfl)⟩⟩
 cases hm:mu H.length with
 |none=>rfl
 |some g=>exact absurd (Ai.heap.JX _ _ hm) (Pg _)
theorem Aa.Eb(l i:Nat)(e:TypeId)(sz:Nat){X:XX}(hl:H[l]?=some (.cells cs))(he:cs[i]?=some (.raw (.slice none 0 0)))
  (h:Aa P c E ((H++[HO.arr e sz []]).set l (HO.cells (cs.set i (.own H.length sz 0 0)))) K X):Aa P c E H K X:=by
 refine⟨λn G a w hP Ai=>?_⟩;obtain⟨C,mu,Ai⟩:=Ai;exact h.out n G a w hP ⟨C,_,(Ai.Eb l i e sz hl he).1⟩
theorem Ah.Eb(l i:Nat)(e:TypeId)(sz:Nat){K:AV->KK}{X:XX}(hl:H[l]?=some (.cells cs))(he:cs[i]?=some (.raw (.slice none 0 0)))
  (h:Ah P f args E ((H++[HO.arr e sz []]).set l (HO.cells (cs.set i (.own H.length sz 0 0)))) K X):Ah P f args E H K X:=by
 refine⟨h.D7,λG C mu a w vs hP Ai hr=>?_⟩;obtain⟨h1,h2⟩:=Ai.Eb l i e sz hl he;exact h.out G C _ a w vs hP h1 (Ac.mono (Ext.refl _ _) _ h2 hr)
end
end Go.Av
namespace Go.Av
open Go.RowKit (Below)
variable {t:TypeId}{v:Value}{m:Nat}{x:AV}
section
variable {G:Cx}{C C':Af}{w w':World}{mu mu':Mu}{H R:List HO}{E:List AV}{a:Act}{T:List TY}{P:Program}
open Classical in
theorem Aa.Ar{b:Code}{ι:Type}(tm:ι->List AV)(hp:ι->List HO)(pre:ι->Prop)(μ:ι->Nat){K:KK}{X:XX}(ok:∀i,pre i->AR (hp i) (tm i)=true/\CR (hp i) (hp i) True)
  (h0:∃i,YM E (tm i) (H=hp i/\pre i))
  (len:∀i,(hp i).length=H.length)
  (step:∀i,pre i->Aa P b (tm i) (hp i) (λE' H'=>∃j,YM E' (tm j) (Kr H' (hp j) (pre j/\μ j<μ i))) X):Aa P (.loop b) E H K X:=by
 refine⟨λn G a w hP Ai=>?_⟩;obtain⟨i0,h0⟩:=h0;obtain⟨hle,hH,hp0⟩:=Ii _ _ _ h0;have UH:St G (tm i0) (hp i0) a w:=by rw[<-hH];exact Ai.le hle
 have hnp:G.np<=H.length:=by obtain⟨C,mu,h⟩:=Ai;exact h.Dv.1
 refine ZQ (λa w=>∃i,pre i/\St G (tm i) (hp i) a w) (λa w=>if h:∃n i,μ i=n/\pre i/\St G (tm i) (hp i) a w then Classical.choose (Fe _ h)else 0) ⟨i0,hp0,UH⟩ ?_;rintro a w ⟨i,hi,Ai⟩;have hex:∃n i,μ i=n/\pre i/\St G (tm i) (hp i) a w:=⟨_,i,rfl,hi,Ai⟩;obtain⟨⟨i',EW,Zm6,ZjU⟩,Zkd⟩:=Classical.choose_spec (Fe _ hex);refine BX ((step i' Zm6).out n G a w hP ZjU) λe a' w' hq=>?_;cases e with
 |normal=>
  obtain⟨E',H',⟨j,hj⟩,Dx⟩:=hq;obtain⟨Zg9,hj⟩:=Ii _ _ _ hj;obtain⟨⟨hpj,AA⟩,R,rfl⟩:=Kq hj;obtain⟨C,mu,Dx⟩:=Dx.le Zg9;have hd:St G (tm j) (hp j) a' w':=⟨C,_,Dx.drop (ok j hpj).1 (ok j hpj).2 (by rw[len];exact hnp)⟩;refine⟨⟨j,hpj,hd⟩,?_⟩;have Zky:∃n i,μ i=n/\pre i/\St G (tm i) (hp i) a' w':=⟨_,j,rfl,hpj,hd⟩;rw[dif_pos hex,dif_pos Zky];have h2:=(Classical.choose_spec (Fe _ Zky)).2 (μ j) ⟨j,rfl,hpj,hd⟩;omega
 |exit id|ret|panic c|goto l|outgrown=>exact hq
end
open Go.RowKit (Below ok_one shut_bool okWide_bool_mk)
open Go.ChangeShapes Go.WideShapes
def Zh6(P:Program)(t:TypeId)(x:AV):Prop:=(Br P t=true->∃c,x=.agg c)/\(Br P t=false->x.cells=[x])
def LO(P:Program):Nat->TypeId->List AV->Prop
 |0,_,_=>False
 |n+1,t,cs=>match P.underlying t with
  |some .bool=>∃b,cs=[.bool b]
  |some (.int k)=>∃i,cs=[.int k i]/\IU k i
  |some .string=>∃l,cs=[.str l]/\l.length<=reachBytes
  |some (.slice e)=>∃es:List AV,cs=[.sl (P.cellsOf e) es]/\es.length<=maxLen/\∀x∈es,LO P n e x.cells/\Zh6 P e x
  |some (.struct fs)=>∃parts:List (List AV),cs=parts.flatten/\parts.length=fs.size/\∀(i:Nat) f p,fs[i]?=some f->parts[i]?=some p->LO P n f.type p
  |_=>False
def Wf(P:Program)(m:Nat)(t:TypeId)(x:AV):Prop:=LO P m t x.cells/\Zh6 P t x
def Vv(P:Program)(m:Nat):List TypeId->List AV->Prop
 |[],[]=>True
 |t::ts,x::xs=>Wf P m t x/\Vv P m ts xs
 |_,_=>False
def Qb(P:Program):Nat->List Field->Nat->Bool
 |off,[],tot=>Bg off tot
 |off,f::r,tot=>Bg f.offset off&&Qb P (off+P.cellsOf f.type) r tot
def N5(P:Program):Nat->TypeId->Bool
 |0,_=>false
 |n+1,t=>match P.underlying t with
  |some .bool|some (.int _)|some .string=>true
  |some (.slice e)=>N5 P n e&&Nat.ble 1 (P.cellsOf e)
  |some (.struct fs)=>Qb P 0 fs.toList (P.cellsOf t)&&fs.toList.all (λf=>N5 P n f.type)
  |_=>false
section
variable {P:Program}{W:World}{H:Type}{enc:TypeId×Value->H}{base:Nat}{held:Bool}
def uB(P:Program)(e:TypeId)(c:List AV):AV:=if Br P e=true then .agg c else c.headD .any
theorem Ya{n:Nat}{c:List AV}(h:LO P n t c)(ha:Br P t=false):∃x,c=[x]/\x.cells=[x]:=by
 cases n with
 |zero=>exact h.elim
 |succ n=>
  unfold LO at h;unfold Br at ha;split at h<;>rename_i hu;obtain⟨b,rfl⟩:=h;exact⟨_,rfl,rfl⟩;obtain⟨b,rfl,_⟩:=h;exact⟨_,rfl,rfl⟩;obtain⟨b,rfl,_⟩:=h;exact⟨_,rfl,rfl⟩;obtain⟨b,rfl,_⟩:=h;exact⟨_,rfl,rfl⟩;rw[hu]at ha;cases ha;exact h.elim
theorem OD{n:Nat}{e:TypeId}{c:List AV}(h:LO P n e c):(uB P e c).cells=c:=by
 unfold uB;split;rfl;rename_i ha;obtain⟨x,rfl,hx⟩:=Ya h (by simpa using ha);exact hx
theorem WC{Q:Field->List AV->Prop}:∀(fs:List Field)(off tot:Nat)(vs:List Value),Qb P off fs tot=true->vs.length=tot->
  (∀(i:Nat) f,fs[i]?=some f->∃c,Q f c/\Ac (IA W) W c Mu.none ((vs.drop f.offset).take (P.cellsOf f.type))/\∀v∈(vs.drop f.offset).take (P.cellsOf f.type),v.oneCell'=true)->
  ∃parts:List (List AV),parts.length=fs.length/\(∀(i:Nat) f p,fs[i]?=some f->parts[i]?=some p->Q f p)/\Ac (IA W) W parts.flatten Mu.none (vs.drop off)/\∀v∈vs.drop off,v.oneCell'=true
 |[],off,tot,vs,hc,hl,h=>by unfold Qb at hc;have:=As hc;have hd:vs.drop off=[]:=List.drop_eq_nil_of_le (by omega);exact⟨[],rfl,λi f p hf=>by simp at hf,by rw[hd];simp[Ac],by rw[hd];simp⟩
 |f::r,off,tot,vs,hc,hl,h=>by
  unfold Qb at hc;simp only[Ap]at hc;have ho:=As hc.1;obtain⟨parts,k1,k2,k3,k4⟩:=WC r (off+P.cellsOf f.type) tot vs hc.2 hl (λi g hg=>h (i+1) g (by simpa using hg));obtain⟨c,q,hr,h1⟩:=h 0 f rfl;rw[ho]at hr h1;have hs:vs.drop off=(vs.drop off).take (P.cellsOf f.type)++vs.drop (off+P.cellsOf f.type):=by rw[<-List.drop_drop,List.take_append_drop]
  refine⟨c::parts,by simp[k1],λi g p hg hp=>?_,?_,?_⟩
  ·cases i with
   |zero=>simp at hg hp;subst hg;subst hp;exact q
   |succ i=>exact k2 i g p (by simpa using hg) (by simpa using hp)
  rw[hs,List.flatten_cons];exact Bj hr k3;intro v hv;rw[hs,Jg]at hv;rcases hv with hv|hv;exact h1 v hv;exact k4 v hv
theorem qV{a:Addr}(h:W.cell? a=some v):a.spot=none/\a.block<W.heap.size:=by
 unfold World.cell? at h;split at h;·rename_i c e f hb;refine⟨?_,(Am.1 hb).1⟩;split at h;cases h;rename_i hs;simpa using hs
 cases h
def Lgt(l:List Nat):Prop:=∀n∈l,n<=reachBytes
theorem Mc{e:TypeId}:∀{ds:List (DataW H)} {d:DataW H},d∈ds->∀n∈d.weights P e,n∈DataW.weightsAll P e ds
 |d::ds,x,h,n,hn=>by unfold DataW.weightsAll;rcases A6.1 h with rfl|h;exact CL _ hn;exact D0 _ (Mc h n hn)
theorem LF:∀{ts:List TypeId}{ds:List (DataW H)} {i:Nat} {t:TypeId} {d:DataW H},ts[i]?=some t->ds[i]?=some d->∀n∈d.weights P t,n∈DataW.weightsEach P ts ds
 |[],_,_,_,_,h,_,_,_|_::_,[],_,_,_,_,h,_,_=>by simp at h
 |t::ts,d::ds,0,_,_,h1,h2,n,hn=>by simp at h1 h2;subst h1;subst h2;unfold DataW.weightsEach;exact CL _ hn
 |t::ts,d::ds,i+1,_,_,h1,h2,n,hn=>by unfold DataW.weightsEach;exact D0 _ (LF (i:=i) (by simpa using h1) (by simpa using h2) n hn)
theorem gX:∀(m:Nat)(t:TypeId),N5 P m t=true->∀(fuel:Nat)(vs:List Value)(x:DataW H×List MemPlace),DataW.trod enc P W base (λ_=>true) held fuel t vs=some x->Lgt (x.1.weights P t)->
  ∃cs,LO P m t cs/\Ac (IA W) W cs Mu.none vs/\∀v∈vs,v.oneCell'=true
 |0,t,hs,_,_,_,_,_=>by cases hs
 |m+1,t,hs,fuel,vs,x,h,hwt=>by
  unfold N5 at hs;unfold LO;split at hs<;>rename_i hu;obtain⟨b,rfl,_⟩:=DataW.trod_bool hu h;exact⟨[.bool b],by first|exact⟨b,rfl⟩|(rw[hu];exact⟨b,rfl⟩),by simp[Ac,Aj],by simp[KO]⟩;·rename_i kk;obtain⟨b,rfl,_,hw⟩:=DataW.trod_int hu h;(have hk:IU kk b:=by unfold IU;simpa[Lit.wf]using hw);exact⟨[.int kk b],by first|exact⟨b,rfl,hk⟩|(rw[hu];exact⟨b,rfl,hk⟩),by simp[Ac,Aj,hk],by simp[KO]⟩
  obtain⟨s,rfl,rfl,hw⟩:=DataW.trod_string hu h;have hl:s.data.toList.length<=reachBytes:=hwt _ (by unfold DataW.weights;simp);refine⟨[.str s.data.toList],by first|exact⟨_,rfl,hl⟩|(rw[hu];exact⟨_,rfl,hl⟩),?_,by simp[KO]⟩;unfold Ac;refine⟨_,[],rfl,?_,by unfold Ac;rfl⟩;unfold Aj;refine⟨by simp,?_⟩;unfold reachBytes at hl;omega
  ·rename_i e;simp only[Ap]at hs;have DT:=M3 hs.2;rcases Deep.open_slice hu h with⟨rfl,_⟩|⟨a,len,cap,mm,n,D,Pl,rfl,hb,hl,hm,gH,kP,hel⟩;·refine⟨[.sl (P.cellsOf e) []],by first|exact⟨[],rfl,by simp,λx hx=>by simp at hx⟩|(rw[hu];exact⟨[],rfl,by simp,λx hx=>by simp at hx⟩),?_,by simp[KO]⟩;simp[Ac,Aj]
   simp only[if_true]at gH;rw[gH]at hel;clear gH;(have hx:∀i,i<len->∃c,LO P m e c/\∃cs',W.cells? base (a.add (i*P.cellsOf e)) (P.cellsOf e)=some cs'/\Ac (IA W) W c Mu.none cs'/\∀v∈cs',v.oneCell'=true:=λi hi=>by obtain⟨cs',h1,h2⟩:=hel i (by omega);obtain⟨c,k1,k2,k3⟩:=gX m e hs.1 _ _ _ h2 λn hn=>hwt n (by rw[kP];unfold DataW.weights;simp only[hu];refine A2 _ (CL _ (Mc (HB.2 ⟨i,NA.2 hi,rfl⟩) n hn)));exact⟨c,k1,cs',h1,k2,k3⟩);obtain⟨f,hf⟩:=Deep.choose_lt (α:=List AV) hx;(let es:List AV:=(PW len).map λi=>uB P e (f i));(have hlen:es.length=len:=by simp[es]);(have yB:∀x∈es,LO P m e x.cells/\Zh6 P e x:=λx hx=>by simp only[es,HB,NA]at hx;obtain⟨i,hi,rfl⟩:=hx;refine⟨by rw[OD (hf i hi).1];exact(hf i hi).1,λha=>⟨f i,by simp[uB,ha]⟩,λha=>?_⟩;obtain⟨y,hy,hy2⟩:=Ya (hf i hi).1 ha;simp only[uB,ha,hy];exact hy2);refine⟨[.sl (P.cellsOf e) es],by first|exact⟨es,rfl,by rw[hlen];omega,yB⟩|(rw[hu];exact⟨es,rfl,by rw[hlen];omega,yB⟩),?_,by simp[KO]⟩;unfold Ac;refine⟨_,[],rfl,?_,by unfold Ac;rfl⟩;unfold Aj;rcases Nat.eq_zero_or_pos cap with hc|hc;subst hc;(obtain rfl:len=0:=by omega);exact .inl ⟨⟨_,rfl⟩,by simp[es]⟩;obtain⟨FK,h0,_⟩:=hel 0 hc;obtain⟨_,hl0,h0⟩:=Q4 h0;have h00:=h0 0 (by omega);rw[A9 (by omega)]at h00;simp only[Nat.zero_mul]at h00;(have pJ:a.spot=none:=by have:=(qV h00).1;unfold Addr.add at this;simpa using this);obtain⟨b,o,sp⟩:=a;simp only at pJ;subst pJ;refine .inr ⟨b,o,cap,by rw[hlen],by rw[hlen];exact hl,by unfold maxLen at hm;omega,(FC es o).2 λi hi=>?_⟩;rw[hlen]at hi;obtain⟨hti,cs',h1,h2,h3⟩:=hf i hi;obtain⟨_,Qm,h1⟩:=Q4 h1;(have hei:es[i]'(by rw[hlen];exact hi)=uB P e (f i):=by simp[es]);rw[hei];have MJ:=(Bo _).1 h2;refine⟨by rw[OD hti,<-MJ.1];exact Qm,?_⟩;rw[OD hti];refine(Dc _ _).2 λj hj=>?_;(have hj2:j<cs'.length:=by omega);have hcj:=h1 j (by omega);rw[A9 hj2,add_lit,add_lit]at hcj;exact⟨cs'[j],h3 _ (Cc _),⟨(qV hcj).2,hcj⟩,MJ.2 j hj hj2⟩
  ·rename_i fs;simp only[Ap]at hs;obtain⟨xs,n,_,kP,hl,_,hf⟩:=DataW.trod_struct hu h
   obtain⟨parts,k1,k2,k3,k4⟩:=WC (P:=P) (W:=W) (Q:=λf c=>LO P m f.type c) fs.toList 0 _ vs hs.1 hl (λi f pW=>by
    (have hfa:fs[i]?=some f:=by simpa using pW);have hfx:=hf i f hfa;have AA:i<fs.size:=(Am.1 hfa).1;have hsf:N5 P m f.type=true:=Dy.1 hs.2 f (Np pW);obtain⟨xsl,_⟩:∃y,xs[i]?=some y:=⟨_,A9 (by omega)⟩;cases hxi:xs[i]? with
    |none=>rw[List.getElem?_eq_none_iff]at hxi;omega
    |some y=>
     rw[hxi]at hfx;obtain⟨c,q1,q2,q3⟩:=gX m f.type hsf n _ y hfx λk hk=>hwt k (by rw[kP];unfold DataW.weights;simp only[hu];exact LF (i:=i) (t:=f.type) (d:=y.1) (by simp[pW]) (by simp[hxi]) k hk);exact⟨c,q1,q2,q3⟩)
   refine⟨parts.flatten,by first|exact⟨parts,rfl,by simpa using k1,λi f p hf hp=>k2 i f p (by simpa using hf) hp⟩|(rw[hu];exact⟨parts,rfl,by simpa using k1,λi f p hf hp=>k2 i f p (by simpa using hf) hp⟩),by simpa using k3,by simpa using k4⟩
  cases hs
theorem VS{r:Reach}(h:K2 P W r base t v)(ha:Br P t=false)(hs:∃m,N5 P m t=true):v.cells=#[v]:=by
 obtain⟨m,hs⟩:=hs;cases m with
 |zero=>cases hs
 |succ m=>
  unfold N5 at hs;unfold Br at ha;unfold K2 at h;split at hs<;>rename_i hu;·rw[hu]at h;simp only[Cell.okWide,Cell.ok,hu]at h;cases v<;>simp_all[Value.cells]
  ·exact Yaq
  ·exact Yaq
  ·exact Yaq
  rw[hu]at ha;cases ha;cases hs
theorem ZhW{r:Reach}{b0:Nat}{d:DataW H}{ps:List MemPlace}(hs:N5 P m t=true)(hv:K2 P W r b0 t v)(hd:DataW.Trod enc P W base (λ_=>true) held t v d ps)(hwt:Lgt (d.weights P t)):
  ∃x,Wf P m t x/\Aj (IA W) W x Mu.none v:=by
 obtain⟨fuel,hd⟩:=hd;obtain⟨cs,h1,h2,h3⟩:=gX m t hs fuel _ _ hd hwt;cases ha:Br P t with
 |false=>
  obtain⟨x,rfl,hx⟩:=Ya h1 ha;rw[VS hv ha ⟨m,hs⟩]at h2;refine⟨x,⟨by rw[hx];exact h1,⟨(λh=>by rw[ha]at h;cases h),λ_=>hx⟩⟩,?_⟩;simp only[Ac]at h2;obtain⟨u,us,he,hr,pI⟩:=h2;simp only[List.cons.injEq]at he;rw[he.1];exact hr
 |true=>
  refine⟨.agg cs,⟨h1,⟨λ_=>⟨cs,rfl⟩,(λh=>by rw[ha]at h;cases h)⟩⟩,?_⟩;unfold Aj
  have hva:∃c,v=.agg c:=by
   unfold K2 at hv;unfold Br at ha;split at hv;obtain⟨c,hc,_⟩:=hv;exact⟨c,hc⟩;obtain⟨c,hc,_⟩:=hv;exact⟨c,hc⟩;rename_i yF hn2;split at ha;·rename_i q hq;exact absurd hq (yF q)
   ·rename_i q1 q2 hq;exact absurd hq (hn2 q1 q2)
   cases ha
  obtain⟨c,rfl⟩:=hva;exact⟨c.toList,by simp,by simpa[Value.cells]using h2⟩
theorem rD{m:Nat}{r:Reach}{b0:Nat}:∀{ts:List TypeId}{vs:List Value}{ds:List (DataW H)} {ps:List MemPlace},ts.all (N5 P m)=true->(∀(j:Nat) t v,ts[j]?=some t->vs[j]?=some v->K2 P W r b0 t v)->
  DataW.TrodAll enc P W base (λ_=>true) held ts vs ds ps->Lgt (DataW.weightsEach P ts ds)->∃xs,Vv P m ts xs/\Ac (IA W) W xs Mu.none vs
 |[],[],ds,ps,_,_,_,_=>⟨[],trivial,by unfold Ac;rfl⟩
 |[],v::vs,ds,ps,_,_,h,_|t::ts,[],ds,ps,_,_,h,_=>by cases ds<;>exact h.elim
 |t::ts,v::vs,[],ps,_,_,h,_=>h.elim
 |t::ts,v::vs,d::ds,ps,hs,hv,h,hwt=>by simp only[N4,Ap]at hs;obtain⟨p,q,h1,h2,rfl⟩:=h;unfold DataW.weightsEach at hwt;obtain⟨x,k1,k2⟩:=ZhW hs.1 (hv 0 t v rfl rfl) h1 λn hn=>hwt n (CL _ hn);obtain⟨xs,k3,k4⟩:=rD hs.2 (λj t v ht hv'=>hv (j+1) t v (by simpa using ht) (by simpa using hv')) h2 λn hn=>hwt n (D0 _ hn);exact⟨x::xs,⟨k1,k3⟩,by unfold Ac;exact⟨v,vs,rfl,k2,k4⟩⟩
theorem LG:∀{ts us:List TypeId}{ds es:List (DataW H)},ds.length=ts.length->∀n∈DataW.weightsEach P ts ds,n∈DataW.weightsEach P (ts++us) (ds++es)
 |[],_,_,_,_,n,hn=>by unfold DataW.weightsEach at hn;simp at hn
 |_::_,_,[],_,h,_,_=>by simp at h
 |t::ts,us,d::ds,es,h,n,hn=>by simp only[MM];unfold DataW.weightsEach at hn⊢;rcases Jg.1 hn with hn|hn;exact CL _ hn;exact D0 _ (LG (by simpa using h) n hn)
theorem RE:∀{ts:List TypeId}{vs:List Value}{ds:List (DataW H)} {ps:List MemPlace} {sp:Nat->Bool},DataW.TrodAll enc P W base sp held ts vs ds ps->ds.length=ts.length
 |[],[],[],_,_,_=>rfl
 |[],[],_::_,_,_,h=>h.elim
 |[],_::_,ds,_,_,h|_::_,[],ds,_,_,h=>by cases ds<;>exact h.elim
 |_::_,_::_,[],_,_,h=>h.elim
 |t::ts,v::vs,d::ds,ps,sp,h=>by obtain⟨p,q,_,h2,_⟩:=h;simp[RE h2]
theorem XT{W':World}(hl:laidOutB P=true)(hb:Below W.heap.size W W'){sp:Nat->Bool}:∀{ts:List TypeId}{vs:List Value}{ds:List (DataW H)} {ps:List MemPlace},ts.all (λt=>P.readableRec t&&decide (t<P.types.size))=true->
  (∀x∈ps,x.block<W.heap.size)->(∀x∈ps,sp x.block=true)->DataW.TrodAll enc P W 0 (λ_=>true) true ts vs ds ps->DataW.TrodAll enc P W' 0 sp true ts vs ds ps
 |[],[],[],ps,_,_,_,h=>h
 |[],[],_::_,_,_,_,_,h=>h.elim
 |[],_::_,ds,_,_,_,_,h|_::_,[],ds,_,_,_,_,h=>by cases ds<;>exact h.elim
 |_::_,_::_,[],_,_,_,_,h=>h.elim
 |t::ts,v::vs,d::ds,ps,hs,AA,pJ,h=>by simp only[N4,Ap]at hs;obtain⟨p,q,h1,h2,rfl⟩:=h;refine⟨p,q,WideElems.Trod_stays hl hs.1.1 (of_decide_eq_true hs.1.2) h1 (λx hx=>hb.same (AA x (by simp[hx]))) (λx hx=>pJ x (by simp[hx])),?_,rfl⟩;exact XT hl hb hs.2 (λx hx=>AA x (by simp[hx])) (λx hx=>pJ x (by simp[hx])) h2
theorem uK{f:FuncId}{fn:Func}{s:ChangeSpec}{W:World}{b0:Nat}{args:Array Value}{ds gs:List (DataW H)}{before:List MemPlace}{ps:List TypeId}{tb:TypeId}{fresh handsOn again apart:Bool}
  (Zm2:fn.params=ps.toArray) (ZjT:ps.all (N5 P m)=true) (Zj0:ps.all (λt=>P.readableRec t&&decide (t<P.types.size))=true) (Zkl:laidOutB P=true)
  (Ik:fn.resultTypes=#[tb]) (ZfJ:P.underlying tb=some .bool) (hsv:s.vars=[])
  (dG:∀ds:List (DataW H),ds.length=ps.length->(s.fn H ds).results=[.lit (.bool true)]/\(s.fn H ds).args=ds/\(s.fn H ds).vars=[])
  (Znp:∀xs:List AV,Vv P m ps xs->Au P f xs (λr=>r=.bool true))
  (ZgT:∀(j:Nat) t v,fn.params[j]?=some t->args[j]?=some v->K2 P W .any b0 t v)
  (hgl:∀x∈MO,Cells (IA W) W x.2 x.1 0:=by intro x hx;cases hx)
  (hgs:∀x∈MO,x.2≠[]->∃cur e fz,W.heap[x.1]?=some (.cells cur e fz)/\cur.size=x.2.length:=by intro x hx;cases hx)
  (ZmS:(DataW.weightsEach P (fn.params.toList++s.plain.varTypes P) (ds++gs)).all (·<=reachBytes)=true)
  (hW:DataW.Whole enc P fn.params.toList s.vars apart W args.toList ds gs before):
  Calls P f args W λe W'=>∃v,e=.returned v/\s.post enc P fn apart fresh handsOn again W args v W':=by
 have hps:fn.params.toList=ps:=by rw[Zm2]
 have hW':=hW;obtain⟨p,q,hA,hV,hpq,Qn,O2⟩:=hW;rw[hps]at hA;have hlen:=RE hA;obtain⟨xs,hx,hr⟩:=rD (r:=.any) (b0:=b0) ZjT (λj t v ht hv=>ZgT j t v (by rw[<-hps]at ht;simpa using ht) (by simpa using hv)) hA λn hn=>by have h9:=Dy.1 ZmS n (by rw[hps];exact LG hlen n hn);simpa using h9
 rw[hsv]at hV;obtain⟨rfl,rfl⟩:=trodVars_none hV;obtain⟨s1,s2,s3⟩:=dG ds hlen;have hc:=(Znp xs hx).out (IA W) W args.toList ⟨λ_ _ h=>h,hgl,hgs⟩ hr;rw[Array.toArray_toList]at hc;refine hc.mono λe W' ⟨r,v,he,hrr,hb,F4⟩=>?_;subst hrr;obtain rfl:=BY F4;have AA:∀x∈before,x.block<W.heap.size:=λx hx=>hW'.lt x hx;have hold:∀x∈before,(λb=>decide (b<W.heap.size)) x.block=true:=λx hx=>by simpa using AA x hx
 subst hpq;have Xu:∀sp:Nat->Bool,(∀x∈p++[],sp x.block=true)->DataW.TrodAll enc P W' 0 sp true fn.params.toList args.toList (s.fn H (ds++[])).args p:=λsp pJ=>by rw[M5,s2,hps];exact XT Zkl hb Zj0 (λx hx=>AA x (by simpa using hx)) (λx hx=>pJ x (by simpa using hx)) hA
 have ZfA:∀(b:Nat)(sp:Nat->Bool)(hd:Bool),DataW.TrodAll enc P W' b sp hd fn.resultTypes.toList ((Value.bool true).resultList fn.resultTypes.size) (s.fn H (ds++[])).results []:=λb sp hd=>by rw[M5,s1,Ik];exact trodAll_mk1 (shut_bool ZfJ true)
 have Zfu:∀sp:Nat->Bool,DataW.TrodVars enc P W' sp s.vars (s.fn H (ds++[])).vars []:=λsp=>by rw[M5,s3,hsv];exact rfl
 refine⟨_,he,ds,[],p++[],[],p,[],hW',ZfA _ _ _,Xu _ hold,Zfu _,World.keptBut_mono (λx hx=>⟨hx,?_⟩) (hb.frame (·∈p++[])),λ_=>?_⟩;simpa using hx;refine⟨ok_one Ik rfl (okWide_bool_mk ZfJ true),_,_,([]++p)++[],⟨[]++p,[],trodAll_append (Xu _ (λ_ _=>rfl)) (ZfA _ _ _),Zfu _,rfl,?_,?_⟩,?_⟩
 ·intro b off hp;have yJ:MemPlace.cell b off∈p++[]:=by simpa using hp
  rw[hb.frozen (AA _ yJ)];exact Qn b off yJ
 intro ha;have:=O2 ha;simpa using this;intro x hx _;simpa using hx
theorem UD{d:TypeDesc}(hu:P.underlying t=some d)(hd:∀fs,d≠.struct fs)(dR:∀n e,d≠.array n e):Br P t=false:=by
 unfold Br;rw[hu];cases d<;>first|rfl|exact absurd rfl (hd _)|exact absurd rfl (dR _ _)
theorem zE(hu:P.underlying t=some .bool)(h:Wf P (m+1) t x):∃b,x=.bool b:=by
 obtain⟨h1,_,h2⟩:=h;rw[h2 (UD hu (λ_ h=>by cases h) (λ_ _ h=>by cases h))]at h1;unfold LO at h1;rw[hu]at h1;obtain⟨b,hb⟩:=h1;exact⟨b,by simpa using hb⟩
theorem X9{k:IntKind}(hu:P.underlying t=some (.int k))(h:Wf P (m+1) t x):∃n,x=.int k n/\IU k n:=by
 exact Yan
theorem Zdf(hu:P.underlying t=some .string)(h:Wf P (m+1) t x):∃l,x=.str l/\l.length<=reachBytes:=by
 exact Yan
theorem Fp{α:Type}{f:α->AV}{p:α->Prop}:∀{es:List AV},(∀y∈es,∃a,y=f a/\p a)->∃l:List α,es=l.map f/\∀a∈l,p a
 |[],_=>⟨[],rfl,λa h=>by cases h⟩
 |e::es,h=>by obtain⟨a,rfl,ha⟩:=h e (by simp);obtain⟨l,rfl,hl⟩:=Fp (es:=es) (λy hy=>h y (by simp[hy]));exact⟨a::l,rfl,λb hb=>by rcases A6.1 hb with rfl|hb;exact ha;exact hl b hb⟩
theorem Nf{ts:List TypeId}{xs:List AV}(h:Vv P m (t::ts) xs):∃x r,xs=x::r/\Wf P m t x/\Vv P m ts r:=by
 cases xs with
 |nil=>exact h.elim
 |cons x r=>exact⟨x,r,rfl,h.1,h.2⟩
theorem zD{xs:List AV}(h:Vv P m [] xs):xs=[]:=by
 cases xs with
 |nil=>rfl
 |cons x r=>exact h.elim
end
end Go.Av