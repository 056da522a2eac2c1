/-
  One step of a walk; the call of a function whose contract is known.
-/
import Derived.Test.YtmmhehdlnjojjaaGreatDoorKf2
import Derived.Test.YtmmhehdlnjojjaaGreatDoorKt2
namespace Go.Proofs.YtmmhehdlnjojjaaGreatDoor
open Go.Av
theorem sT{c:Code}{E:List AV}{H:List HO}{K:KK}{X:XX}(hb:zT c=true)(h:Zff Tryz.prog N0 E H K X c):Aa Tryz.prog c E H K X:=Aa.st Ab hb h
theorem mO:Tryz.prog.follows .mixedOrders=true:=by kernel_rfl
theorem cS{f:FuncId}{bs:List AV}{E:List AV}{H:List HO}{K:AV->KK}{X:XX}{v:AV}(h:Au Tryz.prog f bs (λr=>r=v))(hc:AI bs=true)(hk:K v E H):Ah Tryz.prog f bs E H K X:=Ah.BZ h hc λr hr=>by subst hr;exact hk
theorem qW{n:Int}(h:-9223372036854775808<=n/\n<=9223372036854775807:=by omega):Wr .i64 n=n:=LY n h.1 h.2
theorem qG{P Q:Prop}(h:Q)(e:(Unit->Q)->P:=by intro h;(conv=>whnf);(repeat(refine And.intro ?_ ?_;(focus (first|rfl|(simp;done)|exact ZI _ (by omega)|exact ZI _ (by simp only;omega)|exact e1|exact e2|exact congrArg _ e1|exact congrArg _ e2|(rw[LY _ (by omega) (by omega)];first|done|rfl|omega)|(rw[LY _ (by simp) (by simp)];first|done|rfl|(simp;done))|(show Wr .i64 _=_;rw[LY _ (by simp) (by simp)];simp;done)));conv=>whnf));exact h ()):P:=e λ_=>h
theorem qP{A B P:Prop}(h:A)(hk:B)(e:A->B->P:=by intro h hk;(conv=>whnf);(repeat(refine⟨⟨by first|(simp;done)|(simp[strs];done),Ad _ (λ_=>rfl) _⟩,?_⟩;(conv=>whnf)));first|exact⟨_,_,_,h,hk,rfl,rfl⟩|exact⟨_,_,_,_,h,hk,rfl,rfl⟩|exact⟨_,_,_,_,_,h,hk,rfl,rfl⟩):P:=e h hk
end Go.Proofs.YtmmhehdlnjojjaaGreatDoor
