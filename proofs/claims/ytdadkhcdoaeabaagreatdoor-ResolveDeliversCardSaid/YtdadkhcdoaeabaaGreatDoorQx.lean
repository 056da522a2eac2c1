/-
  One step of a walk; the call of a function whose contract is known.
-/
import Derived.Test.YtdadkhcdoaeabaaGreatDoorKf2
import Derived.Test.YtdadkhcdoaeabaaGreatDoorKt2
namespace Go.Proofs.YtdadkhcdoaeabaaGreatDoor
open Go.Av
theorem sT{c:Code}{E:List AV}{H:List HO}{K:KK}{X:XX}(hb:mT c=true)(h:xF Tryz.prog II E H K X c):Ac Tryz.prog c E H K X:=Ac.st Ae hb h
theorem mO:Tryz.prog.follows .mixedOrders=true:=by kernel_rfl
theorem cS{f:FuncId}{bs:List AV}{E:List AV}{H:List HO}{K:AV→KK}{X:XX}{v:AV}(h:Aw Tryz.prog f bs (λr=>r=v))(hc:Ap bs=true)(hk:K v E H):Ak Tryz.prog f bs E H K X:=Ak.D3 h hc λr hr=>by subst hr;exact hk
end Go.Proofs.YtdadkhcdoaeabaaGreatDoor
