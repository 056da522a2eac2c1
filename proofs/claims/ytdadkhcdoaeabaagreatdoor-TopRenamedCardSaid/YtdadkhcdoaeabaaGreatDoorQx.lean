/-
  One step of a walk; the call of a function whose contract is known.
-/
import Derived.Test.YtdadkhcdoaeabaaGreatDoorKf2
import Derived.Test.YtdadkhcdoaeabaaGreatDoorKt2
namespace Go.Proofs.YtdadkhcdoaeabaaGreatDoor
open Go.Av
theorem sT{c:Code}{E:List AV}{H:List HO}{K:KK}{X:XX}(hb:sF c=true)(h:ZbB Tryz.prog Jt E H K X c):Aa Tryz.prog c E H K X:=Aa.st Ag hb h
theorem mO:Tryz.prog.follows .mixedOrders=true:=by kernel_rfl
theorem cS{f:FuncId}{bs:List AV}{E:List AV}{H:List HO}{K:AV->KK}{X:XX}{v:AV}(h:AO Tryz.prog f bs (λr=>r=v))(hc:An bs=true)(hk:K v E H):Aj Tryz.prog f bs E H K X:=Aj.Dk h hc λr hr=>by subst hr;exact hk
end Go.Proofs.YtdadkhcdoaeabaaGreatDoor
