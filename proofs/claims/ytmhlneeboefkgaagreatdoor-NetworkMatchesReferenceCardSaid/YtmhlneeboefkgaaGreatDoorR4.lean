import Derived.Test.YtmhlneeboefkgaaGreatDoorR3
set_option linter.unusedVariables false
set_option linter.unusedSimpArgs false
namespace Go.Proofs.YtmhlneeboefkgaaGreatDoor
open Go.Av Go.Av.Net
theorem nw0_sml : Sml nw0 := by constructor <;> simp [nw0]
theorem nw0_same : sameNwB nw0 nw0 = true := rfl
end Go.Proofs.YtmhlneeboefkgaaGreatDoor
