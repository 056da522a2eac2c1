/-
  AV: what is known behind a piece of code, said once for all its ends.
-/
import Derived.Test.YtmhlneeboefkgaaDoorAv45
set_option linter.unusedSimpArgs false
set_option linter.unusedVariables false
set_option linter.unusedSectionVars false
namespace Go.Av
section
variable {H : List HO} {E : List AV} {T : List TY} {P : Program}
theorem ACode.cutK {x y : Code} {ι : Type} (tm : ι → List AV) (hp : ι → List HO) (pre : ι → Prop) {K : KK} {X : XX} (ok : ∀ i, pre i → withins (hp i) (tm i) = true ∧ objsOK (hp i) (hp i) True) (len : ∀ i, H.length ≤ (hp i).length)
    (h1 : ACode P x E H (fun E' H' => ∃ j, leK E' (tm j) (hpreK H' (hp j) (pre j))) X) (h2 : ∀ j, pre j → ACode P y (tm j) (hp j) K X) : ACode P x E H (fun E H => ACode P y E H K X) X := by
  refine ⟨fun n G a w hP hst => ?_⟩
  have hnp : G.np ≤ H.length := by obtain ⟨C, mu, h⟩ := hst; exact h.pin.1
  refine wpIn_mono (h1.out n G a w hP hst) fun e a' w' hq => ?_
  cases e with
  | normal =>
    obtain ⟨E', H', ⟨j, hj⟩, hst'⟩ := hq
    obtain ⟨hle', hj⟩ := leK_iff _ _ _ hj
    obtain ⟨hpj, R, rfl⟩ := hpreK_iff hj
    obtain ⟨C, mu, hst'⟩ := hst'.le hle'
    exact ⟨tm j, hp j, h2 j hpj, C, _, hst'.drop (ok j hpj).1 (ok j hpj).2 (Nat.le_trans hnp (len j))⟩
  | exit id => exact hq
  | ret => exact hq
  | panic c => exact hq
  | goto l => exact hq
  | outgrown => exact hq
end
end Go.Av
