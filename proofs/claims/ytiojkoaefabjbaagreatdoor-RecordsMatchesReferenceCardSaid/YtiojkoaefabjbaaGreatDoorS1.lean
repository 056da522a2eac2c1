/-
  slices.SortFunc at records, of any length.
-/
import Derived.Test.YtiojkoaefabjbaaGreatDoorAv52
import Derived.Test.YtiojkoaefabjbaaGreatDoorSo
import Derived.Test.YtiojkoaefabjbaaGreatDoorF6
set_option linter.unusedVariables false
set_option linter.unusedSimpArgs false
namespace Go.Proofs.YtiojkoaefabjbaaGreatDoor
open Go.Av Go.Shelf Pl Go.RowKit
theorem sortAny_spec (l : List Rc) (hl : l.length ≤ 100000) (hx : ∀ r ∈ l, RcOK r) : HCtrF Tryz.prog 38 [.own 0 6 0 l.length, .fn 17 []] eT 6 (rv l)
    (fun r es => r = .tuple [] ∧ SortPost l es) := by
  have h := sortF Tryz.sortRc 6 Tryz.isAgg28 Tryz.sizeOf28 (by kernel_rfl) 17 (enters_of Tryz.func17 (by kernel_rfl) rfl) Rc.v RcOK cmpR
    (fun x => by rw [cmpR_ok.self]; omega)
    (fun x y z h1 h2 => by
      have a := cmpR_ok.rng x y; have b := cmpR_ok.rng y z
      rw [cmpR_ok.tr x y z (by omega) (by omega)]; omega)
    (fun x y z h1 h2 h3 => by
      have a := cmpR_ok.rng x y; have b := cmpR_ok.rng y z; have c := cmpR_ok.rng x z
      rcases a with a | a | a
      · omega
      · rw [cmpR_ok.eq0] at a; subst a; omega
      · rcases b with b | b | b
        · omega
        · rw [cmpR_ok.eq0] at b; subst b; omega
        · have e1 := cmpR_ok.anti x y; have e2 := cmpR_ok.anti y z; have e3 := cmpR_ok.anti x z
          have := cmpR_ok.tr z y x (by omega) (by omega)
          omega)
    (fun x => ⟨_, rfl, rfl, rfl⟩) (fun x y hx hy => compare_spec x y hx.co) l (by omega) hx eT
  refine ⟨h.good, fun C mu w vs h1 h2 h3 => (h.out C mu w vs h1 h2 h3).mono fun en w' h4 => ?_⟩
  obtain ⟨r, v, es, C', q1, ⟨q2, l', rfl, q3, q4⟩, q5⟩ := h4
  refine ⟨r, v, _, C', q1, ⟨q2, l', rfl, q3, ?_⟩, q5⟩
  refine q4.imp fun {x y} hxy => ?_
  have e1 := cmpR_ok.anti x y
  omega
end Go.Proofs.YtiojkoaefabjbaaGreatDoor
