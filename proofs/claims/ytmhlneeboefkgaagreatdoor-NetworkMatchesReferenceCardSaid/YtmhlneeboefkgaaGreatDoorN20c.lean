import Derived.Test.YtmhlneeboefkgaaGreatDoorN20b
set_option linter.unusedVariables false
set_option linter.unusedSimpArgs false
namespace Go.Proofs.YtmhlneeboefkgaaGreatDoor
open Go.Av Go.Av.Net
theorem mergeK_nil (F : List HO) : ∀ (rest : List HO) (K : List HO → Prop), mergeK F [] [] rest K ↔ K (rest.map (scrH F))
 | [], K => by simp [mergeK]
 | o :: r, K => by
  rw [mergeK, scrHK_iff, mergeK_nil F r]
  simp
def netA (n : Nw) : AV := .agg [.sl 3 (n.cals.map calA), .sl 1 (strs n.names), .sl 1 (n.opers.map operA), .sl 7 (n.offs.map offA), .sl 6 (n.lins.map linA), .sl 3 (n.clss.map clsA)]
def resP0 : Res → AV
 | .ok n => .tuple [netA n, .int .i64 0, .int .i64 (-1)]
 | .err e p => .tuple [netA nw0, .int .i64 e, .int .i64 p]
theorem merge3 (F : List HO) (a b c : List AV) (o1 o2 o3 x1 x2 x3 : HO) (r : List HO) (K : List HO → Prop) : mergeK F [.cells a, .cells b, .cells c] [o1, o2, o3] (x1 :: x2 :: x3 :: r) K ↔ K (o1 :: o2 :: o3 :: r.map (scrH F)) := by
 simp only [mergeK, mergeK_nil]
theorem rh_arr (n : List AV) (e p : Int) : ∀ i, arrAt (RH n e p) i = false
 | 0 => rfl
 | 1 => rfl
 | 2 => rfl
 | i + 3 => rfl
theorem Parse1_ok (a b c d f g : List AV) (e p : Int) : DCtr Tryz.prog 11 [.ptr 0 0, .ptr 1 0, .ptr 2 0] (RH [.sl 3 a, .sl 1 b, .sl 1 c, .sl 7 d, .sl 6 f, .sl 3 g] e p) none (fun H => H = RH [.sl 3 a, .sl 1 b, .sl 1 c, .sl 7 d, .sl 6 f, .sl 3 g] e p) := by
 refine DCtr.of_body Tryz.func11 rfl rfl tys_ok (by kernel_rfl) rfl ?_
 conv => whnf
 refine ⟨⟨by kernel_rfl, rfl⟩, ?_⟩
 conv => whnf
 refine sd_sound tys_ok _ ?_
 conv => whnf
 rfl
set_option maxRecDepth 100000 in
theorem fin0 (s : Bs) (R : AV → Prop) (vs : List Value) {E : List AV} (rest : List HO) (e p : Int) (a b c d f g : List AV) (hR : R (.tuple [.agg [.sl 3 a, .sl 1 b, .sl 1 c, .sl 7 d, .sl 6 f, .sl 3 g], .int .i64 e, .int .i64 p])) :
  endD Tryz.prog tys Tryz.f5.results.toList R 11 3 none (.str s :: .any :: .ptr 0 0 :: .ptr 1 0 :: .ptr 2 0 :: E) (RH [.sl 3 a, .sl 1 b, .sl 1 c, .sl 7 d, .sl 6 f, .sl 3 g] e p ++ .ghost [.ptr 0 0, .ptr 1 0, .ptr 2 0] vs [] :: rest) := by
 unfold endD
 refine (lkK_iff _ _ _).2 ⟨.ghost [.ptr 0 0, .ptr 1 0, .ptr 2 0] vs [], rfl, ?_⟩
 refine DCall.of_d (Parse1_ok a b c d f g e p) rfl rfl ⟨rfl, rfl, rfl, rfl, rfl, rfl, trivial⟩ ?_
 rintro H1 rfl
 rw [scrK_iff, scrs_id (rh_arr _ _ _)]
 show mergeK (RH [.sl 3 a, .sl 1 b, .sl 1 c, .sl 7 d, .sl 6 f, .sl 3 g] e p) [.cells [.sl 3 a, .sl 1 b, .sl 1 c, .sl 7 d, .sl 6 f, .sl 3 g], .cells [.int .i64 e], .cells [.int .i64 p]] [.cells [.sl 3 a, .sl 1 b, .sl 1 c, .sl 7 d, .sl 6 f, .sl 3 g], .cells [.int .i64 e], .cells [.int .i64 p]] (.cells [.sl 3 a, .sl 1 b, .sl 1 c, .sl 7 d, .sl 6 f, .sl 3 g] :: .cells [.int .i64 e] :: .cells [.int .i64 p] :: .ghost [.ptr 0 0, .ptr 1 0, .ptr 2 0] vs [] :: rest) _
 rw [merge3]
 generalize List.map _ (HO.ghost [.ptr 0 0, .ptr 1 0, .ptr 2 0] vs [] :: rest) = r
 conv => whnf
 exact hR
set_option maxRecDepth 100000 in
theorem fin1 (s : Bs) (R : AV → Prop) (vs : List Value) {E : List AV} (rest : List HO) (e p : Int) (hR : R (.tuple [netA nw0, .int .i64 e, .int .i64 p])) :
  endD Tryz.prog tys Tryz.f5.results.toList R 11 3 (some (.iface 52 (.agg [.int .i64 e, .int .i64 p]))) (.str s :: .any :: .ptr 0 0 :: .ptr 1 0 :: .ptr 2 0 :: E) (RH net0 0 (-1) ++ .ghost [.ptr 0 0, .ptr 1 0, .ptr 2 0] vs [] :: rest) := by
 unfold endD
 refine (lkK_iff _ _ _).2 ⟨.ghost [.ptr 0 0, .ptr 1 0, .ptr 2 0] vs [], rfl, ?_⟩
 refine DCall.of_d (Parse1_some 0 (-1) e p net0 rfl) rfl rfl ⟨rfl, rfl, rfl, rfl, rfl, rfl, trivial⟩ ?_
 rintro H1 rfl
 rw [scrK_iff, scrs_id (rh_arr _ _ _)]
 show mergeK (RH net0 0 (-1)) [.cells net0, .cells [.int .i64 0], .cells [.int .i64 (-1)]] [.cells net0, .cells [.int .i64 e], .cells [.int .i64 p]] (.cells net0 :: .cells [.int .i64 0] :: .cells [.int .i64 (-1)] :: .ghost [.ptr 0 0, .ptr 1 0, .ptr 2 0] vs [] :: rest) _
 rw [merge3]
 generalize List.map (scrH (RH net0 0 (-1))) (HO.ghost [.ptr 0 0, .ptr 1 0, .ptr 2 0] vs [] :: rest) = r
 conv => whnf
 refine ⟨3, ?_⟩
 conv => whnf
 refine ⟨1, ?_⟩
 conv => whnf
 refine ⟨1, ?_⟩
 conv => whnf
 refine ⟨7, ?_⟩
 conv => whnf
 refine ⟨6, ?_⟩
 conv => whnf
 refine ⟨3, ?_⟩
 conv => whnf
 exact hR
end Go.Proofs.YtmhlneeboefkgaaGreatDoor
