/-
 The search: divide.
-/
import Derived.Test.YtbodeejogdckgaaGreatDoorF6
set_option linter.unusedVariables false
set_option linter.unusedSimpArgs false
namespace Go.Proofs.YtbodeejogdckgaaGreatDoor
open Go.Av Go.Shelf Pl
theorem _root_.Go.Av.HCtr.lits {P : Go.Program} {f : Go.FuncId} {args : List AV} {H0 : List HO} {R' : Bool → List HO → Prop} {X : AV → List HO → Prop} (h : HCtr P f args H0 (fun r H => ∃ b, (r = .lit b ∨ r = .bool b) ∧ R' b H) X) :
  HCtr P f args H0 (fun r H => ∃ b, r = .bool b ∧ R' b H) X :=
 ⟨h.good, fun C mu w vs h1 h2 h3 => (h.out C mu w vs h1 h2 h3).mono fun e w' hp => by
  obtain ⟨r, v, H1, C', mu', ho, hp, hh, hr, rest⟩ := hp
  rcases ho with ⟨he, b, hb, hR⟩ | ⟨he, hX⟩
  ·refine ⟨.bool b, v, H1, C', mu', .inl ⟨he, b, rfl, hR⟩, hp, hh, ?_, rest⟩
   rcases hb with rfl | rfl <;> (unfold Rep at *; exact hr)
  ·exact ⟨r, v, H1, C', mu', .inr ⟨he, hX⟩, hp, hh, hr, rest⟩⟩
theorem _root_.Go.Av.HCtr.weak {P : Go.Program} {f : Go.FuncId} {args : List AV} {H0 : List HO} {R R' : AV → List HO → Prop} {X : AV → List HO → Prop} (h : HCtr P f args H0 R X) (hR : ∀ r H, R r H → R' r H) : HCtr P f args H0 R' X :=
 ⟨h.good, fun C mu w vs h1 h2 h3 => (h.out C mu w vs h1 h2 h3).mono fun e w' hp => by
  obtain ⟨r, v, H1, C', mu', ho, rest⟩ := hp
  exact ⟨r, v, H1, C', mu', ho.imp (fun ⟨x, y⟩ => ⟨x, hR _ _ y⟩) id, rest⟩⟩
/-! ### A part's function -/
def gP (p : Pt) : Nat := if p.k = 1 then 52 else if p.k = 2 then 54 else if p.k = 3 then 56 else if p.k = 4 then 59 else if p.k = 5 then 60 else 61
theorem get_kind (p : Pt) (h : p.k = 1 ∨ p.k = 2 ∨ p.k = 3 ∨ p.k = 4 ∨ p.k = 5 ∨ p.k = 6) : mget (.int .i64 p.k) [.int .i64 1, .int .i64 2, .int .i64 3, .int .i64 4, .int .i64 5, .int .i64 6]
 [.agg [.int .i64 1, .fn 52 []], .agg [.int .i64 1, .fn 54 []], .agg [.int .i64 1, .fn 56 []],
  .agg [.int .i64 4, .fn 59 []], .agg [.int .i64 4, .fn 60 []], .agg [.int .i64 4, .fn 61 []]] = some (.agg [.int .i64 (mostP p : Nat), .fn (gP p) []]) := by
 unfold mostP gP
 rcases h with h | h | h | h | h | h <;> rw [h] <;> rfl
theorem fit_ascii {w : Bs} (h : fitB w = true) : (1 ≤ w.length ∧ w.length ≤ 20) ∧ ∀ c ∈ w, c.toNat < 128 := by
 unfold fitB at h
 simp only [Bool.and_eq_true, decide_eq_true_eq] at h
 exact ⟨h.1, fun c hc => fitC_ascii (List.all_eq_true.1 h.2 c hc)⟩
theorem most_one {p : Pt} {l : List Bs} (hk : p.k = 1 ∨ p.k = 2 ∨ p.k = 3) (h1 : 1 ≤ l.length) (h2 : l.length ≤ mostP p) : ∃ w, l = [w] := by
 unfold mostP at h2
 rw [if_pos hk] at h2
 match l, h1, h2 with
 | [w], _, _ => exact ⟨w, rfl⟩
 | _ :: _ :: _, _, h2 => simp at h2
theorem most_le (p : Pt) : mostP p ≤ 4 := by unfold mostP; split <;> omega
theorem readP_spec (p : Pt) (hp : partB p = true) (a : Ad) (es : List Ad) (l : List Bs) (h1 : 1 ≤ l.length) (h2 : l.length ≤ mostP p) (hf : ∀ x ∈ l, fitB x = true) :
  HCtr Tryz.prog (gP p) [.ptr 3 0, .str p.t, strsA l] (HS a es) (fun r H => ∃ b, r = .bool b ∧ (b = okS p l ∧ H = HS (putP p l a) es)) (fun _ _ => False) := by
 refine HCtr.lits ?_
 have hjl := join_len [32] 20 l fun x hx => (fit_ascii (hf x hx)).1.2
 have hl4 := most_le p
 have hjl2 : (Lib.join l [32]).length ≤ 100000 := by
  refine Nat.le_trans hjl ?_
  have : l.length * (20 + ([32] : Bs).length) ≤ 4 * (20 + ([32] : Bs).length) := Nat.mul_le_mul_right _ (by omega)
  simp only [List.length_cons, List.length_nil] at this
  simp only [List.length_cons, List.length_nil]
  omega
 rcases part_kind hp with hk | hk | hk | hk | hk | hk
 ·obtain ⟨w, rfl⟩ := most_one (.inl hk) h1 h2
  have hw := fit_ascii (hf w (by simp))
  have ht : fitB p.t = true := by unfold partB at hp; rwa [if_pos hk] at hp
  have ht := fit_ascii ht
  have h := read1_spec a es p w hw.1.2 hw.2 ht.1.2 ht.2
  have hg : gP p = 52 := by unfold gP; rw [hk]; rfl
  have ho : okS p [w] = decide (lowB w = lowB p.t) := by unfold okS; rw [hk]; rfl
  have hu : putP p [w] a = a := by unfold putP; rw [hk]; rfl
  rw [hg, ho, hu]
  exact h.weak fun r H ⟨x, y⟩ => ⟨_, .inr x, rfl, y⟩
 ·obtain ⟨w, rfl⟩ := most_one (.inr (.inl hk)) h1 h2
  have hw := fit_ascii (hf w (by simp))
  have h := read2_spec a es p w hw.1.1 hw.1.2
  have hg : gP p = 54 := by unfold gP; rw [hk]; rfl
  have ho : okS p [w] = numOK w := by unfold okS; rw [hk]; rfl
  have hu : putP p [w] a = ⟨a.pe, a.st, if numOK w then valB w else 0, a.co, a.to⟩ := by unfold putP; rw [hk]; rfl
  rw [hg, ho, hu]
  exact h.weak fun r H ⟨x, y⟩ => ⟨_, .inr x, rfl, y⟩
 ·obtain ⟨w, rfl⟩ := most_one (.inr (.inr hk)) h1 h2
  have hw := fit_ascii (hf w (by simp))
  have h := read3_spec a es p w hw.1.2 hw.2
  have hg : gP p = 56 := by unfold gP; rw [hk]; rfl
  have ho : okS p [w] = matchB w p.t := by unfold okS; rw [hk]; rfl
  have hu : putP p [w] a = ⟨a.pe, a.st, a.nu, upB w, a.to⟩ := by unfold putP; rw [hk]; rfl
  rw [hg, ho, hu]
  exact h.weak fun r H ⟨x, y⟩ => ⟨_, .inr x, rfl, y⟩
 ·have h := read4_spec a es p l (by omega) hjl2
  have hg : gP p = 59 := by unfold gP; rw [hk]; rfl
  have ho : okS p l = true := by unfold okS; rw [hk]; rfl
  have hu : putP p l a = ⟨a.pe, Lib.join l [32], a.nu, a.co, a.to⟩ := by unfold putP; rw [hk]; rfl
  rw [hg, ho, hu]
  exact h.weak fun r H ⟨x, y⟩ => ⟨_, .inl x, rfl, y⟩
 ·have h := read5_spec a es p l (by omega) hjl2
  have hg : gP p = 60 := by unfold gP; rw [hk]; rfl
  have ho : okS p l = true := by unfold okS; rw [hk]; rfl
  have hu : putP p l a = ⟨a.pe, a.st, a.nu, a.co, Lib.join l [32]⟩ := by unfold putP; rw [hk]; rfl
  rw [hg, ho, hu]
  exact h.weak fun r H ⟨x, y⟩ => ⟨_, .inl x, rfl, y⟩
 ·have h := read6_spec a es p l (by omega) hjl2
  have hg : gP p = 61 := by unfold gP; rw [hk]; rfl
  have ho : okS p l = true := by unfold okS; rw [hk]; rfl
  have hu : putP p l a = ⟨Lib.join l [32], a.st, a.nu, a.co, a.to⟩ := by unfold putP; rw [hk]; rfl
  rw [hg, ho, hu]
  exact h.weak fun r H ⟨x, y⟩ => ⟨_, .inl x, rfl, y⟩
abbrev capsD : List AV := [.ptr 0 0, .ptr 4 0, .ptr 2 0, .ptr 6 0, .ptr 5 0]
abbrev HD (f : Fm) (W : List (List Bs)) (a : Ad) (es : List Ad) : List HO :=
 [.cells [.str f.name, .sl 1 (f.lines.map ptsA)], .dead, .cells [.sl 1 (W.map strsA)], .cells (sCells a es.length), .cells [.ptr 3 0], .cells [kindsV], .cells [.fn 32 capsD], .arr 27 5 (es.map Ad.v)]
abbrev HL (f : Fm) (W : List (List Bs)) (p : Pt) (a : Ad) (es : List Ad) : List HO :=
 [.cells [.str f.name, .sl 1 (f.lines.map ptsA)], .dead, .cells [.sl 1 (W.map strsA)], .cells (sCells a es.length), .cells [.ptr 3 0], .cells [kindsV], .cells [.fn 32 capsD], .arr 27 5 (es.map Ad.v),
  .cells [.int .i64 p.k, .str p.t], .cells [.int .i64 (mostP p : Nat), .fn (gP p) []]]
theorem flat_range_le (g : Nat → List Ad) (m : Nat) : ∀ N, m ≤ N → ((List.range m).flatMap g).length ≤ ((List.range N).flatMap g).length := by
 intro N
 induction N with
 | zero => intro h; rw [Nat.le_zero.1 h]; exact Nat.le_refl _
 | succ N ih =>
  intro h
  by_cases h2 : m ≤ N
  ·rw [List.range_succ (n := N), List.flatMap_append, List.length_append]
   have := ih h2
   omega
  ·rw [show m = N + 1 by omega]; exact Nat.le_refl _
def remN (F : List (List Pt)) (i : Nat) : Nat := ((F.drop i).map fun l => l.length + 1).sum
theorem remN_in {F : List (List Pt)} {i : Nat} (h : i < F.length) : remN F i = F[i].length + 1 + remN F (i + 1) := by
 unfold remN
 rw [List.drop_eq_getElem_cons h, List.map_cons, List.sum_cons]
/-- What the search is about. -/
structure DivOK (f : Fm) (W : List (List Bs)) : Prop where
 s : SmallF f
 p : ∀ l ∈ f.lines, ∀ p ∈ l, partB p = true
 e : f.lines.length = W.length
 w : ∀ l ∈ W, ∀ x ∈ l, fitB x = true
 n : ∀ l ∈ W, l.length ≤ 1000
def DivS (f : Fm) (W : List (List Bs)) (i j w : Nat) (a : Ad) (es : List Ad) : Prop :=
 HCtr Tryz.prog 32 ([.int .i64 i, .int .i64 j, .int .i64 w] ++ capsD) (HD f W a es) (fun r H => r = .tuple [] ∧ ∃ a', Agr (remP f.lines i j) a a' ∧ H = HD f W a' (es ++ fromD f.lines W i j w a)) (fun _ _ => False)
set_option maxRecDepth 100000 in
theorem divide_spec (f : Fm) (W : List (List Bs)) (hd : DivOK f W) : ∀ (n i j w : Nat) (a : Ad) (es : List Ad), remN f.lines i - j = n → i ≤ f.lines.length → (∀ h : i < f.lines.length, j ≤ f.lines[i].length ∧ w ≤ (W[i]'(by have := hd.e; omega)).length) →
  es.length + (fromD f.lines W i j w a).length ≤ 1000 → DivS f W i j w a es := by
 intro n
 induction n using Nat.strongRecOn with
 | _ n ih =>
  intro i j w a es hn hi hin hes
  have hll := hd.s.l
  have hml : (f.lines.map ptsA).length = f.lines.length := by simp
  unfold DivS
  refine HCtr.of_body Tryz.func32 rfl tys_ok (by kernel_rfl) rfl ?_
  conv => whnf
  repeat (first | refine ACode.seq ?_ | (refine ACode.s_reg tys_ok ?_; conv => whnf) | refine ACode.s_block ?_ | refine ACode.s_scope ?_ | (refine ACode.s_cond ?_; conv => whnf) | (refine ACode.s_exit ?_; conv => whnf) | (refine ACode.s_ret ?_; conv => whnf) | (refine ACode.s_skip ?_; conv => whnf) | (refine ACode.s_label ?_; conv => whnf))
  refine ⟨fun h1 => ?_, fun h1 => ?_⟩
  ·have h1 : i = f.lines.length := by simp at h1; omega
   rw [fromD_out (by omega)] at hes
   rw [fromD_out (by omega)]
   conv => whnf
   repeat (first | refine ACode.seq ?_ | (refine ACode.s_reg tys_ok ?_; conv => whnf) | refine ACode.s_block ?_ | refine ACode.s_scope ?_ | (refine ACode.s_cond ?_; conv => whnf) | (refine ACode.s_exit ?_; conv => whnf) | (refine ACode.s_ret ?_; conv => whnf) | (refine ACode.s_skip ?_; conv => whnf) | (refine ACode.s_label ?_; conv => whnf))
   refine ACall.of_h (keep_spec a es (by simp at hes; omega)) rfl ⟨rfl, rfl, rfl, ads_closed _, trivial⟩ ?_ (fun _ _ h => h.elim)
   rintro r H1 ⟨rfl, rfl⟩
   conv => whnf
   repeat (first | refine ACode.seq ?_ | (refine ACode.s_reg tys_ok ?_; conv => whnf) | refine ACode.s_block ?_ | refine ACode.s_scope ?_ | (refine ACode.s_cond ?_; conv => whnf) | (refine ACode.s_exit ?_; conv => whnf) | (refine ACode.s_ret ?_; conv => whnf) | (refine ACode.s_skip ?_; conv => whnf) | (refine ACode.s_label ?_; conv => whnf))
   refine ⟨ads_closed _, ?_⟩
   conv => whnf
   exact ⟨rfl, a, Agr.refl _ _, rfl⟩
  ·have h1 : i < f.lines.length := by simp at h1; omega
   have h1W : i < W.length := by have := hd.e; omega
   obtain ⟨hj, hw⟩ := hin h1
   have hLl := hd.s.l2 _ (List.getElem_mem h1)
   have hWl := hd.n _ (List.getElem_mem h1W)
   have hLg := lines_get f i h1
   have hWg := lls_get W i h1W
   have hrem := remN_in h1
   have hfd := fun j w a => fromD_in (j := j) (w := w) h1 h1W a
   have hrp := fun j => remP_in (j := j) h1
   have hgk : goodK f.lines.flatten := fun q hq => by
    obtain ⟨l, hl, hq⟩ := List.mem_flatten.1 hq
    exact part_kind (hd.p l hl q hq)
   rw [hrem] at hn
   rw [hfd] at hes
   rw [hfd, hrp]
   have hpL := hd.p _ (List.getElem_mem h1)
   have htL := hd.s.t _ (List.getElem_mem h1)
   have hfW := hd.w _ (List.getElem_mem h1W)
   generalize hLe : f.lines[i] = L at *
   generalize hYe : W[i] = Y at *
   conv => whnf
   repeat (first | refine ACode.seq ?_ | (refine ACode.s_reg tys_ok ?_; conv => whnf) | refine ACode.s_block ?_ | refine ACode.s_scope ?_ | (refine ACode.s_cond ?_; conv => whnf) | (refine ACode.s_exit ?_; conv => whnf) | (refine ACode.s_ret ?_; conv => whnf) | (refine ACode.s_skip ?_; conv => whnf) | (refine ACode.s_label ?_; conv => whnf))
   refine ⟨by omega, _, hLg, ?_⟩
   conv => whnf
   repeat (first | refine ACode.seq ?_ | (refine ACode.s_reg tys_ok ?_; conv => whnf) | refine ACode.s_block ?_ | refine ACode.s_scope ?_ | (refine ACode.s_cond ?_; conv => whnf) | (refine ACode.s_exit ?_; conv => whnf) | (refine ACode.s_ret ?_; conv => whnf) | (refine ACode.s_skip ?_; conv => whnf) | (refine ACode.s_label ?_; conv => whnf))
   refine ⟨fun h2 => ?_, fun h2 => ?_⟩
   ·have h2 : j = L.length := by simp at h2; omega
    subst h2
    rw [List.drop_length, List.nil_append]
    rw [List.drop_length] at hes
    conv => whnf
    repeat (first | refine ACode.seq ?_ | (refine ACode.s_reg tys_ok ?_; conv => whnf) | refine ACode.s_block ?_ | refine ACode.s_scope ?_ | (refine ACode.s_cond ?_; conv => whnf) | (refine ACode.s_exit ?_; conv => whnf) | (refine ACode.s_ret ?_; conv => whnf) | (refine ACode.s_skip ?_; conv => whnf) | (refine ACode.s_label ?_; conv => whnf))
    refine ⟨by omega, _, hWg, ?_⟩
    conv => whnf
    repeat (first | refine ACode.seq ?_ | (refine ACode.s_reg tys_ok ?_; conv => whnf) | refine ACode.s_block ?_ | refine ACode.s_scope ?_ | (refine ACode.s_cond ?_; conv => whnf) | (refine ACode.s_exit ?_; conv => whnf) | (refine ACode.s_ret ?_; conv => whnf) | (refine ACode.s_skip ?_; conv => whnf) | (refine ACode.s_label ?_; conv => whnf))
    refine ⟨fun h3 => ?_, fun h3 => ?_⟩
    ·have h3 : w = Y.length := by simp at h3; omega
     subst h3
     rw [List.drop_length]
     rw [List.drop_length] at hes
     have hw1 : Wr .i64 ((i : Int) + 1) = ((i + 1 : Nat) : Int) := by rw [Wr64 _ (by omega) (by omega)]; rfl
     have hnx := fromD_next hd.e (i + 1) (by omega) a
     have hrn := remP_next (F := f.lines) (i + 1) (by omega)
     have e0 : (readL [] [] a).flatMap (readF (f.lines.drop (i + 1)) (W.drop (i + 1))) = fromD f.lines W (i + 1) 0 0 a := by rw [hnx]; show List.flatMap _ [a] = _; simp
     rw [e0] at hes
     rw [e0, ← hrn]
     conv => whnf
     repeat (first | refine ACode.seq ?_ | (refine ACode.s_reg tys_ok ?_; conv => whnf) | refine ACode.s_block ?_ | refine ACode.s_scope ?_ | (refine ACode.s_cond ?_; conv => whnf) | (refine ACode.s_exit ?_; conv => whnf) | (refine ACode.s_ret ?_; conv => whnf) | (refine ACode.s_skip ?_; conv => whnf) | (refine ACode.s_label ?_; conv => whnf))
     rw [hw1]
     refine ACall.of_h (ih (remN f.lines (i + 1) - 0) (by omega) (i + 1) 0 0 a es rfl (by omega) (fun h => ⟨Nat.zero_le _, Nat.zero_le _⟩) hes) rfl ⟨rfl, rfl, rfl, rfl, rfl, rfl, rfl, rfl, rfl, rfl, rfl, rfl, rfl, ads_closed _, trivial⟩ ?_ (fun _ _ h => h.elim)
     rintro r H1 ⟨rfl, a', hag, rfl⟩
     conv => whnf
     repeat (first | refine ACode.seq ?_ | (refine ACode.s_reg tys_ok ?_; conv => whnf) | refine ACode.s_block ?_ | refine ACode.s_scope ?_ | (refine ACode.s_cond ?_; conv => whnf) | (refine ACode.s_exit ?_; conv => whnf) | (refine ACode.s_ret ?_; conv => whnf) | (refine ACode.s_skip ?_; conv => whnf) | (refine ACode.s_label ?_; conv => whnf))
     refine ⟨ads_closed _, ?_⟩
     conv => whnf
     exact ⟨rfl, a', hag, rfl⟩
    ·have e0 : readL [] (Y.drop w) a = [] := by
      have h4 : w < Y.length := by
       have : ¬ w = Y.length := fun e => by subst e; simp at h3
       omega
      rw [List.drop_eq_getElem_cons h4]; rfl
     rw [e0, List.flatMap_nil, List.append_nil]
     conv => whnf
     repeat (first | refine ACode.seq ?_ | (refine ACode.s_reg tys_ok ?_; conv => whnf) | refine ACode.s_block ?_ | refine ACode.s_scope ?_ | (refine ACode.s_cond ?_; conv => whnf) | (refine ACode.s_exit ?_; conv => whnf) | (refine ACode.s_ret ?_; conv => whnf) | (refine ACode.s_skip ?_; conv => whnf) | (refine ACode.s_label ?_; conv => whnf))
     refine ⟨ads_closed _, ?_⟩
     conv => whnf
     exact ⟨rfl, a, Agr.refl _ _, rfl⟩
   ·have h2 : j < L.length := by simp at h2; omega
    conv => whnf
    repeat (first | refine ACode.seq ?_ | (refine ACode.s_reg tys_ok ?_; conv => whnf) | refine ACode.s_block ?_ | refine ACode.s_scope ?_ | (refine ACode.s_cond ?_; conv => whnf) | (refine ACode.s_exit ?_; conv => whnf) | (refine ACode.s_ret ?_; conv => whnf) | (refine ACode.s_skip ?_; conv => whnf) | (refine ACode.s_label ?_; conv => whnf))
    refine ⟨by omega, _, hLg, ?_⟩
    conv => whnf
    repeat (first | refine ACode.seq ?_ | (refine ACode.s_reg tys_ok ?_; conv => whnf) | refine ACode.s_block ?_ | refine ACode.s_scope ?_ | (refine ACode.s_cond ?_; conv => whnf) | (refine ACode.s_exit ?_; conv => whnf) | (refine ACode.s_ret ?_; conv => whnf) | (refine ACode.s_skip ?_; conv => whnf) | (refine ACode.s_label ?_; conv => whnf))
    refine ⟨by omega, _, pts_get L j h2, ?_⟩
    have hpp := hpL _ (List.getElem_mem h2)
    have htp := htL _ (List.getElem_mem h2)
    have hdr : L.drop j = L[j] :: L.drop (j + 1) := List.drop_eq_getElem_cons h2
    rw [hdr] at hes
    rw [hdr]
    generalize L[j] = p at *
    generalize hps : L.drop (j + 1) = ps at *
    conv => whnf
    repeat (first | refine ACode.seq ?_ | (refine ACode.s_reg tys_ok ?_; conv => whnf) | refine ACode.s_block ?_ | refine ACode.s_scope ?_ | (refine ACode.s_cond ?_; conv => whnf) | (refine ACode.s_exit ?_; conv => whnf) | (refine ACode.s_ret ?_; conv => whnf) | (refine ACode.s_skip ?_; conv => whnf) | (refine ACode.s_label ?_; conv => whnf))
    have hk := get_kind p (part_kind hpp)
    refine ⟨fun x hx => ?_, fun e => absurd (hk.symm.trans e) (by simp), fun v hv => ?_⟩
    ·simp only [List.mem_cons, List.not_mem_nil, or_false] at hx
     rcases hx with rfl | rfl | rfl | rfl | rfl | rfl <;> rfl
    obtain rfl := Option.some.inj (hk.symm.trans hv)
    clear hv
    conv => whnf
    repeat (first | refine ACode.seq ?_ | (refine ACode.s_reg tys_ok ?_; conv => whnf) | refine ACode.s_block ?_ | refine ACode.s_scope ?_ | (refine ACode.s_cond ?_; conv => whnf) | (refine ACode.s_exit ?_; conv => whnf) | (refine ACode.s_ret ?_; conv => whnf) | (refine ACode.s_skip ?_; conv => whnf) | (refine ACode.s_label ?_; conv => whnf))
    have hyl : (Y.drop w).length = Y.length - w := List.length_drop
    rw [readL_cons] at hes
    rw [readL_cons]
    rw [hyl, List.flatMap_assoc] at hes
    rw [hyl, List.flatMap_assoc]
    generalize hg : (fun x => (stepL p ps (Y.drop w) a x).flatMap (readF (f.lines.drop (i + 1)) (W.drop (i + 1)))) = g at *
    have hml4 := most_le p
    refine ACode.loopD (fun x : Nat × Ad × List Ad => mk 94 [(0, .int .i64 i), (1, .int .i64 j), (2, .int .i64 w), (3, .ptr 0 0), (4, .ptr 4 0), (5, .ptr 2 0), (6, .ptr 6 0), (7, .ptr 5 0), (11, .ptr 8 0), (12, .ptr 9 0), (13, .int .i64 ((x.1 + 1 : Nat) : Int))])
     (fun x => HL f W p x.2.1 x.2.2)
     (fun x => x.1 ≤ min (mostP p) (Y.length - w) ∧ Agr (p :: ps ++ (f.lines.drop (i + 1)).flatten) a x.2.1 ∧ x.2.2 = es ++ (List.range x.1).flatMap g) (fun x => 5 - x.1) (fun x _ => ⟨rfl, rfl, rfl, rfl, rfl, rfl, rfl, ads_closed _, rfl, rfl, trivial⟩) ⟨(0, a, es), ?_⟩ (fun _ => rfl) ?_
    ·conv => whnf
     repeat (refine And.intro ?_ ?_; (focus (first | rfl | (simp; done))); conv => whnf)
     exact ⟨Agr.refl _ _, by simp⟩
    ·rintro ⟨m, b, fs⟩ ⟨hm, hab, hfs⟩
     simp only at hm hab hfs
     dsimp only
     have hmY : Y.length ≤ 1000 := hWl
     have hstop : m = min (mostP p) (Y.length - w) → Agr (p :: ps ++ (f.lines.drop (i + 1)).flatten) a b ∧ fs = es ++ (List.range (min (mostP p) (Y.length - w))).flatMap g := fun e => ⟨hab, by rw [← e]; exact hfs⟩
     repeat (first | refine ACode.seq ?_ | (refine ACode.s_reg tys_ok ?_; conv => whnf) | refine ACode.s_block ?_ | refine ACode.s_scope ?_ | (refine ACode.s_cond ?_; conv => whnf) | (refine ACode.s_exit ?_; conv => whnf) | (refine ACode.s_ret ?_; conv => whnf) | (refine ACode.s_skip ?_; conv => whnf) | (refine ACode.s_label ?_; conv => whnf))
     refine ⟨fun h3 => ?_, fun h3 => ?_⟩
     ·have h3 : m + 1 ≤ mostP p := by have := of_decide_eq_true h3; omega
      have hw1 : Wr .i64 ((w : Int) + ((m + 1 : Nat) : Int)) = ((w + m + 1 : Nat) : Int) := by rw [Wr64 _ (by omega) (by omega)]; omega
      conv => whnf
      repeat (first | refine ACode.seq ?_ | (refine ACode.s_reg tys_ok ?_; conv => whnf) | refine ACode.s_block ?_ | refine ACode.s_scope ?_ | (refine ACode.s_cond ?_; conv => whnf) | (refine ACode.s_exit ?_; conv => whnf) | (refine ACode.s_ret ?_; conv => whnf) | (refine ACode.s_skip ?_; conv => whnf) | (refine ACode.s_label ?_; conv => whnf))
      refine ⟨by omega, _, hWg, ?_⟩
      conv => whnf
      repeat (first | refine ACode.seq ?_ | (refine ACode.s_reg tys_ok ?_; conv => whnf) | refine ACode.s_block ?_ | refine ACode.s_scope ?_ | (refine ACode.s_cond ?_; conv => whnf) | (refine ACode.s_exit ?_; conv => whnf) | (refine ACode.s_ret ?_; conv => whnf) | (refine ACode.s_skip ?_; conv => whnf) | (refine ACode.s_label ?_; conv => whnf))
      rw [hw1]
      refine ⟨fun h4 => ?_, fun h4 => ?_⟩
      ·have h4 : w + m + 1 ≤ Y.length := by have := of_decide_eq_true h4; rw [strs_len] at this; omega
       conv => whnf
       repeat (first | refine ACode.seq ?_ | (refine ACode.s_reg tys_ok ?_; conv => whnf) | refine ACode.s_block ?_ | refine ACode.s_scope ?_ | (refine ACode.s_cond ?_; conv => whnf) | (refine ACode.s_exit ?_; conv => whnf) | (refine ACode.s_ret ?_; conv => whnf) | (refine ACode.s_skip ?_; conv => whnf) | (refine ACode.s_label ?_; conv => whnf))
       refine ACode.draw [14] tys_ok (by kernel_rfl) (by kernel_rfl) ?_
       conv => whnf
       refine ⟨by omega, _, hWg, ?_⟩
       conv => whnf
       have hsl : List.drop ((w : Nat) : Int).toNat (List.take (((w + m + 1 : Nat) : Nat) : Int).toNat (strs Y)) = strs ((Y.drop w).take (m + 1)) := by
        simp only [Int.toNat_natCast, strs, List.map_take, List.map_drop]
        rw [List.drop_take, show w + m + 1 - w = m + 1 by omega]
       rw [hw1, hsl]
       refine ⟨⟨by omega, by omega, by rw [strs_len]; omega⟩, ?_⟩
       conv => whnf
       have hll1 : ((Y.drop w).take (m + 1)).length = m + 1 := by rw [List.length_take, hyl]; omega
       have hfit : ∀ x ∈ (Y.drop w).take (m + 1), fitB x = true := fun x hx => hfW x (List.mem_of_mem_drop (List.mem_of_mem_take hx))
       have hgm : g m = (stepL p ps (Y.drop w) a m).flatMap (readF (f.lines.drop (i + 1)) (W.drop (i + 1))) := by rw [← hg]
       unfold stepL at hgm
       rw [List.drop_drop, show w + (m + 1) = w + m + 1 by omega] at hgm
       have hps2 := hps
       generalize (Y.drop w).take (m + 1) = l at *
       have hpk := part_kind hpp
       have hb1 : Agr (p :: ps ++ (f.lines.drop (i + 1)).flatten) b (putP p l b) := (put_kind hpk).mono (by simp)
       have hb2 : Agr (ps ++ (f.lines.drop (i + 1)).flatten) (putP p l a) (putP p l b) := put_agr hpk hab
       have hrm := List.range_succ (n := m)
       have hflat : (List.range (m + 1)).flatMap g = (List.range m).flatMap g ++ g m := by rw [hrm, List.flatMap_append]; simp
       have hle := flat_range_le g (m + 1) (min (mostP p) (Y.length - w)) (by omega)
       rw [hflat] at hle
       have hw2 : Wr .i64 (((m + 1 : Nat) : Int) + 1) = ((m + 1 + 1 : Nat) : Int) := by rw [Wr64 _ (by omega) (by omega)]; rfl
       have hw3 : Wr .i64 ((j : Int) + 1) = ((j + 1 : Nat) : Int) := by rw [Wr64 _ (by omega) (by omega)]; rfl
       refine ACall.of_h (readP_spec p hpp b fs l (by omega) (by omega) hfit) rfl ⟨rfl, rfl, rfl, ads_closed _, trivial⟩ ?_ (fun _ _ h => h.elim)
       rintro r H1 ⟨bb, rfl, rfl, rfl⟩
       conv => whnf
       repeat (first | refine ACode.seq ?_ | (refine ACode.s_reg tys_ok ?_; conv => whnf) | refine ACode.s_block ?_ | refine ACode.s_scope ?_ | (refine ACode.s_cond ?_; conv => whnf) | (refine ACode.s_exit ?_; conv => whnf) | (refine ACode.s_ret ?_; conv => whnf) | (refine ACode.s_skip ?_; conv => whnf) | (refine ACode.s_label ?_; conv => whnf))
       refine ⟨fun h5 => ?_, fun h5 => ?_⟩
       ·rw [if_pos h5] at hgm
        have hgm2 : g m = fromD f.lines W i (j + 1) (w + m + 1) (putP p l b) := by
         rw [hgm, ← fromD_agr hd.e hgk (i := i) (j := j + 1) (w := w + m + 1) (a := putP p l a) (by rw [hrp, hps2]; exact hb2), hfd, hps2]
        have hne : Agr (p :: ps ++ (f.lines.drop (i + 1)).flatten) a (putP p l b) := hab.trans hb1
        have hbd : fs.length + (fromD f.lines W i (j + 1) (w + m + 1) (putP p l b)).length ≤ 1000 := by
         rw [← hgm2, hfs]
         rw [List.length_append] at hle ⊢
         omega
        have hIH := ih (remN f.lines i - (j + 1)) (by omega) i (j + 1) (w + m + 1) (putP p l b) fs rfl hi (fun h => ⟨by rw [hLe]; omega, by rw [hYe]; omega⟩) hbd
        conv => whnf
        repeat (first | refine ACode.seq ?_ | (refine ACode.s_reg tys_ok ?_; conv => whnf) | refine ACode.s_block ?_ | refine ACode.s_scope ?_ | (refine ACode.s_cond ?_; conv => whnf) | (refine ACode.s_exit ?_; conv => whnf) | (refine ACode.s_ret ?_; conv => whnf) | (refine ACode.s_skip ?_; conv => whnf) | (refine ACode.s_label ?_; conv => whnf))
        rw [hw3, hw1]
        refine ACall.of_h hIH rfl ⟨rfl, rfl, rfl, rfl, rfl, rfl, rfl, rfl, rfl, rfl, rfl, rfl, rfl, ads_closed _, trivial⟩ ?_ (fun _ _ h => h.elim)
        rintro r H1 ⟨rfl, c, hc, rfl⟩
        rw [hrp, hps2] at hc
        conv => whnf
        repeat (first | refine ACode.seq ?_ | (refine ACode.s_reg tys_ok ?_; conv => whnf) | refine ACode.s_block ?_ | refine ACode.s_scope ?_ | (refine ACode.s_cond ?_; conv => whnf) | (refine ACode.s_exit ?_; conv => whnf) | (refine ACode.s_ret ?_; conv => whnf) | (refine ACode.s_skip ?_; conv => whnf) | (refine ACode.s_label ?_; conv => whnf))
        refine ⟨(m + 1, c, fs ++ fromD f.lines W i (j + 1) (w + m + 1) (putP p l b)), ?_⟩
        conv => whnf
        repeat (refine And.intro ?_ ?_; (focus (first | rfl | (simp; done) | (first | exact hw2; done))); conv => whnf)
        dsimp only
        refine ⟨⟨by omega, hne.trans (hc.mono fun q hq => List.mem_cons_of_mem _ hq), ?_⟩, by omega⟩
        rw [hflat, ← List.append_assoc, ← hfs, ← hgm2]
       ·rw [if_neg (by rw [h5]; simp)] at hgm
        conv => whnf
        repeat (first | refine ACode.seq ?_ | (refine ACode.s_reg tys_ok ?_; conv => whnf) | refine ACode.s_block ?_ | refine ACode.s_scope ?_ | (refine ACode.s_cond ?_; conv => whnf) | (refine ACode.s_exit ?_; conv => whnf) | (refine ACode.s_ret ?_; conv => whnf) | (refine ACode.s_skip ?_; conv => whnf) | (refine ACode.s_label ?_; conv => whnf))
        refine ⟨(m + 1, putP p l b, fs), ?_⟩
        conv => whnf
        repeat (refine And.intro ?_ ?_; (focus (first | rfl | (simp; done) | (first | exact hw2; done))); conv => whnf)
        dsimp only
        refine ⟨⟨by omega, hab.trans hb1, ?_⟩, by omega⟩
        rw [hflat, hgm, List.flatMap_nil, List.append_nil]
        exact hfs
      ·have h4 : Y.length < w + m + 1 := by have := of_decide_eq_false h4; rw [strs_len] at this; omega
       obtain ⟨hz1, rfl⟩ := hstop (by omega)
       conv => whnf
       repeat (first | refine ACode.seq ?_ | (refine ACode.s_reg tys_ok ?_; conv => whnf) | refine ACode.s_block ?_ | refine ACode.s_scope ?_ | (refine ACode.s_cond ?_; conv => whnf) | (refine ACode.s_exit ?_; conv => whnf) | (refine ACode.s_ret ?_; conv => whnf) | (refine ACode.s_skip ?_; conv => whnf) | (refine ACode.s_label ?_; conv => whnf))
       refine ⟨ads_closed _, ?_⟩
       conv => whnf
       exact ⟨rfl, b, hz1, rfl⟩
     ·have h3 : mostP p < m + 1 := by have := of_decide_eq_false h3; omega
      obtain ⟨hz1, rfl⟩ := hstop (by omega)
      conv => whnf
      repeat (first | refine ACode.seq ?_ | (refine ACode.s_reg tys_ok ?_; conv => whnf) | refine ACode.s_block ?_ | refine ACode.s_scope ?_ | (refine ACode.s_cond ?_; conv => whnf) | (refine ACode.s_exit ?_; conv => whnf) | (refine ACode.s_ret ?_; conv => whnf) | (refine ACode.s_skip ?_; conv => whnf) | (refine ACode.s_label ?_; conv => whnf))
      refine ⟨ads_closed _, ?_⟩
      conv => whnf
      exact ⟨rfl, b, hz1, rfl⟩
end Go.Proofs.YtbodeejogdckgaaGreatDoor
