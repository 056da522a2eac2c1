/-
  The law: addresses and points.
-/
import Derived.Test.YtkmhjamdgncpoaaDoorG5
set_option linter.unusedVariables false
set_option linter.unusedSimpArgs false
namespace Go.Proofs.YtkmhjamdgncpoaaDoor
open Go.Av Go.Shelf Pl Go.RowKit
theorem find_cases {r : List Ch} (h : soundP r = true) (day : Int) (a : Ad) : findP r day a = (pt0, 3) ∨ ∃ (k : Nat) (s : St), (atP r day)[k]? = some s ∧ meansS a s = true ∧ findP r day a = (⟨k, a.nu - s.sh⟩, 0) := by
  rw [findP_eq h]
  rcases find_err (atP r day) a with h0 | h0
  · right
    obtain ⟨k, s, h1, h2, h3⟩ := find_ok (l := atP r day) (a := a) (q := (findL (atP r day) a).1) (by rw [← h0])
    exact ⟨k, s, h1, h2, by rw [← h3, ← h0]⟩
  · exact .inl h0
set_option maxHeartbeats 4000000 in
set_option maxRecDepth 100000 in
theorem addresses_law (r : List Ch) (day : Int) (p : Pt) (a : Ad) : Ctr Tryd.prog 4 [chs r, .int .i64 day, p.v, a.v] (fun x => x = .bool true) := by
  refine Ctr.of_body Tryd.func4 rfl tys_ok (by kernel_rfl) ?_
  conv => whnf
  repeat (first | refine ACode.seq ?_ | (refine ACode.s_reg tys_ok ?_; conv => whnf) | refine ACode.s_block ?_ | refine ACode.s_scope ?_ | (refine ACode.s_cond ?_; conv => whnf) | (refine ACode.s_exit ?_; conv => whnf) | (refine ACode.s_ret ?_; conv => whnf) | (refine ACode.s_skip ?_; conv => whnf) | (refine ACode.s_label ?_; conv => whnf))
  refine ACall.of_spec (head_spec) rfl fun r hr => ?_
  subst hr
  conv => whnf
  repeat (first | refine ACode.seq ?_ | (refine ACode.s_reg tys_ok ?_; conv => whnf) | refine ACode.s_block ?_ | refine ACode.s_scope ?_ | (refine ACode.s_cond ?_; conv => whnf) | (refine ACode.s_exit ?_; conv => whnf) | (refine ACode.s_ret ?_; conv => whnf) | (refine ACode.s_skip ?_; conv => whnf) | (refine ACode.s_label ?_; conv => whnf))
  refine ACall.of_spec (Sound_spec r) rfl fun r hr => ?_
  subst hr
  conv => whnf
  repeat (first | refine ACode.seq ?_ | (refine ACode.s_reg tys_ok ?_; conv => whnf) | refine ACode.s_block ?_ | refine ACode.s_scope ?_ | (refine ACode.s_cond ?_; conv => whnf) | (refine ACode.s_exit ?_; conv => whnf) | (refine ACode.s_ret ?_; conv => whnf) | (refine ACode.s_skip ?_; conv => whnf) | (refine ACode.s_label ?_; conv => whnf))
  refine ⟨fun h => ?_, fun h => ?_⟩; rotate_left
  · conv => whnf
    repeat (first | refine ACode.seq ?_ | (refine ACode.s_reg tys_ok ?_; conv => whnf) | refine ACode.s_block ?_ | refine ACode.s_scope ?_ | (refine ACode.s_cond ?_; conv => whnf) | (refine ACode.s_exit ?_; conv => whnf) | (refine ACode.s_ret ?_; conv => whnf) | (refine ACode.s_skip ?_; conv => whnf) | (refine ACode.s_label ?_; conv => whnf))
  have hs := sound_of h
  clear h
  conv => whnf
  repeat (first | refine ACode.seq ?_ | (refine ACode.s_reg tys_ok ?_; conv => whnf) | refine ACode.s_block ?_ | refine ACode.s_scope ?_ | (refine ACode.s_cond ?_; conv => whnf) | (refine ACode.s_exit ?_; conv => whnf) | (refine ACode.s_ret ?_; conv => whnf) | (refine ACode.s_skip ?_; conv => whnf) | (refine ACode.s_label ?_; conv => whnf))
  refine ⟨fun h0 => ?_, fun h0 => ?_⟩
  · conv => whnf
    repeat (first | refine ACode.seq ?_ | (refine ACode.s_reg tys_ok ?_; conv => whnf) | refine ACode.s_block ?_ | refine ACode.s_scope ?_ | (refine ACode.s_cond ?_; conv => whnf) | (refine ACode.s_exit ?_; conv => whnf) | (refine ACode.s_ret ?_; conv => whnf) | (refine ACode.s_skip ?_; conv => whnf) | (refine ACode.s_label ?_; conv => whnf))
  conv => whnf
  repeat (first | refine ACode.seq ?_ | (refine ACode.s_reg tys_ok ?_; conv => whnf) | refine ACode.s_block ?_ | refine ACode.s_scope ?_ | (refine ACode.s_cond ?_; conv => whnf) | (refine ACode.s_exit ?_; conv => whnf) | (refine ACode.s_ret ?_; conv => whnf) | (refine ACode.s_skip ?_; conv => whnf) | (refine ACode.s_label ?_; conv => whnf))
  have hfree := at_free hs day
  rcases name_cases hs day p with hp | ⟨s, hp, ep⟩
  · refine ACall.of_spec (name_t hp) rfl fun r hr => ?_
    subst hr
    conv => whnf
    repeat (first | refine ACode.seq ?_ | (refine ACode.s_reg tys_ok ?_; conv => whnf) | refine ACode.s_block ?_ | refine ACode.s_scope ?_ | (refine ACode.s_cond ?_; conv => whnf) | (refine ACode.s_exit ?_; conv => whnf) | (refine ACode.s_ret ?_; conv => whnf) | (refine ACode.s_skip ?_; conv => whnf) | (refine ACode.s_label ?_; conv => whnf))
    repeat (first | (refine ⟨fun _ => ?_, fun h => absurd h (by decide +kernel)⟩; conv => whnf) | (refine ⟨fun h => absurd h (by decide +kernel), fun _ => ?_⟩; conv => whnf) | (refine ⟨by decide, _, rfl, ?_⟩; conv => whnf) | refine ACode.seq ?_ | (refine ACode.s_reg tys_ok ?_; conv => whnf) | refine ACode.s_block ?_ | refine ACode.s_scope ?_ | (refine ACode.s_cond ?_; conv => whnf) | (refine ACode.s_exit ?_; conv => whnf) | (refine ACode.s_ret ?_; conv => whnf) | (refine ACode.s_skip ?_; conv => whnf) | (refine ACode.s_label ?_; conv => whnf))
    rcases find_cases hs day a with hf | ⟨k, t, hk, hm, hf⟩
    · refine ACall.of_spec (find_t hf) rfl fun r hr => ?_
      subst hr
      conv => whnf
      repeat (first | refine ACode.seq ?_ | (refine ACode.s_reg tys_ok ?_; conv => whnf) | refine ACode.s_block ?_ | refine ACode.s_scope ?_ | (refine ACode.s_cond ?_; conv => whnf) | (refine ACode.s_exit ?_; conv => whnf) | (refine ACode.s_ret ?_; conv => whnf) | (refine ACode.s_skip ?_; conv => whnf) | (refine ACode.s_label ?_; conv => whnf))
      repeat (first | (refine ⟨fun _ => ?_, fun h => absurd h (by decide +kernel)⟩; conv => whnf) | (refine ⟨fun h => absurd h (by decide +kernel), fun _ => ?_⟩; conv => whnf) | (refine ⟨by decide, _, rfl, ?_⟩; conv => whnf) | refine ACode.seq ?_ | (refine ACode.s_reg tys_ok ?_; conv => whnf) | refine ACode.s_block ?_ | refine ACode.s_scope ?_ | (refine ACode.s_cond ?_; conv => whnf) | (refine ACode.s_exit ?_; conv => whnf) | (refine ACode.s_ret ?_; conv => whnf) | (refine ACode.s_skip ?_; conv => whnf) | (refine ACode.s_label ?_; conv => whnf))
      rfl
    obtain ⟨m1, m2, m3, m4, m5⟩ := means_iff.1 hm
    have hq : Has (atP r day) ⟨k, a.nu - t.sh⟩ t := ⟨by simp only; omega, by simpa using hk, m1, by simp only; omega, by simp only; omega⟩
    refine ACall.of_spec (find_t hf) rfl fun r hr => ?_
    subst hr
    conv => whnf
    repeat (first | refine ACode.seq ?_ | (refine ACode.s_reg tys_ok ?_; conv => whnf) | refine ACode.s_block ?_ | refine ACode.s_scope ?_ | (refine ACode.s_cond ?_; conv => whnf) | (refine ACode.s_exit ?_; conv => whnf) | (refine ACode.s_ret ?_; conv => whnf) | (refine ACode.s_skip ?_; conv => whnf) | (refine ACode.s_label ?_; conv => whnf))
    repeat (first | (refine ⟨fun _ => ?_, fun h => absurd h (by decide +kernel)⟩; conv => whnf) | (refine ⟨fun h => absurd h (by decide +kernel), fun _ => ?_⟩; conv => whnf) | (refine ⟨by decide, _, rfl, ?_⟩; conv => whnf) | refine ACode.seq ?_ | (refine ACode.s_reg tys_ok ?_; conv => whnf) | refine ACode.s_block ?_ | refine ACode.s_scope ?_ | (refine ACode.s_cond ?_; conv => whnf) | (refine ACode.s_exit ?_; conv => whnf) | (refine ACode.s_ret ?_; conv => whnf) | (refine ACode.s_skip ?_; conv => whnf) | (refine ACode.s_label ?_; conv => whnf))
    refine ACall.of_spec (At_spec r day) rfl fun r hr => ?_
    subst hr
    conv => whnf
    repeat (first | refine ACode.seq ?_ | (refine ACode.s_reg tys_ok ?_; conv => whnf) | refine ACode.s_block ?_ | refine ACode.s_scope ?_ | (refine ACode.s_cond ?_; conv => whnf) | (refine ACode.s_exit ?_; conv => whnf) | (refine ACode.s_ret ?_; conv => whnf) | (refine ACode.s_skip ?_; conv => whnf) | (refine ACode.s_label ?_; conv => whnf))
    refine ACall.of_spec (name_t ((nameP_eq hs day _).trans (name_has hq))) rfl fun r hr => ?_
    subst hr
    conv => whnf
    repeat (first | refine ACode.seq ?_ | (refine ACode.s_reg tys_ok ?_; conv => whnf) | refine ACode.s_block ?_ | refine ACode.s_scope ?_ | (refine ACode.s_cond ?_; conv => whnf) | (refine ACode.s_exit ?_; conv => whnf) | (refine ACode.s_ret ?_; conv => whnf) | (refine ACode.s_skip ?_; conv => whnf) | (refine ACode.s_label ?_; conv => whnf))
    repeat (first | (refine ⟨fun _ => ?_, fun h => absurd h (by decide +kernel)⟩; conv => whnf) | (refine ⟨fun h => absurd h (by decide +kernel), fun _ => ?_⟩; conv => whnf) | (refine ⟨by decide, _, rfl, ?_⟩; conv => whnf) | refine ACode.seq ?_ | (refine ACode.s_reg tys_ok ?_; conv => whnf) | refine ACode.s_block ?_ | refine ACode.s_scope ?_ | (refine ACode.s_cond ?_; conv => whnf) | (refine ACode.s_exit ?_; conv => whnf) | (refine ACode.s_ret ?_; conv => whnf) | (refine ACode.s_skip ?_; conv => whnf) | (refine ACode.s_label ?_; conv => whnf))
    have hgt := (at_good r day).1 t (List.mem_of_getElem? hk)
    have gk : (List.map St.v (atP r day))[((k : Nat) : Int).toNat]? = some t.v := by rw [Int.toNat_natCast, List.getElem?_map, hk]; rfl
    have hkl := (List.getElem?_eq_some_iff.1 hk).1
    refine ACode.draw [] tys_ok (by kernel_rfl) (by kernel_rfl) ?_
    conv => whnf
    repeat (first | (refine And.intro (fun _ => ?_) (fun h => absurd h (by first | decide | (simp [adS, m2]; done) | (simp [adS]; omega))); conv => whnf) | (refine ⟨by (simp only; omega), t.v, gk, ?_⟩; conv => whnf) | (refine ⟨_, ⟨Named_spec t a.st (by have := hgt.al; omega) (by have := hgt.na; omega) (fun x hx => by have := hgt.ass x hx; omega), rfl⟩, ?_⟩; conv => whnf))
    repeat (first | refine ACode.seq ?_ | (refine ACode.s_reg tys_ok ?_; conv => whnf) | refine ACode.s_block ?_ | refine ACode.s_scope ?_ | (refine ACode.s_cond ?_; conv => whnf) | (refine ACode.s_exit ?_; conv => whnf) | (refine ACode.s_ret ?_; conv => whnf) | (refine ACode.s_skip ?_; conv => whnf) | (refine ACode.s_label ?_; conv => whnf))
  refine ACall.of_spec (name_t ep) rfl fun r hr => ?_
  subst hr
  conv => whnf
  repeat (first | refine ACode.seq ?_ | (refine ACode.s_reg tys_ok ?_; conv => whnf) | refine ACode.s_block ?_ | refine ACode.s_scope ?_ | (refine ACode.s_cond ?_; conv => whnf) | (refine ACode.s_exit ?_; conv => whnf) | (refine ACode.s_ret ?_; conv => whnf) | (refine ACode.s_skip ?_; conv => whnf) | (refine ACode.s_label ?_; conv => whnf))
  repeat (first | (refine ⟨fun _ => ?_, fun h => absurd h (by decide +kernel)⟩; conv => whnf) | (refine ⟨fun h => absurd h (by decide +kernel), fun _ => ?_⟩; conv => whnf) | (refine ⟨by decide, _, rfl, ?_⟩; conv => whnf) | refine ACode.seq ?_ | (refine ACode.s_reg tys_ok ?_; conv => whnf) | refine ACode.s_block ?_ | refine ACode.s_scope ?_ | (refine ACode.s_cond ?_; conv => whnf) | (refine ACode.s_exit ?_; conv => whnf) | (refine ACode.s_ret ?_; conv => whnf) | (refine ACode.s_skip ?_; conv => whnf) | (refine ACode.s_label ?_; conv => whnf))
  refine ACall.of_spec (find_t ((findP_eq hs day (adS s p)).trans (find_has hfree hp (named_self s)))) rfl fun r hr => ?_
  subst hr
  conv => whnf
  repeat (first | refine ACode.seq ?_ | (refine ACode.s_reg tys_ok ?_; conv => whnf) | refine ACode.s_block ?_ | refine ACode.s_scope ?_ | (refine ACode.s_cond ?_; conv => whnf) | (refine ACode.s_exit ?_; conv => whnf) | (refine ACode.s_ret ?_; conv => whnf) | (refine ACode.s_skip ?_; conv => whnf) | (refine ACode.s_label ?_; conv => whnf))
  repeat (first | (refine ⟨fun _ => ?_, fun h => absurd h (by decide +kernel)⟩; conv => whnf) | (refine ⟨fun h => absurd h (by decide +kernel), fun _ => ?_⟩; conv => whnf) | (refine ⟨by decide, _, rfl, ?_⟩; conv => whnf) | refine ACode.seq ?_ | (refine ACode.s_reg tys_ok ?_; conv => whnf) | refine ACode.s_block ?_ | refine ACode.s_scope ?_ | (refine ACode.s_cond ?_; conv => whnf) | (refine ACode.s_exit ?_; conv => whnf) | (refine ACode.s_ret ?_; conv => whnf) | (refine ACode.s_skip ?_; conv => whnf) | (refine ACode.s_label ?_; conv => whnf))
  refine And.intro (fun _ => ?_) (fun h => absurd h (by simp))
  conv => whnf
  repeat (first | refine ACode.seq ?_ | (refine ACode.s_reg tys_ok ?_; conv => whnf) | refine ACode.s_block ?_ | refine ACode.s_scope ?_ | (refine ACode.s_cond ?_; conv => whnf) | (refine ACode.s_exit ?_; conv => whnf) | (refine ACode.s_ret ?_; conv => whnf) | (refine ACode.s_skip ?_; conv => whnf) | (refine ACode.s_label ?_; conv => whnf))
  refine And.intro (fun h => absurd h (by simp [adS])) (fun _ => ?_)
  conv => whnf
  repeat (first | refine ACode.seq ?_ | (refine ACode.s_reg tys_ok ?_; conv => whnf) | refine ACode.s_block ?_ | refine ACode.s_scope ?_ | (refine ACode.s_cond ?_; conv => whnf) | (refine ACode.s_exit ?_; conv => whnf) | (refine ACode.s_ret ?_; conv => whnf) | (refine ACode.s_skip ?_; conv => whnf) | (refine ACode.s_label ?_; conv => whnf))
  rcases find_cases hs day a with hf | ⟨k, t, hk, hm, hf⟩
  · refine ACall.of_spec (find_t hf) rfl fun r hr => ?_
    subst hr
    conv => whnf
    repeat (first | refine ACode.seq ?_ | (refine ACode.s_reg tys_ok ?_; conv => whnf) | refine ACode.s_block ?_ | refine ACode.s_scope ?_ | (refine ACode.s_cond ?_; conv => whnf) | (refine ACode.s_exit ?_; conv => whnf) | (refine ACode.s_ret ?_; conv => whnf) | (refine ACode.s_skip ?_; conv => whnf) | (refine ACode.s_label ?_; conv => whnf))
    repeat (first | (refine ⟨fun _ => ?_, fun h => absurd h (by decide +kernel)⟩; conv => whnf) | (refine ⟨fun h => absurd h (by decide +kernel), fun _ => ?_⟩; conv => whnf) | (refine ⟨by decide, _, rfl, ?_⟩; conv => whnf) | refine ACode.seq ?_ | (refine ACode.s_reg tys_ok ?_; conv => whnf) | refine ACode.s_block ?_ | refine ACode.s_scope ?_ | (refine ACode.s_cond ?_; conv => whnf) | (refine ACode.s_exit ?_; conv => whnf) | (refine ACode.s_ret ?_; conv => whnf) | (refine ACode.s_skip ?_; conv => whnf) | (refine ACode.s_label ?_; conv => whnf))
    rfl
  obtain ⟨m1, m2, m3, m4, m5⟩ := means_iff.1 hm
  have hq : Has (atP r day) ⟨k, a.nu - t.sh⟩ t := ⟨by simp only; omega, by simpa using hk, m1, by simp only; omega, by simp only; omega⟩
  refine ACall.of_spec (find_t hf) rfl fun r hr => ?_
  subst hr
  conv => whnf
  repeat (first | refine ACode.seq ?_ | (refine ACode.s_reg tys_ok ?_; conv => whnf) | refine ACode.s_block ?_ | refine ACode.s_scope ?_ | (refine ACode.s_cond ?_; conv => whnf) | (refine ACode.s_exit ?_; conv => whnf) | (refine ACode.s_ret ?_; conv => whnf) | (refine ACode.s_skip ?_; conv => whnf) | (refine ACode.s_label ?_; conv => whnf))
  repeat (first | (refine ⟨fun _ => ?_, fun h => absurd h (by decide +kernel)⟩; conv => whnf) | (refine ⟨fun h => absurd h (by decide +kernel), fun _ => ?_⟩; conv => whnf) | (refine ⟨by decide, _, rfl, ?_⟩; conv => whnf) | refine ACode.seq ?_ | (refine ACode.s_reg tys_ok ?_; conv => whnf) | refine ACode.s_block ?_ | refine ACode.s_scope ?_ | (refine ACode.s_cond ?_; conv => whnf) | (refine ACode.s_exit ?_; conv => whnf) | (refine ACode.s_ret ?_; conv => whnf) | (refine ACode.s_skip ?_; conv => whnf) | (refine ACode.s_label ?_; conv => whnf))
  refine ACall.of_spec (At_spec r day) rfl fun r hr => ?_
  subst hr
  conv => whnf
  repeat (first | refine ACode.seq ?_ | (refine ACode.s_reg tys_ok ?_; conv => whnf) | refine ACode.s_block ?_ | refine ACode.s_scope ?_ | (refine ACode.s_cond ?_; conv => whnf) | (refine ACode.s_exit ?_; conv => whnf) | (refine ACode.s_ret ?_; conv => whnf) | (refine ACode.s_skip ?_; conv => whnf) | (refine ACode.s_label ?_; conv => whnf))
  refine ACall.of_spec (name_t ((nameP_eq hs day _).trans (name_has hq))) rfl fun r hr => ?_
  subst hr
  conv => whnf
  repeat (first | refine ACode.seq ?_ | (refine ACode.s_reg tys_ok ?_; conv => whnf) | refine ACode.s_block ?_ | refine ACode.s_scope ?_ | (refine ACode.s_cond ?_; conv => whnf) | (refine ACode.s_exit ?_; conv => whnf) | (refine ACode.s_ret ?_; conv => whnf) | (refine ACode.s_skip ?_; conv => whnf) | (refine ACode.s_label ?_; conv => whnf))
  repeat (first | (refine ⟨fun _ => ?_, fun h => absurd h (by decide +kernel)⟩; conv => whnf) | (refine ⟨fun h => absurd h (by decide +kernel), fun _ => ?_⟩; conv => whnf) | (refine ⟨by decide, _, rfl, ?_⟩; conv => whnf) | refine ACode.seq ?_ | (refine ACode.s_reg tys_ok ?_; conv => whnf) | refine ACode.s_block ?_ | refine ACode.s_scope ?_ | (refine ACode.s_cond ?_; conv => whnf) | (refine ACode.s_exit ?_; conv => whnf) | (refine ACode.s_ret ?_; conv => whnf) | (refine ACode.s_skip ?_; conv => whnf) | (refine ACode.s_label ?_; conv => whnf))
  have hgt := (at_good r day).1 t (List.mem_of_getElem? hk)
  have gk : (List.map St.v (atP r day))[((k : Nat) : Int).toNat]? = some t.v := by rw [Int.toNat_natCast, List.getElem?_map, hk]; rfl
  have hkl := (List.getElem?_eq_some_iff.1 hk).1
  refine ACode.draw [] tys_ok (by kernel_rfl) (by kernel_rfl) ?_
  conv => whnf
  repeat (first | (refine And.intro (fun _ => ?_) (fun h => absurd h (by first | decide | (simp [adS, m2]; done) | (simp [adS]; omega))); conv => whnf) | (refine ⟨by (simp only; omega), t.v, gk, ?_⟩; conv => whnf) | (refine ⟨_, ⟨Named_spec t a.st (by have := hgt.al; omega) (by have := hgt.na; omega) (fun x hx => by have := hgt.ass x hx; omega), rfl⟩, ?_⟩; conv => whnf))
  repeat (first | refine ACode.seq ?_ | (refine ACode.s_reg tys_ok ?_; conv => whnf) | refine ACode.s_block ?_ | refine ACode.s_scope ?_ | (refine ACode.s_cond ?_; conv => whnf) | (refine ACode.s_exit ?_; conv => whnf) | (refine ACode.s_ret ?_; conv => whnf) | (refine ACode.s_skip ?_; conv => whnf) | (refine ACode.s_label ?_; conv => whnf))
end Go.Proofs.YtkmhjamdgncpoaaDoor
