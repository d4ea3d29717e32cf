/-
  Layer 7: the law SegCommon.
-/
import Derived.Test.YtbhjhbmdgdnbeaaSegS
namespace Go.Vm
namespace Sg
open Go Go.RowKit Go.Proofs

theorem kind_cases (s t : Seg) : (meetC s t).kind = 0 ∨ (meetC s t).kind = 1 ∨ (meetC s t).kind = 2 ∨ (meetC s t).kind = 3 := by
  rw [(meet_agree s t).1, rmeetI]
  repeat' split
  all_goals simp
set_option maxRecDepth 100000 in
set_option maxHeartbeats 1000000 in
theorem lcommon_det (s t : Seg) (p : V2) : Det Try.prog 5 [sD s, sD t, vD p] (tbool true) := by
  refine det_of_awp TTok mixed Try.func5 rfl rfl [] (Nat.le_of_ble_eq_true rfl) ?_
  refine CallW.mk' awake_det ?_
  refine Split.f ?_
  refine CallW.bool (valid_det s) (fun w1 hw1 => ?_)
  refine Split.mk (fun n1 => ?_) (fun n1 => ?_)
  · repeat' first | refine Split.t ?_ | refine Fin.bool ?_ | fail
    rfl
  repeat' first | refine Split.f ?_ | fail
  refine CallW.bool (valid_det t) (fun w2 hw2 => ?_)
  repeat' first | refine Split.f ?_ | fail
  refine Split.mk (fun n2 => ?_) (fun n2 => ?_)
  · repeat' first | refine Split.t ?_ | refine Fin.bool ?_ | fail
    rfl
  repeat' first | refine Split.f ?_ | fail
  refine CallW.bool (within_det p 4000) (fun w3 hw3 => ?_)
  repeat' first | refine Split.f ?_ | fail
  refine Split.mk (fun n3 => ?_) (fun n3 => ?_)
  · repeat' first | refine Split.t ?_ | refine Fin.bool ?_ | fail
    rfl
  have hs : validS s = true := by rw [← hw1]; simpa using n1
  have ht : validS t = true := by rw [← hw2]; simpa using n2
  have S := meet_spec hs ht
  have KC := kind_cases s t
  have P := S.pts p
  refine CallW.ptOk (at_det s t) (fun q ok hq hok => ?_)
  refine CallW.segOk (share_det s t) (fun x is hx his => ?_)
  refine CallW.int (vmeet_det s t) (fun k hk => ?_)
  rw [← hk] at KC his P
  have hok2 : ok = (decide (k = 1) || decide (k = 2)) := by rw [hok, hk]; rfl
  rw [← hok, ← hq, ← hx] at P
  have V := S.val
  rw [← hok, ← hq] at V
  have G := S.seg
  rw [← hk, ← hx] at G
  have point : ok = true → is = false → k ≠ 3 → (onB s p = true ∧ onB t p = true ↔ q = ptOf p) := fun h1 _ h3 => by
    rw [P, h1]
    exact ⟨fun h => h.elim (fun h => h.2) (fun h => absurd h.1 h3), fun h => .inl ⟨rfl, h⟩⟩
  rcases KC with rfl | rfl | rfl | rfl
  · obtain rfl : ok = false := hok2
    obtain rfl : is = false := his
    have hno : ¬ (onB s p = true ∧ onB t p = true) := fun h => (P.1 h).elim (fun h => absurd h.1 (by decide)) (fun h => absurd h.1 (by decide))
    repeat' first | refine Split.f ?_ | refine Split.t ?_ | refine Need.mk rfl ?_ | fail
    refine CallW.bool (on_det s p) (fun a ha => ?_)
    refine Split.mk (fun k1 => ?_) (fun k1 => ?_)
    · subst k1
      repeat' first | refine Split.f ?_ | refine Split.t ?_ | refine CallW.bool (on_det t p) (fun b hb => ?_) | refine Need.mk (by kernel_rfl) ?_ | refine Fin.bool ?_ | fail
      have : b = false := by
        rw [Bool.eq_false_iff]
        exact fun h => hno ⟨ha.symm, by rw [← hb]; exact h⟩
      rw [this]
      rfl
    · subst k1
      repeat' first | refine Split.f ?_ | refine Split.t ?_ | refine Need.mk (by kernel_rfl) ?_ | refine Fin.bool ?_ | fail
      rfl
  · obtain rfl : ok = true := hok2
    obtain rfl : is = false := his
    have hv := V rfl
    have hp := point rfl rfl (by decide)
    repeat' first | refine Split.f ?_ | refine Split.t ?_ | refine Need.mk rfl ?_ | refine CallW.mk' (hv ▸ validp_det q) ?_ | refine Need.mk (by kernel_rfl) ?_ | fail
    refine CallW.bool (on_det s p) (fun a ha => ?_)
    refine Split.mk (fun k1 => ?_) (fun k1 => ?_)
    · subst k1
      repeat' first | refine Split.t ?_ | fail
      refine CallW.bool (on_det t p) (fun b hb => ?_)
      repeat' first | refine Split.t ?_ | refine CallW.mk' (pointof_det p) ?_ | fail
      refine EqW.p q (ptOf p) (fun g hg => ?_)
      have hbg : b = g := by
        rw [Bool.eq_iff_iff, hg, ← hp, hb]
        exact ⟨fun h => ⟨ha.symm, h⟩, fun h => h.2⟩
      subst hbg
      repeat' first | refine Split.f ?_ | refine Split.t ?_ | refine Need.mk (by kernel_rfl) ?_ | fail
      refine Split.mk (fun k2 => ?_) (fun k2 => ?_)
      · subst k2
        repeat' first | refine Split.f ?_ | refine Split.t ?_ | refine Need.mk (by kernel_rfl) ?_ | refine Fin.bool ?_ | fail
        rfl
      · subst k2
        repeat' first | refine Split.f ?_ | refine Split.t ?_ | refine Need.mk (by kernel_rfl) ?_ | refine Fin.bool ?_ | fail
        rfl
    · subst k1
      repeat' first | refine Split.f ?_ | refine Split.t ?_ | refine CallW.mk' (pointof_det p) ?_ | fail
      refine EqW.p q (ptOf p) (fun g hg => ?_)
      have hbg : g = false := by
        rw [Bool.eq_false_iff, Ne, hg, ← hp]
        exact fun h => by rw [← ha] at h; exact absurd h.1 (by decide)
      subst hbg
      repeat' first | refine Split.f ?_ | refine Split.t ?_ | refine Need.mk (by kernel_rfl) ?_ | refine Fin.bool ?_ | fail
      rfl
  · obtain rfl : ok = true := hok2
    obtain rfl : is = false := his
    have hv := V rfl
    have hp := point rfl rfl (by decide)
    repeat' first | refine Split.f ?_ | refine Split.t ?_ | refine Need.mk rfl ?_ | refine CallW.mk' (hv ▸ validp_det q) ?_ | refine Need.mk (by kernel_rfl) ?_ | fail
    refine CallW.bool (on_det s p) (fun a ha => ?_)
    refine Split.mk (fun k1 => ?_) (fun k1 => ?_)
    · subst k1
      repeat' first | refine Split.t ?_ | fail
      refine CallW.bool (on_det t p) (fun b hb => ?_)
      repeat' first | refine Split.t ?_ | refine CallW.mk' (pointof_det p) ?_ | fail
      refine EqW.p q (ptOf p) (fun g hg => ?_)
      have hbg : b = g := by
        rw [Bool.eq_iff_iff, hg, ← hp, hb]
        exact ⟨fun h => ⟨ha.symm, h⟩, fun h => h.2⟩
      subst hbg
      repeat' first | refine Split.f ?_ | refine Split.t ?_ | refine Need.mk (by kernel_rfl) ?_ | fail
      refine Split.mk (fun k2 => ?_) (fun k2 => ?_)
      · subst k2
        repeat' first | refine Split.f ?_ | refine Split.t ?_ | refine Need.mk (by kernel_rfl) ?_ | refine Fin.bool ?_ | fail
        rfl
      · subst k2
        repeat' first | refine Split.f ?_ | refine Split.t ?_ | refine Need.mk (by kernel_rfl) ?_ | refine Fin.bool ?_ | fail
        rfl
    · subst k1
      repeat' first | refine Split.f ?_ | refine Split.t ?_ | refine CallW.mk' (pointof_det p) ?_ | fail
      refine EqW.p q (ptOf p) (fun g hg => ?_)
      have hbg : g = false := by
        rw [Bool.eq_false_iff, Ne, hg, ← hp]
        exact fun h => by rw [← ha] at h; exact absurd h.1 (by decide)
      subst hbg
      repeat' first | refine Split.f ?_ | refine Split.t ?_ | refine Need.mk (by kernel_rfl) ?_ | refine Fin.bool ?_ | fail
      rfl
  · obtain rfl : ok = false := hok2
    obtain rfl : is = true := his
    obtain ⟨⟨g1, g2⟩, ⟨g3, g4⟩, g5⟩ := G rfl
    have hp : onB s p = true ∧ onB t p = true ↔ onB x p = true := by
      rw [P]
      exact ⟨fun h => h.elim (fun h => absurd h.1 (by decide)) (fun h => h.2), fun h => .inr ⟨rfl, h⟩⟩
    repeat' first | refine Split.f ?_ | refine Split.t ?_ | refine Need.mk rfl ?_ | refine CallW.mk' (g1 ▸ on_det s x.a) ?_ | refine CallW.mk' (g2 ▸ on_det s x.b) ?_ | refine CallW.mk' (g3 ▸ on_det t x.a) ?_ | refine CallW.mk' (g4 ▸ on_det t x.b) ?_ | refine CallW.mk' (g5 ▸ less_det x.a x.b) ?_ | fail
    refine CallW.bool (on_det s p) (fun a ha => ?_)
    refine Split.mk (fun k1 => ?_) (fun k1 => ?_)
    · subst k1
      repeat' first | refine Split.t ?_ | fail
      refine CallW.bool (on_det t p) (fun b hb => ?_)
      repeat' first | refine Split.f ?_ | refine Split.t ?_ | fail
      refine CallW.bool (on_det x p) (fun g hg => ?_)
      have hbg : b = g := by
        rw [Bool.eq_iff_iff, hg, ← hp, hb]
        exact ⟨fun h => ⟨ha.symm, h⟩, fun h => h.2⟩
      subst hbg
      repeat' first | refine Split.f ?_ | refine Split.t ?_ | refine Need.mk (by kernel_rfl) ?_ | refine Fin.bool ?_ | fail
      exact beq_self_eq_true _
    · subst k1
      repeat' first | refine Split.f ?_ | refine Split.t ?_ | fail
      refine CallW.bool (on_det x p) (fun g hg => ?_)
      have hbg : g = false := by
        rw [Bool.eq_false_iff, hg, Ne, ← hp]
        exact fun h => by rw [← ha] at h; exact absurd h.1 (by decide)
      subst hbg
      repeat' first | refine Split.f ?_ | refine Split.t ?_ | refine Need.mk (by kernel_rfl) ?_ | refine Fin.bool ?_ | fail
      rfl
theorem lcommon_all : ∀ dvs, TypL Try.prog Try.f5.params.toList dvs → Det Try.prog 5 dvs (tbool true) := by
  intro dvs h
  obtain ⟨v0, r0, rfl, h0, q0⟩ := TypL.inv_cons (t := 25) (ts := [25, 23]) h
  obtain ⟨v1, r1, rfl, h1, q1⟩ := TypL.inv_cons q0
  obtain ⟨v2, r2, rfl, h2, q2⟩ := TypL.inv_cons q1
  obtain rfl := TypL.inv_nil q2
  obtain ⟨s, rfl, _⟩ := seg_of h0
  obtain ⟨t, rfl, _⟩ := seg_of h1
  obtain ⟨v, rfl, _⟩ := vec_of h2
  exact lcommon_det s t v
end Sg
end Go.Vm
