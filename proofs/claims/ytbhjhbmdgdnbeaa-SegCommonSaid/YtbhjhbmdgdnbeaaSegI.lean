/-
  Layer 7: contracts of the reference's At and Share.
-/
import Derived.Test.YtbhjhbmdgdnbeaaSegH
namespace Go.Vm
namespace Sg
open Go Go.RowKit Go.Proofs

/-- On which side of a line a point lies, as a number. -/
def sideP (s : Seg) (p : V2) : Int := crossP (subP s.b s.a) (subP p s.a)
theorem side_eq {s : Seg} {p : V2} (hs : validS s = true) (hp : In 4000 p) : sideI s p = sgnI (sideP s p) := by
  obtain ⟨sa, sb⟩ := valid_in hs
  rw [sideI, hs, hp.within (by decide) (by decide)]
  simp only [Bool.and_self, cond_true]
  exact turnW_eq (m := 4000) (by decide) (by decide) sa sb hp
theorem turn_side {s : Seg} {p : V2} (hs : validS s = true) (hp : In 4000 p) : turnW s.a s.b p = sgnI (sideP s p) := by
  obtain ⟨sa, sb⟩ := valid_in hs
  exact turnW_eq (m := 4000) (by decide) (by decide) sa sb hp
theorem sgn_mul {x y : Int} : sgnI x * sgnI y < 0 ↔ (x < 0 ∧ 0 < y) ∨ (0 < x ∧ y < 0) := by
  unfold sgnI
  repeat' split
  all_goals omega
theorem sgn_zero {x : Int} : sgnI x = 0 ↔ x = 0 := by
  unfold sgnI
  repeat' split
  all_goals omega
abbrev dirC (s t : Seg) : Int := crossP (subP s.b s.a) (subP t.b t.a)
theorem side_diff (s t : Seg) : sideP s t.b - sideP s t.a = dirC s t := by
  simp only [sideP, dirC, crossP, subP]
  grind
theorem cross_dir {s t : Seg} (hs : validS s = true) (ht : validS t = true) (h : crossB s t = true) : dirC s t ≠ 0 := by
  obtain ⟨ta, tb⟩ := valid_in ht
  simp only [crossB, Bool.and_eq_true, decide_eq_true_eq] at h
  have h1 := h.1
  rw [side_eq hs ta, side_eq hs tb, sgn_mul] at h1
  have := side_diff s t
  omega
theorem rmeet_two {s t : Seg} (h : rmeetI s t = 2) : validS s = true ∧ validS t = true ∧ crossB s t = true := by
  unfold rmeetI at h
  split at h
  · omega
  · rename_i hv
    have h1 : validS s = true := by
      cases hq : validS s with
      | true => rfl
      | false => exact absurd (.inl hq) hv
    have h2 : validS t = true := by
      cases hq : validS t with
      | true => rfl
      | false => exact absurd (.inr hq) hv
    split at h
    · omega
    · split at h
      · omega
      · split at h
        · rename_i hc
          exact ⟨h1, h2, hc⟩
        · omega
theorem rmeet_len {s t : Seg} : (rmeetI s t = 1 → (commonL s t).length = 1) ∧ (rmeetI s t = 3 → (commonL s t).length > 1) := by
  unfold rmeetI
  split
  · omega
  · split
    · omega
    · split
      · omega
      · split <;> omega
def ratP (s t : Seg) : P3 := if rmeetI s t = 1 then ptOf ((commonL s t).getD 0 v0) else if rmeetI s t = 2 then
  lowP (s.a.x * dirC s t + (subP s.b s.a).x * crossP (subP t.a s.a) (subP t.b t.a)) (s.a.y * dirC s t + (subP s.b s.a).y * crossP (subP t.a s.a) (subP t.b t.a)) (dirC s t) else p0
def ratB (s t : Seg) : Bool := decide (rmeetI s t = 1) || decide (rmeetI s t = 2)
theorem rat_det (s t : Seg) : Det Try.prog 12 [sD s, sD t] (ptOk (ratP s t) (ratB s t)) := by
  refine det_of_awp TTok mixed Try.func12 rfl rfl [] (Nat.le_of_ble_eq_true rfl) ?_
  refine CallW.int (rmeet_det s t) (fun k hk => ?_)
  refine Split.mk (fun h => ?_) (fun h => ?_)
  · have h1 : k = 1 := by simpa using h
    have hl := rmeet_len (s := s) (t := t).1 (by rw [← hk, h1])
    have e1 : ratP s t = ptOf ((commonL s t).getD 0 v0) := by rw [ratP, if_pos (by rw [← hk, h1])]
    have e2 : ratB s t = true := by rw [ratB, ← hk, h1]; rfl
    rw [e1, e2]
    refine CallW.mk' (common_det s t) ?_
    refine Need.mk (by omega) ?_
    refine CallW.mk' (rpointof_det ((commonL s t).getD 0 v0)) ?_
    exact Fin.rfl'
  have h1 : k ≠ 1 := by simpa using h
  refine Split.mk (fun h2 => ?_) (fun h2 => ?_)
  · have h2' : k = 2 := by simpa using h2
    obtain ⟨hs, ht, hc⟩ := rmeet_two (s := s) (t := t) (by rw [← hk, h2'])
    have hd := cross_dir hs ht hc
    have e1 : ratP s t = lowP (s.a.x * dirC s t + (subP s.b s.a).x * crossP (subP t.a s.a) (subP t.b t.a)) (s.a.y * dirC s t + (subP s.b s.a).y * crossP (subP t.a s.a) (subP t.b t.a)) (dirC s t) := by rw [ratP, if_neg (by rw [← hk]; exact h1), if_pos (by rw [← hk]; exact h2')]
    have e2 : ratB s t = true := by rw [ratB, ← hk, h2']; rfl
    rw [e1, e2]
    obtain ⟨sa, sb⟩ := valid_in hs
    obtain ⟨ta, tb⟩ := valid_in ht
    obtain ⟨eu, iu⟩ := subW_eq (by decide) sb sa
    obtain ⟨ev, iv⟩ := subW_eq (by decide) tb ta
    obtain ⟨eg, ig⟩ := subW_eq (by decide) ta sa
    obtain ⟨ea, ba1, ba2⟩ := crossW_eq (by decide) (by decide) ig iv
    obtain ⟨ed, bd1, bd2⟩ := crossW_eq (by decide) (by decide) iu iv
    have k1 := mul_abs (x := s.a.x) (y := dirC s t) (X := 4000) (Y := 128000000) ⟨sa.x0, sa.x1⟩ ⟨by simp only [dirC]; omega, by simp only [dirC]; omega⟩
    have k2 := mul_abs (x := s.a.y) (y := dirC s t) (X := 4000) (Y := 128000000) ⟨sa.y0, sa.y1⟩ ⟨by simp only [dirC]; omega, by simp only [dirC]; omega⟩
    have k3 := mul_abs (x := (subP s.b s.a).x) (y := crossP (subP t.a s.a) (subP t.b t.a)) (X := 8000) (Y := 128000000) ⟨iu.x0, iu.x1⟩ ⟨by omega, by omega⟩
    have k4 := mul_abs (x := (subP s.b s.a).y) (y := crossP (subP t.a s.a) (subP t.b t.a)) (X := 8000) (Y := 128000000) ⟨iu.y0, iu.y1⟩ ⟨by omega, by omega⟩
    have hd2 : Small (dirC s t) := by constructor <;> simp only [dirC] <;> omega
    refine CallW.v (eu ▸ sub_det s.b s.a) (fun u hu => ?_)
    refine CallW.v (ev ▸ sub_det t.b t.a) (fun v hv => ?_)
    refine Need.mk (by kernel_rfl) ?_
    refine CallW.int (cross_det u v) (fun d hd => ?_)
    refine CallW.v (eg ▸ sub_det t.a s.a) (fun g hg => ?_)
    refine CallW.int (cross_det g v) (fun n hn => ?_)
    have hd' : d = dirC s t := by rw [hd, hu, hv, ed]
    have hn' : n = crossP (subP t.a s.a) (subP t.b t.a) := by rw [hn, hg, hv, ea]
    simp only [← hd', ← hn', ← hu] at k1 k2 k3 k4 ⊢
    have w1 : w64 (w64 (s.a.x * d) + w64 (u.x * n)) = s.a.x * d + u.x * n := by simp (disch := omega) only [wid']
    have w2 : w64 (w64 (s.a.y * d) + w64 (u.y * n)) = s.a.y * d + u.y * n := by simp (disch := omega) only [wid']
    refine Need.mk (by kernel_rfl) ?_
    have dl := (lowest_det (w64 (w64 (s.a.x * d) + w64 (u.x * n))) (w64 (w64 (s.a.y * d) + w64 (u.y * n))) d (by rw [w1]; constructor <;> omega) (by rw [w2]; constructor <;> omega) (by rw [hd']; exact hd2) (by rw [hd']; assumption)).eq (show _ = TV.d (pD (lowP (s.a.x * d + u.x * n) (s.a.y * d + u.y * n) d)) by rw [w1, w2])
    refine CallW.mk' dl ?_
    refine Fin.eq ?_
    rfl
  have h2' : k ≠ 2 := by simpa using h2
  have e1 : ratP s t = p0 := by rw [ratP, if_neg (by rw [← hk]; exact h1), if_neg (by rw [← hk]; exact h2')]
  have e2 : ratB s t = false := by rw [ratB, ← hk, decide_eq_false h1, decide_eq_false h2']; rfl
  rw [e1, e2]
  exact Fin.rfl'
def rshareS (s t : Seg) : Seg := if rmeetI s t = 3 then ⟨(commonL s t).getD 0 v0, (commonL s t).getD ((commonL s t).length - 1) v0⟩ else s0
theorem rshare_det (s t : Seg) : Det Try.prog 14 [sD s, sD t] (segOk (rshareS s t) (decide (rmeetI s t = 3))) := by
  refine det_of_awp TTok mixed Try.func14 rfl rfl [] (Nat.le_of_ble_eq_true rfl) ?_
  refine CallW.int (rmeet_det s t) (fun k hk => ?_)
  refine Split.mk (fun h => ?_) (fun h => ?_)
  · have h1 : k ≠ 3 := by simpa using h
    rw [rshareS, ← hk, if_neg h1, decide_eq_false h1]
    exact Fin.rfl'
  have h1 : k = 3 := by simpa using h
  have hl := rmeet_len (s := s) (t := t).2 (by rw [← hk, h1])
  have hl4 := common_le s t
  have hw : IntKind.i64.wrap (((commonL s t).length : Int) - 1) = (((commonL s t).length - 1 : Nat) : Int) := (wid (by omega) (by omega)).trans (by omega)
  rw [rshareS, ← hk, if_pos h1, decide_eq_true h1]
  refine CallW.mk' (common_det s t) ?_
  refine Need.mk (by omega) ?_
  refine Need.mk (by rw [hw]; omega) ?_
  rw [hw, Int.toNat_natCast]
  refine Need.mk (by kernel_rfl) ?_
  exact Fin.rfl'
instance : DecidableEq P3 := fun a b => decidable_of_iff (a.x = b.x ∧ a.y = b.y ∧ a.d = b.d) ⟨fun h => P3.ext h.1 h.2.1 h.2.2, fun h => by rw [h]; exact ⟨rfl, rfl, rfl⟩⟩
instance : DecidableEq Seg := fun a b => decidable_of_iff (a.a = b.a ∧ a.b = b.b) ⟨fun h => Seg.ext h.1 h.2, fun h => by rw [h]; exact ⟨rfl, rfl⟩⟩
theorem awake_det : Det Try.prog 10 [] (tbool true) := by
  refine det_of_awp TTok mixed Try.func10 rfl rfl [] (Nat.le_of_ble_eq_true rfl) ?_
  have e1 : (meetC ⟨⟨0, 0⟩, ⟨2, 2⟩⟩ ⟨⟨0, 1⟩, ⟨1, 0⟩⟩).p = ⟨1, 1, 2⟩ := by decide +kernel
  have e2 : atB (meetC ⟨⟨0, 0⟩, ⟨2, 2⟩⟩ ⟨⟨0, 1⟩, ⟨1, 0⟩⟩) = true := by decide +kernel
  have e3 : (meetC ⟨⟨0, 0⟩, ⟨4, 0⟩⟩ ⟨⟨6, 0⟩, ⟨2, 0⟩⟩).s = ⟨⟨2, 0⟩, ⟨4, 0⟩⟩ := by decide +kernel
  have e4 : decide ((meetC ⟨⟨0, 0⟩, ⟨4, 0⟩⟩ ⟨⟨6, 0⟩, ⟨2, 0⟩⟩).kind = 3) = true := by decide +kernel
  have e5 : validP ⟨1, 1, 2⟩ = true := by decide +kernel
  have d1 := (at_det ⟨⟨0, 0⟩, ⟨2, 2⟩⟩ ⟨⟨0, 1⟩, ⟨1, 0⟩⟩).eq (show ptOk _ _ = ptOk ⟨1, 1, 2⟩ true by rw [e1, e2])
  have d2 := (share_det ⟨⟨0, 0⟩, ⟨4, 0⟩⟩ ⟨⟨6, 0⟩, ⟨2, 0⟩⟩).eq (show segOk _ _ = segOk ⟨⟨2, 0⟩, ⟨4, 0⟩⟩ true by rw [e3, e4])
  have d3 := (validp_det ⟨1, 1, 2⟩).eq (show tbool _ = tbool true by rw [e5])
  refine CallW.mk' d1 ?_
  refine CallW.mk' d2 ?_
  repeat' first | refine Split.t ?_ | refine CallW.mk' d3 ?_ | refine EqW.tt (eq28 _ _ _ _ _ _) (by decide) ?_ | refine EqW.tt (eq25 _ _ _ _ _ _ _ _) (by decide) ?_ | refine Need.mk (by kernel_rfl) ?_ | refine Fin.bool ?_ | fail
  rfl
end Sg
end Go.Vm
