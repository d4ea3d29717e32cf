/-
  Layer 26: contracts of the references on rows, and the law BarRow.
-/
import Derived.Test.YtlckiecpelchlaaBarJ
namespace Go.Vm
set_option maxRecDepth 20000
set_option linter.unusedVariables false
set_option linter.unusedSimpArgs false
open Go Go.RowKit Go.Proofs

theorem anyB_t {b : Nat → Bool} {n k : Nat} (hk : k < n) (h : b k = true) : anyB b n = true := by
  simp only [anyB, decide_eq_true_eq]
  exact (firstAt_nonneg b n 0).2 ⟨k, hk, by rwa [Nat.zero_add]⟩
theorem anyB_f {b : Nat → Bool} {n : Nat} (h : ∀ k, k < n → b k = false) : anyB b n = false := by
  simp only [anyB, decide_eq_false_iff_not]
  intro hh
  obtain ⟨k, hk, hv⟩ := (firstAt_nonneg b n 0).1 hh
  rw [Nat.zero_add, h k hk] at hv
  cases hv
theorem badB_t {R : Nat → BP} {n k : Nat} (hk : k < n) (h : validP (R k) = false) : badB R n = true := anyB_t (b := fun i => !validP (R i)) hk (by simp [h])
theorem badB_f {R : Nat → BP} {n : Nat} (h : ∀ k, k < n → validP (R k) = true) : badB R n = false := anyB_f (b := fun i => !validP (R i)) (fun k hk => by simp [h k hk])
theorem VR.of_err {n : Nat} {R : Nat → BP} {kerf : Int} (h : errI n R kerf = 0) : VR n R kerf := by
  unfold errI at h
  split at h
  · omega
  · rename_i hb
    split at h
    · omega
    · refine ⟨by omega, by omega, by omega, fun i hi => VP.of ?_⟩
      cases hv : validP (R i) with
      | true => rfl
      | false => exact absurd (.inr (.inr (badB_t hi hv))) hb

theorem checked_det (n : Nat) (R : Nat → BP) (kerf : Int) (hn : n ≤ maxLen) : Det Try.prog 96 [.one (rowS n R), .one (i64 kerf)] (tint (errI n R kerf)) := by
  have hm : (n : Int) < 9223372036854775808 := by simp only [maxLen] at hn; omega
  refine det_of_awp TTok mixed Try.func96 rfl rfl [] (Nat.le_of_ble_eq_true rfl) ?_
  refine Loop.by (α := Nat) (fun k => [(0, .d (.one (rowS n R))), (1, tint kerf), (5, tint k)]) (fun _ => []) (fun k => k ≤ n ∧ ∀ i, i < k → validP (R i) = true) (fun k => n - k)
    (Adj.at 0 ⟨Nat.zero_le _, fun _ h => absurd h (Nat.not_lt_zero _)⟩ .nil (.cons .same (.cons .same (.cons .same .nil)))) (fun k hi => ?_)
  obtain ⟨hk, hi⟩ := hi
  refine Split.mk (fun h3 => ?_) (fun h3 => ?_)
  · have hlt : k < n := by have := of_decide_eq_true h3; omega
    have hw64 : IntKind.i64.wrap ((k : Int) + 1) = ((k + 1 : Nat) : Int) := (w64_id ⟨by omega, by omega⟩).trans (by omega)
    refine Need.mk (by omega) ?_
    refine CallW.bool (rvalidp_det (R k)) (fun c hc => ?_)
    refine Split.mk (fun h4 => ?_) (fun h4 => ?_)
    · refine Fin.int ?_
      have : validP (R k) = false := by rw [← hc]; simpa using h4
      rw [errI, if_pos (.inr (.inr (badB_t hlt this)))]
    · refine Adj.back (x := k) (k + 1) ⟨hlt, fun i hik => ?_⟩ (by omega) .nil (.cons .same (.cons .same (.cons (SlotLe.int hw64) .nil)))
      by_cases e : i = k
      · subst e; rw [← hc]; simpa using h4
      · exact hi i (by omega)
  · have e : k = n := by have := of_decide_eq_false h3; omega
    subst e
    have hb := badB_f hi
    repeat' first | refine CallW.bool (within_det _ _ _) (fun _ _ => ?_) | refine Split.t ?_ | refine Split.f ?_ | refine Split.mk (fun _ => ?_) (fun _ => ?_) | refine Fin.int ?_
    all_goals
      simp_all [errI, withinI]
      try (intros; omega)

theorem w64_assoc (a b c : Int) : w64 (a + w64 (b + c)) = w64 (w64 (a + b) + c) := by
  obtain ⟨t1, e1⟩ := w64_ex (b + c)
  obtain ⟨t2, e2⟩ := w64_ex (a + b)
  rw [e1, e2]
  exact w64_cong (by omega)
theorem rplaces_det (n : Nat) (R : Nat → BP) (kerf : Int) (hn : n ≤ maxLen) : Det Try.prog 69 [.one (rowS n R), .one (i64 kerf)] (intsErr n (placeI R kerf) (errI n R kerf)) := by
  refine det_of_awp TTok mixed Try.func69 rfl rfl [] (Nat.le_of_ble_eq_true rfl) ?_
  refine CallW.int (checked_det n R kerf hn) (fun e he => ?_)
  rw [← he]
  refine Split.mk (fun h => ?_) (fun h => ?_)
  · have : e ≠ 0 := by simpa using h
    rw [intsErr, if_neg this]
    exact Fin.tup (.cons (DLe.one (SLe.nil _ _)) (.cons (DLe.refl _) .nil))
  · have h0 : e = 0 := by simpa using h
    subst h0
    have hn40 := errI_le he.symm
    refine Loop.by (α := Nat) (fun k => [(0, .d (.one (rowS n R))), (1, tint kerf), (9, tint k), (8, tint (match k with | 0 => 0 | k + 1 => placeI R kerf k)), (7, .hdl 52 0)]) (fun k => [(52, .bld 0 k 1 3 fun i _ => i64 (placeI R kerf i))]) (fun k => k ≤ n) (fun k => n - k)
      (Adj.nil 7 52 1 3 (fun i _ => i64 (placeI R kerf i)) rfl rfl (Adj.at 0 (Nat.zero_le _) (.cons (.bld (fun _ h => absurd h (Nat.not_lt_zero _))) .nil) (.cons .same (.cons .same (.cons .same (.cons .same (.cons (.hdl rfl rfl) .nil))))))) (fun k hk => ?_)
    refine Split.mk (fun h3 => ?_) (fun h3 => ?_)
    · have hlt : k < n := by have := of_decide_eq_true h3; omega
      have hw64 : IntKind.i64.wrap ((k : Int) + 1) = ((k + 1 : Nat) : Int) := (w64_id ⟨by omega, by omega⟩).trans (by omega)
      cases k with
      | zero =>
        refine Split.t ?_
        refine Need.mk (by omega) ?_
        refine Need.mk ⟨by decide, by decide⟩ ?_
        refine Adj.back (x := 0) 1 hlt (by omega) (.cons (.bld (fun i hi j hj => SLe.app hi (fun h => absurd h (Nat.not_lt_zero _)) (fun h => ?_))) .nil) (.cons .same (.cons .same (.cons (SlotLe.int hw64) (.cons .same (.cons (.hdl rfl rfl) .nil)))))
        obtain rfl : j = 0 := by omega
        subst h
        exact SLe.refl _
      | succ m =>
        have hw : IntKind.i64.wrap (((m + 1 : Nat) : Int) - 1) = (m : Int) := (w64_id ⟨by omega, by omega⟩).trans (by omega)
        refine Split.isF (by simp; omega) ?_
        refine Need.mk (by rw [hw]; omega) ?_
        refine Need.mk (by rw [hw]; omega) ?_
        refine Need.mk (by omega) ?_
        refine CallW.mk' (rgap_det _ _ _) ?_
        refine Need.mk (by kernel_rfl) ?_
        have ep : IntKind.i64.wrap (placeI R kerf m + IntKind.i64.wrap ((R (IntKind.i64.wrap (((m + 1 : Nat) : Int) - 1)).toNat).len + gapI (R (IntKind.i64.wrap (((m + 1 : Nat) : Int) - 1)).toNat) (R (m + 1)) kerf)) = placeI R kerf (m + 1) := by
          rw [hw, Int.toNat_natCast]
          exact w64_assoc _ _ _
        refine Need.mk ⟨(show (m + 1 + 1) * 8 ≤ 140737488355328 by omega), by simp only [maxLen]; omega⟩ ?_
        refine Adj.back (x := m + 1) (m + 2) hlt (by omega) (.cons (.bld (fun i hi j hj => SLe.app hi (fun _ => SLe.refl _) (fun h => ?_))) .nil) (.cons .same (.cons .same (.cons (SlotLe.int hw64) (.cons (SlotLe.int ep) (.cons (.hdl rfl rfl) .nil)))))
        obtain rfl : j = 0 := by omega
        subst h
        rw [Nat.sub_self]
        exact SLe.of_eq (congrArg i64 ep)
    · have e : k = n := by have := of_decide_eq_false h3; omega
      subst e
      exact Fin.rfl'
theorem rplaces0_det {n : Nat} {R : Nat → BP} {kerf : Int} (hn : n ≤ maxLen) (h : errI n R kerf = 0) : Det Try.prog 69 [.one (rowS n R), .one (i64 kerf)] (.tup [.one (intS n (placeI R kerf)), .one (i64 0)]) := (rplaces_det n R kerf hn).eq (by rw [h]; rfl)
theorem rlength_det (n : Nat) (R : Nat → BP) (kerf : Int) (hn : n ≤ maxLen) : Det Try.prog 47 [.one (rowS n R), .one (i64 kerf)] (intErr (lengthI n R kerf) (errI n R kerf)) := by
  refine det_of_awp TTok mixed Try.func47 rfl rfl [] (Nat.le_of_ble_eq_true rfl) ?_
  by_cases he : errI n R kerf = 0
  · have V := VR.of_err he
    have hn40 := V.n40
    refine CallW.mk' (rplaces0_det hn he) ?_
    rw [he]
    cases n with
    | zero =>
      repeat' first | refine Split.t ?_ | refine Split.f ?_ | refine Fin.eq ?_
      rfl
    | succ m =>
      have hw : IntKind.i64.wrap (((m + 1 : Nat) : Int) - 1) = (m : Int) := (w64_id ⟨by omega, by omega⟩).trans (by omega)
      have hp := place_b V m (by omega)
      have hx : extE (R m) (placeI R kerf m) = 0 := by
        simp only [extE, (V.vp m (by omega)).valid, withinI, Bool.true_and, Bool.and_eq_true, decide_eq_true_eq]
        rw [if_pos (by omega)]
      repeat' first | refine Split.t ?_ | refine Split.f ?_ | refine Split.isF (by simp; omega) ?_
      refine Need.mk (by rw [hw]; omega) ?_
      refine Need.mk (by rw [hw]; omega) ?_
      rw [hw, Int.toNat_natCast]
      refine CallW.tup3 (rextent3_det (R m) (placeI R kerf m)) (fun x y z _ hy _ => ?_)
      refine Need.mk (by kernel_rfl) ?_
      refine Fin.eq ?_
      rw [hy, if_pos hx]
      rfl
  · refine CallW.mk' (rplaces_det n R kerf hn) ?_
    repeat' first | refine Split.t ?_ | refine Split.isT (by simpa using he) ?_ | refine Fin.eq ?_
    simp only [intErr, if_neg he]
end Go.Vm
