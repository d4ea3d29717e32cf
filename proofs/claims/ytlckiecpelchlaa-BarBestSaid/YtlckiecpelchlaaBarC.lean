/-
  Layer 26: contracts of a row's length, scrap and of the statements' own guard.
-/
import Derived.Test.YtlckiecpelchlaaBarB
namespace Go.Vm
set_option maxRecDepth 20000
set_option linter.unusedVariables false
set_option linter.unusedSimpArgs false
open Go Go.RowKit Go.Proofs

def lengthI (n : Nat) (R : Nat → BP) (kerf : Int) : Int := if n = 0 then 0 else extHi (R (n - 1)) (placeI R kerf (n - 1))
theorem errI_le {n : Nat} {R : Nat → BP} {kerf : Int} (h : errI n R kerf = 0) : n ≤ 40 := by
  unfold errI at h
  split at h
  · omega
  · split at h
    · omega
    · omega

theorem len_det (n : Nat) (R : Nat → BP) (kerf : Int) (hn : n ≤ 1000) : Det Try.prog 50 [.one (rowS n R), .one (i64 kerf)] (tint (lengthI n R kerf)) := by
  refine det_of_awp TTok mixed Try.func50 rfl rfl [] (Nat.le_of_ble_eq_true rfl) ?_
  refine CallW.mk' (places_det n R kerf hn) ?_
  cases n with
  | zero =>
    refine Split.t ?_
    exact Fin.int rfl
  | succ m =>
    have hw : IntKind.i64.wrap (((m + 1 : Nat) : Int) - 1) = (m : Int) := (w64_id ⟨by omega, by omega⟩).trans (by omega)
    refine Split.isF (by simp; omega) ?_
    refine Need.mk (by rw [hw]; omega) ?_
    refine Need.mk (by rw [hw]; omega) ?_
    refine CallW.mk' (extent_det _ _) ?_
    refine Need.mk (by kernel_rfl) ?_
    refine Fin.int ?_
    show extHi (R (IntKind.i64.wrap (((m + 1 : Nat) : Int) - 1)).toNat) (placeI R kerf (IntKind.i64.wrap (((m + 1 : Nat) : Int) - 1)).toNat) = _
    rw [hw, Int.toNat_natCast]
    rfl
abbrev intErr (v e : Int) : TV := .tup [.one (i64 (if e = 0 then v else 0)), .one (i64 e)]
theorem length_det (n : Nat) (R : Nat → BP) (kerf : Int) (hn : n ≤ maxLen) : Det Try.prog 19 [.one (rowS n R), .one (i64 kerf)] (intErr (lengthI n R kerf) (errI n R kerf)) := by
  refine det_of_awp TTok mixed Try.func19 rfl rfl [] (Nat.le_of_ble_eq_true rfl) ?_
  refine CallW.int (check_det n R kerf hn) (fun e he => ?_)
  rw [← he]
  refine Split.mk (fun h => ?_) (fun h => ?_)
  · refine Fin.eq ?_
    have : e ≠ 0 := by simpa using h
    simp only [intErr, if_neg this]
  · have h0 : e = 0 := by simpa using h
    refine CallW.int (len_det n R kerf (Nat.le_trans (errI_le (he ▸ h0)) (by decide))) (fun v hv => ?_)
    refine Fin.eq ?_
    subst h0
    rw [← hv]
    rfl
def scrapI (n : Nat) (R : Nat → BP) (kerf : Int) : Nat → Int
  | 0 => w64 (2 * lengthI n R kerf)
  | k + 1 => w64 (scrapI n R kerf k - w64 ((R k).len + topI (R k)))
end Go.Vm
