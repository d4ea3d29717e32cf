/-
  The eight symmetries: contracts of layer 9 and of its specification.
-/
import Derived.Test.YtgmlblmkcbcgaaaVmT
namespace Go.Vm
set_option maxRecDepth 20000
set_option linter.unusedVariables false
set_option linter.unusedSimpArgs false
open Go Go.RowKit Go.Proofs

def validB (t : Int) : Bool := decide (0 ≤ t) && decide (t < 8)
abbrev ng (x : Int) : Int := w64 (0 - x)
def vx (t x y : Int) : Int := match t with
  | 1 => ng y | 2 => ng x | 3 => y | 4 => ng x | 5 => ng y | 7 => y | _ => x
def vy (t x y : Int) : Int := match t with
  | 1 => x | 2 => ng y | 3 => ng x | 5 => ng x | 6 => ng y | 7 => x | _ => y
abbrev vec (x y : Int) : DV := .agg [i64 x, i64 y]
abbrev vecS (t x y : Int) : TV := .d (vec (vx t x y) (vy t x y))

theorem valid_cases {t : Int} (h : validB t = true) : t = 0 ∨ t = 1 ∨ t = 2 ∨ t = 3 ∨ t = 4 ∨ t = 5 ∨ t = 6 ∨ t = 7 := by
  simp [validB] at h; omega
theorem vx_inv {t : Int} (h : validB t = false) (x y : Int) : vx t x y = x := by
  unfold vx; split <;> first | rfl | (simp [validB] at h)
theorem vy_inv {t : Int} (h : validB t = false) (x y : Int) : vy t x y = y := by
  unfold vy; split <;> first | rfl | (simp [validB] at h)

theorem valid_det (t : Int) : Det Try.prog 48 [.one (i64 t)] (tbool (validB t)) := by
  refine det_of_awp TTok mixed Try.func48 rfl rfl [] (Nat.le_of_ble_eq_true rfl) ?_
  repeat' first | refine Split.t ?_ | refine Split.f ?_ | refine Split.mk (fun _ => ?_) (fun _ => ?_) | refine Fin.bool ?_
  all_goals
    rw [Bool.eq_iff_iff]
    simp_all [validB]
    try omega
theorem rvalid_det (t : Int) : Det Try.prog 51 [.one (i64 t)] (tbool (validB t)) := by
  refine det_of_awp TTok mixed Try.func51 rfl rfl [] (Nat.le_of_ble_eq_true rfl) ?_
  repeat' first | refine Split.t ?_ | refine Split.f ?_ | refine Split.mk (fun _ => ?_) (fun _ => ?_) | refine Fin.bool ?_
  all_goals
    rw [Bool.eq_iff_iff]
    simp_all [validB]
    try omega

def coef (t : Int) : List Int := match t with
  | 1 => [0, -1, 1, 0] | 2 => [-1, 0, 0, -1] | 3 => [0, 1, -1, 0]
  | 4 => [-1, 0, 0, 1] | 5 => [0, -1, -1, 0] | 6 => [1, 0, 0, -1] | 7 => [0, 1, 1, 0] | _ => [1, 0, 0, 1]
set_option maxRecDepth 100000 in
theorem coef_det (t : Int) (h : validB t = true) : Det Try.prog 59 [.one (i64 t)] (.d (.agg ((coef t).map i64))) := by
  refine det_of_awp TTok mixed Try.func59 rfl rfl [] (Nat.le_of_ble_eq_true rfl) ?_
  rcases valid_cases h with rfl | rfl | rfl | rfl | rfl | rfl | rfl | rfl
  all_goals
    refine Need.mk (by decide) ?_
    refine Fin.eq ?_
    kernel_rfl
theorem Fin.vec {a b c d : Int} (h : a = c) (h' : b = d) : Fin (.d (vec a b)) (.d (vec c d)) := by subst h h'; exact Fin.rfl'

theorem vec_det (t x y : Int) (hx : R64 x) (hy : R64 y) : Det Try.prog 24 [.one (i64 t), vec x y] (vecS t x y) := by
  refine det_of_awp TTok mixed Try.func24 rfl rfl [] (Nat.le_of_ble_eq_true rfl) ?_
  refine CallW.mk' (valid_det t) ?_
  refine Split.mk (fun h => ?_) (fun h => ?_)
  · have h : validB t = false := by simpa using h
    exact Fin.vec (vx_inv h x y).symm (vy_inv h x y).symm
  · have h : validB t = true := by simpa using h
    obtain ⟨hx1, hx2⟩ := hx
    obtain ⟨hy1, hy2⟩ := hy
    rcases valid_cases h with rfl | rfl | rfl | rfl | rfl | rfl | rfl | rfl
    all_goals
      refine CallW.mk' (coef_det _ h) ?_
      repeat refine Need.mk (by decide) ?_
      refine Fin.vec ?_ ?_
      all_goals
        simp only [vx, vy, w64_def] <;> omega
theorem rvec_det (t x y : Int) (hx : R64 x) (hy : R64 y) : Det Try.prog 52 [.one (i64 t), vec x y] (vecS t x y) := by
  refine det_of_awp TTok mixed Try.func52 rfl rfl [] (Nat.le_of_ble_eq_true rfl) ?_
  refine CallW.mk' (rvalid_det t) ?_
  refine Split.mk (fun h => ?_) (fun h => ?_)
  · have h : validB t = false := by simpa using h
    exact Fin.vec (vx_inv h x y).symm (vy_inv h x y).symm
  · have h : validB t = true := by simpa using h
    obtain ⟨hx1, hx2⟩ := hx
    obtain ⟨hy1, hy2⟩ := hy
    rcases valid_cases h with rfl | rfl | rfl | rfl | rfl | rfl | rfl | rfl
    all_goals
      repeat' first | refine Split.t ?_ | refine Split.f ?_ | refine Loop.unroll 4 ?_ | refine Need.mk (by decide) ?_ | refine Fin.vec ?_ ?_
      all_goals
        simp only [vx, vy, w64_def] <;> omega

def oddB (t : Int) : Bool := validB t && (t.tmod 2 == 1)
def mirB (t : Int) : Bool := validB t && decide (4 ≤ t)
def grainT (t g : Int) : Int := if validB t = false ∨ (g ≠ 1 ∧ g ≠ 2) then 0 else if oddB t = true then (if g = 1 then 2 else 1) else g
theorem mir_det (t : Int) : Det Try.prog 49 [.one (i64 t)] (tbool (mirB t)) := by
  refine det_of_awp TTok mixed Try.func49 rfl rfl [] (Nat.le_of_ble_eq_true rfl) ?_
  refine CallW.mk' (valid_det t) ?_
  repeat' first | refine Split.t ?_ | refine Split.f ?_ | refine Split.mk (fun _ => ?_) (fun _ => ?_) | refine Need.mk (by kernel_rfl) ?_ | refine Need.mk (by decide) ?_ | refine Fin.bool ?_ | refine Fin.int ?_
  all_goals simp_all [mirB]
theorem add_det (a b c d : Int) : Det Try.prog 46 [vec a b, vec c d] (.d (vec (w64 (a + c)) (w64 (b + d)))) := by
  refine det_of_awp TTok mixed Try.func46 rfl rfl [] (Nat.le_of_ble_eq_true rfl) ?_
  repeat' first | refine Need.mk (by kernel_rfl) ?_ | refine Fin.vec ?_ ?_
  all_goals rfl
abbrev dotI (a b c d : Int) : Int := w64 (w64 (a * c) + w64 (b * d))
abbrev crossI (a b c d : Int) : Int := w64 (w64 (a * d) - w64 (b * c))
theorem cross_det (a b c d : Int) : Det Try.prog 88 [vec a b, vec c d] (tint (crossI a b c d)) := by
  refine det_of_awp TTok mixed Try.func88 rfl rfl [] (Nat.le_of_ble_eq_true rfl) ?_
  repeat' first | refine Need.mk (by kernel_rfl) ?_ | refine Fin.int ?_
  all_goals rfl
def absI (n : Int) : Int := if n ≥ 0 then n else ng n
def maxI (x y : Int) : Int := if y > x then y else x
def minI (x y : Int) : Int := if y < x then y else x
theorem abs_det (n : Int) : Det Try.prog 96 [.one (i64 n)] (tint (absI n)) := by
  refine det_of_awp TTok mixed Try.func96 rfl rfl [] (Nat.le_of_ble_eq_true rfl) ?_
  repeat' first | refine Split.t ?_ | refine Split.f ?_ | refine Split.mk (fun _ => ?_) (fun _ => ?_) | refine Need.mk (by kernel_rfl) ?_ | refine Need.mk (by decide) ?_ | refine Fin.bool ?_ | refine Fin.int ?_
  all_goals simp_all [absI, ng] <;> omega
def withinB (x y m : Int) : Bool := decide (x ≥ ng m) && decide (x ≤ m) && decide (y ≥ ng m) && decide (y ≤ m)
theorem within_det (x y m : Int) : Det Try.prog 18 [vec x y, .one (i64 m)] (tbool (withinB x y m)) := by
  refine det_of_awp TTok mixed Try.func18 rfl rfl [] (Nat.le_of_ble_eq_true rfl) ?_
  repeat' first | refine Split.t ?_ | refine Split.f ?_ | refine Split.mk (fun _ => ?_) (fun _ => ?_) | refine Need.mk (by kernel_rfl) ?_ | refine Need.mk (by decide) ?_ | refine Fin.bool ?_ | refine Fin.int ?_
  all_goals
    simp_all [withinB, ng, w64]
    try (intros; omega)

theorem ng_ng {x : Int} (h : R64 x) : ng (ng x) = x := by
  obtain ⟨h1, h2⟩ := h
  simp only [ng, w64_def]
  omega
theorem vx_R {t x y : Int} (hx : R64 x) (hy : R64 y) : R64 (vx t x y) := by
  unfold vx; split <;> first | assumption | exact w64_R _
theorem vy_R {t x y : Int} (hx : R64 x) (hy : R64 y) : R64 (vy t x y) := by
  unfold vy; split <;> first | assumption | exact w64_R _

end Go.Vm
