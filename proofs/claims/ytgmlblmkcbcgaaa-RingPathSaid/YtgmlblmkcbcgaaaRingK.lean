/-
  Layer 8: the statements' first look at the examples.
-/
import Derived.Test.YtgmlblmkcbcgaaaRingJ
namespace Go.Vm
set_option maxRecDepth 20000
set_option linter.unusedVariables false
set_option linter.unusedSimpArgs false
open Go Go.RowKit Go.Proofs
namespace Sg

abbrev sq4 : List V2 := [⟨0, 0⟩, ⟨4, 0⟩, ⟨4, 4⟩, ⟨0, 4⟩]
abbrev pts5 : List V2 := [⟨4, 4⟩, ⟨4, 0⟩, ⟨2, 0⟩, ⟨0, 0⟩, ⟨0, 4⟩]
theorem SLe.lit {l : List V2} {n : Nat} {get : Nat → Nat → SV} (hn : n = l.length) (h : ∀ i, i < n → get i 0 = vG l i 0 ∧ get i 1 = vG l i 1) : SLe (.sl n 2 get) (vlS l) :=
  SLe.slN hn (fun i hi j hj => SLe.of_eq (by
    match j, hj with
    | 0, _ => exact (h i hi).1
    | 1, _ => exact (h i hi).2))
theorem square_det : Det Try.prog 60 [.one (i64 4)] (.d (.one (vlS sq4))) := by
  refine det_of_awp TTok mixed Try.func60 rfl rfl [] (Nat.le_of_ble_eq_true rfl) ?_
  refine Fin.one (SLe.lit rfl (fun i hi => ?_))
  match i, hi with
  | 0, _ => exact ⟨rfl, rfl⟩
  | 1, _ => exact ⟨rfl, rfl⟩
  | 2, _ => exact ⟨rfl, rfl⟩
  | 3, _ => exact ⟨rfl, rfl⟩
theorem ex_valid : validR sq4 = true := by kernel_rfl
theorem ex_area : area2R sq4 = 32 := by kernel_rfl
theorem ex_in : whereV sq4 ⟨2, 2⟩ = 2 := by kernel_rfl
theorem ex_on : whereV sq4 ⟨4, 1⟩ = 1 := by kernel_rfl
theorem ex_out : whereV sq4 ⟨5, 5⟩ = 0 := by kernel_rfl
theorem ex_convex : convexR sq4 = true := by kernel_rfl
theorem ex_clean : (cleanR pts5).1 = sq4 ∧ (cleanR pts5).2 = 0 := by
  have : decide ((cleanR pts5).1 = sq4 ∧ (cleanR pts5).2 = 0) = true := by kernel_rfl
  exact of_decide_eq_true this
theorem awake8_det : Det Try.prog 25 [] (tbool true) := by
  refine det_of_awp TTok mixed Try.func25 rfl rfl [] (Nat.le_of_ble_eq_true rfl) ?_
  have hcl : Det Try.prog 33 [.one (vlS pts5)] (ringE sq4 0) := by
    have := clean_det pts5 (by decide)
    rw [ex_clean.1, ex_clean.2] at this
    exact this
  refine CallW.mk' square_det ?_
  refine CallW.mk' (hcl.le (.cons (DLe.one (SLe.lit rfl (fun i hi => ?_))) .nil)) ?_
  · match i, hi with
    | 0, _ => exact ⟨rfl, rfl⟩
    | 1, _ => exact ⟨rfl, rfl⟩
    | 2, _ => exact ⟨rfl, rfl⟩
    | 3, _ => exact ⟨rfl, rfl⟩
    | 4, _ => exact ⟨rfl, rfl⟩
  refine CallW.mk' ((area2_det sq4 (by decide)).eq (by rw [ex_area])) ?_
  repeat' first | refine Split.t ?_ | fail
  refine CallW.mk' ((whereV_det sq4 ⟨2, 2⟩ (by decide)).eq (by rw [ex_in])) ?_
  repeat' first | refine Split.t ?_ | fail
  refine CallW.mk' ((whereV_det sq4 ⟨4, 1⟩ (by decide)).eq (by rw [ex_on])) ?_
  repeat' first | refine Split.t ?_ | fail
  refine CallW.mk' ((whereV_det sq4 ⟨5, 5⟩ (by decide)).eq (by rw [ex_out])) ?_
  repeat' first | refine Split.t ?_ | fail
  refine CallW.mk' ((valid_det' sq4 (by decide)).eq (by rw [ex_valid])) ?_
  repeat' first | refine Split.t ?_ | fail
  refine CallW.mk' ((convex_det sq4 (by decide)).eq (by rw [ex_convex])) ?_
  repeat' first | refine Split.t ?_ | fail
  refine CallW.mk' ((same_det sq4 sq4 (by decide)).eq (by rw [decide_eq_true rfl])) ?_
  repeat' first | refine Split.t ?_ | fail
  exact Fin.rfl'
end Sg
end Go.Vm
