/-
  Layer 26: the examples that every statement checks first.
-/
import Derived.Test.YtlckiecpelchlaaBarD
namespace Go.Vm
set_option maxRecDepth 20000
set_option linter.unusedVariables false
set_option linter.unusedSimpArgs false
open Go Go.RowKit Go.Proofs

abbrev exP : BP := ⟨⟨#[]⟩, ⟨#[]⟩, 10, 0, 4⟩
abbrev exQ : BP := ⟨⟨#[]⟩, ⟨#[]⟩, 8, -4, 0⟩
abbrev exR : Nat → BP := fun i => match i with
  | 0 => exP
  | _ => exQ
theorem exRow (get : Nat → Nat → SV) (h : ∀ i, i < 2 → ∀ j, j < 5 → SLe (get i j) ((fun i j => match j with
  | 0 => .v (.string (exR i).nm)
  | 1 => .v (.string (exR i).gr)
  | 2 => i64 (exR i).len
  | 3 => i64 (exR i).left
  | _ => i64 (exR i).right) i j)) : DLe (.one (.sl 2 5 get)) (.one (rowS 2 exR)) := DLe.one (SLe.sl h)
set_option maxRecDepth 100000 in
theorem awake_det : Det Try.prog 12 [] (tbool true) := by
  refine det_of_awp TTok mixed Try.func12 rfl rfl [] (Nat.le_of_ble_eq_true rfl) ?_
  refine Need.mk (by decide) ?_
  refine Need.mk (by decide) ?_
  refine CallW.mk' (gap2_det exP exQ 2) ?_
  refine Need.mk (by kernel_rfl) ?_
  refine CallW.le (length_det 2 exR 2 (by decide)) (.cons (DLe.one (SLe.sl ?_)) (.cons (DLe.refl _) .nil)) ?_
  · intro i hi j hj
    replace hi : i < 2 := hi
    replace hj : j < 5 := hj
    rcases i with _ | _ | i <;> rcases j with _ | _ | _ | _ | _ | j <;> first | exact SLe.refl _ | omega
  refine CallW.le (cuts_det 2 exR (by decide)) (.cons (DLe.one (SLe.sl ?_)) .nil) ?_
  · intro i hi j hj
    replace hi : i < 2 := hi
    replace hj : j < 5 := hj
    rcases i with _ | _ | i <;> rcases j with _ | _ | _ | _ | _ | j <;> first | exact SLe.refl _ | omega
  repeat' first | refine Split.isT (by decide +kernel) ?_ | refine Need.mk (by kernel_rfl) ?_ | refine Need.mk (by decide) ?_ | refine CallW.mk' (validp_det exP) ?_ | refine Fin.bool ?_
  all_goals decide +kernel
end Go.Vm
