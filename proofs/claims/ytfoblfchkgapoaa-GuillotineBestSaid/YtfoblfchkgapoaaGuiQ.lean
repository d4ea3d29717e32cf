/-
  Layer 38: the statements' first look at the example; law Normal.
  Layer 38: normal lengths (plain); law Normal.
-/
import Derived.Test.YtfoblfchkgapoaaGuiO
namespace Go.Vm
set_option maxRecDepth 20000
set_option linter.unusedVariables false
set_option linter.unusedSimpArgs false
open Go Go.RowKit Go.Proofs
namespace St

abbrev gexK : List Knd := [⟨3, 4, 1⟩, ⟨4, 3, 1⟩]
theorem gex_a : (gbestR gexK 7 7 0).1 = 3 ∧ (gbestR gexK 7 7 0).2.2 = 0 ∧ validB (gbestR gexK 7 7 0).2.1 gexK 7 7 0 = true ∧ (gbestR gexK 7 7 0).2.1.length ≤ 1000 ∧ (sawR (gbestR gexK 7 7 0).2.1 7 7 0).2 = 0 ∧ 2 < (sawR (gbestR gexK 7 7 0).2.1 7 7 0).1.length := by
  have : decide ((gbestR gexK 7 7 0).1 = 3 ∧ (gbestR gexK 7 7 0).2.2 = 0 ∧ validB (gbestR gexK 7 7 0).2.1 gexK 7 7 0 = true ∧ (gbestR gexK 7 7 0).2.1.length ≤ 1000 ∧ (sawR (gbestR gexK 7 7 0).2.1 7 7 0).2 = 0 ∧ 2 < (sawR (gbestR gexK 7 7 0).2.1 7 7 0).1.length) = true := by kernel_rfl
  exact of_decide_eq_true this
theorem gex_n : nrmR [3, 4] 7 1 = ([0, 3, 4, 7], 0) := by
  have : decide (nrmR [3, 4] 7 1 = ([0, 3, 4, 7], 0)) = true := by kernel_rfl
  exact of_decide_eq_true this
theorem CallW.sg {P : Program} {f : FuncId} {args : List DV} {K : TV → Prop} {a : List Sg.Seg × Int} (h : Det P f args (sgE a)) (kk : ∀ x, x = a → K (sgE x)) : CallW P f args K := ⟨_, h, kk a rfl⟩
theorem awake38_det : Det Try.prog 28 [] (tbool true) := by
  refine det_of_awp TTok mixed Try.func28 rfl rfl [] (Nat.le_of_ble_eq_true rfl) ?_
  obtain ⟨a1, a2, a3, a4, a5, a6⟩ := gex_a
  have hlit : DLe (.one (.sl 2 3 fun i j => [i64 3, i64 4, i64 1, i64 4, i64 3, i64 1].getD (i * 3 + j) (.v Go.undef))) (.one (kS gexK)) := DLe.one (SLe.slN rfl (fun i hi j hj => SLe.of_eq (by
    match i, hi, j, hj with
    | 0, _, 0, _ => rfl
    | 0, _, 1, _ => rfl
    | 0, _, 2, _ => rfl
    | 1, _, 0, _ => rfl
    | 1, _, 1, _ => rfl
    | 1, _, 2, _ => rfl)))
  have hsz : DLe (.one (.sl 2 1 fun i j => [i64 3, i64 4].getD (i * 1 + j) (.v Go.undef))) (.one (iS [3, 4])) := DLe.one (SLe.slN rfl (fun i hi j hj => SLe.of_eq (by
    match i, hi, j, hj with
    | 0, _, 0, _ => rfl
    | 1, _, 0, _ => rfl)))
  refine CallW.best ((gbest_det gexK 7 7 0 (by decide)).le (.cons hlit (.cons (DLe.refl _) (.cons (DLe.refl _) (.cons (DLe.refl _) .nil))))) (fun x hx => ?_)
  rw [← hx] at a1 a2 a3 a4 a5 a6
  obtain ⟨x1, x2, x3⟩ := x
  replace a1 : x1 = 3 := a1
  replace a2 : x3 = 0 := a2
  replace a3 : validB x2 gexK 7 7 0 = true := a3
  replace a4 : x2.length ≤ 1000 := a4
  replace a5 : (sawR x2 7 7 0).2 = 0 := a5
  replace a6 : 2 < (sawR x2 7 7 0).1.length := a6
  subst a1 a2
  refine CallW.mk' (((normal_det [3, 4] 7 1 (by decide)).eq (by rw [gex_n])).le (.cons hsz (.cons (DLe.refl _) (.cons (DLe.refl _) .nil)))) ?_
  refine CallW.sg (saw_det x2 7 7 0 (by omega)) (fun y hy => ?_)
  rw [← hy] at a5 a6
  obtain ⟨y1, y2⟩ := y
  replace a5 : y2 = 0 := a5
  replace a6 : 2 < y1.length := a6
  subst a5
  repeat' first | refine Split.t ?_ | fail
  refine CallW.mk' (((valid_det x2 gexK 7 7 0 (by omega) (by decide)).eq (by rw [a3])).le (.cons (DLe.refl _) (.cons hlit (.cons (DLe.refl _) (.cons (DLe.refl _) (.cons (DLe.refl _) .nil)))))) ?_
  repeat' first | refine Split.t ?_ | fail
  refine Need.mk (by decide) ?_
  repeat' first | refine Split.t ?_ | fail
  refine Fin.bool ?_
  exact decide_eq_true (by show (y1.length : Int) > 2; omega)
end St
end Go.Vm
namespace Go.Vm
set_option maxRecDepth 20000
set_option linter.unusedVariables false
set_option linter.unusedSimpArgs false
open Go Go.RowKit Go.Proofs
namespace St

section
variable (sizes : List Int) (kerf : Int)
def rchR (c : Nat) : Bool := (rchL sizes kerf c).getD c false
end
end St
end Go.Vm
