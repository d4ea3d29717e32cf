/-
  The law GuillotineShrinks: whatever the input, it returns true, and each argument reads behind the call as it read before.
-/
import Derived.Test.YtfoblfchkgapoaaGuiT
import Derived.Test.YtfoblfchkgapoaaRows
namespace Go.Proofs.Ytfoblfchkgapoaa
open Go Go.Vm Go.ChangeShapes Go.WideShapes Go.ChangeAt Go.RowKit Go.Proofs

theorem ownGuillotineShrinks : ownKnob Try.prog.godebug = none := by kernel_rfl
theorem laidOutGuillotineShrinks : laidOutB Try.prog = true := by kernel_rfl

set_option maxRecDepth 100000 in
theorem liftedGuillotineShrinks (os : Os) (started : os.Started) (H : Type) (enc : TypeId × Value → H) :
    ReturnsInHanded {} Try.checked os 10 .any (Rows.guillotineShrinksSpec.pre6 enc Try.prog Try.f10 Rows.guillotineShrinksRow.domain false) (Rows.guillotineShrinksSpec.post enc Try.prog Try.f10 false true false false) := by
  refine returnsInHanded_of_change (C := Try.checked) ownGuillotineShrinks started (by kernel_rfl) Try.func10
    (ChangeSpec.witness6 (enc := enc) (C := Try.checked) false ⟨#[], #[.agg #[.slice none 0 0, .int .i64 0, .int .i64 0, .int .i64 0]], []⟩ 8 (by kernel_rfl) (by kernel_rfl) (by kernel_rfl) (by kernel_rfl)) ?_
  intro W base args ds gs before hval hW hcnd _
  exact law_contract (n := 8) rfl rfl rfl (by kernel_rfl) (by kernel_rfl) laidOutGuillotineShrinks (fun ds h => match ds, h with | [d1], _ => ⟨rfl, rfl, rfl⟩) St.lgshrinks_all W base args ds gs before hval hW

theorem overGuillotineShrinks : Rows.guillotineShrinksRow.holds Try.pinned (OpenSpec.ofChange Rows.guillotineShrinksSpec) :=
  OpenClaim.holds_of_wide 10 Try.f10 rfl rfl rfl rfl rfl rfl rfl ⟨rfl, rfl, rfl, rfl, rfl⟩ rfl rfl rfl rfl rfl (by kernel_rfl) Try.func10 (by kernel_rfl)
    (of_decide_eq_true (by kernel_rfl)) (by unfold Func.isWrapper; first | (rw [if_pos (by decide +kernel)]; kernel_rfl) | (rw [if_neg (by decide +kernel)]; exact ⟨rfl, rfl⟩))
    (fun os started H enc _ => liftedGuillotineShrinks os started H enc)

/-- THE STATEMENT. -/
theorem provedGuillotineShrinks : Rows.GuillotineShrinksSaid := overGuillotineShrinks
#print axioms provedGuillotineShrinks
end Go.Proofs.Ytfoblfchkgapoaa
