/-
  The law GuillotineStages: whatever the input, it returns true, and each argument reads behind the call as it read before.
-/
import Derived.Test.YtfoblfchkgapoaaGuiU
import Derived.Test.YtfoblfchkgapoaaRows
namespace Go.Proofs.Ytfoblfchkgapoaa
open Go Go.Vm Go.ChangeShapes Go.WideShapes Go.ChangeAt Go.RowKit Go.Proofs

theorem ownGuillotineStages : ownKnob Try.prog.godebug = none := by kernel_rfl
theorem laidOutGuillotineStages : laidOutB Try.prog = true := by kernel_rfl

set_option maxRecDepth 100000 in
theorem liftedGuillotineStages (os : Os) (started : os.Started) (H : Type) (enc : TypeId × Value → H) :
    ReturnsInHanded {} Try.checked os 13 .any (Rows.guillotineStagesSpec.pre6 enc Try.prog Try.f13 Rows.guillotineStagesRow.domain false) (Rows.guillotineStagesSpec.post enc Try.prog Try.f13 false true false false) := by
  refine returnsInHanded_of_change (C := Try.checked) ownGuillotineStages started (by kernel_rfl) Try.func13
    (ChangeSpec.witness6 (enc := enc) (C := Try.checked) false ⟨#[], #[.agg #[.slice none 0 0, .int .i64 0, .int .i64 0, .int .i64 0], .slice none 0 0], []⟩ 8 (by kernel_rfl) (by kernel_rfl) (by kernel_rfl) (by kernel_rfl)) ?_
  intro W base args ds gs before hval hW hcnd _
  exact law_contract (n := 8) rfl rfl rfl (by kernel_rfl) (by kernel_rfl) laidOutGuillotineStages (fun ds h => match ds, h with | [d1, d2], _ => ⟨rfl, rfl, rfl⟩) St.lgstages_all W base args ds gs before hval hW

theorem overGuillotineStages : Rows.guillotineStagesRow.holds Try.pinned (OpenSpec.ofChange Rows.guillotineStagesSpec) :=
  OpenClaim.holds_of_wide 13 Try.f13 rfl rfl rfl rfl rfl rfl rfl ⟨rfl, rfl, rfl, rfl, rfl⟩ rfl rfl rfl rfl rfl (by kernel_rfl) Try.func13 (by kernel_rfl)
    (of_decide_eq_true (by kernel_rfl)) (by unfold Func.isWrapper; first | (rw [if_pos (by decide +kernel)]; kernel_rfl) | (rw [if_neg (by decide +kernel)]; exact ⟨rfl, rfl⟩))
    (fun os started H enc _ => liftedGuillotineStages os started H enc)

/-- THE STATEMENT. -/
theorem provedGuillotineStages : Rows.GuillotineStagesSaid := overGuillotineStages
#print axioms provedGuillotineStages
end Go.Proofs.Ytfoblfchkgapoaa
