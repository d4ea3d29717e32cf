/-
  The law ArcCircle: whatever the input, it returns true, and each argument reads behind the call as it read before.
-/
import Derived.Test.YtlckiecpelchlaaArcL
import Derived.Test.YtlckiecpelchlaaRows
namespace Go.Proofs.Ytlckiecpelchlaa
open Go Go.Vm Go.ChangeShapes Go.WideShapes Go.ChangeAt Go.RowKit Go.Proofs

theorem ownArcCircle : ownKnob Try.prog.godebug = none := by kernel_rfl
theorem laidOutArcCircle : laidOutB Try.prog = true := by kernel_rfl

set_option maxRecDepth 100000 in
theorem liftedArcCircle (os : Os) (started : os.Started) (H : Type) (enc : TypeId × Value → H) :
    ReturnsInHanded {} Try.checked os 5 .any (Rows.arcCircleSpec.pre6 enc Try.prog Try.f5 Rows.arcCircleRow.domain false) (Rows.arcCircleSpec.post enc Try.prog Try.f5 false true false false) := by
  refine returnsInHanded_of_change (C := Try.checked) ownArcCircle started (by kernel_rfl) Try.func5
    (ChangeSpec.witness6 (enc := enc) (C := Try.checked) false ⟨#[], #[.agg #[.int .i64 0, .int .i64 0], .int .i64 0, .int .i64 0], []⟩ 8 (by kernel_rfl) (by kernel_rfl) (by kernel_rfl) (by kernel_rfl)) ?_
  intro W base args ds gs before hval hW hcnd _
  exact law_contract (n := 8) rfl rfl rfl (by kernel_rfl) (by kernel_rfl) laidOutArcCircle (fun ds h => match ds, h with | [d1, d2, d3], _ => ⟨rfl, rfl, rfl⟩) Sg.larccircle_all W base args ds gs before hval hW

theorem overArcCircle : Rows.arcCircleRow.holds Try.pinned (OpenSpec.ofChange Rows.arcCircleSpec) :=
  OpenClaim.holds_of_wide 5 Try.f5 rfl rfl rfl rfl rfl rfl rfl ⟨rfl, rfl, rfl, rfl, rfl⟩ rfl rfl rfl rfl rfl (by kernel_rfl) Try.func5 (by kernel_rfl)
    (of_decide_eq_true (by kernel_rfl)) (by unfold Func.isWrapper; first | (rw [if_pos (by decide +kernel)]; kernel_rfl) | (rw [if_neg (by decide +kernel)]; exact ⟨rfl, rfl⟩))
    (fun os started H enc _ => liftedArcCircle os started H enc)

/-- THE STATEMENT. -/
theorem provedArcCircle : Rows.ArcCircleSaid := overArcCircle
#print axioms provedArcCircle
end Go.Proofs.Ytlckiecpelchlaa
