/-
  The law ArcTolerance: whatever the input, it returns true, and each argument reads behind the call as it read before.
-/
import Derived.Test.YtlckiecpelchlaaArcM
import Derived.Test.YtlckiecpelchlaaRows
namespace Go.Proofs.Ytlckiecpelchlaa
open Go Go.Vm Go.ChangeShapes Go.WideShapes Go.ChangeAt Go.RowKit Go.Proofs

theorem ownArcTolerance : ownKnob Try.prog.godebug = none := by kernel_rfl
theorem laidOutArcTolerance : laidOutB Try.prog = true := by kernel_rfl

set_option maxRecDepth 100000 in
theorem liftedArcTolerance (os : Os) (started : os.Started) (H : Type) (enc : TypeId × Value → H) :
    ReturnsInHanded {} Try.checked os 8 .any (Rows.arcToleranceSpec.pre6 enc Try.prog Try.f8 Rows.arcToleranceRow.domain false) (Rows.arcToleranceSpec.post enc Try.prog Try.f8 false true false false) := by
  refine returnsInHanded_of_change (C := Try.checked) ownArcTolerance started (by kernel_rfl) Try.func8
    (ChangeSpec.witness6 (enc := enc) (C := Try.checked) false ⟨#[], #[.agg #[.int .i64 0, .int .i64 0, .int .i64 0, .int .i64 0, .int .i64 0, .int .i64 0, .bool false], .int .i64 0], []⟩ 8 (by kernel_rfl) (by kernel_rfl) (by kernel_rfl) (by kernel_rfl)) ?_
  intro W base args ds gs before hval hW hcnd _
  exact law_contract (n := 8) rfl rfl rfl (by kernel_rfl) (by kernel_rfl) laidOutArcTolerance (fun ds h => match ds, h with | [d1, d2], _ => ⟨rfl, rfl, rfl⟩) Sg.larctol_all W base args ds gs before hval hW

theorem overArcTolerance : Rows.arcToleranceRow.holds Try.pinned (OpenSpec.ofChange Rows.arcToleranceSpec) :=
  OpenClaim.holds_of_wide 8 Try.f8 rfl rfl rfl rfl rfl rfl rfl ⟨rfl, rfl, rfl, rfl, rfl⟩ rfl rfl rfl rfl rfl (by kernel_rfl) Try.func8 (by kernel_rfl)
    (of_decide_eq_true (by kernel_rfl)) (by unfold Func.isWrapper; first | (rw [if_pos (by decide +kernel)]; kernel_rfl) | (rw [if_neg (by decide +kernel)]; exact ⟨rfl, rfl⟩))
    (fun os started H enc _ => liftedArcTolerance os started H enc)

/-- THE STATEMENT. -/
theorem provedArcTolerance : Rows.ArcToleranceSaid := overArcTolerance
#print axioms provedArcTolerance
end Go.Proofs.Ytlckiecpelchlaa
