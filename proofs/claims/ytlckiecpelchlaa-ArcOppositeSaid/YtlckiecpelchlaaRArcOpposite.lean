/-
  The law ArcOpposite: whatever the input, it returns true, and each argument reads behind the call as it read before.
-/
import Derived.Test.YtlckiecpelchlaaArcN
import Derived.Test.YtlckiecpelchlaaRows
namespace Go.Proofs.Ytlckiecpelchlaa
open Go Go.Vm Go.ChangeShapes Go.WideShapes Go.ChangeAt Go.RowKit Go.Proofs

theorem ownArcOpposite : ownKnob Try.prog.godebug = none := by kernel_rfl
theorem laidOutArcOpposite : laidOutB Try.prog = true := by kernel_rfl

set_option maxRecDepth 100000 in
theorem liftedArcOpposite (os : Os) (started : os.Started) (H : Type) (enc : TypeId × Value → H) :
    ReturnsInHanded {} Try.checked os 10 .any (Rows.arcOppositeSpec.pre6 enc Try.prog Try.f10 Rows.arcOppositeRow.domain false) (Rows.arcOppositeSpec.post enc Try.prog Try.f10 false true false false) := by
  refine returnsInHanded_of_change (C := Try.checked) ownArcOpposite started (by kernel_rfl) Try.func10
    (ChangeSpec.witness6 (enc := enc) (C := Try.checked) false ⟨#[], #[.agg #[.int .i64 0, .int .i64 0, .int .i64 0, .int .i64 0, .int .i64 0, .int .i64 0, .bool false], .int .i64 0, .agg #[.int .i64 0, .int .i64 0]], []⟩ 8 (by kernel_rfl) (by kernel_rfl) (by kernel_rfl) (by kernel_rfl)) ?_
  intro W base args ds gs before hval hW hcnd _
  exact law_contract (n := 8) rfl rfl rfl (by kernel_rfl) (by kernel_rfl) laidOutArcOpposite (fun ds h => match ds, h with | [d1, d2, d3], _ => ⟨rfl, rfl, rfl⟩) Sg.larcopp_all W base args ds gs before hval hW

theorem overArcOpposite : Rows.arcOppositeRow.holds Try.pinned (OpenSpec.ofChange Rows.arcOppositeSpec) :=
  OpenClaim.holds_of_wide 10 Try.f10 rfl rfl rfl rfl rfl rfl rfl ⟨rfl, rfl, rfl, rfl, rfl⟩ rfl rfl rfl rfl rfl (by kernel_rfl) Try.func10 (by kernel_rfl)
    (of_decide_eq_true (by kernel_rfl)) (by unfold Func.isWrapper; first | (rw [if_pos (by decide +kernel)]; kernel_rfl) | (rw [if_neg (by decide +kernel)]; exact ⟨rfl, rfl⟩))
    (fun os started H enc _ => liftedArcOpposite os started H enc)

/-- THE STATEMENT. -/
theorem provedArcOpposite : Rows.ArcOppositeSaid := overArcOpposite
#print axioms provedArcOpposite
end Go.Proofs.Ytlckiecpelchlaa
