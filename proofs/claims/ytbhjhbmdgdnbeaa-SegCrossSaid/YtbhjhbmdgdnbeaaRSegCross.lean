/-
  The law SegCross: whatever the input, it returns true, and each argument reads behind the call as it read before.
-/
import Derived.Test.YtbhjhbmdgdnbeaaSegO
import Derived.Test.YtbhjhbmdgdnbeaaRows
namespace Go.Proofs.Ytbhjhbmdgdnbeaa
open Go Go.Vm Go.ChangeShapes Go.WideShapes Go.ChangeAt Go.RowKit Go.Proofs

theorem ownSegCross : ownKnob Try.prog.godebug = none := by kernel_rfl
theorem laidOutSegCross : laidOutB Try.prog = true := by kernel_rfl

set_option maxRecDepth 100000 in
theorem liftedSegCross (os : Os) (started : os.Started) (H : Type) (enc : TypeId × Value → H) :
    ReturnsInHanded {} Try.checked os 6 .any (Rows.segCrossSpec.pre6 enc Try.prog Try.f6 Rows.segCrossRow.domain false) (Rows.segCrossSpec.post enc Try.prog Try.f6 false true false false) := by
  refine returnsInHanded_of_change (C := Try.checked) ownSegCross started (by kernel_rfl) Try.func6
    (ChangeSpec.witness6 (enc := enc) (C := Try.checked) false ⟨#[], #[.agg #[.int .i64 0, .int .i64 0, .int .i64 0, .int .i64 0], .agg #[.int .i64 0, .int .i64 0, .int .i64 0, .int .i64 0]], []⟩ 8 (by kernel_rfl) (by kernel_rfl) (by kernel_rfl) (by kernel_rfl)) ?_
  intro W base args ds gs before hval hW hcnd _
  exact law_contract (n := 8) rfl rfl rfl (by kernel_rfl) (by kernel_rfl) laidOutSegCross (fun ds h => match ds, h with | [d1, d2], _ => ⟨rfl, rfl, rfl⟩) Sg.lcross_all W base args ds gs before hval hW

theorem overSegCross : Rows.segCrossRow.holds Try.pinned (OpenSpec.ofChange Rows.segCrossSpec) :=
  OpenClaim.holds_of_wide 6 Try.f6 rfl rfl rfl rfl rfl rfl rfl ⟨rfl, rfl, rfl, rfl, rfl⟩ rfl rfl rfl rfl rfl (by kernel_rfl) Try.func6 (by kernel_rfl)
    (of_decide_eq_true (by kernel_rfl)) (by unfold Func.isWrapper; first | (rw [if_pos (by decide +kernel)]; kernel_rfl) | (rw [if_neg (by decide +kernel)]; exact ⟨rfl, rfl⟩))
    (fun os started H enc _ => liftedSegCross os started H enc)

/-- THE STATEMENT. -/
theorem provedSegCross : Rows.SegCrossSaid := overSegCross
#print axioms provedSegCross
end Go.Proofs.Ytbhjhbmdgdnbeaa
