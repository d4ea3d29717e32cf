/-
  The law RingMove: whatever the input, it returns true, and each argument reads behind the call as it read before.
-/
import Derived.Test.YtgmlblmkcbcgaaaRingO
import Derived.Test.YtgmlblmkcbcgaaaRows
namespace Go.Proofs.Ytgmlblmkcbcgaaa
open Go Go.Vm Go.ChangeShapes Go.WideShapes Go.ChangeAt Go.RowKit Go.Proofs

theorem ownRingMove : ownKnob Try.prog.godebug = none := by kernel_rfl
theorem laidOutRingMove : laidOutB Try.prog = true := by kernel_rfl

set_option maxRecDepth 100000 in
theorem liftedRingMove (os : Os) (started : os.Started) (H : Type) (enc : TypeId × Value → H) :
    ReturnsInHanded {} Try.checked os 11 .any (Rows.ringMoveSpec.pre6 enc Try.prog Try.f11 Rows.ringMoveRow.domain false) (Rows.ringMoveSpec.post enc Try.prog Try.f11 false true false false) := by
  refine returnsInHanded_of_change (C := Try.checked) ownRingMove started (by kernel_rfl) Try.func11
    (ChangeSpec.witness6 (enc := enc) (C := Try.checked) false ⟨#[], #[.slice none 0 0, .agg #[.int .i64 0, .int .i64 0], .agg #[.int .i64 0, .int .i64 0]], []⟩ 8 (by kernel_rfl) (by kernel_rfl) (by kernel_rfl) (by kernel_rfl)) ?_
  intro W base args ds gs before hval hW hcnd _
  exact law_contract (n := 8) rfl rfl rfl (by kernel_rfl) (by kernel_rfl) laidOutRingMove (fun ds h => match ds, h with | [d1, d2, d3], _ => ⟨rfl, rfl, rfl⟩) Sg.lmove_all W base args ds gs before hval hW

theorem overRingMove : Rows.ringMoveRow.holds Try.pinned (OpenSpec.ofChange Rows.ringMoveSpec) :=
  OpenClaim.holds_of_wide 11 Try.f11 rfl rfl rfl rfl rfl rfl rfl ⟨rfl, rfl, rfl, rfl, rfl⟩ rfl rfl rfl rfl rfl (by kernel_rfl) Try.func11 (by kernel_rfl)
    (of_decide_eq_true (by kernel_rfl)) (by unfold Func.isWrapper; first | (rw [if_pos (by decide +kernel)]; kernel_rfl) | (rw [if_neg (by decide +kernel)]; exact ⟨rfl, rfl⟩))
    (fun os started H enc _ => liftedRingMove os started H enc)

/-- THE STATEMENT. -/
theorem provedRingMove : Rows.RingMoveSaid := overRingMove
#print axioms provedRingMove
end Go.Proofs.Ytgmlblmkcbcgaaa
