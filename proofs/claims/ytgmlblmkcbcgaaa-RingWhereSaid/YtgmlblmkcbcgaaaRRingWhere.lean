/-
  The law RingWhere: whatever the input, it returns true, and each argument reads behind the call as it read before.
-/
import Derived.Test.YtgmlblmkcbcgaaaRingO
import Derived.Test.YtgmlblmkcbcgaaaRows
namespace Go.Proofs.Ytgmlblmkcbcgaaa
open Go Go.Vm Go.ChangeShapes Go.WideShapes Go.ChangeAt Go.RowKit Go.Proofs

theorem ownRingWhere : ownKnob Try.prog.godebug = none := by kernel_rfl
theorem laidOutRingWhere : laidOutB Try.prog = true := by kernel_rfl

set_option maxRecDepth 100000 in
theorem liftedRingWhere (os : Os) (started : os.Started) (H : Type) (enc : TypeId × Value → H) :
    ReturnsInHanded {} Try.checked os 5 .any (Rows.ringWhereSpec.pre6 enc Try.prog Try.f5 Rows.ringWhereRow.domain false) (Rows.ringWhereSpec.post enc Try.prog Try.f5 false true false false) := by
  refine returnsInHanded_of_change (C := Try.checked) ownRingWhere started (by kernel_rfl) Try.func5
    (ChangeSpec.witness6 (enc := enc) (C := Try.checked) false ⟨#[], #[.slice none 0 0, .agg #[.int .i64 0, .int .i64 0], .agg #[.int .i64 0, .int .i64 0, .int .i64 0]], []⟩ 8 (by kernel_rfl) (by kernel_rfl) (by kernel_rfl) (by kernel_rfl)) ?_
  intro W base args ds gs before hval hW hcnd _
  exact law_contract (n := 8) rfl rfl rfl (by kernel_rfl) (by kernel_rfl) laidOutRingWhere (fun ds h => match ds, h with | [d1, d2, d3], _ => ⟨rfl, rfl, rfl⟩) Sg.lwhere_all W base args ds gs before hval hW

theorem overRingWhere : Rows.ringWhereRow.holds Try.pinned (OpenSpec.ofChange Rows.ringWhereSpec) :=
  OpenClaim.holds_of_wide 5 Try.f5 rfl rfl rfl rfl rfl rfl rfl ⟨rfl, rfl, rfl, rfl, rfl⟩ rfl rfl rfl rfl rfl (by kernel_rfl) Try.func5 (by kernel_rfl)
    (of_decide_eq_true (by kernel_rfl)) (by unfold Func.isWrapper; first | (rw [if_pos (by decide +kernel)]; kernel_rfl) | (rw [if_neg (by decide +kernel)]; exact ⟨rfl, rfl⟩))
    (fun os started H enc _ => liftedRingWhere os started H enc)

/-- THE STATEMENT. -/
theorem provedRingWhere : Rows.RingWhereSaid := overRingWhere
#print axioms provedRingWhere
end Go.Proofs.Ytgmlblmkcbcgaaa
