/-
  The law RingPick: whatever the input, it returns true, and each argument reads behind the call as it read before.
-/
import Derived.Test.YtgmlblmkcbcgaaaRingR
import Derived.Test.YtgmlblmkcbcgaaaRows
namespace Go.Proofs.Ytgmlblmkcbcgaaa
open Go Go.Vm Go.ChangeShapes Go.WideShapes Go.ChangeAt Go.RowKit Go.Proofs

theorem ownRingPick : ownKnob Try.prog.godebug = none := by kernel_rfl
theorem laidOutRingPick : laidOutB Try.prog = true := by kernel_rfl

set_option maxRecDepth 100000 in
theorem liftedRingPick (os : Os) (started : os.Started) (H : Type) (enc : TypeId × Value → H) :
    ReturnsInHanded {} Try.checked os 7 .any (Rows.ringPickSpec.pre6 enc Try.prog Try.f7 Rows.ringPickRow.domain false) (Rows.ringPickSpec.post enc Try.prog Try.f7 false true false false) := by
  refine returnsInHanded_of_change (C := Try.checked) ownRingPick started (by kernel_rfl) Try.func7
    (ChangeSpec.witness6 (enc := enc) (C := Try.checked) false ⟨#[], #[.slice none 0 0], []⟩ 8 (by kernel_rfl) (by kernel_rfl) (by kernel_rfl) (by kernel_rfl)) ?_
  intro W base args ds gs before hval hW hcnd _
  exact law_contract (n := 8) rfl rfl rfl (by kernel_rfl) (by kernel_rfl) laidOutRingPick (fun ds h => match ds, h with | [d1], _ => ⟨rfl, rfl, rfl⟩) Sg.lpick_all W base args ds gs before hval hW

theorem overRingPick : Rows.ringPickRow.holds Try.pinned (OpenSpec.ofChange Rows.ringPickSpec) :=
  OpenClaim.holds_of_wide 7 Try.f7 rfl rfl rfl rfl rfl rfl rfl ⟨rfl, rfl, rfl, rfl, rfl⟩ rfl rfl rfl rfl rfl (by kernel_rfl) Try.func7 (by kernel_rfl)
    (of_decide_eq_true (by kernel_rfl)) (by unfold Func.isWrapper; first | (rw [if_pos (by decide +kernel)]; kernel_rfl) | (rw [if_neg (by decide +kernel)]; exact ⟨rfl, rfl⟩))
    (fun os started H enc _ => liftedRingPick os started H enc)

/-- THE STATEMENT. -/
theorem provedRingPick : Rows.RingPickSaid := overRingPick
#print axioms provedRingPick
end Go.Proofs.Ytgmlblmkcbcgaaa
