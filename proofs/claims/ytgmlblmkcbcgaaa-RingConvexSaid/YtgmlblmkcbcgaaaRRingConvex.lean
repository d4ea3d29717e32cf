/-
  The law RingConvex: whatever the input, it returns true, and each argument reads behind the call as it read before.
-/
import Derived.Test.YtgmlblmkcbcgaaaRingD
import Derived.Test.YtgmlblmkcbcgaaaRows
namespace Go.Proofs.Ytgmlblmkcbcgaaa
open Go Go.Vm Go.ChangeShapes Go.WideShapes Go.ChangeAt Go.RowKit Go.Proofs

theorem ownRingConvex : ownKnob Try.prog.godebug = none := by kernel_rfl
theorem laidOutRingConvex : laidOutB Try.prog = true := by kernel_rfl

set_option maxRecDepth 100000 in
theorem liftedRingConvex (os : Os) (started : os.Started) (H : Type) (enc : TypeId × Value → H) :
    ReturnsInHanded {} Try.checked os 9 .any (Rows.ringConvexSpec.pre6 enc Try.prog Try.f9 Rows.ringConvexRow.domain false) (Rows.ringConvexSpec.post enc Try.prog Try.f9 false true false false) := by
  refine returnsInHanded_of_change (C := Try.checked) ownRingConvex started (by kernel_rfl) Try.func9
    (ChangeSpec.witness6 (enc := enc) (C := Try.checked) false ⟨#[], #[.slice none 0 0], []⟩ 8 (by kernel_rfl) (by kernel_rfl) (by kernel_rfl) (by kernel_rfl)) ?_
  intro W base args ds gs before hval hW hcnd _
  exact law_contract (n := 8) rfl rfl rfl (by kernel_rfl) (by kernel_rfl) laidOutRingConvex (fun ds h => match ds, h with | [d1], _ => ⟨rfl, rfl, rfl⟩) Sg.lconvex_all W base args ds gs before hval hW

theorem overRingConvex : Rows.ringConvexRow.holds Try.pinned (OpenSpec.ofChange Rows.ringConvexSpec) :=
  OpenClaim.holds_of_wide 9 Try.f9 rfl rfl rfl rfl rfl rfl rfl ⟨rfl, rfl, rfl, rfl, rfl⟩ rfl rfl rfl rfl rfl (by kernel_rfl) Try.func9 (by kernel_rfl)
    (of_decide_eq_true (by kernel_rfl)) (by unfold Func.isWrapper; first | (rw [if_pos (by decide +kernel)]; kernel_rfl) | (rw [if_neg (by decide +kernel)]; exact ⟨rfl, rfl⟩))
    (fun os started H enc _ => liftedRingConvex os started H enc)

/-- THE STATEMENT. -/
theorem provedRingConvex : Rows.RingConvexSaid := overRingConvex
#print axioms provedRingConvex
end Go.Proofs.Ytgmlblmkcbcgaaa
