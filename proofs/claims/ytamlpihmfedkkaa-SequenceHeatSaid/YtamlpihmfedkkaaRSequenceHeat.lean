/-
  The law SequenceHeat: whatever the input, it returns true, and each argument reads behind the call as it read before.
-/
import Derived.Test.YtamlpihmfedkkaaSeqO
import Derived.Test.YtamlpihmfedkkaaRows
namespace Go.Proofs.Ytamlpihmfedkkaa
open Go Go.Vm Go.ChangeShapes Go.WideShapes Go.ChangeAt Go.RowKit Go.Proofs

theorem ownSequenceHeat : ownKnob Try.prog.godebug = none := by kernel_rfl
theorem laidOutSequenceHeat : laidOutB Try.prog = true := by kernel_rfl

set_option maxRecDepth 100000 in
theorem liftedSequenceHeat (os : Os) (started : os.Started) (H : Type) (enc : TypeId × Value → H) :
    ReturnsInHanded {} Try.checked os 8 .any (Rows.sequenceHeatSpec.pre6 enc Try.prog Try.f8 Rows.sequenceHeatRow.domain false) (Rows.sequenceHeatSpec.post enc Try.prog Try.f8 false true false false) := by
  refine returnsInHanded_of_change (C := Try.checked) ownSequenceHeat started (by kernel_rfl) Try.func8
    (ChangeSpec.witness6 (enc := enc) (C := Try.checked) false ⟨#[], #[.slice none 0 0, .agg #[.int .i64 0, .int .i64 0], .int .i64 0], []⟩ 8 (by kernel_rfl) (by kernel_rfl) (by kernel_rfl) (by kernel_rfl)) ?_
  intro W base args ds gs before hval hW hcnd _
  exact law_contract (n := 8) rfl rfl rfl (by kernel_rfl) (by kernel_rfl) laidOutSequenceHeat (fun ds h => match ds, h with | [d1, d2, d3], _ => ⟨rfl, rfl, rfl⟩) Sg.lheat_all W base args ds gs before hval hW

theorem overSequenceHeat : Rows.sequenceHeatRow.holds Try.pinned (OpenSpec.ofChange Rows.sequenceHeatSpec) :=
  OpenClaim.holds_of_wide 8 Try.f8 rfl rfl rfl rfl rfl rfl rfl ⟨rfl, rfl, rfl, rfl, rfl⟩ rfl rfl rfl rfl rfl (by kernel_rfl) Try.func8 (by kernel_rfl)
    (of_decide_eq_true (by kernel_rfl)) (by unfold Func.isWrapper; first | (rw [if_pos (by decide +kernel)]; kernel_rfl) | (rw [if_neg (by decide +kernel)]; exact ⟨rfl, rfl⟩))
    (fun os started H enc _ => liftedSequenceHeat os started H enc)

/-- THE STATEMENT. -/
theorem provedSequenceHeat : Rows.SequenceHeatSaid := overSequenceHeat
#print axioms provedSequenceHeat
end Go.Proofs.Ytamlpihmfedkkaa
