/-
  The law SequenceDepends: whatever the input, it returns true, and each argument reads behind the call as it read before.
-/
import Derived.Test.YtamlpihmfedkkaaSeqM
import Derived.Test.YtamlpihmfedkkaaRows
namespace Go.Proofs.Ytamlpihmfedkkaa
open Go Go.Vm Go.ChangeShapes Go.WideShapes Go.ChangeAt Go.RowKit Go.Proofs

theorem ownSequenceDepends : ownKnob Try.prog.godebug = none := by kernel_rfl
theorem laidOutSequenceDepends : laidOutB Try.prog = true := by kernel_rfl

set_option maxRecDepth 100000 in
theorem liftedSequenceDepends (os : Os) (started : os.Started) (H : Type) (enc : TypeId × Value → H) :
    ReturnsInHanded {} Try.checked os 3 .any (Rows.sequenceDependsSpec.pre6 enc Try.prog Try.f3 Rows.sequenceDependsRow.domain false) (Rows.sequenceDependsSpec.post enc Try.prog Try.f3 false true false false) := by
  refine returnsInHanded_of_change (C := Try.checked) ownSequenceDepends started (by kernel_rfl) Try.func3
    (ChangeSpec.witness6 (enc := enc) (C := Try.checked) false ⟨#[], #[.slice none 0 0], []⟩ 8 (by kernel_rfl) (by kernel_rfl) (by kernel_rfl) (by kernel_rfl)) ?_
  intro W base args ds gs before hval hW hcnd _
  exact law_contract (n := 8) rfl rfl rfl (by kernel_rfl) (by kernel_rfl) laidOutSequenceDepends (fun ds h => match ds, h with | [d1], _ => ⟨rfl, rfl, rfl⟩) Sg.ldep_all W base args ds gs before hval hW

theorem overSequenceDepends : Rows.sequenceDependsRow.holds Try.pinned (OpenSpec.ofChange Rows.sequenceDependsSpec) :=
  OpenClaim.holds_of_wide 3 Try.f3 rfl rfl rfl rfl rfl rfl rfl ⟨rfl, rfl, rfl, rfl, rfl⟩ rfl rfl rfl rfl rfl (by kernel_rfl) Try.func3 (by kernel_rfl)
    (of_decide_eq_true (by kernel_rfl)) (by unfold Func.isWrapper; first | (rw [if_pos (by decide +kernel)]; kernel_rfl) | (rw [if_neg (by decide +kernel)]; exact ⟨rfl, rfl⟩))
    (fun os started H enc _ => liftedSequenceDepends os started H enc)

/-- THE STATEMENT. -/
theorem provedSequenceDepends : Rows.SequenceDependsSaid := overSequenceDepends
#print axioms provedSequenceDepends
end Go.Proofs.Ytamlpihmfedkkaa
