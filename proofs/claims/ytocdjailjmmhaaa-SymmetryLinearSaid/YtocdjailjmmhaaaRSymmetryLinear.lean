/-
  The law SymmetryLinear: whatever the input, it returns true, and each argument reads behind the call as it read before.
-/
import Derived.Test.YtocdjailjmmhaaaSymD
import Derived.Test.YtocdjailjmmhaaaRows
namespace Go.Proofs.Ytocdjailjmmhaaa
open Go Go.Vm Go.ChangeShapes Go.WideShapes Go.ChangeAt Go.RowKit Go.Proofs

theorem ownSymmetryLinear : ownKnob Try.prog.godebug = none := by kernel_rfl
theorem laidOutSymmetryLinear : laidOutB Try.prog = true := by kernel_rfl

set_option maxRecDepth 100000 in
theorem liftedSymmetryLinear (os : Os) (started : os.Started) (H : Type) (enc : TypeId × Value → H) :
    ReturnsInHanded {} Try.checked os 3 .any (Rows.symmetryLinearSpec.pre6 enc Try.prog Try.f3 Rows.symmetryLinearRow.domain false) (Rows.symmetryLinearSpec.post enc Try.prog Try.f3 false true false false) := by
  refine returnsInHanded_of_change (C := Try.checked) ownSymmetryLinear started (by kernel_rfl) Try.func3
    (ChangeSpec.witness6 (enc := enc) (C := Try.checked) false ⟨#[], #[.int .u8 0, .agg #[.int .i64 0, .int .i64 0], .agg #[.int .i64 0, .int .i64 0]], []⟩ 8 (by kernel_rfl) (by kernel_rfl) (by kernel_rfl) (by kernel_rfl)) ?_
  intro W base args ds gs before hval hW hcnd _
  exact law_contract (n := 8) rfl rfl rfl (by kernel_rfl) (by kernel_rfl) laidOutSymmetryLinear (fun ds h => match ds, h with | [d1, d2, d3], _ => ⟨rfl, rfl, rfl⟩) llin_all W base args ds gs before hval hW

theorem overSymmetryLinear : Rows.symmetryLinearRow.holds Try.pinned (OpenSpec.ofChange Rows.symmetryLinearSpec) :=
  OpenClaim.holds_of_wide 3 Try.f3 rfl rfl rfl rfl rfl rfl rfl ⟨rfl, rfl, rfl, rfl, rfl⟩ rfl rfl rfl rfl rfl (by kernel_rfl) Try.func3 (by kernel_rfl)
    (of_decide_eq_true (by kernel_rfl)) (by unfold Func.isWrapper; first | (rw [if_pos (by decide +kernel)]; kernel_rfl) | (rw [if_neg (by decide +kernel)]; exact ⟨rfl, rfl⟩))
    (fun os started H enc _ => liftedSymmetryLinear os started H enc)

/-- THE STATEMENT. -/
theorem provedSymmetryLinear : Rows.SymmetryLinearSaid := overSymmetryLinear
#print axioms provedSymmetryLinear
end Go.Proofs.Ytocdjailjmmhaaa
