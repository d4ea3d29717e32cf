/-
  The law SegOrder: whatever the input, it returns true, and each argument reads behind the call as it read before.
-/
import Derived.Test.YtbhjhbmdgdnbeaaSegO
import Derived.Test.YtbhjhbmdgdnbeaaRows
namespace Go.Proofs.Ytbhjhbmdgdnbeaa
open Go Go.Vm Go.ChangeShapes Go.WideShapes Go.ChangeAt Go.RowKit Go.Proofs

theorem ownSegOrder : ownKnob Try.prog.godebug = none := by kernel_rfl
theorem laidOutSegOrder : laidOutB Try.prog = true := by kernel_rfl

set_option maxRecDepth 100000 in
theorem liftedSegOrder (os : Os) (started : os.Started) (H : Type) (enc : TypeId × Value → H) :
    ReturnsInHanded {} Try.checked os 9 .any (Rows.segOrderSpec.pre6 enc Try.prog Try.f9 Rows.segOrderRow.domain false) (Rows.segOrderSpec.post enc Try.prog Try.f9 false true false false) := by
  refine returnsInHanded_of_change (C := Try.checked) ownSegOrder started (by kernel_rfl) Try.func9
    (ChangeSpec.witness6 (enc := enc) (C := Try.checked) false ⟨#[], #[.agg #[.int .i64 0, .int .i64 0, .int .i64 0], .agg #[.int .i64 0, .int .i64 0, .int .i64 0], .agg #[.int .i64 0, .int .i64 0, .int .i64 0]], []⟩ 8 (by kernel_rfl) (by kernel_rfl) (by kernel_rfl) (by kernel_rfl)) ?_
  intro W base args ds gs before hval hW hcnd _
  exact law_contract (n := 8) rfl rfl rfl (by kernel_rfl) (by kernel_rfl) laidOutSegOrder (fun ds h => match ds, h with | [d1, d2, d3], _ => ⟨rfl, rfl, rfl⟩) Sg.lorder_all W base args ds gs before hval hW

theorem overSegOrder : Rows.segOrderRow.holds Try.pinned (OpenSpec.ofChange Rows.segOrderSpec) :=
  OpenClaim.holds_of_wide 9 Try.f9 rfl rfl rfl rfl rfl rfl rfl ⟨rfl, rfl, rfl, rfl, rfl⟩ rfl rfl rfl rfl rfl (by kernel_rfl) Try.func9 (by kernel_rfl)
    (of_decide_eq_true (by kernel_rfl)) (by unfold Func.isWrapper; first | (rw [if_pos (by decide +kernel)]; kernel_rfl) | (rw [if_neg (by decide +kernel)]; exact ⟨rfl, rfl⟩))
    (fun os started H enc _ => liftedSegOrder os started H enc)

/-- THE STATEMENT. -/
theorem provedSegOrder : Rows.SegOrderSaid := overSegOrder
#print axioms provedSegOrder
end Go.Proofs.Ytbhjhbmdgdnbeaa
