/-
  The law ArcFlatten: whatever the input, it returns true, and each argument reads behind the call as it read before.
-/
import Derived.Test.YtlckiecpelchlaaArcL
import Derived.Test.YtlckiecpelchlaaRows
namespace Go.Proofs.Ytlckiecpelchlaa
open Go Go.Vm Go.ChangeShapes Go.WideShapes Go.ChangeAt Go.RowKit Go.Proofs

theorem ownArcFlatten : ownKnob Try.prog.godebug = none := by kernel_rfl
theorem laidOutArcFlatten : laidOutB Try.prog = true := by kernel_rfl

set_option maxRecDepth 100000 in
theorem liftedArcFlatten (os : Os) (started : os.Started) (H : Type) (enc : TypeId × Value → H) :
    ReturnsInHanded {} Try.checked os 4 .any (Rows.arcFlattenSpec.pre6 enc Try.prog Try.f4 Rows.arcFlattenRow.domain false) (Rows.arcFlattenSpec.post enc Try.prog Try.f4 false true false false) := by
  refine returnsInHanded_of_change (C := Try.checked) ownArcFlatten started (by kernel_rfl) Try.func4
    (ChangeSpec.witness6 (enc := enc) (C := Try.checked) false ⟨#[], #[.agg #[.int .i64 0, .int .i64 0, .int .i64 0, .int .i64 0, .int .i64 0, .int .i64 0, .bool false], .int .i64 0], []⟩ 8 (by kernel_rfl) (by kernel_rfl) (by kernel_rfl) (by kernel_rfl)) ?_
  intro W base args ds gs before hval hW hcnd _
  exact law_contract (n := 8) rfl rfl rfl (by kernel_rfl) (by kernel_rfl) laidOutArcFlatten (fun ds h => match ds, h with | [d1, d2], _ => ⟨rfl, rfl, rfl⟩) Sg.larcflatten_all W base args ds gs before hval hW

theorem overArcFlatten : Rows.arcFlattenRow.holds Try.pinned (OpenSpec.ofChange Rows.arcFlattenSpec) :=
  OpenClaim.holds_of_wide 4 Try.f4 rfl rfl rfl rfl rfl rfl rfl ⟨rfl, rfl, rfl, rfl, rfl⟩ rfl rfl rfl rfl rfl (by kernel_rfl) Try.func4 (by kernel_rfl)
    (of_decide_eq_true (by kernel_rfl)) (by unfold Func.isWrapper; first | (rw [if_pos (by decide +kernel)]; kernel_rfl) | (rw [if_neg (by decide +kernel)]; exact ⟨rfl, rfl⟩))
    (fun os started H enc _ => liftedArcFlatten os started H enc)

/-- THE STATEMENT. -/
theorem provedArcFlatten : Rows.ArcFlattenSaid := overArcFlatten
#print axioms provedArcFlatten
end Go.Proofs.Ytlckiecpelchlaa
