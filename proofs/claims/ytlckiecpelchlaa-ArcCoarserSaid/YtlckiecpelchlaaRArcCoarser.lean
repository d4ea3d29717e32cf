/-
  The law ArcCoarser: whatever the input, it returns true, and each argument reads behind the call as it read before.
-/
import Derived.Test.YtlckiecpelchlaaArcN
import Derived.Test.YtlckiecpelchlaaRows
namespace Go.Proofs.Ytlckiecpelchlaa
open Go Go.Vm Go.ChangeShapes Go.WideShapes Go.ChangeAt Go.RowKit Go.Proofs

theorem ownArcCoarser : ownKnob Try.prog.godebug = none := by kernel_rfl
theorem laidOutArcCoarser : laidOutB Try.prog = true := by kernel_rfl

set_option maxRecDepth 100000 in
theorem liftedArcCoarser (os : Os) (started : os.Started) (H : Type) (enc : TypeId × Value → H) :
    ReturnsInHanded {} Try.checked os 11 .any (Rows.arcCoarserSpec.pre6 enc Try.prog Try.f11 Rows.arcCoarserRow.domain false) (Rows.arcCoarserSpec.post enc Try.prog Try.f11 false true false false) := by
  refine returnsInHanded_of_change (C := Try.checked) ownArcCoarser started (by kernel_rfl) Try.func11
    (ChangeSpec.witness6 (enc := enc) (C := Try.checked) false ⟨#[], #[.agg #[.int .i64 0, .int .i64 0, .int .i64 0, .int .i64 0, .int .i64 0, .int .i64 0, .bool false], .int .i64 0, .int .i64 0], []⟩ 8 (by kernel_rfl) (by kernel_rfl) (by kernel_rfl) (by kernel_rfl)) ?_
  intro W base args ds gs before hval hW hcnd _
  exact law_contract (n := 8) rfl rfl rfl (by kernel_rfl) (by kernel_rfl) laidOutArcCoarser (fun ds h => match ds, h with | [d1, d2, d3], _ => ⟨rfl, rfl, rfl⟩) Sg.larccoarse_all W base args ds gs before hval hW

theorem overArcCoarser : Rows.arcCoarserRow.holds Try.pinned (OpenSpec.ofChange Rows.arcCoarserSpec) :=
  OpenClaim.holds_of_wide 11 Try.f11 rfl rfl rfl rfl rfl rfl rfl ⟨rfl, rfl, rfl, rfl, rfl⟩ rfl rfl rfl rfl rfl (by kernel_rfl) Try.func11 (by kernel_rfl)
    (of_decide_eq_true (by kernel_rfl)) (by unfold Func.isWrapper; first | (rw [if_pos (by decide +kernel)]; kernel_rfl) | (rw [if_neg (by decide +kernel)]; exact ⟨rfl, rfl⟩))
    (fun os started H enc _ => liftedArcCoarser os started H enc)

/-- THE STATEMENT. -/
theorem provedArcCoarser : Rows.ArcCoarserSaid := overArcCoarser
#print axioms provedArcCoarser
end Go.Proofs.Ytlckiecpelchlaa
