/-
  The law StripTrees: whatever the input, it returns true, and each argument reads behind the call as it read before.
-/
import Derived.Test.YtlpkgpldamhhbaaStpU
import Derived.Test.YtlpkgpldamhhbaaRows
namespace Go.Proofs.Ytlpkgpldamhhbaa
open Go Go.Vm Go.ChangeShapes Go.WideShapes Go.ChangeAt Go.RowKit Go.Proofs

theorem ownStripTrees : ownKnob Try.prog.godebug = none := by kernel_rfl
theorem laidOutStripTrees : laidOutB Try.prog = true := by kernel_rfl

set_option maxRecDepth 100000 in
theorem liftedStripTrees (os : Os) (started : os.Started) (H : Type) (enc : TypeId × Value → H) :
    ReturnsInHanded {} Try.checked os 13 .any (Rows.stripTreesSpec.pre6 enc Try.prog Try.f13 Rows.stripTreesRow.domain false) (Rows.stripTreesSpec.post enc Try.prog Try.f13 false true false false) := by
  refine returnsInHanded_of_change (C := Try.checked) ownStripTrees started (by kernel_rfl) Try.func13
    (ChangeSpec.witness6 (enc := enc) (C := Try.checked) false ⟨#[], #[.agg #[.slice none 0 0, .int .i64 0, .int .i64 0, .int .i64 0], .slice none 0 0, .int .i64 0], []⟩ 8 (by kernel_rfl) (by kernel_rfl) (by kernel_rfl) (by kernel_rfl)) ?_
  intro W base args ds gs before hval hW hcnd _
  exact law_contract (n := 8) rfl rfl rfl (by kernel_rfl) (by kernel_rfl) laidOutStripTrees (fun ds h => match ds, h with | [d1, d2, d3], _ => ⟨rfl, rfl, rfl⟩) St.ltrees_all W base args ds gs before hval hW

theorem overStripTrees : Rows.stripTreesRow.holds Try.pinned (OpenSpec.ofChange Rows.stripTreesSpec) :=
  OpenClaim.holds_of_wide 13 Try.f13 rfl rfl rfl rfl rfl rfl rfl ⟨rfl, rfl, rfl, rfl, rfl⟩ rfl rfl rfl rfl rfl (by kernel_rfl) Try.func13 (by kernel_rfl)
    (of_decide_eq_true (by kernel_rfl)) (by unfold Func.isWrapper; first | (rw [if_pos (by decide +kernel)]; kernel_rfl) | (rw [if_neg (by decide +kernel)]; exact ⟨rfl, rfl⟩))
    (fun os started H enc _ => liftedStripTrees os started H enc)

/-- THE STATEMENT. -/
theorem provedStripTrees : Rows.StripTreesSaid := overStripTrees
#print axioms provedStripTrees
end Go.Proofs.Ytlpkgpldamhhbaa
