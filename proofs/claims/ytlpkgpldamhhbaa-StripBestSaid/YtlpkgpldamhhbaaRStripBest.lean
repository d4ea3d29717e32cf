/-
  The law StripBest: whatever the input, it returns true, and each argument reads behind the call as it read before.
-/
import Derived.Test.YtlpkgpldamhhbaaStpZ
import Derived.Test.YtlpkgpldamhhbaaRows
namespace Go.Proofs.Ytlpkgpldamhhbaa
open Go Go.Vm Go.ChangeShapes Go.WideShapes Go.ChangeAt Go.RowKit Go.Proofs

theorem ownStripBest : ownKnob Try.prog.godebug = none := by kernel_rfl
theorem laidOutStripBest : laidOutB Try.prog = true := by kernel_rfl

set_option maxRecDepth 100000 in
theorem liftedStripBest (os : Os) (started : os.Started) (H : Type) (enc : TypeId × Value → H) :
    ReturnsInHanded {} Try.checked os 3 .any (Rows.stripBestSpec.pre6 enc Try.prog Try.f3 Rows.stripBestRow.domain false) (Rows.stripBestSpec.post enc Try.prog Try.f3 false true false false) := by
  refine returnsInHanded_of_change (C := Try.checked) ownStripBest started (by kernel_rfl) Try.func3
    (ChangeSpec.witness6 (enc := enc) (C := Try.checked) false ⟨#[], #[.agg #[.slice none 0 0, .int .i64 0, .int .i64 0, .int .i64 0]], []⟩ 8 (by kernel_rfl) (by kernel_rfl) (by kernel_rfl) (by kernel_rfl)) ?_
  intro W base args ds gs before hval hW hcnd _
  exact law_contract (n := 8) rfl rfl rfl (by kernel_rfl) (by kernel_rfl) laidOutStripBest (fun ds h => match ds, h with | [d1], _ => ⟨rfl, rfl, rfl⟩) St.lbest_all W base args ds gs before hval hW

theorem overStripBest : Rows.stripBestRow.holds Try.pinned (OpenSpec.ofChange Rows.stripBestSpec) :=
  OpenClaim.holds_of_wide 3 Try.f3 rfl rfl rfl rfl rfl rfl rfl ⟨rfl, rfl, rfl, rfl, rfl⟩ rfl rfl rfl rfl rfl (by kernel_rfl) Try.func3 (by kernel_rfl)
    (of_decide_eq_true (by kernel_rfl)) (by unfold Func.isWrapper; first | (rw [if_pos (by decide +kernel)]; kernel_rfl) | (rw [if_neg (by decide +kernel)]; exact ⟨rfl, rfl⟩))
    (fun os started H enc _ => liftedStripBest os started H enc)

/-- THE STATEMENT. -/
theorem provedStripBest : Rows.StripBestSaid := overStripBest
#print axioms provedStripBest
end Go.Proofs.Ytlpkgpldamhhbaa
