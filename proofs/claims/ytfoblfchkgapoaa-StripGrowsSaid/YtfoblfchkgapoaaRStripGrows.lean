/-
  The law StripGrows: whatever the input, it returns true, and each argument reads behind the call as it read before.
-/
import Derived.Test.YtfoblfchkgapoaaStpM
import Derived.Test.YtfoblfchkgapoaaRows
namespace Go.Proofs.Ytfoblfchkgapoaa
open Go Go.Vm Go.ChangeShapes Go.WideShapes Go.ChangeAt Go.RowKit Go.Proofs

theorem ownStripGrows : ownKnob Try.prog.godebug = none := by kernel_rfl
theorem laidOutStripGrows : laidOutB Try.prog = true := by kernel_rfl

set_option maxRecDepth 100000 in
theorem liftedStripGrows (os : Os) (started : os.Started) (H : Type) (enc : TypeId × Value → H) :
    ReturnsInHanded {} Try.checked os 4 .any (Rows.stripGrowsSpec.pre6 enc Try.prog Try.f4 Rows.stripGrowsRow.domain false) (Rows.stripGrowsSpec.post enc Try.prog Try.f4 false true false false) := by
  refine returnsInHanded_of_change (C := Try.checked) ownStripGrows started (by kernel_rfl) Try.func4
    (ChangeSpec.witness6 (enc := enc) (C := Try.checked) false ⟨#[], #[.agg #[.slice none 0 0, .int .i64 0, .int .i64 0, .int .i64 0], .agg #[.int .i64 0, .int .i64 0, .int .i64 0], .agg #[.int .u8 0, .int .u8 0]], []⟩ 8 (by kernel_rfl) (by kernel_rfl) (by kernel_rfl) (by kernel_rfl)) ?_
  intro W base args ds gs before hval hW hcnd _
  exact law_contract (n := 8) rfl rfl rfl (by kernel_rfl) (by kernel_rfl) laidOutStripGrows (fun ds h => match ds, h with | [d1, d2, d3], _ => ⟨rfl, rfl, rfl⟩) St.lgrows_all W base args ds gs before hval hW

theorem overStripGrows : Rows.stripGrowsRow.holds Try.pinned (OpenSpec.ofChange Rows.stripGrowsSpec) :=
  OpenClaim.holds_of_wide 4 Try.f4 rfl rfl rfl rfl rfl rfl rfl ⟨rfl, rfl, rfl, rfl, rfl⟩ rfl rfl rfl rfl rfl (by kernel_rfl) Try.func4 (by kernel_rfl)
    (of_decide_eq_true (by kernel_rfl)) (by unfold Func.isWrapper; first | (rw [if_pos (by decide +kernel)]; kernel_rfl) | (rw [if_neg (by decide +kernel)]; exact ⟨rfl, rfl⟩))
    (fun os started H enc _ => liftedStripGrows os started H enc)

/-- THE STATEMENT. -/
theorem provedStripGrows : Rows.StripGrowsSaid := overStripGrows
#print axioms provedStripGrows
end Go.Proofs.Ytfoblfchkgapoaa
