/-
  The law StripParts: whatever the input, it returns true, and each argument reads behind the call as it read before.
-/
import Derived.Test.YtfoblfchkgapoaaStpM
import Derived.Test.YtfoblfchkgapoaaRows
namespace Go.Proofs.Ytfoblfchkgapoaa
open Go Go.Vm Go.ChangeShapes Go.WideShapes Go.ChangeAt Go.RowKit Go.Proofs

theorem ownStripParts : ownKnob Try.prog.godebug = none := by kernel_rfl
theorem laidOutStripParts : laidOutB Try.prog = true := by kernel_rfl

set_option maxRecDepth 100000 in
theorem liftedStripParts (os : Os) (started : os.Started) (H : Type) (enc : TypeId × Value → H) :
    ReturnsInHanded {} Try.checked os 5 .any (Rows.stripPartsSpec.pre6 enc Try.prog Try.f5 Rows.stripPartsRow.domain false) (Rows.stripPartsSpec.post enc Try.prog Try.f5 false true false false) := by
  refine returnsInHanded_of_change (C := Try.checked) ownStripParts started (by kernel_rfl) Try.func5
    (ChangeSpec.witness6 (enc := enc) (C := Try.checked) false ⟨#[], #[.agg #[.slice none 0 0, .int .i64 0, .int .i64 0, .int .i64 0], .int .u8 0], []⟩ 8 (by kernel_rfl) (by kernel_rfl) (by kernel_rfl) (by kernel_rfl)) ?_
  intro W base args ds gs before hval hW hcnd _
  exact law_contract (n := 8) rfl rfl rfl (by kernel_rfl) (by kernel_rfl) laidOutStripParts (fun ds h => match ds, h with | [d1, d2], _ => ⟨rfl, rfl, rfl⟩) St.lparts_all W base args ds gs before hval hW

theorem overStripParts : Rows.stripPartsRow.holds Try.pinned (OpenSpec.ofChange Rows.stripPartsSpec) :=
  OpenClaim.holds_of_wide 5 Try.f5 rfl rfl rfl rfl rfl rfl rfl ⟨rfl, rfl, rfl, rfl, rfl⟩ rfl rfl rfl rfl rfl (by kernel_rfl) Try.func5 (by kernel_rfl)
    (of_decide_eq_true (by kernel_rfl)) (by unfold Func.isWrapper; first | (rw [if_pos (by decide +kernel)]; kernel_rfl) | (rw [if_neg (by decide +kernel)]; exact ⟨rfl, rfl⟩))
    (fun os started H enc _ => liftedStripParts os started H enc)

/-- THE STATEMENT. -/
theorem provedStripParts : Rows.StripPartsSaid := overStripParts
#print axioms provedStripParts
end Go.Proofs.Ytfoblfchkgapoaa
