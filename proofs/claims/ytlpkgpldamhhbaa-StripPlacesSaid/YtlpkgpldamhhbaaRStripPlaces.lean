/-
  The law StripPlaces: whatever the input, it returns true, and each argument reads behind the call as it read before.
-/
import Derived.Test.YtlpkgpldamhhbaaStpQ
import Derived.Test.YtlpkgpldamhhbaaRows
namespace Go.Proofs.Ytlpkgpldamhhbaa
open Go Go.Vm Go.ChangeShapes Go.WideShapes Go.ChangeAt Go.RowKit Go.Proofs

theorem ownStripPlaces : ownKnob Try.prog.godebug = none := by kernel_rfl
theorem laidOutStripPlaces : laidOutB Try.prog = true := by kernel_rfl

set_option maxRecDepth 100000 in
theorem liftedStripPlaces (os : Os) (started : os.Started) (H : Type) (enc : TypeId × Value → H) :
    ReturnsInHanded {} Try.checked os 5 .any (Rows.stripPlacesSpec.pre6 enc Try.prog Try.f5 Rows.stripPlacesRow.domain false) (Rows.stripPlacesSpec.post enc Try.prog Try.f5 false true false false) := by
  refine returnsInHanded_of_change (C := Try.checked) ownStripPlaces started (by kernel_rfl) Try.func5
    (ChangeSpec.witness6 (enc := enc) (C := Try.checked) false ⟨#[], #[.agg #[.slice none 0 0, .int .i64 0, .int .i64 0, .int .i64 0], .slice none 0 0], []⟩ 8 (by kernel_rfl) (by kernel_rfl) (by kernel_rfl) (by kernel_rfl)) ?_
  intro W base args ds gs before hval hW hcnd _
  exact law_contract (n := 8) rfl rfl rfl (by kernel_rfl) (by kernel_rfl) laidOutStripPlaces (fun ds h => match ds, h with | [d1, d2], _ => ⟨rfl, rfl, rfl⟩) St.lplaces_all W base args ds gs before hval hW

theorem overStripPlaces : Rows.stripPlacesRow.holds Try.pinned (OpenSpec.ofChange Rows.stripPlacesSpec) :=
  OpenClaim.holds_of_wide 5 Try.f5 rfl rfl rfl rfl rfl rfl rfl ⟨rfl, rfl, rfl, rfl, rfl⟩ rfl rfl rfl rfl rfl (by kernel_rfl) Try.func5 (by kernel_rfl)
    (of_decide_eq_true (by kernel_rfl)) (by unfold Func.isWrapper; first | (rw [if_pos (by decide +kernel)]; kernel_rfl) | (rw [if_neg (by decide +kernel)]; exact ⟨rfl, rfl⟩))
    (fun os started H enc _ => liftedStripPlaces os started H enc)

/-- THE STATEMENT. -/
theorem provedStripPlaces : Rows.StripPlacesSaid := overStripPlaces
#print axioms provedStripPlaces
end Go.Proofs.Ytlpkgpldamhhbaa
