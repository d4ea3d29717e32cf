/-
  The law GuillotineBest: whatever the input, it returns true, and each argument reads behind the call as it read before.
-/
import Derived.Test.YtfoblfchkgapoaaGuiY
import Derived.Test.YtfoblfchkgapoaaRows
namespace Go.Proofs.Ytfoblfchkgapoaa
open Go Go.Vm Go.ChangeShapes Go.WideShapes Go.ChangeAt Go.RowKit Go.Proofs

theorem ownGuillotineBest : ownKnob Try.prog.godebug = none := by kernel_rfl
theorem laidOutGuillotineBest : laidOutB Try.prog = true := by kernel_rfl

set_option maxRecDepth 100000 in
theorem liftedGuillotineBest (os : Os) (started : os.Started) (H : Type) (enc : TypeId × Value → H) :
    ReturnsInHanded {} Try.checked os 12 .any (Rows.guillotineBestSpec.pre6 enc Try.prog Try.f12 Rows.guillotineBestRow.domain false) (Rows.guillotineBestSpec.post enc Try.prog Try.f12 false true false false) := by
  refine returnsInHanded_of_change (C := Try.checked) ownGuillotineBest started (by kernel_rfl) Try.func12
    (ChangeSpec.witness6 (enc := enc) (C := Try.checked) false ⟨#[], #[.agg #[.slice none 0 0, .int .i64 0, .int .i64 0, .int .i64 0]], []⟩ 8 (by kernel_rfl) (by kernel_rfl) (by kernel_rfl) (by kernel_rfl)) ?_
  intro W base args ds gs before hval hW hcnd _
  exact law_contract (n := 8) rfl rfl rfl (by kernel_rfl) (by kernel_rfl) laidOutGuillotineBest (fun ds h => match ds, h with | [d1], _ => ⟨rfl, rfl, rfl⟩) St.lgbest_all W base args ds gs before hval hW

theorem overGuillotineBest : Rows.guillotineBestRow.holds Try.pinned (OpenSpec.ofChange Rows.guillotineBestSpec) :=
  OpenClaim.holds_of_wide 12 Try.f12 rfl rfl rfl rfl rfl rfl rfl ⟨rfl, rfl, rfl, rfl, rfl⟩ rfl rfl rfl rfl rfl (by kernel_rfl) Try.func12 (by kernel_rfl)
    (of_decide_eq_true (by kernel_rfl)) (by unfold Func.isWrapper; first | (rw [if_pos (by decide +kernel)]; kernel_rfl) | (rw [if_neg (by decide +kernel)]; exact ⟨rfl, rfl⟩))
    (fun os started H enc _ => liftedGuillotineBest os started H enc)

/-- THE STATEMENT. -/
theorem provedGuillotineBest : Rows.GuillotineBestSaid := overGuillotineBest
#print axioms provedGuillotineBest
end Go.Proofs.Ytfoblfchkgapoaa
