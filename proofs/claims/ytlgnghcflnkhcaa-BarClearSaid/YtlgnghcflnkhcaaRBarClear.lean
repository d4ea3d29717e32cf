/-
  The law BarClear: whatever the input, it returns true, and each argument reads behind the call as it read before.
-/
import Derived.Test.YtlgnghcflnkhcaaBarO
import Derived.Test.YtlgnghcflnkhcaaRows
namespace Go.Proofs.Ytlgnghcflnkhcaa
open Go Go.Vm Go.ChangeShapes Go.WideShapes Go.ChangeAt Go.RowKit Go.Proofs

theorem ownBarClear : ownKnob Try.prog.godebug = none := by kernel_rfl
theorem laidOutBarClear : laidOutB Try.prog = true := by kernel_rfl

set_option maxRecDepth 100000 in
theorem liftedBarClear (os : Os) (started : os.Started) (H : Type) (enc : TypeId × Value → H) :
    ReturnsInHanded {} Try.checked os 9 .any (Rows.barClearSpec.pre6 enc Try.prog Try.f9 Rows.barClearRow.domain false) (Rows.barClearSpec.post enc Try.prog Try.f9 false true false false) := by
  refine returnsInHanded_of_change (C := Try.checked) ownBarClear started (by kernel_rfl) Try.func9
    (ChangeSpec.witness6 (enc := enc) (C := Try.checked) false ⟨#[], #[.slice none 0 0, .int .i64 0, .agg #[.int .i64 0, .string ⟨#[]⟩, .string ⟨#[]⟩, .int .i64 0, .slice none 0 0]], []⟩ 8 (by kernel_rfl) (by kernel_rfl) (by kernel_rfl) (by kernel_rfl)) ?_
  intro W base args ds gs before hval hW hcnd _
  exact law_contract (n := 8) rfl rfl rfl (by kernel_rfl) (by kernel_rfl) laidOutBarClear (fun ds h => match ds, h with | [d1, d2, d3], _ => ⟨rfl, rfl, rfl⟩) lclear_all W base args ds gs before hval hW

theorem overBarClear : Rows.barClearRow.holds Try.pinned (OpenSpec.ofChange Rows.barClearSpec) :=
  OpenClaim.holds_of_wide 9 Try.f9 rfl rfl rfl rfl rfl rfl rfl ⟨rfl, rfl, rfl, rfl, rfl⟩ rfl rfl rfl rfl rfl (by kernel_rfl) Try.func9 (by kernel_rfl)
    (of_decide_eq_true (by kernel_rfl)) (by unfold Func.isWrapper; first | (rw [if_pos (by decide +kernel)]; kernel_rfl) | (rw [if_neg (by decide +kernel)]; exact ⟨rfl, rfl⟩))
    (fun os started H enc _ => liftedBarClear os started H enc)

/-- THE STATEMENT. -/
theorem provedBarClear : Rows.BarClearSaid := overBarClear
#print axioms provedBarClear
end Go.Proofs.Ytlgnghcflnkhcaa
