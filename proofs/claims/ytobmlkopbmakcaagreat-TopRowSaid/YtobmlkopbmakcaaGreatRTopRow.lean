/-
  The law TopRow: whatever the input, it returns true, and each argument reads behind the call as it read before.
-/
import Derived.Test.YtobmlkopbmakcaaGreatTopJ
import Derived.Test.YtobmlkopbmakcaaGreatRows
namespace Go.Proofs.YtobmlkopbmakcaaGreat
open Go Go.Vm Go.ChangeShapes Go.WideShapes Go.ChangeAt Go.RowKit Go.Proofs

theorem ownTopRow : ownKnob Tryz.prog.godebug = none := by kernel_rfl
theorem laidOutTopRow : laidOutB Tryz.prog = true := by kernel_rfl

set_option maxRecDepth 100000 in
theorem liftedTopRow (os : Os) (started : os.Started) (H : Type) (enc : TypeId × Value → H) :
    ReturnsInHanded {} Tryz.checked os 3 .any (Rows.topRowSpec.pre6 enc Tryz.prog Tryz.f3 Rows.topRowRow.domain false) (Rows.topRowSpec.post enc Tryz.prog Tryz.f3 false true false false) := by
  refine returnsInHanded_of_change (C := Tryz.checked) ownTopRow started (by kernel_rfl) Tryz.func3
    (ChangeSpec.witness6 (enc := enc) (C := Tryz.checked) false ⟨#[], #[.agg #[.slice none 0 0, .slice none 0 0, .int .i64 0, .int .i64 0], .slice none 0 0], []⟩ 8 (by kernel_rfl) (by kernel_rfl) (by kernel_rfl) (by kernel_rfl)) ?_
  intro W base args ds gs before hval hW hcnd _
  exact law_contract (n := 8) rfl rfl rfl (by kernel_rfl) (by kernel_rfl) laidOutTopRow (fun ds h => match ds, h with | [d1, d2], _ => ⟨rfl, rfl, rfl⟩) toprow_all W base args ds gs before hval hW

theorem overTopRow : Rows.topRowRow.holds Tryz.pinned (OpenSpec.ofChange Rows.topRowSpec) :=
  OpenClaim.holds_of_wide 3 Tryz.f3 rfl rfl rfl rfl rfl rfl rfl ⟨rfl, rfl, rfl, rfl, rfl⟩ rfl rfl rfl rfl rfl (by kernel_rfl) Tryz.func3 (by kernel_rfl)
    (of_decide_eq_true (by kernel_rfl)) (by unfold Func.isWrapper; first | (rw [if_pos (by decide +kernel)]; kernel_rfl) | (rw [if_neg (by decide +kernel)]; exact ⟨rfl, rfl⟩))
    (fun os started H enc _ => liftedTopRow os started H enc)

/-- THE STATEMENT. -/
theorem provedTopRow : Rows.TopRowSaid := overTopRow
#print axioms provedTopRow
end Go.Proofs.YtobmlkopbmakcaaGreat
