/-
  The law SegMeet: whatever the input, it returns true, and each argument reads behind the call as it read before.
-/
import Derived.Test.YtbhjhbmdgdnbeaaSegN
import Derived.Test.YtbhjhbmdgdnbeaaRows
namespace Go.Proofs.Ytbhjhbmdgdnbeaa
open Go Go.Vm Go.ChangeShapes Go.WideShapes Go.ChangeAt Go.RowKit Go.Proofs

theorem ownSegMeet : ownKnob Try.prog.godebug = none := by kernel_rfl
theorem laidOutSegMeet : laidOutB Try.prog = true := by kernel_rfl

set_option maxRecDepth 100000 in
theorem liftedSegMeet (os : Os) (started : os.Started) (H : Type) (enc : TypeId × Value → H) :
    ReturnsInHanded {} Try.checked os 3 .any (Rows.segMeetSpec.pre6 enc Try.prog Try.f3 Rows.segMeetRow.domain false) (Rows.segMeetSpec.post enc Try.prog Try.f3 false true false false) := by
  refine returnsInHanded_of_change (C := Try.checked) ownSegMeet started (by kernel_rfl) Try.func3
    (ChangeSpec.witness6 (enc := enc) (C := Try.checked) false ⟨#[], #[.agg #[.int .i64 0, .int .i64 0, .int .i64 0, .int .i64 0], .agg #[.int .i64 0, .int .i64 0, .int .i64 0, .int .i64 0]], []⟩ 8 (by kernel_rfl) (by kernel_rfl) (by kernel_rfl) (by kernel_rfl)) ?_
  intro W base args ds gs before hval hW hcnd _
  exact law_contract (n := 8) rfl rfl rfl (by kernel_rfl) (by kernel_rfl) laidOutSegMeet (fun ds h => match ds, h with | [d1, d2], _ => ⟨rfl, rfl, rfl⟩) Sg.lmeet_all W base args ds gs before hval hW

theorem overSegMeet : Rows.segMeetRow.holds Try.pinned (OpenSpec.ofChange Rows.segMeetSpec) :=
  OpenClaim.holds_of_wide 3 Try.f3 rfl rfl rfl rfl rfl rfl rfl ⟨rfl, rfl, rfl, rfl, rfl⟩ rfl rfl rfl rfl rfl (by kernel_rfl) Try.func3 (by kernel_rfl)
    (of_decide_eq_true (by kernel_rfl)) (by unfold Func.isWrapper; first | (rw [if_pos (by decide +kernel)]; kernel_rfl) | (rw [if_neg (by decide +kernel)]; exact ⟨rfl, rfl⟩))
    (fun os started H enc _ => liftedSegMeet os started H enc)

/-- THE STATEMENT. -/
theorem provedSegMeet : Rows.SegMeetSaid := overSegMeet
#print axioms provedSegMeet
end Go.Proofs.Ytbhjhbmdgdnbeaa
