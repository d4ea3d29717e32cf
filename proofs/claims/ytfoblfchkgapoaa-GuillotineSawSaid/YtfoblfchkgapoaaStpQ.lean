/-
  Layer 37: the law Places.
-/
import Derived.Test.YtfoblfchkgapoaaStpP
namespace Go.Vm
set_option maxRecDepth 20000
set_option linter.unusedVariables false
set_option linter.unusedSimpArgs false
open Go Go.RowKit Go.Proofs
namespace St

abbrev ntL (l : List Nd) : List SV := [ndS l]
abbrev ntS (l : List (List Nd)) : SV := .sl l.length 1 (lG ntL [] l)
theorem PlOk.nil {ks : List Knd} {w h kerf : Int} : PlOk ks w h kerf [] := ⟨fun _ h => absurd h (Nat.not_lt_zero _), fun _ h => absurd h (Nat.not_lt_zero _), fun _ _ h => absurd h (Nat.not_lt_zero _)⟩
theorem bestR_len {ks : List Knd} {w h kerf : Int} : (bestR ks w h kerf).2.1.length ≤ 20000000 := by
  unfold bestR
  split
  · exact Nat.zero_le _
  · rename_i hp
    split
    · exact Nat.zero_le _
    · exact bestT_len (prob_iff.1 (by simpa using hp))
end St
end Go.Vm
