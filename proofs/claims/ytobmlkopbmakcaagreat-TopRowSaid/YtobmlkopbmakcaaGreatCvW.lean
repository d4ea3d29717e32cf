/-
  An evaluator for closed runs: the square is not disjoint from itself.
-/
import Derived.Test.YtobmlkopbmakcaaGreatCvT
namespace Go.Cv
open Go Go.RowKit Go.Vm Go.Proofs

noncomputable def k16 : Memo := { f := 16, args := [.d (.agg [.slc 92 2 0 4 false, .w (.slice none 0 0)]), .d (.agg [.slc 92 2 0 4 false, .w (.slice none 0 0)])], m := [(92, .ro [iw 0, iw 0, iw 2, iw 0, iw 2, iw 2, iw 0, iw 2])], nx := 12977, r := .tup [.one (.w (.bool false)), .one (iw 0)], m' := [(92, .ro [iw 0, iw 0, iw 2, iw 0, iw 2, iw 2, iw 0, iw 2])], nx' := 44240 }
theorem k16_ok : k16.chk ev0 = true := by kernel_rfl
end Go.Cv
