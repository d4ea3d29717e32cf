/-
  An evaluator for closed runs: the pieces of the square.
-/
import Derived.Test.YtobmlkopbmakcaaGreatCvT
namespace Go.Cv
open Go Go.RowKit Go.Vm Go.Proofs

noncomputable def k19 : Memo := { f := 19, args := [.d (.agg [.slc 92 2 0 4 false, .w (.slice none 0 0)])], m := [(92, .arr 50 2 4 true [iw 0, iw 0, iw 2, iw 0, iw 2, iw 2, iw 0, iw 2])], nx := 98, r := .tup [.one (.slc 6261 1 0 1 false), .one (iw 0)], m' := [(92, .ro [iw 0, iw 0, iw 2, iw 0, iw 2, iw 2, iw 0, iw 2]), (6253, .arr 50 2 4 false [iw 0, iw 0, iw 2, iw 0, iw 2, iw 2, iw 0, iw 2]), (6261, .arr 42 1 1 false [.slc 6253 2 0 4 false])], nx' := 6347 }
theorem k19_ok : k19.chk ev0 = true := by kernel_rfl
end Go.Cv
