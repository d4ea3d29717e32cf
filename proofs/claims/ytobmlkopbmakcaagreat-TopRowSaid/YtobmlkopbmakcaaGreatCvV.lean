/-
  An evaluator for closed runs: the no-fit polygon of the square's piece with itself.
-/
import Derived.Test.YtobmlkopbmakcaaGreatCvT
namespace Go.Cv
open Go Go.RowKit Go.Vm Go.Proofs

noncomputable def k23 : Memo := { f := 23, args := [.d (.one (.slc 6261 1 0 1 false)), .d (.one (.slc 6261 1 0 1 false))], m := [(6253, .arr 50 2 4 false [iw 0, iw 0, iw 2, iw 0, iw 2, iw 2, iw 0, iw 2]), (6261, .arr 42 1 1 false [.slc 6253 2 0 4 false])], nx := 6354, r := .tup [.one (.slc 12950 1 0 1 false), .one (iw 0)], m' := [(12671, .arr 50 2 4 false [.w (.int .i64 (Int.negSucc 1)), .w (.int .i64 (Int.negSucc 1)), iw 2, .w (.int .i64 (Int.negSucc 1)), iw 2, iw 2, .w (.int .i64 (Int.negSucc 1)), iw 2]), (12950, .arr 42 1 1 false [.slc 12671 2 0 4 false]), (6253, .arr 50 2 4 false [iw 0, iw 0, iw 2, iw 0, iw 2, iw 2, iw 0, iw 2]), (6261, .arr 42 1 1 false [.slc 6253 2 0 4 false])], nx' := 12970 }
theorem k23_ok : k23.chk ev0 = true := by kernel_rfl
end Go.Cv
