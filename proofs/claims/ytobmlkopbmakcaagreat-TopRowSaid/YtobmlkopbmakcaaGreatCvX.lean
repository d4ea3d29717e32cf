/-
  An evaluator for closed runs: what the no-fit polygon forbids.
-/
import Derived.Test.YtobmlkopbmakcaaGreatCvT
namespace Go.Cv
open Go Go.RowKit Go.Vm Go.Proofs

noncomputable def k24a : Memo := { f := 24, args := [.d (.one (.slc 12950 1 0 1 false)), .d (.agg [iw 1, iw 0])], m := [(12671, .arr 50 2 4 false [.w (.int .i64 (Int.negSucc 1)), .w (.int .i64 (Int.negSucc 1)), iw 2, .w (.int .i64 (Int.negSucc 1)), iw 2, iw 2, .w (.int .i64 (Int.negSucc 1)), iw 2]), (12950, .arr 42 1 1 false [.slc 12671 2 0 4 false])], nx := 44263, r := wb true, m' := [(12671, .arr 50 2 4 false [.w (.int .i64 (Int.negSucc 1)), .w (.int .i64 (Int.negSucc 1)), iw 2, .w (.int .i64 (Int.negSucc 1)), iw 2, iw 2, .w (.int .i64 (Int.negSucc 1)), iw 2]), (12950, .arr 42 1 1 false [.slc 12671 2 0 4 false])], nx' := 45455 }
theorem k24a_ok : k24a.chk ev0 = true := by kernel_rfl
noncomputable def k24b : Memo := { f := 24, args := [.d (.one (.slc 12950 1 0 1 false)), .d (.agg [iw 2, iw 0])], m := [(12671, .arr 50 2 4 false [.w (.int .i64 (Int.negSucc 1)), .w (.int .i64 (Int.negSucc 1)), iw 2, .w (.int .i64 (Int.negSucc 1)), iw 2, iw 2, .w (.int .i64 (Int.negSucc 1)), iw 2]), (12950, .arr 42 1 1 false [.slc 12671 2 0 4 false])], nx := 45459, r := wb false, m' := [(12671, .arr 50 2 4 false [.w (.int .i64 (Int.negSucc 1)), .w (.int .i64 (Int.negSucc 1)), iw 2, .w (.int .i64 (Int.negSucc 1)), iw 2, iw 2, .w (.int .i64 (Int.negSucc 1)), iw 2]), (12950, .arr 42 1 1 false [.slc 12671 2 0 4 false])], nx' := 46700 }
theorem k24b_ok : k24b.chk ev0 = true := by kernel_rfl
end Go.Cv
