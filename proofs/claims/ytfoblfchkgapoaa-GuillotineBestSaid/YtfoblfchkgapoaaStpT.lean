/-
  Layer 37: contracts of both Stages and both Counts.
-/
import Derived.Test.YtfoblfchkgapoaaStpS
namespace Go.Vm
set_option maxRecDepth 20000
set_option linter.unusedVariables false
set_option linter.unusedSimpArgs false
open Go Go.RowKit Go.Proofs
namespace St

def aT (t : List Nd) : Nat → List Int
  | 0 => List.replicate t.length 0
  | k + 1 => sT t (k + 1)
def sJ (t : List Nd) (k : Nat) : Nat → List Int
  | 0 => sT t k
  | 1 => (sT t k).set (ndget t k).f.toNat ((sT t k).getD k 0 + dV t k (ndget t k).f)
  | _ + 2 => ((sT t k).set (ndget t k).f.toNat ((sT t k).getD k 0 + dV t k (ndget t k).f)).set (ndget t k).s.toNat ((sT t k).getD k 0 + dV t k (ndget t k).s)
/-! ### the program's walk -/
abbrev wM (t : List Nd) (m : Int) : List Mem := [.box [ndS t], .box [i64 m], .obj [.clo 75 [.ptr (.n 2000) 0, .ptr (.n 2001) 0, .ptr (.n 2002) 0]]]
end St
end Go.Vm
