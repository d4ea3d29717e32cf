/-
  Layer 37: contracts of both Counts; the law Trees.
-/
import Derived.Test.YtfoblfchkgapoaaStpT
import Derived.Test.YtfoblfchkgapoaaStpQ
namespace Go.Vm
set_option maxRecDepth 20000
set_option linter.unusedVariables false
set_option linter.unusedSimpArgs false
open Go Go.RowKit Go.Proofs
namespace St

def cT (t : List Nd) (n : Int) : Nat → List Int
  | 0 => List.replicate n.toNat 0
  | k + 1 => if leafP (ndget t k) = true ∧ inB (ndget t k).k 0 (n - 1) = true then incr (cT t n k) (ndget t k).k else cT t n k
def countR (t : List Nd) (n : Int) : List Int := if inB n 0 20 = true then cT t n t.length else []
/-! ### the law -/
end St
end Go.Vm
