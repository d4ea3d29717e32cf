/-
  Layer 38: contract of the reference's Normal; the law Normal (printed by gen_guil.py).
-/
import Derived.Test.YtfoblfchkgapoaaGuiK
namespace Go.Vm
set_option maxRecDepth 20000
set_option linter.unusedVariables false
set_option linter.unusedSimpArgs false
open Go Go.RowKit Go.Proofs
namespace St

def rnF (kerf : Int) (out : List Int) (n s : Int) : Bool := (n == s) || out.tail.any fun m => m == n - s - kerf
def rnL (sizes : List Int) (kerf : Int) : Nat → List Int
  | 0 => [0]
  | n + 1 => if sizes.any (rnF kerf (rnL sizes kerf n) ((n + 1 : Nat) : Int)) = true then rnL sizes kerf n ++ [((n + 1 : Nat) : Int)] else rnL sizes kerf n
def rnR (sizes : List Int) (side kerf : Int) : List Int × Int := if nrmBad sizes side kerf = true then ([], 1) else (rnL sizes kerf side.toNat, 0)
end St
end Go.Vm
