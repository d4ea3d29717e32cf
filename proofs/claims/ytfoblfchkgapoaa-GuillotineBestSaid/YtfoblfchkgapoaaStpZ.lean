/-
  Layer 37: the contract of the reference's Best; the law Best.
-/
import Derived.Test.YtfoblfchkgapoaaStpU
import Derived.Test.YtfoblfchkgapoaaStpY
namespace Go.Vm
set_option maxRecDepth 20000
set_option linter.unusedVariables false
set_option linter.unusedSimpArgs false
open Go Go.RowKit Go.Proofs
namespace St

def rbestR (ks : List Knd) (w h kerf : Int) : Int × Int := if probB ks w h kerf = false then (0, 1) else if manyB ks w h kerf = true then (0, 9) else (bestV ks w h kerf, 0)
abbrev twoI (x : Int × Int) : TV := .tup [.one (i64 x.1), .one (i64 x.2)]
theorem CallW.twoI {P : Program} {f : FuncId} {args : List DV} {K : TV → Prop} {a : Int × Int} (h : Det P f args (twoI a)) (kk : ∀ x, x = a → K (twoI x)) : CallW P f args K := ⟨_, h, kk a rfl⟩
end St
end Go.Vm
