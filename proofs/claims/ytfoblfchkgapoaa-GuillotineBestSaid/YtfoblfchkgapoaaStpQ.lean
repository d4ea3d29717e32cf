/-
  Layer 37: the law Places.
-/
import Derived.Test.YtfoblfchkgapoaaStpP
namespace Go.Vm
set_option maxRecDepth 20000
set_option linter.unusedVariables false
set_option linter.unusedSimpArgs false
open Go Go.RowKit Go.Proofs
namespace St

abbrev ntL (l : List Nd) : List SV := [ndS l]
abbrev ntS (l : List (List Nd)) : SV := .sl l.length 1 (lG ntL [] l)
end St
end Go.Vm
