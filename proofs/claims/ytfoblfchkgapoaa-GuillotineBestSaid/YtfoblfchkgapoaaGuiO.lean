/-
  Layer 38: contracts of the reference's Boxes and Saw.
-/
import Derived.Test.YtfoblfchkgapoaaGuiN
namespace Go.Vm
set_option maxRecDepth 20000
set_option linter.unusedVariables false
set_option linter.unusedSimpArgs false
open Go Go.RowKit Go.Proofs
namespace St

structure Bx4 where
  a : Sg.V2
  b : Sg.V2
abbrev bx0 : Bx4 := ⟨v20, v20⟩
abbrev bxL (b : Bx4) : List SV := [i64 b.a.x, i64 b.a.y, i64 b.b.x, i64 b.b.y]
abbrev bxS (l : List Bx4) : SV := .sl l.length 4 (lG bxL bx0 l)
def bxP (r : Rc) : Bx4 := ⟨loP r, hiP r⟩
abbrev bxE (x : List Bx4 × Bool) : TV := .tup [.one (bxS x.1), .one (.v (.bool x.2))]
def okT (t : List Nd) (w h kerf : Int) : Bool := probB [] w h kerf && (joinB t && boxOkB t w h kerf)
def boxesR (t : List Nd) (w h kerf : Int) : List Bx4 × Bool := if okT t w h kerf = true then ((rT t w h kerf t.length).map bxP, true) else ([], false)
def rsawR (t : List Nd) (w h kerf : Int) : List Sg.Seg × Int := if okT t w h kerf = true then (sawL t w h kerf t.length, 0) else ([], 1)
end St
end Go.Vm
