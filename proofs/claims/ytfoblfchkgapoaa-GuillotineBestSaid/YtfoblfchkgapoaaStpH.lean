/-
  Layer 37: the contract of Best.
  Layer 37: the contract of Best.
-/
import Derived.Test.YtfoblfchkgapoaaStpF
import Derived.Test.YtfoblfchkgapoaaVmX
namespace Go.Vm
set_option maxRecDepth 20000
set_option linter.unusedVariables false
set_option linter.unusedSimpArgs false
open Go Go.RowKit Go.Proofs
namespace St

def ixI : List Int → Int → Nat → Int
  | [], _, _ => -1
  | k :: r, x, i => if x = k then i else ixI r x (i + 1)
/-! ### the strips of all heights -/
def selF (ks : List Knd) (kerf hh : Int) : Nat → List Itm
  | 0 => []
  | i + 1 => if (kget ks i).h ≤ hh then selF ks kerf hh i ++ [⟨(kget ks i).w + kerf, (kget ks i).v⟩] else selF ks kerf hh i
def numF (ks : List Knd) (hh : Int) : Nat → List Int
  | 0 => []
  | i + 1 => if (kget ks i).h ≤ hh then numF ks hh i ++ [(i : Int)] else numF ks hh i
structure Stp where
  h : Int
  v : Int
  c : List Int
abbrev st0 : Stp := ⟨0, 0, []⟩
def capI (n : Int) : Nat := n.toNat
def valOf (ks : List Knd) (kerf w hh : Int) : Int := (kV (selF ks kerf hh ks.length) (capI (w + kerf) + 1)).getD (capI (w + kerf)) 0
def colsOf (ks : List Knd) (kerf w hh : Int) : List Int := (tkL (selF ks kerf hh ks.length) (capI (w + kerf))).map fun i => iget (numF ks hh ks.length) i.toNat
def stpF (ks : List Knd) (kerf w h : Int) : Nat → List Stp
  | 0 => []
  | n + 1 => if (kget ks n).h > h ∨ (kget ks n).h ∈ (stpF ks kerf w h n).map Stp.h then stpF ks kerf w h n else stpF ks kerf w h n ++ [⟨(kget ks n).h, valOf ks kerf w (kget ks n).h, colsOf ks kerf w (kget ks n).h⟩]
def itmS (kerf : Int) (s : Stp) : Itm := ⟨s.h + kerf, s.v⟩
def stsF (ks : List Knd) (kerf w h : Int) : List Stp := stpF ks kerf w h ks.length
def psF (ks : List Knd) (kerf w h : Int) : List (Int × List Int) := (tkL ((stsF ks kerf w h).map (itmS kerf)) (capI (h + kerf))).map fun i => (((stsF ks kerf w h).getD i.toNat st0).h, ((stsF ks kerf w h).getD i.toNat st0).c)
def bestV (ks : List Knd) (w h kerf : Int) : Int := (kV ((stsF ks kerf w h).map (itmS kerf)) (capI (h + kerf) + 1)).getD (capI (h + kerf)) 0
def bestT (ks : List Knd) (w h kerf : Int) : List Nd := sheetT ks kerf (psF ks kerf w h) w h 0
def bestR (ks : List Knd) (w h kerf : Int) : Int × List Nd × Int := if probB ks w h kerf = false then (0, [], 1) else if manyB ks w h kerf = true then (0, [], 9) else (bestV ks w h kerf, bestT ks w h kerf, 0)
abbrev bestE (x : Int × List Nd × Int) : TV := .tup [.one (i64 x.1), .one (ndS x.2.1), .one (i64 x.2.2)]
section
variable {ks : List Knd} {w h kerf : Int} (p : Pb ks w h kerf)
include p
end
end St
end Go.Vm
namespace Go.Vm
set_option maxRecDepth 20000
set_option linter.unusedVariables false
set_option linter.unusedSimpArgs false
open Go Go.RowKit Go.Proofs
namespace St

abbrev bI (l : List Int) : Mem := .bld 0 l.length 1 3 (lG iL 0 l)
abbrev bT (l : List Itm) : Mem := .bld 0 l.length 2 86 (lG itL it0 l)
abbrev bC (l : List (List Int)) : Mem := .bld 0 l.length 1 53 (lG ccL [] l)
end St
end Go.Vm
