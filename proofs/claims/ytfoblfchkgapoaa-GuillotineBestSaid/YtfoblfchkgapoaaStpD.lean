/-
  Layer 37: contracts of knapsack, taken and of the reference's fill.
  Layer 37: contracts of taken and of the reference's fill.
-/
import Derived.Test.YtfoblfchkgapoaaStpB
namespace Go.Vm
set_option maxRecDepth 20000
set_option linter.unusedVariables false
set_option linter.unusedSimpArgs false
open Go Go.RowKit Go.Proofs
namespace St

structure Itm where
  s : Int
  v : Int
  deriving DecidableEq
abbrev itL (x : Itm) : List SV := [i64 x.s, i64 x.v]
abbrev it0 : Itm := ⟨0, 0⟩
abbrev itS (l : List Itm) : SV := .sl l.length 2 (lG itL it0 l)
abbrev itget (l : List Itm) (i : Nat) : Itm := l.getD i it0
def kBest (its : List Itm) (V : List Int) (c : Nat) : Nat → Int × Int
  | 0 => (0, -1)
  | i + 1 => if (itget its i).s ≤ c ∧ V.getD (c - (itget its i).s.toNat) 0 + (itget its i).v > (kBest its V c i).1 then (V.getD (c - (itget its i).s.toNat) 0 + (itget its i).v, (i : Int)) else kBest its V c i
def kV (its : List Itm) : Nat → List Int
  | 0 => []
  | c + 1 => kV its c ++ [(kBest its (kV its c) c its.length).1]
def kT (its : List Itm) : Nat → List Int
  | 0 => []
  | c + 1 => kT its c ++ [(kBest its (kV its c) c its.length).2]
structure Its (its : List Itm) (M : Int) : Prop where
  s : ∀ i, i < its.length → 1 ≤ (itget its i).s ∧ (itget its i).s ≤ 100000
  v : ∀ i, i < its.length → 0 ≤ (itget its i).v ∧ (itget its i).v ≤ M
  m : 0 ≤ M
def padL (A : List Int) (x : Int) (n : Nat) : List Int := A ++ x :: List.replicate n 0
theorem lG_rep (n i j : Nat) (hi : i < n) (hj : j < 1) : [i64 0].getD j (.v Go.undef) = lG iL 0 (List.replicate n 0) i j := by
  unfold lG
  have : (List.replicate n (0 : Int)).getD i 0 = 0 := by simp [List.getD, hi]
  rw [this]
abbrev twoS (a b : List Int) : TV := .tup [.one (iS a), .one (iS b)]
theorem needMake {n : Nat} (h : n ≤ 100000000) : 0 ≤ (n : Int) ∧ (n : Int) ≤ n ∧ ((8 : Nat) : Int) * n ≤ 281474976710656 ∧ (n : Int) ≤ 9223372036854775807 := by omega
end St
end Go.Vm
namespace Go.Vm
set_option maxRecDepth 20000
set_option linter.unusedVariables false
set_option linter.unusedSimpArgs false
open Go Go.RowKit Go.Proofs
namespace St

def tkF (its : List Itm) (T : List Int) : Nat → Nat → List Int
  | 0, _ => []
  | f + 1, c => if 0 ≤ T.getD c 0 then T.getD c 0 :: tkF its T f (c - (itget its (T.getD c 0).toNat).s.toNat) else []
def tkL (its : List Itm) (cap : Nat) : List Int := tkF its (kT its (cap + 1)) (cap + 1) cap
/-! ### the reference's fill -/
def fB (S V T : List Int) (c : Nat) : Nat → Int
  | 0 => 0
  | i + 1 => if iget S i ≤ c then (if T.getD (c - (iget S i).toNat) 0 + iget V i > fB S V T c i then T.getD (c - (iget S i).toNat) 0 + iget V i else fB S V T c i) else fB S V T c i
def fE (S V T : List Int) (c : Nat) : Int := if 0 < c then (if T.getD (c - 1) 0 > fB S V T c S.length then T.getD (c - 1) 0 else fB S V T c S.length) else fB S V T c S.length
def fT (S V : List Int) : Nat → List Int
  | 0 => []
  | c + 1 => fT S V c ++ [fE S V (fT S V c) c]
structure Sz (S V : List Int) (M : Int) : Prop where
  len : V.length = S.length
  s : ∀ i, i < S.length → 1 ≤ iget S i ∧ iget S i ≤ 100000
  v : ∀ i, i < S.length → 0 ≤ iget V i ∧ iget V i ≤ M
  m : 0 ≤ M
end St
end Go.Vm
