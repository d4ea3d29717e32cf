/-
  Layer 38: contract of the reference's Meet (printed by gen_guim.py out of layer 7's texts).
-/
import Derived.Test.YtfoblfchkgapoaaVmT
import Derived.Test.YtfoblfchkgapoaaVmW
namespace Go.Vm
set_option maxRecDepth 20000
set_option linter.unusedVariables false
set_option linter.unusedSimpArgs false
open Go Go.RowKit Go.Proofs
namespace Sg
structure V2 where
  x : Int
  y : Int
structure Seg where
  a : V2
  b : V2
theorem V2.ext {a b : V2} (h : a.x = b.x) (k : a.y = b.y) : a = b := by
  cases a; cases b; simp only at h k; rw [h, k]
theorem V2.eq_iff {a b : V2} : a = b ↔ a.x = b.x ∧ a.y = b.y := ⟨fun h => by rw [h]; exact ⟨rfl, rfl⟩, fun h => V2.ext h.1 h.2⟩
instance : DecidableEq V2 := fun _ _ => decidable_of_iff _ V2.eq_iff.symm
abbrev vL (v : V2) : List SV := [i64 v.x, i64 v.y]
abbrev vD (v : V2) : DV := .agg (vL v)
abbrev sL (s : Seg) : List SV := [i64 s.a.x, i64 s.a.y, i64 s.b.x, i64 s.b.y]
abbrev sD (s : Seg) : DV := .agg (sL s)
abbrev vlS (l : List V2) : SV := .sl l.length 2 fun i j => match j with
  | 0 => i64 (l.getD i ⟨0, 0⟩).x
  | _ => i64 (l.getD i ⟨0, 0⟩).y
abbrev ng (x : Int) : Int := w64 (0 - x)
def sgnI (n : Int) : Int := if n > 0 then 1 else if n < 0 then -1 else 0
def maxI (x y : Int) : Int := if y > x then y else x
def minI (x y : Int) : Int := if y < x then y else x
def subW (a b : V2) : V2 := ⟨w64 (a.x - b.x), w64 (a.y - b.y)⟩
def crossW (a b : V2) : Int := w64 (w64 (a.x * b.y) - w64 (a.y * b.x))
def turnW (a b c : V2) : Int := sgnI (crossW (subW b a) (subW c a))
def lessB (a b : V2) : Bool := decide (a.y < b.y) || (decide (a.y = b.y) && decide (a.x < b.x))
def withinV (v : V2) (m : Int) : Bool := decide (v.x ≥ ng m) && decide (v.x ≤ m) && decide (v.y ≥ ng m) && decide (v.y ≤ m)
theorem within_det (v : V2) (m : Int) : Det Try.prog 94 [vD v, .one (i64 m)] (tbool (withinV v m)) := by
  refine det_of_awp TTok mixed Try.func94 rfl rfl [] (Nat.le_of_ble_eq_true rfl) ?_
  repeat' first | refine Split.t ?_ | refine Split.f ?_ | refine Split.mk (fun _ => ?_) (fun _ => ?_) | refine Need.mk (by kernel_rfl) ?_ | refine Fin.bool ?_ | fail
  all_goals
    simp_all [withinV, ng, w64]
    try (intros; omega)
def validS (s : Seg) : Bool := withinV s.a 4000 && withinV s.b 4000
def inBoxB (s : Seg) (p : V2) : Bool := decide (p.x ≥ minI s.a.x s.b.x) && decide (p.x ≤ maxI s.a.x s.b.x) && decide (p.y ≥ minI s.a.y s.b.y) && decide (p.y ≤ maxI s.a.y s.b.y)
def onB (s : Seg) (p : V2) : Bool := validS s && inBoxB s p && (turnW s.a s.b p == 0)
def sideI (s : Seg) (p : V2) : Int := bif validS s && withinV p 4000 then turnW s.a s.b p else 0
theorem rvalid_det (s : Seg) : Det Try.prog 69 [sD s] (tbool (validS s)) := by
  refine det_of_awp TTok mixed Try.func69 rfl rfl [] (Nat.le_of_ble_eq_true rfl) ?_
  repeat' first | refine CallW.bool (within_det s.a _) (fun _ _ => ?_) | refine CallW.bool (within_det s.b _) (fun _ _ => ?_) | refine Split.t ?_ | refine Split.f ?_ | refine Split.mk (fun _ => ?_) (fun _ => ?_) | refine Need.mk (by kernel_rfl) ?_ | refine Fin.bool ?_ | fail
  all_goals simp_all [validS]
theorem wid {n : Int} (h1 : -9223372036854775808 ≤ n) (h2 : n < 9223372036854775808) : IntKind.i64.wrap n = n := w64_id ⟨h1, h2⟩
theorem wid' {n : Int} (h1 : -9223372036854775808 ≤ n) (h2 : n < 9223372036854775808) : w64 n = n := w64_id ⟨h1, h2⟩
theorem SLe.slN {n n' k : Nat} {g g' : Nat → Nat → SV} (hn : n = n') (h : ∀ i, i < n → ∀ j, j < k → SLe (g i j) (g' i j)) : SLe (.sl n k g) (.sl n' k g') := by
  subst hn; exact SLe.sl h
theorem SLe.bif {k i : Nat} {x y z : SV} (h1 : i < k → SLe x z) (h2 : k ≤ i → SLe y z) : SLe (bif Nat.blt i k then x else y) z := by
  cases h : Nat.blt i k with
  | true => exact h1 (lt_of_blt h)
  | false =>
    refine h2 (Nat.le_of_not_lt fun hl => ?_)
    have : Nat.blt i k = true := blt_t hl
    rw [h] at this; cases this
theorem needApp {n B : Nat} (h : n ≤ 100000) (hB : B ≤ 1000) : n * B ≤ 140737488355328 ∧ n ≤ maxLen := by
  have := Nat.mul_le_mul h hB
  simp only [maxLen]
  omega
def insV : List V2 → V2 → List V2
  | [], v => [v]
  | x :: r, v => if lessB x v = true then x :: insV r v else if x = v then x :: r else v :: x :: r
def sortV (l : List V2) : List V2 := l.foldl insV []
abbrev vG (l : List V2) : Nat → Nat → SV := fun i j => match j with
  | 0 => i64 (l.getD i ⟨0, 0⟩).x
  | _ => i64 (l.getD i ⟨0, 0⟩).y
def endsL (s t : Seg) : List V2 := [s.a, s.b, t.a, t.b]
def bothB (s t : Seg) (e : V2) : Bool := onB s e && onB t e
def commonL (s t : Seg) : List V2 := sortV ((endsL s t).filter (bothB s t))
def crossB (s t : Seg) : Bool := decide (sideI s t.a * sideI s t.b < 0) && decide (sideI t s.a * sideI t s.b < 0)
def rmeetI (s t : Seg) : Int := if validS s = false ∨ validS t = false then 0 else if (commonL s t).length > 1 then 3 else if (commonL s t).length = 1 then 1 else if crossB s t = true then 2 else 0
end Sg
end Go.Vm
