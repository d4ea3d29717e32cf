/-
  Layer 7: contracts of the reference's At and Share.
-/
import Derived.Test.YtgmlblmkcbcgaaaSegH
namespace Go.Vm
set_option maxRecDepth 20000
set_option linter.unusedVariables false
set_option linter.unusedSimpArgs false
namespace Sg
open Go Go.RowKit Go.Proofs

/-- On which side of a line a point lies, as a number. -/
def sideP (s : Seg) (p : V2) : Int := crossP (subP s.b s.a) (subP p s.a)
theorem side_eq {s : Seg} {p : V2} (hs : validS s = true) (hp : In 4000 p) : sideI s p = sgnI (sideP s p) := by
  obtain ⟨sa, sb⟩ := valid_in hs
  rw [sideI, hs, hp.within (by decide) (by decide)]
  simp only [Bool.and_self, cond_true]
  exact turnW_eq (m := 4000) (by decide) (by decide) sa sb hp
theorem turn_side {s : Seg} {p : V2} (hs : validS s = true) (hp : In 4000 p) : turnW s.a s.b p = sgnI (sideP s p) := by
  obtain ⟨sa, sb⟩ := valid_in hs
  exact turnW_eq (m := 4000) (by decide) (by decide) sa sb hp
theorem sgn_mul {x y : Int} : sgnI x * sgnI y < 0 ↔ (x < 0 ∧ 0 < y) ∨ (0 < x ∧ y < 0) := by
  unfold sgnI
  repeat' split
  all_goals omega
theorem sgn_zero {x : Int} : sgnI x = 0 ↔ x = 0 := by
  unfold sgnI
  repeat' split
  all_goals omega
abbrev dirC (s t : Seg) : Int := crossP (subP s.b s.a) (subP t.b t.a)
theorem side_diff (s t : Seg) : sideP s t.b - sideP s t.a = dirC s t := by
  simp only [sideP, dirC, crossP, subP]
  grind
theorem cross_dir {s t : Seg} (hs : validS s = true) (ht : validS t = true) (h : crossB s t = true) : dirC s t ≠ 0 := by
  obtain ⟨ta, tb⟩ := valid_in ht
  simp only [crossB, Bool.and_eq_true, decide_eq_true_eq] at h
  have h1 := h.1
  rw [side_eq hs ta, side_eq hs tb, sgn_mul] at h1
  have := side_diff s t
  omega
theorem rmeet_two {s t : Seg} (h : rmeetI s t = 2) : validS s = true ∧ validS t = true ∧ crossB s t = true := by
  unfold rmeetI at h
  split at h
  · omega
  · rename_i hv
    have h1 : validS s = true := by
      cases hq : validS s with
      | true => rfl
      | false => exact absurd (.inl hq) hv
    have h2 : validS t = true := by
      cases hq : validS t with
      | true => rfl
      | false => exact absurd (.inr hq) hv
    split at h
    · omega
    · split at h
      · omega
      · split at h
        · rename_i hc
          exact ⟨h1, h2, hc⟩
        · omega
theorem rmeet_len {s t : Seg} : (rmeetI s t = 1 → (commonL s t).length = 1) ∧ (rmeetI s t = 3 → (commonL s t).length > 1) := by
  unfold rmeetI
  split
  · omega
  · split
    · omega
    · split
      · omega
      · split <;> omega
def ratP (s t : Seg) : P3 := if rmeetI s t = 1 then ptOf ((commonL s t).getD 0 v0) else if rmeetI s t = 2 then
  lowP (s.a.x * dirC s t + (subP s.b s.a).x * crossP (subP t.a s.a) (subP t.b t.a)) (s.a.y * dirC s t + (subP s.b s.a).y * crossP (subP t.a s.a) (subP t.b t.a)) (dirC s t) else p0
def ratB (s t : Seg) : Bool := decide (rmeetI s t = 1) || decide (rmeetI s t = 2)
def rshareS (s t : Seg) : Seg := if rmeetI s t = 3 then ⟨(commonL s t).getD 0 v0, (commonL s t).getD ((commonL s t).length - 1) v0⟩ else s0
instance : DecidableEq P3 := fun a b => decidable_of_iff (a.x = b.x ∧ a.y = b.y ∧ a.d = b.d) ⟨fun h => P3.ext h.1 h.2.1 h.2.2, fun h => by rw [h]; exact ⟨rfl, rfl, rfl⟩⟩
instance : DecidableEq Seg := fun a b => decidable_of_iff (a.a = b.a ∧ a.b = b.b) ⟨fun h => Seg.ext h.1 h.2, fun h => by rw [h]; exact ⟨rfl, rfl⟩⟩
end Sg
end Go.Vm
