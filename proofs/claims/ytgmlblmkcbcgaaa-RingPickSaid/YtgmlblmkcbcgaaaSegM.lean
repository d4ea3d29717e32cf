/-
  Layer 7: segments on parallel lines, and the law SegMeet.
-/
import Derived.Test.YtgmlblmkcbcgaaaSegL
namespace Go.Vm
set_option maxRecDepth 20000
set_option linter.unusedVariables false
set_option linter.unusedSimpArgs false
namespace Sg
open Go Go.RowKit Go.Proofs

theorem cross_par {u v w : V2} (h : crossP u v = 0) (k : crossP v w = 0) (hv : v ≠ v0) : crossP u w = 0 := by
  have e1 : v.x * crossP u w = u.x * crossP v w + w.x * crossP u v := by simp only [crossP]; grind
  have e2 : v.y * crossP u w = u.y * crossP v w + w.y * crossP u v := by simp only [crossP]; grind
  rw [h, k] at e1 e2
  rw [Ne, V2.eq_iff] at hv
  by_cases hx : v.x = 0
  · have hy : v.y ≠ 0 := fun h => hv ⟨hx, h⟩
    rcases Int.mul_eq_zero.1 (show v.y * crossP u w = 0 by omega) with h | h
    · exact absurd h hy
    · exact h
  · rcases Int.mul_eq_zero.1 (show v.x * crossP u w = 0 by omega) with h | h
    · exact absurd h hx
    · exact h
theorem sub_ne {a b : V2} (h : a ≠ b) : subP b a ≠ v0 := by
  rw [Ne, V2.eq_iff] at *
  simp only [subP]
  omega
section
variable {s t : Seg}
theorem flat_cross (hs : validS s = true) (ht : validS t = true) (hd : dirC s t = 0) : crossB s t = false := by
  obtain ⟨ta, tb⟩ := valid_in ht
  rw [Bool.eq_false_iff]
  intro h
  simp only [crossB, Bool.and_eq_true, decide_eq_true_eq] at h
  have h1 := h.1
  rw [side_eq hs ta, side_eq hs tb, sgn_mul] at h1
  have := side_diff s t
  omega
theorem agree_none (hs : validS s = true) (ht : validS t = true) (hd : dirC s t = 0) (h : commonL s t = []) : rmeetI s t = 0 ∧ ratP s t = p0 ∧ rshareS s t = s0 := by
  have hc := flat_cross hs ht hd
  have h0 : rmeetI s t = 0 := by rw [rmeetI, h, hc, hs, ht]; rfl
  exact ⟨h0, by rw [ratP, h0]; rfl, by rw [rshareS, h0]; rfl⟩
theorem agree_one (hs : validS s = true) (ht : validS t = true) {p : V2} (h : commonL s t = [p]) : rmeetI s t = 1 ∧ ratP s t = ptOf p ∧ rshareS s t = s0 := by
  have h0 : rmeetI s t = 1 := by rw [rmeetI, h, hs, ht]; rfl
  exact ⟨h0, by rw [ratP, h0, h]; rfl, by rw [rshareS, h0]; rfl⟩
theorem agree_two (hs : validS s = true) (ht : validS t = true) {p q : V2} (h : (commonL s t).length > 1) (hp : (commonL s t).getD 0 v0 = p) (hq : (commonL s t).getD ((commonL s t).length - 1) v0 = q) : rmeetI s t = 3 ∧ ratP s t = p0 ∧ rshareS s t = ⟨p, q⟩ := by
  have h0 : rmeetI s t = 3 := by rw [rmeetI, if_neg (by simp [hs, ht]), if_pos h]
  exact ⟨h0, by rw [ratP, h0]; rfl, by rw [rshareS, h0, hp, hq]; rfl⟩
/-- A segment that is a point. -/
theorem on_point {p : V2} (hs : validS s = true) (h : s.a = s.b) : onB s p = true ↔ p = s.a := by
  rw [on_iff hs, inBox_iff, ← h, V2.eq_iff]
  constructor
  · rintro ⟨h1, _⟩; omega
  · rintro ⟨h1, h2⟩
    refine ⟨by omega, ?_⟩
    simp only [sideP, crossP, subP, h1, h2]
    grind
theorem lo_hi (s : Seg) : (loV s = s.a ∧ hiV s = s.b ∧ lessB s.b s.a = false) ∨ (loV s = s.b ∧ hiV s = s.a ∧ lessB s.b s.a = true) := by
  unfold loV hiV
  cases h : lessB s.b s.a with
  | true => exact .inr ⟨rfl, rfl, rfl⟩
  | false => exact .inl ⟨rfl, rfl, rfl⟩
theorem lo_lt (h : s.a ≠ s.b) : lessB (loV s) (hiV s) = true := by
  rcases lo_hi s with ⟨e1, e2, e3⟩ | ⟨e1, e2, e3⟩
  · rw [e1, e2]
    rcases less_tri s.a s.b with k | k | k
    · exact k
    · exact absurd k h
    · rw [k] at e3; cases e3
  · rw [e1, e2]; exact e3
/-- On a segment that is no point: between its ends, in the order of vectors. -/
theorem on_between {p : V2} (hs : validS s = true) (h : s.a ≠ s.b) (hp : sideP s p = 0) : onB s p = true ↔ lessB p (loV s) = false ∧ lessB (hiV s) p = false := by
  rw [on_iff hs]
  have hside : (s.b.x - s.a.x) * (p.y - s.a.y) = (s.b.y - s.a.y) * (p.x - s.a.x) := by
    simp only [sideP, crossP, subP] at hp
    omega
  have key : inBoxB s p = true ↔ lessB p (loV s) = false ∧ lessB (hiV s) p = false := by
    rw [inBox_iff]
    rw [Ne, V2.eq_iff] at h
    have coordY : s.b.y - s.a.y ≠ 0 → ((p.y - s.a.y = 0 → p.x - s.a.x = 0) ∧ (p.y = s.b.y → p.x = s.b.x) ∧ ((0 ≤ p.y - s.a.y ∨ s.b.y - s.a.y ≤ p.y - s.a.y) ∧ (p.y - s.a.y ≤ 0 ∨ p.y - s.a.y ≤ s.b.y - s.a.y) → (0 ≤ p.x - s.a.x ∨ s.b.x - s.a.x ≤ p.x - s.a.x) ∧ (p.x - s.a.x ≤ 0 ∨ p.x - s.a.x ≤ s.b.x - s.a.x))) := fun hne => by
      refine ⟨fun h0 => ?_, fun h0 => ?_, fun hb => ?_⟩
      · rw [h0, Int.mul_zero] at hside
        rcases Int.mul_eq_zero.1 hside.symm with h | h
        · exact absurd h hne
        · exact h
      · rw [h0, Int.mul_comm] at hside
        have := Int.eq_of_mul_eq_mul_left hne hside
        omega
      · -- by the place on the line
        rcases Int.lt_or_gt_of_ne hne with hn | hpos
        · by_cases hx : s.b.x - s.a.x = 0
          · rw [hx, Int.zero_mul] at hside
            rcases Int.mul_eq_zero.1 hside.symm with h | h
            · exact absurd h hne
            · omega
          · have c := (coord (D := -(s.b.y - s.a.y)) (k := -(p.y - s.a.y)) (e := p.x - s.a.x) (v := s.b.x - s.a.x) (by omega) (by rw [Int.neg_mul, Int.neg_mul, ← hside, Int.mul_comm])).1 hx
            exact c.2 (by omega)
        · by_cases hx : s.b.x - s.a.x = 0
          · rw [hx, Int.zero_mul] at hside
            rcases Int.mul_eq_zero.1 hside.symm with h | h
            · exact absurd h hne
            · omega
          · have c := (coord (D := s.b.y - s.a.y) (k := p.y - s.a.y) (e := p.x - s.a.x) (v := s.b.x - s.a.x) hpos (by rw [← hside, Int.mul_comm])).1 hx
            exact c.2 (by omega)
    have flatY : s.b.y - s.a.y = 0 → p.y = s.a.y := fun h0 => by
      rw [h0, Int.zero_mul] at hside
      rcases Int.mul_eq_zero.1 hside with h' | h'
      · exact absurd ⟨by omega, by omega⟩ h
      · omega
    rw [Bool.eq_false_iff, Bool.eq_false_iff, Ne, Ne, less_iff, less_iff]
    rcases lo_hi s with ⟨e1, e2, e3⟩ | ⟨e1, e2, e3⟩
    · rw [e1, e2]
      rw [Bool.eq_false_iff, Ne, less_iff] at e3
      by_cases hy : s.b.y - s.a.y = 0
      · have := flatY hy
        omega
      · have := coordY hy
        omega
    · rw [e1, e2]
      rw [less_iff] at e3
      by_cases hy : s.b.y - s.a.y = 0
      · have := flatY hy
        omega
      · have := coordY hy
        omega
  rw [key]
  exact ⟨fun h => h.1, fun h => ⟨h, hp⟩⟩
end
end Sg
end Go.Vm
