/-
  Layer 7: the points that lie on both segments, and the law SegCommon.
-/
import Derived.Test.YtbhjhbmdgdnbeaaSegQ
namespace Go.Vm
namespace Sg
open Go Go.RowKit Go.Proofs

/-- Lowest terms of a point within the limits are a valid point. -/
theorem low_valid {x y d : Int} (h0 : 0 < d) (h1 : d ≤ 134217728) (hx : -(4000 * d) ≤ x ∧ x ≤ 4000 * d) (hy : -(4000 * d) ≤ y ∧ y ≤ 4000 * d) : validP (low x y d) = true := by
  have g0 : ((Int.gcd (Int.gcd x y : Nat) d : Nat) : Int) ∣ d := Int.gcd_dvd_right ..
  have g1 : ((Int.gcd (Int.gcd x y : Nat) d : Nat) : Int) ∣ (Int.gcd x y : Nat) := Int.gcd_dvd_left ..
  have g2 : ((Int.gcd (Int.gcd x y : Nat) d : Nat) : Int) ∣ x := Int.dvd_trans g1 (Int.gcd_dvd_left ..)
  have g3 : ((Int.gcd (Int.gcd x y : Nat) d : Nat) : Int) ∣ y := Int.dvd_trans g1 (Int.gcd_dvd_right ..)
  have gp : (0 : Int) < (Int.gcd (Int.gcd x y : Nat) d : Nat) := by
    have := gcd_pos (g := (Int.gcd x y : Nat)) (d := d) (by omega)
    omega
  have hone : ∀ a b c g : Int, 0 < g → x = g * a → y = g * b → d = g * c → ((Int.gcd (Int.gcd x y : Nat) d : Nat) : Int) = g → Int.gcd (Int.gcd a b : Nat) c = 1 := fun a b c g hg ea eb ec e => by
    have e1 : Int.gcd (Int.gcd x y : Nat) d = g.natAbs * Int.gcd (Int.gcd a b : Nat) c := by
      rw [ea, eb, ec, Int.gcd_mul_left]
      have : ((g.natAbs * Int.gcd a b : Nat) : Int) = g * (Int.gcd a b : Nat) := by
        rw [Int.natCast_mul, Int.natAbs_of_nonneg (by omega)]
      rw [this, Int.gcd_mul_left]
    have e2 : g.natAbs * Int.gcd (Int.gcd a b : Nat) c = g.natAbs * 1 := by omega
    exact Nat.eq_of_mul_eq_mul_left (by omega) e2
  unfold low
  generalize hg : ((Int.gcd (Int.gcd x y : Nat) d : Nat) : Int) = g at *
  obtain ⟨a, ea⟩ := g2
  obtain ⟨b, eb⟩ := g3
  obtain ⟨c, ec⟩ := g0
  have hq := hone a b c g gp ea eb ec rfl
  have hgn : g ≠ 0 := by omega
  rw [validP, Bool.and_eq_true, boundB_iff, decide_eq_true_eq]
  subst ea eb ec
  simp only [Int.mul_tdiv_cancel_left _ hgn]
  have c1 : 1 ≤ c := Int.pos_of_mul_pos_right (a := g) (by omega) (by omega)
  have c2 : c ≤ g * c := by
    have := Int.mul_le_mul_of_nonneg_right (show 1 ≤ g by omega) (show 0 ≤ c by omega)
    omega
  have l2 : ∀ {x y : Int}, g * x ≤ g * y → x ≤ y := fun h => Int.le_of_mul_le_mul_left h gp
  have e4 : 4000 * (g * c) = g * (4000 * c) := by grind
  rw [e4] at hx hy
  refine ⟨⟨by omega, by omega, ?_, ?_, ?_, ?_⟩, hq⟩
  · exact l2 (by rw [Int.mul_neg]; exact hx.1)
  · exact l2 hx.2
  · exact l2 (by rw [Int.mul_neg]; exact hy.1)
  · exact l2 hy.2
theorem ptOf_valid {p : V2} (h : In 4000 p) : validP (ptOf p) = true := by
  obtain ⟨a1, a2, a3, a4⟩ := h
  rw [validP, Bool.and_eq_true, boundB_iff, decide_eq_true_eq]
  refine ⟨⟨(by decide : (1 : Int) ≤ 1), (by decide : (1 : Int) ≤ 134217728), ?_, ?_, ?_, ?_⟩, ?_⟩
  · show -(4000 * 1) ≤ p.x; omega
  · show p.x ≤ 4000 * 1; omega
  · show -(4000 * 1) ≤ p.y; omega
  · show p.y ≤ 4000 * 1; omega
  · exact Nat.gcd_one_right _
theorem low_pt {X Y D : Int} {p : V2} (hD : 0 < D) (h : low X Y D = ptOf p) : X = D * p.x ∧ Y = D * p.y := by
  have g0 : ((Int.gcd (Int.gcd X Y : Nat) D : Nat) : Int) ∣ D := Int.gcd_dvd_right ..
  have g1 : ((Int.gcd (Int.gcd X Y : Nat) D : Nat) : Int) ∣ (Int.gcd X Y : Nat) := Int.gcd_dvd_left ..
  have g2 : ((Int.gcd (Int.gcd X Y : Nat) D : Nat) : Int) ∣ X := Int.dvd_trans g1 (Int.gcd_dvd_left ..)
  have g3 : ((Int.gcd (Int.gcd X Y : Nat) D : Nat) : Int) ∣ Y := Int.dvd_trans g1 (Int.gcd_dvd_right ..)
  have gne := gcd_pos (g := (Int.gcd X Y : Nat)) (d := D) (by omega)
  unfold low at h
  generalize ((Int.gcd (Int.gcd X Y : Nat) D : Nat) : Int) = g at *
  obtain ⟨a, rfl⟩ := g2
  obtain ⟨b, rfl⟩ := g3
  obtain ⟨c, rfl⟩ := g0
  simp only [Int.mul_tdiv_cancel_left _ gne, ptOf, P3.mk.injEq] at h
  obtain ⟨rfl, rfl, rfl⟩ := h
  constructor <;> grind

section
variable {s t : Seg} {A B D : Int}
/-- On both lines: at the places A and B of D. -/
theorem Lines.both (L : Lines s t A B D) (hs : validS s = true) (ht : validS t = true) (p : V2) :
    onB s p = true ∧ onB t p = true ↔ ¬ outB A B D ∧ D * p.x = s.a.x * D + A * (s.b.x - s.a.x) ∧ D * p.y = s.a.y * D + A * (s.b.y - s.a.y) := by
  obtain ⟨hD, gx, gy, ⟨k, hk, k1, k2, k3, k4⟩, n1, n2⟩ := L
  -- dirC is D k
  have hdir : dirC s t = D * k := by
    have := side_diff s t
    have e : (D - B) * k - -B * k = D * k := by grind
    omega
  have a1 : sideP t s.a = crossP (subP t.b t.a) (subP s.a t.a) := rfl
  have b1 : sideP s t.a = crossP (subP s.b s.a) (subP t.a s.a) := rfl
  have cramx : ∀ p : V2, dirC s t * (p.x - s.a.x) = (s.b.x - s.a.x) * (sideP t s.a - sideP t p) + (t.b.x - t.a.x) * sideP s p := fun p => by
    simp only [dirC, sideP, crossP, subP]; grind
  have cramy : ∀ p : V2, dirC s t * (p.y - s.a.y) = (s.b.y - s.a.y) * (sideP t s.a - sideP t p) + (t.b.y - t.a.y) * sideP s p := fun p => by
    simp only [dirC, sideP, crossP, subP]; grind
  have cancel : ∀ x y : Int, k * x = k * y → x = y := fun x y h => Int.eq_of_mul_eq_mul_left hk h
  constructor
  · rintro ⟨h1, h2⟩
    obtain ⟨i1, z1⟩ := (on_iff hs).1 h1
    obtain ⟨i2, z2⟩ := (on_iff ht).1 h2
    have cx := cramx p
    have cy := cramy p
    rw [z1, z2, hdir, k3] at cx cy
    have px : D * (p.x - s.a.x) = A * (s.b.x - s.a.x) := cancel _ _ (by grind)
    have py : D * (p.y - s.a.y) = A * (s.b.y - s.a.y) := cancel _ _ (by grind)
    have qx : D * (p.x - t.a.x) = B * (t.b.x - t.a.x) := by grind
    have qy : D * (p.y - t.a.y) = B * (t.b.y - t.a.y) := by grind
    have hA := (box_place hD px py n1).1 i1
    have hB := (box_place hD qx qy n2).1 i2
    refine ⟨?_, by grind, by grind⟩
    unfold outB
    omega
  · rintro ⟨hout, ex, ey⟩
    have px : D * (p.x - s.a.x) = A * (s.b.x - s.a.x) := by grind
    have py : D * (p.y - s.a.y) = A * (s.b.y - s.a.y) := by grind
    have qx : D * (p.x - t.a.x) = B * (t.b.x - t.a.x) := by grind
    have qy : D * (p.y - t.a.y) = B * (t.b.y - t.a.y) := by grind
    have hin : (0 ≤ A ∧ A ≤ D) ∧ 0 ≤ B ∧ B ≤ D := by unfold outB at hout; omega
    have z1 : sideP s p = 0 := by
      refine Int.eq_of_mul_eq_mul_left (show D ≠ 0 by omega) ?_
      have : D * sideP s p = (s.b.x - s.a.x) * (D * (p.y - s.a.y)) - (s.b.y - s.a.y) * (D * (p.x - s.a.x)) := by simp only [sideP, crossP, subP]; grind
      rw [this, px, py]
      grind
    have z2 : sideP t p = 0 := by
      refine Int.eq_of_mul_eq_mul_left (show D ≠ 0 by omega) ?_
      have : D * sideP t p = (t.b.x - t.a.x) * (D * (p.y - t.a.y)) - (t.b.y - t.a.y) * (D * (p.x - t.a.x)) := by simp only [sideP, crossP, subP]; grind
      rw [this, qx, qy]
      grind
    exact ⟨(on_iff hs).2 ⟨(box_place hD px py n1).2 hin.1, z1⟩, (on_iff ht).2 ⟨(box_place hD qx qy n2).2 hin.2, z2⟩⟩
theorem Lines.spec (L : Lines s t A B D) (hs : validS s = true) (ht : validS t = true) (hD : D ≤ 134217728) {c : Com} (hc : c = lineC s (subP s.b s.a) A B D) :
    (atB c = true → validP c.p = true) ∧ c.kind ≠ 3 ∧ ∀ p, (onB s p = true ∧ onB t p = true ↔ atB c = true ∧ c.p = ptOf p) := by
  obtain ⟨sa, sb⟩ := valid_in hs
  have hpos := L.pos
  by_cases hout : outB A B D
  · have e : c = noneC := by rw [hc, lineC, if_pos hout]
    subst e
    refine ⟨fun h => absurd h (by decide), by decide, fun p => ?_⟩
    rw [L.both hs ht p]
    exact ⟨fun h => absurd hout h.1, fun h => absurd h.1 (by decide)⟩
  · have hin : 0 ≤ A ∧ A ≤ D := by unfold outB at hout; omega
    have e : c = ⟨if endB A B D then 1 else 2, low (s.a.x * D + A * (subP s.b s.a).x) (s.a.y * D + A * (subP s.b s.a).y) D, s0⟩ := by rw [hc, lineC, if_neg hout]
    have hat : atB c = true := by rw [e]; unfold atB; split <;> rfl
    have hk : c.kind ≠ 3 := by rw [e]; show (if endB A B D then (1 : Int) else 2) ≠ 3; split <;> decide
    have hp : c.p = low (s.a.x * D + A * (s.b.x - s.a.x)) (s.a.y * D + A * (s.b.y - s.a.y)) D := by rw [e]; rfl
    have bd : ∀ a b : Int, -4000 ≤ a → a ≤ 4000 → -4000 ≤ b → b ≤ 4000 → -(4000 * D) ≤ a * D + A * (b - a) ∧ a * D + A * (b - a) ≤ 4000 * D := fun a b h1 h2 h3 h4 => by
      have e : a * D + A * (b - a) = (D - A) * a + A * b := by grind
      have u1 : (D - A) * a ≤ (D - A) * 4000 := Int.mul_le_mul_of_nonneg_left h2 (by omega)
      have u2 : (D - A) * -4000 ≤ (D - A) * a := Int.mul_le_mul_of_nonneg_left h1 (by omega)
      have u3 : A * b ≤ A * 4000 := Int.mul_le_mul_of_nonneg_left h4 (by omega)
      have u4 : A * -4000 ≤ A * b := Int.mul_le_mul_of_nonneg_left h3 (by omega)
      have e2 : (D - A) * 4000 + A * 4000 = 4000 * D := by grind
      have e3 : (D - A) * -4000 + A * -4000 = -(4000 * D) := by grind
      omega
    refine ⟨fun _ => ?_, hk, fun p => ?_⟩
    · rw [hp]
      exact low_valid hpos hD (bd _ _ sa.x0 sa.x1 sb.x0 sb.x1) (bd _ _ sa.y0 sa.y1 sb.y0 sb.y1)
    · rw [L.both hs ht p, hp]
      constructor
      · rintro ⟨_, h1, h2⟩
        exact ⟨hat, low_int p hpos h1 h2⟩
      · rintro ⟨_, h⟩
        obtain ⟨h1, h2⟩ := low_pt hpos h
        exact ⟨hout, h1.symm, h2.symm⟩
end
end Sg
end Go.Vm
