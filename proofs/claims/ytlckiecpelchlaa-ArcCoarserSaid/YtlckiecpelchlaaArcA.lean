/-
  Layer 11, plain: the whole root, the rounded middle of two points of a circle, and that it lies properly between them.
-/
import Derived.Test.YtlckiecpelchlaaSegG
namespace Go.Vm
set_option maxRecDepth 20000
set_option linter.unusedVariables false
set_option linter.unusedSimpArgs false
open Go Go.RowKit Go.Proofs
namespace Sg

/-! ### the whole root -/
def bsq : Nat → Int → Int → Int → Int
  | 0, lo, _, _ => lo
  | k + 1, lo, hi, n => if hi - lo > 1 then (if (lo + hi) / 2 ≤ n / ((lo + hi) / 2) then bsq k ((lo + hi) / 2) hi n else bsq k lo ((lo + hi) / 2) n) else lo
def isq (n : Int) : Int := if n ≤ 0 then 0 else bsq 32 0 3037000500 n
theorem le_div_self {m n : Int} (hm : 0 < m) : m ≤ n / m ↔ m * m ≤ n := Int.le_ediv_iff_mul_le hm
theorem bsq_ok (n : Int) : ∀ (k : Nat) (lo hi : Int), 0 ≤ lo → lo < hi → hi - lo ≤ 2 ^ k → lo * lo ≤ n → n < hi * hi → 0 ≤ bsq k lo hi n ∧ bsq k lo hi n * bsq k lo hi n ≤ n ∧ n < (bsq k lo hi n + 1) * (bsq k lo hi n + 1)
  | 0, lo, hi, h0, h1, h2, h3, h4 => by
    have e : hi = lo + 1 := by
      have : (2 : Int) ^ 0 = 1 := rfl
      omega
    subst e
    exact ⟨h0, h3, h4⟩
  | k + 1, lo, hi, h0, h1, h2, h3, h4 => by
    have e2 : (2 : Int) ^ (k + 1) = 2 * 2 ^ k := by rw [Int.pow_succ]; omega
    simp only [bsq]
    split
    · rename_i h5
      split
      · rename_i h6
        rw [le_div_self (by omega)] at h6
        exact bsq_ok n k _ hi (by omega) (by omega) (by omega) h6 h4
      · rename_i h6
        rw [le_div_self (by omega)] at h6
        exact bsq_ok n k lo _ h0 (by omega) (by omega) h3 (by omega)
    · have e : hi = lo + 1 := by omega
      subst e
      exact ⟨h0, h3, h4⟩
theorem isq_spec {n : Int} (h0 : 0 ≤ n) (h1 : n < 9223372036854775808) : 0 ≤ isq n ∧ isq n * isq n ≤ n ∧ n < (isq n + 1) * (isq n + 1) := by
  unfold isq
  split
  · have : n = 0 := by omega
    subst this
    decide
  · exact bsq_ok n 32 0 3037000500 (by omega) (by omega) (by decide) (by omega) (by omega)
theorem sq_lt {a b : Int} (ha : 0 ≤ a) (hb : 0 ≤ b) (h : a * a < b * b) : a < b := by
  refine Int.not_le.1 fun q => ?_
  have := Int.mul_le_mul q q hb ha
  omega
theorem sq_le {a b : Int} (ha : 0 ≤ a) (hb : 0 ≤ b) (h : a * a ≤ b * b) : a ≤ b := by
  refine Int.not_lt.1 fun q => ?_
  have h1 : 0 < (a - b) * (a + b) := Int.mul_pos (by omega) (by omega)
  grind
theorem isq_eq {n a : Int} (ha : 0 ≤ a) (h1 : a * a ≤ n) (h2 : n < (a + 1) * (a + 1)) (hn : n < 9223372036854775808) : isq n = a := by
  have h0 : 0 ≤ n := by have := Int.mul_nonneg ha ha; omega
  obtain ⟨k0, k1, k2⟩ := isq_spec h0 hn
  have := sq_lt ha (by omega) (show a * a < (isq n + 1) * (isq n + 1) by omega)
  have := sq_lt k0 (by omega) (show isq n * isq n < (a + 1) * (a + 1) by omega)
  omega
/-! ### the middle -/
def halfA (x all r : Int) : Int := if x < 0 then -((isq (4 * x * x * r / all) + 1) / 2) else (isq (4 * x * x * r / all) + 1) / 2
def dotP (a b : V2) : Int := a.x * b.x + a.y * b.y
def sumP (a b : V2) : V2 := ⟨a.x + b.x, a.y + b.y⟩
def midV (r : Int) (p q : V2) : V2 := ⟨halfA (p.x + q.x) (dotP (sumP p q) (sumP p q)) r, halfA (p.y + q.y) (dotP (sumP p q) (sumP p q)) r⟩
/-- What rounding says of one coordinate: a is the rounded x √(r / all), x ≥ 0. -/
structure Rnd (r all x a : Int) : Prop where
  a0 : 0 ≤ a
  lo : 1 ≤ a → (2 * a - 1) * (2 * a - 1) * all ≤ 4 * x * x * r
  hi : 4 * x * x * r < (2 * a + 1) * (2 * a + 1) * all
theorem rnd_of {r all x : Int} (hr : 0 ≤ r) (hall : 0 < all) (hx : 0 ≤ x) (hb : 4 * x * x * r < 9223372036854775808) : Rnd r all x (halfA x all r) := by
  have hn : 0 ≤ 4 * x * x * r := Int.mul_nonneg (Int.mul_nonneg (by omega) hx) hr
  have e : halfA x all r = (isq (4 * x * x * r / all) + 1) / 2 := by rw [halfA, if_neg (by omega)]
  have hd : 0 ≤ 4 * x * x * r / all := Int.ediv_nonneg hn (by omega)
  have hd2 : 4 * x * x * r / all ≤ 4 * x * x * r := Int.ediv_le_self _ hn
  obtain ⟨k0, k1, k2⟩ := isq_spec hd (by omega)
  have m1 := Int.ediv_mul_le (4 * x * x * r) (show all ≠ 0 by omega)
  have m2 := Int.lt_ediv_add_one_mul_self (4 * x * x * r) hall
  generalize hw : 4 * x * x * r = w at *
  generalize isq (w / all) = k at *
  generalize w / all = d at *
  rw [e]
  have ha : 2 * ((k + 1) / 2) ≤ k + 1 ∧ k ≤ 2 * ((k + 1) / 2) := by omega
  generalize (k + 1) / 2 = a at *
  obtain ⟨a1, a2⟩ := ha
  refine ⟨by omega, fun h => ?_, ?_⟩
  · have q1 : (2 * a - 1) * (2 * a - 1) ≤ k * k := Int.mul_le_mul (by omega) (by omega) (by omega) (by omega)
    have q2 : (2 * a - 1) * (2 * a - 1) * all ≤ d * all := Int.mul_le_mul_of_nonneg_right (by omega) (by omega)
    omega
  · have q1 : (k + 1) * (k + 1) ≤ (2 * a + 1) * (2 * a + 1) := Int.mul_le_mul (by omega) (by omega) (by omega) (by omega)
    have q2 : (d + 1) * all ≤ (2 * a + 1) * (2 * a + 1) * all := Int.mul_le_mul_of_nonneg_right (by omega) (by omega)
    omega
theorem half_neg (x all r : Int) : halfA (-x) all r = -halfA x all r := by
  unfold halfA
  have e : 4 * -x * -x * r = 4 * x * x * r := by grind
  rw [e]
  by_cases h1 : x < 0
  · rw [if_pos h1, if_neg (by omega)]; omega
  · by_cases h2 : x = 0
    · subst h2
      simp only [Int.mul_zero, Int.zero_mul, Int.neg_zero, Int.zero_ediv]
      decide
    · rw [if_neg h1, if_pos (by omega)]
/-! ### near the circle -/
def absZ (x : Int) : Int := if x < 0 then -x else x
theorem absZ_nonneg (x : Int) : 0 ≤ absZ x := by unfold absZ; split <;> omega
theorem absZ_sq (x : Int) : absZ x * absZ x = x * x := by unfold absZ; split <;> grind
theorem absZ_neg (x : Int) : absZ (-x) = absZ x := by unfold absZ; split <;> split <;> omega
theorem absZ_of {x : Int} (h : 0 ≤ x) : absZ x = x := by unfold absZ; split <;> omega
structure Nr (r : Int) (p : V2) : Prop where
  lo : dotP p p - (absZ p.x + absZ p.y) < r
  hi : r ≤ dotP p p + (absZ p.x + absZ p.y)
def rotV (p : V2) : V2 := ⟨-p.y, p.x⟩
theorem rot_dot (p q : V2) : dotP (rotV p) (rotV q) = dotP p q := by simp only [dotP, rotV]; grind
theorem rot_cross (p q : V2) : crossP (rotV p) (rotV q) = crossP p q := by simp only [crossP, rotV]; grind
theorem rot_sum (p q : V2) : sumP (rotV p) (rotV q) = rotV (sumP p q) := by
  refine V2.ext ?_ ?_
  · simp only [sumP, rotV]; omega
  · rfl
theorem rot_mid (r : Int) (p q : V2) : midV r (rotV p) (rotV q) = rotV (midV r p q) := by
  refine V2.ext ?_ ?_
  · show halfA (-p.y + -q.y) (dotP (sumP (rotV p) (rotV q)) (sumP (rotV p) (rotV q))) r = -halfA (p.y + q.y) (dotP (sumP p q) (sumP p q)) r
    rw [rot_sum, rot_dot, show -p.y + -q.y = -(p.y + q.y) by omega, half_neg]
  · show halfA (p.x + q.x) (dotP (sumP (rotV p) (rotV q)) (sumP (rotV p) (rotV q))) r = halfA (p.x + q.x) (dotP (sumP p q) (sumP p q)) r
    rw [rot_sum, rot_dot]
theorem rot_inj {p q : V2} (h : rotV p = rotV q) : p = q := by
  rw [V2.eq_iff] at h
  simp only [rotV] at h
  exact V2.ext h.2 (by omega)
theorem rot_nr {r : Int} {p : V2} (h : Nr r p) : Nr r (rotV p) := by
  have e : absZ (rotV p).x + absZ (rotV p).y = absZ p.x + absZ p.y := by
    show absZ (-p.y) + absZ p.x = _
    rw [absZ_neg]; omega
  exact ⟨by rw [rot_dot, e]; exact h.lo, by rw [rot_dot, e]; exact h.hi⟩
/-- Rounded points of the circle are near it (all u in the first quadrant). -/
theorem nr_mid {r ux uy a b : Int} (hr : 0 < r) (hx : 0 ≤ ux) (hy : 0 ≤ uy) (hall : 0 < ux * ux + uy * uy) (h1 : Rnd r (ux * ux + uy * uy) ux a) (h2 : Rnd r (ux * ux + uy * uy) uy b) : Nr r ⟨a, b⟩ := by
  have a0 := h1.a0
  have b0 := h2.a0
  have k1 := h1.hi
  have k2 := h2.hi
  have l1 := h1.lo
  have l2 := h2.lo
  generalize hA : ux * ux + uy * uy = all at *
  have e : 4 * ux * ux * r + 4 * uy * uy * r = 4 * r * all := by rw [← hA]; grind
  refine ⟨?_, ?_⟩
  · show a * a + b * b - (absZ a + absZ b) < r
    rw [absZ_of a0, absZ_of b0]
    refine Int.not_le.1 fun q => ?_
    have q' : 4 * r * all ≤ 4 * (a * a + b * b - (a + b)) * all := Int.mul_le_mul_of_nonneg_right (by omega) (by omega)
    have m1 : (2 * a - 1) * (2 * a - 1) * all ≤ 4 * ux * ux * r ∨ a = 0 := by
      by_cases h : 1 ≤ a
      · exact .inl (l1 h)
      · exact .inr (by omega)
    have m2 : (2 * b - 1) * (2 * b - 1) * all ≤ 4 * uy * uy * r ∨ b = 0 := by
      by_cases h : 1 ≤ b
      · exact .inl (l2 h)
      · exact .inr (by omega)
    have n1 : 0 ≤ 4 * ux * ux * r := Int.mul_nonneg (Int.mul_nonneg (by omega) hx) (by omega)
    have n2 : 0 ≤ 4 * uy * uy * r := Int.mul_nonneg (Int.mul_nonneg (by omega) hy) (by omega)
    have n3 : 0 < r * all := Int.mul_pos hr hall
    rcases m1 with m1 | rfl <;> rcases m2 with m2 | rfl <;> grind
  · show r ≤ a * a + b * b + (absZ a + absZ b)
    rw [absZ_of a0, absZ_of b0]
    refine Int.not_lt.1 fun q => ?_
    have q' : 4 * (a * a + b * b + (a + b) + 1) * all ≤ 4 * r * all := Int.mul_le_mul_of_nonneg_right (by omega) (by omega)
    grind
/-! ### the middle lies between -/
section
variable {r x1 y1 x2 y2 a b : Int}
/-- Of two points near the circle in the first quadrant none lies strictly right above the other. -/
theorem no_ne {r x y x' y' : Int} (hx : 0 ≤ x) (hy : 0 ≤ y) (h : Nr r ⟨x, y⟩) (h' : Nr r ⟨x', y'⟩) (h1 : x + 1 ≤ x') (h2 : y + 1 ≤ y') : False := by
  have k1 : r ≤ x * x + y * y + (absZ x + absZ y) := h.hi
  have k2 : x' * x' + y' * y' - (absZ x' + absZ y') < r := h'.lo
  rw [absZ_of hx, absZ_of hy] at k1
  rw [absZ_of (show 0 ≤ x' by omega), absZ_of (show 0 ≤ y' by omega)] at k2
  have a1 : 0 ≤ (x' - x - 1) * (x' + x) := Int.mul_nonneg (by omega) (by omega)
  have a2 : 0 ≤ (y' - y - 1) * (y' + y) := Int.mul_nonneg (by omega) (by omega)
  grind
theorem on_axis {r x x' : Int} (hx : 0 ≤ x) (h : Nr r ⟨x, 0⟩) (h' : Nr r ⟨x', 0⟩) (h1 : x + 1 ≤ x') : False := by
  have k1 : r ≤ x * x + 0 * 0 + (absZ x + absZ 0) := h.hi
  have k2 : x' * x' + 0 * 0 - (absZ x' + absZ 0) < r := h'.lo
  rw [absZ_of hx, absZ_of (Int.le_refl 0)] at k1
  rw [absZ_of (show 0 ≤ x' by omega), absZ_of (Int.le_refl 0)] at k2
  have a1 : 0 ≤ (x' - x - 1) * (x' + x) := Int.mul_nonneg (by omega) (by omega)
  grind
theorem nr_swap {r x y : Int} (h : Nr r ⟨x, y⟩) : Nr r ⟨y, x⟩ := by
  have h1 : x * x + y * y - (absZ x + absZ y) < r := h.lo
  have h2 : r ≤ x * x + y * y + (absZ x + absZ y) := h.hi
  exact ⟨by show y * y + x * x - (absZ y + absZ x) < r; omega, by show r ≤ y * y + x * x + (absZ y + absZ x); omega⟩
theorem nr_flip {r x y : Int} (h : Nr r ⟨x, y⟩) : Nr r ⟨-x, y⟩ := by
  have h1 : x * x + y * y - (absZ x + absZ y) < r := h.lo
  have h2 : r ≤ x * x + y * y + (absZ x + absZ y) := h.hi
  have e : -x * -x = x * x := by grind
  exact ⟨by show -x * -x + y * y - (absZ (-x) + absZ y) < r; rw [absZ_neg, e]; exact h1, by show r ≤ -x * -x + y * y + (absZ (-x) + absZ y); rw [absZ_neg, e]; exact h2⟩
/-- The rounded point's direction is u's but for less than half a step. -/
theorem dir_lt {r ux uy a b : Int} (hx : 0 ≤ ux) (hy : 0 ≤ uy) (hall : 0 < ux * ux + uy * uy) (h1 : Rnd r (ux * ux + uy * uy) ux a) (h2 : Rnd r (ux * ux + uy * uy) uy b) : (2 * a - 1) * uy < (2 * b + 1) * ux := by
  have a0 := h1.a0
  have b0 := h2.a0
  have k1 := h1.lo
  have k2 := h2.hi
  generalize hA : ux * ux + uy * uy = all at *
  have hne : 0 < ux ∨ 0 < uy := by
    rcases Int.lt_or_eq_of_le hx with h | h
    · exact .inl h
    · rcases Int.lt_or_eq_of_le hy with h' | h'
      · exact .inr h'
      · subst h; subst h'; omega
  by_cases ha : 1 ≤ a
  · have k1 := k1 ha
    rcases Int.lt_or_eq_of_le hx with hux | hux
    · rcases Int.lt_or_eq_of_le hy with huy | huy
      · refine Int.not_le.1 fun q => ?_
        have s0 : 0 ≤ (2 * b + 1) * ux := Int.mul_nonneg (by omega) hx
        have s1 := Int.mul_le_mul q q s0 (by omega)
        have s2 : (2 * a - 1) * (2 * a - 1) * all * (uy * uy) ≤ 4 * ux * ux * r * (uy * uy) := Int.mul_le_mul_of_nonneg_right k1 (Int.mul_nonneg hy hy)
        have s3 : 4 * uy * uy * r * (ux * ux) < (2 * b + 1) * (2 * b + 1) * all * (ux * ux) := Int.mul_lt_mul_of_pos_right k2 (Int.mul_pos hux hux)
        have s4 : (2 * b + 1) * ux * ((2 * b + 1) * ux) * all ≤ (2 * a - 1) * uy * ((2 * a - 1) * uy) * all := Int.mul_le_mul_of_nonneg_right s1 (by omega)
        grind
      · subst huy
        have : 0 < (2 * b + 1) * ux := Int.mul_pos (by omega) hux
        omega
    · subst hux
      have : 0 < (2 * a - 1) * (2 * a - 1) * all := Int.mul_pos (Int.mul_pos (by omega) (by omega)) hall
      simp only [Int.mul_zero, Int.zero_mul] at k1
      omega
  · have e : a = 0 := by omega
    subst e
    have s0 : 0 ≤ (2 * b + 1) * ux := Int.mul_nonneg (by omega) hx
    rcases hne with h | h
    · have : 0 < (2 * b + 1) * ux := Int.mul_pos (by omega) h
      omega
    · omega
/-- If the middle is not past p, it is p (the first quadrant). -/
theorem mid_p (hr : 0 < r) (hp : Nr r ⟨x1, y1⟩) (hq : Nr r ⟨x2, y2⟩) (hc : 0 < x1 * y2 - y1 * x2) (hd : 0 ≤ x1 * x2 + y1 * y2) (hux : 0 ≤ x1 + x2) (huy : 0 ≤ y1 + y2)
    (hm : Nr r ⟨a, b⟩) (a0 : 0 ≤ a) (b0 : 0 ≤ b) (hdir : (2 * a - 1) * (y1 + y2) < (2 * b + 1) * (x1 + x2)) (hle : x1 * b - y1 * a ≤ 0) : a = x1 ∧ b = y1 := by
  have hm0 : 0 < a ∨ 0 < b := by
    refine Classical.byContradiction fun q => ?_
    have e1 : a = 0 := by omega
    have e2 : b = 0 := by omega
    subst e1; subst e2
    have := hm.hi
    simp only [dotP, absZ_of (Int.le_refl 0)] at this
    omega
  have hpp : 0 < x1 * x1 + y1 * y1 := by
    refine Int.not_le.1 fun q => ?_
    have z1 : 0 ≤ x1 * x1 := by rw [← absZ_sq]; exact Int.mul_nonneg (absZ_nonneg _) (absZ_nonneg _)
    have z2 : 0 ≤ y1 * y1 := by rw [← absZ_sq]; exact Int.mul_nonneg (absZ_nonneg _) (absZ_nonneg _)
    have e1 : x1 = 0 := by
      have : x1 * x1 = 0 := by omega
      exact (Int.mul_eq_zero.1 this).elim id id
    have e2 : y1 = 0 := by
      have : y1 * y1 = 0 := by omega
      exact (Int.mul_eq_zero.1 this).elim id id
    subst e1; subst e2
    omega
  -- p in the first quadrant
  have hy1 : 0 ≤ y1 := by
    refine Int.not_lt.1 fun q => ?_
    have d : 0 < x1 * (x1 + x2) + y1 * (y1 + y2) := by grind
    have t1 : 0 ≤ (-y1) * (y1 + y2) := Int.mul_nonneg (by omega) huy
    have hx1 : 0 < x1 := by
      refine Int.not_le.1 fun w => ?_
      have := Int.mul_nonneg (show 0 ≤ -x1 by omega) hux
      grind
    have t2 : 0 ≤ x1 * b := Int.mul_nonneg (by omega) b0
    have t3 : 0 ≤ -y1 * a := Int.mul_nonneg (by omega) a0
    rcases hm0 with h | h
    · have := Int.mul_pos (show 0 < -y1 by omega) h; grind
    · have := Int.mul_pos hx1 h; grind
  have hx1 : 0 ≤ x1 := by
    refine Int.not_lt.1 fun q => ?_
    have c : 0 < x1 * (y1 + y2) - y1 * (x1 + x2) := by grind
    have t1 := Int.mul_nonneg (show 0 ≤ -x1 by omega) huy
    have t2 := Int.mul_nonneg hy1 hux
    grind
  -- m right of p and below
  have hax : x1 ≤ a := by
    refine Int.not_lt.1 fun q => ?_
    have hby : y1 ≤ b := Int.not_lt.1 fun w => no_ne a0 b0 hm hp (by omega) (by omega)
    have t1 := Int.mul_nonneg a0 (show 0 ≤ b - y1 by omega)
    have t2 := Int.mul_nonneg (show 0 ≤ x1 - a - 1 by omega) b0
    have e : b = 0 := by grind
    subst e
    have e : y1 = 0 := by omega
    subst e
    exact on_axis a0 hm hp (by omega)
  have hby : b ≤ y1 := by
    refine Int.not_lt.1 fun q => ?_
    have e : a = x1 := by
      have : a ≤ x1 := Int.not_lt.1 fun w => no_ne hx1 hy1 hp hm (by omega) (by omega)
      omega
    subst e
    have t1 := Int.mul_nonneg a0 (show 0 ≤ b - y1 - 1 by omega)
    have e : a = 0 := by grind
    subst e
    exact on_axis hy1 (nr_swap hp) (nr_swap hm) (by omega)
  -- q above the axis
  have hy2 : 0 ≤ y2 := by
    refine Int.not_lt.1 fun q => ?_
    have c : 0 < (x1 + x2) * y2 - (y1 + y2) * x2 := by grind
    have d : 0 ≤ (x1 + x2) * x2 + (y1 + y2) * y2 := by
      have z1 : 0 ≤ x2 * x2 := by rw [← absZ_sq]; exact Int.mul_nonneg (absZ_nonneg _) (absZ_nonneg _)
      have z2 : 0 ≤ y2 * y2 := by rw [← absZ_sq]; exact Int.mul_nonneg (absZ_nonneg _) (absZ_nonneg _)
      grind
    have t1 := Int.mul_nonneg hux (show 0 ≤ -y2 by omega)
    have hx2 : x2 < 0 := by
      refine Int.not_le.1 fun w => ?_
      have := Int.mul_nonneg huy w
      grind
    have huy' : 0 < y1 + y2 := by
      rcases Int.lt_or_eq_of_le huy with h | h
      · exact h
      · rw [← h] at c; grind
    have t2 := Int.mul_pos huy' (show 0 < -y2 by omega)
    have t3 := Int.mul_nonneg hux (show 0 ≤ -x2 by omega)
    grind
  have hsum : 0 < x1 + y1 := by
    refine Int.not_le.1 fun q => ?_
    have e1 : x1 = 0 := by omega
    have e2 : y1 = 0 := by omega
    subst e1; subst e2
    simp only [Int.mul_zero] at hpp
    omega
  by_cases hx2 : 0 ≤ x2
  · have hxx : x2 ≤ x1 := by
      refine Int.not_lt.1 fun q => ?_
      have : y2 ≤ y1 := Int.not_lt.1 fun w => no_ne hx1 hy1 hp hq (by omega) (by omega)
      have t1 := Int.mul_nonneg hx1 (show 0 ≤ y1 - y2 by omega)
      have t2 := Int.mul_nonneg hy1 (show 0 ≤ x2 - x1 by omega)
      grind
    have hyy : y1 ≤ y2 := by
      refine Int.not_lt.1 fun q => ?_
      have e : x1 = x2 := by
        have : x1 ≤ x2 := Int.not_lt.1 fun w => no_ne hx2 hy2 hq hp (by omega) (by omega)
        omega
      subst e
      have t1 := Int.mul_nonneg hx1 (show 0 ≤ y1 - y2 by omega)
      grind
    have hef : x2 < x1 ∨ y1 < y2 := by
      refine Classical.byContradiction fun q => ?_
      have e1 : x1 = x2 := by omega
      have e2 : y1 = y2 := by omega
      subst e1; subst e2
      grind
    have nm : a * a + b * b - (a + b) < r := by have := hm.lo; simp only [dotP, absZ_of a0, absZ_of b0] at this; exact this
    have nm' : r ≤ a * a + b * b + (a + b) := by have := hm.hi; simp only [dotP, absZ_of a0, absZ_of b0] at this; exact this
    have nq : x2 * x2 + y2 * y2 - (x2 + y2) < r := by have := hq.lo; simp only [dotP, absZ_of hx2, absZ_of hy2] at this; exact this
    have nq' : r ≤ x2 * x2 + y2 * y2 + (x2 + y2) := by have := hq.hi; simp only [dotP, absZ_of hx2, absZ_of hy2] at this; exact this
    rcases Int.lt_or_eq_of_le hax with h1 | h1
    · exfalso
      rcases Int.lt_or_eq_of_le hby with h2 | h2
      · have t1 := Int.mul_nonneg (show 0 ≤ a - x1 - 1 by omega) hy1
        have t2 := Int.mul_nonneg (show 0 ≤ y1 - b - 1 by omega) hx1
        have t3 := Int.mul_nonneg (show 0 ≤ a - 1 by omega) (show 0 ≤ y2 - y1 by omega)
        have t4 := Int.mul_nonneg b0 (show 0 ≤ x1 - x2 by omega)
        grind
      · subst h2
        have t1 := Int.mul_nonneg (show 0 ≤ a - x1 - 1 by omega) hy1
        have t4 := Int.mul_nonneg hy1 (show 0 ≤ x1 - x2 by omega)
        rcases Int.lt_or_eq_of_le hyy with h3 | h3
        · have t2 := Int.mul_nonneg (show 0 ≤ a - x1 - 1 by omega) (show 0 ≤ y2 - b by omega)
          have t3 := Int.mul_nonneg hx1 (show 0 ≤ y2 - b - 1 by omega)
          grind
        · subst h3
          have t2 := Int.mul_nonneg (show 0 ≤ a - x1 - 1 by omega) (show 0 ≤ a + x1 by omega)
          have t3 := Int.mul_nonneg (show 0 ≤ x1 - 1 - x2 by omega) (show 0 ≤ x1 + x2 by omega)
          have t5 := Int.mul_nonneg hy1 (show 0 ≤ x1 - x2 - 1 by omega)
          have : x1 < b := by grind
          grind
    · subst h1
      rcases Int.lt_or_eq_of_le hby with h2 | h2
      · exfalso
        by_cases h3 : x2 < x1
        · have t1 := Int.mul_nonneg (show 0 ≤ 4 * (y1 - b) - 2 by omega) (show 0 ≤ x1 - 1 by omega)
          have t2 := Int.mul_nonneg b0 (show 0 ≤ x1 - x2 - 1 by omega)
          have t3 := Int.mul_nonneg (show 0 ≤ y2 - y1 by omega) (show 0 ≤ x1 - 1 by omega)
          grind
        · have e : x2 = x1 := by omega
          subst e
          have t1 := Int.mul_nonneg (show 0 ≤ y2 - y1 - 1 by omega) (show 0 ≤ y2 + y1 by omega)
          have t2 := Int.mul_nonneg (show 0 ≤ y1 - 1 - b by omega) (show 0 ≤ y1 + b by omega)
          have h4 : y1 < x2 := by grind
          have t3 := Int.mul_nonneg (show 0 ≤ y1 - b - 1 by omega) hx1
          have t4 := Int.mul_nonneg (show 0 ≤ y2 - y1 by omega) (show 0 ≤ x2 - 1 by omega)
          grind
      · exact ⟨rfl, h2⟩
  · exfalso
    have hd1 : 0 < y2 := by
      refine Int.not_le.1 fun q => ?_
      have e : y2 = 0 := by omega
      subst e
      have t1 := Int.mul_nonneg hx1 (show 0 ≤ -x2 by omega)
      have t2 := Int.mul_pos (show 0 < x1 + x2 + (-x2) by omega) (show 0 < -x2 by omega)
      grind
    rcases Int.lt_or_eq_of_le hux with h1 | h1
    · have hyy : y1 ≤ y2 := Int.not_lt.1 fun w => no_ne (show 0 ≤ -x2 by omega) hy2 (nr_flip hq) hp (by omega) (by omega)
      have t1 := Int.mul_nonneg (show 0 ≤ a - x1 by omega) hy2
      have t2 := Int.mul_nonneg b0 (show 0 ≤ -x2 by omega)
      have t3 := Int.mul_nonneg (show 0 ≤ x1 - 2 by omega) (show 0 ≤ y2 - 1 by omega)
      grind
    · rw [← h1, Int.mul_zero] at hdir
      have : 0 ≤ (2 * a - 1) * (y1 + y2) := Int.mul_nonneg (by omega) huy
      omega
end
/-! ### two points with a right angle at most, counterclockwise -/
structure Good (r : Int) (p q : V2) : Prop where
  r0 : 0 < r
  r1 : r ≤ 4000000
  np : Nr r p
  nq : Nr r q
  cr : 0 < crossP p q
  dt : 0 ≤ dotP p q
theorem sq_nonneg (x : Int) : 0 ≤ x * x := by rw [← absZ_sq]; exact Int.mul_nonneg (absZ_nonneg _) (absZ_nonneg _)
theorem nr_bound {r x y : Int} (h1 : r ≤ 4000000) (h : Nr r ⟨x, y⟩) : -2000 ≤ x ∧ x ≤ 2000 ∧ -2000 ≤ y ∧ y ≤ 2000 := by
  have k : x * x + y * y - (absZ x + absZ y) < r := h.lo
  rw [← absZ_sq x, ← absZ_sq y] at k
  have a0 := absZ_nonneg x
  have b0 := absZ_nonneg y
  have ex : absZ x ≤ 2000 → -2000 ≤ x ∧ x ≤ 2000 := fun q => by unfold absZ at q; split at q <;> omega
  have ey : absZ y ≤ 2000 → -2000 ≤ y ∧ y ≤ 2000 := fun q => by unfold absZ at q; split at q <;> omega
  generalize absZ x = a at *
  generalize absZ y = b at *
  have z1 : 0 ≤ b * b - b := by
    by_cases hb : 1 ≤ b
    · have := Int.mul_nonneg b0 (show 0 ≤ b - 1 by omega); grind
    · have : b = 0 := by omega
      subst this; decide
  have z2 : 0 ≤ a * a - a := by
    by_cases hb : 1 ≤ a
    · have := Int.mul_nonneg a0 (show 0 ≤ a - 1 by omega); grind
    · have : a = 0 := by omega
      subst this; decide
  have ha : a ≤ 2000 := by
    refine Int.not_lt.1 fun q => ?_
    have := Int.mul_nonneg (show 0 ≤ a - 2001 by omega) (show 0 ≤ a + 2000 by omega)
    grind
  have hb : b ≤ 2000 := by
    refine Int.not_lt.1 fun q => ?_
    have := Int.mul_nonneg (show 0 ≤ b - 2001 by omega) (show 0 ≤ b + 2000 by omega)
    grind
  exact ⟨(ex ha).1, (ex ha).2, (ey hb).1, (ey hb).2⟩
theorem good_rot {r : Int} {p q : V2} (h : Good r p q) : Good r (rotV p) (rotV q) := ⟨h.r0, h.r1, rot_nr h.np, rot_nr h.nq, by rw [rot_cross]; exact h.cr, by rw [rot_dot]; exact h.dt⟩
/-- u's square. -/
theorem sum_sq (p q : V2) : dotP (sumP p q) (sumP p q) = (p.x + q.x) * (p.x + q.x) + (p.y + q.y) * (p.y + q.y) := rfl
theorem good_sum {r : Int} {p q : V2} (h : Good r p q) : 0 < (p.x + q.x) * (p.x + q.x) + (p.y + q.y) * (p.y + q.y) := by
  have d := h.dt
  have c := h.cr
  simp only [dotP, crossP] at d c
  have a1 := sq_nonneg p.x
  have a2 := sq_nonneg p.y
  have a3 := sq_nonneg q.x
  have a4 := sq_nonneg q.y
  refine Int.not_le.1 fun w => ?_
  have e : p.x * p.x + p.y * p.y = 0 := by grind
  have e1 : p.x = 0 := by
    have : p.x * p.x = 0 := by omega
    exact (Int.mul_eq_zero.1 this).elim id id
  have e2 : p.y = 0 := by
    have : p.y * p.y = 0 := by omega
    exact (Int.mul_eq_zero.1 this).elim id id
  rw [e1, e2] at c
  omega
theorem rnd_bound {r x : Int} (h0 : 0 < r) (h1 : r ≤ 4000000) (hx : 0 ≤ x) (hb : x ≤ 4000) : 4 * x * x * r < 9223372036854775808 := by
  have a : x * x ≤ 4000 * 4000 := Int.mul_le_mul hb hb hx (by decide)
  have b : x * x * r ≤ 4000 * 4000 * 4000000 := Int.mul_le_mul a h1 (by omega) (by decide)
  have e : 4 * x * x * r = 4 * (x * x * r) := by grind
  omega
/-- The middle is near the circle, and lies properly between. -/
structure MidOk (r : Int) (p q : V2) : Prop where
  nm : Nr r (midV r p q)
  kp : crossP p (midV r p q) ≤ 0 → midV r p q = p
  kq : crossP (midV r p q) q ≤ 0 → midV r p q = q
theorem rnds {r : Int} {p q : V2} (h : Good r p q) (hx : 0 ≤ p.x + q.x) (hy : 0 ≤ p.y + q.y) :
    Rnd r ((p.x + q.x) * (p.x + q.x) + (p.y + q.y) * (p.y + q.y)) (p.x + q.x) (midV r p q).x ∧ Rnd r ((p.x + q.x) * (p.x + q.x) + (p.y + q.y) * (p.y + q.y)) (p.y + q.y) (midV r p q).y := by
  have hs := good_sum h
  obtain ⟨b1, b2, b3, b4⟩ := nr_bound h.r1 h.np
  obtain ⟨c1, c2, c3, c4⟩ := nr_bound h.r1 h.nq
  exact ⟨rnd_of (Int.le_of_lt h.r0) hs hx (rnd_bound h.r0 h.r1 hx (by omega)), rnd_of (Int.le_of_lt h.r0) hs hy (rnd_bound h.r0 h.r1 hy (by omega))⟩
theorem mid_q1 {r : Int} {p q : V2} (h : Good r p q) (hx : 0 ≤ p.x + q.x) (hy : 0 ≤ p.y + q.y) : MidOk r p q := by
  obtain ⟨ra, rb⟩ := rnds h hx hy
  have hs := good_sum h
  have hn : Nr r (midV r p q) := nr_mid h.r0 hx hy hs ra rb
  have hc := h.cr
  have hd := h.dt
  have hp := h.np
  have hq := h.nq
  have d1 := dir_lt hx hy hs ra rb
  have hs' : 0 < (p.y + q.y) * (p.y + q.y) + (p.x + q.x) * (p.x + q.x) := by omega
  have d2 : (2 * (midV r p q).y - 1) * (p.x + q.x) < (2 * (midV r p q).x + 1) * (p.y + q.y) := by
    refine dir_lt (r := r) hy hx hs' ?_ ?_
    · rw [Int.add_comm]; exact rb
    · rw [Int.add_comm]; exact ra
  have a0 := ra.a0
  have b0 := rb.a0
  obtain ⟨x1, y1⟩ := p
  obtain ⟨x2, y2⟩ := q
  generalize hm : midV r ⟨x1, y1⟩ ⟨x2, y2⟩ = m at *
  obtain ⟨a, b⟩ := m
  refine ⟨by rw [hm]; exact hn, fun w => ?_, fun w => ?_⟩ <;> rw [hm] at w ⊢
  · obtain ⟨e1, e2⟩ := mid_p h.r0 hp hq hc hd hx hy hn a0 b0 d1 w
    exact V2.ext e1 e2
  · have w' : y2 * a - x2 * b ≤ 0 := by
      have : a * y2 - b * x2 ≤ 0 := w
      grind
    have hc' : 0 < y2 * x1 - x2 * y1 := by
      have : 0 < x1 * y2 - y1 * x2 := hc
      grind
    have hd' : 0 ≤ y2 * y1 + x2 * x1 := by
      have : 0 ≤ x1 * x2 + y1 * y2 := hd
      grind
    have d2' : (2 * b - 1) * (x2 + x1) < (2 * a + 1) * (y2 + y1) := by
      rw [Int.add_comm x2, Int.add_comm y2]; exact d2
    have hx' : 0 ≤ x2 + x1 := by have : 0 ≤ x1 + x2 := hx; omega
    have hy' : 0 ≤ y2 + y1 := by have : 0 ≤ y1 + y2 := hy; omega
    obtain ⟨e1, e2⟩ := mid_p h.r0 (nr_swap hq) (nr_swap hp) hc' hd' hy' hx' (nr_swap hn) b0 a0 d2' w'
    exact V2.ext e2 e1
theorem nr_unrot {r : Int} {p : V2} (h : Nr r (rotV p)) : Nr r p := by
  have := rot_nr (rot_nr (rot_nr h))
  have e : rotV (rotV (rotV (rotV p))) = p := V2.ext (by simp only [rotV]; omega) (by simp only [rotV]; omega)
  rwa [e] at this
theorem mid_unrot {r : Int} {p q : V2} (h : MidOk r (rotV p) (rotV q)) : MidOk r p q := by
  obtain ⟨h1, h2, h3⟩ := h
  rw [rot_mid] at h1 h2 h3
  rw [rot_cross] at h2 h3
  exact ⟨nr_unrot h1, fun w => rot_inj (h2 w), fun w => rot_inj (h3 w)⟩
theorem mid_ok {r : Int} {p q : V2} (h : Good r p q) : MidOk r p q := by
  by_cases hx : 0 ≤ p.x + q.x
  · by_cases hy : 0 ≤ p.y + q.y
    · exact mid_q1 h hx hy
    · exact mid_unrot (mid_q1 (good_rot h) (by simp only [rotV]; omega) (by simp only [rotV]; omega))
  · by_cases hy : 0 ≤ p.y + q.y
    · exact mid_unrot (mid_unrot (mid_unrot (mid_q1 (good_rot (good_rot (good_rot h))) (by simp only [rotV]; omega) (by simp only [rotV]; omega))))
    · exact mid_unrot (mid_unrot (mid_q1 (good_rot (good_rot h)) (by simp only [rotV]; omega) (by simp only [rotV]; omega)))
theorem mid_good {r : Int} {p q : V2} (h : Good r p q) (h1 : midV r p q ≠ p) (h2 : midV r p q ≠ q) : Good r p (midV r p q) ∧ Good r (midV r p q) q := by
  obtain ⟨hn, k1, k2⟩ := mid_ok h
  have c1 : 0 < crossP p (midV r p q) := Int.not_le.1 fun w => h1 (k1 w)
  have c2 : 0 < crossP (midV r p q) q := Int.not_le.1 fun w => h2 (k2 w)
  have hc := h.cr
  have hd := h.dt
  generalize midV r p q = m at *
  have hpp : 0 ≤ dotP p p := by have := sq_nonneg p.x; have := sq_nonneg p.y; simp only [dotP]; omega
  have hqq : 0 ≤ dotP q q := by have := sq_nonneg q.x; have := sq_nonneg q.y; simp only [dotP]; omega
  refine ⟨⟨h.r0, h.r1, h.np, hn, c1, ?_⟩, ⟨h.r0, h.r1, hn, h.nq, c2, ?_⟩⟩
  · have e : crossP p q * dotP p m = crossP m q * dotP p p + crossP p m * dotP p q := by simp only [crossP, dotP]; grind
    have t1 := Int.mul_nonneg (Int.le_of_lt c2) hpp
    have t2 := Int.mul_nonneg (Int.le_of_lt c1) hd
    refine Int.not_lt.1 fun w => ?_
    have := Int.mul_neg_of_pos_of_neg hc w
    omega
  · have e : crossP p q * dotP m q = crossP m q * dotP p q + crossP p m * dotP q q := by simp only [crossP, dotP]; grind
    have t1 := Int.mul_nonneg (Int.le_of_lt c2) hd
    have t2 := Int.mul_nonneg (Int.le_of_lt c1) hqq
    refine Int.not_lt.1 fun w => ?_
    have := Int.mul_neg_of_pos_of_neg hc w
    omega
/-! ### how many points lie between -/
def gridL : List V2 := ((List.range 4001).map fun i : Nat => (List.range 4001).map fun j : Nat => (⟨(i : Int) - 2000, (j : Int) - 2000⟩ : V2)).flatten
theorem mem_grid {v : V2} (h : -2000 ≤ v.x ∧ v.x ≤ 2000 ∧ -2000 ≤ v.y ∧ v.y ≤ 2000) : v ∈ gridL := by
  unfold gridL
  rw [List.mem_flatten]
  refine ⟨(List.range 4001).map fun j : Nat => (⟨(((v.x + 2000).toNat : Nat) : Int) - 2000, (j : Int) - 2000⟩ : V2), List.mem_map.2 ⟨(v.x + 2000).toNat, List.mem_range.2 (by omega), rfl⟩, List.mem_map.2 ⟨(v.y + 2000).toNat, List.mem_range.2 (by omega), ?_⟩⟩
  exact V2.ext (by show (((v.x + 2000).toNat : Nat) : Int) - 2000 = v.x; omega) (by show (((v.y + 2000).toNat : Nat) : Int) - 2000 = v.y; omega)
def insB (p q v : V2) : Bool := decide (0 < crossP p v) && decide (0 < crossP v q)
def mu (p q : V2) : Nat := gridL.countP (insB p q)
theorem countP_lt {α : Type} {f g : α → Bool} : ∀ {l : List α}, (∀ x, f x = true → g x = true) → (∃ x, x ∈ l ∧ f x = false ∧ g x = true) → l.countP f < l.countP g
  | [], _, ⟨x, hx, _⟩ => absurd hx List.not_mem_nil
  | a :: l, h, ⟨x, hx, h1, h2⟩ => by
    rw [List.countP_cons, List.countP_cons]
    have hle : l.countP f ≤ l.countP g := List.countP_mono_left fun x _ => h x
    rcases List.mem_cons.1 hx with rfl | hx
    · rw [h1, h2]; simp; omega
    · have := countP_lt h ⟨x, hx, h1, h2⟩
      have ha := h a
      cases hf : f a <;> cases hg : g a
      · simp; omega
      · simp; omega
      · rw [hf] at ha; rw [ha rfl] at hg; cases hg
      · simp; omega
theorem mu_lt {r : Int} {p q : V2} (h : Good r p q) (h1 : midV r p q ≠ p) (h2 : midV r p q ≠ q) : mu p (midV r p q) < mu p q ∧ mu (midV r p q) q < mu p q := by
  obtain ⟨g1, g2⟩ := mid_good h h1 h2
  have hg := mem_grid (nr_bound g1.r1 (x := (midV r p q).x) (y := (midV r p q).y) g1.nq)
  have hc := h.cr
  have c1 := g1.cr
  have c2 := g2.cr
  generalize midV r p q = m at *
  have hin : insB p q m = true := by rw [insB, decide_eq_true c1, decide_eq_true c2]; rfl
  have hmm : crossP m m = 0 := by simp only [crossP]; grind
  refine ⟨countP_lt (fun v hv => ?_) ⟨m, hg, ?_, hin⟩, countP_lt (fun v hv => ?_) ⟨m, hg, ?_, hin⟩⟩
  · simp only [insB, Bool.and_eq_true, decide_eq_true_eq] at hv ⊢
    refine ⟨hv.1, ?_⟩
    have e : crossP p m * crossP v q = crossP v m * crossP p q + crossP p v * crossP m q := by simp only [crossP]; grind
    have t1 := Int.mul_pos hv.2 hc
    have t2 := Int.mul_pos hv.1 c2
    refine Int.not_le.1 fun w => ?_
    have := Int.mul_nonpos_of_nonneg_of_nonpos (Int.le_of_lt c1) w
    omega
  · rw [insB, hmm]; simp
  · simp only [insB, Bool.and_eq_true, decide_eq_true_eq] at hv ⊢
    refine ⟨?_, hv.2⟩
    have e : crossP m q * crossP p v = crossP v q * crossP p m + crossP m v * crossP p q := by simp only [crossP]; grind
    have t1 := Int.mul_pos hv.2 c1
    have t2 := Int.mul_pos hv.1 hc
    refine Int.not_le.1 fun w => ?_
    have := Int.mul_nonpos_of_nonneg_of_nonpos (Int.le_of_lt c2) w
    omega
  · rw [insB, hmm]; simp
end Sg
end Go.Vm
