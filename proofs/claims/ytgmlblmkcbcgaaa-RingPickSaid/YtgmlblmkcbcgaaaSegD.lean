/-
  Layer 7: contracts of the comparison of rational points.
-/
import Derived.Test.YtgmlblmkcbcgaaaSegC
namespace Go.Vm
set_option maxRecDepth 20000
set_option linter.unusedVariables false
set_option linter.unusedSimpArgs false
namespace Sg
open Go Go.RowKit Go.Proofs

/-- How a / m and b / n compare. -/
def cmpQ (a m b n : Int) : Int := cmpI (a * n) (b * m)
theorem cmpI_sgn (a b : Int) : sgnI (a - b) = cmpI a b := by
  unfold cmpI sgnI
  repeat' split
  all_goals omega
theorem cmp_floor {a m b n : Int} (hm : 0 < m) (hn : 0 < n) : cmpQ a m b n = if a / m < b / n then -1 else if a / m > b / n then 1 else cmpI (a % m * n) (b % n * m) := by
  have ea : a = m * (a / m) + a % m := (Int.mul_ediv_add_emod a m).symm
  have eb : b = n * (b / n) + b % n := (Int.mul_ediv_add_emod b n).symm
  have r0 := Int.emod_nonneg a (show m ≠ 0 by omega)
  have r1 := Int.emod_lt_of_pos a hm
  have t0 := Int.emod_nonneg b (show n ≠ 0 by omega)
  have t1 := Int.emod_lt_of_pos b hn
  generalize a / m = p at *
  generalize b / n = q at *
  generalize a % m = r at *
  generalize b % n = t at *
  have hM : 0 < m * n := Int.mul_pos hm hn
  have e1 : a * n = m * n * p + r * n := by subst ea; grind
  have e2 : b * m = m * n * q + t * m := by subst eb; grind
  have r2 : r * n < m * n := Int.mul_lt_mul_of_pos_right r1 hn
  have r3 : 0 ≤ r * n := Int.mul_nonneg r0 (by omega)
  have t2 : t * m < m * n := by rw [Int.mul_comm m n]; exact Int.mul_lt_mul_of_pos_right t1 hm
  have t3 : 0 ≤ t * m := Int.mul_nonneg t0 (by omega)
  unfold cmpQ
  rw [e1, e2]
  have key : ∀ x y : Int, x < y → m * n * x + m * n ≤ m * n * y := fun x y h => by
    have := Int.mul_le_mul_of_nonneg_left (show x + 1 ≤ y by omega) (Int.le_of_lt hM)
    rw [Int.mul_add, Int.mul_one] at this
    exact this
  by_cases h : p < q
  · have := key p q h
    rw [if_pos h]
    unfold cmpI
    rw [if_pos (by omega)]
  · rw [if_neg h]
    by_cases h2 : p > q
    · have := key q p h2
      rw [if_pos h2]
      unfold cmpI
      rw [if_neg (by omega), if_pos (by omega)]
    · rw [if_neg h2]
      have e : p = q := by omega
      subst e
      unfold cmpI
      repeat' split
      all_goals omega
theorem floor_eq {a m : Int} (hm : 0 < m) : (a.tmod m < 0 → a.tdiv m - 1 = a / m ∧ a.tmod m + m = a % m) ∧ (¬ a.tmod m < 0 → a.tdiv m = a / m ∧ a.tmod m = a % m) := by
  have e := Int.mul_tdiv_add_tmod a m
  have l := tmod_lt (a := a) (show m ≠ 0 by omega)
  refine ⟨fun h => ?_, fun h => ?_⟩
  · have := (Int.ediv_emod_unique (a := a) (b := m) (q := a.tdiv m - 1) (r := a.tmod m + m) hm).2 ⟨by rw [Int.mul_sub]; omega, by omega, by omega⟩
    exact ⟨this.1.symm, this.2.symm⟩
  · have := (Int.ediv_emod_unique (a := a) (b := m) (q := a.tdiv m) (r := a.tmod m) hm).2 ⟨by omega, by omega, by omega⟩
    exact ⟨this.1.symm, this.2.symm⟩
/-- A fraction that is near. -/
structure Fr (a m : Int) : Prop where
  m1 : 1 ≤ m
  m2 : m ≤ 134217728
  a1 : -(2000 * m) ≤ a
  a2 : a ≤ 2000 * m
theorem Fr.div {a m : Int} (h : Fr a m) : -2000 ≤ a / m ∧ a / m ≤ 2000 ∧ 0 ≤ a % m ∧ a % m < m ∧ -2001 ≤ a.tdiv m ∧ a.tdiv m ≤ 2001 := by
  obtain ⟨h1, h2, h3, h4⟩ := h
  have r0 := Int.emod_nonneg a (show m ≠ 0 by omega)
  have r1 := Int.emod_lt_of_pos a (show 0 < m by omega)
  have q1 : -2000 ≤ a / m := by
    rw [Int.le_ediv_iff_mul_le (by omega)]
    omega
  have q2 : a / m ≤ 2000 := by
    have := Int.ediv_lt_of_lt_mul (a := a) (b := 2001) (c := m) (by omega) (by omega)
    omega
  have f := floor_eq (a := a) (m := m) (by omega)
  refine ⟨q1, q2, r0, r1, ?_, ?_⟩
  · by_cases h : a.tmod m < 0
    · have := f.1 h; omega
    · have := f.2 h; omega
  · by_cases h : a.tmod m < 0
    · have := f.1 h; omega
    · have := f.2 h; omega
theorem mul_b {x y X Y : Int} (hx : 0 ≤ x ∧ x ≤ X) (hy : 0 ≤ y ∧ y ≤ Y) : 0 ≤ x * y ∧ x * y ≤ X * Y := by
  refine ⟨Int.mul_nonneg hx.1 hy.1, Int.mul_le_mul hx.2 hy.2 hy.1 (by omega)⟩
theorem rest_eq {a m : Int} (h : Fr a m) : w64 (a - w64 (a / m * m)) = a % m := by
  have e : a / m * m = a - a % m := by
    have := Int.mul_ediv_add_emod a m
    rw [Int.mul_comm]
    omega
  obtain ⟨_, _, r0, r1, _⟩ := h.div
  obtain ⟨h1, h2, h3, h4⟩ := h
  rw [e, wid' (n := a - a % m) (by omega) (by omega)]
  rw [wid' (by omega) (by omega)]
  omega

abbrev twoT (a b : Int) : TV := .tup [.one (i64 a), .one (i64 b)]
theorem CallW.tup2 {P : Program} {f : FuncId} {args : List DV} {K : TV → Prop} {a b : Int} (h : Det P f args (twoT a b)) (kk : ∀ x y, x = a → y = b → K (twoT x y)) : CallW P f args K := ⟨_, h, kk _ _ rfl rfl⟩
def nearB (p : P3) : Bool := validP p && boundB p 2000
def cmpP (p q : P3) : Int := if nearB p = true ∧ nearB q = true then orI (cmpQ p.y p.d q.y q.d) (cmpQ p.x p.d q.x q.d) else 0
theorem near_fr {p : P3} (h : nearB p = true) : Fr p.x p.d ∧ Fr p.y p.d := by
  simp only [nearB, Bool.and_eq_true] at h
  obtain ⟨h1, h2, h3, h4, h5, h6⟩ := boundB_iff.1 h.2
  exact ⟨⟨h1, h2, h3, h4⟩, ⟨h1, h2, h5, h6⟩⟩
end Sg
end Go.Vm
