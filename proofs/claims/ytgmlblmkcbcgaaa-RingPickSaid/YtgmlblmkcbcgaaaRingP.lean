/-
  Layer 8, plain: the turn that an edge makes as seen from a point, in quarters, and the same for a closed chain of edges.
-/
import Derived.Test.YtgmlblmkcbcgaaaRingU
namespace Go.Vm
set_option maxRecDepth 20000
set_option linter.unusedVariables false
set_option linter.unusedSimpArgs false
open Go Go.RowKit Go.Proofs
namespace Sg

def addQ (a b : V2) : V2 := ⟨a.x + b.x, a.y + b.y⟩
def abd (s t : Int) : Int := if s ≤ t then t - s else s - t
/-- Seen from 0, an edge from u to v turns by so many quarters. -/
def tq (u v : V2) : Int := if 0 < crossP u v then abd (sgnI u.y) (sgnI v.y) else if crossP u v < 0 then -abd (sgnI u.y) (sgnI v.y) else 0
theorem abd_comm (s t : Int) : abd t s = abd s t := by unfold abd; split <;> split <;> omega
theorem cross_swap (u v : V2) : crossP v u = -crossP u v := by simp only [crossP]; grind
theorem tq_swap (u v : V2) : tq v u = -tq u v := by
  unfold tq
  rw [cross_swap u v, abd_comm]
  generalize abd (sgnI u.y) (sgnI v.y) = z
  repeat' split
  all_goals omega
theorem sgn_cases (x : Int) : (0 < x ∧ sgnI x = 1) ∨ (x < 0 ∧ sgnI x = -1) ∨ (x = 0 ∧ sgnI x = 0) := by
  unfold sgnI; repeat' split
  all_goals omega
theorem tq_flat {u v : V2} (h : sgnI u.y = sgnI v.y) : tq u v = 0 := by
  unfold tq abd
  rw [h]
  repeat' split
  all_goals omega
theorem tq_line {u v : V2} (h : crossP u v = 0) : tq u v = 0 := by
  unfold tq
  rw [h]; rfl
theorem tq_tri (a c : V2) : tq a (addQ a c) + tq (addQ a c) c = tq a c := by
  have e1 : crossP a (addQ a c) = crossP a c := by simp only [crossP, addQ]; grind
  have e2 : crossP (addQ a c) c = crossP a c := by simp only [crossP, addQ]; grind
  unfold tq
  rw [e1, e2]
  simp only [addQ]
  have h1 := sgn_cases a.y
  have h2 := sgn_cases c.y
  have h3 := sgn_cases (a.y + c.y)
  have : abd (sgnI a.y) (sgnI (a.y + c.y)) + abd (sgnI (a.y + c.y)) (sgnI c.y) = abd (sgnI a.y) (sgnI c.y) := by
    unfold abd
    repeat' split
    all_goals omega
  repeat' split
  all_goals omega
theorem tq_neg (u v : V2) : tq ⟨-u.x, -u.y⟩ ⟨-v.x, -v.y⟩ = tq u v := by
  have e1 : crossP ⟨-u.x, -u.y⟩ ⟨-v.x, -v.y⟩ = crossP u v := by simp only [crossP]; grind
  unfold tq
  rw [e1]
  have h1 := sgn_cases u.y
  have h2 := sgn_cases v.y
  have h3 := sgn_cases (-u.y)
  have h4 := sgn_cases (-v.y)
  have : abd (sgnI (-u.y)) (sgnI (-v.y)) = abd (sgnI u.y) (sgnI v.y) := by
    unfold abd
    repeat' split
    all_goals omega
  simp only [this]
theorem sgn_scale {m : Int} (hm : 0 < m) (x : Int) : sgnI (m * x) = sgnI x := by
  have f := posf x hm
  rw [Int.mul_comm] at f
  have h1 := sgn_cases x
  have h2 := sgn_cases (m * x)
  omega
theorem tq_scale {m k : Int} (hm : 0 < m) (hk : 0 < k) (u v : V2) : tq ⟨m * u.x, m * u.y⟩ ⟨k * v.x, k * v.y⟩ = tq u v := by
  have e1 : crossP ⟨m * u.x, m * u.y⟩ ⟨k * v.x, k * v.y⟩ = (m * k) * crossP u v := by simp only [crossP]; grind
  unfold tq
  have f := posf (crossP u v) (Int.mul_pos hm hk)
  rw [Int.mul_comm] at f
  rw [e1]
  simp only [sgn_scale hm, sgn_scale hk]
  generalize m * k * crossP u v = z at *
  repeat' split
  all_goals omega
/-- The crossings of the ray to the right, with their direction: a ray just above it. -/
def cq (u v : V2) : Int := if u.y ≤ 0 ∧ 0 < v.y ∧ 0 < crossP u v then 1 else if v.y ≤ 0 ∧ 0 < u.y ∧ crossP u v < 0 then -1 else 0
theorem cq_swap (u v : V2) : cq v u = -cq u v := by
  unfold cq
  rw [cross_swap u v]
  repeat' split
  all_goals omega
def gq (d : V2) : Int := if 0 < d.y then 1 else if d.y < 0 then -1 else if 0 < d.x then -2 else 0
abbrev zz : V2 := ⟨0, 0⟩
theorem onZ (a b p : V2) : OnL (subP a p) (subP b p) zz ↔ OnL a b p := by
  have e : trP (subP a p) (subP b p) zz = trP a b p := by simp only [trP, crossP, subP]; grind
  unfold OnL
  rw [e]
  simp only [subP]
  omega
theorem onZ' (p q b : V2) : OnL (subP b p) (subP b q) zz ↔ OnL p q b := by
  have e : trP (subP b p) (subP b q) zz = trP p q b := by simp only [trP, crossP, subP]; grind
  unfold OnL
  rw [e]
  simp only [subP]
  omega
theorem cross_zz (u v : V2) : trP u v zz = crossP u v := by simp only [trP, crossP, subP]; grind
theorem tq_cq {u v : V2} (h : ¬ OnL u v zz) : tq u v = 4 * cq u v + gq u - gq v := by
  have hc : (0 < u.y → v.y < 0 → crossP u v ≠ 0) ∧ (u.y < 0 → 0 < v.y → crossP u v ≠ 0) := by
    refine ⟨fun h1 h2 h3 => h ?_, fun h1 h2 h3 => h ?_⟩
    · refine onL_swap.1 (on_level ?_ (show v.y < u.y by omega) (show v.y ≤ zz.y from Int.le_of_lt h2) (show zz.y ≤ u.y from Int.le_of_lt h1))
      rw [cross_zz, cross_swap, h3]; rfl
    · refine on_level ?_ (show u.y < v.y by omega) (show u.y ≤ zz.y from Int.le_of_lt h1) (show zz.y ≤ v.y from Int.le_of_lt h2)
      rw [cross_zz, h3]
  have hu : u.y = 0 → u.x ≠ 0 := fun h1 h2 => h (by
    refine ⟨?_, .inl (Int.le_of_eq h2), .inl (Int.le_of_eq h2.symm), .inl (Int.le_of_eq h1), .inl (Int.le_of_eq h1.symm)⟩
    rw [cross_zz]; simp only [crossP]; rw [h1, h2]; simp)
  have hv : v.y = 0 → v.x ≠ 0 := fun h1 h2 => h (by
    refine ⟨?_, .inr (Int.le_of_eq h2), .inr (Int.le_of_eq h2.symm), .inr (Int.le_of_eq h1), .inr (Int.le_of_eq h1.symm)⟩
    rw [cross_zz]; simp only [crossP]; rw [h1, h2]; simp)
  have hw : u.y = 0 → v.y = 0 → (0 < u.x ↔ 0 < v.x) := fun h1 h2 => by
    have a1 := hu h1
    have a2 := hv h2
    refine Classical.byContradiction fun hn => h ⟨?_, ?_, ?_, .inl (Int.le_of_eq h1), .inl (Int.le_of_eq h1.symm)⟩
    · rw [cross_zz]; simp only [crossP]; rw [h1, h2]; simp
    · simp only [zz]; omega
    · simp only [zz]; omega
  have k1 : u.y = 0 → crossP u v = u.x * v.y := fun h1 => by simp only [crossP]; rw [h1]; simp
  have k2 : v.y = 0 → crossP u v = -(v.x * u.y) := fun h1 => by simp only [crossP]; rw [h1]; grind
  have s1 := sgn_cases u.y
  have s2 := sgn_cases v.y
  unfold tq cq gq abd
  generalize crossP u v = z at *
  rcases s1 with ⟨a1, b1⟩ | ⟨a1, b1⟩ | ⟨a1, b1⟩
  · rcases s2 with ⟨a2, b2⟩ | ⟨a2, b2⟩ | ⟨a2, b2⟩
    · clear hc hu hv hw k1 k2
      rw [b1, b2]; repeat' split
      all_goals omega
    · have := hc.1 a1 a2
      clear hc hu hv hw k1 k2
      rw [b1, b2]; repeat' split
      all_goals omega
    · have k3 := k2 a2
      have k4 := hv a2
      have k5 := posf v.x a1
      clear hc hu hv hw k1 k2
      generalize v.x * u.y = y at *
      have k6 : (v.x < 0 ∧ 0 < z) ∨ (0 < v.x ∧ z < 0) := by omega
      clear k3 k4 k5
      rw [b1, b2]
      repeat' split
      all_goals omega
  · rcases s2 with ⟨a2, b2⟩ | ⟨a2, b2⟩ | ⟨a2, b2⟩
    · have := hc.2 a1 a2
      clear hc hu hv hw k1 k2
      rw [b1, b2]; repeat' split
      all_goals omega
    · clear hc hu hv hw k1 k2
      rw [b1, b2]; repeat' split
      all_goals omega
    · have k3 := k2 a2
      have k4 := hv a2
      have k5 := posf v.x (show 0 < -u.y by omega)
      rw [Int.mul_neg] at k5
      clear hc hu hv hw k1 k2
      generalize v.x * u.y = y at *
      have k6 : (v.x < 0 ∧ z < 0) ∨ (0 < v.x ∧ 0 < z) := by omega
      clear k3 k4 k5
      rw [b1, b2]
      repeat' split
      all_goals omega
  · rcases s2 with ⟨a2, b2⟩ | ⟨a2, b2⟩ | ⟨a2, b2⟩
    · have k3 := k1 a1
      have k4 := hu a1
      have k5 := posf u.x a2
      clear hc hu hv hw k1 k2
      generalize u.x * v.y = y at *
      have k6 : (u.x < 0 ∧ z < 0) ∨ (0 < u.x ∧ 0 < z) := by omega
      clear k3 k4 k5
      rw [b1, b2]
      repeat' split
      all_goals omega
    · have k3 := k1 a1
      have k4 := hu a1
      have k5 := posf u.x (show 0 < -v.y by omega)
      rw [Int.mul_neg] at k5
      clear hc hu hv hw k1 k2
      generalize u.x * v.y = y at *
      have k6 : (u.x < 0 ∧ 0 < z) ∨ (0 < u.x ∧ z < 0) := by omega
      clear k3 k4 k5
      rw [b1, b2]
      repeat' split
      all_goals omega
    · have k3 : z = 0 := by have := k1 a1; rw [a2, Int.mul_zero] at this; exact this
      have k4 := hu a1
      have k5 := hv a2
      have k6 := hw a1 a2
      have k7 : (0 < u.x ∧ 0 < v.x) ∨ (u.x < 0 ∧ v.x < 0) := by omega
      clear hc hu hv hw k1 k2 h k4 k5 k6
      rw [b1, b2]
      repeat' split
      all_goals omega
theorem iteB (p : Prop) [Decidable p] : (if p then (1 : Int) else 0) = bif decide p then 1 else 0 := by
  by_cases h : p <;> simp [h]
/-- The turns around a parallelogram that 0 does not lie in. -/
def quad (f : V2 → V2 → Int) (a b p q : V2) : Int := f (subP a p) (subP b p) + f (subP b p) (subP b q) + f (subP b q) (subP a q) + f (subP a q) (subP a p)
theorem quad_cq {a b p q : V2} (h : NM a b p q) : quad cq a b p q = 0 := by
  have key : ∀ {a b p q : V2}, NM a b p q → a.y ≤ b.y → p.y ≤ q.y → quad cq a b p q = 0 := by
    intro a b p q h hu hl
    have Q := h.q4 hu hl
    have e1 : crossP (subP a p) (subP b p) = trP a b p := by simp only [trP, crossP, subP]; grind
    have e2 : crossP (subP b p) (subP b q) = trP p q b := by simp only [trP, crossP, subP]; grind
    have e3 : crossP (subP b q) (subP a q) = -trP a b q := by simp only [trP, crossP, subP]; grind
    have e4 : crossP (subP a q) (subP a p) = -trP p q a := by simp only [trP, crossP, subP]; grind
    have c1 : cq (subP a p) (subP b p) = if a.y ≤ p.y ∧ p.y < b.y ∧ 0 < trP a b p then 1 else 0 := by
      unfold cq
      rw [e1]
      simp only [subP]
      repeat' split
      all_goals omega
    have c2 : cq (subP b p) (subP b q) = -(if p.y < b.y ∧ b.y ≤ q.y ∧ trP p q b < 0 then 1 else 0) := by
      unfold cq
      rw [e2]
      simp only [subP]
      repeat' split
      all_goals omega
    have c3 : cq (subP b q) (subP a q) = -(if a.y ≤ q.y ∧ q.y < b.y ∧ 0 < trP a b q then 1 else 0) := by
      unfold cq
      rw [e3]
      simp only [subP]
      repeat' split
      all_goals omega
    have c4 : cq (subP a q) (subP a p) = if p.y < a.y ∧ a.y ≤ q.y ∧ trP p q a < 0 then 1 else 0 := by
      unfold cq
      rw [e4]
      simp only [subP]
      repeat' split
      all_goals omega
    unfold quad
    rw [c1, c2, c3, c4]
    have st := Q.step
    rw [iteB, iteB, iteB, iteB]
    have d1 : (decide (a.y ≤ p.y ∧ p.y < b.y ∧ 0 < trP a b p) && decide (p.y < a.y ∧ a.y ≤ q.y ∧ trP p q a < 0)) = false := by
      rw [← Bool.decide_and]; exact decide_eq_false (fun h => by omega)
    have d2 : (decide (a.y ≤ q.y ∧ q.y < b.y ∧ 0 < trP a b q) && decide (p.y < b.y ∧ b.y ≤ q.y ∧ trP p q b < 0)) = false := by
      rw [← Bool.decide_and]; exact decide_eq_false (fun h => by omega)
    revert st d1 d2
    generalize decide (a.y ≤ p.y ∧ p.y < b.y ∧ 0 < trP a b p) = x1
    generalize decide (a.y ≤ q.y ∧ q.y < b.y ∧ 0 < trP a b q) = x2
    generalize decide (p.y < a.y ∧ a.y ≤ q.y ∧ trP p q a < 0) = x3
    generalize decide (p.y < b.y ∧ b.y ≤ q.y ∧ trP p q b < 0) = x4
    cases x1 <;> cases x2 <;> cases x3 <;> cases x4 <;> decide
  have r1 : ∀ a b p q, quad cq b a p q = -quad cq a b p q := fun a b p q => by
    unfold quad
    rw [cq_swap (subP a p) (subP b p), cq_swap (subP a q) (subP a p), cq_swap (subP b q) (subP a q), cq_swap (subP b p) (subP b q)]
    omega
  have r2 : ∀ a b p q, quad cq a b q p = -quad cq a b p q := fun a b p q => by
    unfold quad
    rw [cq_swap (subP a p) (subP b p), cq_swap (subP a q) (subP a p), cq_swap (subP b q) (subP a q), cq_swap (subP b p) (subP b q)]
    omega
  rcases Int.le_total a.y b.y with hu | hu <;> rcases Int.le_total p.y q.y with hl | hl
  · exact key h hu hl
  · have := key h.swap hu hl
    rw [r2] at this; omega
  · have := key h.rev hu hl
    rw [r1] at this; omega
  · have := key h.rev.swap hu hl
    rw [r1, r2] at this; omega
theorem quad_tq {a b p q : V2} (h : NM a b p q) : quad tq a b p q = 0 := by
  have k := quad_cq h
  unfold quad at *
  rw [tq_cq (fun k => h.p_ ((onZ _ _ _).1 k)), tq_cq (fun k => h.b_ ((onZ' _ _ _).1 k)), tq_cq (fun k => h.q_ (onL_swap.1 ((onZ _ _ _).1 k))), tq_cq (fun k => h.a_ (onL_swap.1 ((onZ' _ _ _).1 k)))]
  omega
/-- The turn that a chain from P s on makes, seen from p. -/
def rowT (P : Int → V2) (p : V2) (s : Int) : Nat → Int
  | 0 => 0
  | m + 1 => rowT P p s m + tq (subP (P (s + m)) p) (subP (P (s + m + 1)) p)
theorem rowT_add (P : Int → V2) (p : V2) (s : Int) (a : Nat) : ∀ b, rowT P p s (a + b) = rowT P p s a + rowT P p (s + a) b
  | 0 => by simp [rowT]
  | b + 1 => by
    rw [← Nat.add_assoc]
    simp only [rowT]
    rw [rowT_add P p s a b, show s + ((a + b : Nat) : Int) = s + a + b by omega]
    omega
/-- Two points whose segment meets no edge of a chain see it turn alike, but for its ends. -/
theorem row_chain {P : Int → V2} {p q : V2} {s : Int} : ∀ m : Nat, (∀ j : Nat, j < m → NM (P (s + j)) (P (s + j + 1)) p q) →
    rowT P p s m + tq (subP (P (s + m)) p) (subP (P (s + m)) q) - tq (subP (P s) p) (subP (P s) q) = rowT P q s m
  | 0, _ => by simp [rowT]
  | m + 1, h => by
    have ih := row_chain m (fun j hj => h j (by omega))
    have k := quad_tq (h m (by omega))
    simp only [rowT]
    unfold quad at k
    rw [tq_swap (subP (P (s + m)) q) (subP (P (s + m + 1)) q), tq_swap (subP (P (s + m)) p) (subP (P (s + m)) q)] at k
    rw [show s + ((m + 1 : Nat) : Int) = s + m + 1 by omega]
    omega
end Sg
end Go.Vm
