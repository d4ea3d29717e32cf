/-
  Layer 7: contracts of the functions on rational points.
-/
import Derived.Test.YtlckiecpelchlaaSegB
namespace Go.Vm
set_option maxRecDepth 20000
set_option linter.unusedVariables false
set_option linter.unusedSimpArgs false
namespace Sg
open Go Go.RowKit Go.Proofs

theorem wid {n : Int} (h1 : -9223372036854775808 ≤ n) (h2 : n < 9223372036854775808) : IntKind.i64.wrap n = n := w64_id ⟨h1, h2⟩
theorem wid' {n : Int} (h1 : -9223372036854775808 ≤ n) (h2 : n < 9223372036854775808) : w64 n = n := w64_id ⟨h1, h2⟩

theorem withinV_iff {v : V2} {m : Int} (h0 : 0 ≤ m) (h1 : m ≤ 4611686018427387904) : withinV v m = true ↔ -m ≤ v.x ∧ v.x ≤ m ∧ -m ≤ v.y ∧ v.y ≤ m := by
  have e : ng m = -m := by
    unfold ng
    simp (disch := omega) only [wid']
    omega
  simp only [withinV, e, Bool.and_eq_true, decide_eq_true_eq]
  omega
def boundB (p : P3) (m : Int) : Bool := decide (1 ≤ p.d) && decide (p.d ≤ 134217728) && decide (-(m * p.d) ≤ p.x) && decide (p.x ≤ m * p.d) && decide (-(m * p.d) ≤ p.y) && decide (p.y ≤ m * p.d)
def validP (p : P3) : Bool := boundB p 4000 && decide (Int.gcd (Int.gcd p.x p.y) p.d = 1)
theorem boundB_iff {p : P3} {m : Int} : boundB p m = true ↔ 1 ≤ p.d ∧ p.d ≤ 134217728 ∧ -(m * p.d) ≤ p.x ∧ p.x ≤ m * p.d ∧ -(m * p.d) ≤ p.y ∧ p.y ≤ m * p.d := by
  simp only [boundB, Bool.and_eq_true, decide_eq_true_eq]
  omega

/-- What a bounded point's coordinates are at most. -/
theorem bound_big {p : P3} {m : Int} (h0 : 0 ≤ m) (h1 : m ≤ 4000) (h : boundB p m = true) : Big p.x ∧ Big p.y ∧ Big p.d ∧ m * p.d ≤ 536870912000 ∧ 0 ≤ m * p.d := by
  obtain ⟨k1, k2, k3, k4, k5, k6⟩ := boundB_iff.1 h
  have h3 : 0 ≤ m * p.d := Int.mul_nonneg h0 (by omega)
  have h4 : m * p.d ≤ 4000 * 134217728 := Int.mul_le_mul h1 (by omega) (by omega) (by omega)
  exact ⟨⟨by omega, by omega⟩, ⟨by omega, by omega⟩, ⟨by omega, by omega⟩, by omega, h3⟩
theorem gcd_le_of {a b : Int} (m : Int) (ha : -m ≤ a ∧ a ≤ m) (hb : -m ≤ b ∧ b ≤ m) (_h0 : 0 ≤ m) : ((Int.gcd a b : Nat) : Int) ≤ m := by
  by_cases h : a = 0
  · subst h
    rw [Int.gcd_zero_left]
    omega
  · have := Nat.le_of_dvd (by omega) (Nat.gcd_dvd_left a.natAbs b.natAbs)
    have e : Int.gcd a b = Nat.gcd a.natAbs b.natAbs := rfl
    omega
theorem gcd_big {p : P3} {m : Int} (h0 : 0 ≤ m) (h1 : m ≤ 4000) (h : boundB p m = true) : Big (Int.gcd p.x p.y : Nat) := by
  obtain ⟨k1, k2, k3, k4, k5⟩ := bound_big h0 h1 h
  have := gcd_le_of 4611686018427387904 k1 k2 (by omega)
  constructor <;> omega
theorem absI_eq {n : Int} (h : Big n) : absI n = (n.natAbs : Int) := by
  obtain ⟨h1, h2⟩ := h
  unfold absI ng
  simp (disch := omega) only [wid']
  split <;> omega
abbrev vecOk (v : V2) (b : Bool) : TV := .tup [vD v, .one (.v (.bool b))]
def wholeB (p : P3) : Bool := validP p && decide (p.d = 1)
abbrev wholeT (p : P3) : TV := vecOk (if wholeB p = true then ⟨p.x, p.y⟩ else ⟨0, 0⟩) (wholeB p)
theorem Fin.vecOk {v v' : V2} {b b' : Bool} (h : v = v') (k : b = b') : Fin (vecOk v b) (vecOk v' b') := by subst h k; exact Fin.rfl'
end Sg
end Go.Vm
