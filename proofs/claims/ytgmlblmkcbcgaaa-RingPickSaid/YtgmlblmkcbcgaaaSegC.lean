/-
  Layer 7: contracts of the functions on rational points.
-/
import Derived.Test.YtgmlblmkcbcgaaaSegB
namespace Go.Vm
set_option maxRecDepth 20000
set_option linter.unusedVariables false
set_option linter.unusedSimpArgs false
namespace Sg
open Go Go.RowKit Go.Proofs

theorem wid {n : Int} (h1 : -9223372036854775808 ≤ n) (h2 : n < 9223372036854775808) : IntKind.i64.wrap n = n := w64_id ⟨h1, h2⟩
theorem wid' {n : Int} (h1 : -9223372036854775808 ≤ n) (h2 : n < 9223372036854775808) : w64 n = n := w64_id ⟨h1, h2⟩

theorem withinV_iff {v : V2} {m : Int} (h0 : 0 ≤ m) (h1 : m ≤ 4611686018427387904) : withinV v m = true ↔ -m ≤ v.x ∧ v.x ≤ m ∧ -m ≤ v.y ∧ v.y ≤ m := by
  have e : ng m = -m := by
    unfold ng
    simp (disch := omega) only [wid']
    omega
  simp only [withinV, e, Bool.and_eq_true, decide_eq_true_eq]
  omega
def boundB (p : P3) (m : Int) : Bool := decide (1 ≤ p.d) && decide (p.d ≤ 134217728) && decide (-(m * p.d) ≤ p.x) && decide (p.x ≤ m * p.d) && decide (-(m * p.d) ≤ p.y) && decide (p.y ≤ m * p.d)
def validP (p : P3) : Bool := boundB p 4000 && decide (Int.gcd (Int.gcd p.x p.y) p.d = 1)
theorem boundB_iff {p : P3} {m : Int} : boundB p m = true ↔ 1 ≤ p.d ∧ p.d ≤ 134217728 ∧ -(m * p.d) ≤ p.x ∧ p.x ≤ m * p.d ∧ -(m * p.d) ≤ p.y ∧ p.y ≤ m * p.d := by
  simp only [boundB, Bool.and_eq_true, decide_eq_true_eq]
  omega

theorem bounded_det (p : P3) (m : Int) (h0 : 0 ≤ m) (h1 : m ≤ 4000) : Det Try.prog 93 [pD p, .one (i64 m)] (tbool (boundB p m)) := by
  refine det_of_awp TTok mixed Try.func93 rfl rfl [] (Nat.le_of_ble_eq_true rfl) ?_
  have hf : ¬ (1 ≤ p.d ∧ p.d ≤ 134217728) → boundB p m = false := fun h => by
    rw [Bool.eq_false_iff]
    intro hb
    have := boundB_iff.1 hb
    exact h ⟨this.1, this.2.1⟩
  refine Split.mk (fun h => ?_) (fun h => ?_)
  · replace h : decide (p.d < 1) = true := h
    repeat' first | refine Split.t ?_ | refine Fin.bool ?_ | fail
    rw [hf]
    have := of_decide_eq_true h
    omega
  · replace h : decide (p.d < 1) = false := h
    repeat' first | refine Split.f ?_ | fail
    refine Split.mk (fun h2 => ?_) (fun h2 => ?_)
    · replace h2 : decide (p.d > 134217728) = true := h2
      refine Fin.bool ?_
      rw [hf]
      have := of_decide_eq_true h2
      omega
    · replace h2 : decide (p.d > 134217728) = false := h2
      have k1 := of_decide_eq_false h
      have k2 := of_decide_eq_false h2
      refine CallW.bool (vwithin_det ⟨p.x, p.y⟩ (w64 (m * p.d))) (fun q hq => ?_)
      refine Fin.bool ?_
      rw [hq, Bool.eq_iff_iff, boundB_iff]
      have h3 : 0 ≤ m * p.d := Int.mul_nonneg h0 (by omega)
      have h4 : m * p.d ≤ 4000 * 134217728 := Int.mul_le_mul h1 (by omega) (by omega) (by omega)
      rw [wid' (by omega) (by omega), withinV_iff h3 (by omega)]
      show -(m * p.d) ≤ p.x ∧ p.x ≤ m * p.d ∧ -(m * p.d) ≤ p.y ∧ p.y ≤ m * p.d ↔ _
      omega
/-- What a bounded point's coordinates are at most. -/
theorem bound_big {p : P3} {m : Int} (h0 : 0 ≤ m) (h1 : m ≤ 4000) (h : boundB p m = true) : Big p.x ∧ Big p.y ∧ Big p.d ∧ m * p.d ≤ 536870912000 ∧ 0 ≤ m * p.d := by
  obtain ⟨k1, k2, k3, k4, k5, k6⟩ := boundB_iff.1 h
  have h3 : 0 ≤ m * p.d := Int.mul_nonneg h0 (by omega)
  have h4 : m * p.d ≤ 4000 * 134217728 := Int.mul_le_mul h1 (by omega) (by omega) (by omega)
  exact ⟨⟨by omega, by omega⟩, ⟨by omega, by omega⟩, ⟨by omega, by omega⟩, by omega, h3⟩
theorem gcd_le_of {a b : Int} (m : Int) (ha : -m ≤ a ∧ a ≤ m) (hb : -m ≤ b ∧ b ≤ m) (_h0 : 0 ≤ m) : ((Int.gcd a b : Nat) : Int) ≤ m := by
  by_cases h : a = 0
  · subst h
    rw [Int.gcd_zero_left]
    omega
  · have := Nat.le_of_dvd (by omega) (Nat.gcd_dvd_left a.natAbs b.natAbs)
    have e : Int.gcd a b = Nat.gcd a.natAbs b.natAbs := rfl
    omega
theorem gcd_big {p : P3} {m : Int} (h0 : 0 ≤ m) (h1 : m ≤ 4000) (h : boundB p m = true) : Big (Int.gcd p.x p.y : Nat) := by
  obtain ⟨k1, k2, k3, k4, k5⟩ := bound_big h0 h1 h
  have := gcd_le_of 4611686018427387904 k1 k2 (by omega)
  constructor <;> omega
theorem validp_det (p : P3) : Det Try.prog 63 [pD p] (tbool (validP p)) := by
  refine det_of_awp TTok mixed Try.func63 rfl rfl [] (Nat.le_of_ble_eq_true rfl) ?_
  refine CallW.bool (bounded_det p 4000 (by decide) (by decide)) (fun q hq => ?_)
  refine Split.mk (fun h => ?_) (fun h => ?_)
  · have hb : boundB p 4000 = true := by rw [← hq, h]
    obtain ⟨k1, k2, k3, _⟩ := bound_big (by decide) (by decide) hb
    have k4 := gcd_big (by decide) (by decide) hb
    repeat' first | refine CallW.mk' (gcd_det p.x p.y k1 k2) ?_ | refine CallW.mk' (gcd_det _ p.d k4 k3) ?_ | refine Split.t ?_ | refine Need.mk (by kernel_rfl) ?_ | fail
    subst h
    repeat' first | refine Split.t ?_ | refine Need.mk (by kernel_rfl) ?_ | refine Fin.bool ?_ | fail
    rw [validP, hb, Bool.true_and, Bool.eq_iff_iff]
    simp only [beq_iff_eq, decide_eq_true_eq]
    omega
  · subst h
    repeat' first | refine Split.f ?_ | refine Need.mk (by kernel_rfl) ?_ | refine Fin.bool ?_ | fail
    rw [validP, ← hq]
    rfl
theorem absI_eq {n : Int} (h : Big n) : absI n = (n.natAbs : Int) := by
  obtain ⟨h1, h2⟩ := h
  unfold absI ng
  simp (disch := omega) only [wid']
  split <;> omega
theorem rvalidp_det (p : P3) : Det Try.prog 67 [pD p] (tbool (validP p)) := by
  refine det_of_awp TTok mixed Try.func67 rfl rfl [] (Nat.le_of_ble_eq_true rfl) ?_
  have hf : ¬ (1 ≤ p.d ∧ p.d ≤ 134217728 ∧ -(4000 * p.d) ≤ p.x ∧ p.x ≤ 4000 * p.d ∧ -(4000 * p.d) ≤ p.y ∧ p.y ≤ 4000 * p.d) → validP p = false := fun h => by
    rw [validP, show boundB p 4000 = false from ?_]
    · rfl
    · rw [Bool.eq_false_iff]
      intro hb
      exact h (boundB_iff.1 hb)
  refine Split.mk (fun h => ?_) (fun h => ?_)
  · replace h := of_decide_eq_true (show decide (p.d < 1) = true from h)
    repeat' first | refine Split.t ?_ | refine Fin.bool ?_ | fail
    rw [hf (by omega)]
  replace h := of_decide_eq_false (show decide (p.d < 1) = false from h)
  repeat' first | refine Split.f ?_ | fail
  refine Split.mk (fun h2 => ?_) (fun h2 => ?_)
  · replace h2 := of_decide_eq_true (show decide (p.d > 134217728) = true from h2)
    repeat' first | refine Split.t ?_ | refine Fin.bool ?_ | fail
    rw [hf (by omega)]
  replace h2 := of_decide_eq_false (show decide (p.d > 134217728) = false from h2)
  repeat' first | refine Split.f ?_ | fail
  have e1 : w64 (-4000 * p.d) = -(4000 * p.d) := (wid' (by omega) (by omega)).trans (by omega)
  have e2 : w64 (4000 * p.d) = 4000 * p.d := wid' (by omega) (by omega)
  refine Split.mk (fun h3 => ?_) (fun h3 => ?_)
  · replace h3 := of_decide_eq_true (show decide (p.x < w64 (-4000 * p.d)) = true from h3)
    repeat' first | refine Split.t ?_ | refine Fin.bool ?_ | fail
    rw [hf (by omega)]
  replace h3 := of_decide_eq_false (show decide (p.x < w64 (-4000 * p.d)) = false from h3)
  repeat' first | refine Split.f ?_ | fail
  refine Split.mk (fun h4 => ?_) (fun h4 => ?_)
  · replace h4 := of_decide_eq_true (show decide (p.x > w64 (4000 * p.d)) = true from h4)
    repeat' first | refine Split.t ?_ | refine Fin.bool ?_ | fail
    rw [hf (by omega)]
  replace h4 := of_decide_eq_false (show decide (p.x > w64 (4000 * p.d)) = false from h4)
  repeat' first | refine Split.f ?_ | fail
  refine Split.mk (fun h5 => ?_) (fun h5 => ?_)
  · replace h5 := of_decide_eq_true (show decide (p.y < w64 (-4000 * p.d)) = true from h5)
    repeat' first | refine Split.t ?_ | refine Fin.bool ?_ | fail
    rw [hf (by omega)]
  replace h5 := of_decide_eq_false (show decide (p.y < w64 (-4000 * p.d)) = false from h5)
  repeat' first | refine Split.f ?_ | fail
  refine Split.mk (fun h6 => ?_) (fun h6 => ?_)
  · replace h6 := of_decide_eq_true (show decide (p.y > w64 (4000 * p.d)) = true from h6)
    repeat' first | refine Split.t ?_ | refine Fin.bool ?_ | fail
    rw [hf (by omega)]
  replace h6 := of_decide_eq_false (show decide (p.y > w64 (4000 * p.d)) = false from h6)
  have hb : boundB p 4000 = true := boundB_iff.2 (by omega)
  obtain ⟨k1, k2, k3, _⟩ := bound_big (by decide) (by decide) hb
  refine CallW.int (abs_det p.x) (fun a ha => ?_)
  refine CallW.int (abs_det p.y) (fun b hb' => ?_)
  rw [absI_eq k1] at ha
  rw [absI_eq k2] at hb'
  refine CallW.mk' (rgcd_det a b (by omega) (by omega)) ?_
  refine CallW.mk' (rgcd_det _ p.d (by omega) (by omega)) ?_
  refine Need.mk (by kernel_rfl) ?_
  refine Fin.bool ?_
  have eg : Int.gcd a b = Int.gcd p.x p.y := by
    rw [ha, hb']
    rfl
  rw [eg, validP, hb, Bool.true_and, Bool.eq_iff_iff]
  simp only [beq_iff_eq, decide_eq_true_eq]
  omega

abbrev vecOk (v : V2) (b : Bool) : TV := .tup [vD v, .one (.v (.bool b))]
def wholeB (p : P3) : Bool := validP p && decide (p.d = 1)
abbrev wholeT (p : P3) : TV := vecOk (if wholeB p = true then ⟨p.x, p.y⟩ else ⟨0, 0⟩) (wholeB p)
theorem Fin.vecOk {v v' : V2} {b b' : Bool} (h : v = v') (k : b = b') : Fin (vecOk v b) (vecOk v' b') := by subst h k; exact Fin.rfl'
end Sg
end Go.Vm
