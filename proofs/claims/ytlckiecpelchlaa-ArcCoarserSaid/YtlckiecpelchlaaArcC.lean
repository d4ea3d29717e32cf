/-
  Layer 11: the float square root of a positive number is a number that can be made whole; Root.
-/
import Derived.Test.YtlckiecpelchlaaArcB
namespace Go.Vm
set_option maxRecDepth 20000
set_option linter.unusedVariables false
set_option linter.unusedSimpArgs false
open Go Go.RowKit Go.Proofs
namespace Sg

/-! ### floats, roughly -/
theorem cut_le (way : Ieee.Toward) (n drop : Nat) : way.cut false n drop ≤ n / (1 <<< min drop (n.log2 + 2)) + 1 := by
  unfold Ieee.Toward.cut
  simp only
  have : ∀ b : Bool, b.toNat ≤ 1 := fun b => by cases b <;> decide
  exact Nat.add_le_add_left (this _) _
theorem lt_two_log (n : Nat) : n < 2 ^ (n.log2 + 1) := Nat.lt_log2_self
theorem kept_le {mag : Nat} {place last : Int} (hl : place + mag.log2 - 52 ≤ last) : Ieee.Toward.even.cut false (mag <<< (place - last).toNat) (last - place).toNat ≤ 2 ^ 53 := by
  refine Nat.le_trans (cut_le _ _ _) ?_
  have hm := lt_two_log mag
  by_cases h : last ≤ place
  · have e1 : (last - place).toNat = 0 := by omega
    rw [e1, Nat.zero_min, Nat.shiftLeft_zero, Nat.div_one, Nat.shiftLeft_eq]
    have h1 : (place - last).toNat + mag.log2 ≤ 52 := by omega
    have h2 : mag * 2 ^ (place - last).toNat < 2 ^ (mag.log2 + 1) * 2 ^ (place - last).toNat := Nat.mul_lt_mul_of_pos_right hm (Nat.two_pow_pos _)
    rw [← Nat.pow_add] at h2
    have h3 : 2 ^ (mag.log2 + 1 + (place - last).toNat) ≤ 2 ^ 53 := Nat.pow_le_pow_right (by decide) (by omega)
    omega
  · have e1 : (place - last).toNat = 0 := by omega
    rw [e1, Nat.shiftLeft_zero, Nat.shiftLeft_eq, Nat.one_mul]
    have hd : mag.log2 ≤ (last - place).toNat + 52 := by omega
    generalize (last - place).toNat = d at *
    have h2 : mag / 2 ^ min d (mag.log2 + 2) < 2 ^ 53 := by
      rw [Nat.div_lt_iff_lt_mul (Nat.two_pow_pos _), ← Nat.pow_add]
      refine Nat.lt_of_lt_of_le hm (Nat.pow_le_pow_right (by decide) ?_)
      omega
    omega
/-- A float that is a number, not negative, below 2^(53 + e). -/
def FNum (b : Nat) (e : Int) : Prop := ∃ m p, Ieee.double.read b = .number false m p ∧ m ≤ 2 ^ 53 ∧ p ≤ e
theorem read_num {w : Nat} (h : w < 2047 * 2 ^ 52) : ∃ m p, Ieee.double.read w = .number false m p ∧ m ≤ 2 ^ 53 ∧ p = -1074 + ((w / 2 ^ 52 - 1 : Nat) : Int) := by
  have e1 : Ieee.double.signWeight = 2 ^ 63 := rfl
  have e2 : Ieee.double.binade = 2 ^ 52 := rfl
  have e3 : Ieee.double.infRung = 2047 * 2 ^ 52 := rfl
  have e4 : Ieee.double.leastPlace = -1074 := rfl
  have h63 : w < 2 ^ 63 := by omega
  unfold Ieee.Format.read
  simp only [e1, e2, e3, e4]
  rw [Nat.mod_eq_of_lt h63, Nat.div_eq_of_lt h63]
  by_cases hb : w < 2 ^ 52
  · rw [if_pos hb]
    refine ⟨_, _, rfl, by omega, ?_⟩
    rw [Nat.div_eq_of_lt hb]; rfl
  · rw [if_neg hb, if_pos h]
    refine ⟨_, _, rfl, ?_, rfl⟩
    have := Nat.mod_lt w (show 0 < 2 ^ 52 by decide)
    omega
theorem rung_arith {a kept B : Nat} (hB : 0 < B) (hk : kept ≤ 2 * B) (ha : a ≤ 1974) : a * B + kept < 2047 * B ∧ (a * B + kept) / B ≤ a + 2 := by
  have h1 : a * B ≤ 1974 * B := Nat.mul_le_mul_right _ ha
  refine ⟨by omega, Nat.le_of_lt_succ ((Nat.div_lt_iff_lt_mul hB).2 ?_)⟩
  rw [Nat.succ_mul, Nat.add_mul]
  omega
theorem word_f (x : Nat) : Ieee.double.word false x = x := by unfold Ieee.Format.word; simp
theorem near_num {mag : Nat} {place e : Int} (he : place + mag.log2 - 52 ≤ e) (h0 : -1074 ≤ e) (h1 : e ≤ 900) : FNum (Ieee.double.nearest false mag place) (e + 2) := by
  have e1 : Ieee.double.signWeight = 2 ^ 63 := rfl
  have e2 : Ieee.double.binade = 2 ^ 52 := rfl
  have e3 : Ieee.double.infRung = 2047 * 2 ^ 52 := rfl
  have e4 : Ieee.double.leastPlace = -1074 := rfl
  have e5 : Ieee.double.fractionBits = 52 := rfl
  unfold Ieee.Format.nearest
  by_cases hm : mag = 0
  · rw [if_pos hm]
    rw [word_f]
    obtain ⟨m, p, r1, r2, r3⟩ := read_num (w := 0) (Nat.mul_pos (by omega) (Nat.two_pow_pos _))
    refine ⟨m, p, r1, r2, ?_⟩
    rw [r3, Nat.zero_div]
    omega
  · rw [if_neg hm]
    simp only [e2, e3, e4, e5]
    have hk := kept_le (mag := mag) (place := place) (last := max (place + (mag.log2 : Int) - ((52 : Nat) : Int)) (-1074)) (by omega)
    have hlast : max (place + (mag.log2 : Int) - ((52 : Nat) : Int)) (-1074) ≤ e := by omega
    have hlast0 : -1074 ≤ max (place + (mag.log2 : Int) - ((52 : Nat) : Int)) (-1074) := by omega
    generalize max (place + (mag.log2 : Int) - ((52 : Nat) : Int)) (-1074) = last at *
    generalize Ieee.Toward.even.cut false (mag <<< (place - last).toNat) (last - place).toNat = kept at *
    obtain ⟨hw, hq⟩ := rung_arith (a := (last - -1074).toNat) (Nat.two_pow_pos 52) (show kept ≤ 2 * 2 ^ 52 from hk) (by omega)
    rw [Nat.min_eq_left (Nat.le_of_lt hw), word_f]
    generalize (last - -1074).toNat * 2 ^ 52 + kept = w at *
    obtain ⟨m, p, r1, r2, r3⟩ := read_num hw
    refine ⟨m, p, r1, r2, ?_⟩
    rw [r3]
    generalize w / 2 ^ 52 = q at *
    omega
theorem rootFrom_le (n : Nat) : ∀ (k r : Nat), r * r ≤ n → Ieee.Datum.rootFrom n k r * Ieee.Datum.rootFrom n k r ≤ n
  | 0, r, h => h
  | k + 1, r, h => by
    unfold Ieee.Datum.rootFrom
    simp only
    split
    · rename_i h1; exact rootFrom_le n k _ h1
    · exact rootFrom_le n k _ h
theorem lt_of_sq {a h : Nat} (ha : a * a < 2 ^ (2 * h)) : a < 2 ^ h := by
  refine Nat.not_le.1 fun q => ?_
  have := Nat.mul_le_mul q q
  rw [← Nat.pow_add, ← Nat.two_mul] at this
  omega
theorem sqrt_num {b : Nat} (h : FNum b 12) : ∃ r, Ieee.double.sqrt b = some r ∧ FNum r (-17) := by
  obtain ⟨m, i, h1, h2, h3⟩ := h
  unfold Ieee.Format.sqrt
  rw [h1]
  unfold Ieee.Datum.root
  by_cases hm : m = 0
  · subst hm
    simp only [if_true, Option.map_some]
    refine ⟨_, rfl, ?_⟩
    show FNum (Ieee.double.nearest false 0 i) (-17)
    have := near_num (mag := 0) (place := -1000) (e := -19) (by decide) (by decide) (by decide)
    have e : Ieee.double.nearest false 0 i = Ieee.double.nearest false 0 (-1000) := by
      unfold Ieee.Format.nearest
      rw [if_pos rfl, if_pos rfl]
    rw [e]; exact this
  · simp only [if_neg hm, Bool.false_eq_true, if_false, Option.map_some]
    refine ⟨_, rfl, ?_⟩
    have e5 : Ieee.double.fractionBits = 52 := rfl
    rw [e5]
    generalize hmore : 2 * (52 + 2) - m.log2 + ((i - ((2 * (52 + 2) - m.log2 : Nat) : Int)) % 2).toNat = more
    have hw := rootFrom_le (m <<< more) ((m <<< more).log2 / 2 + 1) 0 (Nat.zero_le _)
    generalize Ieee.Datum.rootFrom (m <<< more) ((m <<< more).log2 / 2 + 1) 0 = whole at *
    have hlm : m.log2 ≤ 53 := by
      refine Nat.not_lt.1 fun q => ?_
      have := Nat.log2_self_le hm
      have : 2 ^ 54 ≤ 2 ^ m.log2 := Nat.pow_le_pow_right (by decide) q
      omega
    have hwh : whole < 2 ^ ((m.log2 + more) / 2 + 1) := by
      refine lt_of_sq (Nat.lt_of_le_of_lt hw ?_)
      rw [Nat.shiftLeft_eq]
      refine Nat.lt_of_lt_of_le (Nat.mul_lt_mul_of_pos_right (lt_two_log m) (Nat.two_pow_pos _)) ?_
      rw [← Nat.pow_add]
      exact Nat.pow_le_pow_right (by decide) (by omega)
    have hb : ∀ c : Bool, c.toNat ≤ 1 := fun c => by cases c <;> decide
    have hb' := hb (whole * whole != m <<< more)
    generalize (whole * whole != m <<< more).toNat = c at *
    have hlog : (2 * whole + c).log2 ≤ (m.log2 + more) / 2 + 1 := by
      by_cases hz : 2 * whole + c = 0
      · rw [hz]; simp
      · have : (2 * whole + c).log2 < (m.log2 + more) / 2 + 1 + 1 := (Nat.log2_lt hz).2 (by rw [Nat.pow_succ]; omega)
        omega
    show FNum (Ieee.double.nearest false (2 * whole + c) ((i - more) / 2 - 1)) (-17)
    exact near_num (mag := 2 * whole + c) (place := (i - more) / 2 - 1) (e := -19) (by omega) (by decide) (by decide)
theorem whole_num {b : Nat} (h : FNum b (-17)) : ∃ z, (FloatKind.f64.decode b).toInt .zero = some z ∧ 0 ≤ z ∧ z ≤ 9007199254740992 := by
  obtain ⟨m, p, h1, h2, h3⟩ := h
  have e : FloatKind.f64.decode b = .number false m p := h1
  rw [e]
  unfold Ieee.Datum.toInt Ieee.Datum.integral
  simp only
  refine ⟨_, rfl, ?_⟩
  have hp : p.toNat = 0 := by omega
  rw [hp, Nat.shiftLeft_zero]
  have : Ieee.Toward.zero.cut false m (-p).toNat ≤ m := by
    unfold Ieee.Toward.cut
    simp only [Bool.toNat_false, Nat.add_zero]
    exact Nat.div_le_self _ _
  unfold Ieee.signed
  simp only [Bool.false_eq_true, if_false, Nat.shiftLeft_zero]
  omega
theorem float_num {n : Int} (h0 : 0 < n) (h1 : n < 9223372036854775808) : FNum (FloatKind.f64.nearest n) 12 := by
  have e : FloatKind.f64.nearest n = Ieee.double.nearest false n.natAbs 0 := by
    unfold FloatKind.nearest FloatKind.encode
    have : decide (n < 0) = false := decide_eq_false (by omega)
    rw [this]; rfl
  rw [e]
  refine near_num (e := 10) ?_ (by decide) (by decide)
  have : n.natAbs.log2 < 63 := (Nat.log2_lt (by omega)).2 (by omega)
  omega
theorem root_start {n : Int} (h0 : 0 < n) (h1 : n < 9223372036854775808) : ∃ r z, Ieee.double.sqrt (FloatKind.f64.nearest n) = some r ∧ (FloatKind.f64.decode r).toInt .zero = some z ∧ 0 ≤ z ∧ z ≤ 9007199254740992 := by
  obtain ⟨r, h2, h3⟩ := sqrt_num (float_num h0 h1)
  obtain ⟨z, h4, h5, h6⟩ := whole_num h3
  exact ⟨r, z, h2, h4, h5, h6⟩
end Sg
end Go.Vm
