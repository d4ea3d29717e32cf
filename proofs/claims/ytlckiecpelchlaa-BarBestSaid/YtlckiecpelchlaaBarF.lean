/-
  Layer 26: how a row's length and scrap grow with the kerf, in plain numbers.
-/
import Derived.Test.YtlckiecpelchlaaBarE
namespace Go.Vm
set_option maxRecDepth 20000
set_option linter.unusedVariables false
set_option linter.unusedSimpArgs false
open Go Go.RowKit Go.Proofs

theorem w64_ex (a : Int) : ∃ t, w64 a = a + 18446744073709551616 * t := by
  rw [w64_def]
  split
  · exact ⟨-(a / 18446744073709551616) - 1, by omega⟩
  · exact ⟨-(a / 18446744073709551616), by omega⟩
theorem w64_eq_of {a b : Int} (ha : R64 a) (h : ∃ t, a = b + 18446744073709551616 * t) : a = w64 b := by
  obtain ⟨t, e⟩ := h
  rw [← w64_id ha]
  exact w64_cong (by omega)
theorem place_k (R : Nat → BP) (kerf k : Int) : ∀ i : Nat, ∃ t, placeI R (kerf + k) i = placeI R kerf i + i * k + 18446744073709551616 * t
  | 0 => ⟨0, by simp [placeI]⟩
  | i + 1 => by
    obtain ⟨t0, e0⟩ := place_k R kerf k i
    simp only [placeI, gapI]
    generalize maxI 0 (w64 ((R i).right + (R (i + 1)).left)) = m
    obtain ⟨t1, e1⟩ := w64_ex (placeI R (kerf + k) i + (R i).len)
    obtain ⟨t2, e2⟩ := w64_ex (kerf + k + m)
    obtain ⟨t3, e3⟩ := w64_ex (w64 (placeI R (kerf + k) i + (R i).len) + w64 (kerf + k + m))
    obtain ⟨s1, f1⟩ := w64_ex (placeI R kerf i + (R i).len)
    obtain ⟨s2, f2⟩ := w64_ex (kerf + m)
    obtain ⟨s3, f3⟩ := w64_ex (w64 (placeI R kerf i + (R i).len) + w64 (kerf + m))
    refine ⟨t0 + t1 + t2 + t3 - s1 - s2 - s3, ?_⟩
    have hk : ((i + 1 : Nat) : Int) * k = i * k + k := by
      rw [show ((i + 1 : Nat) : Int) = (i : Int) + 1 by omega, Int.add_mul, Int.one_mul]
    rw [hk]
    omega
theorem length_R (n : Nat) (R : Nat → BP) (kerf : Int) : R64 (lengthI n R kerf) := by
  unfold lengthI
  split
  · exact ⟨by decide, by decide⟩
  · exact w64_R _
theorem length_k (m : Nat) (R : Nat → BP) (kerf k : Int) : ∃ t, lengthI (m + 1) R (kerf + k) = lengthI (m + 1) R kerf + m * k + 18446744073709551616 * t := by
  obtain ⟨t0, e0⟩ := place_k R kerf k m
  simp only [lengthI, extHi, if_neg (Nat.succ_ne_zero m), Nat.add_sub_cancel]
  generalize maxI 0 (R m).right = q
  obtain ⟨t1, e1⟩ := w64_ex (placeI R (kerf + k) m + (R m).len)
  obtain ⟨t2, e2⟩ := w64_ex (w64 (placeI R (kerf + k) m + (R m).len) + q)
  obtain ⟨s1, f1⟩ := w64_ex (placeI R kerf m + (R m).len)
  obtain ⟨s2, f2⟩ := w64_ex (w64 (placeI R kerf m + (R m).len) + q)
  exact ⟨t0 + t1 + t2 - s1 - s2, by omega⟩
theorem scrap_R (n : Nat) (R : Nat → BP) (kerf : Int) (k : Nat) : R64 (scrapI n R kerf k) := by
  cases k <;> exact w64_R _
theorem scrap_k (m : Nat) (R : Nat → BP) (kerf k : Int) : ∀ i : Nat, ∃ t, scrapI (m + 1) R (kerf + k) i = scrapI (m + 1) R kerf i + 2 * (m * k) + 18446744073709551616 * t
  | 0 => by
    obtain ⟨t0, e0⟩ := length_k m R kerf k
    simp only [scrapI]
    obtain ⟨t1, e1⟩ := w64_ex (2 * lengthI (m + 1) R (kerf + k))
    obtain ⟨s1, f1⟩ := w64_ex (2 * lengthI (m + 1) R kerf)
    exact ⟨2 * t0 + t1 - s1, by omega⟩
  | i + 1 => by
    obtain ⟨t0, e0⟩ := scrap_k m R kerf k i
    simp only [scrapI]
    generalize w64 ((R i).len + topI (R i)) = q
    obtain ⟨t1, e1⟩ := w64_ex (scrapI (m + 1) R (kerf + k) i - q)
    obtain ⟨s1, f1⟩ := w64_ex (scrapI (m + 1) R kerf i - q)
    exact ⟨t0 + t1 - s1, by omega⟩
theorem okFrom_at {R : Nat → BP} : ∀ {m i : Nat}, okFrom R m i = true → ∀ j, j < m → validP (R (i + j)) = true
  | 0, _, _, _, hj => absurd hj (Nat.not_lt_zero _)
  | m + 1, i, h, j, hj => by
    simp only [okFrom, Bool.and_eq_true] at h
    cases j with
    | zero => exact h.1
    | succ j =>
      have := okFrom_at h.2 j (by omega)
      rwa [show i + 1 + j = i + (j + 1) by omega] at this
theorem small_err {n : Nat} {R : Nat → BP} {kerf kerf' : Int} (h : smallB n R kerf = true) (h0 : 0 ≤ kerf') (h1 : kerf' ≤ 100) : errI n R kerf' = 0 := by
  simp only [smallB, Bool.and_eq_true, decide_eq_true_eq] at h
  have hb : badB R n = false := by
    simp only [badB, anyB, decide_eq_false_iff_not]
    intro hh
    obtain ⟨k, hk, hv⟩ := (firstAt_nonneg _ n 0).1 hh
    rw [okFrom_at h.1.1.1 k hk] at hv
    cases hv
  unfold errI
  rw [if_neg (by rw [hb]; simp; omega), if_neg (by omega)]
end Go.Vm
