/-
  Layer 7: contracts of the comparison of rational points.
-/
import Derived.Test.YtbhjhbmdgdnbeaaSegC
namespace Go.Vm
namespace Sg
open Go Go.RowKit Go.Proofs

/-- How a / m and b / n compare. -/
def cmpQ (a m b n : Int) : Int := cmpI (a * n) (b * m)
theorem cmpI_sgn (a b : Int) : sgnI (a - b) = cmpI a b := by
  unfold cmpI sgnI
  repeat' split
  all_goals omega
theorem cmp_floor {a m b n : Int} (hm : 0 < m) (hn : 0 < n) : cmpQ a m b n = if a / m < b / n then -1 else if a / m > b / n then 1 else cmpI (a % m * n) (b % n * m) := by
  have ea : a = m * (a / m) + a % m := (Int.mul_ediv_add_emod a m).symm
  have eb : b = n * (b / n) + b % n := (Int.mul_ediv_add_emod b n).symm
  have r0 := Int.emod_nonneg a (show m ≠ 0 by omega)
  have r1 := Int.emod_lt_of_pos a hm
  have t0 := Int.emod_nonneg b (show n ≠ 0 by omega)
  have t1 := Int.emod_lt_of_pos b hn
  generalize a / m = p at *
  generalize b / n = q at *
  generalize a % m = r at *
  generalize b % n = t at *
  have hM : 0 < m * n := Int.mul_pos hm hn
  have e1 : a * n = m * n * p + r * n := by subst ea; grind
  have e2 : b * m = m * n * q + t * m := by subst eb; grind
  have r2 : r * n < m * n := Int.mul_lt_mul_of_pos_right r1 hn
  have r3 : 0 ≤ r * n := Int.mul_nonneg r0 (by omega)
  have t2 : t * m < m * n := by rw [Int.mul_comm m n]; exact Int.mul_lt_mul_of_pos_right t1 hm
  have t3 : 0 ≤ t * m := Int.mul_nonneg t0 (by omega)
  unfold cmpQ
  rw [e1, e2]
  have key : ∀ x y : Int, x < y → m * n * x + m * n ≤ m * n * y := fun x y h => by
    have := Int.mul_le_mul_of_nonneg_left (show x + 1 ≤ y by omega) (Int.le_of_lt hM)
    rw [Int.mul_add, Int.mul_one] at this
    exact this
  by_cases h : p < q
  · have := key p q h
    rw [if_pos h]
    unfold cmpI
    rw [if_pos (by omega)]
  · rw [if_neg h]
    by_cases h2 : p > q
    · have := key q p h2
      rw [if_pos h2]
      unfold cmpI
      rw [if_neg (by omega), if_pos (by omega)]
    · rw [if_neg h2]
      have e : p = q := by omega
      subst e
      unfold cmpI
      repeat' split
      all_goals omega
theorem floor_eq {a m : Int} (hm : 0 < m) : (a.tmod m < 0 → a.tdiv m - 1 = a / m ∧ a.tmod m + m = a % m) ∧ (¬ a.tmod m < 0 → a.tdiv m = a / m ∧ a.tmod m = a % m) := by
  have e := Int.mul_tdiv_add_tmod a m
  have l := tmod_lt (a := a) (show m ≠ 0 by omega)
  refine ⟨fun h => ?_, fun h => ?_⟩
  · have := (Int.ediv_emod_unique (a := a) (b := m) (q := a.tdiv m - 1) (r := a.tmod m + m) hm).2 ⟨by rw [Int.mul_sub]; omega, by omega, by omega⟩
    exact ⟨this.1.symm, this.2.symm⟩
  · have := (Int.ediv_emod_unique (a := a) (b := m) (q := a.tdiv m) (r := a.tmod m) hm).2 ⟨by omega, by omega, by omega⟩
    exact ⟨this.1.symm, this.2.symm⟩
/-- A fraction that is near. -/
structure Fr (a m : Int) : Prop where
  m1 : 1 ≤ m
  m2 : m ≤ 134217728
  a1 : -(2000 * m) ≤ a
  a2 : a ≤ 2000 * m
theorem Fr.div {a m : Int} (h : Fr a m) : -2000 ≤ a / m ∧ a / m ≤ 2000 ∧ 0 ≤ a % m ∧ a % m < m ∧ -2001 ≤ a.tdiv m ∧ a.tdiv m ≤ 2001 := by
  obtain ⟨h1, h2, h3, h4⟩ := h
  have r0 := Int.emod_nonneg a (show m ≠ 0 by omega)
  have r1 := Int.emod_lt_of_pos a (show 0 < m by omega)
  have q1 : -2000 ≤ a / m := by
    rw [Int.le_ediv_iff_mul_le (by omega)]
    omega
  have q2 : a / m ≤ 2000 := by
    have := Int.ediv_lt_of_lt_mul (a := a) (b := 2001) (c := m) (by omega) (by omega)
    omega
  have f := floor_eq (a := a) (m := m) (by omega)
  refine ⟨q1, q2, r0, r1, ?_, ?_⟩
  · by_cases h : a.tmod m < 0
    · have := f.1 h; omega
    · have := f.2 h; omega
  · by_cases h : a.tmod m < 0
    · have := f.1 h; omega
    · have := f.2 h; omega
theorem mul_b {x y X Y : Int} (hx : 0 ≤ x ∧ x ≤ X) (hy : 0 ≤ y ∧ y ≤ Y) : 0 ≤ x * y ∧ x * y ≤ X * Y := by
  refine ⟨Int.mul_nonneg hx.1 hy.1, Int.mul_le_mul hx.2 hy.2 hy.1 (by omega)⟩
theorem rest_eq {a m : Int} (h : Fr a m) : w64 (a - w64 (a / m * m)) = a % m := by
  have e : a / m * m = a - a % m := by
    have := Int.mul_ediv_add_emod a m
    rw [Int.mul_comm]
    omega
  obtain ⟨_, _, r0, r1, _⟩ := h.div
  obtain ⟨h1, h2, h3, h4⟩ := h
  rw [e, wid' (n := a - a % m) (by omega) (by omega)]
  rw [wid' (by omega) (by omega)]
  omega

theorem compare_det (a m b n : Int) (ha : Fr a m) (hb : Fr b n) : Det Try.prog 52 [.one (i64 a), .one (i64 m), .one (i64 b), .one (i64 n)] (tint (cmpQ a m b n)) := by
  obtain ⟨da1, da2, da3, da4, da5, da6⟩ := ha.div
  obtain ⟨db1, db2, db3, db4, db5, db6⟩ := hb.div
  have ra := rest_eq ha
  have rb := rest_eq hb
  have hm := ha.m1
  have hn := hb.m1
  have hm2 := ha.m2
  have hn2 := hb.m2
  have fa := floor_eq (a := a) (m := m) (by omega)
  have fb := floor_eq (a := b) (m := n) (by omega)
  have ba := mul_b (x := a % m) (y := n) (X := 134217728) (Y := 134217728) (by omega) (by omega)
  have bb := mul_b (x := b % n) (y := m) (X := 134217728) (Y := 134217728) (by omega) (by omega)
  have ea : a.tmod m < 0 → w64 (w64 (a.tdiv m) - 1) = a / m := fun h => by
    rw [wid' (n := a.tdiv m) (by omega) (by omega), wid' (by omega) (by omega), (fa.1 h).1]
  have ea' : ¬ a.tmod m < 0 → w64 (a.tdiv m) = a / m := fun h => by
    rw [wid' (by omega) (by omega), (fa.2 h).1]
  have eb : b.tmod n < 0 → w64 (w64 (b.tdiv n) - 1) = b / n := fun h => by
    rw [wid' (n := b.tdiv n) (by omega) (by omega), wid' (by omega) (by omega), (fb.1 h).1]
  have eb' : ¬ b.tmod n < 0 → w64 (b.tdiv n) = b / n := fun h => by
    rw [wid' (by omega) (by omega), (fb.2 h).1]
  have fin : ∀ p q : Int, p = a / m → q = b / n → orI (cmpI p q) (cmpI (w64 (w64 (a - w64 (p * m)) * n)) (w64 (w64 (b - w64 (q * n)) * m))) = cmpQ a m b n := fun p q hp hq => by
    subst hp hq
    rw [ra, rb, wid' (n := a % m * n) (by omega) (by omega), wid' (n := b % n * m) (by omega) (by omega), cmp_floor (by omega) (by omega)]
    unfold orI
    by_cases h1 : a / m < b / n
    · rw [if_pos h1, cmpI, if_pos h1]; simp
    · rw [if_neg h1]
      by_cases h2 : a / m > b / n
      · rw [if_pos h2, cmpI, if_neg h1, if_pos h2]; simp
      · rw [if_neg h2, if_neg]
        rw [cmpI, if_neg h1, if_neg h2]; simp
  refine det_of_awp TTok mixed Try.func52 rfl rfl [] (Nat.le_of_ble_eq_true rfl) ?_
  refine Need.mk (by omega) ?_
  refine Need.mk (by omega) ?_
  refine Need.mk (by kernel_rfl) ?_
  refine Need.mk (by omega) ?_
  refine Split.mk (fun h1 => ?_) (fun h1 => ?_)
  · replace h1 := of_decide_eq_true (show decide (a.tmod m < 0) = true from h1)
    refine Need.mk (by omega) ?_
    refine Split.mk (fun h2 => ?_) (fun h2 => ?_)
    · replace h2 := of_decide_eq_true (show decide (b.tmod n < 0) = true from h2)
      repeat' first | refine CallW.int (cmp_det _ _) (fun _ _ => ?_) | refine CallW.int (or_det _ _ _ rfl rfl) (fun _ _ => ?_) | refine Need.mk (by kernel_rfl) ?_ | refine Fin.int ?_ | fail
      subst_vars
      exact fin _ _ (ea h1) (eb h2)
    · replace h2 := of_decide_eq_false (show decide (b.tmod n < 0) = false from h2)
      repeat' first | refine CallW.int (cmp_det _ _) (fun _ _ => ?_) | refine CallW.int (or_det _ _ _ rfl rfl) (fun _ _ => ?_) | refine Need.mk (by kernel_rfl) ?_ | refine Fin.int ?_ | fail
      subst_vars
      exact fin _ _ (ea h1) (eb' h2)
  · replace h1 := of_decide_eq_false (show decide (a.tmod m < 0) = false from h1)
    refine Need.mk (by omega) ?_
    refine Split.mk (fun h2 => ?_) (fun h2 => ?_)
    · replace h2 := of_decide_eq_true (show decide (b.tmod n < 0) = true from h2)
      repeat' first | refine CallW.int (cmp_det _ _) (fun _ _ => ?_) | refine CallW.int (or_det _ _ _ rfl rfl) (fun _ _ => ?_) | refine Need.mk (by kernel_rfl) ?_ | refine Fin.int ?_ | fail
      subst_vars
      exact fin _ _ (ea' h1) (eb h2)
    · replace h2 := of_decide_eq_false (show decide (b.tmod n < 0) = false from h2)
      repeat' first | refine CallW.int (cmp_det _ _) (fun _ _ => ?_) | refine CallW.int (or_det _ _ _ rfl rfl) (fun _ _ => ?_) | refine Need.mk (by kernel_rfl) ?_ | refine Fin.int ?_ | fail
      subst_vars
      exact fin _ _ (ea' h1) (eb' h2)
abbrev twoT (a b : Int) : TV := .tup [.one (i64 a), .one (i64 b)]
theorem CallW.tup2 {P : Program} {f : FuncId} {args : List DV} {K : TV → Prop} {a b : Int} (h : Det P f args (twoT a b)) (kk : ∀ x y, x = a → y = b → K (twoT x y)) : CallW P f args K := ⟨_, h, kk _ _ rfl rfl⟩
theorem floor_det (a m : Int) (ha : Fr a m) : Det Try.prog 64 [.one (i64 a), .one (i64 m)] (twoT (a / m) (a % m)) := by
  obtain ⟨da1, da2, da3, da4, da5, da6⟩ := ha.div
  have hm := ha.m1
  have hm2 := ha.m2
  have fa := floor_eq (a := a) (m := m) (by omega)
  refine det_of_awp TTok mixed Try.func64 rfl rfl [] (Nat.le_of_ble_eq_true rfl) ?_
  refine Need.mk (by omega) ?_
  refine Need.mk (by omega) ?_
  refine Need.mk (by kernel_rfl) ?_
  refine Split.mk (fun h1 => ?_) (fun h1 => ?_)
  · replace h1 := of_decide_eq_true (show decide (a.tmod m < 0) = true from h1)
    refine Fin.eq ?_
    show twoT (w64 (w64 (a.tdiv m) - 1)) (w64 (a.tmod m + m)) = _
    rw [wid' (n := a.tdiv m) (by omega) (by omega), wid' (by omega) (by omega), (fa.1 h1).1, (fa.1 h1).2, wid' (by omega) (by omega)]
  · replace h1 := of_decide_eq_false (show decide (a.tmod m < 0) = false from h1)
    refine Fin.eq ?_
    show twoT (w64 (a.tdiv m)) (a.tmod m) = _
    rw [wid' (n := a.tdiv m) (by omega) (by omega), (fa.2 h1).1, (fa.2 h1).2]
theorem rcompare_det (a m b n : Int) (ha : Fr a m) (hb : Fr b n) : Det Try.prog 54 [.one (i64 a), .one (i64 m), .one (i64 b), .one (i64 n)] (tint (cmpQ a m b n)) := by
  obtain ⟨da1, da2, da3, da4, da5, da6⟩ := ha.div
  obtain ⟨db1, db2, db3, db4, db5, db6⟩ := hb.div
  have hm := ha.m1
  have hn := hb.m1
  have hm2 := ha.m2
  have hn2 := hb.m2
  have ba := mul_b (x := a % m) (y := n) (X := 134217728) (Y := 134217728) (by omega) (by omega)
  have bb := mul_b (x := b % n) (y := m) (X := 134217728) (Y := 134217728) (by omega) (by omega)
  refine det_of_awp TTok mixed Try.func54 rfl rfl [] (Nat.le_of_ble_eq_true rfl) ?_
  refine CallW.tup2 (floor_det a m ha) (fun p r hp hr => ?_)
  refine CallW.tup2 (floor_det b n hb) (fun q t hq ht => ?_)
  rw [cmp_floor (by omega) (by omega), ← hp, ← hq, ← hr, ← ht]
  rw [← hp] at da1 da2
  rw [← hq] at db1 db2
  rw [← hr] at ba
  rw [← ht] at bb
  refine Split.mk (fun h1 => ?_) (fun h1 => ?_)
  · have hne : p ≠ q := by simpa using h1
    refine CallW.int (sign_det _) (fun s hs => ?_)
    refine Fin.int ?_
    rw [hs, show IntKind.i64.wrap (p - q) = p - q from w64_id ⟨by omega, by omega⟩, cmpI_sgn]
    unfold cmpI
    split
    · rfl
    · rw [if_pos (by omega), if_pos (by omega)]
  · have he : p = q := by simpa using h1
    refine CallW.int (sign_det _) (fun s hs => ?_)
    refine Fin.int ?_
    rw [if_neg (by omega), if_neg (by omega), hs, ← cmpI_sgn]
    congr 1
    show w64 (w64 (r * n) - w64 (t * m)) = _
    rw [wid' (n := r * n) (by omega) (by omega), wid' (n := t * m) (by omega) (by omega), wid' (by omega) (by omega)]

def nearB (p : P3) : Bool := validP p && boundB p 2000
def cmpP (p q : P3) : Int := if nearB p = true ∧ nearB q = true then orI (cmpQ p.y p.d q.y q.d) (cmpQ p.x p.d q.x q.d) else 0
theorem near_fr {p : P3} (h : nearB p = true) : Fr p.x p.d ∧ Fr p.y p.d := by
  simp only [nearB, Bool.and_eq_true] at h
  obtain ⟨h1, h2, h3, h4, h5, h6⟩ := boundB_iff.1 h.2
  exact ⟨⟨h1, h2, h3, h4⟩, ⟨h1, h2, h5, h6⟩⟩
theorem cmpp_det (p q : P3) : Det Try.prog 33 [pD p, pD q] (tint (cmpP p q)) := by
  refine det_of_awp TTok mixed Try.func33 rfl rfl [] (Nat.le_of_ble_eq_true rfl) ?_
  have hf : ¬ (nearB p = true ∧ nearB q = true) → cmpP p q = 0 := fun h => by rw [cmpP, if_neg h]
  refine CallW.bool (validp_det p) (fun b1 h1 => ?_)
  refine Split.mk (fun k1 => ?_) (fun k1 => ?_)
  · repeat' first | refine Split.t ?_ | refine Fin.int ?_ | fail
    rw [hf]
    rintro ⟨h, _⟩
    simp only [nearB, ← h1, Bool.and_eq_true] at h
    rw [h.1] at k1
    cases k1
  repeat' first | refine Split.f ?_ | fail
  refine CallW.bool (validp_det q) (fun b2 h2 => ?_)
  repeat' first | refine Split.f ?_ | fail
  refine Split.mk (fun k2 => ?_) (fun k2 => ?_)
  · repeat' first | refine Split.t ?_ | refine Fin.int ?_ | fail
    rw [hf]
    rintro ⟨_, h⟩
    simp only [nearB, ← h2, Bool.and_eq_true] at h
    rw [h.1] at k2
    cases k2
  repeat' first | refine Split.f ?_ | fail
  refine CallW.bool (bounded_det p 2000 (by decide) (by decide)) (fun b3 h3 => ?_)
  repeat' first | refine Split.f ?_ | fail
  refine Split.mk (fun k3 => ?_) (fun k3 => ?_)
  · repeat' first | refine Split.t ?_ | refine Fin.int ?_ | fail
    rw [hf]
    rintro ⟨h, _⟩
    simp only [nearB, ← h3, Bool.and_eq_true] at h
    rw [h.2] at k3
    cases k3
  repeat' first | refine Split.f ?_ | fail
  refine CallW.bool (bounded_det q 2000 (by decide) (by decide)) (fun b4 h4 => ?_)
  repeat' first | refine Split.f ?_ | fail
  refine Split.mk (fun k4 => ?_) (fun k4 => ?_)
  · repeat' first | refine Split.t ?_ | refine Fin.int ?_ | fail
    rw [hf]
    rintro ⟨_, h⟩
    simp only [nearB, ← h4, Bool.and_eq_true] at h
    rw [h.2] at k4
    cases k4
  have np : nearB p = true := by
    rw [nearB, ← h1, ← h3]
    simp at k1 k3
    rw [k1, k3]; rfl
  have nq : nearB q = true := by
    rw [nearB, ← h2, ← h4]
    simp at k2 k4
    rw [k2, k4]; rfl
  obtain ⟨fx, fy⟩ := near_fr np
  obtain ⟨gx, gy⟩ := near_fr nq
  refine CallW.int (compare_det p.y p.d q.y q.d fy gy) (fun c hc => ?_)
  refine CallW.int (compare_det p.x p.d q.x q.d fx gx) (fun e he => ?_)
  refine CallW.int (or_det c e _ rfl rfl) (fun r hr => ?_)
  refine Need.mk (by kernel_rfl) ?_
  refine Fin.int ?_
  rw [cmpP, if_pos ⟨np, nq⟩, hr, hc, he]
theorem near_det (p : P3) : Det Try.prog 53 [pD p] (tbool (nearB p)) := by
  refine det_of_awp TTok mixed Try.func53 rfl rfl [] (Nat.le_of_ble_eq_true rfl) ?_
  refine CallW.bool (rvalidp_det p) (fun b1 h1 => ?_)
  refine Split.mk (fun k1 => ?_) (fun k1 => ?_)
  · subst k1
    have hv : validP p = true := h1.symm
    have hb : boundB p 4000 = true := by simp only [validP, Bool.and_eq_true] at hv; exact hv.1
    obtain ⟨c1, c2, _⟩ := boundB_iff.1 hb
    have ew : w64 (2000 * p.d) = 2000 * p.d := wid' (by omega) (by omega)
    repeat' first | refine Split.t ?_ | refine Need.mk (by kernel_rfl) ?_ | refine CallW.bool (within_det ⟨p.x, p.y⟩ (w64 (2000 * p.d))) (fun b2 h2 => ?_) | refine Fin.bool ?_ | fail
    rw [h2, nearB, hv, Bool.true_and, Bool.eq_iff_iff, ew, withinV_iff (by omega) (by omega), boundB_iff]
    show -(2000 * p.d) ≤ p.x ∧ p.x ≤ 2000 * p.d ∧ -(2000 * p.d) ≤ p.y ∧ p.y ≤ 2000 * p.d ↔ _
    omega
  · subst k1
    repeat' first | refine Split.f ?_ | refine Need.mk (by kernel_rfl) ?_ | refine Fin.bool ?_ | fail
    rw [nearB, ← h1]
    rfl
theorem rcmpp_det (p q : P3) : Det Try.prog 34 [pD p, pD q] (tint (cmpP p q)) := by
  refine det_of_awp TTok mixed Try.func34 rfl rfl [] (Nat.le_of_ble_eq_true rfl) ?_
  have hf : ¬ (nearB p = true ∧ nearB q = true) → cmpP p q = 0 := fun h => by rw [cmpP, if_neg h]
  refine CallW.bool (near_det p) (fun b1 h1 => ?_)
  refine Split.mk (fun k1 => ?_) (fun k1 => ?_)
  · repeat' first | refine Split.t ?_ | refine Fin.int ?_ | fail
    rw [hf]
    rintro ⟨h, _⟩
    rw [h1, h] at k1
    cases k1
  repeat' first | refine Split.f ?_ | fail
  refine CallW.bool (near_det q) (fun b2 h2 => ?_)
  repeat' first | refine Split.f ?_ | fail
  refine Split.mk (fun k2 => ?_) (fun k2 => ?_)
  · repeat' first | refine Split.t ?_ | refine Fin.int ?_ | fail
    rw [hf]
    rintro ⟨_, h⟩
    rw [h2, h] at k2
    cases k2
  have np : nearB p = true := by
    rw [← h1]
    simpa using k1
  have nq : nearB q = true := by
    rw [← h2]
    simpa using k2
  obtain ⟨fx, fy⟩ := near_fr np
  obtain ⟨gx, gy⟩ := near_fr nq
  refine CallW.int (rcompare_det p.y p.d q.y q.d fy gy) (fun c hc => ?_)
  rw [cmpP, if_pos ⟨np, nq⟩, ← hc]
  refine Split.mk (fun k3 => ?_) (fun k3 => ?_)
  · have : c ≠ 0 := by simpa using k3
    refine Fin.int ?_
    rw [orI, if_pos this]
  · have : c = 0 := by simpa using k3
    refine CallW.int (rcompare_det p.x p.d q.x q.d fx gx) (fun e he => ?_)
    refine Fin.int ?_
    rw [orI, if_neg (by omega), he]
end Sg
end Go.Vm
