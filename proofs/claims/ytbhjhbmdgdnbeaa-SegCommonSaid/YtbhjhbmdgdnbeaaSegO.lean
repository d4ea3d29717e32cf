/-
  Layer 7: the laws SegCross and SegOrder.
-/
import Derived.Test.YtbhjhbmdgdnbeaaSegN
namespace Go.Vm
namespace Sg
open Go Go.RowKit Go.Proofs

theorem cross_two {s t : Seg} (hs : validS s = true) (ht : validS t = true) : rmeetI s t = 2 ↔ crossB s t = true := by
  refine ⟨fun h => (rmeet_two h).2.2, fun h => ?_⟩
  have hd := cross_dir hs ht h
  have key : ∀ A B D, Lines s t A B D → rmeetI s t = 2 := fun A B D L => by
    obtain ⟨e1, e2, e3, e4⟩ := L.ends hs ht
    have hin := (L.cross hs ht).1 h
    have hn : commonL s t = [] := by
      refine sort_none fun e he => ?_
      obtain ⟨h1, h2, h3⟩ := mem_common.1 he
      rcases h1 with rfl | rfl | rfl | rfl
      · have := e1.1 h3; omega
      · have := e2.1 h3; omega
      · have := e3.1 h2; omega
      · have := e4.1 h2; omega
    rw [rmeetI, if_neg (by simp [hs, ht]), hn, h]
    rfl
  rcases Int.lt_or_gt_of_ne hd with hn | hp
  · exact key _ _ _ (lines_neg hn)
  · exact key _ _ _ (lines_pos hp)
theorem lcross_det (s t : Seg) : Det Try.prog 6 [sD s, sD t] (tbool true) := by
  obtain ⟨m1, m2, m3⟩ := meet_agree s t
  refine det_of_awp TTok mixed Try.func6 rfl rfl [] (Nat.le_of_ble_eq_true rfl) ?_
  refine CallW.mk' awake_det ?_
  refine Split.f ?_
  refine CallW.bool (valid_det s) (fun v1 hv1 => ?_)
  refine Split.mk (fun h1 => ?_) (fun h1 => ?_)
  · have h0 : rmeetI s t = 0 := by rw [rmeetI, if_pos (.inl (by rw [← hv1]; simpa using h1))]
    repeat' first | refine Split.t ?_ | refine CallW.int (vmeet_det s t) (fun k hk => ?_) | refine Fin.bool ?_ | fail
    rw [hk, m1, h0]
    rfl
  repeat' first | refine Split.f ?_ | fail
  refine CallW.bool (valid_det t) (fun v2 hv2 => ?_)
  repeat' first | refine Split.f ?_ | fail
  refine Split.mk (fun h2 => ?_) (fun h2 => ?_)
  · have h0 : rmeetI s t = 0 := by rw [rmeetI, if_pos (.inr (by rw [← hv2]; simpa using h2))]
    repeat' first | refine Split.t ?_ | refine CallW.int (vmeet_det s t) (fun k hk => ?_) | refine Fin.bool ?_ | fail
    rw [hk, m1, h0]
    rfl
  have hs : validS s = true := by rw [← hv1]; simpa using h1
  have ht : validS t = true := by rw [← hv2]; simpa using h2
  have ct := cross_two hs ht
  refine CallW.int (vmeet_det s t) (fun k hk => ?_)
  rw [m1] at hk
  refine CallW.int (side_det s t.a) (fun p1 hp1 => ?_)
  refine CallW.int (side_det s t.b) (fun p2 hp2 => ?_)
  have s1 := side_mul s s t.a t.b
  have s2 := side_mul t t s.a s.b
  rw [← hp1, ← hp2] at s1
  have e : crossB s t = (decide (p1 * p2 < 0) && decide (sideI t s.a * sideI t s.b < 0)) := by rw [crossB, hp1, hp2]
  refine Split.mk (fun h5 => ?_) (fun h5 => ?_)
  · replace h5 : decide (w64 (p1 * p2) < 0) = true := h5
    repeat' first | refine Split.t ?_ | fail
    refine CallW.int (side_det t s.a) (fun q1 hq1 => ?_)
    repeat' first | refine Split.t ?_ | refine Split.isT h5 ?_ | fail
    refine CallW.int (side_det t s.b) (fun q2 hq2 => ?_)
    repeat' first | refine Split.t ?_ | refine Split.isT h5 ?_ | refine Need.mk (by kernel_rfl) ?_ | refine Fin.bool ?_ | fail
    rw [← hq1, ← hq2] at s2
    rw [s1] at h5
    rw [← hq1, ← hq2, h5, Bool.true_and] at e
    rw [show IntKind.i64.wrap (q1 * q2) = q1 * q2 from s2, ← e, beq_iff_eq, Bool.eq_iff_iff, beq_iff_eq, hk]
    exact ct
  · replace h5 : decide (w64 (p1 * p2) < 0) = false := h5
    repeat' first | refine Split.f ?_ | refine Split.isF h5 ?_ | refine Need.mk (by kernel_rfl) ?_ | refine Fin.bool ?_ | fail
    rw [s1] at h5
    rw [h5, Bool.false_and] at e
    rw [beq_iff_eq, Bool.eq_iff_iff, beq_iff_eq, hk, ct, e]
theorem lcross_all : ∀ dvs, TypL Try.prog Try.f6.params.toList dvs → Det Try.prog 6 dvs (tbool true) := by
  intro dvs h
  obtain ⟨v0, r0, rfl, h0, q0⟩ := TypL.inv_cons (t := 25) (ts := [25]) h
  obtain ⟨v1, r1, rfl, h1, q1⟩ := TypL.inv_cons q0
  obtain rfl := TypL.inv_nil q1
  obtain ⟨s, rfl, _⟩ := seg_of h0
  obtain ⟨t, rfl, _⟩ := seg_of h1
  exact lcross_det s t

/-! ### the order of rational points -/
theorem cmpI_neg (a b : Int) : cmpI b a = -cmpI a b := by
  unfold cmpI
  repeat' split
  all_goals omega
theorem cmpI_cases (a b : Int) : (cmpI a b = -1 ↔ a < b) ∧ (cmpI a b = 0 ↔ a = b) ∧ (cmpI a b = 1 ↔ b < a) ∧ (cmpI a b = -1 ∨ cmpI a b = 0 ∨ cmpI a b = 1) := by
  unfold cmpI
  repeat' split
  all_goals omega
theorem cmpP_neg (p q : P3) : cmpP q p = -cmpP p q := by
  unfold cmpP
  by_cases h : nearB p = true ∧ nearB q = true
  · rw [if_pos h, if_pos ⟨h.2, h.1⟩]
    unfold orI cmpQ
    rw [cmpI_neg (p.y * q.d), cmpI_neg (p.x * q.d)]
    repeat' split
    all_goals omega
  · rw [if_neg h, if_neg (fun k => h ⟨k.2, k.1⟩)]
    rfl
theorem valid_gcd {p : P3} (h : validP p = true) : 1 ≤ p.d ∧ Int.gcd (Int.gcd p.x p.y) p.d = 1 := by
  simp only [validP, Bool.and_eq_true, decide_eq_true_eq] at h
  exact ⟨(boundB_iff.1 h.1).1, h.2⟩
theorem dvd_den {p q : P3} (hp : Int.gcd (Int.gcd p.x p.y) p.d = 1) (hx : p.x * q.d = q.x * p.d) (hy : p.y * q.d = q.y * p.d) : p.d ∣ q.d := by
  have h1 : p.d ∣ (Int.gcd (p.x * q.d) (p.y * q.d) : Nat) := Int.dvd_coe_gcd (by rw [hx]; exact Int.dvd_mul_left _ _) (by rw [hy]; exact Int.dvd_mul_left _ _)
  rw [Int.gcd_mul_right] at h1
  have h2 : p.d ∣ (Int.gcd ((Int.gcd p.x p.y : Nat) * q.d : Int) (p.d * q.d) : Nat) := by
    refine Int.dvd_coe_gcd ?_ (Int.dvd_mul_right _ _)
    rw [Int.natCast_mul] at h1
    have : ((q.d.natAbs : Nat) : Int) ∣ q.d := Int.natAbs_dvd.2 (Int.dvd_refl _)
    exact Int.dvd_trans h1 (Int.mul_dvd_mul (Int.dvd_refl _) this)
  rw [Int.gcd_mul_right, hp, Nat.one_mul] at h2
  exact Int.dvd_natAbs.1 h2
theorem same_point {p q : P3} (hp : validP p = true) (hq : validP q = true) (hx : p.x * q.d = q.x * p.d) (hy : p.y * q.d = q.y * p.d) : p = q := by
  obtain ⟨p1, p2⟩ := valid_gcd hp
  obtain ⟨q1, q2⟩ := valid_gcd hq
  have d1 := dvd_den p2 hx hy
  have d2 := dvd_den q2 hx.symm hy.symm
  have e : p.d = q.d := Int.le_antisymm (Int.le_of_dvd (by omega) d1) (Int.le_of_dvd (by omega) d2)
  rw [e] at hx hy
  exact P3.ext (Int.eq_of_mul_eq_mul_right (by omega) hx) (Int.eq_of_mul_eq_mul_right (by omega) hy) e
theorem near_valid {p : P3} (h : nearB p = true) : validP p = true := by
  simp only [nearB, Bool.and_eq_true] at h
  exact h.1
theorem cmpP_zero {p q : P3} (hp : nearB p = true) (hq : nearB q = true) : cmpP p q = 0 ↔ p = q := by
  rw [cmpP, if_pos ⟨hp, hq⟩]
  obtain ⟨y1, y2, y3, y4⟩ := cmpI_cases (p.y * q.d) (q.y * p.d)
  obtain ⟨x1, x2, x3, x4⟩ := cmpI_cases (p.x * q.d) (q.x * p.d)
  unfold orI cmpQ
  constructor
  · intro h
    split at h
    · omega
    · exact same_point (near_valid hp) (near_valid hq) (x2.1 h) (y2.1 (by omega))
  · intro h
    subst h
    split
    · omega
    · exact x2.2 rfl
/-- Fractions by their products. -/
theorem frac_trans {a m b n c k : Int} (hm : 0 < m) (hn : 0 < n) (hk : 0 < k) (h1 : a * n ≤ b * m) (h2 : b * k ≤ c * n) : a * k ≤ c * m ∧ (a * n < b * m ∨ b * k < c * n → a * k < c * m) ∧ (a * k = c * m → a * n = b * m ∧ b * k = c * n) := by
  have k1 : a * n * k ≤ b * m * k := Int.mul_le_mul_of_nonneg_right h1 (by omega)
  have k2 : b * k * m ≤ c * n * m := Int.mul_le_mul_of_nonneg_right h2 (by omega)
  have e1 : a * k * n = a * n * k := by grind
  have e2 : b * m * k = b * k * m := by grind
  have e3 : c * m * n = c * n * m := by grind
  have le : a * k ≤ c * m := Int.le_of_mul_le_mul_right (show a * k * n ≤ c * m * n by omega) hn
  have lt : a * n < b * m ∨ b * k < c * n → a * k < c * m := fun h => by
    refine Int.lt_of_mul_lt_mul_right (show a * k * n < c * m * n from ?_) (Int.le_of_lt hn)
    rcases h with h | h
    · have := Int.mul_lt_mul_of_pos_right h hk
      omega
    · have := Int.mul_lt_mul_of_pos_right h hm
      omega
  exact ⟨le, lt, fun e => by
    refine ⟨Classical.byContradiction fun h => ?_, Classical.byContradiction fun h => ?_⟩
    · have := lt (.inl (by omega)); omega
    · have := lt (.inr (by omega)); omega⟩
theorem cmpP_trans {p q r : P3} (hp : nearB p = true) (hq : nearB q = true) (hr : nearB r = true) (h1 : cmpP p q ≤ 0) (h2 : cmpP q r ≤ 0) : cmpP p r ≤ 0 := by
  have dp := (valid_gcd (near_valid hp)).1
  have dq := (valid_gcd (near_valid hq)).1
  have dr := (valid_gcd (near_valid hr)).1
  rw [cmpP, if_pos ⟨by assumption, by assumption⟩] at *
  obtain ⟨a1, a2, a3, a4⟩ := cmpI_cases (p.y * q.d) (q.y * p.d)
  obtain ⟨b1, b2, b3, b4⟩ := cmpI_cases (p.x * q.d) (q.x * p.d)
  obtain ⟨c1, c2, c3, c4⟩ := cmpI_cases (q.y * r.d) (r.y * q.d)
  obtain ⟨d1, d2, d3, d4⟩ := cmpI_cases (q.x * r.d) (r.x * q.d)
  obtain ⟨e1, e2, e3, e4⟩ := cmpI_cases (p.y * r.d) (r.y * p.d)
  obtain ⟨f1, f2, f3, f4⟩ := cmpI_cases (p.x * r.d) (r.x * p.d)
  unfold orI cmpQ at *
  have hy1 : p.y * q.d ≤ q.y * p.d := by split at h1 <;> omega
  have hy2 : q.y * r.d ≤ r.y * q.d := by split at h2 <;> omega
  obtain ⟨g1, g2, g3⟩ := frac_trans (m := p.d) (n := q.d) (k := r.d) (by omega) (by omega) (by omega) hy1 hy2
  split
  · omega
  · have hz : p.y * r.d = r.y * p.d := by omega
    obtain ⟨z1, z2⟩ := g3 hz
    rw [if_neg (by omega)] at h1 h2
    obtain ⟨l1, _, _⟩ := frac_trans (a := p.x) (b := q.x) (c := r.x) (m := p.d) (n := q.d) (k := r.d) (by omega) (by omega) (by omega) (by omega) (by omega)
    omega
theorem cmpP_whole {p q : P3} (hp : nearB p = true) (hq : nearB q = true) (dp : p.d = 1) (dq : q.d = 1) : cmpP p q = cmpV ⟨p.x, p.y⟩ ⟨q.x, q.y⟩ := by
  rw [cmpP, if_pos ⟨hp, hq⟩, ← orI_cmp]
  unfold cmpQ
  rw [dp, dq]
  simp only [Int.mul_one]
theorem near_of {p : P3} (h : validP p = true) (k : withinV ⟨p.x, p.y⟩ (w64 (2000 * p.d)) = true) : nearB p = true := by
  have hb : boundB p 4000 = true := by simp only [validP, Bool.and_eq_true] at h; exact h.1
  obtain ⟨c1, c2, _⟩ := boundB_iff.1 hb
  have ew : w64 (2000 * p.d) = 2000 * p.d := wid' (by omega) (by omega)
  rw [ew, withinV_iff (by omega) (by omega)] at k
  rw [nearB, h, Bool.true_and, boundB_iff]
  have : -(2000 * p.d) ≤ p.x ∧ p.x ≤ 2000 * p.d ∧ -(2000 * p.d) ≤ p.y ∧ p.y ≤ 2000 * p.d := k
  omega
theorem cmpP_b (p q : P3) : -1 ≤ cmpP p q ∧ cmpP p q ≤ 1 := by
  unfold cmpP orI cmpQ
  have h1 := (cmpI_cases (p.y * q.d) (q.y * p.d)).2.2.2
  have h2 := (cmpI_cases (p.x * q.d) (q.x * p.d)).2.2.2
  repeat' split
  all_goals omega
set_option maxRecDepth 100000 in
theorem lorder_det (p q r : P3) : Det Try.prog 9 [pD p, pD q, pD r] (tbool true) := by
  refine det_of_awp TTok mixed Try.func9 rfl rfl [] (Nat.le_of_ble_eq_true rfl) ?_
  refine CallW.mk' awake_det ?_
  refine Split.f ?_
  refine Loop.unroll 4 ?_
  refine Split.t ?_
  refine Need.mk (by decide) ?_
  refine CallW.bool (validp_det p) (fun b1 hb1 => ?_)
  refine Split.mk (fun k1 => ?_) (fun k1 => ?_)
  · repeat' first | refine Split.t ?_ | refine Need.mk (by kernel_rfl) ?_ | refine Fin.bool ?_ | fail
    rfl
  repeat' first | refine Split.f ?_ | refine Need.mk (by decide) ?_ | fail
  refine CallW.bool (within_det ⟨p.x, p.y⟩ (w64 (2000 * p.d))) (fun c1 hc1 => ?_)
  repeat' first | refine Split.f ?_ | refine Need.mk (by kernel_rfl) ?_ | fail
  refine Split.mk (fun l1 => ?_) (fun l1 => ?_)
  · repeat' first | refine Split.t ?_ | refine Need.mk (by kernel_rfl) ?_ | refine Fin.bool ?_ | fail
    rfl
  have np : nearB p = true := near_of (by rw [← hb1]; simpa using k1) (by rw [← hc1]; simpa using l1)
  refine Split.isT (by decide) ?_
  refine Need.mk (by decide) ?_
  refine CallW.bool (validp_det q) (fun b2 hb2 => ?_)
  refine Split.mk (fun k2 => ?_) (fun k2 => ?_)
  · repeat' first | refine Split.t ?_ | refine Need.mk (by kernel_rfl) ?_ | refine Fin.bool ?_ | fail
    rfl
  repeat' first | refine Split.f ?_ | refine Need.mk (by decide) ?_ | fail
  refine CallW.bool (within_det ⟨q.x, q.y⟩ (w64 (2000 * q.d))) (fun c2 hc2 => ?_)
  repeat' first | refine Split.f ?_ | refine Need.mk (by kernel_rfl) ?_ | fail
  refine Split.mk (fun l2 => ?_) (fun l2 => ?_)
  · repeat' first | refine Split.t ?_ | refine Need.mk (by kernel_rfl) ?_ | refine Fin.bool ?_ | fail
    rfl
  have nq : nearB q = true := near_of (by rw [← hb2]; simpa using k2) (by rw [← hc2]; simpa using l2)
  refine Split.isT (by decide) ?_
  refine Need.mk (by decide) ?_
  refine CallW.bool (validp_det r) (fun b3 hb3 => ?_)
  refine Split.mk (fun k3 => ?_) (fun k3 => ?_)
  · repeat' first | refine Split.t ?_ | refine Need.mk (by kernel_rfl) ?_ | refine Fin.bool ?_ | fail
    rfl
  repeat' first | refine Split.f ?_ | refine Need.mk (by decide) ?_ | fail
  refine CallW.bool (within_det ⟨r.x, r.y⟩ (w64 (2000 * r.d))) (fun c3 hc3 => ?_)
  repeat' first | refine Split.f ?_ | refine Need.mk (by kernel_rfl) ?_ | fail
  refine Split.mk (fun l3 => ?_) (fun l3 => ?_)
  · repeat' first | refine Split.t ?_ | refine Need.mk (by kernel_rfl) ?_ | refine Fin.bool ?_ | fail
    rfl
  have nr : nearB r = true := near_of (by rw [← hb3]; simpa using k3) (by rw [← hc3]; simpa using l3)
  refine Split.isF (by decide) ?_
  have hb := cmpP_b p q
  refine CallW.int (cmpp_det p q) (fun x hx => ?_)
  refine CallW.int (cmpp_det q r) (fun y hy => ?_)
  refine Need.mk (by kernel_rfl) ?_
  refine CallW.int (cmpp_det q p) (fun z hz => ?_)
  rw [← hx] at hb
  have hxz : z = IntKind.i64.wrap (0 - x) := by
    rw [hz, cmpP_neg p q, ← hx, wid (by omega) (by omega)]
    omega
  have e1 : (z != IntKind.i64.wrap (0 - x)) = false := by rw [hxz]; simp
  repeat' first | refine Split.f ?_ | refine Split.isF e1 ?_ | fail
  refine EqW.p p q (fun e he => ?_)
  have e2 : (!((x == 0) == e)) = false := by
    have := cmpP_zero np nq
    rw [← hx] at this
    have : (x == 0) = e := by rw [Bool.eq_iff_iff, beq_iff_eq, this, he]
    rw [this]
    simp
  repeat' first | refine Need.mk rfl ?_ | refine Split.f ?_ | refine Split.isF e1 ?_ | refine Split.isF e2 ?_ | fail
  refine Split.mk (fun m1 => ?_) (fun m1 => ?_)
  · have m1' := of_decide_eq_true (show decide (x ≤ 0) = true from m1)
    repeat' first | refine Split.t ?_ | refine Split.f ?_ | refine Split.isT m1 ?_ | fail
    refine Split.mk (fun m2 => ?_) (fun m2 => ?_)
    · have m2' := of_decide_eq_true (show decide (y ≤ 0) = true from m2)
      have hpr := cmpP_trans np nq nr (by rw [← hx]; exact m1') (by rw [← hy]; exact m2')
      have e3 : decide (cmpP p r > 0) = false := decide_eq_false (by omega)
      repeat' first | refine Split.t ?_ | refine Split.f ?_ | refine Split.isT m1 ?_ | refine Split.isT m2 ?_ | fail
      refine CallW.int (cmpp_det p r) (fun w hw => ?_)
      rw [← hw] at e3
      repeat' first | refine Split.t ?_ | refine Split.f ?_ | refine Split.isT m1 ?_ | refine Split.isT m2 ?_ | refine Split.isF e1 ?_ | refine Split.isF e2 ?_ | refine Split.isF e3 ?_ | fail
      refine CallW.vecOk (whole_det p) (fun va wa hva hwa => ?_)
      refine CallW.vecOk (whole_det q) (fun vb wb hvb hwb => ?_)
      refine Split.mk (fun o1 => ?_) (fun o1 => ?_)
      · repeat' first | refine Split.t ?_ | refine Fin.bool ?_ | fail
        rfl
      repeat' first | refine Split.f ?_ | fail
      refine Split.mk (fun o2 => ?_) (fun o2 => ?_)
      · repeat' first | refine Split.t ?_ | refine Fin.bool ?_ | fail
        rfl
      have wp : wholeB p = true := by rw [← hwa]; simpa using o1
      have wq : wholeB q = true := by rw [← hwb]; simpa using o2
      rw [if_pos wp] at hva
      rw [if_pos wq] at hvb
      simp only [wholeB, Bool.and_eq_true, decide_eq_true_eq] at wp wq
      repeat' first | refine Split.f ?_ | refine CallW.int (rcmp_det va vb) (fun g hg => ?_) | refine Fin.bool ?_ | fail
      rw [hx, hg, hva, hvb, cmpP_whole np nq wp.2 wq.2]
      exact beq_self_eq_true _
    · repeat' first | refine Split.t ?_ | refine Split.f ?_ | refine Split.isF m2 ?_ | refine Split.isT m1 ?_ | refine Split.isF e1 ?_ | refine Split.isF e2 ?_ | fail
      refine CallW.vecOk (whole_det p) (fun va wa hva hwa => ?_)
      refine CallW.vecOk (whole_det q) (fun vb wb hvb hwb => ?_)
      refine Split.mk (fun o1 => ?_) (fun o1 => ?_)
      · repeat' first | refine Split.t ?_ | refine Fin.bool ?_ | fail
        rfl
      repeat' first | refine Split.f ?_ | fail
      refine Split.mk (fun o2 => ?_) (fun o2 => ?_)
      · repeat' first | refine Split.t ?_ | refine Fin.bool ?_ | fail
        rfl
      have wp : wholeB p = true := by rw [← hwa]; simpa using o1
      have wq : wholeB q = true := by rw [← hwb]; simpa using o2
      rw [if_pos wp] at hva
      rw [if_pos wq] at hvb
      simp only [wholeB, Bool.and_eq_true, decide_eq_true_eq] at wp wq
      repeat' first | refine Split.f ?_ | refine CallW.int (rcmp_det va vb) (fun g hg => ?_) | refine Fin.bool ?_ | fail
      rw [hx, hg, hva, hvb, cmpP_whole np nq wp.2 wq.2]
      exact beq_self_eq_true _
  · repeat' first | refine Split.t ?_ | refine Split.f ?_ | refine Split.isF m1 ?_ | refine Split.isF e1 ?_ | refine Split.isF e2 ?_ | fail
    refine CallW.vecOk (whole_det p) (fun va wa hva hwa => ?_)
    refine CallW.vecOk (whole_det q) (fun vb wb hvb hwb => ?_)
    refine Split.mk (fun o1 => ?_) (fun o1 => ?_)
    · repeat' first | refine Split.t ?_ | refine Fin.bool ?_ | fail
      rfl
    repeat' first | refine Split.f ?_ | fail
    refine Split.mk (fun o2 => ?_) (fun o2 => ?_)
    · repeat' first | refine Split.t ?_ | refine Fin.bool ?_ | fail
      rfl
    have wp : wholeB p = true := by rw [← hwa]; simpa using o1
    have wq : wholeB q = true := by rw [← hwb]; simpa using o2
    rw [if_pos wp] at hva
    rw [if_pos wq] at hvb
    simp only [wholeB, Bool.and_eq_true, decide_eq_true_eq] at wp wq
    repeat' first | refine Split.f ?_ | refine CallW.int (rcmp_det va vb) (fun g hg => ?_) | refine Fin.bool ?_ | fail
    rw [hx, hg, hva, hvb, cmpP_whole np nq wp.2 wq.2]
    exact beq_self_eq_true _
theorem lorder_all : ∀ dvs, TypL Try.prog Try.f9.params.toList dvs → Det Try.prog 9 dvs (tbool true) := by
  intro dvs h
  obtain ⟨v0, r0, rfl, h0, q0⟩ := TypL.inv_cons (t := 28) (ts := [28, 28]) h
  obtain ⟨v1, r1, rfl, h1, q1⟩ := TypL.inv_cons q0
  obtain ⟨v2, r2, rfl, h2, q2⟩ := TypL.inv_cons q1
  obtain rfl := TypL.inv_nil q2
  obtain ⟨p, rfl, _⟩ := point_of h0
  obtain ⟨q, rfl, _⟩ := point_of h1
  obtain ⟨r, rfl, _⟩ := point_of h2
  exact lorder_det p q r
end Sg
end Go.Vm
