/-
  Layer 11, plain: chains of points; that a chain stays near the circle.
-/
import Derived.Test.YtlckiecpelchlaaArcA
namespace Go.Vm
set_option maxRecDepth 20000
set_option linter.unusedVariables false
set_option linter.unusedSimpArgs false
open Go Go.RowKit Go.Proofs
namespace Sg

/-! ### between two points -/
def difP (a b : V2) : V2 := ⟨a.x - b.x, a.y - b.y⟩
def flatB (r t : Int) (p q : V2) : Bool := decide (isq (65536 * r) + 1 - 256 * t ≤ isq (65536 * crossP p q * crossP p q / dotP (difP p q) (difP p q)))
def btwF (r t : Int) : Nat → V2 → V2 → List V2
  | 0, _, _ => []
  | k + 1, p, q => if flatB r t p q = true then [] else if midV r p q = p ∨ midV r p q = q then [] else btwF r t k p (midV r p q) ++ midV r p q :: btwF r t k (midV r p q) q
def btw (r t : Int) (p q : V2) : List V2 := btwF r t (mu p q + 1) p q
theorem btw_stable (r t : Int) (n : Nat) : ∀ (p q : V2), Good r p q → mu p q < n → ∀ k k', mu p q < k → mu p q < k' → btwF r t k p q = btwF r t k' p q := by
  induction n with
  | zero => intro p q _ h; exact absurd h (Nat.not_lt_zero _)
  | succ n ih =>
    intro p q hg hn k k' hk hk'
    cases k with
    | zero => exact absurd hk (Nat.not_lt_zero _)
    | succ k =>
      cases k' with
      | zero => exact absurd hk' (Nat.not_lt_zero _)
      | succ k' =>
        simp only [btwF]
        split
        · rfl
        split
        · rfl
        · rename_i h1 h2
          have h3 : midV r p q ≠ p := fun w => h2 (.inl w)
          have h4 : midV r p q ≠ q := fun w => h2 (.inr w)
          obtain ⟨g1, g2⟩ := mid_good hg h3 h4
          obtain ⟨m1, m2⟩ := mu_lt hg h3 h4
          rw [ih p _ g1 (by omega) k k' (by omega) (by omega), ih _ q g2 (by omega) k k' (by omega) (by omega)]
theorem btw_eq {r : Int} (t : Int) {p q : V2} (h : Good r p q) : btw r t p q = if flatB r t p q = true then [] else if midV r p q = p ∨ midV r p q = q then [] else btw r t p (midV r p q) ++ midV r p q :: btw r t (midV r p q) q := by
  rw [btw, btwF]
  split
  · rfl
  split
  · rfl
  · rename_i h1 h2
    have h3 : midV r p q ≠ p := fun w => h2 (.inl w)
    have h4 : midV r p q ≠ q := fun w => h2 (.inr w)
    obtain ⟨g1, g2⟩ := mid_good h h3 h4
    obtain ⟨m1, m2⟩ := mu_lt h h3 h4
    rw [btw, btw, btw_stable r t _ p _ g1 (Nat.lt_succ_self _) (mu p q) _ m1 (Nat.lt_succ_self _), btw_stable r t _ _ q g2 (Nat.lt_succ_self _) (mu p q) _ m2 (Nat.lt_succ_self _)]
/-- Two points next to each other on a chain. -/
structure Leaf (r t : Int) (p q : V2) : Prop where
  good : Good r p q
  leaf : flatB r t p q = true ∨ midV r p q = p ∨ midV r p q = q
/-- All neighbours. -/
def Nbs (R : V2 → V2 → Prop) : List V2 → Prop
  | [] => True
  | p :: l => (match l with
    | [] => True
    | q :: _ => R p q) ∧ Nbs R l
theorem nbs_app {R : V2 → V2 → Prop} : ∀ {l l' : List V2} {m : V2}, Nbs R (l ++ [m]) → Nbs R (m :: l') → Nbs R (l ++ m :: l')
  | [], l', m, _, h => h
  | p :: l, l', m, h1, h2 => by
    have ih := nbs_app (l := l) h1.2 h2
    cases l with
    | nil => exact ⟨h1.1, ih⟩
    | cons q l => exact ⟨h1.1, ih⟩
theorem btw_nbs {r t : Int} (n : Nat) : ∀ (p q : V2), Good r p q → mu p q < n → Nbs (Leaf r t) (p :: btw r t p q ++ [q]) := by
  induction n with
  | zero => intro p q _ h; exact absurd h (Nat.not_lt_zero _)
  | succ n ih =>
    intro p q hg hn
    rw [btw_eq t hg]
    split
    · rename_i h1; exact ⟨⟨hg, .inl h1⟩, trivial, trivial⟩
    split
    · rename_i h1 h2; exact ⟨⟨hg, .inr h2⟩, trivial, trivial⟩
    · rename_i h1 h2
      have h3 : midV r p q ≠ p := fun w => h2 (.inl w)
      have h4 : midV r p q ≠ q := fun w => h2 (.inr w)
      obtain ⟨g1, g2⟩ := mid_good hg h3 h4
      obtain ⟨m1, m2⟩ := mu_lt hg h3 h4
      have a := ih p _ g1 (by omega)
      have b := ih _ q g2 (by omega)
      have := nbs_app (l := p :: btw r t p (midV r p q)) a b
      simpa using this
theorem nbs_near {r t : Int} : ∀ {l : List V2}, Nbs (Leaf r t) l → 2 ≤ l.length → ∀ v, v ∈ l → Nr r v
  | [], _, h, _, _ => absurd h (by decide)
  | [_], _, h, _, _ => absurd h (by simp)
  | p :: q :: l, h, _, v, hv => by
    rcases List.mem_cons.1 hv with rfl | hv
    · exact h.1.good.np
    · cases l with
      | nil =>
        rcases List.mem_cons.1 hv with rfl | hv
        · exact h.1.good.nq
        · cases hv
      | cons s l => exact nbs_near (l := q :: s :: l) h.2 (by simp) v hv
/-- A coarser chain's points are points of the finer one. -/
theorem btw_sub {r t t' : Int} (ht : t ≤ t') (n : Nat) : ∀ (p q : V2), Good r p q → mu p q < n → (btw r t' p q).Sublist (btw r t p q) := by
  induction n with
  | zero => intro p q _ h; exact absurd h (Nat.not_lt_zero _)
  | succ n ih =>
    intro p q hg hn
    rw [btw_eq t hg, btw_eq t' hg]
    by_cases h1 : flatB r t' p q = true
    · rw [if_pos h1]; exact List.nil_sublist _
    have h1' : ¬ flatB r t p q = true := fun w => h1 (by
      unfold flatB at w ⊢
      simp only [decide_eq_true_eq] at w ⊢
      omega)
    rw [if_neg h1, if_neg h1']
    by_cases h2 : midV r p q = p ∨ midV r p q = q
    · rw [if_pos h2, if_pos h2]; exact List.Sublist.refl _
    rw [if_neg h2, if_neg h2]
    have h3 : midV r p q ≠ p := fun w => h2 (.inl w)
    have h4 : midV r p q ≠ q := fun w => h2 (.inr w)
    obtain ⟨g1, g2⟩ := mid_good hg h3 h4
    obtain ⟨m1, m2⟩ := mu_lt hg h3 h4
    exact (ih p _ g1 (by omega)).append ((ih _ q g2 (by omega)).cons_cons _)
/-! ### the whole chain -/
def farB (p q : V2) : Bool := decide (crossP p q ≤ 0) || decide (dotP p q < 0)
def chnF (r t : Int) : Nat → V2 → V2 → List V2
  | 0, p, q => btw r t p q ++ [q]
  | k + 1, p, q => if farB p q = true then btw r t p (rotV p) ++ rotV p :: chnF r t k (rotV p) q else btw r t p q ++ [q]
def chainL (r t : Int) (p q : V2) : List V2 := p :: chnF r t 3 p q
def rotN : Nat → V2 → V2
  | 0, p => p
  | k + 1, p => rotN k (rotV p)
structure OnC (r : Int) (p : V2) : Prop where
  r0 : 0 < r
  r1 : r ≤ 4000000
  on : dotP p p = r
theorem OnC.rot {r : Int} {p : V2} (h : OnC r p) : OnC r (rotV p) := ⟨h.r0, h.r1, by rw [rot_dot]; exact h.on⟩
theorem OnC.nr {r : Int} {p : V2} (h : OnC r p) : Nr r p := by
  have h1 := absZ_nonneg p.x
  have h2 := absZ_nonneg p.y
  have h3 : 0 < absZ p.x + absZ p.y := by
    refine Int.not_le.1 fun w => ?_
    have e1 : absZ p.x = 0 := by omega
    have e2 : absZ p.y = 0 := by omega
    have := h.on
    simp only [dotP] at this
    rw [← absZ_sq p.x, ← absZ_sq p.y, e1, e2] at this
    have := h.r0
    omega
  exact ⟨by rw [h.on]; omega, by rw [h.on]; omega⟩
theorem good_quarter {r : Int} {p : V2} (h : OnC r p) : Good r p (rotV p) := by
  have e1 : crossP p (rotV p) = dotP p p := by simp only [crossP, dotP, rotV]; grind
  have e2 : dotP p (rotV p) = 0 := by simp only [dotP, rotV]; grind
  exact ⟨h.r0, h.r1, h.nr, h.rot.nr, by rw [e1, h.on]; exact h.r0, by rw [e2]; exact Int.le_refl _⟩
theorem good_end {r : Int} {p q : V2} (h : OnC r p) (k : OnC r q) (hf : farB p q = false) : Good r p q := by
  simp only [farB, Bool.or_eq_false_iff, decide_eq_false_iff_not] at hf
  exact ⟨h.r0, h.r1, h.nr, k.nr, by omega, by omega⟩
theorem far_rot (p q : V2) : crossP (rotV p) q = -dotP p q ∧ dotP (rotV p) q = crossP p q := by
  simp only [crossP, dotP, rotV]; constructor <;> grind
theorem near_third {r : Int} {p q : V2} (h : OnC r p) (k : OnC r q) (h0 : farB p q = true) (h1 : farB (rotV p) q = true) (h2 : farB (rotV (rotV p)) q = true) : farB (rotV (rotV (rotV p))) q = false := by
  obtain ⟨a1, a2⟩ := far_rot p q
  obtain ⟨b1, b2⟩ := far_rot (rotV p) q
  obtain ⟨c1, c2⟩ := far_rot (rotV (rotV p)) q
  have hne : ¬ (crossP p q = 0 ∧ dotP p q = 0) := fun w => by
    have e : crossP p q * crossP p q + dotP p q * dotP p q = dotP p p * dotP q q := by simp only [crossP, dotP]; grind
    rw [w.1, w.2, h.on, k.on] at e
    have := Int.mul_pos h.r0 h.r0
    omega
  simp only [farB, Bool.or_eq_true, decide_eq_true_eq, Bool.or_eq_false_iff, decide_eq_false_iff_not] at *
  rw [c1, c2, b1, b2, a1, a2]
  rw [a1, a2] at h1
  rw [b1, b2, a1, a2] at h2
  omega
/-- How often a quarter is laid ahead of the last piece. -/
structure Quarters (p q : V2) (k : Nat) : Prop where
  le : k ≤ 3
  far : ∀ j, j < k → farB (rotN j p) q = true
  near : farB (rotN k p) q = false
theorem quarters {r : Int} {p q : V2} (h : OnC r p) (k : OnC r q) : ∃ n, Quarters p q n := by
  cases h0 : farB p q with
  | false => exact ⟨0, by decide, fun j hj => absurd hj (Nat.not_lt_zero _), h0⟩
  | true =>
    cases h1 : farB (rotV p) q with
    | false =>
      refine ⟨1, by decide, fun j hj => ?_, h1⟩
      obtain rfl : j = 0 := by omega
      exact h0
    | true =>
      cases h2 : farB (rotV (rotV p)) q with
      | false =>
        refine ⟨2, by decide, fun j hj => ?_, h2⟩
        match j, hj with
        | 0, _ => exact h0
        | 1, _ => exact h1
      | true =>
        refine ⟨3, by decide, fun j hj => ?_, near_third h k h0 h1 h2⟩
        match j, hj with
        | 0, _ => exact h0
        | 1, _ => exact h1
        | 2, _ => exact h2
theorem Quarters.next {p q : V2} {k : Nat} (h : Quarters p q (k + 1)) : farB p q = true ∧ Quarters (rotV p) q k :=
  ⟨h.far 0 (Nat.succ_pos _), by have := h.le; omega, fun j hj => h.far (j + 1) (by omega), h.near⟩
theorem chnF_nbs {r t : Int} {q : V2} (hq : OnC r q) : ∀ (k n : Nat) (p : V2), OnC r p → Quarters p q k → k ≤ n → Nbs (Leaf r t) (p :: chnF r t n p q)
  | 0, n, p, hp, hk, _ => by
    have hf : farB p q = false := hk.near
    have hg := good_end hp hq hf
    have e : chnF r t n p q = btw r t p q ++ [q] := by
      cases n with
      | zero => rfl
      | succ n => rw [chnF, if_neg (by rw [hf]; simp)]
    rw [e]
    exact btw_nbs _ p q hg (Nat.lt_succ_self _)
  | k + 1, 0, p, hp, hk, hn => absurd hn (by omega)
  | k + 1, n + 1, p, hp, hk, hn => by
    obtain ⟨h1, h2⟩ := hk.next
    rw [chnF, if_pos h1]
    have a := btw_nbs (t := t) _ p _ (good_quarter hp) (Nat.lt_succ_self _)
    have b := chnF_nbs (t := t) hq k n (rotV p) hp.rot h2 (by omega)
    exact nbs_app (l := p :: btw r t p (rotV p)) a b
theorem chain_nbs {r t : Int} {p q : V2} (hp : OnC r p) (hq : OnC r q) : Nbs (Leaf r t) (chainL r t p q) := by
  obtain ⟨k, hk⟩ := quarters hp hq
  exact chnF_nbs hq k 3 p hp hk hk.le
theorem chnF_last (r t : Int) (q : V2) : ∀ (n : Nat) (p : V2), ∃ l, chnF r t n p q = l ++ [q]
  | 0, p => ⟨_, rfl⟩
  | n + 1, p => by
    rw [chnF]
    split
    · obtain ⟨l, e⟩ := chnF_last r t q n (rotV p)
      exact ⟨btw r t p (rotV p) ++ rotV p :: l, by rw [e]; simp⟩
    · exact ⟨_, rfl⟩
theorem chnF_sub {r t t' : Int} (ht : t ≤ t') {q : V2} (hq : OnC r q) : ∀ (k n : Nat) (p : V2), OnC r p → Quarters p q k → k ≤ n → (chnF r t' n p q).Sublist (chnF r t n p q)
  | 0, n, p, hp, hk, _ => by
    have hf : farB p q = false := hk.near
    have hg := good_end hp hq hf
    have e : ∀ t, chnF r t n p q = btw r t p q ++ [q] := fun t => by
      cases n with
      | zero => rfl
      | succ n => rw [chnF, if_neg (by rw [hf]; simp)]
    rw [e, e]
    exact (btw_sub ht _ p q hg (Nat.lt_succ_self _)).append (List.Sublist.refl _)
  | k + 1, 0, p, hp, hk, hn => absurd hn (by omega)
  | k + 1, n + 1, p, hp, hk, hn => by
    obtain ⟨h1, h2⟩ := hk.next
    rw [chnF, chnF, if_pos h1, if_pos h1]
    exact (btw_sub ht _ p _ (good_quarter hp) (Nat.lt_succ_self _)).append ((chnF_sub ht hq k n (rotV p) hp.rot h2 (by omega)).cons_cons _)
theorem chain_sub {r t t' : Int} (ht : t ≤ t') {p q : V2} (hp : OnC r p) (hq : OnC r q) : (chainL r t' p q).Sublist (chainL r t p q) := by
  obtain ⟨k, hk⟩ := quarters hp hq
  exact (chnF_sub ht hq k 3 p hp hk hk.le).cons_cons _
/-! ### the tolerance -/
theorem cross_mid_q1 {r : Int} {p q : V2} (h : Good r p q) (hx : 0 ≤ p.x + q.x) (hy : 0 ≤ p.y + q.y) (hm : midV r p q = p ∨ midV r p q = q) : 4 * (crossP p q * crossP p q) ≤ 2 * dotP (sumP p q) (sumP p q) := by
  obtain ⟨ra, rb⟩ := rnds h hx hy
  have hs := good_sum h
  have d1 := dir_lt hx hy hs ra rb
  have hs' : 0 < (p.y + q.y) * (p.y + q.y) + (p.x + q.x) * (p.x + q.x) := by omega
  have d2 : (2 * (midV r p q).y - 1) * (p.x + q.x) < (2 * (midV r p q).x + 1) * (p.y + q.y) := by
    refine dir_lt (r := r) hy hx hs' ?_ ?_
    · rw [Int.add_comm]; exact rb
    · rw [Int.add_comm]; exact ra
  have hc := h.cr
  have key : 2 * crossP p q ≤ (p.x + q.x) + (p.y + q.y) := by
    rcases hm with hm | hm <;> rw [hm] at d1 d2 <;> simp only [crossP] at hc ⊢ <;> grind
  rw [sum_sq]
  generalize crossP p q = c at *
  generalize p.x + q.x = ux at *
  generalize p.y + q.y = uy at *
  have t1 : 2 * c * (2 * c) ≤ (ux + uy) * (ux + uy) := Int.mul_le_mul key key (by omega) (by omega)
  have t2 := sq_nonneg (ux - uy)
  grind
theorem cross_mid {r : Int} {p q : V2} (h : Good r p q) (hm : midV r p q = p ∨ midV r p q = q) : 4 * (crossP p q * crossP p q) ≤ 2 * dotP (sumP p q) (sumP p q) := by
  have rot : ∀ {p q : V2}, (midV r p q = p ∨ midV r p q = q) → (midV r (rotV p) (rotV q) = rotV p ∨ midV r (rotV p) (rotV q) = rotV q) := fun {p q} hm => by
    rw [rot_mid]
    exact hm.imp (fun e => by rw [e]) (fun e => by rw [e])
  have un : ∀ {p q : V2}, 4 * (crossP (rotV p) (rotV q) * crossP (rotV p) (rotV q)) ≤ 2 * dotP (sumP (rotV p) (rotV q)) (sumP (rotV p) (rotV q)) → 4 * (crossP p q * crossP p q) ≤ 2 * dotP (sumP p q) (sumP p q) := fun {p q} h => by
    rwa [rot_cross, rot_sum, rot_dot] at h
  by_cases hx : 0 ≤ p.x + q.x
  · by_cases hy : 0 ≤ p.y + q.y
    · exact cross_mid_q1 h hx hy hm
    · exact un (cross_mid_q1 (good_rot h) (by simp only [rotV]; omega) (by simp only [rotV]; omega) (rot hm))
  · by_cases hy : 0 ≤ p.y + q.y
    · exact un (un (un (cross_mid_q1 (good_rot (good_rot (good_rot h))) (by simp only [rotV]; omega) (by simp only [rotV]; omega) (rot (rot (rot hm))))))
    · exact un (un (cross_mid_q1 (good_rot (good_rot h)) (by simp only [rotV]; omega) (by simp only [rotV]; omega) (rot (rot hm))))
theorem nr_s {r : Int} {p : V2} (h : Nr r p) : ∃ s, 0 ≤ s ∧ s * s ≤ 2 * dotP p p ∧ dotP p p - s < r ∧ r ≤ dotP p p + s := by
  refine ⟨absZ p.x + absZ p.y, ?_, ?_, h.lo, h.hi⟩
  · have := absZ_nonneg p.x; have := absZ_nonneg p.y; omega
  · simp only [dotP]
    rw [← absZ_sq p.x, ← absZ_sq p.y]
    have := sq_nonneg (absZ p.x - absZ p.y)
    grind
/-- Where the middle is an end, the ends are close to each other. -/
theorem short_mid {r : Int} {p q : V2} (h : Good r p q) (hm : midV r p q = p ∨ midV r p q = q) : dotP (difP q p) (difP q p) ≤ 5 := by
  have hc := cross_mid h hm
  have hd := h.dt
  obtain ⟨s, s0, s1, s2, s3⟩ := nr_s h.np
  obtain ⟨z, z0, z1, z2, z3⟩ := nr_s h.nq
  have e1 : dotP (difP q p) (difP q p) * dotP (sumP p q) (sumP p q) = 4 * (crossP p q * crossP p q) + (dotP q q - dotP p p) * (dotP q q - dotP p p) := by
    simp only [dotP, difP, sumP, crossP]; grind
  have e2 : dotP (sumP p q) (sumP p q) = dotP p p + dotP q q + 2 * dotP p q := by simp only [dotP, sumP]; grind
  have hpos : 0 < dotP (sumP p q) (sumP p q) := good_sum h
  have hw : (dotP q q - dotP p p) * (dotP q q - dotP p p) ≤ (s + z) * (s + z) := by
    have a1 : dotP q q - dotP p p ≤ s + z := by omega
    have a2 : -(s + z) ≤ dotP q q - dotP p p := by omega
    have := Int.mul_nonneg (show 0 ≤ (s + z) - (dotP q q - dotP p p) by omega) (show 0 ≤ (s + z) + (dotP q q - dotP p p) by omega)
    grind
  have hz := sq_nonneg (s - z)
  generalize dotP (difP q p) (difP q p) = D at *
  generalize dotP (sumP p q) (sumP p q) = U at *
  generalize dotP p p = n1 at *
  generalize dotP q q = n2 at *
  generalize dotP p q = d at *
  generalize crossP p q = c at *
  refine Int.not_lt.1 fun w => ?_
  have t := Int.mul_le_mul_of_nonneg_right (show 6 ≤ D by omega) (Int.le_of_lt hpos)
  have hss : (s + z) * (s + z) ≤ 4 * (n1 + n2) := by grind
  have hlt : (s + z) * (s + z) ≤ 4 * U - 8 * d := by omega
  -- the difference is strictly less
  have hw2 : (n2 - n1) * (n2 - n1) + 1 ≤ (s + z) * (s + z) ∨ s + z = 0 := by
    by_cases h0 : s + z = 0
    · exact .inr h0
    · left
      have := Int.mul_nonneg (show 0 ≤ (s + z) - 1 - (n2 - n1) by omega) (show 0 ≤ (s + z) - 1 + (n2 - n1) by omega)
      grind
  rcases hw2 with hw2 | hw2
  · omega
  · omega
def distB (p q : V2) (r t : Int) : Bool := if dotP p (difP q p) ≥ 0 ∨ dotP q (difP q p) ≤ 0 then false else decide (isq (65536 * crossP p q * crossP p q / dotP (difP q p) (difP q p)) + 1 + 256 * t < isq (65536 * r))
theorem dif_sq (p q : V2) : dotP (difP q p) (difP q p) = dotP (difP p q) (difP p q) := by simp only [dotP, difP]; grind
/-- A chord that ends near the circle with ends close to each other is not far from it. -/
theorem short_near {r n s c D α : Int} (hr : 0 < r) (hr1 : r ≤ 4000000) (s0 : 0 ≤ s) (s1 : s * s ≤ 2 * n) (s3 : r ≤ n + s) (hD : 0 < D) (hD5 : D ≤ 5) (hα : 0 < α) (hαD : 2 * α ≤ D) (he : c * c = n * D - α * α) (hn : n ≤ 8000000) :
    isq (65536 * r) ≤ isq (65536 * c * c / D) + 513 := by
  have hcc : 0 ≤ 65536 * c * c := by have := sq_nonneg c; grind
  have hcb : 65536 * c * c ≤ 65536 * (n * D) := by have := sq_nonneg α; grind
  have hnD : n * D ≤ 8000000 * 5 := by
    have a1 := Int.mul_le_mul_of_nonneg_right hn (Int.le_of_lt hD)
    have a2 := Int.mul_le_mul_of_nonneg_left hD5 (show 0 ≤ (8000000 : Int) by decide)
    omega
  have hA : 65536 * n - 81920 ≤ 65536 * c * c / D := by
    rw [Int.le_ediv_iff_mul_le hD]
    have t1 : 4 * (α * α) ≤ D * D := by
      have := Int.mul_le_mul hαD hαD (by omega) (by omega)
      grind
    have t2 := Int.mul_le_mul_of_nonneg_right hD5 (Int.le_of_lt hD)
    grind
  have hA0 : 0 ≤ 65536 * c * c / D := Int.ediv_nonneg hcc (by omega)
  have hA1 : 65536 * c * c / D ≤ 65536 * c * c := Int.ediv_le_self _ hcc
  obtain ⟨a0, a1, a2⟩ := isq_spec hA0 (by omega)
  obtain ⟨b0, b1, b2⟩ := isq_spec (n := 65536 * r) (by omega) (by omega)
  generalize 65536 * c * c / D = A at *
  generalize isq A = a at *
  generalize isq (65536 * r) = b at *
  refine Int.not_lt.1 fun w => ?_
  have t1 : (a + 514) * (a + 514) ≤ b * b := Int.mul_le_mul (by omega) (by omega) (by omega) b0
  have t2 : 1026 * (a + 1) < 65536 * s - 181249 := by grind
  have t3 : a + 1 < 64 * s := by omega
  have t4 : (a + 1) * (a + 1) ≤ 64 * s * (64 * s) := Int.mul_le_mul (by omega) (by omega) (by omega) (by omega)
  have t5 : 3 * 3 ≤ s * s := Int.mul_le_mul (by omega) (by omega) (by decide) s0
  grind
theorem leaf_near {r t : Int} {p q : V2} (ht : 2 ≤ t) (h : Leaf r t p q) : distB p q r t = false := by
  unfold distB
  split
  · rfl
  rename_i hd
  refine decide_eq_false fun w => ?_
  rcases h.leaf with hl | hl
  · unfold flatB at hl
    rw [decide_eq_true_eq, ← dif_sq] at hl
    omega
  · have h5 := short_mid h.good hl
    have e1 : crossP p q * crossP p q = dotP p p * dotP (difP q p) (difP q p) - dotP p (difP q p) * dotP p (difP q p) := by simp only [crossP, dotP, difP]; grind
    have e2 : crossP p q * crossP p q = dotP q q * dotP (difP q p) (difP q p) - dotP q (difP q p) * dotP q (difP q p) := by simp only [crossP, dotP, difP]; grind
    have e3 : dotP q (difP q p) - dotP p (difP q p) = dotP (difP q p) (difP q p) := by simp only [dotP, difP]; grind
    have bd : ∀ {v : V2}, Nr r v → dotP v v ≤ 8000000 := fun {v} hv => by
      obtain ⟨b1, b2, b3, b4⟩ := nr_bound h.good.r1 (x := v.x) (y := v.y) hv
      have t1 := Int.mul_nonneg (show 0 ≤ 2000 - v.x by omega) (show 0 ≤ 2000 + v.x by omega)
      have t2 := Int.mul_nonneg (show 0 ≤ 2000 - v.y by omega) (show 0 ≤ 2000 + v.y by omega)
      simp only [dotP]
      grind
    obtain ⟨s, s0, s1, s2, s3⟩ := nr_s h.good.np
    obtain ⟨z, z0, z1, z2, z3⟩ := nr_s h.good.nq
    have b1 := bd h.good.np
    have b2 := bd h.good.nq
    generalize dotP (difP q p) (difP q p) = D at *
    generalize dotP p (difP q p) = α at *
    generalize dotP q (difP q p) = β at *
    by_cases hab : 2 * -α ≤ D
    · have := short_near h.good.r0 h.good.r1 s0 s1 s3 (c := crossP p q) (D := D) (α := -α) (by omega) h5 (by omega) hab (by rw [e1]; grind) b1
      omega
    · have := short_near h.good.r0 h.good.r1 z0 z1 z3 (c := crossP p q) (D := D) (α := β) (by omega) h5 (by omega) (by omega) (by rw [e2]) b2
      omega
/-- The distance from the centre is less than 1 away from the radius. -/
theorem near_one {r : Int} {p : V2} (hr : 0 < r) (h : Nr r p) : ¬ (0 ≤ dotP p p + r - 1 ∧ 4 * dotP p p * r ≤ (dotP p p + r - 1) * (dotP p p + r - 1)) := by
  obtain ⟨s, s0, s1, s2, s3⟩ := nr_s h
  generalize dotP p p = n at *
  rintro ⟨_, w⟩
  have := Int.mul_nonneg (show 0 ≤ s - (n - r) by omega) (show 0 ≤ s + (n - r) by omega)
  grind
end Sg
end Go.Vm
