/-
  Layer 8, plain: no midpoint of two vertices of a ring that turns left everywhere lies outside.
-/
import Derived.Test.YtgmlblmkcbcgaaaRingV
namespace Go.Vm
set_option maxRecDepth 20000
set_option linter.unusedVariables false
set_option linter.unusedSimpArgs false
open Go Go.RowKit Go.Proofs
namespace Sg

theorem par_mono {g : Nat → Bool} : ∀ {a : Nat}, (∀ i, i < a → g (i + 1) = true → g i = true) → parN a (fun i => g i && !g (i + 1)) = xor (g 0) (g a)
  | 0, _ => by simp [parN]
  | a + 1, h => by
    have ih := par_mono (g := g) (a := a) fun i hi => h i (by omega)
    have hl := h a (by omega)
    show xor (parN a fun i => g i && !g (i + 1)) (g a && !g (a + 1)) = _
    rw [ih]
    revert hl
    cases g 0 <;> cases g a <;> cases g (a + 1) <;> simp
/-- The lowest and the highest vertex, and what is between. -/
theorem Cyc.span {n : Int} {P : Int → V2} (C : Cyc n P) {s : Int} {a c : Nat} (hac : (a : Int) + c = n)
    (hU : ∀ p : Nat, p < a → (P (s + p)).y < (P (s + p + 1)).y) (hX : ∀ q : Nat, q < c → (P (s - q)).y < (P (s - q - 1)).y) (i : Int) : (P s).y ≤ (P i).y ∧ (P i).y ≤ (P (s + a)).y := by
  obtain ⟨p, hp, e, _⟩ := C.red s i
  have uU : ∀ p : Nat, p < a → (P (s + (p : Int))).y < (P (s + ((p + 1 : Nat) : Int))).y := fun p hp => by
    rw [show s + ((p + 1 : Nat) : Int) = s + p + 1 by omega]; exact hU p hp
  have uX : ∀ p : Nat, p < c → (P (s - (p : Int))).y < (P (s - ((p + 1 : Nat) : Int))).y := fun p hp => by
    rw [show s - ((p + 1 : Nat) : Int) = s - p - 1 by omega]; exact hX p hp
  rw [e]
  by_cases k : p ≤ a
  · have h1 := up_all (u := fun p => P (s + (p : Int))) uU (i := 0) (j := p) (by omega) k
    have h2 := up_all (u := fun p => P (s + (p : Int))) uU (i := p) (j := a) k (Nat.le_refl _)
    rw [show s + ((0 : Nat) : Int) = s by omega] at h1
    exact ⟨h1, h2⟩
  · have h1 := up_all (u := fun p => P (s - (p : Int))) uX (i := 0) (j := n.toNat - p) (by omega) (by omega)
    have h2 := up_all (u := fun p => P (s - (p : Int))) uX (i := n.toNat - p) (j := c) (by omega) (Nat.le_refl _)
    rw [show s - ((0 : Nat) : Int) = s by omega, ← C.per (s - _), show s - ((n.toNat - p : Nat) : Int) + n = s + p by omega] at h1
    rw [← C.per (s - _), show s - ((n.toNat - p : Nat) : Int) + n = s + p by omega, ← C.per (s - (c : Int)), show s - (c : Int) + n = s + a by omega] at h2
    exact ⟨h1, h2⟩
theorem on_span {e : Seg} {p : P3} (hd : 1 ≤ p.d) (h0 : sdP e p = 0) (h : decide (0 ≤ (toV p e.a).y) ≠ decide (0 ≤ (toV p e.b).y)) : onP e p = true := by
  have hc : (toV p e.a).x * (toV p e.b).y = (toV p e.a).y * (toV p e.b).x := by
    have e1 : (toV p e.a).x * (toV p e.b).y - (toV p e.a).y * (toV p e.b).x = p.d * sdP e p := by
      simp only [sdP, toV, crossP, subP]; grind
    rw [h0, Int.mul_zero] at e1
    omega
  unfold onP
  rw [h0]
  generalize (toV p e.a).x = ax at *
  generalize (toV p e.a).y = ay at *
  generalize (toV p e.b).x = bx at *
  generalize (toV p e.b).y = by' at *
  have hy : (0 ≤ ay ∧ by' < 0) ∨ (ay < 0 ∧ 0 ≤ by') := by
    by_cases c1 : 0 ≤ ay <;> by_cases c2 : 0 ≤ by'
    · exact absurd (by rw [decide_eq_true c1, decide_eq_true c2]) h
    · exact .inl ⟨c1, by omega⟩
    · exact .inr ⟨by omega, c2⟩
    · exact absurd (by rw [decide_eq_false c1, decide_eq_false c2]) h
  have hx : ¬ (0 < ax ∧ 0 < bx) ∧ ¬ (ax < 0 ∧ bx < 0) := by
    refine ⟨fun ⟨k1, k2⟩ => ?_, fun ⟨k1, k2⟩ => ?_⟩ <;> rcases hy with ⟨y1, y2⟩ | ⟨y1, y2⟩
    · have m1 := Int.mul_neg_of_pos_of_neg k1 y2
      have m2 := Int.mul_nonneg y1 (Int.le_of_lt k2)
      omega
    · have m1 := Int.mul_nonneg (Int.le_of_lt k1) y2
      have m2 := Int.mul_neg_of_neg_of_pos y1 k2
      omega
    · have m1 := Int.mul_pos_of_neg_of_neg k1 y2
      have m2 := Int.mul_nonpos_of_nonneg_of_nonpos y1 (Int.le_of_lt k2)
      omega
    · have m1 := wn (Int.le_of_lt k1) y2
      have m2 := Int.mul_pos_of_neg_of_neg y1 k2
      omega
  have m1 : minI ax bx ≤ 0 := by unfold minI; split <;> omega
  have m2 : 0 ≤ maxI ax bx := by unfold maxI; split <;> omega
  have m3 : minI ay by' ≤ 0 := by unfold minI; split <;> omega
  have m4 : 0 ≤ maxI ay by' := by unfold maxI; split <;> omega
  rw [decide_eq_true m1, decide_eq_true m2, decide_eq_true m3, decide_eq_true m4]
  rfl
theorem not_out {l : List V2} (hr : RingOk l) (hl : LeftP l) {p : P3} (hd : 1 ≤ p.d) (hs : ∀ i, i < l.length → 0 ≤ sdP (edge l i) p)
    (hy : ∃ i j, i < l.length ∧ j < l.length ∧ (gt l i).y * p.d ≤ p.y ∧ p.y ≤ (gt l j).y * p.d) : wherePl l p ≠ 0 := by
  intro h0
  have hon : onAny l p = false := by
    cases h : onAny l p with
    | false => rfl
    | true => rw [wherePl, if_pos h] at h0; cases h0
  have hpar : parK l p l.length = false := by
    cases h : parK l p l.length with
    | false => rfl
    | true => rw [wherePl, hon, h] at h0; simp at h0
  have hoff : ∀ i, i < l.length → onP (edge l i) p = false := fun i hi => by
    have := allB_iff.1 (show (allB l.length fun i => !onP (edge l i) p) = true by simpa [onAny] using hon) i hi
    simpa using this
  have h3 := hr.three
  have C := cyc_of hr hl
  obtain ⟨s, a, c, ha, hc, hac, hU, hX⟩ := C.one
  have span := C.span hac hU hX
  obtain ⟨v, ev⟩ : ∃ v : Int → V2, ∀ i, v i = gt l (ixn l i) := ⟨fun i => gt l (ixn l i), fun _ => rfl⟩
  have eP : ∀ i, (cycP l i).y = 10000 * (v i).y + (v i).x := fun i => by rw [ev]; rfl
  have nr : ∀ i, -2000 ≤ (v i).x ∧ (v i).x ≤ 2000 := fun i => by
    have := near_in hr.near (ixn l i)
    rw [ev]; exact ⟨this.x0, this.x1⟩
  have nx : ∀ i, nxt l (ixn l i) = v (i + 1) := fun i => by
    have := ix_add h3 i 1
    rw [show i + ((1 : Nat) : Int) = i + 1 by omega] at this
    rw [ev, this]; rfl
  have tri : ∀ i, 0 < trP (v (i - 1)) (v i) (v (i + 1)) := fun i => by
    have := C.left i
    simp only [cycP] at this
    rw [trS] at this
    rw [ev, ev, ev]; omega
  have mono : ∀ {x y : Int}, x ≤ y → x * p.d ≤ y * p.d := fun h => Int.mul_le_mul_of_nonneg_right h (by omega)
  have ord : ∀ i j, (cycP l i).y ≤ (cycP l j).y → (v i).y ≤ (v j).y := fun i j h => by
    rw [eP, eP] at h
    have := nr i
    have := nr j
    omega
  obtain ⟨T, eT⟩ : ∃ T : Int → Bool, ∀ i, T i = decide ((v i).y * p.d ≤ p.y) := ⟨fun i => decide ((v i).y * p.d ≤ p.y), fun _ => rfl⟩
  have cr : ∀ i : Int, crsP (edge l (ixn l i)) p = (T i && !T (i + 1)) := fun i => by
    have hi := ix_lt h3 i
    have h1 := hs _ hi
    have h2 := hoff _ hi
    have e1 : decide (0 ≤ (toV p (edge l (ixn l i)).a).y) = T i := by
      rw [eT, ev]
      show decide (0 ≤ p.y - (gt l (ixn l i)).y * p.d) = _
      rw [decide_eq_decide]; omega
    have e2 : decide (0 ≤ (toV p (edge l (ixn l i)).b).y) = T (i + 1) := by
      rw [eT, ← nx]
      show decide (0 ≤ p.y - (nxt l (ixn l i)).y * p.d) = _
      rw [decide_eq_decide]; omega
    have h4 : sdP (edge l (ixn l i)) p = 0 → T i = T (i + 1) := fun h0 => by
      refine Classical.byContradiction fun hne => ?_
      have := on_span hd h0 (by rw [e1, e2]; exact hne)
      rw [h2] at this; cases this
    unfold crsP
    rw [e1, e2]
    by_cases k : 0 < sdP (edge l (ixn l i)) p
    · rw [decide_eq_true k]; cases T i <;> cases T (i + 1) <;> rfl
    · rw [decide_eq_false k, h4 (by omega)]; cases T (i + 1) <;> rfl
  have hx : xor (T s) (T (s + a)) = false := by
    rw [parK_eq, ← parN_rot (k := ixn l s) _ (Nat.le_of_lt (ix_lt h3 s))] at hpar
    rw [parN_congr (g := fun i => T (s + (i : Int)) && !T (s + ((i + 1 : Nat) : Int))) fun i _ => by
      rw [← ix_add h3, cr]; congr 3; omega] at hpar
    rw [show l.length = a + c by omega, parN_add] at hpar
    rw [par_mono (g := fun i => T (s + (i : Int))) (a := a) fun i hi h => by
      have h1 := ord (s + i) (s + i + 1) (Int.le_of_lt (hU i hi))
      have h2 := mono h1
      rw [show s + ((i + 1 : Nat) : Int) = s + i + 1 by omega, eT, decide_eq_true_eq] at h
      rw [eT, decide_eq_true_eq]; omega] at hpar
    rw [parN_false (n := c) fun i hi => by
      have h1 := hX (c - 1 - i) (by omega)
      rw [← C.per (s - _), ← C.per (s - ((c - 1 - i : Nat) : Int) - 1), show s - ((c - 1 - i : Nat) : Int) + l.length = s + ((a + i + 1 : Nat) : Int) by omega, show s - ((c - 1 - i : Nat) : Int) - 1 + l.length = s + ((a + i : Nat) : Int) by omega] at h1
      have h2 := mono (ord _ _ (Int.le_of_lt h1))
      rw [eT, eT]
      by_cases k : (v (s + ((a + i : Nat) : Int))).y * p.d ≤ p.y
      · rw [decide_eq_true (show (v (s + ((a + i + 1 : Nat) : Int))).y * p.d ≤ p.y by omega)]; simp
      · rw [decide_eq_false k]; rfl] at hpar
    simpa using hpar
  obtain ⟨i, j, hi, hj, y1, y2⟩ := hy
  have vi : v i = gt l i := by rw [ev, ix_nat hi]
  have vj : v j = gt l j := by rw [ev, ix_nat hj]
  have Ts : T s = true := by
    have := mono (ord _ _ (span i).1)
    rw [vi] at this
    rw [eT, decide_eq_true_eq]; omega
  have TM : T (s + a) = true := by rw [Ts] at hx; simpa using hx
  rw [eT, decide_eq_true_eq] at TM
  have hM : p.y = (v (s + a)).y * p.d := by
    have := mono (ord _ _ (span j).2)
    rw [vj] at this
    omega
  -- the top
  obtain ⟨M, eM⟩ : ∃ M, M = v (s + a) := ⟨_, rfl⟩
  obtain ⟨u, eu⟩ : ∃ u, u = v (s + a - 1) := ⟨_, rfl⟩
  obtain ⟨w, ew⟩ : ∃ w, w = v (s + a + 1) := ⟨_, rfl⟩
  obtain ⟨z, ez⟩ : ∃ z, z = v (s + a + 1 + 1) := ⟨_, rfl⟩
  have t1 := tri (s + a)
  have t2 := tri (s + a + 1)
  rw [show s + (a : Int) + 1 - 1 = s + a by omega, ← eM, ← ew, ← ez] at t2
  rw [← eM, ← eu, ← ew] at t1
  have yu := ord _ _ (span (s + a - 1)).2
  have yw := ord _ _ (span (s + a + 1)).2
  have yz := ord _ _ (span (s + a + 1 + 1)).2
  have hu := (span (s + a - 1)).2
  have hw := (span (s + a + 1)).2
  have du := C.dis (s + a - 1) (s + a) (by omega) (by omega)
  have dw := C.dis (s + a) (s + a + 1) (by omega) (by omega)
  rw [eP, eP, ← eM, ← eu] at hu du
  rw [eP, eP, ← eM, ← ew] at hw dw
  rw [← eM, ← eu] at yu
  rw [← eM, ← ew] at yw
  rw [← eM, ← ez] at yz
  rw [← eM] at hM
  have E : ∀ i : Int, edge l (ixn l i) = ⟨v i, v (i + 1)⟩ := fun i => by rw [edge, nx, ev i]
  have s1 := hs _ (ix_lt h3 (s + a - 1))
  have s2 := hs _ (ix_lt h3 (s + a))
  have s3 := hs _ (ix_lt h3 (s + a + 1))
  have o2 := hoff _ (ix_lt h3 (s + a))
  rw [E, show s + (a : Int) - 1 + 1 = s + a by omega, ← eM, ← eu] at s1
  rw [E, ← eM, ← ew] at s2 o2
  rw [E, ← ew, ← ez] at s3
  have q1 : sdP ⟨u, M⟩ p = (M.x - u.x) * (p.y - u.y * p.d) - (M.y - u.y) * (p.x - u.x * p.d) := rfl
  have q2 : sdP ⟨M, w⟩ p = (w.x - M.x) * (p.y - M.y * p.d) - (w.y - M.y) * (p.x - M.x * p.d) := rfl
  have q3 : sdP ⟨w, z⟩ p = (z.x - w.x) * (p.y - w.y * p.d) - (z.y - w.y) * (p.x - w.x * p.d) := rfl
  have r1 : trP u M w = (M.x - u.x) * (w.y - u.y) - (M.y - u.y) * (w.x - u.x) := rfl
  have r2 : trP M w z = (w.x - M.x) * (z.y - M.y) - (w.y - M.y) * (z.x - M.x) := rfl
  have uM : u.y < M.y := by
    refine Classical.byContradiction fun hn => ?_
    have e : u.y = M.y := by omega
    rw [r1, e, Int.sub_self, Int.zero_mul] at t1
    have := Int.mul_nonpos_of_nonneg_of_nonpos (show 0 ≤ M.x - u.x by omega) (show w.y - M.y ≤ 0 by omega)
    omega
  have xp : p.x ≤ M.x * p.d := by
    refine Int.not_lt.1 fun hn => ?_
    have e : sdP ⟨u, M⟩ p = -((M.y - u.y) * (p.x - M.x * p.d)) := by rw [q1, hM]; grind
    have := Int.mul_pos (show 0 < M.y - u.y by omega) (show 0 < p.x - M.x * p.d by omega)
    omega
  have onE : ∀ (k1 : (w.x * p.d ≤ p.x ∨ M.x * p.d ≤ p.x)), (w.y - M.y) * (p.x - M.x * p.d) = 0 → False := fun k1 k2 => by
    have : onP ⟨M, w⟩ p = true := by
      have e0 : sdP ⟨M, w⟩ p = 0 := by rw [q2, hM, k2, Int.sub_self, Int.mul_zero]; rfl
      have yw' := mono yw
      have b1 : minI (toV p M).x (toV p w).x ≤ 0 := by simp only [toV]; unfold minI; split <;> omega
      have b2 : 0 ≤ maxI (toV p M).x (toV p w).x := by simp only [toV]; unfold maxI; split <;> omega
      have b3 : minI (toV p M).y (toV p w).y ≤ 0 := by simp only [toV]; unfold minI; split <;> omega
      have b4 : 0 ≤ maxI (toV p M).y (toV p w).y := by simp only [toV]; unfold maxI; split <;> omega
      unfold onP
      rw [e0]
      show (decide ((0 : Int) = 0) && decide (minI (toV p M).x (toV p w).x ≤ 0) && decide (0 ≤ maxI (toV p M).x (toV p w).x) && decide (minI (toV p M).y (toV p w).y ≤ 0) && decide (0 ≤ maxI (toV p M).y (toV p w).y)) = true
      rw [decide_eq_true b1, decide_eq_true b2, decide_eq_true b3, decide_eq_true b4]
      rfl
    rw [o2] at this; cases this
  by_cases k : w.y < M.y
  · have e : sdP ⟨M, w⟩ p = (M.y - w.y) * (p.x - M.x * p.d) := by rw [q2, hM]; grind
    have hx2 : ¬ p.x < M.x * p.d := fun hn => by
      have := Int.mul_neg_of_pos_of_neg (show 0 < M.y - w.y by omega) (show p.x - M.x * p.d < 0 by omega)
      omega
    have e2 : p.x - M.x * p.d = 0 := by omega
    exact onE (.inr (by omega)) (by rw [e2, Int.mul_zero])
  · have e : w.y = M.y := by omega
    have zy : z.y < w.y := by
      refine Classical.byContradiction fun hn => ?_
      have e2 : z.y = M.y := by omega
      rw [r2, e, e2, Int.sub_self, Int.mul_zero, Int.zero_mul] at t2
      omega
    have e3 : sdP ⟨w, z⟩ p = (w.y - z.y) * (p.x - w.x * p.d) := by rw [q3, hM, e]; grind
    have hx2 : ¬ p.x < w.x * p.d := fun hn => by
      have := Int.mul_neg_of_pos_of_neg (show 0 < w.y - z.y by omega) (show p.x - w.x * p.d < 0 by omega)
      omega
    exact onE (.inl (by omega)) (by rw [e, Int.sub_self, Int.zero_mul])
/-- The middle of two vertices. -/
theorem mid_in {l : List V2} (hr : RingOk l) (hl : LeftP l) {i k : Nat} (hi : i < l.length) (hk : k < l.length) {p : P3} {m : Int} (hm : 1 ≤ m) (hd : 1 ≤ p.d) (hx : m * p.x = p.d * ((gt l i).x + (gt l k).x)) (hy : m * p.y = p.d * ((gt l i).y + (gt l k).y)) (hmd : m = 2) : wherePl l p ≠ 0 := by
  subst hmd
  refine not_out hr hl hd (fun j hj => ?_) ?_
  · have h1 := ring_convex hr hl hj hi
    have h2 := ring_convex hr hl hj hk
    have e : 2 * sdP (edge l j) p = p.d * (trP (gt l j) (nxt l j) (gt l i) + trP (gt l j) (nxt l j) (gt l k)) := by
      have e1 : 2 * sdP (edge l j) p = ((nxt l j).x - (gt l j).x) * (2 * p.y - 2 * ((gt l j).y * p.d)) - ((nxt l j).y - (gt l j).y) * (2 * p.x - 2 * ((gt l j).x * p.d)) := by
        simp only [sdP, edge, toV, crossP, subP]; grind
      rw [e1, hx, hy]
      simp only [trP, crossP, subP]; grind
    have := Int.mul_nonneg (show 0 ≤ p.d by omega) (show 0 ≤ trP (gt l j) (nxt l j) (gt l i) + trP (gt l j) (nxt l j) (gt l k) by omega)
    omega
  · rw [Int.mul_add, Int.mul_comm p.d (gt l i).y, Int.mul_comm p.d (gt l k).y] at hy
    by_cases c : (gt l i).y ≤ (gt l k).y
    · have := Int.mul_le_mul_of_nonneg_right c (show 0 ≤ p.d by omega)
      exact ⟨i, k, hi, hk, by omega, by omega⟩
    · have := Int.mul_le_mul_of_nonneg_right (show (gt l k).y ≤ (gt l i).y by omega) (show 0 ≤ p.d by omega)
      exact ⟨k, i, hk, hi, by omega, by omega⟩
end Sg
end Go.Vm
