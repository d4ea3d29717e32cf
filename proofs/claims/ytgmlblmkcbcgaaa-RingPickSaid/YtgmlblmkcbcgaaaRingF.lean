/-
  Layer 8, plain: a point off a closed chain sees it turn once or not at all.
-/
import Derived.Test.YtgmlblmkcbcgaaaRingN
namespace Go.Vm
set_option maxRecDepth 20000
set_option linter.unusedVariables false
set_option linter.unusedSimpArgs false
open Go Go.RowKit Go.Proofs
namespace Sg

def scV (m : Int) (v : V2) : V2 := ⟨m * v.x, m * v.y⟩
theorem sc_sub (m : Int) (a b : V2) : subP (scV m a) (scV m b) = scV m (subP a b) := by
  simp only [subP, scV]; exact V2.ext (by simp only; grind) (by simp only; grind)
theorem sc_tr (m : Int) (a b c : V2) : trP (scV m a) (scV m b) (scV m c) = m * m * trP a b c := by
  simp only [trP, crossP, subP, scV]; grind
theorem le_sc {m x y : Int} (hm : 0 < m) : m * x ≤ m * y ↔ x ≤ y := ⟨fun h => Int.le_of_mul_le_mul_left h hm, fun h => Int.mul_le_mul_of_nonneg_left h (Int.le_of_lt hm)⟩
theorem on_sc {m : Int} (hm : 0 < m) {a b p : V2} : OnL (scV m a) (scV m b) (scV m p) ↔ OnL a b p := by
  unfold OnL
  rw [sc_tr]
  simp only [scV, le_sc hm]
  have hmm := Int.mul_pos hm hm
  constructor
  · rintro ⟨h, k⟩
    refine ⟨?_, k⟩
    rcases mz h with h | h
    · omega
    · exact h
  · rintro ⟨h, k⟩
    exact ⟨by rw [h, Int.mul_zero], k⟩
theorem nm_sc {m : Int} (hm : 0 < m) {a b p q : V2} (h : NM a b p q) : NM (scV m a) (scV m b) (scV m p) (scV m q) := by
  have hmm := Int.mul_pos hm hm
  have s : ∀ t : Int, (0 < m * m * t ↔ 0 < t) ∧ (m * m * t < 0 ↔ t < 0) := fun t => by
    have f := posf t hmm
    rw [Int.mul_comm] at f
    omega
  refine ⟨fun k => h.a_ ((on_sc hm).1 k), fun k => h.b_ ((on_sc hm).1 k), fun k => h.p_ ((on_sc hm).1 k), fun k => h.q_ ((on_sc hm).1 k), fun k => h.cr ?_⟩
  simp only [sc_tr, (s _).1, (s _).2] at k
  exact k
theorem tq_sc {m : Int} (hm : 0 < m) (u v : V2) : tq (scV m u) (scV m v) = tq u v := tq_scale hm hm u v
theorem row_sc {m : Int} (hm : 0 < m) (P : Int → V2) (p : V2) (s : Int) : ∀ k, rowT (fun i => scV m (P i)) (scV m p) s k = rowT P p s k
  | 0 => rfl
  | k + 1 => by
    simp only [rowT]
    rw [row_sc hm P p s k, sc_sub, sc_sub, tq_sc hm]
theorem least_at (N D : Nat → Int) (p : Nat → Prop) (hD : ∀ i, p i → 0 < D i) : ∀ M : Nat, (∃ i, i < M ∧ p i) → ∃ i, i < M ∧ p i ∧ ∀ j, j < M → p j → N i * D j ≤ N j * D i
  | 0, ⟨i, h, _⟩ => absurd h (Nat.not_lt_zero _)
  | M + 1, ⟨i, hi, hp⟩ => by
    by_cases h : ∃ i, i < M ∧ p i
    · obtain ⟨k, h1, h2, h3⟩ := least_at N D p hD M h
      by_cases c : p M ∧ N M * D k < N k * D M
      · refine ⟨M, by omega, c.1, fun j hj hpj => ?_⟩
        by_cases e : j = M
        · subst e; exact Int.le_refl _
        · have a := h3 j (by omega) hpj
          have dk := hD k h2
          have dj := hD j hpj
          have dm := hD M c.1
          have b1 := Int.mul_le_mul_of_nonneg_right (Int.le_of_lt c.2) (Int.le_of_lt dj)
          have b2 := Int.mul_le_mul_of_nonneg_right a (Int.le_of_lt dm)
          refine Int.le_of_mul_le_mul_left (a := D k) ?_ dk
          have e1 : D k * (N M * D j) = N M * D k * D j := by grind
          have e2 : N k * D M * D j = N k * D j * D M := by grind
          have e3 : D k * (N j * D M) = N j * D k * D M := by grind
          omega
      · refine ⟨k, by omega, h2, fun j hj hpj => ?_⟩
        by_cases e : j = M
        · subst e
          exact Int.not_lt.1 fun q => c ⟨hpj, q⟩
        · exact h3 j (by omega) hpj
    · have e : i = M := Classical.byContradiction fun q => h ⟨i, by omega, hp⟩
      subst e
      exact ⟨i, by omega, hp, fun j hj hpj => by
        by_cases e : j = i
        · subst e; exact Int.le_refl _
        · exact absurd ⟨j, by omega, hpj⟩ h⟩
/-- A level path from p to the right by N, and an edge that no end of lies at its height. -/
theorem nm_level {a b p : V2} {N : Int} (hN : 0 < N) (ha : a.y ≠ p.y) (hb : b.y ≠ p.y) (hp : ¬ OnL a b p) (hq : ¬ OnL a b ⟨p.x + N, p.y⟩)
    (hc : ¬ ((a.y < p.y ∧ p.y < b.y ∧ 0 < trP a b p ∧ trP a b p < (b.y - a.y) * N) ∨ (b.y < p.y ∧ p.y < a.y ∧ trP a b p < 0 ∧ (b.y - a.y) * N < trP a b p))) : NM a b p ⟨p.x + N, p.y⟩ := by
  have e1 : trP a b ⟨p.x + N, p.y⟩ = trP a b p - (b.y - a.y) * N := by simp only [trP, crossP, subP]; grind
  have e2 : ∀ v : V2, trP p ⟨p.x + N, p.y⟩ v = (v.y - p.y) * N := fun v => by simp only [trP, crossP, subP]; grind
  refine ⟨fun k => ?_, fun k => ?_, hp, hq, fun ⟨k', k⟩ => hc ?_⟩
  · obtain ⟨_, _, _, k3, k4⟩ := k
    simp only at k3 k4; omega
  · obtain ⟨_, _, _, k3, k4⟩ := k
    simp only at k3 k4; omega
  · rw [e1] at k
    rw [e2, e2] at k'
    have f1 := posf (a.y - p.y) hN
    have f2 := posf (b.y - p.y) hN
    have f3 := posf (b.y - a.y) hN
    generalize (a.y - p.y) * N = z1 at *
    generalize (b.y - p.y) * N = z2 at *
    generalize (b.y - a.y) * N = z3 at *
    clear e1 e2 hp hq hc
    omega
theorem cq_zero {u v : V2} (h : ¬ ((u.y < 0 ∧ 0 < v.y ∧ 0 < crossP u v) ∨ (v.y < 0 ∧ 0 < u.y ∧ crossP u v < 0))) (hu : u.y ≠ 0) (hv : v.y ≠ 0) : cq u v = 0 := by
  unfold cq
  rw [if_neg (by omega), if_neg (by omega)]
theorem cross_tr (a b p : V2) : crossP (subP a p) (subP b p) = trP a b p := by simp only [trP, crossP, subP]; grind
theorem tq_cr {a b p : V2} (h : ¬ OnL a b p) : tq (subP a p) (subP b p) = 4 * cq (subP a p) (subP b p) + gq (subP a p) - gq (subP b p) := tq_cq (fun k => h ((onZ _ _ _).1 k))
section
variable {n : Nat} {P : Int → V2} (C : Smp n P)
include C
theorem Smp.scale {m : Int} (hm : 0 < m) : Smp n (fun i => scV m (P i)) := by
  refine ⟨C.n3, fun i => by simp only [C.per], fun i h => C.turn i ?_, fun i j h1 h2 => nm_sc hm (C.nm i j h1 h2)⟩
  simp only [sc_tr] at h
  have hmm := Int.mul_pos hm hm
  rcases mz h with h | h
  · omega
  · exact h
omit C in
theorem scale_K {K m : Int} (hm : 0 < m) (hK : ∀ i : Nat, rowV n P i + tauV P i = K) : ∀ i : Nat, rowV n (fun i => scV m (P i)) i + tauV (fun i => scV m (P i)) i = K := fun i => by
  rw [← hK i]
  unfold rowV tauV
  rw [row_sc hm]
  simp only [sc_sub, tq_sc hm]
/-- The edges that cross the ray to the right. -/
def CrR (P : Int → V2) (p : V2) (i : Nat) : Prop := ((P i).y < p.y ∧ p.y < (P (i + 1)).y ∧ 0 < trP (P i) (P (i + 1)) p) ∨ ((P (i + 1)).y < p.y ∧ p.y < (P i).y ∧ trP (P i) (P (i + 1)) p < 0)
def absZ (x : Int) : Int := if 0 ≤ x then x else -x
theorem Smp.off_gen {K : Int} (hK : ∀ i : Nat, rowV n P i + tauV P i = K) {p : V2} (hy : ∀ i : Int, (P i).y ≠ p.y) (ho : ∀ i : Int, ¬ OnL (P i) (P (i + 1)) p) :
    rowT P p 0 n = 0 ∨ rowT P p 0 n = K + 2 ∨ rowT P p 0 n = K - 2 := by
  have h3 := C.n3
  by_cases hex : ∃ i, i < n ∧ CrR P p i
  · right
    obtain ⟨i, hi, hc, hmin⟩ := least_at (fun i => absZ (trP (P i) (P (i + 1)) p)) (fun i => absZ ((P (i + 1)).y - (P i).y)) (CrR P p) (fun i h => by
      unfold CrR at h; unfold absZ; split <;> omega) n hex
    obtain ⟨D, hD⟩ : ∃ D, D = absZ ((P (i + 1)).y - (P i).y) := ⟨_, rfl⟩
    obtain ⟨N, hN⟩ : ∃ N, N = absZ (trP (P i) (P (i + 1)) p) := ⟨_, rfl⟩
    have hD0 : 0 < D := by rw [hD]; unfold CrR at hc; unfold absZ; split <;> omega
    have hN0 : 0 < N := by rw [hN]; unfold CrR at hc; unfold absZ; split <;> omega
    have S := C.scale hD0
    have SK := scale_K (n := n) (P := P) hD0 hK
    obtain ⟨q, hq⟩ : ∃ q : V2, q = ⟨(scV D p).x + N, (scV D p).y⟩ := ⟨_, rfl⟩
    have qy : ∀ j : Int, (scV D (P j)).y ≠ (scV D p).y := fun j e => by
      simp only [scV] at e
      exact hy j (Int.eq_of_mul_eq_mul_left (by omega) e)
    have sgn : (P i).y < p.y ∧ p.y < (P (i + 1)).y ∧ D = (P (i + 1)).y - (P i).y ∧ N = trP (P i) (P (i + 1)) p ∨ (P (i + 1)).y < p.y ∧ p.y < (P i).y ∧ D = (P i).y - (P (i + 1)).y ∧ N = -trP (P i) (P (i + 1)) p := by
      rw [hD, hN]
      unfold CrR at hc; unfold absZ
      split <;> split <;> omega
    have tq0 : trP (scV D (P i)) (scV D (P (i + 1))) q = D * D * trP (P i) (P (i + 1)) p - D * ((P (i + 1)).y - (P i).y) * N := by
      rw [hq]
      simp only [trP, crossP, subP, scV]; grind
    have tqz : trP (scV D (P i)) (scV D (P (i + 1))) q = 0 := by
      rw [tq0]
      rcases sgn with ⟨_, _, e1, e2⟩ | ⟨_, _, e1, e2⟩
      · rw [← e1, ← e2]; omega
      · rw [show (P (i + 1)).y - (P i).y = -D by omega, show trP (P i) (P (i + 1)) p = -N by omega]; grind
    have onq : OnL (scV D (P i)) (scV D (P (i + 1))) q := by
      rcases sgn with ⟨e1, e2, _, _⟩ | ⟨e1, e2, _, _⟩
      · have l1 := Int.mul_lt_mul_of_pos_left e1 hD0
        have l2 := Int.mul_lt_mul_of_pos_left e2 hD0
        refine on_level tqz ?_ ?_ ?_ <;> simp only [hq, scV] <;> omega
      · have l1 := Int.mul_lt_mul_of_pos_left e1 hD0
        have l2 := Int.mul_lt_mul_of_pos_left e2 hD0
        refine onL_swap.1 (on_level (by rw [tr_swap, tqz]; rfl) ?_ ?_ ?_) <;> simp only [hq, scV] <;> omega
    have qn : ∀ j : Int, q ≠ scV D (P j) := fun j e => qy j (by rw [← e, hq])
    have r1 := S.on_edge SK onq (qn _) (qn _)
    have k := row_chain (P := fun i => scV D (P i)) (p := scV D p) (q := q) (s := i + 1) (n - 1) (fun j hj => by
      have nq := S.one_edge (i := i) (j := (i : Int) + 1 + j) (by omega) (by omega) onq (qn _) (qn _)
      rw [hq] at nq ⊢
      refine nm_level hN0 (qy _) (qy _) (fun h => ho _ ((on_sc hD0).1 h)) nq ?_
      -- the same edge among the first n
      obtain ⟨j', hj', ej⟩ : ∃ j' : Nat, j' < n ∧ P ((i : Int) + 1 + j) = P j' ∧ P ((i : Int) + 1 + j + 1) = P (j' + 1) := by
        by_cases c : i + 1 + j < n
        · exact ⟨i + 1 + j, c, by congr 1, by congr 1⟩
        · refine ⟨i + 1 + j - n, by omega, ?_, ?_⟩
          · rw [← C.per ((i + 1 + j - n : Nat) : Int)]; congr 1; omega
          · rw [← C.per (((i + 1 + j - n : Nat) : Int) + 1)]; congr 1; omega
      have hm := hmin j' hj'
      rw [ej.1, ej.2, sc_tr]
      have sg : ∀ t : Int, (0 < D * D * t → 0 < t) ∧ (D * D * t < 0 → t < 0) := fun t => by
        have f := posf t (Int.mul_pos hD0 hD0)
        rw [Int.mul_comm] at f
        omega
      have lt : ∀ x y : Int, D * x < D * y → x < y := fun x y h => Int.lt_of_mul_lt_mul_left h (Int.le_of_lt hD0)
      simp only [← hD, ← hN] at hm
      rintro (⟨g1, g2, g3, g4⟩ | ⟨g1, g2, g3, g4⟩)
      · have g1' := lt _ _ g1
        have g2' := lt _ _ g2
        have g3' := (sg _).1 g3
        have := hm (.inl ⟨g1', g2', g3'⟩)
        unfold absZ at this
        rw [if_pos (by omega), if_pos (by omega)] at this
        simp only [scV] at g4
        have g5 : D * (D * trP (P j') (P (j' + 1)) p) < D * (((P (j' + 1)).y - (P j').y) * N) := by
          rw [show D * (D * trP (P j') (P (j' + 1)) p) = D * D * trP (P j') (P (j' + 1)) p by grind, show D * (((P (j' + 1)).y - (P j').y) * N) = (D * (P (j' + 1)).y - D * (P j').y) * N by grind]
          exact g4
        have g6 := lt _ _ g5
        rw [Int.mul_comm N, Int.mul_comm _ D] at this
        omega
      · have g1' := lt _ _ g1
        have g2' := lt _ _ g2
        have g3' := (sg _).2 g3
        have := hm (.inr ⟨g1', g2', g3'⟩)
        unfold absZ at this
        rw [if_neg (by omega), if_neg (by omega)] at this
        simp only [scV] at g4
        have g5 : D * (((P (j' + 1)).y - (P j').y) * N) < D * (D * trP (P j') (P (j' + 1)) p) := by
          rw [show D * (D * trP (P j') (P (j' + 1)) p) = D * D * trP (P j') (P (j' + 1)) p by grind, show D * (((P (j' + 1)).y - (P j').y) * N) = (D * (P (j' + 1)).y - D * (P j').y) * N by grind]
          exact g4
        have g6 := lt _ _ g5
        have g7 : N * -((P (j' + 1)).y - (P j').y) = -(((P (j' + 1)).y - (P j').y) * N) := by grind
        have g8 : -trP (P j') (P (j' + 1)) p * D = -(D * trP (P j') (P (j' + 1)) p) := by grind
        rw [g7, g8] at this
        omega)
    have fl : ∀ X : V2, tq (subP X (scV D p)) (subP X q) = 0 := fun X => tq_flat (by rw [hq]; rfl)
    rw [fl, fl, r1, row_sc hD0] at k
    rw [← C.row_shift p (Nat.le_of_lt hi), show n = n - 1 + 1 by omega, rowT_succ]
    have e2 : tq (subP (P i) p) (subP (P (i + 1)) p) = 2 ∨ tq (subP (P i) p) (subP (P (i + 1)) p) = -2 := by
      have s1 := sgn_cases (subP (P i) p).y
      have s2 := sgn_cases (subP (P (i + 1)) p).y
      unfold tq abd
      rw [cross_tr]
      simp only [subP] at *
      clear hmin hex k tq0 tqz
      rcases sgn with ⟨g1, g2, g3, g4⟩ | ⟨g1, g2, g3, g4⟩
      · have t0 : 0 < trP (P i) (P (i + 1)) p := by omega
        simp only [if_pos t0]
        repeat' split
        all_goals omega
      · have t0 : trP (P i) (P (i + 1)) p < 0 := by omega
        have t1 : ¬ 0 < trP (P i) (P (i + 1)) p := by omega
        simp only [if_neg t1, if_pos t0]
        repeat' split
        all_goals omega
    omega
  · left
    have key : ∀ m : Nat, m ≤ n → rowT P p 0 m = gq (subP (P 0) p) - gq (subP (P m) p) := fun m => by
      induction m with
      | zero => intro _; simp [rowT]
      | succ m ih =>
        intro hm
        have hz : cq (subP (P m) p) (subP (P (m + 1)) p) = 0 := by
          have y1 := hy m
          have y2 := hy (m + 1)
          refine cq_zero (fun h => hex ⟨m, by omega, ?_⟩) (by simp only [subP]; omega) (by simp only [subP]; omega)
          rw [cross_tr] at h
          simp only [subP] at h
          unfold CrR
          omega
        simp only [rowT]
        rw [ih (by omega), Int.zero_add, tq_cr (ho m), hz, show ((m + 1 : Nat) : Int) = m + 1 by omega]
        omega
    have := key n (Nat.le_refl _)
    have e := C.per 0
    rw [Int.zero_add] at e
    rw [e] at this
    omega
/-- The same for any point off the chain. -/
theorem Smp.off {K m : Int} (hm : 2 ≤ m) (hd : ∀ i : Int, (P (i + 1)).x - (P i).x < m ∧ (P i).x - (P (i + 1)).x < m) (hK : ∀ i : Nat, rowV n P i + tauV P i = K) {p : V2} (ho : ∀ i : Int, ¬ OnL (P i) (P (i + 1)) p) :
    rowT P p 0 n = 0 ∨ rowT P p 0 n = K + 2 ∨ rowT P p 0 n = K - 2 := by
  have hm0 : 0 < m := by omega
  obtain ⟨p', hp'⟩ : ∃ p' : V2, p' = ⟨m * p.x, m * p.y + 1⟩ := ⟨_, rfl⟩
  have lev : ∀ t : Int, (m * t < 1 ↔ t < 1) ∧ (1 < m * t ↔ 0 < t) ∧ m * t ≠ 1 := fun t => by
    by_cases c : 0 < t
    · have := Int.mul_le_mul_of_nonneg_left (show 1 ≤ t by omega) (show 0 ≤ m by omega)
      rw [Int.mul_one] at this
      omega
    · have := Int.mul_nonpos_of_nonneg_of_nonpos (show 0 ≤ m by omega) (show t ≤ 0 by omega)
      omega
  have ly : ∀ v : V2, (subP (scV m v) p').y = m * (subP v p).y - 1 := fun v => by rw [hp']; simp only [subP, scV]; grind
  have cr : ∀ a b : V2, crossP (subP (scV m a) p') (subP (scV m b) p') = m * (m * trP a b p + (b.x - a.x)) := fun a b => by
    rw [hp']; simp only [trP, crossP, subP, scV]; grind
  -- an edge across the height
  have side : ∀ {a b : V2}, b.x - a.x < m → a.x - b.x < m → ((subP a p).y < 1 ∧ 0 < (subP b p).y) ∨ ((subP b p).y < 1 ∧ 0 < (subP a p).y) → ¬ OnL a b p → (0 < crossP (subP (scV m a) p') (subP (scV m b) p') ↔ 0 < trP a b p) ∧ (crossP (subP (scV m a) p') (subP (scV m b) p') < 0 ↔ trP a b p < 0) ∧ crossP (subP (scV m a) p') (subP (scV m b) p') ≠ 0 := by
    intro a b d1 d2 hs hn
    have ht : trP a b p ≠ 0 := fun z => by
      simp only [subP] at hs
      rcases hs with hs | hs
      · exact hn (on_level z (by omega) (by omega) (by omega))
      · exact hn (onL_swap.1 (on_level (by rw [tr_swap, z]; rfl) (by omega) (by omega) (by omega)))
    rw [cr]
    have g : (0 < trP a b p → m ≤ m * trP a b p) ∧ (trP a b p < 0 → m * trP a b p ≤ -m) := by
      refine ⟨fun h => ?_, fun h => ?_⟩
      · have := Int.mul_le_mul_of_nonneg_left (show 1 ≤ trP a b p by omega) (show 0 ≤ m by omega)
        rwa [Int.mul_one] at this
      · have := Int.mul_le_mul_of_nonneg_left (show trP a b p ≤ -1 by omega) (show 0 ≤ m by omega)
        rwa [Int.mul_neg, Int.mul_one] at this
    have f := posf (m * trP a b p + (b.x - a.x)) hm0
    rw [Int.mul_comm m (m * trP a b p + (b.x - a.x))]
    generalize m * trP a b p = y at *
    generalize (y + (b.x - a.x)) * m = z at *
    clear cr ly lev hs hn
    rcases Int.lt_trichotomy (trP a b p) 0 with h | h | h
    · have := g.2 h; have := f.2.1 (by omega); omega
    · exact absurd h ht
    · have := g.1 h; have := f.1 (by omega); omega
  have ho' : ∀ i : Int, ¬ OnL (scV m (P i)) (scV m (P (i + 1))) p' := fun i h => by
    have h' := (onZ _ _ _).2 h
    obtain ⟨k0, k1, k2, k3, k4⟩ := h'
    rw [cross_zz] at k0
    rw [ly, ly] at k3 k4
    simp only [zz] at k3 k4
    have l1 := lev (subP (P i) p).y
    have l2 := lev (subP (P (i + 1)) p).y
    exact (side (hd i).1 (hd i).2 (by omega) (ho i)).2.2 k0
  have hy' : ∀ i : Int, (scV m (P i)).y ≠ p'.y := fun i h => by
    have := ly (P i)
    simp only [subP] at this
    have l := lev ((P i).y - p.y)
    omega
  have ceq : ∀ i : Int, cq (subP (scV m (P i)) p') (subP (scV m (P (i + 1))) p') = cq (subP (P i) p) (subP (P (i + 1)) p) := fun i => by
    have l1 := lev (subP (P i) p).y
    have l2 := lev (subP (P (i + 1)) p).y
    have sd := side (hd i).1 (hd i).2
    have o := ho i
    unfold cq
    rw [ly, ly, cross_tr (P i)]
    generalize (subP (P i) p).y = u at *
    generalize (subP (P (i + 1)) p).y = v at *
    generalize crossP (subP (scV m (P i)) p') (subP (scV m (P (i + 1))) p') = z at *
    generalize trP (P i) (P (i + 1)) p = t at *
    generalize m * u = mu at *
    generalize m * v = mv at *
    clear hd ho side cr ly lev ho' hy'
    by_cases c1 : u < 1 ∧ 0 < v
    · have s := sd (.inl c1) o
      repeat' split
      all_goals omega
    · by_cases c2 : v < 1 ∧ 0 < u
      · have s := sd (.inr c2) o
        repeat' split
        all_goals omega
      · rw [if_neg (by omega), if_neg (by omega), if_neg (by omega), if_neg (by omega)]
  have S := C.scale hm0
  have SK := scale_K (n := n) (P := P) hm0 hK
  have main := S.off_gen SK hy' ho'
  have key : ∀ k : Nat, rowT P p 0 k - rowT (fun i => scV m (P i)) p' 0 k = gq (subP (P 0) p) - gq (subP (P k) p) - (gq (subP (scV m (P 0)) p') - gq (subP (scV m (P k)) p')) := fun k => by
    induction k with
    | zero => simp [rowT]
    | succ k ih =>
      simp only [rowT]
      rw [Int.zero_add, tq_cr (ho k), tq_cr (ho' k), ceq k, show ((k + 1 : Nat) : Int) = k + 1 by omega]
      omega
  have kn := key n
  have e := C.per 0
  rw [Int.zero_add] at e
  rw [e] at kn
  omega
end
end Sg
end Go.Vm
