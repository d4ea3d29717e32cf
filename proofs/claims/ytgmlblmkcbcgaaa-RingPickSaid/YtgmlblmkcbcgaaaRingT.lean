/-
  Layer 8, plain: a closed chain that does not meet itself turns once; the turn that its edges make as seen from its vertices.
-/
import Derived.Test.YtgmlblmkcbcgaaaRingP
namespace Go.Vm
set_option maxRecDepth 20000
set_option linter.unusedVariables false
set_option linter.unusedSimpArgs false
open Go Go.RowKit Go.Proofs
namespace Sg

theorem top_at (f : Nat → Int) (p : Nat → Prop) : ∀ N : Nat, (∃ i, i < N ∧ p i) → ∃ i, i < N ∧ p i ∧ ∀ j, j < N → p j → f i ≤ f j
  | 0, ⟨i, h, _⟩ => absurd h (Nat.not_lt_zero _)
  | N + 1, ⟨i, hi, hp⟩ => by
    by_cases h : ∃ i, i < N ∧ p i
    · obtain ⟨k, h1, h2, h3⟩ := top_at f p N h
      by_cases c : p N ∧ f N < f k
      · refine ⟨N, by omega, c.1, fun j hj hpj => ?_⟩
        by_cases e : j = N
        · subst e; exact Int.le_refl _
        · have := h3 j (by omega) hpj; omega
      · refine ⟨k, by omega, h2, fun j hj hpj => ?_⟩
        by_cases e : j = N
        · subst e
          exact Int.not_lt.1 fun q => c ⟨hpj, q⟩
        · exact h3 j (by omega) hpj
    · have e : i = N := Classical.byContradiction fun q => h ⟨i, by omega, hp⟩
      subst e
      exact ⟨i, by omega, hp, fun j hj hpj => by
        by_cases e : j = i
        · subst e; exact Int.le_refl _
        · exact absurd ⟨j, by omega, hpj⟩ h⟩
theorem NM.sym {a b p q : V2} (h : NM a b p q) : NM p q a b := ⟨h.p_, h.q_, h.a_, h.b_, fun k => h.cr ⟨k.2, k.1⟩⟩
/-- A closed chain that does not meet itself. -/
structure Smp (n : Nat) (P : Int → V2) : Prop where
  n3 : 3 ≤ n
  per : ∀ i : Int, P (i + n) = P i
  turn : ∀ i : Int, trP (P (i - 1)) (P i) (P (i + 1)) ≠ 0
  nm : ∀ i j : Int, i + 2 ≤ j → j + 2 ≤ i + n → NM (P i) (P (i + 1)) (P j) (P (j + 1))
theorem onL_end (a b : V2) : OnL a b a := by
  refine ⟨by simp only [trP, crossP, subP]; grind, ?_, ?_, ?_, ?_⟩ <;> omega
section
variable {n : Nat} {P : Int → V2} (C : Smp n P)
include C
theorem Smp.next (i : Int) : P i ≠ P (i + 1) := fun h => C.turn i (by
  rw [← h]; simp only [trP, crossP, subP]; grind)
theorem Smp.dist {i j : Int} (h1 : i < j) (h2 : j < i + n) : P i ≠ P j := by
  have h3 := C.n3
  by_cases c1 : j = i + 1
  · subst c1; exact C.next i
  by_cases c2 : j + 1 = i + n
  · intro h
    have := C.next j
    rw [c2, C.per] at this
    exact this h.symm
  · intro h
    have k := (C.nm i j (by omega) (by omega)).a_
    rw [← h] at k
    exact k (onL_end _ _)
/-- The turn at a vertex, and that of the rest of the chain as seen from it. -/
def tauV (P : Int → V2) (i : Int) : Int := tq (subP (P i) (P (i - 1))) (subP (P (i + 1)) (P i))
def rowV (n : Nat) (P : Int → V2) (i : Int) : Int := rowT P (P i) (i + 1) (n - 2)
omit C in
theorem rowT_succ (P : Int → V2) (p : V2) (s : Int) (m : Nat) : rowT P p s (m + 1) = tq (subP (P s) p) (subP (P (s + 1)) p) + rowT P p (s + 1) m := by
  rw [Nat.add_comm, rowT_add]
  simp [rowT]
omit C in
theorem sub_neg (a b : V2) : (⟨-(subP a b).x, -(subP a b).y⟩ : V2) = subP b a := by
  simp only [subP]; exact V2.ext (by simp only; omega) (by simp only; omega)
omit C in
theorem tri_at (a b c : V2) : tq (subP b a) (subP c a) + tq (subP c a) (subP c b) = tq (subP b a) (subP c b) := by
  have := tq_tri (subP b a) (subP c b)
  have e : addQ (subP b a) (subP c b) = subP c a := by simp only [subP, addQ]; exact V2.ext (by simp only; omega) (by simp only; omega)
  rwa [e] at this
omit C in
theorem tri_back (a b c : V2) : tq (subP a b) (subP a c) + tq (subP a c) (subP b c) = tq (subP b a) (subP c b) := by
  have := tq_tri (subP a b) (subP b c)
  have e : addQ (subP a b) (subP b c) = subP a c := by simp only [subP, addQ]; exact V2.ext (by simp only; omega) (by simp only; omega)
  rw [e] at this
  rw [this, ← sub_neg b a, ← sub_neg c b, tq_neg]
theorem Smp.row_step (i : Int) : rowV n P i + tauV P i = rowV n P (i + 1) + tauV P (i + 1) := by
  have h3 := C.n3
  obtain ⟨m, rfl⟩ : ∃ m, n = m + 3 := ⟨n - 3, by omega⟩
  have k := row_chain (P := P) (p := P i) (q := P (i + 1)) (s := i + 2) m (fun j hj => (C.nm i (i + 2 + j) (by omega) (by omega)).sym)
  have e1 : rowV (m + 3) P i = tq (subP (P (i + 1)) (P i)) (subP (P (i + 2)) (P i)) + rowT P (P i) (i + 2) m := by
    have := rowT_succ P (P i) (i + 1) m
    rw [show i + 1 + 1 = i + 2 by omega] at this
    exact this
  have e2 : rowV (m + 3) P (i + 1) = rowT P (P (i + 1)) (i + 2) m + tq (subP (P (i - 1)) (P (i + 1))) (subP (P i) (P (i + 1))) := by
    have a1 : i + 2 + m = i - 1 + ((m + 3 : Nat) : Int) := by omega
    have a2 : i + 2 + m + 1 = i + ((m + 3 : Nat) : Int) := by omega
    show rowT P (P (i + 1)) (i + 1 + 1) (m + 1) = _
    rw [show i + 1 + 1 = i + 2 by omega]
    simp only [rowT]
    rw [a2, a1, C.per, C.per]
  have a1 : i + 2 + m = i - 1 + ((m + 3 : Nat) : Int) := by omega
  rw [a1, C.per] at k
  have t1 := tri_at (P i) (P (i + 1)) (P (i + 2))
  have t2 := tri_back (P (i - 1)) (P i) (P (i + 1))
  unfold tauV
  rw [e1, e2, show i + 1 + 1 = i + 2 by omega, show i + 1 - 1 = i by omega]
  omega
theorem Smp.row_nat (i : Int) : ∀ k : Nat, rowV n P (i + k) + tauV P (i + k) = rowV n P i + tauV P i
  | 0 => by simp
  | k + 1 => by
    have := C.row_step (i + k)
    rw [show i + ((k + 1 : Nat) : Int) = i + k + 1 by omega, ← this, Smp.row_nat i k]
/-- The directions of the upper half plane. -/
def UpP (d : V2) : Prop := 0 < d.y ∨ (d.y = 0 ∧ 0 < d.x)
omit C in
theorem tq_up {u v : V2} (hu : UpP u) (hv : UpP v) : tq u v = sgnI v.y - sgnI u.y := by
  have k1 : u.y = 0 → crossP u v = u.x * v.y := fun h1 => by simp only [crossP]; rw [h1]; simp
  have k2 : v.y = 0 → crossP u v = -(v.x * u.y) := fun h1 => by simp only [crossP]; rw [h1]; grind
  have s1 := sgn_cases u.y
  have s2 := sgn_cases v.y
  rcases hu with hu | ⟨hu, hu'⟩ <;> rcases hv with hv | ⟨hv, hv'⟩
  · rw [tq_flat (by omega)]; omega
  · have k := k2 hv
    have := Int.mul_pos hv' hu
    unfold tq abd
    generalize crossP u v = z at *
    rw [if_neg (by omega), if_pos (by omega)]
    split <;> omega
  · have k := k1 hu
    have := Int.mul_pos hu' hv
    unfold tq abd
    generalize crossP u v = z at *
    rw [if_pos (by omega)]
    split <;> omega
  · rw [tq_flat (by omega)]; omega
omit C in
theorem row_up {p : V2} {s : Int} : ∀ m : Nat, (∀ j : Nat, j ≤ m → UpP (subP (P (s + j)) p)) → rowT P p s m = sgnI (subP (P (s + m)) p).y - sgnI (subP (P s) p).y
  | 0, _ => by simp [rowT]
  | m + 1, h => by
    have h1 := h m (by omega)
    have h2 := h (m + 1) (by omega)
    simp only [rowT]
    rw [show s + ((m + 1 : Nat) : Int) = s + m + 1 by omega] at *
    rw [row_up m (fun j hj => h j (by omega)), tq_up h1 h2]
    omega
theorem Smp.low : ∃ s : Nat, s < n ∧ ∀ j : Int, 0 < j → j < n → UpP (subP (P (s + j)) (P s)) := by
  have h3 := C.n3
  obtain ⟨g, hg, _, hg2⟩ := top_at (fun i => (P i).y) (fun _ => True) n ⟨0, by omega, trivial⟩
  obtain ⟨s, hs, hs1, hs2⟩ := top_at (fun i => (P i).x) (fun i => (P i).y = (P g).y) n ⟨g, by omega, rfl⟩
  refine ⟨s, hs, fun j h0 h1 => ?_⟩
  have key : ∀ k : Nat, k < n → P k ≠ P s → UpP (subP (P k) (P s)) := fun k hk hne => by
    have a1 := hg2 k hk trivial
    unfold UpP
    simp only [subP]
    by_cases c : (P k).y = (P g).y
    · have a2 := hs2 k hk c
      have : (P k).x ≠ (P s).x := fun h => hne (V2.ext h (by rw [c, hs1]))
      right
      exact ⟨by rw [c, hs1]; omega, by omega⟩
    · left
      rw [hs1]; omega
  have hne := C.dist (i := (s : Int)) (j := s + j) (by omega) (by omega)
  by_cases c : (s : Int) + j < n
  · have := key (s + j).toNat (by omega)
    rw [show ((((s : Int) + j).toNat : Nat) : Int) = s + j by omega] at this
    exact this hne.symm
  · have e : P (s + j) = P (s + j - n) := by
      rw [← C.per (s + j - n)]; congr 1; omega
    rw [e] at hne ⊢
    have := key (s + j - n).toNat (by omega)
    rw [show ((((s : Int) + j - n).toNat : Nat) : Int) = s + j - n by omega] at this
    exact this hne.symm
def sumT (P : Int → V2) (s : Int) : Nat → Int
  | 0 => 0
  | m + 1 => sumT P s m + tauV P (s + m)
omit C in
theorem sumT_add (P : Int → V2) (s : Int) (a : Nat) : ∀ b, sumT P s (a + b) = sumT P s a + sumT P (s + a) b
  | 0 => by simp [sumT]
  | b + 1 => by
    rw [← Nat.add_assoc]
    simp only [sumT]
    rw [sumT_add P s a b, show s + ((a + b : Nat) : Int) = s + a + b by omega]
    omega
/-- What is left of a row, and the turns behind it. -/
theorem Smp.row_tail {s : Int} (hs : ∀ j : Int, 0 < j → j < n → UpP (subP (P (s + j)) (P s))) : ∀ (d k : Nat), 1 ≤ k → k + d + 1 = n →
    rowT P (P (s + k)) (s + k + 1) d = sumT P (s + k + 1) d - (sgnI (subP (P (s + k + d)) (P s)).y - sgnI (subP (P (s + k)) (P s)).y)
  | 0, k, _, _ => by simp [rowT, sumT]
  | d + 1, k, hk, hd => by
    have ih := Smp.row_tail hs d (k + 1) (by omega) (by omega)
    have c := row_chain (P := P) (p := P (s + k)) (q := P (s + k + 1)) (s := s + k + 2) d (fun j hj => (C.nm (s + k) (s + k + 2 + j) (by omega) (by omega)).sym)
    rw [show s + k + 2 + d = s + n by omega, C.per] at c
    have e1 := rowT_succ P (P (s + k)) (s + k + 1) d
    have e2 : sumT P (s + k + 1) (d + 1) = tauV P (s + k + 1) + sumT P (s + k + 2) d := by
      rw [Nat.add_comm, sumT_add, show s + k + 1 + ((1 : Nat) : Int) = s + k + 2 by omega]
      simp [sumT]
    have t1 := tri_at (P (s + k)) (P (s + k + 1)) (P (s + k + 2))
    have t2 : tauV P (s + k + 1) = tq (subP (P (s + k + 1)) (P (s + k))) (subP (P (s + k + 2)) (P (s + k + 1))) := by
      unfold tauV
      rw [show s + k + 1 - 1 = s + k by omega, show s + k + 1 + 1 = s + k + 2 by omega]
    have t3 : tq (subP (P s) (P (s + k))) (subP (P s) (P (s + k + 1))) = sgnI (subP (P (s + k + 1)) (P s)).y - sgnI (subP (P (s + k)) (P s)).y := by
      rw [← sub_neg (P (s + k)) (P s), ← sub_neg (P (s + k + 1)) (P s), tq_neg]
      have h1 := hs k (by omega) (by omega)
      have h2 := hs (k + 1) (by omega) (by omega)
      rw [show s + ((k : Int) + 1) = s + k + 1 by omega] at h2
      exact tq_up h1 h2
    rw [show s + ((k + 1 : Nat) : Int) = s + k + 1 by omega, show s + k + 1 + 1 = s + k + 2 by omega, show s + k + 1 + (d : Int) = s + k + ((d + 1 : Nat) : Int) by omega] at ih
    rw [show s + k + 1 + 1 = s + k + 2 by omega] at e1
    rw [e1, e2]
    omega
/-- The chain turns once; its direction says how. -/
theorem Smp.whole : ∃ K : Int, (K = 2 ∨ K = -2) ∧ (∀ i : Nat, rowV n P i + tauV P i = K) ∧ sumT P 0 n = 2 * K := by
  have h3 := C.n3
  obtain ⟨s, hsn, hs⟩ := C.low
  have u1 := hs 1 (by omega) (by omega)
  have u2 := hs (n - 1) (by omega) (by omega)
  have e0 : P (s + ((n : Int) - 1)) = P (s - 1) := by
    rw [← C.per ((s : Int) - 1)]; congr 1; omega
  rw [e0] at u2
  have r0 : rowV n P s = sgnI (subP (P (s - 1)) (P s)).y - sgnI (subP (P (s + 1)) (P s)).y := by
    unfold rowV
    rw [row_up (n - 2) (fun j hj => by
      have := hs (1 + j) (by omega) (by omega)
      rwa [show (s : Int) + (1 + j) = s + 1 + j by omega] at this)]
    rw [show (s : Int) + 1 + ((n - 2 : Nat) : Int) = s + ((n : Int) - 1) by omega, e0]
  obtain ⟨K, hK⟩ : ∃ K, K = rowV n P s + tauV P s := ⟨_, rfl⟩
  have all : ∀ i : Nat, rowV n P i + tauV P i = K := fun i => by
    have a := C.row_nat 0 s
    have b := C.row_nat 0 i
    rw [Int.zero_add] at a b
    omega
  have tl := C.row_tail hs (n - 2) 1 (by omega) (by omega)
  have t0 : tauV P (s + 1) + rowT P (P (s + 1)) (s + 2) (n - 2) = K := by
    have := all (s + 1)
    rw [show ((s + 1 : Nat) : Int) = s + 1 by omega] at this
    unfold rowV at this
    rw [show (s : Int) + 1 + 1 = s + 2 by omega] at this
    omega
  have sm : sumT P s n = 2 * K := by
    rw [show n = 1 + (1 + (n - 2)) by omega, sumT_add, sumT_add]
    simp only [sumT]
    rw [show (s : Int) + ((1 : Nat) : Int) + ((1 : Nat) : Int) = s + 2 by omega]
    rw [show (s : Int) + ((1 : Nat) : Int) + 1 = s + 2 by omega, show (s : Int) + ((1 : Nat) : Int) + ((n - 2 : Nat) : Int) = s + ((n : Int) - 1) by omega, e0, show (s : Int) + ((1 : Nat) : Int) = s + 1 by omega] at tl
    have z1 : (s : Int) + ((0 : Nat) : Int) = s := by omega
    have z2 : (s : Int) + ((1 : Nat) : Int) + ((0 : Nat) : Int) = s + 1 := by omega
    rw [z1, z2]
    omega
  have sm0 : sumT P 0 n = sumT P s n := by
    have a := sumT_add P 0 s (n - s)
    have b := sumT_add P s (n - s) s
    rw [show s + (n - s) = n by omega] at a
    rw [show n - s + s = n by omega] at b
    have e : ∀ m : Nat, sumT P (s + ((n - s : Nat) : Int)) m = sumT P 0 m := fun m => by
      induction m with
      | zero => rfl
      | succ m ih =>
        simp only [sumT]
        rw [ih]
        have f : tauV P ((s : Int) + ((n - s : Nat) : Int) + m) = tauV P (0 + m) := by
          unfold tauV
          rw [show (s : Int) + ((n - s : Nat) : Int) + m = 0 + m + n by omega, show (0 : Int) + m + n - 1 = 0 + m - 1 + n by omega, show (0 : Int) + m + n + 1 = 0 + m + 1 + n by omega, C.per, C.per, C.per]
        rw [f]
    rw [e] at b
    rw [Int.zero_add] at a
    omega
  refine ⟨K, ?_, all, by omega⟩
  have tr := C.turn s
  have hc : crossP (subP (P (s + 1)) (P s)) (subP (P (s - 1)) (P s)) ≠ 0 := by
    have : crossP (subP (P (s + 1)) (P s)) (subP (P (s - 1)) (P s)) = trP (P (s - 1)) (P s) (P (s + 1)) := by simp only [trP, crossP, subP]; grind
    rw [this]; exact tr
  have ht : tauV P s = tq ⟨-(subP (P (s - 1)) (P s)).x, -(subP (P (s - 1)) (P s)).y⟩ (subP (P (s + 1)) (P s)) := by
    unfold tauV; rw [sub_neg]
  rw [hK, r0, ht]
  generalize subP (P (s - 1)) (P s) = w at *
  generalize subP (P (s + 1)) (P s) = u at *
  have e1 : crossP ⟨-w.x, -w.y⟩ u = crossP u w := by simp only [crossP]; grind
  have k1 : u.y = 0 → crossP u w = u.x * w.y := fun h1 => by simp only [crossP]; rw [h1]; simp
  have k2 : w.y = 0 → crossP u w = -(w.x * u.y) := fun h1 => by simp only [crossP]; rw [h1]; grind
  have s1 := sgn_cases u.y
  have s2 := sgn_cases w.y
  have s3 := sgn_cases (-w.y)
  unfold tq abd
  simp only [e1]
  generalize crossP u w = z at *
  rcases u1 with q1 | ⟨q1, q1'⟩ <;> rcases u2 with q2 | ⟨q2, q2'⟩
  · repeat' split
    all_goals omega
  · have := k2 q2
    have := Int.mul_pos q2' q1
    repeat' split
    all_goals omega
  · have := k1 q1
    have := Int.mul_pos q1' q2
    repeat' split
    all_goals omega
  · have := k1 q1
    rw [q2, Int.mul_zero] at this
    exact absurd this hc
end
end Sg
end Go.Vm
