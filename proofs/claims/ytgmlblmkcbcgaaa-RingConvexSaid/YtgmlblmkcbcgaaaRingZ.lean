/-
  Layer 8, plain: a ring that turns left everywhere lies on the left of each of its edges.
-/
import Derived.Test.YtgmlblmkcbcgaaaRingY
namespace Go.Vm
set_option maxRecDepth 20000
set_option linter.unusedVariables false
set_option linter.unusedSimpArgs false
open Go Go.RowKit Go.Proofs
namespace Sg

theorem crs_trans {u v w : V2} (hu : 0 < u.y) (hv : 0 < v.y) (hw : 0 < w.y) (h1 : 0 < crossP u v) (h2 : 0 < crossP v w) : 0 < crossP u w := by
  have e : crossP u w * v.y = crossP u v * w.y + crossP v w * u.y := by simp only [crossP]; grind
  have m1 := Int.mul_pos h1 hw
  have m2 := Int.mul_pos h2 hu
  exact (sg hv).2 (by omega)
/-- A chain that goes up and turns left. -/
structure Arc (u : Nat → V2) (a : Nat) : Prop where
  up : ∀ p, p < a → (u p).y < (u (p + 1)).y
  left : ∀ p, p + 1 < a → 0 < trP (u p) (u (p + 1)) (u (p + 2))
abbrev dv (u : Nat → V2) (p : Nat) : V2 := subP (u (p + 1)) (u p)
section
variable {u : Nat → V2} {a : Nat} (h : Arc u a)
include h
theorem Arc.dy {p : Nat} (hp : p < a) : 0 < (dv u p).y := by
  have := h.up p hp
  simp only [dv, subP]; omega
theorem Arc.turn {p : Nat} (hp : p + 1 < a) : 0 < crossP (dv u p) (dv u (p + 1)) := by
  have := h.left p hp
  have e : trP (u p) (u (p + 1)) (u (p + 2)) = crossP (dv u p) (dv u (p + 1)) := by
    show trP (u p) (u (p + 1)) (u (p + 1 + 1)) = _
    simp only [trP, crossP, subP, dv]; grind
  rw [e] at this
  exact this
theorem Arc.pos (p : Nat) : ∀ d, p + d + 1 < a → 0 < crossP (dv u p) (dv u (p + d + 1))
  | 0, hd => h.turn hd
  | d + 1, hd => crs_trans (h.dy (by omega)) (h.dy (p := p + d + 1) (by omega)) (h.dy (by omega)) (Arc.pos p d (by omega)) (h.turn (p := p + d + 1) (by omega))
theorem Arc.pos2 {p q : Nat} (hpq : p < q) (hq : q < a) : 0 < crossP (dv u p) (dv u q) := by
  have := h.pos p (q - p - 1) (by omega)
  rw [show p + (q - p - 1) + 1 = q by omega] at this
  exact this
theorem Arc.right (p : Nat) : ∀ d, p + 1 + d ≤ a → 0 ≤ trP (u p) (u (p + 1)) (u (p + 1 + d))
  | 0, _ => by
    show 0 ≤ trP (u p) (u (p + 1)) (u (p + 1))
    simp only [trP, crossP, subP]; grind
  | d + 1, hd => by
    have ih := Arc.right p d (by omega)
    have := h.pos2 (p := p) (q := p + 1 + d) (by omega) (by omega)
    have e : trP (u p) (u (p + 1)) (u (p + 1 + d + 1)) = trP (u p) (u (p + 1)) (u (p + 1 + d)) + crossP (dv u p) (dv u (p + 1 + d)) := by
      simp only [trP, crossP, subP, dv]; grind
    rw [← Nat.add_assoc, e]; omega
theorem Arc.back (p : Nat) (hp : p < a) : ∀ d, d ≤ p → 0 ≤ trP (u p) (u (p + 1)) (u (p - d))
  | 0, _ => by
    show 0 ≤ trP (u p) (u (p + 1)) (u p)
    simp only [trP, crossP, subP]; grind
  | d + 1, hd => by
    have ih := Arc.back p hp d (by omega)
    have := h.pos2 (p := p - (d + 1)) (q := p) (by omega) hp
    have e : trP (u p) (u (p + 1)) (u (p - (d + 1))) = trP (u p) (u (p + 1)) (u (p - (d + 1) + 1)) + crossP (dv u (p - (d + 1))) (dv u p) := by
      simp only [trP, crossP, subP, dv]; grind
    rw [show p - (d + 1) + 1 = p - d by omega] at e
    rw [e]; omega
theorem Arc.all {p k : Nat} (hp : p < a) (hk : k ≤ a) : 0 ≤ trP (u p) (u (p + 1)) (u k) := by
  by_cases c : k ≤ p
  · have := h.back p hp (p - k) (by omega)
    rwa [show p - (p - k) = k by omega] at this
  · have := h.right p (k - (p + 1)) (by omega)
    rwa [show p + 1 + (k - (p + 1)) = k by omega] at this
theorem Arc.tail {l k : Nat} (hlk : l < k) : ∀ d, k + d ≤ a → 0 ≤ crossP (dv u l) (subP (u (k + d)) (u k))
  | 0, _ => by simp only [Nat.add_zero, crossP, subP]; grind
  | d + 1, hd => by
    have ih := Arc.tail hlk d (by omega)
    have := h.pos2 (p := l) (q := k + d) (by omega) (by omega)
    have e : crossP (dv u l) (subP (u (k + d + 1)) (u k)) = crossP (dv u l) (subP (u (k + d)) (u k)) + crossP (dv u l) (dv u (k + d)) := by
      simp only [crossP, subP, dv]; grind
    rw [← Nat.add_assoc, e]; omega
/-- It lies on the right of its chord. -/
theorem Arc.chord {k : Nat} (hk : k ≤ a) : trP (u 0) (u a) (u k) ≤ 0 := by
  have key : ∀ m, m ≤ k → 0 ≤ crossP (subP (u m) (u 0)) (subP (u a) (u k)) := by
    intro m
    induction m with
    | zero => intro _; simp only [crossP, subP]; grind
    | succ m ih =>
      intro hm
      have i1 := ih (by omega)
      have i2 := h.tail (l := m) (k := k) (by omega) (a - k) (by omega)
      rw [show k + (a - k) = a by omega] at i2
      have e : crossP (subP (u (m + 1)) (u 0)) (subP (u a) (u k)) = crossP (subP (u m) (u 0)) (subP (u a) (u k)) + crossP (dv u m) (subP (u a) (u k)) := by
        simp only [crossP, subP, dv]; grind
      rw [e]; omega
  have i := key k (Nat.le_refl _)
  have e : trP (u 0) (u a) (u k) = -crossP (subP (u k) (u 0)) (subP (u a) (u k)) := by
    simp only [trP, crossP, subP]; grind
  rw [e]; omega
end
theorem up_all {u : Nat → V2} {a : Nat} (h : ∀ p, p < a → (u p).y < (u (p + 1)).y) {i j : Nat} (hij : i ≤ j) (hj : j ≤ a) : (u i).y ≤ (u j).y := by
  by_cases e : a = 0
  · have : i = j := by omega
    subst this; exact Int.le_refl _
  · have := up_le (A := u) (m := a - 1) (fun p hp => h p (by omega)) (j - i) (i := i) (by omega)
    rwa [show i + (j - i) = j by omega] at this
/-- The edges that go up. -/
theorem Cyc.half {n : Int} {P : Int → V2} (C : Cyc n P) {s : Int} {a c : Nat} (ha : 1 ≤ a) (hc : 1 ≤ c) (hac : (a : Int) + c = n)
    (hU : ∀ p : Nat, p < a → (P (s + p)).y < (P (s + p + 1)).y) (hX : ∀ q : Nat, q < c → (P (s - q)).y < (P (s - q - 1)).y) (p : Nat) (hp : p < a) :
    (∀ k : Nat, k ≤ a → 0 ≤ trP (P (s + p)) (P (s + p + 1)) (P (s + k))) ∧ ∀ q : Nat, q ≤ c → 0 ≤ trP (P (s + p)) (P (s + p + 1)) (P (s - q)) := by
  have AU : Arc (fun p => P (s + (p : Int))) a := ⟨fun p hp => by
      show (P (s + (p : Int))).y < (P (s + ((p + 1 : Nat) : Int))).y
      rw [show s + ((p + 1 : Nat) : Int) = s + p + 1 by omega]; exact hU p hp, fun p _ => by
      show 0 < trP (P (s + (p : Int))) (P (s + ((p + 1 : Nat) : Int))) (P (s + ((p + 2 : Nat) : Int)))
      have := C.left (s + ((p + 1 : Nat) : Int))
      rw [show s + ((p + 1 : Nat) : Int) - 1 = s + p by omega, show s + ((p + 1 : Nat) : Int) + 1 = s + ((p + 2 : Nat) : Int) by omega] at this
      exact this⟩
  have AX : Arc (fun q => fX (P (s - (q : Int)))) c := ⟨fun q hq => by
      show (P (s - (q : Int))).y < (P (s - ((q + 1 : Nat) : Int))).y
      rw [show s - ((q + 1 : Nat) : Int) = s - q - 1 by omega]; exact hX q hq, fun q _ => by
      show 0 < trP (fX (P (s - (q : Int)))) (fX (P (s - ((q + 1 : Nat) : Int)))) (fX (P (s - ((q + 2 : Nat) : Int))))
      have := C.left (s - ((q + 1 : Nat) : Int))
      rw [show s - ((q + 1 : Nat) : Int) - 1 = s - ((q + 2 : Nat) : Int) by omega, show s - ((q + 1 : Nat) : Int) + 1 = s - q by omega] at this
      rw [trX, tr_rev]
      omega⟩
  have e1 : s + ((p + 1 : Nat) : Int) = s + p + 1 := by omega
  have hk : ∀ k : Nat, k ≤ a → 0 ≤ trP (P (s + p)) (P (s + p + 1)) (P (s + k)) := fun k hk => by
    have := AU.all (p := p) (k := k) hp hk
    simp only [e1] at this
    exact this
  refine ⟨hk, fun q hq => ?_⟩
  have hch := AX.chord (k := q) hq
  simp only [trX] at hch
  have hm : P (s - ((0 : Nat) : Int)) = P s := by congr 1; omega
  have hM : P (s - (c : Int)) = P (s + a) := by rw [← C.per]; congr 1; omega
  rw [hm, hM] at hch
  have t0 := hk 0 (by omega)
  have ta := hk a (Nat.le_refl _)
  rw [show s + ((0 : Nat) : Int) = s by omega] at t0
  have y1 : (P s).y ≤ (P (s - (q : Int))).y := by
    have := up_all (u := fun q => fX (P (s - (q : Int)))) AX.up (i := 0) (j := q) (by omega) hq
    simp only [fX] at this
    rw [hm] at this
    exact this
  have y2 : (P (s - (q : Int))).y ≤ (P (s + a)).y := by
    have := up_all (u := fun q => fX (P (s - (q : Int)))) AX.up (i := q) (j := c) hq (Nat.le_refl _)
    simp only [fX] at this
    rw [hM] at this
    exact this
  have y3 : (P s).y < (P (s + a)).y := by
    have i1 := up_all (u := fun p => P (s + (p : Int))) AU.up (i := 1) (j := a) ha (Nat.le_refl _)
    have i2 := hU 0 (by omega)
    rw [show s + ((0 : Nat) : Int) = s by omega] at i2
    rw [show s + ((1 : Nat) : Int) = s + 1 by omega] at i1
    omega
  have y4 := hU p hp
  have id : ((P (s + a)).y - (P s).y) * trP (P (s + p)) (P (s + p + 1)) (P (s - q)) = ((P (s + a)).y - (P (s - q)).y) * trP (P (s + p)) (P (s + p + 1)) (P s) + ((P (s - q)).y - (P s).y) * trP (P (s + p)) (P (s + p + 1)) (P (s + a)) + ((P (s + p + 1)).y - (P (s + p)).y) * trP (P s) (P (s + a)) (P (s - q)) := by
    simp only [trP, crossP, subP]; grind
  have m1 := Int.mul_nonneg (show 0 ≤ (P (s + a)).y - (P (s - q)).y by omega) t0
  have m2 := Int.mul_nonneg (show 0 ≤ (P (s - q)).y - (P s).y by omega) ta
  have m3 := Int.mul_nonneg (show 0 ≤ (P (s + p + 1)).y - (P (s + p)).y by omega) (show 0 ≤ trP (P s) (P (s + a)) (P (s - q)) by omega)
  refine Int.not_lt.1 fun hn => ?_
  have := Int.mul_neg_of_pos_of_neg (show 0 < (P (s + a)).y - (P s).y by omega) hn
  omega
theorem Cyc.per_nat {n : Int} {P : Int → V2} (C : Cyc n P) (i : Int) : ∀ k : Nat, P (i + n * k) = P i
  | 0 => by congr 1; omega
  | k + 1 => by
    have e : i + n * ((k + 1 : Nat) : Int) = i + n * k + n := by
      rw [Int.natCast_succ, Int.mul_add]; omega
    rw [e, C.per]; exact Cyc.per_nat C i k
theorem Cyc.per_int {n : Int} {P : Int → V2} (C : Cyc n P) (i k : Int) : P (i + n * k) = P i := by
  by_cases h : 0 ≤ k
  · have := C.per_nat i k.toNat
    rwa [show ((k.toNat : Nat) : Int) = k by omega] at this
  · have := C.per_nat (i + n * k) (-k).toNat
    rw [show (((-k).toNat : Nat) : Int) = -k by omega, Int.mul_neg] at this
    rw [← this]; congr 1; omega
/-- Each index is one between s and s + n. -/
theorem Cyc.red {n : Int} {P : Int → V2} (C : Cyc n P) (s i : Int) : ∃ p : Nat, (p : Int) < n ∧ P i = P (s + p) ∧ P (i + 1) = P (s + p + 1) := by
  have hn := C.n3
  have h0 := Int.emod_nonneg (i - s) (show n ≠ 0 by omega)
  have h1 := Int.emod_lt_of_pos (i - s) (show 0 < n by omega)
  have h2 := Int.emod_add_mul_ediv (i - s) n
  refine ⟨((i - s) % n).toNat, by omega, ?_, ?_⟩
  · rw [show (((i - s) % n).toNat : Int) = (i - s) % n by omega, ← C.per_int (s + (i - s) % n) ((i - s) / n)]
    congr 1; omega
  · rw [show (((i - s) % n).toNat : Int) = (i - s) % n by omega, ← C.per_int (s + (i - s) % n + 1) ((i - s) / n)]
    congr 1; omega
theorem Cyc.convex {n : Int} {P : Int → V2} (C : Cyc n P) (i j : Int) : 0 ≤ trP (P i) (P (i + 1)) (P j) := by
  obtain ⟨s, a, c, ha, hc, hac, hU, hX⟩ := C.one
  obtain ⟨p, hp, e1, e2⟩ := C.red s i
  obtain ⟨q, hq, e3, _⟩ := C.red s j
  rw [e1, e2, e3]
  by_cases c1 : p < a
  · obtain ⟨h1, h2⟩ := C.half ha hc hac hU hX p c1
    by_cases c2 : q ≤ a
    · exact h1 q c2
    · have := h2 (n.toNat - q) (by omega)
      rw [← C.per (s - _), show s - ((n.toNat - q : Nat) : Int) + n = s + q by omega] at this
      exact this
  · obtain ⟨h1, h2⟩ := C.mirror.half (s := -s) hc ha (by omega) (fun p hp => by
      show (P (-(-s + (p : Int)))).y < (P (-(-s + (p : Int) + 1))).y
      rw [show -(-s + (p : Int)) = s - p by omega, show -(-s + (p : Int) + 1) = s - p - 1 by omega]
      exact hX p hp) (fun q hq => by
      show (P (-(-s - (q : Int)))).y < (P (-(-s - (q : Int) - 1))).y
      rw [show -(-s - (q : Int)) = s + q by omega, show -(-s - (q : Int) - 1) = s + q + 1 by omega]
      exact hU q hq) (n.toNat - p - 1) (by omega)
    simp only [trX] at h1 h2
    have f1 : P (-(-s + ((n.toNat - p - 1 : Nat) : Int))) = P (s + p + 1) := by rw [← C.per (-(-s + ((n.toNat - p - 1 : Nat) : Int)))]; congr 1; omega
    have f2 : P (-(-s + ((n.toNat - p - 1 : Nat) : Int) + 1)) = P (s + p) := by rw [← C.per (-(-s + ((n.toNat - p - 1 : Nat) : Int) + 1))]; congr 1; omega
    rw [f1, f2] at h1 h2
    by_cases c2 : q ≤ a
    · have := h2 q c2
      rw [show -(-s - (q : Int)) = s + q by omega, tr_swap] at this
      omega
    · have := h1 (n.toNat - q) (by omega)
      have f3 : P (-(-s + ((n.toNat - q : Nat) : Int))) = P (s + q) := by rw [← C.per (-(-s + ((n.toNat - q : Nat) : Int)))]; congr 1; omega
      rw [f3, tr_swap] at this
      omega
end Sg
end Go.Vm
