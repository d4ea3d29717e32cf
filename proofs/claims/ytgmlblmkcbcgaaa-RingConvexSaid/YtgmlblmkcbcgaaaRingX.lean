/-
  Layer 8, plain: two chains that go up and do not meet keep their sides; a ring that turns left everywhere has one lowest vertex.
-/
import Derived.Test.YtgmlblmkcbcgaaaRingU
namespace Go.Vm
set_option maxRecDepth 20000
set_option linter.unusedVariables false
set_option linter.unusedSimpArgs false
open Go Go.RowKit Go.Proofs
namespace Sg

theorem tr_cyc (a b c : V2) : trP b c a = trP a b c := by
  simp only [trP, crossP, subP]; grind
/-- An edge that goes up lies left of another one: where both begin to be side by side; where both end to be. -/
def Lef (a a' b b' : V2) : Prop := (b.y ≤ a.y → 0 < trP b b' a) ∧ (a.y < b.y → trP a a' b < 0)
def Leg (a a' b b' : V2) : Prop := (a'.y < b'.y → 0 < trP b b' a') ∧ (b'.y ≤ a'.y → trP a a' b' < 0)
theorem lef_iff {a a' b b' : V2} (h : NM a a' b b') (ha : a.y < a'.y) (hb : b.y < b'.y) (h1 : a.y < b'.y) (h2 : b.y < a'.y) (h3 : a.y ≠ b.y) (h4 : a'.y ≠ b'.y) : Lef a a' b b' ↔ Leg a a' b b' := by
  have q := h.q4 (Int.le_of_lt ha) (Int.le_of_lt hb)
  have l1 := q.l1
  have l2 := q.l2
  have l3 := q.l3
  have l4 := q.l4
  have Fa := q.Fa
  have Fb := q.Fb
  have Fp := q.Fp
  have Fq := q.Fq
  unfold Lef Leg
  generalize trP b b' a = al at *
  generalize trP b b' a' = be at *
  generalize trP a a' b = ga at *
  generalize trP a a' b' = de at *
  clear q h
  by_cases c1 : a.y < b.y
  · by_cases c2 : a'.y < b'.y
    · have := l1 (by omega) (by omega) (by omega); constructor <;> intro k <;> omega
    · have := l3 (by omega) (by omega); constructor <;> intro k <;> omega
  · by_cases c2 : a'.y < b'.y
    · have := l2 (by omega) (by omega); constructor <;> intro k <;> omega
    · have := l4 (by omega) (by omega) (by omega); constructor <;> intro k <;> omega
def Ov (A B : Nat → V2) (i j : Nat) : Prop := (A i).y < (B (j + 1)).y ∧ (B j).y < (A (i + 1)).y
theorem up_le {A : Nat → V2} {m : Nat} (h : ∀ p, p ≤ m → (A p).y < (A (p + 1)).y) {i : Nat} : ∀ d, i + d ≤ m + 1 → (A i).y ≤ (A (i + d)).y
  | 0, _ => Int.le_refl _
  | d + 1, hd => by
    have := up_le h d (i := i) (by omega)
    have := h (i + d) (by omega)
    rw [← Nat.add_assoc]
    omega
section
variable {A B : Nat → V2} {i' j' : Nat} (hA : ∀ p, p ≤ i' → (A p).y < (A (p + 1)).y) (hB : ∀ q, q ≤ j' → (B q).y < (B (q + 1)).y)
include hA hB
/-- The next pair of edges side by side. -/
theorem ov_next (ho' : Ov A B i' j') {i j : Nat} (hi : i ≤ i') (hj : j ≤ j') (ho : Ov A B i j) (hlt : i + j < i' + j') (hne : (A (i + 1)).y ≠ (B (j + 1)).y) :
    ((A (i + 1)).y < (B (j + 1)).y ∧ i + 1 ≤ i' ∧ Ov A B (i + 1) j ∧ (Leg (A i) (A (i + 1)) (B j) (B (j + 1)) ↔ Lef (A (i + 1)) (A (i + 1 + 1)) (B j) (B (j + 1)))) ∨
    ((B (j + 1)).y < (A (i + 1)).y ∧ j + 1 ≤ j' ∧ Ov A B i (j + 1) ∧ (Leg (A i) (A (i + 1)) (B j) (B (j + 1)) ↔ Lef (A i) (A (i + 1)) (B (j + 1)) (B (j + 1 + 1)))) := by
  obtain ⟨o1, o2⟩ := ho
  obtain ⟨p1, p2⟩ := ho'
  by_cases c : (A (i + 1)).y < (B (j + 1)).y
  · have hi1 : i + 1 ≤ i' := by
      refine Classical.byContradiction fun hn => ?_
      have e : i = i' := by omega
      subst e
      have := up_le hB (j' - (j + 1)) (i := j + 1) (by omega)
      rw [show j + 1 + (j' - (j + 1)) = j' by omega] at this
      omega
    have := hA (i + 1) hi1
    refine .inl ⟨c, hi1, ⟨c, by omega⟩, ?_⟩
    unfold Leg Lef
    constructor
    · intro k
      exact ⟨fun _ => k.1 c, fun h => absurd h (by omega)⟩
    · intro k
      exact ⟨fun _ => k.1 (by omega), fun h => absurd h (by omega)⟩
  · have hj1 : j + 1 ≤ j' := by
      refine Classical.byContradiction fun hn => ?_
      have e : j = j' := by omega
      subst e
      have := up_le hA (i' - (i + 1)) (i := i + 1) (by omega)
      rw [show i + 1 + (i' - (i + 1)) = i' by omega] at this
      omega
    have := hB (j + 1) hj1
    refine .inr ⟨by omega, hj1, ⟨by omega, by omega⟩, ?_⟩
    unfold Leg Lef
    constructor
    · intro k
      exact ⟨fun h => absurd h (by omega), fun _ => k.2 (by omega)⟩
    · intro k
      exact ⟨fun h => absurd h (by omega), fun _ => k.2 (by omega)⟩
theorem chain_up (ho' : Ov A B i' j') : ∀ (d i j : Nat), i + j + d = i' + j' → i ≤ i' → j ≤ j' → Ov A B i j →
    (∀ p q, i ≤ p → p ≤ i' → j ≤ q → q ≤ j' → Ov A B p q → p + q ≠ i + j → NM (A p) (A (p + 1)) (B q) (B (q + 1)) ∧ (A p).y ≠ (B q).y) →
    (∀ p q, i ≤ p → p ≤ i' → j ≤ q → q ≤ j' → (A (p + 1)).y ≠ (B (q + 1)).y) →
    Leg (A i) (A (i + 1)) (B j) (B (j + 1)) → Leg (A i') (A (i' + 1)) (B j') (B (j' + 1))
  | 0, i, j, hd, hi, hj, _, _, _, k => by
    obtain rfl : i = i' := by omega
    obtain rfl : j = j' := by omega
    exact k
  | d + 1, i, j, hd, hi, hj, ho, hnm, hne, k => by
    rcases ov_next hA hB ho' hi hj ho (by omega) (hne i j (by omega) hi (by omega) hj) with ⟨_, h1, h2, h3⟩ | ⟨_, h1, h2, h3⟩
    · obtain ⟨n1, n2⟩ := hnm (i + 1) j (by omega) h1 (by omega) hj h2 (by omega)
      refine chain_up ho' d (i + 1) j (by omega) h1 hj h2 (fun p q a b c e f g => hnm p q (by omega) b c e f (by omega)) (fun p q a b c e => hne p q (by omega) b c e) ?_
      exact (lef_iff n1 (hA _ h1) (hB _ hj) h2.1 h2.2 n2 (hne (i + 1) j (by omega) h1 (by omega) hj)).1 (h3.1 k)
    · obtain ⟨n1, n2⟩ := hnm i (j + 1) (by omega) hi (by omega) h1 h2 (by omega)
      refine chain_up ho' d i (j + 1) (by omega) hi h1 h2 (fun p q a b c e f g => hnm p q a b (by omega) e f (by omega)) (fun p q a b c e => hne p q a b (by omega) e) ?_
      exact (lef_iff n1 (hA _ hi) (hB _ h1) h2.1 h2.2 n2 (hne i (j + 1) (by omega) hi (by omega) h1)).1 (h3.1 k)
theorem chain_down (ho' : Ov A B i' j') (k : Lef (A i') (A (i' + 1)) (B j') (B (j' + 1))) : ∀ (d i j : Nat), i + j + d = i' + j' → i ≤ i' → j ≤ j' → Ov A B i j →
    (∀ p q, i ≤ p → p ≤ i' → j ≤ q → q ≤ j' → Ov A B p q → p + q ≠ i' + j' → NM (A p) (A (p + 1)) (B q) (B (q + 1)) ∧ (A (p + 1)).y ≠ (B (q + 1)).y) →
    (∀ p q, i ≤ p → p ≤ i' → j ≤ q → q ≤ j' → (A p).y ≠ (B q).y) →
    Lef (A i) (A (i + 1)) (B j) (B (j + 1))
  | 0, i, j, hd, hi, hj, _, _, _ => by
    obtain rfl : i = i' := by omega
    obtain rfl : j = j' := by omega
    exact k
  | d + 1, i, j, hd, hi, hj, ho, hnm, hne => by
    obtain ⟨n1, n2⟩ := hnm i j (by omega) hi (by omega) hj ho (by omega)
    refine (lef_iff n1 (hA _ hi) (hB _ hj) ho.1 ho.2 (hne i j (by omega) hi (by omega) hj) n2).2 ?_
    rcases ov_next hA hB ho' hi hj ho (by omega) n2 with ⟨_, h1, h2, h3⟩ | ⟨_, h1, h2, h3⟩
    · exact h3.2 (chain_down ho' k d (i + 1) j (by omega) h1 hj h2 (fun p q a b c e f g => hnm p q (by omega) b c e f g) (fun p q a b c e => hne p q (by omega) b c e))
    · exact h3.2 (chain_down ho' k d i (j + 1) (by omega) hi h1 h2 (fun p q a b c e f g => hnm p q a b (by omega) e f g) (fun p q a b c e => hne p q a b (by omega) e))
end
theorem up_at {X : Nat → V2} {h : Int} : ∀ {c : Nat}, (X 0).y < h → h < (X c).y → (∀ q, q ≤ c → (X q).y ≠ h) → ∃ j, j < c ∧ (X j).y < h ∧ h < (X (j + 1)).y
  | 0, h1, h2, _ => by omega
  | c + 1, h1, h2, h3 => by
    by_cases k : h < (X c).y
    · obtain ⟨j, a, b, d⟩ := up_at h1 k (fun q hq => h3 q (by omega))
      exact ⟨j, by omega, b, d⟩
    · have := h3 c (by omega)
      exact ⟨c, by omega, by omega, h2⟩
/-- A closed chain without ends side by side that turns left everywhere and does not meet itself. -/
structure Cyc (n : Int) (P : Int → V2) : Prop where
  n3 : 3 ≤ n
  per : ∀ i, P (i + n) = P i
  dis : ∀ i j, i < j → j < i + n → (P i).y ≠ (P j).y
  left : ∀ i, 0 < trP (P (i - 1)) (P i) (P (i + 1))
  nm : ∀ i j, i + 2 ≤ j → j + 2 ≤ i + n → NM (P i) (P (i + 1)) (P j) (P (j + 1))
theorem nm_sym {a b p q : V2} (h : NM a b p q) : NM p q a b := ⟨h.p_, h.q_, h.a_, h.b_, fun k => h.cr ⟨k.2, k.1⟩⟩
theorem Cyc.nm2 {n : Int} {P : Int → V2} (C : Cyc n P) {i j k l : Int} (hi : k = i + 1) (hj : l = j + 1) (h1 : i + 2 ≤ j) (h2 : j + 2 ≤ i + n) : NM (P i) (P k) (P j) (P l) := by
  subst hi hj; exact C.nm i j h1 h2
/-- A pocket cannot be left. -/
theorem Cyc.pocket {n : Int} {P : Int → V2} (C : Cyc n P) (s : Int) (a b c : Nat) (ha : 1 ≤ a) (hb : 1 ≤ b) (hc : 1 ≤ c) (habc : (a : Int) + b + c + 1 ≤ n)
    (hU : ∀ p : Nat, p < a → (P (s + p)).y < (P (s + p + 1)).y) (hX : ∀ q : Nat, q < c → (P (s - q)).y < (P (s - q - 1)).y) (hZ : ∀ r : Nat, r < b → (P (s + a + r + 1)).y < (P (s + a + r)).y)
    (h1 : (P (s + a)).y < (P (s - c)).y) (h2 : (P (s + a + b)).y < (P s).y) : False := by
  obtain ⟨U, eU⟩ : ∃ U : Nat → V2, ∀ p, U p = P (s + p) := ⟨fun p => P (s + p), fun _ => rfl⟩
  obtain ⟨X, eX⟩ : ∃ X : Nat → V2, ∀ q, X q = P (s - q) := ⟨fun q => P (s - q), fun _ => rfl⟩
  obtain ⟨Z, eZ⟩ : ∃ Z : Nat → V2, ∀ r, Z r = P (s + a + b - r) := ⟨fun r => P (s + a + b - r), fun _ => rfl⟩
  have U0 : U 0 = P s := by rw [eU]; congr 1; omega
  have X0 : X 0 = P s := by rw [eX]; congr 1; omega
  have Ua : U a = P (s + a) := eU a
  have Xc : X c = P (s - c) := eX c
  have Z0 : Z 0 = P (s + a + b) := by rw [eZ]; congr 1; omega
  have Zb : Z b = P (s + a) := by rw [eZ]; congr 1; omega
  have uU : ∀ p, p < a → (U p).y < (U (p + 1)).y := fun p hp => by
    rw [eU, eU, show s + ((p + 1 : Nat) : Int) = s + p + 1 by omega]; exact hU p hp
  have uX : ∀ q, q < c → (X q).y < (X (q + 1)).y := fun q hq => by
    rw [eX, eX, show s - ((q + 1 : Nat) : Int) = s - q - 1 by omega]; exact hX q hq
  have uZ : ∀ r, r < b → (Z r).y < (Z (r + 1)).y := fun r hr => by
    have := hZ (b - 1 - r) (by omega)
    rw [eZ, eZ, show s + (a : Int) + b - (r : Int) = s + a + ((b - 1 - r : Nat) : Int) + 1 by omega, show s + (a : Int) + b - ((r + 1 : Nat) : Int) = s + a + ((b - 1 - r : Nat) : Int) by omega]
    exact this
  have dUX : ∀ p q, p ≤ a → q ≤ c → 1 ≤ p + q → (U p).y ≠ (X q).y := fun p q hp hq h => by
    rw [eU, eX]; exact fun e => C.dis (s - q) (s + p) (by omega) (by omega) e.symm
  have dUZ : ∀ p r, p ≤ a → r ≤ b → p + r + 1 ≤ a + b → (U p).y ≠ (Z r).y := fun p r hp hr h => by
    rw [eU, eZ]; exact C.dis (s + p) (s + a + b - r) (by omega) (by omega)
  have dXZ : ∀ q r, q ≤ c → r ≤ b → (X q).y ≠ (Z r).y := fun q r hq hr => by
    rw [eX, eZ]; exact C.dis (s - q) (s + a + b - r) (by omega) (by omega)
  have nXU : ∀ q p, q < c → p < a → 1 ≤ p + q → NM (X q) (X (q + 1)) (U p) (U (p + 1)) := fun q p hq hp h => by
    rw [eX, eX, eU, eU]
    exact NM.rev (C.nm2 (i := s - ((q + 1 : Nat) : Int)) (j := s + p) (by omega) (by omega) (by omega) (by omega))
  have nZU : ∀ r p, r < b → p < a → p + r + 2 < a + b → NM (Z r) (Z (r + 1)) (U p) (U (p + 1)) := fun r p hr hp h => by
    rw [eZ, eZ, eU, eU]
    exact NM.rev (nm_sym (C.nm2 (i := s + p) (j := s + a + b - ((r + 1 : Nat) : Int)) (by omega) (by omega) (by omega) (by omega)))
  have nXZ : ∀ q r, q < c → r < b → NM (X q) (X (q + 1)) (Z r) (Z (r + 1)) := fun q r hq hr => by
    rw [eX, eX, eZ, eZ]
    exact NM.swap (NM.rev (C.nm2 (i := s - ((q + 1 : Nat) : Int)) (j := s + a + b - ((r + 1 : Nat) : Int)) (by omega) (by omega) (by omega) (by omega)))
  -- where the others are as high as the top of U, and as low as its bottom
  obtain ⟨j, hj, j1, j2⟩ := up_at (X := X) (h := (U a).y) (c := c) (by have := up_le (A := U) (m := a - 1) (fun p hp => uU p (by omega)) a (i := 0) (by omega); have := dUX a 0 (by omega) (by omega) (by omega); rw [Nat.zero_add, U0] at *; rw [X0] at *; omega) (by rw [Ua, Xc]; exact h1) (fun q hq => (dUX a q (by omega) hq (by omega)).symm)
  obtain ⟨r, hr, r1, r2⟩ := up_at (X := Z) (h := (U 0).y) (c := b) (by rw [Z0, U0]; exact h2) (by have := up_le (A := U) (m := a - 1) (fun p hp => uU p (by omega)) a (i := 0) (by omega); have := uU 0 (by omega); have := up_le (A := U) (m := a - 1) (fun p hp => uU p (by omega)) (a - 1) (i := 1) (by omega); rw [show 1 + (a - 1) = a by omega] at this; rw [Zb, ← Ua]; rw [Nat.zero_add] at *; omega) (fun q hq => (dUZ 0 q (by omega) hq (by omega)).symm)
  obtain ⟨a', rfl⟩ : ∃ a', a = a' + 1 := ⟨a - 1, by omega⟩
  obtain ⟨b', rfl⟩ : ∃ b', b = b' + 1 := ⟨b - 1, by omega⟩
  have lowU := uU 0 (by omega)
  have upX := uX 0 (by omega)
  have UX : U 0 = X 0 := by rw [U0, X0]
  have top : Z (b' + 1) = U (a' + 1) := by rw [Zb, Ua]
  have uUa := uU a' (by omega)
  have uZb := uZ b' (by omega)
  have l1 := C.left s
  have l2 := C.left (s + ((a' + 1 : Nat) : Int))
  rw [← X0, show P (s - 1) = X 1 by rw [eX]; congr 1, show P (s + 1) = U 1 by rw [eU]; congr 1] at l1
  rw [← Ua, show P (s + ((a' + 1 : Nat) : Int) - 1) = U a' by rw [eU]; congr 1; omega, show P (s + ((a' + 1 : Nat) : Int) + 1) = Z b' by rw [eZ]; congr 1; omega] at l2
  have f1 : trP (X j) (X (j + 1)) (U (a' + 1)) < 0 := by
    have k0 : Leg (X 0) (X (0 + 1)) (U 0) (U (0 + 1)) := by
      refine ⟨fun _ => ?_, fun _ => ?_⟩
      · rw [tr_cyc, UX]; exact l1
      · rw [tr_swap]; exact Int.neg_neg_of_pos l1
    have := chain_up (A := X) (B := U) (i' := j) (j' := a') (fun p hp => uX p (by omega)) (fun q hq => uU q (by omega)) ⟨j1, by omega⟩ (j + a') 0 0 (by omega) (by omega) (by omega) ⟨by rw [← UX]; exact lowU, by rw [UX]; exact upX⟩
      (fun p q _ hp _ hq _ h => ⟨nXU p q (by omega) (by omega) (by omega), (dUX q p (by omega) (by omega) (by omega)).symm⟩)
      (fun p q _ hp _ hq => (dUX (q + 1) (p + 1) (by omega) (by omega) (by omega)).symm) k0
    exact this.2 (by omega)
  have f2 : trP (Z r) (Z (r + 1)) (U 0) < 0 := by
    have k1 : Lef (Z b') (Z (b' + 1)) (U a') (U (a' + 1)) := by
      refine ⟨fun _ => l2, fun _ => ?_⟩
      rw [tr_swap, top, tr_cyc]; exact Int.neg_neg_of_pos l2
    have := chain_down (A := Z) (B := U) (i' := b') (j' := a') (fun p hp => uZ p (by omega)) (fun q hq => uU q (by omega)) ⟨by rw [← top]; exact uZb, by rw [top]; exact uUa⟩ k1 (b' + a' - r) r 0 (by omega) (by omega) (by omega) ⟨by omega, r2⟩
      (fun p q _ hp _ hq _ h => ⟨nZU p q (by omega) (by omega) (by omega), (dUZ (q + 1) (p + 1) (by omega) (by omega) (by omega)).symm⟩)
      (fun p q _ hp _ hq => (dUZ q p (by omega) (by omega) (by omega)).symm)
    exact this.2 r1
  have k2 : Lef (X j) (X (j + 1)) (Z b') (Z (b' + 1)) := by
    refine (lef_iff (nXZ j b' hj (by omega)) (uX j hj) uZb (by rw [top]; exact j1) (by rw [top] at uZb; omega) (dXZ j b' (by omega) (by omega)) (dXZ (j + 1) (b' + 1) (by omega) (by omega))).2 ⟨fun h => absurd h (by rw [top]; omega), fun _ => ?_⟩
    rw [top]; exact f1
  have := chain_down (A := X) (B := Z) (i' := j) (j' := b') (fun p hp => uX p (by omega)) (fun q hq => uZ q (by omega)) ⟨by rw [top]; exact j1, by rw [top] at uZb; omega⟩ k2 (j + b' - r) 0 r (by omega) (by omega) (by omega) ⟨by rw [← UX]; exact r2, by rw [← UX] at upX; omega⟩
    (fun p q _ hp _ hq _ h => ⟨nXZ p q (by omega) (by omega), dXZ (p + 1) (q + 1) (by omega) (by omega)⟩)
    (fun p q _ hp _ hq => dXZ p q (by omega) (by omega))
  have f3 := this.1 (by rw [← UX]; omega)
  rw [← UX] at f3
  omega
end Sg
end Go.Vm
