/-
  Layer 8, plain: a ring that turns left everywhere is convex.
-/
import Derived.Test.YtgmlblmkcbcgaaaRingX
namespace Go.Vm
set_option maxRecDepth 20000
set_option linter.unusedVariables false
set_option linter.unusedSimpArgs false
open Go Go.RowKit Go.Proofs
namespace Sg

theorem max_at (f : Nat → Int) (p : Nat → Prop) : ∀ N : Nat, (∃ i, i < N ∧ p i) → ∃ i, i < N ∧ p i ∧ ∀ j, j < N → p j → f j ≤ f i
  | 0, ⟨i, h, _⟩ => absurd h (Nat.not_lt_zero _)
  | N + 1, ⟨i, hi, hp⟩ => by
    by_cases h : ∃ i, i < N ∧ p i
    · obtain ⟨k, h1, h2, h3⟩ := max_at f p N h
      by_cases c : p N ∧ f k < f N
      · refine ⟨N, by omega, c.1, fun j hj hpj => ?_⟩
        by_cases e : j = N
        · subst e; exact Int.le_refl _
        · have := h3 j (by omega) hpj; omega
      · refine ⟨k, by omega, h2, fun j hj hpj => ?_⟩
        by_cases e : j = N
        · subst e
          exact Int.not_lt.1 fun q => c ⟨hpj, q⟩
        · exact h3 j (by omega) hpj
    · have e : i = N := Classical.byContradiction fun q => h ⟨i, by omega, hp⟩
      subst e
      exact ⟨i, by omega, hp, fun j hj hpj => by
        by_cases e : j = i
        · subst e; exact Int.le_refl _
        · exact absurd ⟨j, by omega, hpj⟩ h⟩
/-- The first place at which heights do not grow. -/
theorem run_at (Q : Nat → Int) (n : Nat) (hne : ∀ k, Q k ≠ Q (k + 1)) (h0 : Q 0 < Q 1) (hn : Q n = Q 0) (hn1 : 1 ≤ n) : ∃ a, 1 ≤ a ∧ a < n ∧ (∀ p, p < a → Q p < Q (p + 1)) ∧ Q (a + 1) < Q a := by
  have key : ∀ N, (∀ p, p < N → Q p < Q (p + 1)) ∨ ∃ a, a < N ∧ (∀ p, p < a → Q p < Q (p + 1)) ∧ Q (a + 1) < Q a := by
    intro N
    induction N with
    | zero => exact .inl fun p h => absurd h (Nat.not_lt_zero _)
    | succ N ih =>
      rcases ih with h | ⟨a, h1, h2, h3⟩
      · by_cases c : Q N < Q (N + 1)
        · refine .inl fun p hp => ?_
          by_cases e : p = N
          · subst e; exact c
          · exact h p (by omega)
        · exact .inr ⟨N, by omega, h, by have := hne N; omega⟩
      · exact .inr ⟨a, by omega, h2, h3⟩
  rcases key n with h | ⟨a, h1, h2, h3⟩
  · have up : ∀ k, k ≤ n → 1 ≤ k → Q 0 < Q k := by
      intro k
      induction k with
      | zero => intro _ h; omega
      | succ k ih =>
        intro hk _
        have := h k (by omega)
        by_cases e : k = 0
        · subst e; exact h0
        · have := ih (by omega) (by omega); omega
    have := up n (Nat.le_refl _) hn1
    omega
  · refine ⟨a, ?_, h1, h2, h3⟩
    refine Classical.byContradiction fun q => ?_
    have e : a = 0 := by omega
    subst e
    rw [Nat.zero_add] at h3
    omega
theorem trX (a b c : V2) : trP (fX a) (fX b) (fX c) = -trP a b c := by
  simp only [trP, crossP, subP, fX]; grind
theorem onX {a b p : V2} : OnL (fX a) (fX b) (fX p) ↔ OnL a b p := by
  unfold OnL
  rw [trX]
  simp only [fX]
  omega
theorem nmX {a b p q : V2} (h : NM a b p q) : NM (fX a) (fX b) (fX p) (fX q) := by
  refine ⟨fun k => h.a_ (onX.1 k), fun k => h.b_ (onX.1 k), fun k => h.p_ (onX.1 k), fun k => h.q_ (onX.1 k), fun k => h.cr ?_⟩
  simp only [trX] at k
  omega
theorem Cyc.mirror {n : Int} {P : Int → V2} (C : Cyc n P) : Cyc n (fun i => fX (P (-i))) := by
  refine ⟨C.n3, fun i => ?_, fun i j h1 h2 => ?_, fun i => ?_, fun i j h1 h2 => ?_⟩
  · show fX (P (-(i + n))) = fX (P (-i))
    rw [← C.per (-(i + n))]
    congr 2; omega
  · show (P (-i)).y ≠ (P (-j)).y
    exact (C.dis (-j) (-i) (by omega) (by omega)).symm
  · show 0 < trP (fX (P (-(i - 1)))) (fX (P (-i))) (fX (P (-(i + 1))))
    have := C.left (-i)
    rw [trX, show -(i - 1) = -i + 1 by omega, show -(i + 1) = -i - 1 by omega, tr_rev]
    omega
  · show NM (fX (P (-i))) (fX (P (-(i + 1)))) (fX (P (-j))) (fX (P (-(j + 1))))
    refine nmX (NM.rev (NM.swap (nm_sym ?_)))
    have := C.nm (-(j + 1)) (-(i + 1)) (by omega) (by omega)
    rw [show -(j + 1) + 1 = -j by omega, show -(i + 1) + 1 = -i by omega] at this
    exact this
theorem Cyc.one {n : Int} {P : Int → V2} (C : Cyc n P) : ∃ (s : Int) (a c : Nat), 1 ≤ a ∧ 1 ≤ c ∧ (a : Int) + c = n ∧ (∀ p : Nat, p < a → (P (s + p)).y < (P (s + p + 1)).y) ∧ (∀ q : Nat, q < c → (P (s - q)).y < (P (s - q - 1)).y) := by
  have hn3 := C.n3
  have ne1 : ∀ i, (P i).y ≠ (P (i + 1)).y := fun i => C.dis i (i + 1) (by omega) (by omega)
  -- the lowest vertex
  obtain ⟨g, hg, _, hg2⟩ := max_at (fun i => -(P i).y) (fun _ => True) n.toNat ⟨0, by omega, trivial⟩
  have low : ∀ i : Int, 0 ≤ i → i < n → (P g).y ≤ (P i).y := fun i h0 h1 => by
    have := hg2 i.toNat (by omega) trivial
    rw [show ((i.toNat : Nat) : Int) = i by omega] at this
    omega
  have low2 : ∀ i : Int, -n ≤ i → i < n + n → (P g).y ≤ (P i).y := fun i h0 h1 => by
    by_cases c : i < 0
    · rw [← C.per i]; exact low _ (by omega) (by omega)
    · by_cases c2 : i < n
      · exact low i (by omega) c2
      · rw [show i = i - n + n by omega, C.per]; exact low _ (by omega) (by omega)
  obtain ⟨s0, hs, ⟨m1, m2⟩, hmax⟩ := max_at (fun i => (P i).y) (fun i => (P i).y < (P (i + 1)).y ∧ (P i).y < (P (i - 1)).y) n.toNat ⟨g, hg, by have := low2 (g + 1) (by omega) (by omega); have := ne1 g; omega, by
    have := low2 (g - 1) (by omega) (by omega)
    have := ne1 (g - 1)
    rw [show (g : Int) - 1 + 1 = g by omega] at this
    omega⟩
  obtain ⟨s, es⟩ : ∃ s : Int, s = (s0 : Nat) := ⟨_, rfl⟩
  rw [← es] at m1 m2
  have s0' : 0 ≤ s := by omega
  have s1' : s < n := by omega
  have top : ∀ t : Int, s - n < t → t < s + n → (P t).y < (P (t + 1)).y → (P t).y < (P (t - 1)).y → (P t).y ≤ (P s).y := fun t h0 h1 h2 h3 => by
    have key : ∀ u : Int, 0 ≤ u → u < n → (P u).y < (P (u + 1)).y → (P u).y < (P (u - 1)).y → (P u).y ≤ (P s).y := fun u h0 h1 h2 h3 => by
      have := hmax u.toNat (by omega) (by rw [show ((u.toNat : Nat) : Int) = u by omega]; exact ⟨h2, h3⟩)
      rw [show ((u.toNat : Nat) : Int) = u by omega, ← es] at this
      exact this
    by_cases c : t < 0
    · have e := C.per t
      have e1 := C.per (t + 1)
      have e2 := C.per (t - 1)
      rw [← e]
      refine key (t + n) (by omega) (by omega) ?_ ?_
      · rw [e, show t + n + 1 = t + 1 + n by omega, e1]; exact h2
      · rw [e, show t + n - 1 = t - 1 + n by omega, e2]; exact h3
    · by_cases c2 : t < n
      · exact key t (by omega) c2 h2 h3
      · have e := C.per (t - n)
        have e1 := C.per (t - n + 1)
        have e2 := C.per (t - n - 1)
        rw [show t - n + n = t by omega] at e
        rw [show t - n + 1 + n = t + 1 by omega] at e1
        rw [show t - n - 1 + n = t - 1 by omega] at e2
        rw [e]
        refine key (t - n) (by omega) (by omega) ?_ ?_
        · rw [← e, ← e1]; exact h2
        · rw [← e, ← e2]; exact h3
  have hnn : ((n.toNat : Nat) : Int) = n := by omega
  obtain ⟨a, a1, a2, a3, a4⟩ := run_at (fun p => (P (s + p)).y) n.toNat (fun k => by have := ne1 (s + k); rw [show s + ((k + 1 : Nat) : Int) = s + k + 1 by omega]; exact this) (by simpa using m1) (by simp only [hnn]; rw [C.per]; simp) (by omega)
  obtain ⟨c, c1, c2, c3, c4⟩ := run_at (fun q => (P (s - q)).y) n.toNat (fun k => by have := ne1 (s - k - 1); rw [show s - ((k + 1 : Nat) : Int) = s - k - 1 by omega]; rw [show s - (k : Int) - 1 + 1 = s - k by omega] at this; exact this.symm) (by simpa using m2) (by simp only [hnn]; rw [← C.per (s - n)]; simp) (by omega)
  have a3' : ∀ p : Nat, p < a → (P (s + p)).y < (P (s + p + 1)).y := fun p hp => by
    have := a3 p hp
    rw [show s + ((p + 1 : Nat) : Int) = s + p + 1 by omega] at this
    exact this
  have c3' : ∀ q : Nat, q < c → (P (s - q)).y < (P (s - q - 1)).y := fun q hq => by
    have := c3 q hq
    rw [show s - ((q + 1 : Nat) : Int) = s - q - 1 by omega] at this
    exact this
  have a4' : (P (s + a + 1)).y < (P (s + a)).y := by rw [show s + ((a + 1 : Nat) : Int) = s + a + 1 by omega] at a4; exact a4
  have c4' : (P (s - c - 1)).y < (P (s - c)).y := by rw [show s - ((c + 1 : Nat) : Int) = s - c - 1 by omega] at c4; exact c4
  have hac : (a : Int) + c ≤ n := by
    refine Classical.byContradiction fun q => ?_
    have h1 := a3' (n.toNat - c) (by omega)
    have h2 := c3' (c - 1) (by omega)
    rw [show s + ((n.toNat - c : Nat) : Int) = s - c + n by omega, show s - c + n + 1 = s - c + 1 + n by omega, C.per, C.per] at h1
    rw [show s - ((c - 1 : Nat) : Int) = s - c + 1 by omega, show s - (c : Int) + 1 - 1 = s - c by omega] at h2
    omega
  by_cases hfull : (a : Int) + c = n
  · exact ⟨s, a, c, a1, c1, hfull, a3', c3'⟩
  exfalso
  have hMM := C.dis (s - c) (s + a) (by omega) (by omega)
  by_cases hlt : (P (s + a)).y < (P (s - c)).y
  · obtain ⟨b, b1, b2, b3, b4⟩ := run_at (fun r => -(P (s + a + r)).y) n.toNat (fun k => by have := ne1 (s + a + k); rw [show s + (a : Int) + ((k + 1 : Nat) : Int) = s + a + k + 1 by omega]; omega) (by simp; omega) (by simp only [hnn]; rw [C.per]; simp) (by omega)
    have b3' : ∀ r : Nat, r < b → (P (s + a + r + 1)).y < (P (s + a + r)).y := fun r hr => by
      have := b3 r hr
      rw [show s + (a : Int) + ((r + 1 : Nat) : Int) = s + a + r + 1 by omega] at this
      omega
    have b4' : (P (s + a + b)).y < (P (s + a + b + 1)).y := by
      rw [show s + (a : Int) + ((b + 1 : Nat) : Int) = s + a + b + 1 by omega] at b4
      omega
    have habc : (a : Int) + b + c + 1 ≤ n := by
      refine Classical.byContradiction fun q => ?_
      have h1 := b3' (n.toNat - c - 1 - a) (by omega)
      rw [show s + (a : Int) + ((n.toNat - c - 1 - a : Nat) : Int) = s - c - 1 + n by omega, show s - (c : Int) - 1 + n + 1 = s - c + n by omega, C.per, C.per] at h1
      omega
    have h1 := b3' (b - 1) (by omega)
    rw [show s + (a : Int) + ((b - 1 : Nat) : Int) + 1 = s + a + b by omega, show s + (a : Int) + ((b - 1 : Nat) : Int) = s + a + b - 1 by omega] at h1
    have h2 := top (s + a + b) (by omega) (by omega) b4' h1
    have h3 := C.dis s (s + a + b) (by omega) (by omega)
    exact C.pocket s a b c a1 b1 c1 habc a3' c3' b3' hlt (by omega)
  · obtain ⟨b, b1, b2, b3, b4⟩ := run_at (fun r => -(P (s - c - r)).y) n.toNat (fun k => by have := ne1 (s - c - k - 1); rw [show s - (c : Int) - ((k + 1 : Nat) : Int) = s - c - k - 1 by omega]; rw [show s - (c : Int) - k - 1 + 1 = s - c - k by omega] at this; omega) (by simp; omega) (by simp only [hnn]; rw [← C.per (s - c - n)]; simp) (by omega)
    have b3' : ∀ r : Nat, r < b → (P (s - c - r - 1)).y < (P (s - c - r)).y := fun r hr => by
      have := b3 r hr
      rw [show s - (c : Int) - ((r + 1 : Nat) : Int) = s - c - r - 1 by omega] at this
      omega
    have b4' : (P (s - c - b)).y < (P (s - c - b - 1)).y := by
      rw [show s - (c : Int) - ((b + 1 : Nat) : Int) = s - c - b - 1 by omega] at b4
      omega
    have habc : (a : Int) + b + c + 1 ≤ n := by
      refine Classical.byContradiction fun q => ?_
      have h1 := b3' (n.toNat - c - 1 - a) (by omega)
      rw [← C.per (s - c - ((n.toNat - c - 1 - a : Nat) : Int) - 1), ← C.per (s - c - ((n.toNat - c - 1 - a : Nat) : Int)), show s - (c : Int) - ((n.toNat - c - 1 - a : Nat) : Int) - 1 + n = s + a by omega, show s - (c : Int) - ((n.toNat - c - 1 - a : Nat) : Int) + n = s + a + 1 by omega] at h1
      omega
    have h1 := b3' (b - 1) (by omega)
    rw [show s - (c : Int) - ((b - 1 : Nat) : Int) - 1 = s - c - b by omega, show s - (c : Int) - ((b - 1 : Nat) : Int) = s - c - b + 1 by omega] at h1
    have h2 := top (s - c - b) (by omega) (by omega) h1 b4'
    have h3 := C.dis (s - c - b) s (by omega) (by omega)
    refine C.mirror.pocket (-s) c b a c1 b1 a1 (by omega) (fun p hp => ?_) (fun q hq => ?_) (fun r hr => ?_) ?_ ?_
    · show (P (-(-s + (p : Int)))).y < (P (-(-s + (p : Int) + 1))).y
      rw [show -(-s + (p : Int)) = s - p by omega, show -(-s + (p : Int) + 1) = s - p - 1 by omega]
      exact c3' p hp
    · show (P (-(-s - (q : Int)))).y < (P (-(-s - (q : Int) - 1))).y
      rw [show -(-s - (q : Int)) = s + q by omega, show -(-s - (q : Int) - 1) = s + q + 1 by omega]
      exact a3' q hq
    · show (P (-(-s + (c : Int) + r + 1))).y < (P (-(-s + (c : Int) + r))).y
      rw [show -(-s + (c : Int) + r + 1) = s - c - r - 1 by omega, show -(-s + (c : Int) + r) = s - c - r by omega]
      exact b3' r hr
    · show (P (-(-s + (c : Int)))).y < (P (-(-s - (a : Int)))).y
      rw [show -(-s + (c : Int)) = s - c by omega, show -(-s - (a : Int)) = s + a by omega]
      omega
    · show (P (-(-s + (c : Int) + b))).y < (P (-(-s))).y
      rw [show -(-s + (c : Int) + b) = s - c - b by omega, show -(-s) = s by omega]
      omega
end Sg
end Go.Vm
