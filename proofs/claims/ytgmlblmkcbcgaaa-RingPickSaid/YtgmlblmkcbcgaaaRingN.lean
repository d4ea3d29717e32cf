/-
  Layer 8, plain: the turn that a closed chain makes as seen from a point on an edge, and from a point off the chain.
-/
import Derived.Test.YtgmlblmkcbcgaaaRingT
namespace Go.Vm
set_option maxRecDepth 20000
set_option linter.unusedVariables false
set_option linter.unusedSimpArgs false
open Go Go.RowKit Go.Proofs
namespace Sg

theorem det3 (u v w : V2) : crossP u v * w.x = crossP w v * u.x + crossP u w * v.x ∧ crossP u v * w.y = crossP w v * u.y + crossP u w * v.y := by
  simp only [crossP]; constructor <;> grind
theorem on_lvx {a b p : V2} (h0 : trP a b p = 0) (h1 : a.x < b.x) (h2 : a.x ≤ p.x) (h3 : p.x ≤ b.x) : OnL a b p := by
  refine ⟨h0, .inl h2, .inr h3, ?_, ?_⟩
  all_goals
    simp only [trP, crossP, subP] at h0
    have e1 : (b.y - a.y) * (b.x - p.x) = (b.x - a.x) * (b.y - p.y) := by grind
    have f1 := nnf (b.y - a.y) (show 0 ≤ p.x - a.x by omega)
    have f2 := posf (p.y - a.y) (show 0 < b.x - a.x by omega)
    have f3 := nnf (b.y - a.y) (show 0 ≤ b.x - p.x by omega)
    have f4 := posf (b.y - p.y) (show 0 < b.x - a.x by omega)
    rw [Int.mul_comm (b.x - a.x)] at h0 e1
    generalize (b.y - a.y) * (p.x - a.x) = m1 at *
    generalize (p.y - a.y) * (b.x - a.x) = m2 at *
    generalize (b.y - a.y) * (b.x - p.x) = m3 at *
    generalize (b.y - p.y) * (b.x - a.x) = m4 at *
    omega
theorem sgm {x y : Int} : (0 < x → 0 < y → 0 < x * y) ∧ (x < 0 → y < 0 → 0 < x * y) ∧ (0 < x → y < 0 → x * y < 0) ∧ (x < 0 → 0 < y → x * y < 0) :=
  ⟨Int.mul_pos, fun a b => Int.mul_pos_of_neg_of_neg a b, fun a b => Int.mul_neg_of_pos_of_neg a b, fun a b => Int.mul_neg_of_neg_of_pos a b⟩
theorem mz {x y : Int} (h : x * y = 0) : x = 0 ∨ y = 0 := Int.mul_eq_zero.1 h
theorem nn_zero {d1 d2 A B : Int} (h : d1 * A + d2 * B = 0) (hd : (0 ≤ d1 ∧ 0 ≤ d2) ∨ (d1 ≤ 0 ∧ d2 ≤ 0)) (hA : (0 ≤ A ∧ 0 ≤ B) ∨ (A ≤ 0 ∧ B ≤ 0)) : d1 * A = 0 ∧ d2 * B = 0 := by
  rcases hd with ⟨h1, h2⟩ | ⟨h1, h2⟩ <;> rcases hA with ⟨h3, h4⟩ | ⟨h3, h4⟩
  · have := Int.mul_nonneg h1 h3
    have := Int.mul_nonneg h2 h4
    omega
  · have := Int.mul_nonpos_of_nonneg_of_nonpos h1 h3
    have := Int.mul_nonpos_of_nonneg_of_nonpos h2 h4
    omega
  · have := Int.mul_nonpos_of_nonpos_of_nonneg h1 h3
    have := Int.mul_nonpos_of_nonpos_of_nonneg h2 h4
    omega
  · have := Int.mul_nonneg_of_nonpos_of_nonpos h1 h3
    have := Int.mul_nonneg_of_nonpos_of_nonpos h2 h4
    omega
theorem same_sign {u v A B : Int} (h : u * A = v * B) (hs : (0 < u ∧ 0 < v) ∨ (u < 0 ∧ v < 0)) : (0 < A → 0 < B) ∧ (A < 0 → B < 0) := by
  have key : ∀ {u v : Int}, u * A = v * B → 0 < u → 0 < v → (0 < A → 0 < B) ∧ (A < 0 → B < 0) := by
    intro u v h hu hv
    have f := posf A hu
    have g := posf B hv
    rw [Int.mul_comm u, Int.mul_comm v] at h
    generalize A * u = m1 at *
    generalize B * v = m2 at *
    constructor <;> intro k
    · rcases Int.lt_trichotomy B 0 with hB | hB | hB
      · have := f.1 k; have := g.2.1 hB; omega
      · have := f.1 k; have := g.2.2 hB; omega
      · exact hB
    · rcases Int.lt_trichotomy B 0 with hB | hB | hB
      · exact hB
      · have := f.2.1 k; have := g.2.2 hB; omega
      · have := f.2.1 k; have := g.1 hB; omega
  rcases hs with ⟨a, b⟩ | ⟨a, b⟩
  · exact key h a b
  · refine key (u := -u) (v := -v) ?_ (by omega) (by omega)
    rw [Int.neg_mul, Int.neg_mul, h]
theorem mid3 {u v w A B D : Int} (h : u * A = v * B + w * D) (hs : (0 < u ∧ 0 < v ∧ 0 ≤ w) ∨ (u < 0 ∧ v < 0 ∧ w ≤ 0)) : (0 < A → D < 0 → 0 < B) ∧ (A < 0 → 0 < D → B < 0) := by
  have key : ∀ {u v w : Int}, u * A = v * B + w * D → 0 < u → 0 < v → 0 ≤ w → (0 < A → D < 0 → 0 < B) ∧ (A < 0 → 0 < D → B < 0) := by
    intro u v w h hu hv hw
    have f := posf A hu
    have g := posf B hv
    rw [Int.mul_comm u, Int.mul_comm v] at h
    constructor <;> intro k k'
    · have e := Int.mul_nonpos_of_nonneg_of_nonpos hw (Int.le_of_lt k')
      have := f.1 k
      generalize A * u = m1 at *
      generalize B * v = m2 at *
      generalize w * D = m3 at *
      rcases Int.lt_trichotomy B 0 with hB | hB | hB
      · have := g.2.1 hB; omega
      · have := g.2.2 hB; omega
      · exact hB
    · have e := Int.mul_nonneg hw (Int.le_of_lt k')
      have := f.2.1 k
      generalize A * u = m1 at *
      generalize B * v = m2 at *
      generalize w * D = m3 at *
      rcases Int.lt_trichotomy B 0 with hB | hB | hB
      · exact hB
      · have := g.2.2 hB; omega
      · have := g.1 hB; omega
  rcases hs with ⟨a, b, c⟩ | ⟨a, b, c⟩
  · exact key h a b c
  · refine key (u := -u) (v := -v) (w := -w) ?_ (by omega) (by omega) (by omega)
    rw [Int.neg_mul, Int.neg_mul, Int.neg_mul, h]; omega
/-- A point of [a, b] on the line p q: the ends lie on different sides of this line, or both on it, or it is an end. -/
theorem on_sides {a b p q r : V2} (h1 : trP p q r = 0) (h2 : OnL a b r) :
    r = a ∨ r = b ∨ (trP p q a = 0 ∧ trP p q b = 0) ∨ (0 < trP p q a ∧ trP p q b < 0) ∨ (trP p q a < 0 ∧ 0 < trP p q b) := by
  obtain ⟨h0, b1, b2, b3, b4⟩ := h2
  have ex : (b.x - r.x) * trP p q a + (r.x - a.x) * trP p q b = 0 := by simp only [trP, crossP, subP] at *; grind
  have ey : (b.y - r.y) * trP p q a + (r.y - a.y) * trP p q b = 0 := by simp only [trP, crossP, subP] at *; grind
  clear h0 h1
  generalize trP p q a = A at *
  generalize trP p q b = B at *
  by_cases hs : (0 ≤ A ∧ 0 ≤ B) ∨ (A ≤ 0 ∧ B ≤ 0)
  · obtain ⟨x1, x2⟩ := nn_zero ex (by omega) hs
    obtain ⟨y1, y2⟩ := nn_zero ey (by omega) hs
    by_cases hA : A = 0
    · by_cases hB : B = 0
      · exact .inr (.inr (.inl ⟨hA, hB⟩))
      · left
        rcases mz x2 with k | k
        · rcases mz y2 with k' | k'
          · exact V2.ext (by omega) (by omega)
          · exact absurd k' hB
        · exact absurd k hB
    · right; left
      rcases mz x1 with k | k
      · rcases mz y1 with k' | k'
        · exact V2.ext (by omega) (by omega)
        · exact absurd k' hA
      · exact absurd k hA
  · right; right; right
    omega
theorem onL_endb (a b : V2) : OnL a b b := onL_swap.1 (onL_end b a)
/-- Segments that do not meet have no point in common. -/
theorem NM.disj {a b p q r : V2} (h : NM a b p q) (h1 : OnL p q r) : ¬ OnL a b r := by
  intro h2
  rcases on_sides h1.1 h2 with e | e | k1
  · rw [e] at h1; exact h.a_ h1
  · rw [e] at h1; exact h.b_ h1
  rcases on_sides h2.1 h1 with e | e | k2
  · rw [e] at h2; exact h.p_ h2
  · rw [e] at h2; exact h.q_ h2
  have sm : trP p q a - trP p q b = trP a b q - trP a b p := by simp only [trP, crossP, subP]; grind
  have cr := h.cr
  have z : trP p q a = 0 ∧ trP p q b = 0 ∧ trP a b p = 0 ∧ trP a b q = 0 := by omega
  clear cr sm k1 k2
  obtain ⟨z1, z2, z3, z4⟩ := z
  by_cases cx : p.x = q.x
  · by_cases cy : p.y = q.y
    · have e : p = q := V2.ext cx cy
      subst e
      obtain ⟨_, x1, x2, x3, x4⟩ := h1
      have : r = p := V2.ext (by omega) (by omega)
      rw [this] at h2; exact h.p_ h2
    · have key : ∀ {a b p q r : V2}, NM a b p q → OnL p q r → OnL a b r → trP p q a = 0 → trP p q b = 0 → trP a b p = 0 → p.y < q.y → a.y ≤ b.y → False := by
        intro a b p q r h h1 h2 z1 z2 z3 hp ha
        have n1 := fun x y => h.a_ (on_level z1 hp x y)
        have n2 := fun x y => h.b_ (on_level z2 hp x y)
        have n3 := fun w x y => h.p_ (on_level z3 w x y)
        obtain ⟨_, _, _, x3, x4⟩ := h1
        obtain ⟨_, _, _, y3, y4⟩ := h2
        have m1 : ¬ (p.y ≤ a.y ∧ a.y ≤ q.y) := fun k => n1 k.1 k.2
        have m2 : ¬ (p.y ≤ b.y ∧ b.y ≤ q.y) := fun k => n2 k.1 k.2
        have m3 : ¬ (a.y < b.y ∧ a.y ≤ p.y ∧ p.y ≤ b.y) := fun k => n3 k.1 k.2.1 k.2.2
        clear n1 n2 n3
        omega
      rcases Int.lt_or_gt_of_ne cy with c | c <;> rcases Int.le_total a.y b.y with d | d
      · exact key h h1 h2 z1 z2 z3 c d
      · exact key h.rev h1 (onL_swap.2 h2) z2 z1 (by rw [tr_swap, z3]; rfl) c d
      · exact key h.swap (onL_swap.2 h1) h2 (by rw [tr_swap, z1]; rfl) (by rw [tr_swap, z2]; rfl) z4 c d
      · exact key h.rev.swap (onL_swap.2 h1) (onL_swap.2 h2) (by rw [tr_swap, z2]; rfl) (by rw [tr_swap, z1]; rfl) (by rw [tr_swap, z4]; rfl) c d
  · have key : ∀ {a b p q r : V2}, NM a b p q → OnL p q r → OnL a b r → trP p q a = 0 → trP p q b = 0 → trP a b p = 0 → p.x < q.x → a.x ≤ b.x → False := by
      intro a b p q r h h1 h2 z1 z2 z3 hp ha
      have n1 := fun x y => h.a_ (on_lvx z1 hp x y)
      have n2 := fun x y => h.b_ (on_lvx z2 hp x y)
      have n3 := fun w x y => h.p_ (on_lvx z3 w x y)
      obtain ⟨_, x3, x4, _, _⟩ := h1
      obtain ⟨_, y3, y4, _, _⟩ := h2
      have m1 : ¬ (p.x ≤ a.x ∧ a.x ≤ q.x) := fun k => n1 k.1 k.2
      have m2 : ¬ (p.x ≤ b.x ∧ b.x ≤ q.x) := fun k => n2 k.1 k.2
      have m3 : ¬ (a.x < b.x ∧ a.x ≤ p.x ∧ p.x ≤ b.x) := fun k => n3 k.1 k.2.1 k.2.2
      clear n1 n2 n3
      omega
    rcases Int.lt_or_gt_of_ne cx with c | c <;> rcases Int.le_total a.x b.x with d | d
    · exact key h h1 h2 z1 z2 z3 c d
    · exact key h.rev h1 (onL_swap.2 h2) z2 z1 (by rw [tr_swap, z3]; rfl) c d
    · exact key h.swap (onL_swap.2 h1) h2 (by rw [tr_swap, z1]; rfl) (by rw [tr_swap, z2]; rfl) z4 c d
    · exact key h.rev.swap (onL_swap.2 h1) (onL_swap.2 h2) (by rw [tr_swap, z2]; rfl) (by rw [tr_swap, z1]; rfl) (by rw [tr_swap, z4]; rfl) c d
/-- With a point r of [p, q]: the part [r, q]. -/
theorem sub_lin {p q r a : V2} (h : trP p q r = 0) : (q.x - p.x) * trP r q a = (q.x - r.x) * trP p q a ∧ (q.y - p.y) * trP r q a = (q.y - r.y) * trP p q a := by
  simp only [trP, crossP, subP] at *; constructor <;> grind
theorem sub_mid {p q r a b : V2} (h : trP p q r = 0) : (q.x - p.x) * trP a b r = (q.x - r.x) * trP a b p + (r.x - p.x) * trP a b q ∧ (q.y - p.y) * trP a b r = (q.y - r.y) * trP a b p + (r.y - p.y) * trP a b q := by
  simp only [trP, crossP, subP] at *; constructor <;> grind
theorem OnL.trans {p q r a : V2} (h : OnL p q r) (k : OnL r q a) : OnL p q a := by
  obtain ⟨h0, h1, h2, h3, h4⟩ := h
  obtain ⟨k0, k1, k2, k3, k4⟩ := k
  refine ⟨?_, by omega, by omega, by omega, by omega⟩
  obtain ⟨e1, e2⟩ := sub_lin (a := a) h0
  rw [k0, Int.mul_zero] at e1 e2
  rcases mz e1.symm with c1 | c1
  · rcases mz e2.symm with c2 | c2
    · have : a = q := V2.ext (by omega) (by omega)
      rw [this]; exact (onL_endb p q).1
    · exact c2
  · exact c1
/-- Along [r, q], a turn has the direction that it has along [p, q]. -/
theorem sub_sign {p q r a : V2} (h : OnL p q r) : (0 < trP r q a → 0 < trP p q a) ∧ (trP r q a < 0 → trP p q a < 0) := by
  obtain ⟨h0, h1, h2, h3, h4⟩ := h
  obtain ⟨e1, e2⟩ := sub_lin (a := a) h0
  by_cases c1 : q.x = r.x
  · by_cases c2 : q.y = r.y
    · have z : q = r := V2.ext c1 c2
      have : trP r q a = 0 := by rw [z]; simp only [trP, crossP, subP]; grind
      omega
    · exact same_sign e2 (by omega)
  · exact same_sign e1 (by omega)
theorem mid_sign {p q r a b : V2} (h : OnL p q r) : (0 < trP a b r → trP a b q < 0 → 0 < trP a b p) ∧ (trP a b r < 0 → 0 < trP a b q → trP a b p < 0) := by
  obtain ⟨h0, h1, h2, h3, h4⟩ := h
  obtain ⟨e1, e2⟩ := sub_mid (a := a) (b := b) h0
  by_cases c1 : q.x = r.x
  · by_cases c2 : q.y = r.y
    · have z : q = r := V2.ext c1 c2
      subst z
      omega
    · exact mid3 e2 (by omega)
  · exact mid3 e1 (by omega)
theorem NM.sub {a b p q r : V2} (h : NM a b p q) (hr : OnL p q r) : NM a b r q := by
  refine ⟨fun k => h.a_ (hr.trans k), fun k => h.b_ (hr.trans k), h.disj hr, h.q_, fun ⟨k1, k2⟩ => h.cr ?_⟩
  have a1 := sub_sign (a := a) hr
  have a2 := sub_sign (a := b) hr
  have a3 := mid_sign (a := a) (b := b) hr
  refine ⟨?_, ?_⟩
  · rcases k1 with ⟨x, y⟩ | ⟨x, y⟩
    · exact .inl ⟨a1.1 x, a2.2 y⟩
    · exact .inr ⟨a1.2 x, a2.1 y⟩
  · rcases k2 with ⟨x, y⟩ | ⟨x, y⟩
    · exact .inl ⟨a3.1 x y, y⟩
    · exact .inr ⟨a3.2 x y, y⟩
/-- The edge before a corner, and the part of the next edge that does not begin with the corner. -/
theorem nm_corner {a b q p : V2} (ht : trP a b q ≠ 0) (hp : OnL b q p) (hb : p ≠ b) : NM a b p q := by
  have sg : (0 < trP a b q → 0 < trP a b p) ∧ (trP a b q < 0 → trP a b p < 0) := by
    obtain ⟨h0, h1, h2, h3, h4⟩ := hp
    have e1 : (q.x - b.x) * trP a b p = (p.x - b.x) * trP a b q := by simp only [trP, crossP, subP] at *; grind
    have e2 : (q.y - b.y) * trP a b p = (p.y - b.y) * trP a b q := by simp only [trP, crossP, subP] at *; grind
    have nb : p.x ≠ b.x ∨ p.y ≠ b.y := Classical.byContradiction fun h => hb (V2.ext (by omega) (by omega))
    rcases nb with c | c
    · exact same_sign e1.symm (by omega)
    · exact same_sign e2.symm (by omega)
  refine ⟨fun k => ht ?_, fun k => hb ?_, fun k => ?_, fun k => ht k.1, fun ⟨_, k⟩ => by omega⟩
  · have := (hp.trans k).1
    have e : trP a b q = trP b q a := by simp only [trP, crossP, subP]; grind
    rw [e]; exact this
  · obtain ⟨_, x1, x2, x3, x4⟩ := hp
    obtain ⟨_, y1, y2, y3, y4⟩ := k
    exact V2.ext (by omega) (by omega)
  · have := k.1; omega
/-- Edges that follow each other have only their corner in common. -/
theorem two_lines {a b c q : V2} (ht : trP a b c ≠ 0) (h1 : trP a b q = 0) (h2 : trP b c q = 0) : q = b := by
  have d := det3 (subP b a) (subP c b) (subP q b)
  have e1 : crossP (subP b a) (subP c b) = trP a b c := by simp only [trP, crossP, subP]; grind
  have e2 : crossP (subP q b) (subP c b) = -trP b c q := by simp only [trP, crossP, subP]; grind
  have e3 : crossP (subP b a) (subP q b) = trP a b q := by simp only [trP, crossP, subP]; grind
  rw [e1, e2, e3, h1, h2] at d
  simp only [subP, Int.neg_zero, Int.zero_mul, Int.add_zero] at d
  rcases mz d.1 with k | k
  · exact absurd k ht
  rcases mz d.2 with k' | k'
  · exact absurd k' ht
  exact V2.ext (by omega) (by omega)
/-- The same direction. -/
theorem tq_par {a b p : V2} (h : OnL a b p) (hb : p ≠ b) (X : V2) : tq (subP b p) X = tq (subP b a) X := by
  obtain ⟨h0, h1, h2, h3, h4⟩ := h
  have eX : X = ⟨1 * X.x, 1 * X.y⟩ := V2.ext (by simp) (by simp)
  have key : ∀ m k : Int, 0 < m → 0 < k → m * (b.x - p.x) = k * (b.x - a.x) → m * (b.y - p.y) = k * (b.y - a.y) → tq (subP b p) X = tq (subP b a) X := by
    intro m k hm hk e1 e2
    rw [← tq_scale hm (show (0 : Int) < 1 by decide) (subP b p) X, ← tq_scale hk (show (0 : Int) < 1 by decide) (subP b a) X]
    simp only [subP]
    rw [e1, e2]
  simp only [trP, crossP, subP] at h0
  by_cases cx : b.x = p.x
  · have cy : b.y ≠ p.y := fun cy => hb (V2.ext cx.symm cy.symm)
    have ex : b.x = a.x := by
      have : (b.x - a.x) * (b.y - p.y) = 0 := by grind
      rcases mz this with k | k <;> omega
    rcases Int.lt_or_gt_of_ne cy with c | c
    · exact key (a.y - b.y) (p.y - b.y) (by omega) (by omega) (by rw [cx, ← ex, ← cx]; simp) (by grind)
    · exact key (b.y - a.y) (b.y - p.y) (by omega) (by omega) (by rw [cx, ← ex, ← cx]; simp) (by grind)
  · rcases Int.lt_or_gt_of_ne cx with c | c
    · exact key (a.x - b.x) (p.x - b.x) (by omega) (by omega) (by grind) (by grind)
    · exact key (b.x - a.x) (b.x - p.x) (by omega) (by omega) (by grind) (by grind)
section
variable {n : Nat} {P : Int → V2} (C : Smp n P)
include C
/-- Seen from a point of an edge. -/
theorem Smp.on_edge {K : Int} (hK : ∀ i : Nat, rowV n P i + tauV P i = K) {i : Nat} {p : V2} (ho : OnL (P i) (P (i + 1)) p) (h1 : p ≠ P i) (h2 : p ≠ P (i + 1)) : rowT P p (i + 1) (n - 1) = K := by
  have h3 := C.n3
  obtain ⟨m, rfl⟩ : ∃ m, n = m + 3 := ⟨n - 3, by omega⟩
  have a1 : (i : Int) + 2 + m = i - 1 + ((m + 3 : Nat) : Int) := by omega
  have a2 : (i : Int) + 2 + m + 1 = i + ((m + 3 : Nat) : Int) := by omega
  have k := row_chain (P := P) (p := p) (q := P (i + 1)) (s := i + 2) (m + 1) (fun j hj => by
    by_cases c : j = m
    · subst c
      rw [a2, a1, C.per, C.per]
      exact nm_corner (C.turn i) ho h1
    · exact (C.nm i (i + 2 + j) (by omega) (by omega)).sym.sub ho)
  rw [show (i : Int) + 2 + ((m + 1 : Nat) : Int) = i + ((m + 3 : Nat) : Int) by omega, C.per] at k
  have l : tq (subP (P i) p) (subP (P i) (P (i + 1))) = 0 := tq_line (by
    have := ho.1
    simp only [trP, crossP, subP] at *; grind)
  have e1 := rowT_succ P p (i + 1) (m + 1)
  rw [show (i : Int) + 1 + 1 = i + 2 by omega] at e1
  have t1 := tri_at p (P (i + 1)) (P (i + 2))
  have t2 := tq_par ho h2 (subP (P (i + 2)) (P (i + 1)))
  have r := hK (i + 1)
  unfold rowV tauV at r
  rw [show ((i + 1 : Nat) : Int) = i + 1 by omega, show (i : Int) + 1 + 1 = i + 2 by omega, show (i : Int) + 1 - 1 = i by omega] at r
  show rowT P p (i + 1) (m + 1 + 1) = K
  have e2 : rowT P (P (i + 1)) (i + 2) (m + 3 - 2) = rowT P (P (i + 1)) (i + 2) (m + 1) := rfl
  rw [e1]
  omega
/-- No point but the corners lies on two edges. -/
theorem Smp.one_edge {i j : Int} {q : V2} (h1 : i < j) (h2 : j < i + n) (hq : OnL (P i) (P (i + 1)) q) (hn : q ≠ P i) (hn' : q ≠ P (i + 1)) : ¬ OnL (P j) (P (j + 1)) q := by
  intro hk
  by_cases c1 : j = i + 1
  · subst c1
    have t := C.turn (i + 1)
    rw [show i + 1 - 1 = i by omega] at t
    exact hn' (two_lines t hq.1 hk.1)
  by_cases c2 : j + 1 = i + n
  · have e : P (j + 1) = P i := by rw [c2, C.per]
    have e' : P j = P (i - 1) := by rw [← C.per (i - 1)]; congr 1; omega
    rw [e, e'] at hk
    exact hn (two_lines (C.turn i) hk.1 hq.1)
  · exact (C.nm i j (by omega) (by omega)).disj hk hq
omit C in
theorem per_shift {f : Int → Int} {n : Nat} (per : ∀ i, f (i + n) = f i) (g : Int → Nat → Int) (h0 : ∀ s, g s 0 = 0) (hs : ∀ s m, g s (m + 1) = g s m + f (s + m)) {s : Nat} (hsn : s ≤ n) : g s n = g 0 n := by
  have add : ∀ (s : Int) (a b : Nat), g s (a + b) = g s a + g (s + a) b := fun s a b => by
    induction b with
    | zero => simp [h0]
    | succ b ih =>
      rw [← Nat.add_assoc, hs, hs, ih, show s + ((a + b : Nat) : Int) = s + a + b by omega]
      omega
  have a := add 0 s (n - s)
  have b := add s (n - s) s
  rw [show s + (n - s) = n by omega, Int.zero_add] at a
  rw [show n - s + s = n by omega] at b
  have e : ∀ m : Nat, g (s + ((n - s : Nat) : Int)) m = g 0 m := fun m => by
    induction m with
    | zero => rw [h0, h0]
    | succ m ih =>
      rw [hs, hs, ih, show (s : Int) + ((n - s : Nat) : Int) + m = 0 + m + n by omega, per]
  rw [e] at b
  omega
theorem Smp.row_shift (p : V2) {s : Nat} (hs : s ≤ n) : rowT P p s n = rowT P p 0 n := by
  refine per_shift (f := fun j => tq (subP (P j) p) (subP (P (j + 1)) p)) (fun i => ?_) (fun s m => rowT P p s m) (fun s => rfl) (fun s m => rfl) hs
  show tq (subP (P (i + n)) p) (subP (P (i + n + 1)) p) = tq (subP (P i) p) (subP (P (i + 1)) p)
  rw [show i + n + 1 = i + 1 + n by omega, C.per, C.per]
end
end Sg
end Go.Vm
