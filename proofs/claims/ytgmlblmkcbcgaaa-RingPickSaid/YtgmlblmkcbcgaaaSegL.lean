/-
  Layer 7: the order of vectors, sorted lists, points on segments, in plain numbers.
  Layer 7: what the program finds two segments to have in common is what the reference finds.
-/
import Derived.Test.YtgmlblmkcbcgaaaSegJ
namespace Go.Vm
set_option maxRecDepth 20000
set_option linter.unusedVariables false
set_option linter.unusedSimpArgs false
namespace Sg
open Go Go.RowKit Go.Proofs

theorem less_iff {a b : V2} : lessB a b = true ↔ a.y < b.y ∨ (a.y = b.y ∧ a.x < b.x) := by
  simp [lessB]
theorem less_tri (a b : V2) : lessB a b = true ∨ a = b ∨ lessB b a = true := by
  rw [less_iff, less_iff, V2.eq_iff]
  omega
theorem less_irr (a : V2) : lessB a a = false := by
  rw [Bool.eq_false_iff, Ne, less_iff]
  omega
theorem less_trans {a b c : V2} (h : lessB a b = true) (k : lessB b c = true) : lessB a c = true := by
  rw [less_iff] at *
  omega
theorem less_asymm {a b : V2} (h : lessB a b = true) : lessB b a = false := by
  rw [less_iff] at h
  rw [Bool.eq_false_iff, Ne, less_iff]
  omega
/-! ### sorted lists -/
def Asc : List V2 → Prop
  | [] => True
  | x :: r => (∀ y ∈ r, lessB x y = true) ∧ Asc r
theorem mem_insV {v e : V2} : ∀ {l : List V2}, e ∈ insV l v ↔ e = v ∨ e ∈ l
  | [] => by simp [insV]
  | x :: r => by
    simp only [insV]
    split
    · rw [List.mem_cons, mem_insV, List.mem_cons]
      constructor
      · rintro (h | h | h)
        · exact .inr (.inl h)
        · exact .inl h
        · exact .inr (.inr h)
      · rintro (h | h | h)
        · exact .inr (.inl h)
        · exact .inl h
        · exact .inr (.inr h)
    · split
      · rename_i hxv
        subst hxv
        simp
      · simp
theorem asc_insV {v : V2} : ∀ {l : List V2}, Asc l → Asc (insV l v)
  | [], _ => by simp [insV, Asc]
  | x :: r, h => by
    simp only [insV]
    split
    · rename_i hlt
      refine ⟨fun y hy => ?_, asc_insV h.2⟩
      rcases mem_insV.1 hy with rfl | hy
      · exact hlt
      · exact h.1 y hy
    · rename_i hnl
      split
      · exact h
      · rename_i hne
        have hvx : lessB v x = true := by
          rcases less_tri x v with k | k | k
          · exact absurd k hnl
          · exact absurd k hne
          · exact k
        refine ⟨fun y hy => ?_, h⟩
        rcases List.mem_cons.1 hy with rfl | hy
        · exact hvx
        · exact less_trans hvx (h.1 y hy)
theorem sort_facts (l : List V2) : Asc (sortV l) ∧ ∀ e, e ∈ sortV l ↔ e ∈ l := by
  have : ∀ (l o : List V2), Asc o → Asc (l.foldl insV o) ∧ ∀ e, e ∈ l.foldl insV o ↔ e ∈ l ∨ e ∈ o := by
    intro l
    induction l with
    | nil => intro o h; exact ⟨h, fun e => by simp⟩
    | cons x l ih =>
      intro o h
      obtain ⟨h1, h2⟩ := ih (insV o x) (asc_insV h)
      refine ⟨h1, fun e => ?_⟩
      rw [List.foldl_cons, h2 e, mem_insV, List.mem_cons]
      constructor
      · rintro (h | h | h)
        · exact .inl (.inr h)
        · exact .inl (.inl h)
        · exact .inr h
      · rintro ((h | h) | h)
        · exact .inr (.inl h)
        · exact .inl h
        · exact .inr (.inr h)
  obtain ⟨h1, h2⟩ := this l [] trivial
  exact ⟨h1, fun e => by rw [show sortV l = l.foldl insV [] from rfl, h2 e]; simp⟩
/-- A list whose elements are all the same vector. -/
theorem sort_one {l : List V2} {p : V2} (h : ∀ e, e ∈ l ↔ e = p) : sortV l = [p] := by
  obtain ⟨h1, h2⟩ := sort_facts l
  generalize sortV l = m at h1 h2
  have hm : ∀ e, e ∈ m ↔ e = p := fun e => (h2 e).trans (h e)
  match m, h1, hm with
  | [], _, hm => exact absurd ((hm p).2 rfl) (by simp)
  | [x], _, hm => rw [(hm x).1 (by simp)]
  | x :: y :: r, h1, hm =>
    have e1 := (hm x).1 (by simp)
    have e2 := (hm y).1 (by simp)
    have := h1.1 y (by simp)
    rw [e1, e2, less_irr] at this
    cases this
theorem sort_none {l : List V2} (h : ∀ e, e ∉ l) : sortV l = [] := by
  obtain ⟨_, h2⟩ := sort_facts l
  exact List.eq_nil_iff_forall_not_mem.2 fun e he => h e ((h2 e).1 he)
theorem asc_first : ∀ {l : List V2} {p : V2}, Asc l → p ∈ l → (∀ e ∈ l, lessB e p = false) → l.getD 0 v0 = p
  | [], _, _, h, _ => by simp at h
  | x :: r, p, ha, h, hm => by
    simp only [List.getD_cons_zero]
    rcases List.mem_cons.1 h with h | h
    · exact h.symm
    · have := ha.1 p h
      rw [hm x (by simp)] at this
      cases this
theorem asc_last : ∀ {l : List V2} {p : V2}, Asc l → p ∈ l → (∀ e ∈ l, lessB p e = false) → l.getD (l.length - 1) v0 = p
  | [], _, _, h, _ => by simp at h
  | [x], p, _, h, _ => by simp at h; simp [h]
  | x :: y :: r, p, ha, h, hm => by
    have hp : p ∈ y :: r := by
      rcases List.mem_cons.1 h with h | h
      · subst h
        have := ha.1 y (by simp)
        rw [hm y (by simp)] at this
        cases this
      · exact h
    have := asc_last (l := y :: r) ha.2 hp (fun e he => hm e (by simp [he]))
    simpa using this
/-- Two different ends. -/
theorem sort_two {l : List V2} {p q : V2} (hp : p ∈ l) (hq : q ∈ l) (hlt : lessB p q = true) (h : ∀ e ∈ l, lessB e p = false ∧ lessB q e = false) :
    (sortV l).length > 1 ∧ (sortV l).getD 0 v0 = p ∧ (sortV l).getD ((sortV l).length - 1) v0 = q := by
  obtain ⟨h1, h2⟩ := sort_facts l
  have hp' := (h2 p).2 hp
  have hq' := (h2 q).2 hq
  refine ⟨?_, asc_first h1 hp' (fun e he => (h e ((h2 e).1 he)).1), asc_last h1 hq' (fun e he => (h e ((h2 e).1 he)).2)⟩
  generalize sortV l = m at hp' hq'
  match m, hp', hq' with
  | [], hp', _ => simp at hp'
  | [x], hp', hq' =>
    simp at hp' hq'
    rw [hp', hq', less_irr] at hlt
    cases hlt
  | x :: y :: r, _, _ => simp

/-! ### on a segment -/
theorem minI_le (a b c : Int) : c ≥ minI a b ↔ a ≤ c ∨ b ≤ c := by
  unfold minI
  split <;> omega
theorem le_maxI (a b c : Int) : c ≤ maxI a b ↔ c ≤ a ∨ c ≤ b := by
  unfold maxI
  split <;> omega
theorem inBox_iff {s : Seg} {p : V2} : inBoxB s p = true ↔ (s.a.x ≤ p.x ∨ s.b.x ≤ p.x) ∧ (p.x ≤ s.a.x ∨ p.x ≤ s.b.x) ∧ (s.a.y ≤ p.y ∨ s.b.y ≤ p.y) ∧ (p.y ≤ s.a.y ∨ p.y ≤ s.b.y) := by
  simp only [inBoxB, Bool.and_eq_true, decide_eq_true_eq, minI_le, le_maxI]
  omega
theorem inBox_in {s : Seg} {p : V2} {m : Int} (ha : In m s.a) (hb : In m s.b) (h : inBoxB s p = true) : In m p := by
  obtain ⟨h1, h2, h3, h4⟩ := inBox_iff.1 h
  obtain ⟨a1, a2, a3, a4⟩ := ha
  obtain ⟨b1, b2, b3, b4⟩ := hb
  exact ⟨by omega, by omega, by omega, by omega⟩
theorem on_iff {s : Seg} {p : V2} (hs : validS s = true) : onB s p = true ↔ inBoxB s p = true ∧ sideP s p = 0 := by
  obtain ⟨sa, sb⟩ := valid_in hs
  simp only [onB, hs, Bool.true_and, Bool.and_eq_true, beq_iff_eq]
  constructor
  · rintro ⟨h1, h2⟩
    refine ⟨h1, ?_⟩
    rw [turn_side hs (inBox_in sa sb h1)] at h2
    exact sgn_zero.1 h2
  · rintro ⟨h1, h2⟩
    refine ⟨h1, ?_⟩
    rw [turn_side hs (inBox_in sa sb h1), h2]
    rfl
theorem on_a {s : Seg} (hs : validS s = true) : onB s s.a = true := by
  rw [on_iff hs, inBox_iff]
  refine ⟨by omega, ?_⟩
  simp only [sideP, crossP, subP]
  simp
theorem on_b {s : Seg} (hs : validS s = true) : onB s s.b = true := by
  rw [on_iff hs, inBox_iff]
  refine ⟨by omega, ?_⟩
  simp only [sideP, crossP, subP]
  grind
/-- One coordinate between two others, by the place on the line. -/
theorem coord {D k e v : Int} (hD : 0 < D) (h : D * e = k * v) : (v ≠ 0 → ((0 ≤ e ∨ v ≤ e) ∧ (e ≤ 0 ∨ e ≤ v) ↔ 0 ≤ k ∧ k ≤ D)) ∧ (v = 0 → e = 0) := by
  refine ⟨fun hv => ?_, fun hv => ?_⟩
  · have l1 : ∀ {x y z : Int}, 0 < z → (x * z ≤ y * z ↔ x ≤ y) := fun hz => ⟨fun h => Int.le_of_mul_le_mul_right h hz, fun h => Int.mul_le_mul_of_nonneg_right h (by omega)⟩
    have l2 : ∀ {x y z : Int}, 0 < z → (z * x ≤ z * y ↔ x ≤ y) := fun hz => ⟨fun h => Int.le_of_mul_le_mul_left h hz, fun h => Int.mul_le_mul_of_nonneg_left h (by omega)⟩
    rcases Int.lt_or_gt_of_ne hv with hn | hp
    · have e1 : (e ≤ 0) ↔ 0 ≤ k := by
        rw [← l2 (z := D) hD, h, Int.mul_zero]
        have := l1 (x := -k) (y := 0) (z := -v) (by omega)
        rw [Int.neg_mul_neg, Int.zero_mul] at this
        omega
      have e2 : (v ≤ e) ↔ k ≤ D := by
        rw [← l2 (z := D) hD, h]
        have := l1 (x := k) (y := D) (z := -v) (by omega)
        rw [Int.mul_neg, Int.mul_neg] at this
        omega
      omega
    · have e1 : (0 ≤ e) ↔ 0 ≤ k := by
        rw [← l2 (z := D) hD, h, Int.mul_zero]
        have := l1 (x := 0) (y := k) (z := v) hp
        rw [Int.zero_mul] at this
        exact this
      have e2 : (e ≤ v) ↔ k ≤ D := by
        rw [← l2 (z := D) hD, h]
        exact l1 hp
      omega
  · subst hv
    rw [Int.mul_zero] at h
    rcases Int.mul_eq_zero.1 h with h | h
    · omega
    · exact h
/-- A point at the place k of D on the line of a segment lies in its box just if k is from 0 to D. -/
theorem box_place {t : Seg} {e : V2} {D k : Int} (hD : 0 < D) (hx : D * (e.x - t.a.x) = k * (t.b.x - t.a.x)) (hy : D * (e.y - t.a.y) = k * (t.b.y - t.a.y)) (hne : t.a ≠ t.b) : inBoxB t e = true ↔ 0 ≤ k ∧ k ≤ D := by
  rw [inBox_iff]
  obtain ⟨x1, x2⟩ := coord hD hx
  obtain ⟨y1, y2⟩ := coord hD hy
  rw [Ne, V2.eq_iff] at hne
  by_cases hvx : t.b.x - t.a.x = 0
  · have := x2 hvx
    have hvy : t.b.y - t.a.y ≠ 0 := by omega
    have := y1 hvy
    omega
  · have := x1 hvx
    by_cases hvy : t.b.y - t.a.y = 0
    · have := y2 hvy
      omega
    · have := y1 hvy
      omega
end Sg
end Go.Vm
namespace Go.Vm
set_option maxRecDepth 20000
set_option linter.unusedVariables false
set_option linter.unusedSimpArgs false
namespace Sg
open Go Go.RowKit Go.Proofs

theorem mem_ends {s t : Seg} {e : V2} : e ∈ endsL s t ↔ e = s.a ∨ e = s.b ∨ e = t.a ∨ e = t.b := by simp [endsL]
theorem mem_common {s t : Seg} {e : V2} : e ∈ (endsL s t).filter (bothB s t) ↔ (e = s.a ∨ e = s.b ∨ e = t.a ∨ e = t.b) ∧ onB s e = true ∧ onB t e = true := by
  rw [List.mem_filter, mem_ends, bothB, Bool.and_eq_true]

/-- The two segments' lines cross: A and B of D are the places of the common point. -/
structure Lines (s t : Seg) (A B D : Int) : Prop where
  pos : 0 < D
  gx : D * (t.a.x - s.a.x) = A * (s.b.x - s.a.x) - B * (t.b.x - t.a.x)
  gy : D * (t.a.y - s.a.y) = A * (s.b.y - s.a.y) - B * (t.b.y - t.a.y)
  ta : ∃ k, k ≠ 0 ∧ sideP s t.a = -B * k ∧ sideP s t.b = (D - B) * k ∧ sideP t s.a = A * k ∧ sideP t s.b = (A - D) * k
  sne : s.a ≠ s.b
  tne : t.a ≠ t.b
theorem ne_of_dir {s t : Seg} (h : dirC s t ≠ 0) : s.a ≠ s.b ∧ t.a ≠ t.b := by
  refine ⟨fun e => h ?_, fun e => h ?_⟩
  · simp only [dirC, crossP, subP, e]; grind
  · simp only [dirC, crossP, subP, e]; grind
theorem lines_pos {s t : Seg} (h : 0 < dirC s t) : Lines s t (crossP (subP t.a s.a) (subP t.b t.a)) (crossP (subP t.a s.a) (subP s.b s.a)) (dirC s t) := by
  obtain ⟨n1, n2⟩ := ne_of_dir (s := s) (t := t) (by omega)
  refine ⟨h, ?_, ?_, ⟨1, by decide, ?_, ?_, ?_, ?_⟩, n1, n2⟩
  all_goals simp only [dirC, crossP, subP, sideP]
  all_goals grind
theorem lines_neg {s t : Seg} (h : dirC s t < 0) : Lines s t (-crossP (subP t.a s.a) (subP t.b t.a)) (-crossP (subP t.a s.a) (subP s.b s.a)) (-dirC s t) := by
  obtain ⟨n1, n2⟩ := ne_of_dir (s := s) (t := t) (by omega)
  refine ⟨by omega, ?_, ?_, ⟨-1, by decide, ?_, ?_, ?_, ?_⟩, n1, n2⟩
  all_goals simp only [dirC, crossP, subP, sideP]
  all_goals grind
theorem mul_zero_iff {a k : Int} (hk : k ≠ 0) : a * k = 0 ↔ a = 0 := by
  constructor
  · intro h
    rcases Int.mul_eq_zero.1 h with h | h
    · exact h
    · exact absurd h hk
  · intro h; rw [h, Int.zero_mul]
theorem mul_sgn (x k : Int) : (x * k < 0 ↔ (x < 0 ∧ 0 < k) ∨ (0 < x ∧ k < 0)) ∧ (0 < x * k ↔ (0 < x ∧ 0 < k) ∨ (x < 0 ∧ k < 0)) := by
  rcases Int.lt_trichotomy x 0 with hx | hx | hx <;> rcases Int.lt_trichotomy k 0 with hk | hk | hk
  · have := Int.mul_pos_of_neg_of_neg hx hk; omega
  · subst hk; rw [Int.mul_zero]; omega
  · have := Int.mul_neg_of_neg_of_pos hx hk; omega
  · subst hx; rw [Int.zero_mul]; omega
  · subst hx; rw [Int.zero_mul]; omega
  · subst hx; rw [Int.zero_mul]; omega
  · have := Int.mul_neg_of_pos_of_neg hx hk; omega
  · subst hk; rw [Int.mul_zero]; omega
  · have := Int.mul_pos hx hk; omega
section
variable {s t : Seg} {A B D : Int}
/-- Which ends lie on the other segment. -/
theorem Lines.ends (L : Lines s t A B D) (hs : validS s = true) (ht : validS t = true) :
    (onB t s.a = true ↔ A = 0 ∧ 0 ≤ B ∧ B ≤ D) ∧ (onB t s.b = true ↔ A = D ∧ 0 ≤ B ∧ B ≤ D) ∧ (onB s t.a = true ↔ B = 0 ∧ 0 ≤ A ∧ A ≤ D) ∧ (onB s t.b = true ↔ B = D ∧ 0 ≤ A ∧ A ≤ D) := by
  obtain ⟨hD, gx, gy, ⟨k, hk, k1, k2, k3, k4⟩, n1, n2⟩ := L
  refine ⟨?_, ?_, ?_, ?_⟩
  · rw [on_iff ht, k3, mul_zero_iff hk]
    constructor
    · rintro ⟨h1, h2⟩
      exact ⟨h2, (box_place (k := B) hD (by subst h2; grind) (by subst h2; grind) n2).1 h1⟩
    · rintro ⟨h2, h1⟩
      exact ⟨(box_place (k := B) hD (by subst h2; grind) (by subst h2; grind) n2).2 h1, h2⟩
  · rw [on_iff ht, k4, mul_zero_iff hk]
    constructor
    · rintro ⟨h1, h2⟩
      have h2 : A = D := by omega
      exact ⟨h2, (box_place (k := B) hD (by subst h2; grind) (by subst h2; grind) n2).1 h1⟩
    · rintro ⟨h2, h1⟩
      exact ⟨(box_place (k := B) hD (by subst h2; grind) (by subst h2; grind) n2).2 h1, by omega⟩
  · rw [on_iff hs, k1, Int.neg_mul, Int.neg_eq_zero, mul_zero_iff hk]
    constructor
    · rintro ⟨h1, h2⟩
      exact ⟨h2, (box_place (k := A) hD (by subst h2; grind) (by subst h2; grind) n1).1 h1⟩
    · rintro ⟨h2, h1⟩
      exact ⟨(box_place (k := A) hD (by subst h2; grind) (by subst h2; grind) n1).2 h1, h2⟩
  · rw [on_iff hs, k2, mul_zero_iff hk]
    constructor
    · rintro ⟨h1, h2⟩
      have h2 : B = D := by omega
      exact ⟨h2, (box_place (k := A) hD (by subst h2; grind) (by subst h2; grind) n1).1 h1⟩
    · rintro ⟨h2, h1⟩
      exact ⟨(box_place (k := A) hD (by subst h2; grind) (by subst h2; grind) n1).2 h1, by omega⟩
/-- The point that both lines have in common, when it is an end. -/
theorem Lines.point (L : Lines s t A B D) {e : V2} (he : (e = s.a ∧ A = 0) ∨ (e = s.b ∧ A = D) ∨ (e = t.a ∧ B = 0) ∨ (e = t.b ∧ B = D)) : D * e.x = s.a.x * D + A * (s.b.x - s.a.x) ∧ D * e.y = s.a.y * D + A * (s.b.y - s.a.y) := by
  obtain ⟨hD, gx, gy, _⟩ := L
  rcases he with ⟨h1, h2⟩ | ⟨h1, h2⟩ | ⟨h1, h2⟩ | ⟨h1, h2⟩
  · subst h1 h2; constructor <;> grind
  · subst h1 h2; constructor <;> grind
  · subst h1 h2; constructor <;> grind
  · subst h1 h2; constructor <;> grind
theorem Lines.cross (L : Lines s t A B D) (hs : validS s = true) (ht : validS t = true) : crossB s t = true ↔ 0 < A ∧ A < D ∧ 0 < B ∧ B < D := by
  obtain ⟨sa, sb⟩ := valid_in hs
  obtain ⟨ta, tb⟩ := valid_in ht
  obtain ⟨hD, gx, gy, ⟨k, hk, k1, k2, k3, k4⟩, n1, n2⟩ := L
  simp only [crossB, Bool.and_eq_true, decide_eq_true_eq, side_eq hs ta, side_eq hs tb, side_eq ht sa, side_eq ht sb, sgn_mul, k1, k2, k3, k4]
  have pm := fun x : Int => mul_sgn x k
  rw [(pm (-B)).1, (pm (-B)).2, (pm (D - B)).1, (pm (D - B)).2, (pm A).1, (pm A).2, (pm (A - D)).1, (pm (A - D)).2]
  omega
end
theorem gcd_mul3 (x y : Int) {D : Int} (h : 0 < D) : Int.gcd (Int.gcd (D * x) (D * y) : Nat) D = D.natAbs := by
  refine Nat.dvd_antisymm ?_ ?_
  · exact Nat.gcd_dvd_right _ _
  · refine Nat.dvd_gcd ?_ (Nat.dvd_refl _)
    show D.natAbs ∣ (Int.natAbs (Int.gcd (D * x) (D * y) : Nat))
    rw [Int.natAbs_natCast]
    refine Nat.dvd_gcd ?_ ?_
    · rw [Int.natAbs_mul]; exact Nat.dvd_mul_right _ _
    · rw [Int.natAbs_mul]; exact Nat.dvd_mul_right _ _
theorem low_int (p : V2) {D X Y : Int} (h : 0 < D) (hx : D * p.x = X) (hy : D * p.y = Y) : low X Y D = ptOf p := by
  subst hx hy
  unfold low
  rw [gcd_mul3 p.x p.y h, Int.natAbs_of_nonneg (by omega), Int.mul_tdiv_cancel_left _ (by omega), Int.mul_tdiv_cancel_left _ (by omega), Int.tdiv_self (by omega)]

/-- What the program and the reference say of segments whose lines cross. -/
theorem lines_agree {s t : Seg} {A B D : Int} (L : Lines s t A B D) (hs : validS s = true) (ht : validS t = true) :
    (lineC s (subP s.b s.a) A B D).kind = rmeetI s t ∧ (rmeetI s t = 1 → (lineC s (subP s.b s.a) A B D).p = ptOf ((commonL s t).getD 0 v0)) ∧
      (rmeetI s t = 2 → (lineC s (subP s.b s.a) A B D).p = low (s.a.x * D + A * (subP s.b s.a).x) (s.a.y * D + A * (subP s.b s.a).y) D) ∧ (rmeetI s t = 0 → (lineC s (subP s.b s.a) A B D).p = p0) ∧ rmeetI s t ≠ 3 := by
  obtain ⟨e1, e2, e3, e4⟩ := L.ends hs ht
  have hc := L.cross hs ht
  have oa := on_a hs
  have ob := on_b hs
  have oc := on_a ht
  have od := on_b ht
  have hD := L.pos
  have hv : ¬ (validS s = false ∨ validS t = false) := by simp [hs, ht]
  have hr : rmeetI s t = if (commonL s t).length > 1 then 3 else if (commonL s t).length = 1 then 1 else if crossB s t = true then 2 else 0 := by rw [rmeetI, if_neg hv]
  by_cases hout : outB A B D
  · have hn : commonL s t = [] := by
      refine sort_none fun e he => ?_
      obtain ⟨h1, h2, h3⟩ := mem_common.1 he
      unfold outB at hout
      rcases h1 with rfl | rfl | rfl | rfl
      · have := e1.1 h3; omega
      · have := e2.1 h3; omega
      · have := e3.1 h2; omega
      · have := e4.1 h2; omega
    have hcf : ¬ crossB s t = true := fun h => by have := hc.1 h; unfold outB at hout; omega
    have h0 : rmeetI s t = 0 := by rw [hr, hn]; simp [hcf]
    have hl : lineC s (subP s.b s.a) A B D = noneC := by rw [lineC, if_pos hout]
    rw [hl, h0]
    exact ⟨rfl, fun h => by omega, fun h => by omega, fun _ => rfl, by omega⟩
  · by_cases hend : endB A B D
    · have hin : 0 ≤ A ∧ A ≤ D ∧ 0 ≤ B ∧ B ≤ D := by unfold outB at hout; omega
      have hex : ∃ e : V2, ((e = s.a ∧ A = 0) ∨ (e = s.b ∧ A = D) ∨ (e = t.a ∧ B = 0) ∨ (e = t.b ∧ B = D)) := by
        unfold endB at hend
        rcases hend with h | h | h | h
        · exact ⟨s.a, .inl ⟨rfl, h⟩⟩
        · exact ⟨s.b, .inr (.inl ⟨rfl, h⟩)⟩
        · exact ⟨t.a, .inr (.inr (.inl ⟨rfl, h⟩))⟩
        · exact ⟨t.b, .inr (.inr (.inr ⟨rfl, h⟩))⟩
      obtain ⟨p, hp⟩ := hex
      obtain ⟨px, py⟩ := L.point hp
      have hone : commonL s t = [p] := by
        refine sort_one fun e => ?_
        rw [mem_common]
        constructor
        · rintro ⟨h1, h2, h3⟩
          have he : (e = s.a ∧ A = 0) ∨ (e = s.b ∧ A = D) ∨ (e = t.a ∧ B = 0) ∨ (e = t.b ∧ B = D) := by
            rcases h1 with rfl | rfl | rfl | rfl
            · exact .inl ⟨rfl, (e1.1 h3).1⟩
            · exact .inr (.inl ⟨rfl, (e2.1 h3).1⟩)
            · exact .inr (.inr (.inl ⟨rfl, (e3.1 h2).1⟩))
            · exact .inr (.inr (.inr ⟨rfl, (e4.1 h2).1⟩))
          obtain ⟨ex, ey⟩ := L.point he
          exact V2.ext (Int.eq_of_mul_eq_mul_left (show D ≠ 0 by omega) (by rw [ex, px])) (Int.eq_of_mul_eq_mul_left (show D ≠ 0 by omega) (by rw [ey, py]))
        · rintro rfl
          rcases hp with ⟨rfl, h⟩ | ⟨rfl, h⟩ | ⟨rfl, h⟩ | ⟨rfl, h⟩
          · exact ⟨.inl rfl, oa, e1.2 (by omega)⟩
          · exact ⟨.inr (.inl rfl), ob, e2.2 (by omega)⟩
          · exact ⟨.inr (.inr (.inl rfl)), e3.2 (by omega), oc⟩
          · exact ⟨.inr (.inr (.inr rfl)), e4.2 (by omega), od⟩
      have h1 : rmeetI s t = 1 := by rw [hr, hone]; simp
      have hl : lineC s (subP s.b s.a) A B D = ⟨1, ptOf p, s0⟩ := by
        rw [lineC, if_neg hout, if_pos hend, low_int p hD (X := s.a.x * D + A * (subP s.b s.a).x) (Y := s.a.y * D + A * (subP s.b s.a).y) px py]
      rw [hl, h1, hone]
      exact ⟨rfl, fun _ => rfl, fun h => by omega, fun h => by omega, by omega⟩
    · have hin : 0 < A ∧ A < D ∧ 0 < B ∧ B < D := by unfold outB at hout; unfold endB at hend; omega
      have hn : commonL s t = [] := by
        refine sort_none fun e he => ?_
        obtain ⟨h1, h2, h3⟩ := mem_common.1 he
        rcases h1 with rfl | rfl | rfl | rfl
        · have := e1.1 h3; omega
        · have := e2.1 h3; omega
        · have := e3.1 h2; omega
        · have := e4.1 h2; omega
      have h2 : rmeetI s t = 2 := by rw [hr, hn]; simp [hc.2 hin]
      have hl : lineC s (subP s.b s.a) A B D = ⟨2, low (s.a.x * D + A * (subP s.b s.a).x) (s.a.y * D + A * (subP s.b s.a).y) D, s0⟩ := by rw [lineC, if_neg hout, if_neg hend]
      rw [hl, h2]
      exact ⟨rfl, fun h => by omega, fun _ => rfl, fun h => by omega, by omega⟩
end Sg
end Go.Vm
