/-
  Layer 7: the order of vectors, sorted lists, points on segments, in plain numbers.
-/
import Derived.Test.YtgmlblmkcbcgaaaSegJ
namespace Go.Vm
set_option maxRecDepth 20000
set_option linter.unusedVariables false
set_option linter.unusedSimpArgs false
namespace Sg
open Go Go.RowKit Go.Proofs

theorem less_iff {a b : V2} : lessB a b = true ↔ a.y < b.y ∨ (a.y = b.y ∧ a.x < b.x) := by
  simp [lessB]
theorem less_tri (a b : V2) : lessB a b = true ∨ a = b ∨ lessB b a = true := by
  rw [less_iff, less_iff, V2.eq_iff]
  omega
theorem less_irr (a : V2) : lessB a a = false := by
  rw [Bool.eq_false_iff, Ne, less_iff]
  omega
theorem less_trans {a b c : V2} (h : lessB a b = true) (k : lessB b c = true) : lessB a c = true := by
  rw [less_iff] at *
  omega
theorem less_asymm {a b : V2} (h : lessB a b = true) : lessB b a = false := by
  rw [less_iff] at h
  rw [Bool.eq_false_iff, Ne, less_iff]
  omega
/-! ### sorted lists -/
def Asc : List V2 → Prop
  | [] => True
  | x :: r => (∀ y ∈ r, lessB x y = true) ∧ Asc r
theorem mem_insV {v e : V2} : ∀ {l : List V2}, e ∈ insV l v ↔ e = v ∨ e ∈ l
  | [] => by simp [insV]
  | x :: r => by
    simp only [insV]
    split
    · rw [List.mem_cons, mem_insV, List.mem_cons]
      constructor
      · rintro (h | h | h)
        · exact .inr (.inl h)
        · exact .inl h
        · exact .inr (.inr h)
      · rintro (h | h | h)
        · exact .inr (.inl h)
        · exact .inl h
        · exact .inr (.inr h)
    · split
      · rename_i hxv
        subst hxv
        simp
      · simp
theorem asc_insV {v : V2} : ∀ {l : List V2}, Asc l → Asc (insV l v)
  | [], _ => by simp [insV, Asc]
  | x :: r, h => by
    simp only [insV]
    split
    · rename_i hlt
      refine ⟨fun y hy => ?_, asc_insV h.2⟩
      rcases mem_insV.1 hy with rfl | hy
      · exact hlt
      · exact h.1 y hy
    · rename_i hnl
      split
      · exact h
      · rename_i hne
        have hvx : lessB v x = true := by
          rcases less_tri x v with k | k | k
          · exact absurd k hnl
          · exact absurd k hne
          · exact k
        refine ⟨fun y hy => ?_, h⟩
        rcases List.mem_cons.1 hy with rfl | hy
        · exact hvx
        · exact less_trans hvx (h.1 y hy)
theorem sort_facts (l : List V2) : Asc (sortV l) ∧ ∀ e, e ∈ sortV l ↔ e ∈ l := by
  have : ∀ (l o : List V2), Asc o → Asc (l.foldl insV o) ∧ ∀ e, e ∈ l.foldl insV o ↔ e ∈ l ∨ e ∈ o := by
    intro l
    induction l with
    | nil => intro o h; exact ⟨h, fun e => by simp⟩
    | cons x l ih =>
      intro o h
      obtain ⟨h1, h2⟩ := ih (insV o x) (asc_insV h)
      refine ⟨h1, fun e => ?_⟩
      rw [List.foldl_cons, h2 e, mem_insV, List.mem_cons]
      constructor
      · rintro (h | h | h)
        · exact .inl (.inr h)
        · exact .inl (.inl h)
        · exact .inr h
      · rintro ((h | h) | h)
        · exact .inr (.inl h)
        · exact .inl h
        · exact .inr (.inr h)
  obtain ⟨h1, h2⟩ := this l [] trivial
  exact ⟨h1, fun e => by rw [show sortV l = l.foldl insV [] from rfl, h2 e]; simp⟩
/-- A list whose elements are all the same vector. -/
theorem sort_one {l : List V2} {p : V2} (h : ∀ e, e ∈ l ↔ e = p) : sortV l = [p] := by
  obtain ⟨h1, h2⟩ := sort_facts l
  generalize sortV l = m at h1 h2
  have hm : ∀ e, e ∈ m ↔ e = p := fun e => (h2 e).trans (h e)
  match m, h1, hm with
  | [], _, hm => exact absurd ((hm p).2 rfl) (by simp)
  | [x], _, hm => rw [(hm x).1 (by simp)]
  | x :: y :: r, h1, hm =>
    have e1 := (hm x).1 (by simp)
    have e2 := (hm y).1 (by simp)
    have := h1.1 y (by simp)
    rw [e1, e2, less_irr] at this
    cases this
theorem sort_none {l : List V2} (h : ∀ e, e ∉ l) : sortV l = [] := by
  obtain ⟨_, h2⟩ := sort_facts l
  exact List.eq_nil_iff_forall_not_mem.2 fun e he => h e ((h2 e).1 he)
theorem asc_first : ∀ {l : List V2} {p : V2}, Asc l → p ∈ l → (∀ e ∈ l, lessB e p = false) → l.getD 0 v0 = p
  | [], _, _, h, _ => by simp at h
  | x :: r, p, ha, h, hm => by
    simp only [List.getD_cons_zero]
    rcases List.mem_cons.1 h with h | h
    · exact h.symm
    · have := ha.1 p h
      rw [hm x (by simp)] at this
      cases this
theorem asc_last : ∀ {l : List V2} {p : V2}, Asc l → p ∈ l → (∀ e ∈ l, lessB p e = false) → l.getD (l.length - 1) v0 = p
  | [], _, _, h, _ => by simp at h
  | [x], p, _, h, _ => by simp at h; simp [h]
  | x :: y :: r, p, ha, h, hm => by
    have hp : p ∈ y :: r := by
      rcases List.mem_cons.1 h with h | h
      · subst h
        have := ha.1 y (by simp)
        rw [hm y (by simp)] at this
        cases this
      · exact h
    have := asc_last (l := y :: r) ha.2 hp (fun e he => hm e (by simp [he]))
    simpa using this
/-- Two different ends. -/
theorem sort_two {l : List V2} {p q : V2} (hp : p ∈ l) (hq : q ∈ l) (hlt : lessB p q = true) (h : ∀ e ∈ l, lessB e p = false ∧ lessB q e = false) :
    (sortV l).length > 1 ∧ (sortV l).getD 0 v0 = p ∧ (sortV l).getD ((sortV l).length - 1) v0 = q := by
  obtain ⟨h1, h2⟩ := sort_facts l
  have hp' := (h2 p).2 hp
  have hq' := (h2 q).2 hq
  refine ⟨?_, asc_first h1 hp' (fun e he => (h e ((h2 e).1 he)).1), asc_last h1 hq' (fun e he => (h e ((h2 e).1 he)).2)⟩
  generalize sortV l = m at hp' hq'
  match m, hp', hq' with
  | [], hp', _ => simp at hp'
  | [x], hp', hq' =>
    simp at hp' hq'
    rw [hp', hq', less_irr] at hlt
    cases hlt
  | x :: y :: r, _, _ => simp

/-! ### on a segment -/
theorem minI_le (a b c : Int) : c ≥ minI a b ↔ a ≤ c ∨ b ≤ c := by
  unfold minI
  split <;> omega
theorem le_maxI (a b c : Int) : c ≤ maxI a b ↔ c ≤ a ∨ c ≤ b := by
  unfold maxI
  split <;> omega
theorem inBox_iff {s : Seg} {p : V2} : inBoxB s p = true ↔ (s.a.x ≤ p.x ∨ s.b.x ≤ p.x) ∧ (p.x ≤ s.a.x ∨ p.x ≤ s.b.x) ∧ (s.a.y ≤ p.y ∨ s.b.y ≤ p.y) ∧ (p.y ≤ s.a.y ∨ p.y ≤ s.b.y) := by
  simp only [inBoxB, Bool.and_eq_true, decide_eq_true_eq, minI_le, le_maxI]
  omega
theorem inBox_in {s : Seg} {p : V2} {m : Int} (ha : In m s.a) (hb : In m s.b) (h : inBoxB s p = true) : In m p := by
  obtain ⟨h1, h2, h3, h4⟩ := inBox_iff.1 h
  obtain ⟨a1, a2, a3, a4⟩ := ha
  obtain ⟨b1, b2, b3, b4⟩ := hb
  exact ⟨by omega, by omega, by omega, by omega⟩
theorem on_iff {s : Seg} {p : V2} (hs : validS s = true) : onB s p = true ↔ inBoxB s p = true ∧ sideP s p = 0 := by
  obtain ⟨sa, sb⟩ := valid_in hs
  simp only [onB, hs, Bool.true_and, Bool.and_eq_true, beq_iff_eq]
  constructor
  · rintro ⟨h1, h2⟩
    refine ⟨h1, ?_⟩
    rw [turn_side hs (inBox_in sa sb h1)] at h2
    exact sgn_zero.1 h2
  · rintro ⟨h1, h2⟩
    refine ⟨h1, ?_⟩
    rw [turn_side hs (inBox_in sa sb h1), h2]
    rfl
theorem on_a {s : Seg} (hs : validS s = true) : onB s s.a = true := by
  rw [on_iff hs, inBox_iff]
  refine ⟨by omega, ?_⟩
  simp only [sideP, crossP, subP]
  simp
theorem on_b {s : Seg} (hs : validS s = true) : onB s s.b = true := by
  rw [on_iff hs, inBox_iff]
  refine ⟨by omega, ?_⟩
  simp only [sideP, crossP, subP]
  grind
/-- One coordinate between two others, by the place on the line. -/
theorem coord {D k e v : Int} (hD : 0 < D) (h : D * e = k * v) : (v ≠ 0 → ((0 ≤ e ∨ v ≤ e) ∧ (e ≤ 0 ∨ e ≤ v) ↔ 0 ≤ k ∧ k ≤ D)) ∧ (v = 0 → e = 0) := by
  refine ⟨fun hv => ?_, fun hv => ?_⟩
  · have l1 : ∀ {x y z : Int}, 0 < z → (x * z ≤ y * z ↔ x ≤ y) := fun hz => ⟨fun h => Int.le_of_mul_le_mul_right h hz, fun h => Int.mul_le_mul_of_nonneg_right h (by omega)⟩
    have l2 : ∀ {x y z : Int}, 0 < z → (z * x ≤ z * y ↔ x ≤ y) := fun hz => ⟨fun h => Int.le_of_mul_le_mul_left h hz, fun h => Int.mul_le_mul_of_nonneg_left h (by omega)⟩
    rcases Int.lt_or_gt_of_ne hv with hn | hp
    · have e1 : (e ≤ 0) ↔ 0 ≤ k := by
        rw [← l2 (z := D) hD, h, Int.mul_zero]
        have := l1 (x := -k) (y := 0) (z := -v) (by omega)
        rw [Int.neg_mul_neg, Int.zero_mul] at this
        omega
      have e2 : (v ≤ e) ↔ k ≤ D := by
        rw [← l2 (z := D) hD, h]
        have := l1 (x := k) (y := D) (z := -v) (by omega)
        rw [Int.mul_neg, Int.mul_neg] at this
        omega
      omega
    · have e1 : (0 ≤ e) ↔ 0 ≤ k := by
        rw [← l2 (z := D) hD, h, Int.mul_zero]
        have := l1 (x := 0) (y := k) (z := v) hp
        rw [Int.zero_mul] at this
        exact this
      have e2 : (e ≤ v) ↔ k ≤ D := by
        rw [← l2 (z := D) hD, h]
        exact l1 hp
      omega
  · subst hv
    rw [Int.mul_zero] at h
    rcases Int.mul_eq_zero.1 h with h | h
    · omega
    · exact h
/-- A point at the place k of D on the line of a segment lies in its box just if k is from 0 to D. -/
theorem box_place {t : Seg} {e : V2} {D k : Int} (hD : 0 < D) (hx : D * (e.x - t.a.x) = k * (t.b.x - t.a.x)) (hy : D * (e.y - t.a.y) = k * (t.b.y - t.a.y)) (hne : t.a ≠ t.b) : inBoxB t e = true ↔ 0 ≤ k ∧ k ≤ D := by
  rw [inBox_iff]
  obtain ⟨x1, x2⟩ := coord hD hx
  obtain ⟨y1, y2⟩ := coord hD hy
  rw [Ne, V2.eq_iff] at hne
  by_cases hvx : t.b.x - t.a.x = 0
  · have := x2 hvx
    have hvy : t.b.y - t.a.y ≠ 0 := by omega
    have := y1 hvy
    omega
  · have := x1 hvx
    by_cases hvy : t.b.y - t.a.y = 0
    · have := y2 hvy
      omega
    · have := y1 hvy
      omega
end Sg
end Go.Vm
