/-
  Layer 8: twice the area of a valid ring is 2 I + B - 2. The contract of RingPick.
-/
import Derived.Test.YtgmlblmkcbcgaaaRingK
namespace Go.Vm
set_option maxRecDepth 20000
set_option linter.unusedVariables false
set_option linter.unusedSimpArgs false
open Go Go.RowKit Go.Proofs
namespace Sg

def ixnq (l : List V2) (i : Int) : Nat := (i % (l.length : Int)).toNat
theorem ix_ltq {l : List V2} (h : 3 ≤ l.length) (i : Int) : ixnq l i < l.length := by
  have := Int.emod_lt_of_pos i (show 0 < (l.length : Int) by omega)
  have := Int.emod_nonneg i (show (l.length : Int) ≠ 0 by omega)
  unfold ixnq; omega
theorem ix_natq {l : List V2} {i : Nat} (h : i < l.length) : ixnq l i = i := by
  unfold ixnq
  rw [Int.emod_eq_of_lt (by omega) (by omega)]; omega
theorem ix_addq {l : List V2} (h : 3 ≤ l.length) (i : Int) (d : Nat) : ixnq l (i + d) = (ixnq l i + d) % l.length := by
  have h0 := Int.emod_nonneg i (show (l.length : Int) ≠ 0 by omega)
  unfold ixnq
  rw [← Int.emod_add_emod i (l.length : Int) (d : Int)]
  obtain ⟨k, hk⟩ : ∃ k : Nat, i % (l.length : Int) = k := ⟨(i % (l.length : Int)).toNat, by omega⟩
  rw [hk]
  have : ((k : Int) + d) % (l.length : Int) = (((k + d) % l.length : Nat) : Int) := by
    rw [← Int.natCast_add, ← Int.natCast_emod]
  rw [this, Int.toNat_natCast, Int.toNat_natCast]
theorem ix_injq {l : List V2} (h : 3 ≤ l.length) {i j : Int} (h1 : i < j) (h2 : j < i + l.length) : ixnq l i ≠ ixnq l j := by
  intro e
  have hj : j = i + ((j - i).toNat : Nat) := by omega
  rw [hj, ix_addq h] at e
  have hl := ix_ltq h i
  by_cases c : ixnq l i + (j - i).toNat < l.length
  · rw [Nat.mod_eq_of_lt c] at e; omega
  · rw [Nat.mod_eq_sub_mod (by omega), Nat.mod_eq_of_lt (by omega)] at e; omega
def ringP (l : List V2) (i : Int) : V2 := gt l (ixnq l i)
theorem ringP_nat {l : List V2} {i : Nat} (hi : i < l.length) : ringP l i = gt l i := by unfold ringP; rw [ix_natq hi]
theorem ringP_next {l : List V2} (h3 : 3 ≤ l.length) (i : Int) : ringP l (i + 1) = nxt l (ixnq l i) := by
  unfold ringP
  have := ix_addq h3 i 1
  rw [show i + ((1 : Nat) : Int) = i + 1 by omega] at this
  rw [this]; rfl
theorem ringP_nxt {l : List V2} (h3 : 3 ≤ l.length) {i : Nat} (hi : i < l.length) : ringP l (i + 1) = nxt l i := by
  rw [ringP_next h3, ix_natq hi]
theorem ringP_last {l : List V2} (h3 : 3 ≤ l.length) (i : Int) : ringP l (i - 1) = lst l (ixnq l i) := by
  have h1 := ix_addq h3 (i - 1) 1
  rw [show i - 1 + ((1 : Nat) : Int) = i by omega] at h1
  have hk := ix_ltq h3 (i - 1)
  unfold lst ringP
  rw [h1]
  congr 1
  by_cases c : ixnq l (i - 1) + 1 < l.length
  · rw [Nat.mod_eq_of_lt c, show ixnq l (i - 1) + 1 + l.length - 1 = ixnq l (i - 1) + l.length by omega, Nat.add_mod_right, Nat.mod_eq_of_lt hk]
  · rw [show ixnq l (i - 1) + 1 = l.length by omega, Nat.mod_self, Nat.zero_add, Nat.mod_eq_of_lt (by omega)]; omega
theorem smp_of {l : List V2} (hr : RingOk l) : Smp l.length (ringP l) := by
  have h3 := hr.three
  have hp := hr.pre
  refine ⟨h3, fun i => ?_, fun i => ?_, fun i j h1 h2 => ?_⟩
  · unfold ringP
    have := ix_addq h3 i l.length
    rw [this, Nat.add_mod_right, Nat.mod_eq_of_lt (ix_ltq h3 i)]
  · rw [ringP_next h3, ringP_last h3]
    exact hp.turns _ (ix_ltq h3 i)
  · rw [ringP_next h3, ringP_next h3]
    have a1 := ix_addq h3 i 1
    have a2 := ix_addq h3 j 1
    rw [show i + ((1 : Nat) : Int) = i + 1 by omega] at a1
    rw [show j + ((1 : Nat) : Int) = j + 1 by omega] at a2
    refine hp.apart _ (ix_ltq h3 i) _ (ix_ltq h3 j) (ix_injq h3 (by omega) (by omega)) ?_ ?_
    · rw [← a1]; exact (ix_injq h3 (by omega) (by omega)).symm
    · rw [← a2]
      have : ixnq l i = ixnq l (i + l.length) := by rw [ix_addq h3, Nat.add_mod_right, Nat.mod_eq_of_lt (ix_ltq h3 i)]
      rw [this]
      exact (ix_injq h3 (by omega) (by omega)).symm
theorem wq_row {l : List V2} (h3 : 3 ≤ l.length) (p : V2) : wqL l p = rowT (ringP l) p 0 l.length := by
  have key : ∀ m, m ≤ l.length → rowT (ringP l) p 0 m = sumN m (fun i => tq (subP (gt l i) p) (subP (nxt l i) p)) := fun m => by
    induction m with
    | zero => intro _; rfl
    | succ m ih =>
      intro hm
      simp only [rowT, sumN]
      rw [ih (by omega), Int.zero_add, ringP_nat (by omega), ringP_nxt h3 (by omega)]
  exact (key _ (Nat.le_refl _)).symm
theorem sub_self (p : V2) : subP p p = ⟨0, 0⟩ := by simp only [subP]; exact V2.ext (by simp only; omega) (by simp only; omega)
theorem tq_zl (v : V2) : tq ⟨0, 0⟩ v = 0 := tq_line (by simp [crossP])
theorem tq_zr (v : V2) : tq v ⟨0, 0⟩ = 0 := tq_line (by simp [crossP])
theorem wq_vertex {l : List V2} (hr : RingOk l) {i : Nat} (hi : i < l.length) : wqL l (gt l i) = rowV l.length (ringP l) i := by
  have h3 := hr.three
  have C := smp_of hr
  rw [wq_row h3, ← C.row_shift _ (Nat.le_of_lt hi)]
  have e1 : rowT (ringP l) (gt l i) i l.length = rowT (ringP l) (gt l i) i (l.length - 2 + 1 + 1) := by congr 1; omega
  rw [e1, rowT_succ]
  simp only [rowT]
  rw [show (i : Int) + 1 + ((l.length - 2 : Nat) : Int) + 1 = i + l.length by omega, C.per, ringP_nat hi, sub_self, tq_zl, tq_zr]
  unfold rowV
  rw [ringP_nat hi]
  omega
theorem tq_bound (u v : V2) : -2 ≤ tq u v ∧ tq u v ≤ 2 := by
  have s1 := sgn_cases u.y
  have s2 := sgn_cases v.y
  unfold tq abd
  repeat' split
  all_goals omega
theorem sumN_one {f : Nat → Int} {i : Nat} : ∀ {n : Nat}, i < n → (∀ j, j < n → j ≠ i → f j = 0) → sumN n f = f i
  | 0, h, _ => absurd h (Nat.not_lt_zero _)
  | n + 1, h, hz => by
    simp only [sumN]
    by_cases c : i = n
    · subst c
      have : sumN i f = 0 := by
        rw [sumN_congr (g := fun _ => 0) (fun j hj => hz j (by omega) (by omega))]
        clear hz h
        induction i with
        | zero => rfl
        | succ i ih => simp only [sumN]; omega
      omega
    · rw [sumN_one (n := n) (by omega) (fun j hj hji => hz j (by omega) hji), hz n (by omega) (fun h => c h.symm)]
      omega
theorem sumN_nil {n : Nat} {f : Nat → Int} (h : ∀ j, j < n → f j = 0) : sumN n f = 0 := by
  induction n with
  | zero => rfl
  | succ n ih => simp only [sumN]; rw [ih (fun j hj => h j (by omega)), h n (by omega)]; rfl
/-- Odd sums of signs. -/
theorem par_odd {f : Nat → Int} {g : Nat → Bool} : ∀ n, (∀ i, i < n → (g i = true ∧ (f i = 1 ∨ f i = -1)) ∨ (g i = false ∧ f i = 0)) → (parN n g = true ↔ sumN n f % 2 = 1)
  | 0, _ => by simp [parN, sumN]
  | n + 1, h => by
    have ih := par_odd n (fun i hi => h i (by omega))
    have hn := h n (by omega)
    simp only [parN, sumN]
    generalize parN n g = x at *
    generalize sumN n f = s at *
    rcases hn with ⟨e, k⟩ | ⟨e, k⟩
    · rw [e]
      cases x
      · simp only [Bool.false_eq_true, false_iff, Bool.xor_true, Bool.not_false, true_iff] at ih ⊢
        omega
      · simp only [true_iff, Bool.xor_true, Bool.not_true, Bool.false_eq_true, false_iff] at ih ⊢
        omega
    · rw [e, k]
      cases x
      · simp only [Bool.false_eq_true, false_iff, Bool.xor_false] at ih ⊢
        omega
      · simp only [true_iff, Bool.xor_false] at ih ⊢
        omega
theorem crs_cq {a b p : V2} (h : ¬ OnL a b p) : (crsP ⟨a, b⟩ (ptOf p) = true ∧ (cq (subP a p) (subP b p) = 1 ∨ cq (subP a p) (subP b p) = -1)) ∨ (crsP ⟨a, b⟩ (ptOf p) = false ∧ cq (subP a p) (subP b p) = 0) := by
  have ht : b.y ≤ p.y → p.y < a.y → trP a b p ≠ 0 := fun h1 h2 z => h (onL_swap.1 (on_level (by rw [tr_swap, z]; rfl) (by omega) h1 (by omega)))
  rw [crs_dec]
  unfold cq
  rw [cross_tr]
  simp only [subP]
  by_cases c1 : a.y ≤ p.y ∧ p.y < b.y ∧ 0 < trP a b p
  · left
    refine ⟨decide_eq_true (.inl c1), .inl ?_⟩
    repeat' split
    all_goals omega
  · by_cases c2 : b.y ≤ p.y ∧ p.y < a.y ∧ trP a b p ≤ 0
    · left
      have := ht c2.1 c2.2.1
      refine ⟨decide_eq_true (.inr c2), .inr ?_⟩
      repeat' split
      all_goals omega
    · right
      refine ⟨decide_eq_false (fun k => k.elim c1 c2), ?_⟩
      repeat' split
      all_goals omega
/-- Off the ring: four times the crossings with their direction. -/
theorem wq_cq {l : List V2} {p : V2} (h0 : 0 < l.length) (ho : ∀ i, i < l.length → ¬ OnL (gt l i) (nxt l i) p) : wqL l p = 4 * sumN l.length (fun i => cq (subP (gt l i) p) (subP (nxt l i) p)) := by
  have e : wqL l p = sumN l.length (fun i => (4 * cq (subP (gt l i) p) (subP (nxt l i) p)) + ((fun j => -gq (subP (gt l j) p)) ((i + 1) % l.length) - (fun j => -gq (subP (gt l j) p)) i)) :=
    sumN_congr (fun i hi => by
      rw [tq_cr (ho i hi)]
      simp only [nxt]; omega)
  rw [e, sumN_sum, sum_tel (fun j => -gq (subP (gt l j) p)) h0]
  have m : ∀ n (f : Nat → Int), sumN n (fun i => 4 * f i) = 4 * sumN n f := fun n f => by
    induction n with
    | zero => rfl
    | succ n ih => simp only [sumN]; rw [ih]; omega
  rw [m]; omega
def ite2 (x y : Int) : Int := if x = y then 1 else 0
/-- What a ring's edges turn, as seen from any integer point. -/
theorem wq_at {l : List V2} (hr : RingOk l) {K : Int} (hK2 : K = 2 ∨ K = -2) (hK : ∀ i : Nat, rowV l.length (ringP l) i + tauV (ringP l) i = K) (p : V2) :
    (K = 2 → wqL l p = 4 * ite2 (whereV l p) 2 + 2 * ite2 (whereV l p) 1 + sumN l.length (fun i => if (gt l i).x = p.x then (if (gt l i).y = p.y then rowV l.length (ringP l) i - 2 else 0) else 0)) ∧ (K = -2 → wqL l p ≤ 0) := by
  have h3 := hr.three
  have C := smp_of hr
  rw [whereV_eq hr]
  by_cases hv : ∃ i, i < l.length ∧ gt l i = p
  · obtain ⟨i, hi, rfl⟩ := hv
    have hw : wherePl l (ptOf (gt l i)) = 1 := by
      unfold wherePl
      have : onAny l (ptOf (gt l i)) = true := by
        cases hc : onAny l (ptOf (gt l i)) with
        | true => rfl
        | false => exact absurd (onL_end _ _) (any_iff.1 hc i hi)
      rw [this, if_pos rfl]
    rw [wq_vertex hr hi, hw]
    have := hK i
    have b := tq_bound (subP (ringP l i) (ringP l (i - 1))) (subP (ringP l (i + 1)) (ringP l i))
    unfold tauV at this
    rw [sumN_one hi (fun j hj hji => by
      by_cases c : (gt l j).x = (gt l i).x
      · rw [if_pos c, if_neg (fun c' => hji (dist_lt hr hj hi (V2.ext c c')))]
      · rw [if_neg c]), if_pos rfl, if_pos rfl]
    refine ⟨fun _ => ?_, fun _ => by omega⟩
    have i1 : ite2 1 2 = 0 := rfl
    have i2 : ite2 1 1 = 1 := rfl
    rw [i1, i2]
    omega
  have hz : sumN l.length (fun i => if (gt l i).x = p.x then (if (gt l i).y = p.y then rowV l.length (ringP l) i - 2 else 0) else 0) = 0 := sumN_nil (fun j hj => by
    by_cases c : (gt l j).x = p.x
    · rw [if_pos c, if_neg (fun c' => hv ⟨j, hj, V2.ext c c'⟩)]
    · rw [if_neg c])
  rw [hz]
  by_cases he : ∃ i, i < l.length ∧ OnL (gt l i) (nxt l i) p
  · obtain ⟨i, hi, ho⟩ := he
    have hw : wherePl l (ptOf p) = 1 := by
      unfold wherePl
      have : onAny l (ptOf p) = true := by
        cases hc : onAny l (ptOf p) with
        | true => rfl
        | false => exact absurd ho (any_iff.1 hc i hi)
      rw [this, if_pos rfl]
    have ho' := ho
    rw [← ringP_nat hi, ← ringP_nxt h3 hi] at ho'
    have n1 : p ≠ ringP l i := fun h => hv ⟨i, hi, by rw [h, ringP_nat hi]⟩
    have n2 : p ≠ ringP l (i + 1) := fun h => hv ⟨(i + 1) % l.length, Nat.mod_lt _ (by omega), by rw [h, ringP_nxt h3 hi]; rfl⟩
    have k := C.on_edge hK ho' n1 n2
    have e1 : rowT (ringP l) p i l.length = rowT (ringP l) p i (l.length - 1 + 1) := by congr 1; omega
    have fl : tq (subP (ringP l i) p) (subP (ringP l (i + 1)) p) = 0 := tq_line (by rw [cross_tr]; exact ho'.1)
    rw [wq_row h3, ← C.row_shift p (Nat.le_of_lt hi), e1, rowT_succ, fl, k, hw]
    have i1 : ite2 1 2 = 0 := rfl
    have i2 : ite2 1 1 = 1 := rfl
    rw [i1, i2]
    omega
  · have ho : ∀ i, i < l.length → ¬ OnL (gt l i) (nxt l i) p := fun i hi h => he ⟨i, hi, h⟩
    have hn : onAny l (ptOf p) = false := any_iff.2 ho
    have hoff := C.off (m := 5000) (by decide) (fun i => by
      have a := near_in hr.near (ixnq l i)
      have b := near_in hr.near (ixnq l (i + 1))
      have := a.x0; have := a.x1; have := b.x0; have := b.x1
      unfold ringP; omega) hK (p := p) (fun i => by
      have := ho _ (ix_ltq h3 i)
      rw [ringP_next h3]
      exact this)
    rw [← wq_row h3] at hoff
    have e4 := wq_cq (by omega) ho
    have po := par_odd (f := fun i => cq (subP (gt l i) p) (subP (nxt l i) p)) (g := fun i => crsP (edge l i) (ptOf p)) l.length (fun i hi => crs_cq (ho i hi))
    unfold wherePl
    rw [hn, if_neg (by simp), parK_eq]
    generalize sumN l.length (fun i => cq (subP (gt l i) p) (subP (nxt l i) p)) = s at *
    cases hc : parN l.length (fun i => crsP (edge l i) (ptOf p)) with
    | true =>
      have := po.1 hc
      rw [if_pos rfl]
      have i1 : ite2 2 2 = 1 := rfl
      have i2 : ite2 2 1 = 0 := rfl
      rw [i1, i2]
      omega
    | false =>
      have : ¬ s % 2 = 1 := fun h => by rw [po.2 h] at hc; cases hc
      rw [if_neg (by simp)]
      have i1 : ite2 0 2 = 0 := rfl
      have i2 : ite2 0 1 = 0 := rfl
      rw [i1, i2]
      omega
theorem sI_le (lo : Int) (k : Nat) {f : Int → Int} (h : ∀ x, f x ≤ 0) : sI lo k f ≤ 0 := by
  induction k with
  | zero => simp [sI_zero]
  | succ k ih => rw [sI_succ]; have := h (lo + k); omega
/-- The integer points of the square at a place. -/
def cntR (l : List V2) (w M : Int) (k : Nat) : Int := sI (-M) k (fun x => sI (-M) k (fun y => ite2 (whereV l ⟨x, y⟩) w))
/-- Pick's formula. -/
theorem pick {l : List V2} (hr : RingOk l) {M : Int} {k : Nat} (hk : (k : Int) = 2 * M + 1) (hl : ∀ i, i < l.length → In M (gt l i)) :
    areaZ l = 2 * cntR l 2 M k + cntR l 1 M k - 2 := by
  have h3 := hr.three
  have C := smp_of hr
  obtain ⟨K, hK2, hK, hS⟩ := C.whole
  have at_ := fun p => wq_at hr hK2 hK p
  have area := wq_area hk (by omega) hl
  rcases hK2 with e | e
  · have sm : sI (-M) k (fun x => sI (-M) k (fun y => wqL l ⟨x, y⟩)) = sI (-M) k (fun x => sI (-M) k (fun y => 4 * ite2 (whereV l ⟨x, y⟩) 2 + 2 * ite2 (whereV l ⟨x, y⟩) 1 + sumN l.length (fun i => if (gt l i).x = x then (if (gt l i).y = y then rowV l.length (ringP l) i - 2 else 0) else 0))) :=
      sI_congr (fun x _ _ => sI_congr (fun y _ _ => (at_ ⟨x, y⟩).1 e))
    have inner : ∀ x, sI (-M) k (fun y => 4 * ite2 (whereV l ⟨x, y⟩) 2 + 2 * ite2 (whereV l ⟨x, y⟩) 1 + sumN l.length (fun i => if (gt l i).x = x then (if (gt l i).y = y then rowV l.length (ringP l) i - 2 else 0) else 0)) =
        4 * sI (-M) k (fun y => ite2 (whereV l ⟨x, y⟩) 2) + 2 * sI (-M) k (fun y => ite2 (whereV l ⟨x, y⟩) 1) + sumN l.length (fun i => if (gt l i).x = x then rowV l.length (ringP l) i - 2 else 0) := fun x => by
      rw [sI_sum, sI_sum, sI_mul, sI_mul, sI_sumN (-M) k l.length (fun y i => if (gt l i).x = x then (if (gt l i).y = y then rowV l.length (ringP l) i - 2 else 0) else 0)]
      congr 1
      refine sumN_congr (fun i hi => ?_)
      by_cases c : (gt l i).x = x
      · simp only [if_pos c]
        have := hl i hi
        exact sI_pick _ _ this.y0 (by have := this.y1; omega)
      · simp only [if_neg c]
        rw [sI_const]; simp
    have outer : sI (-M) k (fun x => sumN l.length (fun i => if (gt l i).x = x then rowV l.length (ringP l) i - 2 else 0)) = sumN l.length (fun i => rowV l.length (ringP l) i - 2) := by
      rw [sI_sumN (-M) k l.length (fun x i => if (gt l i).x = x then rowV l.length (ringP l) i - 2 else 0)]
      refine sumN_congr (fun i hi => ?_)
      have := hl i hi
      exact sI_pick _ _ this.x0 (by have := this.x1; omega)
    have vs : ∀ m, sumN m (fun i => rowV l.length (ringP l) i - 2) = -sumT (ringP l) 0 m := fun m => by
      induction m with
      | zero => rfl
      | succ m ih =>
        simp only [sumN, sumT]
        have := hK m
        rw [ih, Int.zero_add]; omega
    rw [sI_congr (fun x _ _ => inner x), sI_sum, sI_sum, sI_mul, sI_mul, outer, vs, hS, e] at sm
    unfold cntR
    omega
  · have : sI (-M) k (fun x => sI (-M) k (fun y => wqL l ⟨x, y⟩)) ≤ 0 := sI_le _ _ (fun x => sI_le _ _ (fun y => (at_ ⟨x, y⟩).2 e))
    have := hr.area
    omega
theorem sI_range (lo : Int) (k : Nat) {f : Int → Int} {m : Int} (h : ∀ x, 0 ≤ f x ∧ f x ≤ m) : 0 ≤ sI lo k f ∧ sI lo k f ≤ k * m := by
  induction k with
  | zero => simp [sI_zero]
  | succ k ih =>
    rw [sI_succ]
    have := h (lo + k)
    have e : ((k + 1 : Nat) : Int) * m = k * m + m := by rw [show ((k + 1 : Nat) : Int) = k + 1 by omega, Int.add_mul, Int.one_mul]
    omega
theorem ite2_range (x y : Int) : 0 ≤ ite2 x y ∧ ite2 x y ≤ 1 := by unfold ite2; split <;> omega
abbrev colR (l : List V2) (w x : Int) (j : Nat) : Int := sI (-12) j (fun y => ite2 (whereV l ⟨x, y⟩) w)
abbrev rowR (l : List V2) (w : Int) (i : Nat) : Int := sI (-12) i (fun x => colR l w x 25)
theorem col_range (l : List V2) (w x : Int) (j : Nat) : 0 ≤ colR l w x j ∧ colR l w x j ≤ j := by
  have := sI_range (-12) j (fun y => ite2_range (whereV l ⟨x, y⟩) w)
  rwa [Int.mul_one] at this
theorem row_range (l : List V2) (w : Int) (i : Nat) : 0 ≤ rowR l w i ∧ rowR l w i ≤ i * 25 := sI_range (-12) i (fun x => col_range l w x 25)
theorem lpick_det (l : List V2) (hl : l.length ≤ maxLen) : Det Try.prog 7 [.one (vlS l)] (tbool true) := by
  refine det_of_awp TTok mixed Try.func7 rfl rfl [] (Nat.le_of_ble_eq_true rfl) ?_
  refine CallW.mk' awake8_det ?_
  refine Split.f ?_
  refine CallW.bool (few_det l hl) (fun b hb => ?_)
  refine Split.mk (fun h => ?_) (fun h => ?_)
  · repeat' first | refine Split.t ?_ | refine Split.f ?_ | refine Split.isT h ?_ | fail
    exact Fin.rfl'
  have h6 : l.length ≤ 60 := by
    have : b = true := by simpa using h
    exact of_decide_eq_true (by rw [← hb, this])
  repeat' first | refine Split.t ?_ | refine Split.f ?_ | refine Split.isF h ?_ | fail
  refine CallW.bool (valid_det' l (by omega)) (fun c hc => ?_)
  repeat' first | refine Split.t ?_ | refine Split.f ?_ | refine Split.isF h ?_ | fail
  refine Split.mk (fun h1 => ?_) (fun h1 => ?_)
  · repeat' first | refine Split.t ?_ | refine Split.f ?_ | refine Split.isF h ?_ | refine Split.isT h1 ?_ | fail
    exact Fin.rfl'
  have hv : validR l = true := by rw [← hc]; simpa using h1
  have hr : RingOk l := ring_ok.1 hv
  have h3 := hr.three
  repeat' first | refine Split.t ?_ | refine Split.f ?_ | refine Split.isF h ?_ | refine Split.isF h1 ?_ | fail
  refine Loop.by (α := Nat) (fun i => [(0, .d (.one (vlS l))), (3, tint i)]) (fun _ => []) (fun i => i ≤ l.length ∧ ∀ j, j < i → In 12 (gt l j)) (fun i => l.length - i)
    (Adj.at 0 ⟨Nat.zero_le _, fun _ h => absurd h (Nat.not_lt_zero _)⟩ .nil (.cons .same (.cons .same .nil))) (fun i hi => ?_)
  refine Split.mk (fun c1 => ?_) (fun c1 => ?_)
  · have hlt : i < l.length := by have := of_decide_eq_true c1; omega
    have hw64 : IntKind.i64.wrap ((i : Int) + 1) = ((i + 1 : Nat) : Int) := by rw [hw _ (by omega) (by omega)]; omega
    refine Need.mk (by omega) ?_
    refine CallW.bool (within_det (gt l i) 12) (fun d hd => ?_)
    refine Split.mk (fun c2 => ?_) (fun c2 => ?_)
    · repeat' first | refine Split.isT c2 ?_ | refine Split.t ?_ | refine Split.f ?_ | fail
      exact Fin.rfl'
    · have hin : In 12 (gt l i) := by
        have : d = true := by simpa using c2
        exact In.of (by decide) (by decide) (by rw [← hd]; exact this)
      repeat' first | refine Split.isF c2 ?_ | refine Split.t ?_ | refine Split.f ?_ | fail
      exact Adj.back (x := i) (i + 1) ⟨by omega, fun j hj => by
        by_cases e : j = i
        · subst e; exact hin
        · exact hi.2 j (by omega)⟩ (by omega) .nil (.cons .same (.cons (SlotLe.int hw64) .nil))
  · obtain ⟨hi1, hi2⟩ := hi
    obtain rfl : i = l.length := by have := of_decide_eq_false c1; omega
    refine Loop.by (α := Nat) (fun i => [(0, .d (.one (vlS l))), (4, tint (rowR l 2 i)), (5, tint (rowR l 1 i)), (6, tint (-12 + i))]) (fun _ => []) (fun i => i ≤ 25) (fun i => 25 - i)
      (Adj.at 0 (Nat.zero_le _) .nil (.cons .same (.cons .same (.cons .same (.cons .same .nil))))) (fun i hi => ?_)
    refine Split.mk (fun c2 => ?_) (fun c2 => ?_)
    · have hlt : i < 25 := by have := of_decide_eq_true c2; omega
      have hx64 : IntKind.i64.wrap (-12 + (i : Int) + 1) = -12 + ((i + 1 : Nat) : Int) := by rw [wid (by omega) (by omega)]; omega
      refine Loop.by (α := Nat) (fun j => [(0, .d (.one (vlS l))), (4, tint (rowR l 2 i + colR l 2 (-12 + i) j)), (5, tint (rowR l 1 i + colR l 1 (-12 + i) j)), (6, tint (-12 + i)), (7, tint (-12 + j))]) (fun _ => []) (fun j => j ≤ 25) (fun j => 25 - j)
        (Adj.at 0 (Nat.zero_le _) .nil (.cons .same (.cons (SlotLe.int (by simp [sI_zero])) (.cons (SlotLe.int (by simp [sI_zero])) (.cons .same (.cons .same .nil)))))) (fun j hj => ?_)
      refine Split.mk (fun c3 => ?_) (fun c3 => ?_)
      · have hlj : j < 25 := by have := of_decide_eq_true c3; omega
        have hy64 : IntKind.i64.wrap (-12 + (j : Int) + 1) = -12 + ((j + 1 : Nat) : Int) := by rw [wid (by omega) (by omega)]; omega
        have r2 := row_range l 2 i
        have r1 := row_range l 1 i
        have q2 := col_range l 2 (-12 + i) j
        have q1 := col_range l 1 (-12 + i) j
        have s2 : colR l 2 (-12 + i) (j + 1) = colR l 2 (-12 + i) j + ite2 (whereV l ⟨-12 + i, -12 + j⟩) 2 := sI_succ _ _ _
        have s1 : colR l 1 (-12 + i) (j + 1) = colR l 1 (-12 + i) j + ite2 (whereV l ⟨-12 + i, -12 + j⟩) 1 := sI_succ _ _ _
        refine CallW.int (whereV_det l ⟨-12 + i, -12 + j⟩ (by omega)) (fun t ht => ?_)
        rw [← ht] at s1 s2
        refine Split.mk (fun c4 => ?_) (fun c4 => ?_)
        · have e : t = 2 := by simpa using c4
          have w1 : IntKind.i64.wrap (rowR l 2 i + colR l 2 (-12 + i) j + 1) = rowR l 2 i + colR l 2 (-12 + i) (j + 1) := by
            rw [wid (by omega) (by omega), s2, e, show ite2 2 2 = 1 from rfl]; omega
          have w2 : rowR l 1 i + colR l 1 (-12 + i) j = rowR l 1 i + colR l 1 (-12 + i) (j + 1) := by rw [s1, e, show ite2 2 1 = 0 from rfl]; omega
          repeat' first | refine Split.isT c4 ?_ | refine Split.t ?_ | refine Split.f ?_ | fail
          exact Adj.back (x := j) (j + 1) (by omega) (by omega) .nil (.cons .same (.cons (SlotLe.int w1) (.cons (SlotLe.int w2) (.cons .same (.cons (SlotLe.int hy64) .nil)))))
        · have n2 : t ≠ 2 := by simpa using c4
          have w1 : rowR l 2 i + colR l 2 (-12 + i) j = rowR l 2 i + colR l 2 (-12 + i) (j + 1) := by rw [s2, ite2, if_neg n2]; omega
          repeat' first | refine Split.isF c4 ?_ | refine Split.t ?_ | refine Split.f ?_ | fail
          refine Split.mk (fun c5 => ?_) (fun c5 => ?_)
          · have e : t = 1 := by simpa using c5
            have w2 : IntKind.i64.wrap (rowR l 1 i + colR l 1 (-12 + i) j + 1) = rowR l 1 i + colR l 1 (-12 + i) (j + 1) := by
              rw [wid (by omega) (by omega), s1, e, show ite2 1 1 = 1 from rfl]; omega
            repeat' first | refine Split.isT c5 ?_ | refine Split.isF c4 ?_ | refine Split.t ?_ | refine Split.f ?_ | fail
            exact Adj.back (x := j) (j + 1) (by omega) (by omega) .nil (.cons .same (.cons (SlotLe.int w1) (.cons (SlotLe.int w2) (.cons .same (.cons (SlotLe.int hy64) .nil)))))
          · have n1 : t ≠ 1 := by simpa using c5
            have w2 : rowR l 1 i + colR l 1 (-12 + i) j = rowR l 1 i + colR l 1 (-12 + i) (j + 1) := by rw [s1, ite2, if_neg n1]; omega
            repeat' first | refine Split.isF c5 ?_ | refine Split.isF c4 ?_ | refine Split.t ?_ | refine Split.f ?_ | fail
            exact Adj.back (x := j) (j + 1) (by omega) (by omega) .nil (.cons .same (.cons (SlotLe.int w1) (.cons (SlotLe.int w2) (.cons .same (.cons (SlotLe.int hy64) .nil)))))
      · obtain rfl : j = 25 := by have := of_decide_eq_false c3; omega
        have s2 : rowR l 2 (i + 1) = rowR l 2 i + colR l 2 (-12 + i) 25 := sI_succ _ _ _
        have s1 : rowR l 1 (i + 1) = rowR l 1 i + colR l 1 (-12 + i) 25 := sI_succ _ _ _
        exact Adj.back (x := i) (i + 1) (by omega) (by omega) .nil (.cons .same (.cons (SlotLe.int s2.symm) (.cons (SlotLe.int s1.symm) (.cons (SlotLe.int hx64) .nil))))
    · obtain rfl : i = 25 := by have := of_decide_eq_false c2; omega
      have pk := pick hr (M := 12) (k := 25) rfl (fun i hi => hi2 i hi)
      have ha : area2R l = areaZ l := by unfold area2R; rw [if_pos hv, area_eq hr.near (by omega)]
      have r2 := row_range l 2 25
      have r1 := row_range l 1 25
      refine CallW.int (area2_det l (by omega)) (fun t ht => ?_)
      rw [ha, pk] at ht
      refine Fin.bool ?_
      have e : IntKind.i64.wrap (IntKind.i64.wrap (IntKind.i64.wrap (2 * rowR l 2 25) + rowR l 1 25) - 2) = 2 * rowR l 2 25 + rowR l 1 25 - 2 := by
        rw [wid (n := 2 * rowR l 2 25) (by omega) (by omega), wid (n := 2 * rowR l 2 25 + rowR l 1 25) (by omega) (by omega), wid (by omega) (by omega)]
      show (t == IntKind.i64.wrap (IntKind.i64.wrap (IntKind.i64.wrap (2 * rowR l 2 25) + rowR l 1 25) - 2)) = true
      rw [e, ht]
      exact beq_self_eq_true _
theorem lpick_all : ∀ dvs, TypL Try.prog Try.f7.params.toList dvs → Det Try.prog 7 dvs (tbool true) := by
  intro dvs h
  obtain ⟨v0, r0, rfl, h0, q0⟩ := TypL.inv_cons (t := 23) (ts := []) h
  obtain rfl := TypL.inv_nil q0
  obtain ⟨l, hl, hle⟩ := ring_of h0
  exact Det.le (.cons hle .nil) (lpick_det l hl)
end Sg
end Go.Vm
