/-
  Layer 8, the plain laws: segments that do not meet, and the parity of a ray's crossings along such a segment.
-/
import Derived.Test.YtgmlblmkcbcgaaaRingQ
namespace Go.Vm
set_option maxRecDepth 20000
set_option linter.unusedVariables false
set_option linter.unusedSimpArgs false
open Go Go.RowKit Go.Proofs
namespace Sg

/-- Twice the area of a triangle, with its sign. -/
def trP (a b c : V2) : Int := crossP (subP b a) (subP c a)
/-- A point lies on a segment. -/
def OnL (a b p : V2) : Prop := trP a b p = 0 ∧ (a.x ≤ p.x ∨ b.x ≤ p.x) ∧ (p.x ≤ a.x ∨ p.x ≤ b.x) ∧ (a.y ≤ p.y ∨ b.y ≤ p.y) ∧ (p.y ≤ a.y ∨ p.y ≤ b.y)
/-- Two segments have nothing in common. -/
structure NM (a b p q : V2) : Prop where
  a_ : ¬ OnL p q a
  b_ : ¬ OnL p q b
  p_ : ¬ OnL a b p
  q_ : ¬ OnL a b q
  cr : ¬ (((0 < trP p q a ∧ trP p q b < 0) ∨ (trP p q a < 0 ∧ 0 < trP p q b)) ∧ ((0 < trP a b p ∧ trP a b q < 0) ∨ (trP a b p < 0 ∧ 0 < trP a b q)))
theorem tr_swap (a b c : V2) : trP b a c = -trP a b c := by
  simp only [trP, crossP, subP]
  grind
theorem onL_swap {a b p : V2} : OnL b a p ↔ OnL a b p := by
  unfold OnL
  rw [tr_swap]
  omega
theorem NM.rev {a b p q : V2} (h : NM a b p q) : NM b a p q := by
  refine ⟨h.b_, h.a_, fun k => h.p_ (onL_swap.1 k), fun k => h.q_ (onL_swap.1 k), fun k => h.cr ?_⟩
  rw [tr_swap a b p, tr_swap a b q] at k
  omega
theorem NM.swap {a b p q : V2} (h : NM a b p q) : NM a b q p := by
  refine ⟨fun k => h.a_ (onL_swap.1 k), fun k => h.b_ (onL_swap.1 k), h.q_, h.p_, fun k => h.cr ?_⟩
  rw [tr_swap p q a, tr_swap p q b] at k
  omega
theorem posf {y : Int} (x : Int) (h : 0 < y) : (0 < x → 0 < x * y) ∧ (x < 0 → x * y < 0) ∧ (x = 0 → x * y = 0) := by
  refine ⟨fun k => Int.mul_pos k h, fun k => Int.mul_neg_of_neg_of_pos k h, fun k => by rw [k, Int.zero_mul]⟩
theorem nnf {y : Int} (x : Int) (h : 0 ≤ y) : (0 < x → 0 < y → 0 < x * y) ∧ (x < 0 → 0 < y → x * y < 0) ∧ (x = 0 → x * y = 0) ∧ (y = 0 → x * y = 0) := by
  refine ⟨fun k h => Int.mul_pos k h, fun k h => Int.mul_neg_of_neg_of_pos k h, fun k => by rw [k, Int.zero_mul], fun k => by rw [k, Int.mul_zero]⟩
theorem wn {x y : Int} (hx : x ≤ 0) (hy : 0 ≤ y) : x * y ≤ 0 := Int.mul_nonpos_of_nonpos_of_nonneg hx hy
theorem sg {x y : Int} (hy : 0 < y) : (x * y < 0 → x < 0) ∧ (0 < x * y → 0 < x) := by
  refine ⟨fun k => Classical.byContradiction fun q => ?_, fun k => Classical.byContradiction fun q => ?_⟩
  · have := Int.mul_nonneg (show 0 ≤ x by omega) (Int.le_of_lt hy); omega
  · have := wn (show x ≤ 0 by omega) (Int.le_of_lt hy); omega
/-- What two segments that do not meet are, as numbers: the first one goes up, the second one does not go down. -/
structure Q4 (al be ga de ya yb yp yq : Int) : Prop where
  up : ya ≤ yb
  le : yp ≤ yq
  sum : al - be = de - ga
  P : be * (yp - ya) + al * (yb - yp) + ga * (yq - yp) = 0
  Q : be * (yq - ya) + al * (yb - yq) + de * (yq - yp) = 0
  A : al * (yb - ya) + de * (ya - yp) + ga * (yq - ya) = 0
  B : be * (yb - ya) + de * (yb - yp) + ga * (yq - yb) = 0
  Fa : ¬ (al = 0 ∧ yp < yq ∧ yp ≤ ya ∧ ya ≤ yq)
  Fb : ¬ (be = 0 ∧ yp < yq ∧ yp ≤ yb ∧ yb ≤ yq)
  Fp : ¬ (ga = 0 ∧ ya < yb ∧ ya ≤ yp ∧ yp ≤ yb)
  Fq : ¬ (de = 0 ∧ ya < yb ∧ ya ≤ yq ∧ yq ≤ yb)
  F2 : ¬ (yp < yq ∧ ya = yq ∧ yb = yq ∧ de = 0 ∧ ((al < 0 ∧ 0 < be) ∨ (be < 0 ∧ 0 < al)))
  F3 : ¬ (yp = yq ∧ ya = yp ∧ ya < yb ∧ al = 0 ∧ ((de < 0 ∧ 0 < ga) ∨ (ga < 0 ∧ 0 < de)))
  cr : ¬ (((0 < al ∧ be < 0) ∨ (al < 0 ∧ 0 < be)) ∧ ((0 < ga ∧ de < 0) ∨ (ga < 0 ∧ 0 < de)))
section
variable {al be ga de ya yb yp yq : Int}
theorem Q4.l1 (h : Q4 al be ga de ya yb yp yq) (h1 : ya ≤ yp) (h2 : yp < yb) (h3 : yb ≤ yq) : 0 < ga ↔ be < 0 := by
  constructor <;> intro k <;> refine Classical.byContradiction (fun kk => h.cr ?_)
  · have hb : 0 < be := by have := h.Fb; omega
    have m1 := Int.mul_nonneg (Int.le_of_lt hb) (show 0 ≤ yp - ya by omega)
    have m3 := Int.mul_pos k (show 0 < yq - yp by omega)
    have m4 := Int.mul_pos hb (show 0 < yb - ya by omega)
    have m6 := Int.mul_nonneg (Int.le_of_lt k) (show 0 ≤ yq - yb by omega)
    have ha := (sg (x := al) (show 0 < yb - yp by omega)).1 (by have := h.P; omega)
    have hd := (sg (x := de) (show 0 < yb - yp by omega)).1 (by have := h.B; omega)
    exact ⟨.inr ⟨ha, hb⟩, .inl ⟨k, hd⟩⟩
  · have hg : ga < 0 := by have := h.Fp; omega
    have m1 := wn (Int.le_of_lt k) (show 0 ≤ yp - ya by omega)
    have m3 := Int.mul_neg_of_neg_of_pos hg (show 0 < yq - yp by omega)
    have m4 := Int.mul_neg_of_neg_of_pos k (show 0 < yb - ya by omega)
    have m6 := wn (Int.le_of_lt hg) (show 0 ≤ yq - yb by omega)
    have ha := (sg (x := al) (show 0 < yb - yp by omega)).2 (by have := h.P; omega)
    have hd := (sg (x := de) (show 0 < yb - yp by omega)).2 (by have := h.B; omega)
    exact ⟨.inl ⟨ha, k⟩, .inr ⟨hg, hd⟩⟩
theorem Q4.l3 (h : Q4 al be ga de ya yb yp yq) (h1 : ya ≤ yp) (h2 : yq < yb) : 0 < ga ↔ 0 < de := by
  have h0 := h.le
  have hs := h.sum
  constructor <;> intro k <;> refine Classical.byContradiction (fun kk => h.cr ?_)
  · have hd : de < 0 := by have := h.Fq; omega
    have hb : 0 < be := by
      refine Classical.byContradiction (fun hb => ?_)
      have m4 := wn (show be ≤ 0 by omega) (show 0 ≤ yq - ya by omega)
      have m5 := Int.mul_neg_of_neg_of_pos (show al < 0 by omega) (show 0 < yb - yq by omega)
      have m6 := wn (Int.le_of_lt hd) (show 0 ≤ yq - yp by omega)
      have := h.Q; omega
    have ha : al < 0 := by
      refine Classical.byContradiction (fun ha => h.F3 ?_)
      have m1 := Int.mul_nonneg (Int.le_of_lt hb) (show 0 ≤ yp - ya by omega)
      have m2 := Int.mul_nonneg (show 0 ≤ al by omega) (show 0 ≤ yb - yp by omega)
      have m3 := Int.mul_nonneg (Int.le_of_lt k) (show 0 ≤ yq - yp by omega)
      have n1 := fun q => Int.mul_pos hb (show 0 < yp - ya from q)
      have n2 := fun q => Int.mul_pos (show 0 < al from q) (show 0 < yb - yp by omega)
      have n3 := fun q => Int.mul_pos k (show 0 < yq - yp from q)
      have := h.P
      refine ⟨by omega, by omega, by omega, by omega, .inl ⟨hd, k⟩⟩
    exact ⟨.inr ⟨ha, hb⟩, .inl ⟨k, hd⟩⟩
  · have hg : ga < 0 := by have := h.Fp; omega
    have hb : be < 0 := by
      refine Classical.byContradiction (fun hb => ?_)
      have m4 := Int.mul_nonneg (show 0 ≤ be by omega) (show 0 ≤ yq - ya by omega)
      have m5 := Int.mul_pos (show 0 < al by omega) (show 0 < yb - yq by omega)
      have m6 := Int.mul_nonneg (Int.le_of_lt k) (show 0 ≤ yq - yp by omega)
      have := h.Q; omega
    have ha : 0 < al := by
      refine Classical.byContradiction (fun ha => h.F3 ?_)
      have m1 := wn (Int.le_of_lt hb) (show 0 ≤ yp - ya by omega)
      have m2 := wn (show al ≤ 0 by omega) (show 0 ≤ yb - yp by omega)
      have m3 := wn (Int.le_of_lt hg) (show 0 ≤ yq - yp by omega)
      have n1 := fun q => Int.mul_neg_of_neg_of_pos hb (show 0 < yp - ya from q)
      have n2 := fun q => Int.mul_neg_of_neg_of_pos (show al < 0 from q) (show 0 < yb - yp by omega)
      have n3 := fun q => Int.mul_neg_of_neg_of_pos hg (show 0 < yq - yp from q)
      have := h.P
      refine ⟨by omega, by omega, by omega, by omega, .inr ⟨hg, k⟩⟩
    exact ⟨.inl ⟨ha, hb⟩, .inr ⟨hg, k⟩⟩
theorem Q4.l4 (h : Q4 al be ga de ya yb yp yq) (h1 : yp < ya) (h2 : ya ≤ yq) (h3 : yq < yb) : 0 < de ↔ al < 0 := by
  constructor <;> intro k <;> refine Classical.byContradiction (fun kk => h.cr ?_)
  · have ha : 0 < al := by have := h.Fa; omega
    have m1 := Int.mul_pos ha (show 0 < yb - ya by omega)
    have m2 := Int.mul_pos k (show 0 < ya - yp by omega)
    have m5 := Int.mul_pos ha (show 0 < yb - yq by omega)
    have m6 := Int.mul_pos k (show 0 < yq - yp by omega)
    have hg : ga < 0 := by
      refine Classical.byContradiction (fun q => ?_)
      have := Int.mul_nonneg (show 0 ≤ ga by omega) (show 0 ≤ yq - ya by omega)
      have := h.A; omega
    have hb : be < 0 := by
      refine Classical.byContradiction (fun q => ?_)
      have := Int.mul_nonneg (show 0 ≤ be by omega) (show 0 ≤ yq - ya by omega)
      have := h.Q; omega
    exact ⟨.inl ⟨ha, hb⟩, .inr ⟨hg, k⟩⟩
  · have hd : de < 0 := by have := h.Fq; omega
    have m1 := Int.mul_neg_of_neg_of_pos k (show 0 < yb - ya by omega)
    have m2 := Int.mul_neg_of_neg_of_pos hd (show 0 < ya - yp by omega)
    have m5 := Int.mul_neg_of_neg_of_pos k (show 0 < yb - yq by omega)
    have m6 := Int.mul_neg_of_neg_of_pos hd (show 0 < yq - yp by omega)
    have hg : 0 < ga := by
      refine Classical.byContradiction (fun q => ?_)
      have := wn (show ga ≤ 0 by omega) (show 0 ≤ yq - ya by omega)
      have := h.A; omega
    have hb : 0 < be := by
      refine Classical.byContradiction (fun q => ?_)
      have := wn (show be ≤ 0 by omega) (show 0 ≤ yq - ya by omega)
      have := h.Q; omega
    exact ⟨.inr ⟨k, hb⟩, .inl ⟨hg, hd⟩⟩
theorem Q4.l2 (h : Q4 al be ga de ya yb yp yq) (h1 : yp < ya) (h2 : yb ≤ yq) : al < 0 ↔ be < 0 := by
  have hu := h.up
  have hs := h.sum
  constructor <;> intro k <;> refine Classical.byContradiction (fun kk => h.cr ?_)
  · have hb : 0 < be := by have := h.Fb; omega
    have hg : 0 < ga := by
      refine Classical.byContradiction (fun q => ?_)
      have m1 := wn (Int.le_of_lt k) (show 0 ≤ yb - ya by omega)
      have m2 := Int.mul_neg_of_neg_of_pos (show de < 0 by omega) (show 0 < ya - yp by omega)
      have m3 := wn (show ga ≤ 0 by omega) (show 0 ≤ yq - ya by omega)
      have := h.A; omega
    have hd : de < 0 := by
      refine Classical.byContradiction (fun q => h.F2 ?_)
      have m1 := Int.mul_nonneg (Int.le_of_lt hb) (show 0 ≤ yb - ya by omega)
      have m2 := Int.mul_nonneg (show 0 ≤ de by omega) (show 0 ≤ yb - yp by omega)
      have m3 := Int.mul_nonneg (Int.le_of_lt hg) (show 0 ≤ yq - yb by omega)
      have n1 := fun q => Int.mul_pos hb (show 0 < yb - ya from q)
      have n2 := fun q => Int.mul_pos (show 0 < de from q) (show 0 < yb - yp by omega)
      have n3 := fun q => Int.mul_pos hg (show 0 < yq - yb from q)
      have := h.B
      refine ⟨by omega, by omega, by omega, by omega, .inl ⟨k, hb⟩⟩
    exact ⟨.inr ⟨k, hb⟩, .inl ⟨hg, hd⟩⟩
  · have ha : 0 < al := by have := h.Fa; omega
    have hg : ga < 0 := by
      refine Classical.byContradiction (fun q => ?_)
      have m1 := Int.mul_nonneg (Int.le_of_lt ha) (show 0 ≤ yb - ya by omega)
      have m2 := Int.mul_pos (show 0 < de by omega) (show 0 < ya - yp by omega)
      have m3 := Int.mul_nonneg (show 0 ≤ ga by omega) (show 0 ≤ yq - ya by omega)
      have := h.A; omega
    have hd : 0 < de := by
      refine Classical.byContradiction (fun q => h.F2 ?_)
      have m1 := wn (Int.le_of_lt k) (show 0 ≤ yb - ya by omega)
      have m2 := wn (show de ≤ 0 by omega) (show 0 ≤ yb - yp by omega)
      have m3 := wn (Int.le_of_lt hg) (show 0 ≤ yq - yb by omega)
      have n1 := fun q => Int.mul_neg_of_neg_of_pos k (show 0 < yb - ya from q)
      have n2 := fun q => Int.mul_neg_of_neg_of_pos (show de < 0 from q) (show 0 < yb - yp by omega)
      have n3 := fun q => Int.mul_neg_of_neg_of_pos hg (show 0 < yq - yb from q)
      have := h.B
      refine ⟨by omega, by omega, by omega, by omega, .inr ⟨k, ha⟩⟩
    exact ⟨.inl ⟨ha, k⟩, .inr ⟨hg, hd⟩⟩
/-- The parities of both ends' rays differ by those of the edge's ends. -/
theorem Q4.step (h : Q4 al be ga de ya yb yp yq) :
    xor (decide (ya ≤ yp ∧ yp < yb ∧ 0 < ga)) (decide (ya ≤ yq ∧ yq < yb ∧ 0 < de)) = xor (decide (yp < ya ∧ ya ≤ yq ∧ al < 0)) (decide (yp < yb ∧ yb ≤ yq ∧ be < 0)) := by
  have h1 := fun a b c => (h.l1 a b c).1
  have h2 := fun a b => (h.l2 a b).1
  have h3 := fun a b => (h.l3 a b).1
  have h4 := fun a b c => (h.l4 a b c).1
  have h1' := fun a b c => (h.l1 a b c).2
  have h2' := fun a b => (h.l2 a b).2
  have h3' := fun a b => (h.l3 a b).2
  have h4' := fun a b c => (h.l4 a b c).2
  have h5 := h.up
  have h6 := h.le
  generalize c1 : decide (ya ≤ yp ∧ yp < yb ∧ 0 < ga) = x1
  generalize c2 : decide (ya ≤ yq ∧ yq < yb ∧ 0 < de) = x2
  generalize c3 : decide (yp < ya ∧ ya ≤ yq ∧ al < 0) = x3
  generalize c4 : decide (yp < yb ∧ yb ≤ yq ∧ be < 0) = x4
  clear h
  cases x1 <;> cases x2 <;> cases x3 <;> cases x4 <;> simp only [decide_eq_true_eq, decide_eq_false_iff_not] at c1 c2 c3 c4 <;> first | rfl | (exfalso; omega)
end
/-- On a line that rises, the levels between the ends are those of points on the segment. -/
theorem on_level {a b p : V2} (h0 : trP a b p = 0) (h1 : a.y < b.y) (h2 : a.y ≤ p.y) (h3 : p.y ≤ b.y) : OnL a b p := by
  refine ⟨h0, ?_, ?_, .inl h2, .inr h3⟩
  all_goals
    simp only [trP, crossP, subP] at h0
    have e1 : (b.x - a.x) * (b.y - p.y) = (b.y - a.y) * (b.x - p.x) := by grind
    have f1 := nnf (b.x - a.x) (show 0 ≤ p.y - a.y by omega)
    have f2 := posf (p.x - a.x) (show 0 < b.y - a.y by omega)
    have f3 := nnf (b.x - a.x) (show 0 ≤ b.y - p.y by omega)
    have f4 := posf (b.x - p.x) (show 0 < b.y - a.y by omega)
    rw [Int.mul_comm (b.y - a.y)] at h0 e1
    generalize (b.x - a.x) * (p.y - a.y) = m1 at *
    generalize (p.x - a.x) * (b.y - a.y) = m2 at *
    generalize (b.x - a.x) * (b.y - p.y) = m3 at *
    generalize (b.x - p.x) * (b.y - a.y) = m4 at *
    omega
theorem NM.q4 {a b p q : V2} (h : NM a b p q) (hu : a.y ≤ b.y) (hl : p.y ≤ q.y) : Q4 (trP p q a) (trP p q b) (trP a b p) (trP a b q) a.y b.y p.y q.y := by
  refine ⟨hu, hl, ?_, ?_, ?_, ?_, ?_, fun ⟨k, h1, h2, h3⟩ => h.a_ (on_level k h1 h2 h3), fun ⟨k, h1, h2, h3⟩ => h.b_ (on_level k h1 h2 h3), fun ⟨k, h1, h2, h3⟩ => h.p_ (on_level k h1 h2 h3), fun ⟨k, h1, h2, h3⟩ => h.q_ (on_level k h1 h2 h3), fun ⟨h1, h2, h3, h4, h5⟩ => ?_, fun ⟨h1, h2, h3, h4, h5⟩ => ?_, h.cr⟩
  · simp only [trP, crossP, subP]; grind
  · simp only [trP, crossP, subP]; grind
  · simp only [trP, crossP, subP]; grind
  · simp only [trP, crossP, subP]; grind
  · simp only [trP, crossP, subP]; grind
  · have e1 : trP p q a = (q.x - a.x) * (q.y - p.y) := by simp only [trP, crossP, subP]; grind
    have e2 : trP p q b = (q.x - b.x) * (q.y - p.y) := by simp only [trP, crossP, subP]; grind
    have f1 := posf (q.x - a.x) (show 0 < q.y - p.y by omega)
    have f2 := posf (q.x - b.x) (show 0 < q.y - p.y by omega)
    rw [e1, e2] at h5
    generalize (q.x - a.x) * (q.y - p.y) = m1 at *
    generalize (q.x - b.x) * (q.y - p.y) = m2 at *
    refine h.q_ ⟨h4, ?_, ?_, ?_, ?_⟩ <;> omega
  · have e1 : trP a b p = (a.x - p.x) * (b.y - a.y) := by simp only [trP, crossP, subP]; grind
    have e2 : trP a b q = (a.x - q.x) * (b.y - a.y) := by simp only [trP, crossP, subP]; grind
    have f1 := posf (a.x - p.x) (show 0 < b.y - a.y by omega)
    have f2 := posf (a.x - q.x) (show 0 < b.y - a.y by omega)
    rw [e1, e2] at h5
    generalize (a.x - p.x) * (b.y - a.y) = m1 at *
    generalize (a.x - q.x) * (b.y - a.y) = m2 at *
    refine h.a_ ⟨h4, ?_, ?_, ?_, ?_⟩ <;> omega
end Sg
end Go.Vm
