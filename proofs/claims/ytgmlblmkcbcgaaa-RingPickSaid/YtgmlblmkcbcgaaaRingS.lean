/-
  Layer 8, the plain laws: segments that do not meet, and the parity of a ray's crossings along such a segment.
  Layer 8: a path that meets no edge: both ends lie at the same place. The contract of RingPath.
-/
import Derived.Test.YtgmlblmkcbcgaaaRingQ
namespace Go.Vm
set_option maxRecDepth 20000
set_option linter.unusedVariables false
set_option linter.unusedSimpArgs false
open Go Go.RowKit Go.Proofs
namespace Sg

/-- Twice the area of a triangle, with its sign. -/
def trP (a b c : V2) : Int := crossP (subP b a) (subP c a)
/-- A point lies on a segment. -/
def OnL (a b p : V2) : Prop := trP a b p = 0 ∧ (a.x ≤ p.x ∨ b.x ≤ p.x) ∧ (p.x ≤ a.x ∨ p.x ≤ b.x) ∧ (a.y ≤ p.y ∨ b.y ≤ p.y) ∧ (p.y ≤ a.y ∨ p.y ≤ b.y)
/-- Two segments have nothing in common. -/
structure NM (a b p q : V2) : Prop where
  a_ : ¬ OnL p q a
  b_ : ¬ OnL p q b
  p_ : ¬ OnL a b p
  q_ : ¬ OnL a b q
  cr : ¬ (((0 < trP p q a ∧ trP p q b < 0) ∨ (trP p q a < 0 ∧ 0 < trP p q b)) ∧ ((0 < trP a b p ∧ trP a b q < 0) ∨ (trP a b p < 0 ∧ 0 < trP a b q)))
theorem tr_swap (a b c : V2) : trP b a c = -trP a b c := by
  simp only [trP, crossP, subP]
  grind
theorem onL_swap {a b p : V2} : OnL b a p ↔ OnL a b p := by
  unfold OnL
  rw [tr_swap]
  omega
theorem NM.rev {a b p q : V2} (h : NM a b p q) : NM b a p q := by
  refine ⟨h.b_, h.a_, fun k => h.p_ (onL_swap.1 k), fun k => h.q_ (onL_swap.1 k), fun k => h.cr ?_⟩
  rw [tr_swap a b p, tr_swap a b q] at k
  omega
theorem NM.swap {a b p q : V2} (h : NM a b p q) : NM a b q p := by
  refine ⟨fun k => h.a_ (onL_swap.1 k), fun k => h.b_ (onL_swap.1 k), h.q_, h.p_, fun k => h.cr ?_⟩
  rw [tr_swap p q a, tr_swap p q b] at k
  omega
theorem posf {y : Int} (x : Int) (h : 0 < y) : (0 < x → 0 < x * y) ∧ (x < 0 → x * y < 0) ∧ (x = 0 → x * y = 0) := by
  refine ⟨fun k => Int.mul_pos k h, fun k => Int.mul_neg_of_neg_of_pos k h, fun k => by rw [k, Int.zero_mul]⟩
theorem nnf {y : Int} (x : Int) (h : 0 ≤ y) : (0 < x → 0 < y → 0 < x * y) ∧ (x < 0 → 0 < y → x * y < 0) ∧ (x = 0 → x * y = 0) ∧ (y = 0 → x * y = 0) := by
  refine ⟨fun k h => Int.mul_pos k h, fun k h => Int.mul_neg_of_neg_of_pos k h, fun k => by rw [k, Int.zero_mul], fun k => by rw [k, Int.mul_zero]⟩
theorem wn {x y : Int} (hx : x ≤ 0) (hy : 0 ≤ y) : x * y ≤ 0 := Int.mul_nonpos_of_nonpos_of_nonneg hx hy
theorem sg {x y : Int} (hy : 0 < y) : (x * y < 0 → x < 0) ∧ (0 < x * y → 0 < x) := by
  refine ⟨fun k => Classical.byContradiction fun q => ?_, fun k => Classical.byContradiction fun q => ?_⟩
  · have := Int.mul_nonneg (show 0 ≤ x by omega) (Int.le_of_lt hy); omega
  · have := wn (show x ≤ 0 by omega) (Int.le_of_lt hy); omega
/-- What two segments that do not meet are, as numbers: the first one goes up, the second one does not go down. -/
structure Q4 (al be ga de ya yb yp yq : Int) : Prop where
  up : ya ≤ yb
  le : yp ≤ yq
  sum : al - be = de - ga
  P : be * (yp - ya) + al * (yb - yp) + ga * (yq - yp) = 0
  Q : be * (yq - ya) + al * (yb - yq) + de * (yq - yp) = 0
  A : al * (yb - ya) + de * (ya - yp) + ga * (yq - ya) = 0
  B : be * (yb - ya) + de * (yb - yp) + ga * (yq - yb) = 0
  Fa : ¬ (al = 0 ∧ yp < yq ∧ yp ≤ ya ∧ ya ≤ yq)
  Fb : ¬ (be = 0 ∧ yp < yq ∧ yp ≤ yb ∧ yb ≤ yq)
  Fp : ¬ (ga = 0 ∧ ya < yb ∧ ya ≤ yp ∧ yp ≤ yb)
  Fq : ¬ (de = 0 ∧ ya < yb ∧ ya ≤ yq ∧ yq ≤ yb)
  F2 : ¬ (yp < yq ∧ ya = yq ∧ yb = yq ∧ de = 0 ∧ ((al < 0 ∧ 0 < be) ∨ (be < 0 ∧ 0 < al)))
  F3 : ¬ (yp = yq ∧ ya = yp ∧ ya < yb ∧ al = 0 ∧ ((de < 0 ∧ 0 < ga) ∨ (ga < 0 ∧ 0 < de)))
  cr : ¬ (((0 < al ∧ be < 0) ∨ (al < 0 ∧ 0 < be)) ∧ ((0 < ga ∧ de < 0) ∨ (ga < 0 ∧ 0 < de)))
section
variable {al be ga de ya yb yp yq : Int}
theorem Q4.l1 (h : Q4 al be ga de ya yb yp yq) (h1 : ya ≤ yp) (h2 : yp < yb) (h3 : yb ≤ yq) : 0 < ga ↔ be < 0 := by
  constructor <;> intro k <;> refine Classical.byContradiction (fun kk => h.cr ?_)
  · have hb : 0 < be := by have := h.Fb; omega
    have m1 := Int.mul_nonneg (Int.le_of_lt hb) (show 0 ≤ yp - ya by omega)
    have m3 := Int.mul_pos k (show 0 < yq - yp by omega)
    have m4 := Int.mul_pos hb (show 0 < yb - ya by omega)
    have m6 := Int.mul_nonneg (Int.le_of_lt k) (show 0 ≤ yq - yb by omega)
    have ha := (sg (x := al) (show 0 < yb - yp by omega)).1 (by have := h.P; omega)
    have hd := (sg (x := de) (show 0 < yb - yp by omega)).1 (by have := h.B; omega)
    exact ⟨.inr ⟨ha, hb⟩, .inl ⟨k, hd⟩⟩
  · have hg : ga < 0 := by have := h.Fp; omega
    have m1 := wn (Int.le_of_lt k) (show 0 ≤ yp - ya by omega)
    have m3 := Int.mul_neg_of_neg_of_pos hg (show 0 < yq - yp by omega)
    have m4 := Int.mul_neg_of_neg_of_pos k (show 0 < yb - ya by omega)
    have m6 := wn (Int.le_of_lt hg) (show 0 ≤ yq - yb by omega)
    have ha := (sg (x := al) (show 0 < yb - yp by omega)).2 (by have := h.P; omega)
    have hd := (sg (x := de) (show 0 < yb - yp by omega)).2 (by have := h.B; omega)
    exact ⟨.inl ⟨ha, k⟩, .inr ⟨hg, hd⟩⟩
theorem Q4.l3 (h : Q4 al be ga de ya yb yp yq) (h1 : ya ≤ yp) (h2 : yq < yb) : 0 < ga ↔ 0 < de := by
  have h0 := h.le
  have hs := h.sum
  constructor <;> intro k <;> refine Classical.byContradiction (fun kk => h.cr ?_)
  · have hd : de < 0 := by have := h.Fq; omega
    have hb : 0 < be := by
      refine Classical.byContradiction (fun hb => ?_)
      have m4 := wn (show be ≤ 0 by omega) (show 0 ≤ yq - ya by omega)
      have m5 := Int.mul_neg_of_neg_of_pos (show al < 0 by omega) (show 0 < yb - yq by omega)
      have m6 := wn (Int.le_of_lt hd) (show 0 ≤ yq - yp by omega)
      have := h.Q; omega
    have ha : al < 0 := by
      refine Classical.byContradiction (fun ha => h.F3 ?_)
      have m1 := Int.mul_nonneg (Int.le_of_lt hb) (show 0 ≤ yp - ya by omega)
      have m2 := Int.mul_nonneg (show 0 ≤ al by omega) (show 0 ≤ yb - yp by omega)
      have m3 := Int.mul_nonneg (Int.le_of_lt k) (show 0 ≤ yq - yp by omega)
      have n1 := fun q => Int.mul_pos hb (show 0 < yp - ya from q)
      have n2 := fun q => Int.mul_pos (show 0 < al from q) (show 0 < yb - yp by omega)
      have n3 := fun q => Int.mul_pos k (show 0 < yq - yp from q)
      have := h.P
      refine ⟨by omega, by omega, by omega, by omega, .inl ⟨hd, k⟩⟩
    exact ⟨.inr ⟨ha, hb⟩, .inl ⟨k, hd⟩⟩
  · have hg : ga < 0 := by have := h.Fp; omega
    have hb : be < 0 := by
      refine Classical.byContradiction (fun hb => ?_)
      have m4 := Int.mul_nonneg (show 0 ≤ be by omega) (show 0 ≤ yq - ya by omega)
      have m5 := Int.mul_pos (show 0 < al by omega) (show 0 < yb - yq by omega)
      have m6 := Int.mul_nonneg (Int.le_of_lt k) (show 0 ≤ yq - yp by omega)
      have := h.Q; omega
    have ha : 0 < al := by
      refine Classical.byContradiction (fun ha => h.F3 ?_)
      have m1 := wn (Int.le_of_lt hb) (show 0 ≤ yp - ya by omega)
      have m2 := wn (show al ≤ 0 by omega) (show 0 ≤ yb - yp by omega)
      have m3 := wn (Int.le_of_lt hg) (show 0 ≤ yq - yp by omega)
      have n1 := fun q => Int.mul_neg_of_neg_of_pos hb (show 0 < yp - ya from q)
      have n2 := fun q => Int.mul_neg_of_neg_of_pos (show al < 0 from q) (show 0 < yb - yp by omega)
      have n3 := fun q => Int.mul_neg_of_neg_of_pos hg (show 0 < yq - yp from q)
      have := h.P
      refine ⟨by omega, by omega, by omega, by omega, .inr ⟨hg, k⟩⟩
    exact ⟨.inl ⟨ha, hb⟩, .inr ⟨hg, k⟩⟩
theorem Q4.l4 (h : Q4 al be ga de ya yb yp yq) (h1 : yp < ya) (h2 : ya ≤ yq) (h3 : yq < yb) : 0 < de ↔ al < 0 := by
  constructor <;> intro k <;> refine Classical.byContradiction (fun kk => h.cr ?_)
  · have ha : 0 < al := by have := h.Fa; omega
    have m1 := Int.mul_pos ha (show 0 < yb - ya by omega)
    have m2 := Int.mul_pos k (show 0 < ya - yp by omega)
    have m5 := Int.mul_pos ha (show 0 < yb - yq by omega)
    have m6 := Int.mul_pos k (show 0 < yq - yp by omega)
    have hg : ga < 0 := by
      refine Classical.byContradiction (fun q => ?_)
      have := Int.mul_nonneg (show 0 ≤ ga by omega) (show 0 ≤ yq - ya by omega)
      have := h.A; omega
    have hb : be < 0 := by
      refine Classical.byContradiction (fun q => ?_)
      have := Int.mul_nonneg (show 0 ≤ be by omega) (show 0 ≤ yq - ya by omega)
      have := h.Q; omega
    exact ⟨.inl ⟨ha, hb⟩, .inr ⟨hg, k⟩⟩
  · have hd : de < 0 := by have := h.Fq; omega
    have m1 := Int.mul_neg_of_neg_of_pos k (show 0 < yb - ya by omega)
    have m2 := Int.mul_neg_of_neg_of_pos hd (show 0 < ya - yp by omega)
    have m5 := Int.mul_neg_of_neg_of_pos k (show 0 < yb - yq by omega)
    have m6 := Int.mul_neg_of_neg_of_pos hd (show 0 < yq - yp by omega)
    have hg : 0 < ga := by
      refine Classical.byContradiction (fun q => ?_)
      have := wn (show ga ≤ 0 by omega) (show 0 ≤ yq - ya by omega)
      have := h.A; omega
    have hb : 0 < be := by
      refine Classical.byContradiction (fun q => ?_)
      have := wn (show be ≤ 0 by omega) (show 0 ≤ yq - ya by omega)
      have := h.Q; omega
    exact ⟨.inr ⟨k, hb⟩, .inl ⟨hg, hd⟩⟩
theorem Q4.l2 (h : Q4 al be ga de ya yb yp yq) (h1 : yp < ya) (h2 : yb ≤ yq) : al < 0 ↔ be < 0 := by
  have hu := h.up
  have hs := h.sum
  constructor <;> intro k <;> refine Classical.byContradiction (fun kk => h.cr ?_)
  · have hb : 0 < be := by have := h.Fb; omega
    have hg : 0 < ga := by
      refine Classical.byContradiction (fun q => ?_)
      have m1 := wn (Int.le_of_lt k) (show 0 ≤ yb - ya by omega)
      have m2 := Int.mul_neg_of_neg_of_pos (show de < 0 by omega) (show 0 < ya - yp by omega)
      have m3 := wn (show ga ≤ 0 by omega) (show 0 ≤ yq - ya by omega)
      have := h.A; omega
    have hd : de < 0 := by
      refine Classical.byContradiction (fun q => h.F2 ?_)
      have m1 := Int.mul_nonneg (Int.le_of_lt hb) (show 0 ≤ yb - ya by omega)
      have m2 := Int.mul_nonneg (show 0 ≤ de by omega) (show 0 ≤ yb - yp by omega)
      have m3 := Int.mul_nonneg (Int.le_of_lt hg) (show 0 ≤ yq - yb by omega)
      have n1 := fun q => Int.mul_pos hb (show 0 < yb - ya from q)
      have n2 := fun q => Int.mul_pos (show 0 < de from q) (show 0 < yb - yp by omega)
      have n3 := fun q => Int.mul_pos hg (show 0 < yq - yb from q)
      have := h.B
      refine ⟨by omega, by omega, by omega, by omega, .inl ⟨k, hb⟩⟩
    exact ⟨.inr ⟨k, hb⟩, .inl ⟨hg, hd⟩⟩
  · have ha : 0 < al := by have := h.Fa; omega
    have hg : ga < 0 := by
      refine Classical.byContradiction (fun q => ?_)
      have m1 := Int.mul_nonneg (Int.le_of_lt ha) (show 0 ≤ yb - ya by omega)
      have m2 := Int.mul_pos (show 0 < de by omega) (show 0 < ya - yp by omega)
      have m3 := Int.mul_nonneg (show 0 ≤ ga by omega) (show 0 ≤ yq - ya by omega)
      have := h.A; omega
    have hd : 0 < de := by
      refine Classical.byContradiction (fun q => h.F2 ?_)
      have m1 := wn (Int.le_of_lt k) (show 0 ≤ yb - ya by omega)
      have m2 := wn (show de ≤ 0 by omega) (show 0 ≤ yb - yp by omega)
      have m3 := wn (Int.le_of_lt hg) (show 0 ≤ yq - yb by omega)
      have n1 := fun q => Int.mul_neg_of_neg_of_pos k (show 0 < yb - ya from q)
      have n2 := fun q => Int.mul_neg_of_neg_of_pos (show de < 0 from q) (show 0 < yb - yp by omega)
      have n3 := fun q => Int.mul_neg_of_neg_of_pos hg (show 0 < yq - yb from q)
      have := h.B
      refine ⟨by omega, by omega, by omega, by omega, .inr ⟨k, ha⟩⟩
    exact ⟨.inl ⟨ha, k⟩, .inr ⟨hg, hd⟩⟩
/-- The parities of both ends' rays differ by those of the edge's ends. -/
theorem Q4.step (h : Q4 al be ga de ya yb yp yq) :
    xor (decide (ya ≤ yp ∧ yp < yb ∧ 0 < ga)) (decide (ya ≤ yq ∧ yq < yb ∧ 0 < de)) = xor (decide (yp < ya ∧ ya ≤ yq ∧ al < 0)) (decide (yp < yb ∧ yb ≤ yq ∧ be < 0)) := by
  have h1 := fun a b c => (h.l1 a b c).1
  have h2 := fun a b => (h.l2 a b).1
  have h3 := fun a b => (h.l3 a b).1
  have h4 := fun a b c => (h.l4 a b c).1
  have h1' := fun a b c => (h.l1 a b c).2
  have h2' := fun a b => (h.l2 a b).2
  have h3' := fun a b => (h.l3 a b).2
  have h4' := fun a b c => (h.l4 a b c).2
  have h5 := h.up
  have h6 := h.le
  generalize c1 : decide (ya ≤ yp ∧ yp < yb ∧ 0 < ga) = x1
  generalize c2 : decide (ya ≤ yq ∧ yq < yb ∧ 0 < de) = x2
  generalize c3 : decide (yp < ya ∧ ya ≤ yq ∧ al < 0) = x3
  generalize c4 : decide (yp < yb ∧ yb ≤ yq ∧ be < 0) = x4
  clear h
  cases x1 <;> cases x2 <;> cases x3 <;> cases x4 <;> simp only [decide_eq_true_eq, decide_eq_false_iff_not] at c1 c2 c3 c4 <;> first | rfl | (exfalso; omega)
end
/-- On a line that rises, the levels between the ends are those of points on the segment. -/
theorem on_level {a b p : V2} (h0 : trP a b p = 0) (h1 : a.y < b.y) (h2 : a.y ≤ p.y) (h3 : p.y ≤ b.y) : OnL a b p := by
  refine ⟨h0, ?_, ?_, .inl h2, .inr h3⟩
  all_goals
    simp only [trP, crossP, subP] at h0
    have e1 : (b.x - a.x) * (b.y - p.y) = (b.y - a.y) * (b.x - p.x) := by grind
    have f1 := nnf (b.x - a.x) (show 0 ≤ p.y - a.y by omega)
    have f2 := posf (p.x - a.x) (show 0 < b.y - a.y by omega)
    have f3 := nnf (b.x - a.x) (show 0 ≤ b.y - p.y by omega)
    have f4 := posf (b.x - p.x) (show 0 < b.y - a.y by omega)
    rw [Int.mul_comm (b.y - a.y)] at h0 e1
    generalize (b.x - a.x) * (p.y - a.y) = m1 at *
    generalize (p.x - a.x) * (b.y - a.y) = m2 at *
    generalize (b.x - a.x) * (b.y - p.y) = m3 at *
    generalize (b.x - p.x) * (b.y - a.y) = m4 at *
    omega
theorem NM.q4 {a b p q : V2} (h : NM a b p q) (hu : a.y ≤ b.y) (hl : p.y ≤ q.y) : Q4 (trP p q a) (trP p q b) (trP a b p) (trP a b q) a.y b.y p.y q.y := by
  refine ⟨hu, hl, ?_, ?_, ?_, ?_, ?_, fun ⟨k, h1, h2, h3⟩ => h.a_ (on_level k h1 h2 h3), fun ⟨k, h1, h2, h3⟩ => h.b_ (on_level k h1 h2 h3), fun ⟨k, h1, h2, h3⟩ => h.p_ (on_level k h1 h2 h3), fun ⟨k, h1, h2, h3⟩ => h.q_ (on_level k h1 h2 h3), fun ⟨h1, h2, h3, h4, h5⟩ => ?_, fun ⟨h1, h2, h3, h4, h5⟩ => ?_, h.cr⟩
  · simp only [trP, crossP, subP]; grind
  · simp only [trP, crossP, subP]; grind
  · simp only [trP, crossP, subP]; grind
  · simp only [trP, crossP, subP]; grind
  · simp only [trP, crossP, subP]; grind
  · have e1 : trP p q a = (q.x - a.x) * (q.y - p.y) := by simp only [trP, crossP, subP]; grind
    have e2 : trP p q b = (q.x - b.x) * (q.y - p.y) := by simp only [trP, crossP, subP]; grind
    have f1 := posf (q.x - a.x) (show 0 < q.y - p.y by omega)
    have f2 := posf (q.x - b.x) (show 0 < q.y - p.y by omega)
    rw [e1, e2] at h5
    generalize (q.x - a.x) * (q.y - p.y) = m1 at *
    generalize (q.x - b.x) * (q.y - p.y) = m2 at *
    refine h.q_ ⟨h4, ?_, ?_, ?_, ?_⟩ <;> omega
  · have e1 : trP a b p = (a.x - p.x) * (b.y - a.y) := by simp only [trP, crossP, subP]; grind
    have e2 : trP a b q = (a.x - q.x) * (b.y - a.y) := by simp only [trP, crossP, subP]; grind
    have f1 := posf (a.x - p.x) (show 0 < b.y - a.y by omega)
    have f2 := posf (a.x - q.x) (show 0 < b.y - a.y by omega)
    rw [e1, e2] at h5
    generalize (a.x - p.x) * (b.y - a.y) = m1 at *
    generalize (a.x - q.x) * (b.y - a.y) = m2 at *
    refine h.a_ ⟨h4, ?_, ?_, ?_, ?_⟩ <;> omega
end Sg
end Go.Vm
namespace Go.Vm
set_option maxRecDepth 20000
set_option linter.unusedVariables false
set_option linter.unusedSimpArgs false
open Go Go.RowKit Go.Proofs
namespace Sg

theorem on_onL {s : Seg} {p : V2} (hs : validS s = true) : onB s p = true ↔ OnL s.a s.b p := by
  rw [on_iff hs, inBox_iff]
  exact ⟨fun ⟨x, y⟩ => ⟨y, x⟩, fun ⟨x, y⟩ => ⟨y, x⟩⟩
theorem onP_onL {a b p : V2} : onP ⟨a, b⟩ (ptOf p) = true ↔ OnL a b p := by
  have hs : sdP ⟨a, b⟩ (ptOf p) = trP a b p := by
    unfold sdP trP
    congr 1
    simp only [toV, ptOf, subP]
    congr 1 <;> omega
  unfold onP OnL
  rw [hs]
  simp only [Bool.and_eq_true, decide_eq_true_eq, minI_le, le_maxI]
  simp only [toV, ptOf]
  omega
theorem cross_iff {e s : Seg} (he : validS e = true) (hs : validS s = true) : crossB e s = true ↔ ((0 < trP s.a s.b e.a ∧ trP s.a s.b e.b < 0) ∨ (trP s.a s.b e.a < 0 ∧ 0 < trP s.a s.b e.b)) ∧ ((0 < trP e.a e.b s.a ∧ trP e.a e.b s.b < 0) ∨ (trP e.a e.b s.a < 0 ∧ 0 < trP e.a e.b s.b)) := by
  unfold crossB
  rw [side_eq he (valid_in hs).1, side_eq he (valid_in hs).2, side_eq hs (valid_in he).1, side_eq hs (valid_in he).2]
  simp only [Bool.and_eq_true, decide_eq_true_eq, sgn_mul]
  show ((trP e.a e.b s.a < 0 ∧ 0 < trP e.a e.b s.b) ∨ (0 < trP e.a e.b s.a ∧ trP e.a e.b s.b < 0)) ∧ ((trP s.a s.b e.a < 0 ∧ 0 < trP s.a s.b e.b) ∨ (0 < trP s.a s.b e.a ∧ trP s.a s.b e.b < 0)) ↔ _
  omega
theorem nm_meet {e s : Seg} (he : validS e = true) (hs : validS s = true) : rmeetI e s = 0 ↔ NM e.a e.b s.a s.b := by
  constructor
  · intro h
    have h' : rmeetI s e = 0 := by rw [swap_meet]; exact h
    refine ⟨fun k => end_meet he hs (.inl rfl) ((on_onL hs).2 k) h, fun k => end_meet he hs (.inr rfl) ((on_onL hs).2 k) h, fun k => end_meet hs he (.inl rfl) ((on_onL he).2 k) h', fun k => end_meet hs he (.inr rfl) ((on_onL he).2 k) h', fun k => ?_⟩
    have hc := (cross_iff he hs).2 k
    unfold rmeetI at h
    rw [if_neg (by rw [he, hs]; simp), if_pos hc] at h
    split at h
    · cases h
    · split at h <;> cases h
  · intro h
    have hz : commonL e s = [] := by
      refine List.eq_nil_iff_forall_not_mem.2 (fun p hp => ?_)
      unfold commonL at hp
      rw [(sort_facts _).2, List.mem_filter] at hp
      obtain ⟨h1, h2⟩ := hp
      rw [bothB, Bool.and_eq_true, on_onL he, on_onL hs] at h2
      simp only [endsL, List.mem_cons, List.not_mem_nil, or_false] at h1
      rcases h1 with rfl | rfl | rfl | rfl
      · exact h.a_ h2.2
      · exact h.b_ h2.2
      · exact h.p_ h2.1
      · exact h.q_ h2.1
    have hc : ¬ crossB e s = true := fun k => h.cr ((cross_iff he hs).1 k)
    unfold rmeetI
    rw [if_neg (by rw [he, hs]; simp), hz, if_neg (by simp), if_neg (by simp), if_neg hc]

/-! ### the parity along a path -/
theorem crs_up {a b p : V2} (h : a.y ≤ b.y) : crsP ⟨a, b⟩ (ptOf p) = decide (a.y ≤ p.y ∧ p.y < b.y ∧ 0 < trP a b p) := by
  have hs : sdP ⟨a, b⟩ (ptOf p) = trP a b p := by
    unfold sdP trP
    congr 1
    simp only [toV, ptOf, subP]
    congr 1 <;> omega
  show ((!(decide (0 ≤ p.y - a.y * 1) == decide (0 ≤ p.y - b.y * 1))) && (decide (0 ≤ p.y - a.y * 1) == decide (0 < sdP ⟨a, b⟩ (ptOf p)))) = _
  rw [hs]
  generalize c1 : decide (0 ≤ p.y - a.y * 1) = x1
  generalize c2 : decide (0 ≤ p.y - b.y * 1) = x2
  generalize c3 : decide (0 < trP a b p) = x3
  generalize c4 : decide (a.y ≤ p.y ∧ p.y < b.y ∧ 0 < trP a b p) = x4
  cases x1 <;> cases x2 <;> cases x3 <;> cases x4 <;> simp only [decide_eq_true_eq, decide_eq_false_iff_not] at c1 c2 c3 c4 <;> first | rfl | (exfalso; omega)
theorem crs_rev {a b p : V2} (h : ¬ OnL a b p) : crsP ⟨b, a⟩ (ptOf p) = crsP ⟨a, b⟩ (ptOf p) := by
  have hs : ∀ a b, sdP ⟨a, b⟩ (ptOf p) = trP a b p := fun a b => by
    unfold sdP trP
    congr 1
    simp only [toV, ptOf, subP]
    congr 1 <;> omega
  have h1 : ¬ (trP a b p = 0 ∧ a.y < b.y ∧ a.y ≤ p.y ∧ p.y ≤ b.y) := fun ⟨k0, k1, k2, k3⟩ => h (on_level k0 k1 k2 k3)
  have h2 : ¬ (trP b a p = 0 ∧ b.y < a.y ∧ b.y ≤ p.y ∧ p.y ≤ a.y) := fun ⟨k0, k1, k2, k3⟩ => h (onL_swap.1 (on_level k0 k1 k2 k3))
  show ((!(decide (0 ≤ p.y - b.y * 1) == decide (0 ≤ p.y - a.y * 1))) && (decide (0 ≤ p.y - b.y * 1) == decide (0 < sdP ⟨b, a⟩ (ptOf p)))) = ((!(decide (0 ≤ p.y - a.y * 1) == decide (0 ≤ p.y - b.y * 1))) && (decide (0 ≤ p.y - a.y * 1) == decide (0 < sdP ⟨a, b⟩ (ptOf p))))
  rw [hs, hs]
  rw [tr_swap a b p] at h2 ⊢
  generalize c1 : decide (0 ≤ p.y - a.y * 1) = x1
  generalize c2 : decide (0 ≤ p.y - b.y * 1) = x2
  generalize c3 : decide (0 < trP a b p) = x3
  generalize c4 : decide (0 < -trP a b p) = x4
  cases x1 <;> cases x2 <;> cases x3 <;> cases x4 <;> simp only [decide_eq_true_eq, decide_eq_false_iff_not] at c1 c2 c3 c4 <;> first | rfl | (exfalso; omega)
/-- To the right of the path, at its levels. -/
def sideF (p q v : V2) : Bool := decide (p.y < v.y ∧ v.y ≤ q.y ∧ trP p q v < 0)
theorem path_step {a b p q : V2} (h : NM a b p q) (hl : p.y ≤ q.y) : xor (crsP ⟨a, b⟩ (ptOf p)) (crsP ⟨a, b⟩ (ptOf q)) = xor (sideF p q a) (sideF p q b) := by
  rcases Int.le_total a.y b.y with hu | hu
  · rw [crs_up hu, crs_up hu]
    exact (h.q4 hu hl).step
  · rw [← crs_rev h.p_, ← crs_rev h.q_, crs_up hu, crs_up hu, Bool.xor_comm (sideF p q a)]
    exact (h.rev.q4 hu hl).step
theorem parN_xor (f g : Nat → Bool) : ∀ n, parN n (fun i => xor (f i) (g i)) = xor (parN n f) (parN n g)
  | 0 => rfl
  | n + 1 => by
    simp only [parN]
    rw [parN_xor f g n]
    generalize parN n f = x1
    generalize parN n g = x2
    generalize f n = x3
    generalize g n = x4
    revert x1 x2 x3 x4
    decide
theorem path_par {l : List V2} {p q : V2} (h0 : 0 < l.length) (h : ∀ i, i < l.length → NM (gt l i) (nxt l i) p q) : parN l.length (fun i => crsP (edge l i) (ptOf p)) = parN l.length (fun i => crsP (edge l i) (ptOf q)) := by
  have key : ∀ p q : V2, p.y ≤ q.y → (∀ i, i < l.length → NM (gt l i) (nxt l i) p q) → parN l.length (fun i => crsP (edge l i) (ptOf p)) = parN l.length (fun i => crsP (edge l i) (ptOf q)) := by
    intro p q hl h
    have e1 : parN l.length (fun i => xor (crsP (edge l i) (ptOf p)) (crsP (edge l i) (ptOf q))) = parN l.length (fun i => xor (sideF p q (gt l i)) (sideF p q (gt l ((i + 1) % l.length)))) := parN_congr (fun i hi => path_step (h i hi) hl)
    rw [parN_xor, parN_step (fun i => sideF p q (gt l i)) h0] at e1
    revert e1
    generalize parN l.length (fun i => crsP (edge l i) (ptOf p)) = x1
    generalize parN l.length (fun i => crsP (edge l i) (ptOf q)) = x2
    cases x1 <;> cases x2 <;> decide
  rcases Int.le_total p.y q.y with hl | hl
  · exact key p q hl h
  · exact (key q p hl (fun i hi => (h i hi).swap)).symm
theorem off_any {l : List V2} {p : P3} (h : ∀ i, i < l.length → onP (edge l i) p = false) : onAny l p = false := by
  unfold onAny
  rw [allB_iff.2 (fun i hi => by rw [h i hi]; rfl)]
  rfl
theorem path_where {l : List V2} {p q : V2} (hr : RingOk l) (h : ∀ i, i < l.length → NM (gt l i) (nxt l i) p q) : whereV l p = whereV l q ∧ whereV l p ≠ 1 := by
  have hf : ∀ (v : V2), (∀ i, i < l.length → ¬ OnL (gt l i) (nxt l i) v) → onAny l (ptOf v) = false := fun v hv => off_any (fun i hi => by
    cases hc : onP (edge l i) (ptOf v) with
    | false => rfl
    | true => exact absurd (onP_onL.1 hc) (hv i hi))
  rw [whereV_eq hr, whereV_eq hr]
  unfold wherePl
  rw [hf p (fun i hi => (h i hi).p_), hf q (fun i hi => (h i hi).q_), parK_eq, parK_eq, path_par (by have := hr.three; omega) h]
  refine ⟨rfl, ?_⟩
  rw [if_neg (by simp)]
  split <;> decide

theorem lpath_det (l : List V2) (p q : V2) (hl : l.length ≤ maxLen) : Det Try.prog 8 [.one (vlS l), vD p, vD q] (tbool true) := by
  refine det_of_awp TTok mixed Try.func8 rfl rfl [] (Nat.le_of_ble_eq_true rfl) ?_
  refine CallW.mk' awake8_det ?_
  refine Split.f ?_
  refine CallW.bool (few_det l hl) (fun b hb => ?_)
  refine Split.mk (fun h => ?_) (fun h => ?_)
  · repeat' first | refine Split.t ?_ | refine Split.f ?_ | refine Split.isT h ?_ | fail
    exact Fin.rfl'
  have h6 : l.length ≤ 60 := by
    have : b = true := by simpa using h
    exact of_decide_eq_true (by rw [← hb, this])
  repeat' first | refine Split.t ?_ | refine Split.f ?_ | refine Split.isF h ?_ | fail
  refine CallW.bool (valid_det' l (by omega)) (fun c hc => ?_)
  repeat' first | refine Split.t ?_ | refine Split.f ?_ | refine Split.isF h ?_ | fail
  refine Split.mk (fun h1 => ?_) (fun h1 => ?_)
  · repeat' first | refine Split.t ?_ | refine Split.f ?_ | refine Split.isF h ?_ | refine Split.isT h1 ?_ | fail
    exact Fin.rfl'
  have hr : RingOk l := ring_ok.1 (by rw [← hc]; simpa using h1)
  repeat' first | refine Split.t ?_ | refine Split.f ?_ | refine Split.isF h ?_ | refine Split.isF h1 ?_ | fail
  refine CallW.bool (rvalid_det ⟨p, q⟩) (fun d hd => ?_)
  repeat' first | refine Split.t ?_ | refine Split.f ?_ | refine Split.isF h ?_ | refine Split.isF h1 ?_ | fail
  refine Split.mk (fun h2 => ?_) (fun h2 => ?_)
  · exact Fin.rfl'
  have hs : validS ⟨p, q⟩ = true := by rw [← hd]; simpa using h2
  have hge : ¬ l.length < 2 := by have := hr.three; omega
  have hEl := edges_len hge
  refine CallW.mk' (edges_det l (by omega)) ?_
  refine Loop.by (α := Nat) (fun k => [(0, .d (.one (vlS l))), (4, .ptr 4 0), (5, .ptr 5 0), (7, .ptr 7 0), (8, .d (.one (slS (edgesL l)))), (9, tint k)]) (fun _ => [(4, .box (vL p)), (5, .box (vL q)), (7, .box (sL ⟨p, q⟩))]) (fun k => k ≤ l.length ∧ ∀ i, i < k → rmeetI (edge l i) ⟨p, q⟩ = 0) (fun k => l.length - k)
    (Adj.at 0 ⟨Nat.zero_le _, fun i hi => absurd hi (Nat.not_lt_zero i)⟩ (.cons (.box (LLe.of_eq rfl)) (.cons (.box (LLe.of_eq rfl)) (.cons (.box (LLe.of_eq rfl)) .nil))) (.cons .same (.cons (.box rfl rfl) (.cons (.box rfl rfl) (.cons (.box rfl rfl) (.cons .same (.cons .same .nil))))))) (fun k hk => ?_)
  obtain ⟨hk, hm⟩ := hk
  refine Split.mk (fun h => ?_) (fun h => ?_)
  · have hlt : k < l.length := by have := of_decide_eq_true h; omega
    refine Need.mk (by omega) ?_
    have hle : DsLe [sD (sGet (edgesL l) k), sD ⟨p, q⟩] [sD (edge l k), sD ⟨p, q⟩] := .cons (DLe.of_eq (congrArg sD (edges_at hge k hlt))) (.cons (DLe.refl _) .nil)
    refine CallW.int ((rmeet_det (edge l k) ⟨p, q⟩).le hle) (fun n hn => ?_)
    refine Need.mk (by kernel_rfl) ?_
    refine Split.mk (fun h3 => ?_) (fun h3 => ?_)
    · exact Fin.rfl'
    · have h0 : rmeetI (edge l k) ⟨p, q⟩ = 0 := by rw [← hn]; simpa using h3
      refine Adj.back (x := k) (k + 1) ⟨by omega, fun i hi => ?_⟩ (by omega) (.cons (.box (LLe.of_eq rfl)) (.cons (.box (LLe.of_eq rfl)) (.cons (.box (LLe.of_eq rfl)) .nil))) (.cons .same (.cons (.box rfl rfl) (.cons (.box rfl rfl) (.cons (.box rfl rfl) (.cons .same (.cons (SlotLe.int ?_) .nil))))))
      · by_cases e : i = k
        · rw [e]; exact h0
        · exact hm i (by omega)
      · rw [Sg.hw _ (by omega) (by omega)]; omega
  · have he : k = l.length := by have := of_decide_eq_false h; omega
    subst he
    obtain ⟨w1, w2⟩ := path_where hr (fun i hi => (nm_meet (edge_valid hr.near i) hs).1 (hm i hi))
    refine CallW.int (whereV_det l p (by omega)) (fun x hx => ?_)
    refine CallW.int ((whereV_det l q (by omega)).eq (by rw [← w1])) (fun y hy => ?_)
    obtain rfl : x = y := hx.trans hy.symm
    have ex : (x == x) = true := by simp
    refine Split.isT ex ?_
    repeat' first | refine Split.t ?_ | refine Split.f ?_ | refine Split.isT ex ?_ | fail
    refine CallW.int (whereV_det l p (by omega)) (fun z hz => ?_)
    repeat' first | refine Split.t ?_ | refine Split.f ?_ | refine Split.isT ex ?_ | fail
    refine Need.mk (by kernel_rfl) ?_
    refine Fin.bool ?_
    rw [hz]
    simpa using w2
theorem lpath_all : ∀ dvs, TypL Try.prog Try.f8.params.toList dvs → Det Try.prog 8 dvs (tbool true) := by
  intro dvs h
  obtain ⟨v0, r0, rfl, h0, q0⟩ := TypL.inv_cons (t := 23) (ts := [32, 32]) h
  obtain ⟨v1, r1, rfl, h1, q1⟩ := TypL.inv_cons (t := 32) (ts := [32]) q0
  obtain ⟨v2, r2, rfl, h2, q2⟩ := TypL.inv_cons (t := 32) (ts := []) q1
  obtain rfl := TypL.inv_nil q2
  obtain ⟨l, hl, hle⟩ := ring_of h0
  obtain ⟨p, rfl, _⟩ := vecIn h1
  obtain ⟨q, rfl, _⟩ := vecIn h2
  exact Det.le (.cons hle (.cons (DLe.refl _) (.cons (DLe.refl _) .nil))) (lpath_det l p q hl)
end Sg
end Go.Vm
