/-
  The eight symmetries: composition and inverse.
  The laws of layer 9 as contracts.
-/
import Derived.Test.YtgmlblmkcbcgaaaSym
namespace Go.Vm
set_option maxRecDepth 20000
set_option linter.unusedVariables false
set_option linter.unusedSimpArgs false
open Go Go.RowKit Go.Proofs
/-! ### Then and Inverse -/
def thenOk (t u w : Int) : Bool := decide ([vx w 1 0, vy w 1 0] = [vx u (vx t 1 0) (vy t 1 0), vy u (vx t 1 0) (vy t 1 0)]) && decide ([vx w 0 1, vy w 0 1] = [vx u (vx t 0 1) (vy t 0 1), vy u (vx t 0 1) (vy t 0 1)])
def thenAt (t u : Int) : Nat → Int → Int
  | 0, _ => 0
  | n + 1, w => bif thenOk t u w then w else thenAt t u n (w + 1)
def thenT (t u : Int) : Int := bif validB t && validB u then thenAt t u 8 0 else 0
def invAt (t : Int) : Nat → Int → Int
  | 0, _ => 0
  | n + 1, w => bif thenT t w == 0 then w else invAt t n (w + 1)
def invT (t : Int) : Int := bif validB t then invAt t 8 0 else 0


theorem then_det (t u : Int) : Det Try.prog 47 [.one (i64 t), .one (i64 u)] (tint (thenT t u)) := by
  refine det_of_awp TTok mixed Try.func47 rfl rfl [] (Nat.le_of_ble_eq_true rfl) ?_
  refine CallW.mk' (valid_det t) ?_
  refine Split.mk (fun h1 => ?_) (fun h1 => ?_)
  · repeat refine Split.t ?_
    refine Fin.int ?_
    simp_all [thenT]
  · repeat' first | refine CallW.mk' (valid_det u) ?_ | refine Split.f ?_
    refine Split.mk (fun h2 => ?_) (fun h2 => ?_)
    · refine Fin.int ?_
      simp_all [thenT]
    · have e0 : thenT t u = thenAt t u 8 0 := by simp_all [thenT]
      refine Loop.by (α := Nat) (fun w => [(0, tint t), (1, tint u), (16, tint w)]) (fun _ => []) (fun w => w ≤ 8 ∧ thenAt t u (8 - w) w = thenT t u) (fun w => 8 - w)
        (Adj.at 0 ⟨Nat.zero_le _, e0.symm⟩ .nil (.cons .same (.cons .same (.cons .same .nil)))) (fun w hi => ?_)
      obtain ⟨hw, hi⟩ := hi
      refine Split.mk (fun h3 => ?_) (fun h3 => ?_)
      · have hw8 : w < 8 := by have := of_decide_eq_true h3; omega
        obtain ⟨n, hn⟩ : ∃ n, 8 - w = n + 1 := ⟨7 - w, by omega⟩
        rw [hn] at hi
        simp only [thenAt] at hi
        have hback : thenOk t u w = false → w + 1 ≤ 8 ∧ thenAt t u (8 - (w + 1)) ((w + 1 : Nat) : Int) = thenT t u := fun hf => by
          rw [hf] at hi
          refine ⟨by omega, ?_⟩
          rw [show 8 - (w + 1) = n by omega]
          exact hi
        have hw64 : IntKind.i64.wrap ((w : Int) + 1) = ((w + 1 : Nat) : Int) := (w64_id ⟨by omega, by omega⟩).trans (by omega)
        repeat' first | refine CallW.mk' (vec_det _ _ _ (by decide) (by decide)) ?_ | refine CallW.mk' (vec_det _ _ _ (vx_R (by decide) (by decide)) (vy_R (by decide) (by decide))) ?_ | refine EqW.mk' (eq32 _ _ _ _) ?_ | refine Split.t ?_ | refine Split.f ?_ | refine Split.mk (fun _ => ?_) (fun _ => ?_) | refine Need.mk (by kernel_rfl) ?_ | refine Fin.int ?_ | refine Adj.back (x := w) (w + 1) (hback ?_) (by omega) .nil (.cons .same (.cons .same (.cons (SlotLe.int hw64) .nil)))
        all_goals simp_all [thenOk]
      · have e8 : w = 8 := by have := of_decide_eq_false h3; omega
        subst e8
        refine Fin.int hi

theorem inv_det (t : Int) : Det Try.prog 22 [.one (i64 t)] (tint (invT t)) := by
  refine det_of_awp TTok mixed Try.func22 rfl rfl [] (Nat.le_of_ble_eq_true rfl) ?_
  have e0 : (bif validB t then invAt t 8 ((0 : Nat) : Int) else 0) = invT t := rfl
  refine Loop.by (α := Nat) (fun w => [(0, tint t), (4, tint w)]) (fun _ => []) (fun w => w ≤ 8 ∧ (bif validB t then invAt t (8 - w) w else 0) = invT t) (fun w => 8 - w)
    (Adj.at 0 ⟨Nat.zero_le _, e0⟩ .nil (.cons .same (.cons .same .nil))) (fun w hi => ?_)
  obtain ⟨hw, hi⟩ := hi
  refine Split.mk (fun h3 => ?_) (fun h3 => ?_)
  · have hw8 : w < 8 := by have := of_decide_eq_true h3; omega
    obtain ⟨n, hn⟩ : ∃ n, 8 - w = n + 1 := ⟨7 - w, by omega⟩
    rw [hn] at hi
    simp only [invAt] at hi
    have hback : (validB t = false ∨ (thenT t w == 0) = false) → w + 1 ≤ 8 ∧ (bif validB t then invAt t (8 - (w + 1)) ((w + 1 : Nat) : Int) else 0) = invT t := fun hf => by
      refine ⟨by omega, ?_⟩
      rw [show 8 - (w + 1) = n by omega]
      rw [← hi]
      rcases hf with hf | hf
      · rw [hf]; rfl
      · rw [hf]; rfl
    have hw64 : IntKind.i64.wrap ((w : Int) + 1) = ((w + 1 : Nat) : Int) := (w64_id ⟨by omega, by omega⟩).trans (by omega)
    repeat' first | refine CallW.mk' (valid_det t) ?_ | refine CallW.mk' (then_det t w) ?_ | refine Split.t ?_ | refine Split.f ?_ | refine Split.mk (fun _ => ?_) (fun _ => ?_) | refine Need.mk (by kernel_rfl) ?_ | refine Fin.int ?_ | refine Adj.back (x := w) (w + 1) (hback ?_) (by omega) .nil (.cons .same (.cons (SlotLe.int hw64) .nil))
    all_goals simp_all
  · have e8 : w = 8 := by have := of_decide_eq_false h3; omega
    subst e8
    refine Fin.int ?_
    rw [← hi]
    cases validB t <;> rfl
end Go.Vm
namespace Go.Vm
set_option maxRecDepth 20000
set_option linter.unusedVariables false
set_option linter.unusedSimpArgs false
open Go Go.RowKit Go.Proofs

/-! ### the group's laws, in plain numbers -/
def thenF (t u : Int) : Int := if u < 4 then 4 * (t / 4) + (t % 4 + u % 4) % 4 else 4 * (1 - t / 4) + (u % 4 - t % 4) % 4
theorem thenT_fin : ∀ t u : _root_.Fin 8, thenT (t.val : Int) (u.val : Int) = thenF (t.val : Int) (u.val : Int) := by decide +kernel
theorem invT_fin : ∀ t : _root_.Fin 8, thenT (t.val : Int) (invT (t.val : Int)) = 0 ∧ thenT (invT (t.val : Int)) (t.val : Int) = 0 := by decide +kernel
theorem grain_fin : ∀ t u : _root_.Fin 8, ∀ g : _root_.Fin 3, grainT (thenT (t.val : Int) (u.val : Int)) (g.val : Int) = grainT (u.val : Int) (grainT (t.val : Int) (g.val : Int)) := by decide +kernel
theorem sep_fin : ∀ t u : _root_.Fin 8, (decide ((t.val : Int) = (u.val : Int)) == decide ([vx (t.val : Int) 2 1, vy (t.val : Int) 2 1] = [vx (u.val : Int) 2 1, vy (u.val : Int) 2 1])) = true := by decide +kernel
theorem assoc_fin : ∀ t u w : _root_.Fin 8, thenF (thenF (t.val : Int) (u.val : Int)) (w.val : Int) = thenF (t.val : Int) (thenF (u.val : Int) (w.val : Int)) ∧ 0 ≤ thenF (t.val : Int) (u.val : Int) ∧ thenF (t.val : Int) (u.val : Int) < 8 := by decide +kernel

structure In8 (t : Int) : Prop where
  h : ∃ n : _root_.Fin 8, t = (n.val : Int)
theorem In8.of {t : Int} (h0 : 0 ≤ t) (h8 : t < 8) : In8 t := ⟨⟨t.toNat, by omega⟩, by simp; omega⟩
theorem In8.valid {t : Int} (h : In8 t) : validB t = true := by
  obtain ⟨⟨n, hn⟩, rfl⟩ := h.h
  simp [validB]; omega
theorem In8.thenT {t u : Int} (h : In8 t) (k : In8 u) : thenT t u = thenF t u ∧ In8 (thenT t u) := by
  obtain ⟨n, rfl⟩ := h.h
  obtain ⟨q, rfl⟩ := k.h
  rw [thenT_fin]
  exact ⟨rfl, In8.of (assoc_fin n q 0).2.1 (assoc_fin n q 0).2.2⟩
theorem In8.assoc {t u w : Int} (h : In8 t) (k : In8 u) (l : In8 w) : Vm.thenT (Vm.thenT t u) w = Vm.thenT t (Vm.thenT u w) := by
  rw [((h.thenT k).2.thenT l).1, (h.thenT (k.thenT l).2).1, (h.thenT k).1, (k.thenT l).1]
  obtain ⟨n, rfl⟩ := h.h
  obtain ⟨q, rfl⟩ := k.h
  obtain ⟨r, rfl⟩ := l.h
  exact (assoc_fin n q r).1
theorem In8.zero {t : Int} (h : In8 t) : Vm.thenT t 0 = t ∧ Vm.thenT 0 t = t := by
  have h0 : In8 0 := In8.of (by decide) (by decide)
  rw [(h.thenT h0).1, (h0.thenT h).1]
  obtain ⟨⟨n, hn⟩, rfl⟩ := h.h
  constructor
  · simp only [thenF]; omega
  · simp only [thenF]; split <;> omega
theorem In8.inv {t : Int} (h : In8 t) : Vm.thenT t (invT t) = 0 ∧ Vm.thenT (invT t) t = 0 := by
  obtain ⟨n, rfl⟩ := h.h
  exact invT_fin n
theorem In8.vec {t u x y : Int} (h : In8 t) (k : In8 u) (hx : R64 x) (hy : R64 y) : vx (Vm.thenT t u) x y = vx u (vx t x y) (vy t x y) ∧ vy (Vm.thenT t u) x y = vy u (vx t x y) (vy t x y) := by
  rw [(h.thenT k).1]
  rcases valid_cases h.valid with rfl | rfl | rfl | rfl | rfl | rfl | rfl | rfl <;>
  rcases valid_cases k.valid with rfl | rfl | rfl | rfl | rfl | rfl | rfl | rfl <;>
  simp [thenF, vx, vy, ng_ng hx, ng_ng hy]
theorem In8.grain {t u g : Int} (h : In8 t) (k : In8 u) (g0 : 0 ≤ g) (g3 : g < 3) : grainT (Vm.thenT t u) g = grainT u (grainT t g) := by
  obtain ⟨n, rfl⟩ := h.h
  obtain ⟨q, rfl⟩ := k.h
  have := grain_fin n q ⟨g.toNat, by omega⟩
  simpa [Int.toNat_of_nonneg g0] using this
theorem In8.sep {t u : Int} (h : In8 t) (k : In8 u) : (decide (t = u) == decide ([vx t 2 1, vy t 2 1] = [vx u 2 1, vy u 2 1])) = true := by
  obtain ⟨n, rfl⟩ := h.h
  obtain ⟨q, rfl⟩ := k.h
  exact sep_fin n q
theorem in8_u8 {a : Int} (h : InK .u8 a) : In8 (IntKind.i64.wrap (a.tmod 8)) := by
  have h1 : 0 ≤ a ∧ a < 256 := by
    simp [InK, Lit.wf, IntKind.min, IntKind.max, IntKind.bits, IntKind.signed] at h
    omega
  have e : a.tmod 8 = a % 8 := Int.tmod_eq_emod_of_nonneg h1.1
  rw [e]
  have := w64_id (n := a % 8) ⟨by omega, by omega⟩
  rw [show IntKind.i64.wrap (a % 8) = a % 8 from this]
  exact In8.of (by omega) (by omega)


/-! ### the linear map's laws, in plain numbers -/
theorem w64_sub_w (a b : Int) : w64 (w64 a - w64 b) = w64 (a - b) := by
  simp only [w64_def]
  omega
theorem dotI_eq (a b c d : Int) : dotI a b c d = w64 (a * c + b * d) := w64_add_w _ _
theorem crossI_eq (a b c d : Int) : crossI a b c d = w64 (a * d - b * c) := w64_sub_w _ _
theorem w64_neg1 (c : Int) : w64 (-1 * w64 c) = w64 (-c) := by
  simp only [w64_def]
  omega
theorem w64_one (c : Int) : w64 (1 * w64 c) = w64 c := by
  simp only [w64_def]
  omega
theorem within_of {x y : Int} (h : withinB x y 268435456 = true) : (-268435456 ≤ x ∧ x ≤ 268435456) ∧ -268435456 ≤ y ∧ y ≤ 268435456 := by
  have e : ng 268435456 = -268435456 := by decide
  simp only [withinB, e, Bool.and_eq_true, decide_eq_true_eq] at h
  omega
theorem ng_sm {x : Int} (h : -268435456 ≤ x ∧ x ≤ 268435456) : ng x = -x := (w64_id (n := 0 - x) ⟨by omega, by omega⟩).trans (by omega)
theorem In8.lin {t x y z w : Int} (h : In8 t) (ha : withinB x y 268435456 = true) (hb : withinB z w 268435456 = true) :
    vx t (w64 (x + z)) (w64 (y + w)) = w64 (vx t x y + vx t z w) ∧ vy t (w64 (x + z)) (w64 (y + w)) = w64 (vy t x y + vy t z w) ∧
    dotI (vx t x y) (vy t x y) (vx t z w) (vy t z w) = dotI x y z w ∧
    crossI (vx t x y) (vy t x y) (vx t z w) (vy t z w) = w64 ((if mirB t = true then -1 else 1) * crossI x y z w) ∧
    maxI (absI (vx t x y)) (absI (vy t x y)) = maxI (absI x) (absI y) := by
  obtain ⟨hx, hy⟩ := within_of ha
  obtain ⟨hz, hw⟩ := within_of hb
  have e1 : w64 (x + z) = x + z := w64_id ⟨by omega, by omega⟩
  have e2 : w64 (y + w) = y + w := w64_id ⟨by omega, by omega⟩
  have e3 : ng (x + z) = -(x + z) := (w64_id (n := 0 - (x + z)) ⟨by omega, by omega⟩).trans (by omega)
  have e4 : ng (y + w) = -(y + w) := (w64_id (n := 0 - (y + w)) ⟨by omega, by omega⟩).trans (by omega)
  have i1 : w64 (-x + -z) = -x + -z := w64_id ⟨by omega, by omega⟩
  have i2 : w64 (-y + -w) = -y + -w := w64_id ⟨by omega, by omega⟩
  have n1 := ng_sm hx
  have n2 := ng_sm hy
  have n3 : ng (-x) = x := (ng_sm (by omega)).trans (by omega)
  have n4 : ng (-y) = y := (ng_sm (by omega)).trans (by omega)
  have a1 : absI (-x) = absI x := by
    simp only [absI, n1, n3]
    split <;> split <;> omega
  have a2 : absI (-y) = absI y := by
    simp only [absI, n2, n4]
    split <;> split <;> omega
  have hc : ∀ p q : Int, maxI p q = maxI q p := fun p q => by
    simp only [maxI]
    split <;> split <;> omega
  rw [e1, e2, dotI_eq, dotI_eq, crossI_eq, crossI_eq]
  rcases valid_cases h.valid with rfl | rfl | rfl | rfl | rfl | rfl | rfl | rfl
  all_goals
    refine ⟨?_, ?_, ?_, ?_, ?_⟩
    · simp only [vx, e1, e2, e3, e4, n1, n2, ng_sm hz, ng_sm hw, i1, i2] <;> omega
    · simp only [vy, e1, e2, e3, e4, n1, n2, ng_sm hz, ng_sm hw, i1, i2] <;> omega
    · simp only [vx, vy, n1, n2, ng_sm hz, ng_sm hw, Int.neg_mul, Int.mul_neg, Int.neg_neg] <;> exact congrArg w64 (by omega)
    · first
      | rw [if_neg (by decide), w64_one]
      | rw [if_pos (by decide), w64_neg1]
      simp only [vx, vy, n1, n2, ng_sm hz, ng_sm hw, Int.neg_mul, Int.mul_neg, Int.neg_neg] <;> exact congrArg w64 (by omega)
    · simp only [vx, vy, n1, n2, a1, a2] <;> exact hc _ _
end Go.Vm
