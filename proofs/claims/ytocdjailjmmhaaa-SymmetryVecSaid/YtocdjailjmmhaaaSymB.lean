/-
  The eight symmetries: composition and inverse.
-/
import Derived.Test.YtocdjailjmmhaaaSym
namespace Go.Vm
open Go Go.RowKit Go.Proofs
/-! ### Then and Inverse -/
def thenOk (t u w : Int) : Bool := decide ([vx w 1 0, vy w 1 0] = [vx u (vx t 1 0) (vy t 1 0), vy u (vx t 1 0) (vy t 1 0)]) && decide ([vx w 0 1, vy w 0 1] = [vx u (vx t 0 1) (vy t 0 1), vy u (vx t 0 1) (vy t 0 1)])
def thenAt (t u : Int) : Nat → Int → Int
  | 0, _ => 0
  | n + 1, w => bif thenOk t u w then w else thenAt t u n (w + 1)
def thenT (t u : Int) : Int := bif validB t && validB u then thenAt t u 8 0 else 0
def invAt (t : Int) : Nat → Int → Int
  | 0, _ => 0
  | n + 1, w => bif thenT t w == 0 then w else invAt t n (w + 1)
def invT (t : Int) : Int := bif validB t then invAt t 8 0 else 0


theorem then_det (t u : Int) : Det Try.prog 15 [.one (i64 t), .one (i64 u)] (tint (thenT t u)) := by
  refine det_of_awp TTok mixed Try.func15 rfl rfl [] (Nat.le_of_ble_eq_true rfl) ?_
  refine CallW.mk' (valid_det t) ?_
  refine Split.mk (fun h1 => ?_) (fun h1 => ?_)
  · repeat refine Split.t ?_
    refine Fin.int ?_
    simp_all [thenT]
  · repeat' first | refine CallW.mk' (valid_det u) ?_ | refine Split.f ?_
    refine Split.mk (fun h2 => ?_) (fun h2 => ?_)
    · refine Fin.int ?_
      simp_all [thenT]
    · have e0 : thenT t u = thenAt t u 8 0 := by simp_all [thenT]
      refine Loop.by (α := Nat) (fun w => [(0, tint t), (1, tint u), (16, tint w)]) (fun _ => []) (fun w => w ≤ 8 ∧ thenAt t u (8 - w) w = thenT t u) (fun w => 8 - w)
        (Adj.at 0 ⟨Nat.zero_le _, e0.symm⟩ .nil (.cons .same (.cons .same (.cons .same .nil)))) (fun w hi => ?_)
      obtain ⟨hw, hi⟩ := hi
      refine Split.mk (fun h3 => ?_) (fun h3 => ?_)
      · have hw8 : w < 8 := by have := of_decide_eq_true h3; omega
        obtain ⟨n, hn⟩ : ∃ n, 8 - w = n + 1 := ⟨7 - w, by omega⟩
        rw [hn] at hi
        simp only [thenAt] at hi
        have hback : thenOk t u w = false → w + 1 ≤ 8 ∧ thenAt t u (8 - (w + 1)) ((w + 1 : Nat) : Int) = thenT t u := fun hf => by
          rw [hf] at hi
          refine ⟨by omega, ?_⟩
          rw [show 8 - (w + 1) = n by omega]
          exact hi
        have hw64 : IntKind.i64.wrap ((w : Int) + 1) = ((w + 1 : Nat) : Int) := (w64_id ⟨by omega, by omega⟩).trans (by omega)
        repeat' first | refine CallW.mk' (vec_det _ _ _ (by decide) (by decide)) ?_ | refine CallW.mk' (vec_det _ _ _ (vx_R (by decide) (by decide)) (vy_R (by decide) (by decide))) ?_ | refine EqW.mk' (eq23 _ _ _ _) ?_ | refine Split.t ?_ | refine Split.f ?_ | refine Split.mk (fun _ => ?_) (fun _ => ?_) | refine Need.mk (by kernel_rfl) ?_ | refine Fin.int ?_ | refine Adj.back (x := w) (w + 1) (hback ?_) (by omega) .nil (.cons .same (.cons .same (.cons (SlotLe.int hw64) .nil)))
        all_goals simp_all [thenOk]
      · have e8 : w = 8 := by have := of_decide_eq_false h3; omega
        subst e8
        refine Fin.int hi

theorem rthen_det (t u : Int) : Det Try.prog 16 [.one (i64 t), .one (i64 u)] (tint (thenT t u)) := by
  refine det_of_awp TTok mixed Try.func16 rfl rfl [] (Nat.le_of_ble_eq_true rfl) ?_
  refine CallW.mk' (rvalid_det t) ?_
  refine Split.mk (fun h1 => ?_) (fun h1 => ?_)
  · repeat refine Split.t ?_
    refine Fin.int ?_
    simp_all [thenT]
  · repeat' first | refine CallW.mk' (rvalid_det u) ?_ | refine Split.f ?_
    refine Split.mk (fun h2 => ?_) (fun h2 => ?_)
    · refine Fin.int ?_
      simp_all [thenT]
    · have e0 : thenT t u = thenAt t u 8 0 := by simp_all [thenT]
      refine Loop.by (α := Nat) (fun w => [(0, tint t), (1, tint u), (5, .ptr 5 0), (6, .ptr 6 0), (7, tint w)]) (fun _ => [(5, .box [i64 1, i64 0]), (6, .box [i64 0, i64 1])]) (fun w => w ≤ 8 ∧ thenAt t u (8 - w) w = thenT t u) (fun w => 8 - w)
        (Adj.at 0 ⟨Nat.zero_le _, e0.symm⟩ (.cons (.box (LLe.refl _)) (.cons (.box (LLe.refl _)) .nil)) (.cons .same (.cons .same (.cons (.box rfl rfl) (.cons (.box rfl rfl) (.cons .same .nil)))))) (fun w hi => ?_)
      obtain ⟨hw, hi⟩ := hi
      refine Split.mk (fun h3 => ?_) (fun h3 => ?_)
      · have hw8 : w < 8 := by have := of_decide_eq_true h3; omega
        obtain ⟨n, hn⟩ : ∃ n, 8 - w = n + 1 := ⟨7 - w, by omega⟩
        rw [hn] at hi
        simp only [thenAt] at hi
        have hback : thenOk t u w = false → w + 1 ≤ 8 ∧ thenAt t u (8 - (w + 1)) ((w + 1 : Nat) : Int) = thenT t u := fun hf => by
          rw [hf] at hi
          refine ⟨by omega, ?_⟩
          rw [show 8 - (w + 1) = n by omega]
          exact hi
        have hw64 : IntKind.i64.wrap ((w : Int) + 1) = ((w + 1 : Nat) : Int) := (w64_id ⟨by omega, by omega⟩).trans (by omega)
        repeat' first | refine CallW.mk' (rvec_det _ _ _ (by decide) (by decide)) ?_ | refine CallW.mk' (rvec_det _ _ _ (vx_R (by decide) (by decide)) (vy_R (by decide) (by decide))) ?_ | refine EqW.mk' (eq23 _ _ _ _) ?_ | refine Split.t ?_ | refine Split.f ?_ | refine Split.mk (fun _ => ?_) (fun _ => ?_) | refine Need.mk (by kernel_rfl) ?_ | refine Fin.int ?_ | refine Adj.back (x := w) (w + 1) (hback ?_) (by omega) (.cons (.box (LLe.refl _)) (.cons (.box (LLe.refl _)) .nil)) (.cons .same (.cons .same (.cons (.box rfl rfl) (.cons (.box rfl rfl) (.cons (SlotLe.int hw64) .nil)))))
        all_goals simp_all [thenOk]
      · have e8 : w = 8 := by have := of_decide_eq_false h3; omega
        subst e8
        refine Fin.int hi

theorem inv_det (t : Int) : Det Try.prog 17 [.one (i64 t)] (tint (invT t)) := by
  refine det_of_awp TTok mixed Try.func17 rfl rfl [] (Nat.le_of_ble_eq_true rfl) ?_
  have e0 : (bif validB t then invAt t 8 ((0 : Nat) : Int) else 0) = invT t := rfl
  refine Loop.by (α := Nat) (fun w => [(0, tint t), (4, tint w)]) (fun _ => []) (fun w => w ≤ 8 ∧ (bif validB t then invAt t (8 - w) w else 0) = invT t) (fun w => 8 - w)
    (Adj.at 0 ⟨Nat.zero_le _, e0⟩ .nil (.cons .same (.cons .same .nil))) (fun w hi => ?_)
  obtain ⟨hw, hi⟩ := hi
  refine Split.mk (fun h3 => ?_) (fun h3 => ?_)
  · have hw8 : w < 8 := by have := of_decide_eq_true h3; omega
    obtain ⟨n, hn⟩ : ∃ n, 8 - w = n + 1 := ⟨7 - w, by omega⟩
    rw [hn] at hi
    simp only [invAt] at hi
    have hback : (validB t = false ∨ (thenT t w == 0) = false) → w + 1 ≤ 8 ∧ (bif validB t then invAt t (8 - (w + 1)) ((w + 1 : Nat) : Int) else 0) = invT t := fun hf => by
      refine ⟨by omega, ?_⟩
      rw [show 8 - (w + 1) = n by omega]
      rw [← hi]
      rcases hf with hf | hf
      · rw [hf]; rfl
      · rw [hf]; rfl
    have hw64 : IntKind.i64.wrap ((w : Int) + 1) = ((w + 1 : Nat) : Int) := (w64_id ⟨by omega, by omega⟩).trans (by omega)
    repeat' first | refine CallW.mk' (valid_det t) ?_ | refine CallW.mk' (then_det t w) ?_ | refine Split.t ?_ | refine Split.f ?_ | refine Split.mk (fun _ => ?_) (fun _ => ?_) | refine Need.mk (by kernel_rfl) ?_ | refine Fin.int ?_ | refine Adj.back (x := w) (w + 1) (hback ?_) (by omega) .nil (.cons .same (.cons (SlotLe.int hw64) .nil))
    all_goals simp_all
  · have e8 : w = 8 := by have := of_decide_eq_false h3; omega
    subst e8
    refine Fin.int ?_
    rw [← hi]
    cases validB t <;> rfl
theorem rinv_det (t : Int) : Det Try.prog 18 [.one (i64 t)] (tint (invT t)) := by
  refine det_of_awp TTok mixed Try.func18 rfl rfl [] (Nat.le_of_ble_eq_true rfl) ?_
  have e0 : (bif validB t then invAt t 8 ((0 : Nat) : Int) else 0) = invT t := rfl
  refine Loop.by (α := Nat) (fun w => [(0, tint t), (3, tint w)]) (fun _ => []) (fun w => w ≤ 8 ∧ (bif validB t then invAt t (8 - w) w else 0) = invT t) (fun w => 8 - w)
    (Adj.at 0 ⟨Nat.zero_le _, e0⟩ .nil (.cons .same (.cons .same .nil))) (fun w hi => ?_)
  obtain ⟨hw, hi⟩ := hi
  refine Split.mk (fun h3 => ?_) (fun h3 => ?_)
  · have hw8 : w < 8 := by have := of_decide_eq_true h3; omega
    obtain ⟨n, hn⟩ : ∃ n, 8 - w = n + 1 := ⟨7 - w, by omega⟩
    rw [hn] at hi
    simp only [invAt] at hi
    have hback : (validB t = false ∨ (thenT t w == 0) = false) → w + 1 ≤ 8 ∧ (bif validB t then invAt t (8 - (w + 1)) ((w + 1 : Nat) : Int) else 0) = invT t := fun hf => by
      refine ⟨by omega, ?_⟩
      rw [show 8 - (w + 1) = n by omega]
      rw [← hi]
      rcases hf with hf | hf
      · rw [hf]; rfl
      · rw [hf]; rfl
    have hw64 : IntKind.i64.wrap ((w : Int) + 1) = ((w + 1 : Nat) : Int) := (w64_id ⟨by omega, by omega⟩).trans (by omega)
    repeat' first | refine CallW.mk' (rvalid_det t) ?_ | refine CallW.mk' (rthen_det t w) ?_ | refine Split.t ?_ | refine Split.f ?_ | refine Split.mk (fun _ => ?_) (fun _ => ?_) | refine Need.mk (by kernel_rfl) ?_ | refine Fin.int ?_ | refine Adj.back (x := w) (w + 1) (hback ?_) (by omega) .nil (.cons .same (.cons (SlotLe.int hw64) .nil))
    all_goals simp_all
  · have e8 : w = 8 := by have := of_decide_eq_false h3; omega
    subst e8
    repeat' first | refine Split.t ?_ | refine Split.f ?_
    refine Fin.int ?_
    rw [← hi]
    cases validB t <;> rfl
end Go.Vm
