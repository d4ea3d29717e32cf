/-
  Layer 11: contracts of the two Valid.
-/
import Derived.Test.YtlckiecpelchlaaArcG
import Derived.Test.YtlckiecpelchlaaRingJ
namespace Go.Vm
set_option maxRecDepth 20000
set_option linter.unusedVariables false
set_option linter.unusedSimpArgs false
open Go Go.RowKit Go.Proofs
namespace Sg

structure Arc where
  f : V2
  t : V2
  c : V2
  cw : Bool
abbrev arcL (a : Arc) : List SV := [i64 a.f.x, i64 a.f.y, i64 a.t.x, i64 a.t.y, i64 a.c.x, i64 a.c.y, .v (.bool a.cw)]
abbrev arcD (a : Arc) : DV := .agg (arcL a)
def uA (a : Arc) : V2 := difP a.f a.c
def vA (a : Arc) : V2 := difP a.t a.c
def sqA (a : Arc) : Int := dotP (uA a) (uA a)
def validA (a : Arc) : Bool := withinV a.f 2000 && (withinV a.t 2000 && (withinV a.c 2000 && (decide (0 < sqA a) && (decide (sqA a = dotP (vA a) (vA a)) && decide (sqA a ≤ 4000000)))))
structure ArcOk (a : Arc) : Prop where
  f : In 2000 a.f
  t : In 2000 a.t
  c : In 2000 a.c
theorem ArcOk.u {a : Arc} (h : ArcOk a) : subW a.f a.c = uA a ∧ In 4000 (uA a) := by
  have := h.f; have := h.c
  exact ⟨sbW_eq (h.f.wide (by decide)) (h.c.wide (by decide)), difP_in h.f h.c⟩
theorem ArcOk.v {a : Arc} (h : ArcOk a) : subW a.t a.c = vA a ∧ In 4000 (vA a) :=
  ⟨sbW_eq (h.t.wide (by decide)) (h.c.wide (by decide)), difP_in h.t h.c⟩
theorem ArcOk.uu {a : Arc} (h : ArcOk a) : dotW (uA a) (uA a) = sqA a := (dotW_eq (h.u.2.wide (by decide)) (h.u.2.wide (by decide))).1
theorem ArcOk.vv {a : Arc} (h : ArcOk a) : dotW (vA a) (vA a) = dotP (vA a) (vA a) := (dotW_eq (h.v.2.wide (by decide)) (h.v.2.wide (by decide))).1
theorem valid_ok {a : Arc} (h : validA a = true) : ArcOk a ∧ OnC (sqA a) (uA a) ∧ OnC (sqA a) (vA a) := by
  simp only [validA, Bool.and_eq_true, decide_eq_true_eq] at h
  obtain ⟨h1, h2, h3, h4, h5, h6⟩ := h
  exact ⟨⟨In.of (by decide) (by decide) h1, In.of (by decide) (by decide) h2, In.of (by decide) (by decide) h3⟩, ⟨h4, h6, rfl⟩, ⟨h4, h6, h5.symm⟩⟩
theorem valida_det (a : Arc) : Det Try.prog 24 [arcD a] (tbool (validA a)) := by
  refine det_of_awp TTok mixed Try.func24 rfl rfl [] (Nat.le_of_ble_eq_true rfl) ?_
  refine Loop.by (α := Nat) (fun k => [(1, .ptr 1 0), (14, .d (.agg (vL a.f ++ vL a.t ++ vL a.c))), (15, tint k)]) (fun k => [(1, .box (arcL a))]) (fun k => k ≤ 3 ∧ (1 ≤ k → withinV a.f 2000 = true) ∧ (2 ≤ k → withinV a.t 2000 = true) ∧ (3 ≤ k → withinV a.c 2000 = true)) (fun k => 3 - k)
    (Adj.at 0 ⟨by decide, fun h => absurd h (by decide), fun h => absurd h (by decide), fun h => absurd h (by decide)⟩ (.cons (.box (LLe.of_eq rfl)) .nil) (.cons (.box rfl rfl) (.cons (.data (DLe.of_eq rfl)) (.cons .same .nil)))) (fun k hk => ?_)
  obtain ⟨hk, i1, i2, i3⟩ := hk
  refine Split.mk (fun h => ?_) (fun h => ?_)
  · have hlt : k < 3 := by have := of_decide_eq_true h; omega
    have hs : ∀ k : Nat, k < 3 → IntKind.i64.wrap ((k : Int) + 1) = ((k + 1 : Nat) : Int) := fun k hk => by rw [wid (by omega) (by omega)]; omega
    match k, hlt with
    | 0, _ =>
      refine Need.mk ⟨by decide, by decide, Nat.le_of_ble_eq_true rfl⟩ ?_
      refine CallW.bool (vwithin_det a.f 2000) (fun b1 h1 => ?_)
      refine Split.mk (fun k1 => ?_) (fun k1 => ?_)
      · refine Fin.bool ?_
        have : withinV a.f 2000 = false := by rw [← h1]; simpa using k1
        simp [validA, this]
      refine Adj.back (x := 0) 1 ⟨by decide, fun _ => by rw [← h1]; simpa using k1, fun h => absurd h (by decide), fun h => absurd h (by decide)⟩ (by decide) (.cons (.box (LLe.of_eq rfl)) .nil) (.cons (.box rfl rfl) (.cons (.data (DLe.of_eq rfl)) (.cons (SlotLe.int (hs 0 (by decide))) .nil)))
    | 1, _ =>
      refine Need.mk ⟨by decide, by decide, Nat.le_of_ble_eq_true rfl⟩ ?_
      change dataW T43 [i64 a.t.x, i64 a.t.y] _
      refine CallW.bool (vwithin_det a.t 2000) (fun b1 h1 => ?_)
      refine Split.mk (fun k1 => ?_) (fun k1 => ?_)
      · refine Fin.bool ?_
        have : withinV a.t 2000 = false := by rw [← h1]; simpa using k1
        simp [validA, this]
      refine Adj.back (x := 1) 2 ⟨by decide, fun _ => i1 (by decide), fun _ => by rw [← h1]; simpa using k1, fun h => absurd h (by decide)⟩ (by decide) (.cons (.box (LLe.of_eq rfl)) .nil) (.cons (.box rfl rfl) (.cons (.data (DLe.of_eq rfl)) (.cons (SlotLe.int (hs 1 (by decide))) .nil)))
    | 2, _ =>
      refine Need.mk ⟨by decide, by decide, Nat.le_of_ble_eq_true rfl⟩ ?_
      change dataW T43 [i64 a.c.x, i64 a.c.y] _
      refine CallW.bool (vwithin_det a.c 2000) (fun b1 h1 => ?_)
      refine Split.mk (fun k1 => ?_) (fun k1 => ?_)
      · refine Fin.bool ?_
        have : withinV a.c 2000 = false := by rw [← h1]; simpa using k1
        simp [validA, this]
      refine Adj.back (x := 2) 3 ⟨by decide, fun _ => i1 (by decide), fun _ => i2 (by decide), fun _ => by rw [← h1]; simpa using k1⟩ (by decide) (.cons (.box (LLe.of_eq rfl)) .nil) (.cons (.box rfl rfl) (.cons (.data (DLe.of_eq rfl)) (.cons (SlotLe.int (hs 2 (by decide))) .nil)))
  have h3 : 3 ≤ k := by have := of_decide_eq_false h; omega
  have e1 := i1 (by omega)
  have e2 := i2 (by omega)
  have e3 := i3 h3
  have ok : ArcOk a := ⟨In.of (by decide) (by decide) e1, In.of (by decide) (by decide) e2, In.of (by decide) (by decide) e3⟩
  refine CallW.mk' ((vsub_det a.f a.c).eq (by rw [ok.u.1])) ?_
  refine CallW.mk' ((vsub_det a.t a.c).eq (by rw [ok.v.1])) ?_
  refine Need.mk (by kernel_rfl) ?_
  refine CallW.int ((vdot_det (uA a) (uA a)).eq (by rw [ok.uu])) (fun n hn => ?_)
  have e : validA a = (decide (0 < sqA a) && (decide (sqA a = dotP (vA a) (vA a)) && decide (sqA a ≤ 4000000))) := by simp [validA, e1, e2, e3]
  rw [e, ← hn]
  repeat' first | refine Split.t ?_ | refine Split.f ?_ | refine CallW.int ((vdot_det (vA a) (vA a)).eq (by rw [ok.vv])) (fun m hm => ?_) | refine Split.mk (fun _ => ?_) (fun _ => ?_) | refine Need.mk (by kernel_rfl) ?_ | refine Fin.bool ?_ | fail
  all_goals simp_all
  all_goals (intros; omega)
theorem rsquare_det (v : V2) : Det Try.prog 58 [vD v] (tint (dotW v v)) := by
  refine det_of_awp TTok mixed Try.func58 rfl rfl [] (Nat.le_of_ble_eq_true rfl) ?_
  refine CallW.mk' (rdot_det v v) ?_
  exact Fin.rfl'
theorem rvalida_det (a : Arc) : Det Try.prog 25 [arcD a] (tbool (validA a)) := by
  refine det_of_awp TTok mixed Try.func25 rfl rfl [] (Nat.le_of_ble_eq_true rfl) ?_
  refine CallW.bool (within_det a.f 2000) (fun b1 h1 => ?_)
  refine Split.mk (fun k1 => ?_) (fun k1 => ?_)
  · have : withinV a.f 2000 = false := by rw [← h1]; simpa using k1
    repeat' first | refine Split.t ?_ | refine Split.f ?_ | refine Need.mk (by kernel_rfl) ?_ | refine Fin.bool ?_ | fail
    simp [validA, this]
  have e1 : withinV a.f 2000 = true := by rw [← h1]; simpa using k1
  repeat' first | refine Split.f ?_ | refine Need.mk (by decide) ?_ | fail
  refine CallW.bool (within_det a.t 2000) (fun b2 h2 => ?_)
  repeat' first | refine Split.f ?_ | refine Need.mk (by decide) ?_ | fail
  refine Split.mk (fun k2 => ?_) (fun k2 => ?_)
  · have : withinV a.t 2000 = false := by rw [← h2]; simpa using k2
    repeat' first | refine Split.t ?_ | refine Split.f ?_ | refine Need.mk (by kernel_rfl) ?_ | refine Fin.bool ?_ | fail
    simp [validA, this]
  have e2 : withinV a.t 2000 = true := by rw [← h2]; simpa using k2
  repeat' first | refine Split.f ?_ | refine Need.mk (by decide) ?_ | fail
  refine CallW.bool (within_det a.c 2000) (fun b3 h3 => ?_)
  repeat' first | refine Split.f ?_ | refine Need.mk (by decide) ?_ | fail
  refine Split.mk (fun k3 => ?_) (fun k3 => ?_)
  · have : withinV a.c 2000 = false := by rw [← h3]; simpa using k3
    repeat' first | refine Split.t ?_ | refine Split.f ?_ | refine Need.mk (by kernel_rfl) ?_ | refine Fin.bool ?_ | fail
    simp [validA, this]
  have e3 : withinV a.c 2000 = true := by rw [← h3]; simpa using k3
  have ok : ArcOk a := ⟨In.of (by decide) (by decide) e1, In.of (by decide) (by decide) e2, In.of (by decide) (by decide) e3⟩
  refine CallW.mk' ((sub_det a.f a.c).eq (by rw [ok.u.1])) ?_
  refine CallW.int ((rsquare_det (uA a)).eq (by rw [ok.uu])) (fun n hn => ?_)
  have e : validA a = (decide (0 < sqA a) && (decide (sqA a = dotP (vA a) (vA a)) && decide (sqA a ≤ 4000000))) := by simp [validA, e1, e2, e3]
  rw [e, ← hn]
  repeat' first | refine Split.t ?_ | refine Split.f ?_ | refine CallW.mk' ((sub_det a.t a.c).eq (by rw [ok.v.1])) ?_ | refine CallW.int ((rsquare_det (vA a)).eq (by rw [ok.vv])) (fun m hm => ?_) | refine Split.mk (fun _ => ?_) (fun _ => ?_) | refine Need.mk (by kernel_rfl) ?_ | refine Fin.bool ?_ | fail
  all_goals simp_all
  all_goals first | (intros; omega) | (rw [Bool.eq_iff_iff]; simp; omega)
end Sg
end Go.Vm
