/-
  The laws of layer 9 with no specification: the group's laws and the linear map's.
-/
import Derived.Test.YtocdjailjmmhaaaSymC
namespace Go.Vm
open Go Go.RowKit Go.Proofs
abbrev u8 (n : Int) : SV := .v (.int .u8 n)
theorem lgroup_det (a b c x y : Int) (ha : InK .u8 a) (hb : InK .u8 b) (hc : InK .u8 c) (hx : R64 x) (hy : R64 y) : Det Try.prog 5 [.agg [u8 a, u8 b, u8 c], vec x y] (tbool true) := by
  have ht : In8 (IntKind.i64.wrap (a.tmod 8)) := in8_u8 ha
  have hu : In8 (IntKind.i64.wrap (b.tmod 8)) := in8_u8 hb
  have hw : In8 (IntKind.i64.wrap (c.tmod 8)) := in8_u8 hc
  have f1 := ht.assoc hu hw
  have f2 := ht.zero
  have f3 := ht.inv
  have f4 := ht.vec hu hx hy
  have f5 := ht.sep hu
  have f6 : vx 0 x y = x := rfl
  have f7 : vy 0 x y = y := rfl
  have g0 := ht.grain hu (g := 0) (by decide) (by decide)
  have g1 := ht.grain hu (g := IntKind.i64.wrap (0 + 1)) (by decide) (by decide)
  have g2 := ht.grain hu (g := IntKind.i64.wrap (IntKind.i64.wrap (0 + 1) + 1)) (by decide) (by decide)
  clear ht hu hw
  refine det_of_awp TTok mixed Try.func5 rfl rfl [] (Nat.le_of_ble_eq_true rfl) ?_
  refine CallW.mk' awake_det ?_
  repeat' first | refine Split.t ?_ | refine Split.f ?_ | refine Need.mk (by kernel_rfl) ?_ | refine Need.mk ⟨_, rfl⟩ ?_ | refine Need.mk (by decide) ?_
  repeat' first | refine CallW.int (then_det _ _) (fun _ _ => ?_) | refine CallW.int (inv_det _) (fun _ _ => ?_) | refine Split.f ?_ | refine Split.isF (by subst_vars; simp only [f1, f2, f3, bne_self_eq_false]) ?_
  repeat' first | refine CallW.two (vec_det _ _ _ (by assumption) (by assumption)) (fun _ _ _ _ => ?_) | refine CallW.two (vec_det _ _ _ (by subst_vars; exact vx_R hx hy) (by subst_vars; exact vy_R hx hy)) (fun _ _ _ _ => ?_) | refine EqW.b (eq23 _ _ _ _) (fun _ _ => ?_) | refine Split.f ?_ | refine Split.isF (by subst_vars; simp only [f4, f6, f7, decide_true, Bool.not_true]) ?_ | refine Need.mk (by kernel_rfl) ?_
  refine Loop.unroll 4 ?_
  repeat' first | refine CallW.int (grain_det _ _) (fun _ _ => ?_) | refine Split.t ?_ | refine Split.f ?_ | refine Split.isF (by subst_vars; simp only [g0, g1, g2, bne_self_eq_false]) ?_
  repeat' first | refine CallW.two (vec_det _ _ _ (by decide) (by decide)) (fun _ _ _ _ => ?_) | refine EqW.b (eq23 _ _ _ _) (fun _ _ => ?_) | refine Need.mk (by kernel_rfl) ?_ | refine Fin.bool ?_
  subst_vars
  exact f5
theorem llin_det (t x y z w : Int) (ht : InK .u8 t) (hx : R64 x) (hy : R64 y) (hz : R64 z) (hw : R64 w) : Det Try.prog 3 [.one (u8 t), vec x y, vec z w] (tbool true) := by
  have h8 : In8 (IntKind.i64.wrap (t.tmod 8)) := in8_u8 ht
  have f := fun ha hb => h8.lin (x := x) (y := y) (z := z) (w := w) ha hb
  refine det_of_awp TTok mixed Try.func3 rfl rfl [] (Nat.le_of_ble_eq_true rfl) ?_
  refine CallW.mk' awake_det ?_
  repeat' first | refine Split.t ?_ | refine Split.f ?_
  refine CallW.bool (within_det _ _ _) (fun b1 hb1 => ?_)
  refine Split.mk (fun k1 => ?_) (fun k1 => ?_)
  · repeat' first | refine Split.t ?_ | refine Split.f ?_ | refine Fin.bool ?_
    all_goals rfl
  repeat' first | refine Split.f ?_
  refine CallW.bool (within_det _ _ _) (fun b2 hb2 => ?_)
  repeat' first | refine Split.f ?_
  refine Split.mk (fun k2 => ?_) (fun k2 => ?_)
  · repeat' first | refine Split.t ?_ | refine Split.f ?_ | refine Fin.bool ?_
    all_goals rfl
  obtain ⟨f1, f2, f3, f4, f5⟩ := f (by simp_all) (by simp_all)
  repeat' first | refine CallW.two (vec_det _ _ _ (by assumption) (by assumption)) (fun _ _ _ _ => ?_) | refine Need.mk (by kernel_rfl) ?_ | refine Need.mk ⟨_, rfl⟩ ?_ | refine Need.mk (by decide) ?_
  refine CallW.bool (mir_det _) (fun b3 hb3 => ?_)
  refine Split.mk (fun k3 => ?_) (fun k3 => ?_)
  · rw [if_pos (hb3 ▸ k3)] at f4
    repeat' first | refine CallW.two (add_det _ _ _ _) (fun _ _ _ _ => ?_) | refine CallW.two (vec_det _ _ _ (by subst_vars; exact w64_R _) (by subst_vars; exact w64_R _)) (fun _ _ _ _ => ?_) | refine EqW.b (eq23 _ _ _ _) (fun _ _ => ?_) | refine CallW.int (dot_det _ _ _ _) (fun _ _ => ?_) | refine CallW.int (cross_det _ _ _ _) (fun _ _ => ?_) | refine CallW.int (norm_det _ _) (fun _ _ => ?_) | refine Split.t ?_ | refine Split.isT (by subst_vars; simp only [f1, f2, f3, f4, f5, decide_true, beq_self_eq_true]) ?_ | refine Need.mk (by kernel_rfl) ?_ | refine Fin.bool ?_
    all_goals
      subst_vars
      simp only [f5, beq_self_eq_true]
  · rw [if_neg (by rw [← hb3, k3]; decide)] at f4
    repeat' first | refine CallW.two (add_det _ _ _ _) (fun _ _ _ _ => ?_) | refine CallW.two (vec_det _ _ _ (by subst_vars; exact w64_R _) (by subst_vars; exact w64_R _)) (fun _ _ _ _ => ?_) | refine EqW.b (eq23 _ _ _ _) (fun _ _ => ?_) | refine CallW.int (dot_det _ _ _ _) (fun _ _ => ?_) | refine CallW.int (cross_det _ _ _ _) (fun _ _ => ?_) | refine CallW.int (norm_det _ _) (fun _ _ => ?_) | refine Split.t ?_ | refine Split.isT (by subst_vars; simp only [f1, f2, f3, f4, f5, decide_true, beq_self_eq_true]) ?_ | refine Need.mk (by kernel_rfl) ?_ | refine Fin.bool ?_
    all_goals
      subst_vars
      simp only [f5, beq_self_eq_true]

/-! ### from the parameters' types -/
theorem lgroup_all : ∀ dvs, TypL Try.prog Try.f5.params.toList dvs → Det Try.prog 5 dvs (tbool true) := by
  intro dvs h
  obtain ⟨v0, r0, rfl, h0, q0⟩ := TypL.inv_cons (t := 35) (ts := [23]) h
  obtain ⟨v1, r1, rfl, h1, q1⟩ := TypL.inv_cons q0
  obtain rfl := TypL.inv_nil q1
  obtain ⟨cs0, rfl, k0⟩ := TypD.agg (by kernel_rfl) h0
  obtain ⟨cs1, rfl, k1⟩ := TypD.agg (by kernel_rfl) h1
  obtain ⟨x, y, rfl, hx, hy⟩ := typ23 k1
  obtain ⟨hl, hf⟩ := Typ.inv_arr (P := Try.prog) (n := 3) (e := 5) rfl k0
  have hl : cs0.length = 3 := hl
  match cs0, hl, hf with
  | [c0, c1, c2], _, hf =>
    obtain ⟨a, e0, ha⟩ := Typ.inv_int (P := Try.prog) (t := 5) (k := .u8) rfl (hf 0 (by decide))
    obtain ⟨b, e1, hb⟩ := Typ.inv_int (P := Try.prog) (t := 5) (k := .u8) rfl (hf 1 (by decide))
    obtain ⟨c, e2, hc⟩ := Typ.inv_int (P := Try.prog) (t := 5) (k := .u8) rfl (hf 2 (by decide))
    cases (show [c0] = [u8 a] from e0)
    cases (show [c1] = [u8 b] from e1)
    cases (show [c2] = [u8 c] from e2)
    exact lgroup_det a b c x y ha hb hc hx hy
theorem llin_all : ∀ dvs, TypL Try.prog Try.f3.params.toList dvs → Det Try.prog 3 dvs (tbool true) := by
  intro dvs h
  obtain ⟨v0, r0, rfl, h0, q0⟩ := TypL.inv_cons (t := 5) (ts := [23, 23]) h
  obtain ⟨v1, r1, rfl, h1, q1⟩ := TypL.inv_cons q0
  obtain ⟨v2, r2, rfl, h2, q2⟩ := TypL.inv_cons q1
  obtain rfl := TypL.inv_nil q2
  obtain ⟨t, rfl, ht⟩ := TypD.int (k := .u8) (by kernel_rfl) rfl h0
  obtain ⟨cs1, rfl, k1⟩ := TypD.agg (by kernel_rfl) h1
  obtain ⟨cs2, rfl, k2⟩ := TypD.agg (by kernel_rfl) h2
  obtain ⟨x, y, rfl, hx, hy⟩ := typ23 k1
  obtain ⟨z, w, rfl, hz, hw⟩ := typ23 k2
  exact llin_det t x y z w ht hx hy hz hw
theorem lthen_all : ∀ dvs, TypL Try.prog Try.f4.params.toList dvs → Det Try.prog 4 dvs (tbool true) := by
  intro dvs h
  obtain ⟨v0, r0, rfl, h0, q0⟩ := TypL.inv_cons (t := 3) (ts := [3]) h
  obtain ⟨v1, r1, rfl, h1, q1⟩ := TypL.inv_cons q0
  obtain rfl := TypL.inv_nil q1
  obtain ⟨t, rfl, _⟩ := TypD.i64 (by kernel_rfl) rfl h0
  obtain ⟨u, rfl, _⟩ := TypD.i64 (by kernel_rfl) rfl h1
  exact lthen_det t u
end Go.Vm
