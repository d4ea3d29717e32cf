/-
  Layer 11: contracts of math.Sqrt and of both Roots.
-/
import Derived.Test.YtlckiecpelchlaaArcC
namespace Go.Vm
set_option maxRecDepth 20000
set_option linter.unusedVariables false
set_option linter.unusedSimpArgs false
open Go Go.RowKit Go.Proofs
namespace Sg

theorem sqrt_run (b r : Nat) (h : Ieee.double.sqrt b = some r) (w : World) : (callFunc 95 #[.float .f64 b]).run Try.prog w = .ok (.value (.float .f64 r)) w := by
  rw [run_callFunc_extern (e := Extern.MathSqrt.sqrt) Try.func95 (by kernel_rfl) (by kernel_rfl) (by kernel_rfl) (by kernel_rfl)]
  have e : (Extern.MathSqrt.sqrt #[.float .f64 b]).run Try.prog w = .ok (.float .f64 r) w := by
    have h' : FloatKind.f64.format.sqrt b = some r := h
    change Sem.run _ (match FloatKind.f64.format.sqrt b with
      | some r => pure (Value.float FloatKind.f64 r)
      | none => do pure (Value.float FloatKind.f64 (← choose (.nanBits .f64 b b)))) w = _
    rw [h']
    rfl
  rw [e]
  rfl
theorem sqrt_det (b r : Nat) (h : Ieee.double.sqrt b = some r) : Det Try.prog 61 [.one (.v (.float .f64 b))] (.d (.one (.v (.float .f64 r)))) := by
  refine det_of_awp TTok mixed Try.func61 rfl rfl [95 + 5000000] (Nat.le_of_ble_eq_true rfl) ?_
  refine ⟨⟨.float .f64 r, rfl, fun w S vs hv => ?_, ?_⟩⟩
  · cases hv with
    | cons h1 h2 =>
      cases h2
      have := (Rd.inv_v (show Rd _ _ _ _ from h1)).1
      subst this
      exact sqrt_run b r h w
  · exact Fin.rfl'
theorem tdiv_nn {a b : Int} (ha : 0 ≤ a) : a.tdiv b = a / b := Int.tdiv_eq_ediv_of_nonneg ha
theorem quo_w {n v : Int} (h0 : 0 ≤ n) (h1 : n < 9223372036854775808) (hv : 0 < v) : IntKind.i64.wrap (n.tdiv v) = n / v := by
  rw [tdiv_nn h0]
  have a := Int.ediv_nonneg h0 (Int.le_of_lt hv)
  have b := Int.ediv_le_self v h0
  exact wid (by omega) (by omega)
theorem isq_le {v n : Int} (h0 : 0 ≤ v) (h : v * v ≤ n) (h1 : n < 9223372036854775808) : v ≤ 3037000499 := by
  refine Int.not_lt.1 fun q => ?_
  have : 3037000500 * 3037000500 ≤ v * v := Int.mul_le_mul (by omega) (by omega) (by decide) h0
  omega
theorem root_det (n : Int) (hn : R64 n) : Det Try.prog 28 [.one (i64 n)] (tint (isq n)) := by
  refine det_of_awp TTok mixed Try.func28 rfl rfl [7] (Nat.le_of_ble_eq_true rfl) ?_
  refine Split.mk (fun h => ?_) (fun h => ?_)
  · refine Fin.int ?_
    rw [isq, if_pos (of_decide_eq_true h)]
  have h0 : 0 < n := by have : ¬ n ≤ 0 := of_decide_eq_false h; omega
  obtain ⟨r, z, hr, hz, hz0, hz1⟩ := root_start h0 hn.2
  refine Need.mk ⟨⟨_, rfl⟩, rfl⟩ ?_
  refine CallW.mk' (sqrt_det _ r hr) ?_
  refine ⟨⟨z, hz, by show -9223372036854775808 ≤ z; omega, by show z ≤ 9223372036854775807; omega, ?_⟩⟩
  refine Need.mk ⟨_, rfl⟩ ?_
  refine Loop.by (α := Nat) (fun v => [(0, tint n), (3, tint v)]) (fun _ => []) (fun v => v ≤ 9007199254740992) (fun v => v)
    (Adj.at z.toNat (by omega) .nil (.cons .same (.cons (SlotLe.int (by omega)) .nil))) (fun v hv => ?_)
  refine Split.mk (fun h1 => ?pa) (fun h1 => ?pb)
  case' pa =>
    have hv0 : 0 < (v : Int) := of_decide_eq_true h1
    repeat' first | refine Split.isT h1 ?_ | refine Split.t ?_ | refine Split.f ?_ | fail
    refine Need.mk (by omega) ?_
    repeat' first | refine Split.isT h1 ?_ | refine Split.t ?_ | refine Split.f ?_ | fail
    refine Split.mk (fun h2 => ?pc) (fun h2 => ?pd)
    case pc =>
      refine Adj.back (x := v) (v - 1) (by omega) (by omega) .nil (.cons .same (.cons (SlotLe.int ?_) .nil))
      rw [wid (by omega) (by omega)]; omega
    case' pd =>
      have h2' : ¬ (v : Int) > IntKind.i64.wrap (n.tdiv v) := of_decide_eq_false h2
      rw [quo_w (by omega) hn.2 hv0] at h2'
      have hle : (v : Int) * v ≤ n := (le_div_self hv0).1 (by omega)
      refine Cut.mk (Adj.keep [(0, tint n), (3, tint v)] [] .nil (.cons .same (.cons .same .nil)) ?_)
  case' pb =>
    have hv0 : v = 0 := by have : ¬ (v : Int) > 0 := of_decide_eq_false h1; omega
    repeat' first | refine Split.isF h1 ?_ | refine Split.t ?_ | refine Split.f ?_ | fail
    have hle : (v : Int) * v ≤ n := by rw [hv0]; show (0 : Int) * 0 ≤ n; omega
    refine Cut.mk (Adj.keep [(0, tint n), (3, tint v)] [] .nil (.cons .same (.cons .same .nil)) ?_)
  all_goals
    have hv2 := isq_le (by omega) hle hn.2
    refine Loop.by (α := Nat) (fun v => [(0, tint n), (3, tint v)]) (fun _ => []) (fun v => (v : Int) * v ≤ n ∧ v ≤ 3037000499) (fun v => 3037000499 - v)
      (Adj.at v ⟨hle, by omega⟩ .nil (.cons .same (.cons .same .nil))) (fun u hu => ?_)
    obtain ⟨hu1, hu2⟩ := hu
    have e1 : IntKind.i64.wrap ((u : Int) + 1) = u + 1 := wid (by omega) (by omega)
    refine Need.mk (by rw [e1]; omega) ?_
    have e2 : IntKind.i64.wrap (n.tdiv (IntKind.i64.wrap ((u : Int) + 1))) = n / (u + 1) := by rw [e1]; exact quo_w (by omega) hn.2 (by omega)
    refine Split.mk (fun h3 => ?_) (fun h3 => ?_)
    · have h3' : IntKind.i64.wrap ((u : Int) + 1) ≤ IntKind.i64.wrap (n.tdiv (IntKind.i64.wrap ((u : Int) + 1))) := of_decide_eq_true h3
      rw [e2, e1] at h3'
      have h4 := (le_div_self (show (0 : Int) < u + 1 by omega)).1 h3'
      have h5 := isq_le (by omega) h4 hn.2
      refine Adj.back (x := u) (u + 1) ⟨by push_cast; exact h4, by omega⟩ (by omega) .nil (.cons .same (.cons (SlotLe.int ?_) .nil))
      rw [e1]; omega
    · have h3' : ¬ IntKind.i64.wrap ((u : Int) + 1) ≤ IntKind.i64.wrap (n.tdiv (IntKind.i64.wrap ((u : Int) + 1))) := of_decide_eq_false h3
      rw [e2, e1, le_div_self (by omega)] at h3'
      refine Fin.int ?_
      exact (isq_eq (by omega) hu1 (by omega) hn.2).symm
theorem rroot_det (n : Int) (hn : R64 n) : Det Try.prog 62 [.one (i64 n)] (tint (isq n)) := by
  refine det_of_awp TTok mixed Try.func62 rfl rfl [] (Nat.le_of_ble_eq_true rfl) ?_
  refine Split.mk (fun h => ?_) (fun h => ?_)
  · refine Fin.int ?_
    rw [isq, if_pos (of_decide_eq_true h)]
  have h0 : 0 < n := by have : ¬ n ≤ 0 := of_decide_eq_false h; omega
  have hn1 := hn.2
  refine Loop.by (α := Nat × Nat) (fun x => [(0, tint n), (3, tint x.1), (4, tint x.2)]) (fun _ => []) (fun x => x.1 < x.2 ∧ x.2 ≤ 3037000500 ∧ (x.1 : Int) * x.1 ≤ n ∧ n < (x.2 : Int) * x.2) (fun x => x.2 - x.1)
    (Adj.at (0, 3037000500) ⟨by decide, by decide, by show (0 : Int) * 0 ≤ n; omega, by show n < (3037000500 : Int) * 3037000500; omega⟩ .nil (.cons .same (.cons .same (.cons .same .nil)))) (fun x hx => ?_)
  obtain ⟨lo, hi⟩ := x
  obtain ⟨a1, a2, a3, a4⟩ := hx
  replace a1 : lo < hi := a1
  replace a2 : hi ≤ 3037000500 := a2
  replace a3 : (lo : Int) * lo ≤ n := a3
  replace a4 : n < (hi : Int) * hi := a4
  have e0 : IntKind.i64.wrap ((hi : Int) - lo) = hi - lo := wid (by omega) (by omega)
  refine Split.mk (fun h1 => ?_) (fun h1 => ?_)
  · have h1' : IntKind.i64.wrap ((hi : Int) - lo) > 1 := of_decide_eq_true h1
    rw [e0] at h1'
    have em : IntKind.i64.wrap ((IntKind.i64.wrap ((lo : Int) + hi)).tdiv 2) = (((lo + hi) / 2 : Nat) : Int) := by
      rw [wid (n := (lo : Int) + hi) (by omega) (by omega), tdiv_nn (by omega), wid (by omega) (by omega)]; omega
    refine Need.mk (by decide) ?_
    have hm0 : 0 < (lo + hi) / 2 := by omega
    have hm1 : lo < (lo + hi) / 2 ∧ (lo + hi) / 2 < hi := by omega
    refine Need.mk (by rw [em]; omega) ?_
    have e2 : IntKind.i64.wrap (n.tdiv (IntKind.i64.wrap ((IntKind.i64.wrap ((lo : Int) + hi)).tdiv 2))) = n / (((lo + hi) / 2 : Nat) : Int) := by rw [em]; exact quo_w (by omega) hn.2 (by omega)
    generalize (lo + hi) / 2 = m at *
    refine Split.mk (fun h2 => ?_) (fun h2 => ?_)
    · have h2' : IntKind.i64.wrap ((IntKind.i64.wrap ((lo : Int) + hi)).tdiv 2) ≤ IntKind.i64.wrap (n.tdiv (IntKind.i64.wrap ((IntKind.i64.wrap ((lo : Int) + hi)).tdiv 2))) := of_decide_eq_true h2
      rw [e2, em, le_div_self (by omega)] at h2'
      exact Adj.back (x := (lo, hi)) (m, hi) ⟨hm1.2, a2, h2', a4⟩ (by show hi - m < hi - lo; omega) .nil (.cons .same (.cons (SlotLe.int em) (.cons .same .nil)))
    · have h2' : ¬ IntKind.i64.wrap ((IntKind.i64.wrap ((lo : Int) + hi)).tdiv 2) ≤ IntKind.i64.wrap (n.tdiv (IntKind.i64.wrap ((IntKind.i64.wrap ((lo : Int) + hi)).tdiv 2))) := of_decide_eq_false h2
      rw [e2, em, le_div_self (by omega)] at h2'
      exact Adj.back (x := (lo, hi)) (lo, m) ⟨hm1.1, by show m ≤ 3037000500; omega, a3, by show n < (m : Int) * m; omega⟩ (by show m - lo < hi - lo; omega) .nil (.cons .same (.cons .same (.cons (SlotLe.int em) .nil)))
  · have h1' : ¬ IntKind.i64.wrap ((hi : Int) - lo) > 1 := of_decide_eq_false h1
    rw [e0] at h1'
    have e : (hi : Int) = lo + 1 := by omega
    rw [e] at a4
    refine Fin.int ?_
    exact (isq_eq (by omega) a3 a4 hn.2).symm
end Sg
end Go.Vm
