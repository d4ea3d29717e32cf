/-
  Layer 7: contracts of Valid, On, Side, PointOf, and of the greatest common divisor.
-/
import Derived.Test.YtgmlblmkcbcgaaaSegA
namespace Go.Vm
set_option maxRecDepth 20000
set_option linter.unusedVariables false
set_option linter.unusedSimpArgs false
namespace Sg
open Go Go.RowKit Go.Proofs

def validS (s : Seg) : Bool := withinV s.a 4000 && withinV s.b 4000
def inBoxB (s : Seg) (p : V2) : Bool := decide (p.x ≥ minI s.a.x s.b.x) && decide (p.x ≤ maxI s.a.x s.b.x) && decide (p.y ≥ minI s.a.y s.b.y) && decide (p.y ≤ maxI s.a.y s.b.y)
def onB (s : Seg) (p : V2) : Bool := validS s && inBoxB s p && (turnW s.a s.b p == 0)
def sideI (s : Seg) (p : V2) : Int := bif validS s && withinV p 4000 then turnW s.a s.b p else 0

theorem valid_det (s : Seg) : Det Try.prog 106 [sD s] (tbool (validS s)) := by
  refine det_of_awp TTok mixed Try.func106 rfl rfl [] (Nat.le_of_ble_eq_true rfl) ?_
  repeat' first | refine CallW.bool (vwithin_det s.a _) (fun _ _ => ?_) | refine CallW.bool (vwithin_det s.b _) (fun _ _ => ?_) | refine Split.t ?_ | refine Split.f ?_ | refine Split.mk (fun _ => ?_) (fun _ => ?_) | refine Need.mk (by kernel_rfl) ?_ | refine Fin.bool ?_ | fail
  all_goals simp_all [validS]
theorem rvalid_det (s : Seg) : Det Try.prog 38 [sD s] (tbool (validS s)) := by
  refine det_of_awp TTok mixed Try.func38 rfl rfl [] (Nat.le_of_ble_eq_true rfl) ?_
  repeat' first | refine CallW.bool (within_det s.a _) (fun _ _ => ?_) | refine CallW.bool (within_det s.b _) (fun _ _ => ?_) | refine Split.t ?_ | refine Split.f ?_ | refine Split.mk (fun _ => ?_) (fun _ => ?_) | refine Need.mk (by kernel_rfl) ?_ | refine Fin.bool ?_ | fail
  all_goals simp_all [validS]
theorem min_self (a : Int) : minI a a = a := by simp [minI]
theorem max_self (a : Int) : maxI a a = a := by simp [maxI]
abbrev boxT (a b c d : Int) : TV := .tup [.agg (boxL a b c d), .one (.v (.bool true))]
/-- The box of two vectors. -/
theorem box2_det (a b : V2) (get : Nat → Nat → SV) (h0 : get 0 0 = i64 a.x) (h1 : get 0 1 = i64 a.y) (h2 : get 1 0 = i64 b.x) (h3 : get 1 1 = i64 b.y) :
    Det Try.prog 111 [.one (.sl 2 2 get)] (boxT (minI a.x b.x) (minI a.y b.y) (maxI a.x b.x) (maxI a.y b.y)) := by
  refine Det.le (args' := [.one (.sl 2 2 fun i j => match i with | 0 => (match j with | 0 => i64 a.x | _ => i64 a.y) | _ => (match j with | 0 => i64 b.x | _ => i64 b.y))]) (.cons (DLe.one (SLe.sl ?_)) .nil) ?_
  · intro i hi j hj
    rcases i with _ | _ | i <;> rcases j with _ | _ | j <;> first | exact SLe.of_eq (by assumption) | omega
  have e1 := min_self a.x
  have e2 := min_self a.y
  have e3 := max_self a.x
  have e4 := max_self a.y
  refine det_of_awp TTok mixed Try.func111 rfl rfl [] (Nat.le_of_ble_eq_true rfl) ?_
  refine Split.f ?_
  repeat' first | refine Need.mk (by kernel_rfl) ?_ | refine Need.mk (by decide) ?_ | fail
  refine Loop.unroll 3 ?_
  repeat' first | refine Split.t ?_ | refine Split.f ?_ | refine Split.isT (by decide) ?_ | refine Split.isF (by decide) ?_ | refine Need.mk (by kernel_rfl) ?_ | refine Need.mk (by decide) ?_ | fail
  refine Fin.eq ?_
  show boxT (minI (minI a.x a.x) b.x) (minI (minI a.y a.y) b.y) (maxI (maxI a.x a.x) b.x) (maxI (maxI a.y a.y) b.y) = _
  rw [e1, e2, e3, e4]
theorem inbox_det (s : Seg) (p : V2) : Det Try.prog 112 [.agg (boxL (minI s.a.x s.b.x) (minI s.a.y s.b.y) (maxI s.a.x s.b.x) (maxI s.a.y s.b.y)), vD p] (tbool (inBoxB s p)) := by
  refine det_of_awp TTok mixed Try.func112 rfl rfl [] (Nat.le_of_ble_eq_true rfl) ?_
  unfold inBoxB
  generalize minI s.a.x s.b.x = a
  generalize minI s.a.y s.b.y = b
  generalize maxI s.a.x s.b.x = c
  generalize maxI s.a.y s.b.y = d
  repeat' first | refine Split.t ?_ | refine Split.f ?_ | refine Split.mk (fun _ => ?_) (fun _ => ?_) | refine Need.mk (by kernel_rfl) ?_ | refine Fin.bool ?_ | fail
  all_goals simp_all
  all_goals try (intros; omega)
theorem on_det (s : Seg) (p : V2) : Det Try.prog 108 [sD s, vD p] (tbool (onB s p)) := by
  refine det_of_awp TTok mixed Try.func108 rfl rfl [] (Nat.le_of_ble_eq_true rfl) ?_
  refine CallW.mk' (box2_det s.a s.b _ rfl rfl rfl rfl) ?_
  repeat' first | refine CallW.bool (valid_det s) (fun _ _ => ?_) | refine CallW.bool (inbox_det s p) (fun _ _ => ?_) | refine CallW.int (vturn_det s.a s.b p) (fun _ _ => ?_) | refine Split.t ?_ | refine Split.f ?_ | refine Split.mk (fun _ => ?_) (fun _ => ?_) | refine Need.mk (by kernel_rfl) ?_ | refine Fin.bool ?_ | fail
  all_goals simp_all [onB]
theorem ron_det (s : Seg) (p : V2) : Det Try.prog 31 [sD s, vD p] (tbool (onB s p)) := by
  refine det_of_awp TTok mixed Try.func31 rfl rfl [] (Nat.le_of_ble_eq_true rfl) ?_
  refine CallW.bool (rvalid_det s) (fun v hv => ?_)
  refine Split.mk (fun h => ?_) (fun h => ?_)
  · refine Fin.bool ?_
    have : validS s = false := by rw [← hv]; simpa using h
    simp [onB, this]
  have hvt : validS s = true := by rw [← hv]; simpa using h
  have e : onB s p = (inBoxB s p && (turnW s.a s.b p == 0)) := by rw [onB, hvt, Bool.true_and]
  rw [e]
  have e2 : inBoxB s p = (decide (p.x ≥ minI s.a.x s.b.x) && decide (p.x ≤ maxI s.a.x s.b.x) && decide (p.y ≥ minI s.a.y s.b.y) && decide (p.y ≤ maxI s.a.y s.b.y)) := rfl
  rw [e2]
  refine Split.mk (fun h1 => ?_) (fun h1 => ?_)
  · replace h1 : decide (p.x ≥ minI s.a.x s.b.x) = true := h1
    repeat' first | refine Split.t ?_ | fail
    refine Split.mk (fun h2 => ?_) (fun h2 => ?_)
    · replace h2 : decide (p.x ≤ maxI s.a.x s.b.x) = true := h2
      repeat' first | refine Split.t ?_ | fail
      refine Split.mk (fun h3 => ?_) (fun h3 => ?_)
      · replace h3 : decide (p.y ≥ minI s.a.y s.b.y) = true := h3
        repeat' first | refine Split.t ?_ | fail
        refine Split.mk (fun h4 => ?_) (fun h4 => ?_)
        · replace h4 : decide (p.y ≤ maxI s.a.y s.b.y) = true := h4
          repeat' first | refine CallW.int (turn_det s.a s.b p) (fun _ _ => ?_) | refine Split.t ?_ | refine Fin.bool ?_ | fail
          rename_i n hn
          rw [h1, h2, h3, h4, hn]
          rfl
        · replace h4 : decide (p.y ≤ maxI s.a.y s.b.y) = false := h4
          repeat' first | refine Split.f ?_ | refine Fin.bool ?_ | fail
          rw [h4]; simp
      · replace h3 : decide (p.y ≥ minI s.a.y s.b.y) = false := h3
        repeat' first | refine Split.f ?_ | refine Fin.bool ?_ | fail
        rw [h3]; simp
    · replace h2 : decide (p.x ≤ maxI s.a.x s.b.x) = false := h2
      repeat' first | refine Split.f ?_ | refine Fin.bool ?_ | fail
      rw [h2]; simp
  · replace h1 : decide (p.x ≥ minI s.a.x s.b.x) = false := h1
    repeat' first | refine Split.f ?_ | refine Fin.bool ?_ | fail
    rw [h1]; simp
theorem rside_det (s : Seg) (p : V2) : Det Try.prog 86 [sD s, vD p] (tint (sideI s p)) := by
  refine det_of_awp TTok mixed Try.func86 rfl rfl [] (Nat.le_of_ble_eq_true rfl) ?_
  repeat' first | refine CallW.bool (rvalid_det s) (fun _ _ => ?_) | refine CallW.bool (within_det p 4000) (fun _ _ => ?_) | refine CallW.int (turn_det s.a s.b p) (fun _ _ => ?_) | refine Split.t ?_ | refine Split.f ?_ | refine Split.mk (fun _ => ?_) (fun _ => ?_) | refine Need.mk (by kernel_rfl) ?_ | refine Fin.int ?_ | fail
  all_goals simp_all [sideI]
abbrev ptOf (p : V2) : P3 := ⟨p.x, p.y, 1⟩
theorem pointof_det (p : V2) : Det Try.prog 62 [vD p] (.d (pD (ptOf p))) := by
  refine det_of_awp TTok mixed Try.func62 rfl rfl [] (Nat.le_of_ble_eq_true rfl) ?_
  repeat' first | refine Need.mk (by kernel_rfl) ?_ | fail
  exact Fin.rfl'
theorem rpointof_det (p : V2) : Det Try.prog 32 [vD p] (.d (pD (ptOf p))) := by
  refine det_of_awp TTok mixed Try.func32 rfl rfl [] (Nat.le_of_ble_eq_true rfl) ?_
  repeat' first | refine Need.mk (by kernel_rfl) ?_ | fail
  exact Fin.rfl'

/-! ### the greatest common divisor -/
theorem gcd_step (a b : Int) : Int.gcd b (a.tmod b) = Int.gcd a b := by
  simp only [Int.gcd, Int.natAbs_tmod]
  rw [Nat.gcd_comm b.natAbs, ← Nat.gcd_rec, Nat.gcd_comm]
theorem tmod_lt {a b : Int} (h : b ≠ 0) : (a.tmod b).natAbs < b.natAbs := by
  rw [Int.natAbs_tmod]
  exact Nat.mod_lt _ (by omega)
abbrev Big (n : Int) : Prop := -4611686018427387904 ≤ n ∧ n ≤ 4611686018427387904
theorem tmod_big {a b : Int} (hb : Big b) (ha : Big a) : Big (a.tmod b) := by
  have h : (a.tmod b).natAbs ≤ a.natAbs := by
    rw [Int.natAbs_tmod]
    exact Nat.mod_le _ _
  obtain ⟨h1, h2⟩ := ha
  constructor <;> omega
theorem gcd_loop {a b : Int} (ha : Big a) (h : b = 0) : maxI a (ng a) = (Int.gcd a b : Int) := by
  subst h
  obtain ⟨h1, h2⟩ := ha
  have e : ng a = -a := (w64_id (n := 0 - a) ⟨by omega, by omega⟩).trans (by omega)
  rw [e, Int.gcd_zero_right]
  unfold maxI
  split <;> omega
theorem gcd_det (a b : Int) (ha : Big a) (hb : Big b) : Det Try.prog 94 [.one (i64 a), .one (i64 b)] (tint (Int.gcd a b : Nat)) := by
  refine det_of_awp TTok mixed Try.func94 rfl rfl [] (Nat.le_of_ble_eq_true rfl) ?_
  refine Loop.by (α := Int × Int) (fun x => [(0, tint x.1), (1, tint x.2)]) (fun _ => []) (fun x => Int.gcd x.1 x.2 = Int.gcd a b ∧ Big x.1 ∧ Big x.2) (fun x => x.2.natAbs)
    (Adj.at (a, b) ⟨rfl, ha, hb⟩ .nil (.cons .same (.cons .same .nil))) (fun x hi => ?_)
  obtain ⟨p, q⟩ := x
  obtain ⟨hg, hp, hq⟩ := hi
  refine Split.mk (fun h => ?_) (fun h => ?_)
  · have hne : q ≠ 0 := by simpa using h
    refine Need.mk hne ?_
    refine Need.mk (by kernel_rfl) ?_
    exact Adj.back (x := (p, q)) (q, p.tmod q) ⟨(gcd_step p q).trans hg, hq, tmod_big hq hp⟩ (tmod_lt hne) .nil (.cons .same (.cons .same .nil))
  · have h0 : q = 0 := by simpa using h
    refine Fin.int ?_
    rw [← hg]
    exact gcd_loop hp h0
theorem rgcd_det (a b : Int) (ha : 0 ≤ a) (hb : 0 ≤ b) : Det Try.prog 95 [.one (i64 a), .one (i64 b)] (tint (Int.gcd a b : Nat)) := by
  refine det_of_awp TTok mixed Try.func95 rfl rfl [] (Nat.le_of_ble_eq_true rfl) ?_
  refine Loop.by (α := Int × Int) (fun x => [(0, tint x.1), (1, tint x.2)]) (fun _ => []) (fun x => Int.gcd x.1 x.2 = Int.gcd a b ∧ 0 ≤ x.1 ∧ 0 ≤ x.2) (fun x => x.2.natAbs)
    (Adj.at (a, b) ⟨rfl, ha, hb⟩ .nil (.cons .same (.cons .same .nil))) (fun x hi => ?_)
  obtain ⟨p, q⟩ := x
  obtain ⟨hg, hp, hq⟩ := hi
  refine Split.mk (fun h => ?_) (fun h => ?_)
  · have hne : q ≠ 0 := by simpa using h
    refine Need.mk hne ?_
    refine Need.mk (by kernel_rfl) ?_
    exact Adj.back (x := (p, q)) (q, p.tmod q) ⟨(gcd_step p q).trans hg, hq, Int.tmod_nonneg _ hp⟩ (tmod_lt hne) .nil (.cons .same (.cons .same .nil))
  · have h0 : q = 0 := by simpa using h
    refine Fin.int ?_
    rw [← hg]
    replace hp : 0 ≤ p := hp
    subst h0
    rw [Int.gcd_zero_right]
    show p = _
    omega
end Sg
end Go.Vm
