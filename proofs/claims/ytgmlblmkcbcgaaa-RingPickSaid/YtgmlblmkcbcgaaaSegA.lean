/-
  Layers 6 and 7: contracts of the functions on vectors.
-/
import Derived.Test.YtgmlblmkcbcgaaaVmT
namespace Go.Vm
set_option maxRecDepth 20000
set_option linter.unusedVariables false
set_option linter.unusedSimpArgs false
namespace Sg
open Go Go.RowKit Go.Proofs

structure V2 where
  x : Int
  y : Int
structure Seg where
  a : V2
  b : V2
structure P3 where
  x : Int
  y : Int
  d : Int
theorem V2.ext {a b : V2} (h : a.x = b.x) (k : a.y = b.y) : a = b := by
  cases a; cases b; simp only at h k; rw [h, k]
theorem V2.eq_iff {a b : V2} : a = b ↔ a.x = b.x ∧ a.y = b.y := ⟨fun h => by rw [h]; exact ⟨rfl, rfl⟩, fun h => V2.ext h.1 h.2⟩
instance : DecidableEq V2 := fun _ _ => decidable_of_iff _ V2.eq_iff.symm
theorem P3.ext {a b : P3} (h : a.x = b.x) (k : a.y = b.y) (l : a.d = b.d) : a = b := by
  cases a; cases b; simp only at h k l; rw [h, k, l]
theorem Seg.ext {a b : Seg} (h : a.a = b.a) (k : a.b = b.b) : a = b := by
  cases a; cases b; simp only at h k; rw [h, k]

abbrev vL (v : V2) : List SV := [i64 v.x, i64 v.y]
abbrev vD (v : V2) : DV := .agg (vL v)
abbrev sL (s : Seg) : List SV := [i64 s.a.x, i64 s.a.y, i64 s.b.x, i64 s.b.y]
abbrev sD (s : Seg) : DV := .agg (sL s)
abbrev pL (p : P3) : List SV := [i64 p.x, i64 p.y, i64 p.d]
abbrev pD (p : P3) : DV := .agg (pL p)
abbrev boxL (a b c d : Int) : List SV := [i64 a, i64 b, i64 c, i64 d]
/-- A slice of vectors, out of a list. -/
abbrev vlS (l : List V2) : SV := .sl l.length 2 fun i j => match j with
  | 0 => i64 (l.getD i ⟨0, 0⟩).x
  | _ => i64 (l.getD i ⟨0, 0⟩).y

abbrev ng (x : Int) : Int := w64 (0 - x)
def sgnI (n : Int) : Int := if n > 0 then 1 else if n < 0 then -1 else 0
def maxI (x y : Int) : Int := if y > x then y else x
def minI (x y : Int) : Int := if y < x then y else x
def absI (n : Int) : Int := if n ≥ 0 then n else ng n
def subW (a b : V2) : V2 := ⟨w64 (a.x - b.x), w64 (a.y - b.y)⟩
def addW (a b : V2) : V2 := ⟨w64 (a.x + b.x), w64 (a.y + b.y)⟩
def crossW (a b : V2) : Int := w64 (w64 (a.x * b.y) - w64 (a.y * b.x))
def turnW (a b c : V2) : Int := sgnI (crossW (subW b a) (subW c a))
def lessB (a b : V2) : Bool := decide (a.y < b.y) || (decide (a.y = b.y) && decide (a.x < b.x))
def cmpI (a b : Int) : Int := if a < b then -1 else if a > b then 1 else 0
def cmpV (a b : V2) : Int := if lessB a b = true then -1 else if a = b then 0 else 1
def withinV (v : V2) (m : Int) : Bool := decide (v.x ≥ ng m) && decide (v.x ≤ m) && decide (v.y ≥ ng m) && decide (v.y ≤ m)

theorem EqW.tt {P : Program} {T : TypeId} {xs ys : List SV} {K : Bool → Prop} {e : Bool} (h : EqFact P T xs ys e) (he : e = true) (k : K true) : EqW P T xs ys K := ⟨e, h, he ▸ k⟩
/-- Equality of two vectors, by the vectors. -/
theorem EqW.v {K : Bool → Prop} (a b : V2) (k : ∀ q, (q = true ↔ a = b) → K q) : EqW Try.prog 32 (vL a) (vL b) K := by
  refine EqW.b (eq32 _ _ _ _) (fun q hq => k q ?_)
  subst hq
  rw [decide_eq_true_eq, V2.eq_iff]
  simp
theorem EqW.p {K : Bool → Prop} (a b : P3) (k : ∀ q, (q = true ↔ a = b) → K q) : EqW Try.prog 41 (pL a) (pL b) K := by
  refine EqW.b (eq41 _ _ _ _ _ _) (fun q hq => k q ?_)
  subst hq
  rw [decide_eq_true_eq]
  exact ⟨fun h => by simp at h; exact P3.ext h.1 h.2.1 h.2.2, fun h => by rw [h]⟩
theorem EqW.s {K : Bool → Prop} (a b : Seg) (k : ∀ q, (q = true ↔ a = b) → K q) : EqW Try.prog 47 (sL a) (sL b) K := by
  refine EqW.b (eq47 _ _ _ _ _ _ _ _) (fun q hq => k q ?_)
  subst hq
  rw [decide_eq_true_eq]
  exact ⟨fun h => by simp at h; exact Seg.ext (V2.ext h.1 h.2.1) (V2.ext h.2.2.1 h.2.2.2), fun h => by rw [h]⟩
/-- A vector under a letter. -/
theorem CallW.v {P : Program} {f : FuncId} {args : List DV} {K : TV → Prop} {e : V2} (h : Det P f args (.d (vD e))) (kk : ∀ v, v = e → K (.d (vD v))) : CallW P f args K := ⟨_, h, kk e rfl⟩

theorem sign_det (n : Int) : Det Try.prog 87 [.one (i64 n)] (tint (sgnI n)) := by
  refine det_of_awp TTok mixed Try.func87 rfl rfl [] (Nat.le_of_ble_eq_true rfl) ?_
  repeat' first | refine Split.t ?_ | refine Split.f ?_ | refine Split.mk (fun _ => ?_) (fun _ => ?_) | refine Fin.int ?_ | fail
  all_goals simp_all [sgnI]
  all_goals try (intros; omega)
theorem abs_det (n : Int) : Det Try.prog 96 [.one (i64 n)] (tint (absI n)) := by
  refine det_of_awp TTok mixed Try.func96 rfl rfl [] (Nat.le_of_ble_eq_true rfl) ?_
  repeat' first | refine Split.t ?_ | refine Split.f ?_ | refine Split.mk (fun _ => ?_) (fun _ => ?_) | refine Fin.int ?_ | fail
  all_goals simp_all [absI, ng, w64] <;> omega
theorem nan_det (n : Int) : Det Try.prog 105 [.one (i64 n)] (tbool false) := by
  refine det_of_awp TTok mixed Try.func105 rfl rfl [] (Nat.le_of_ble_eq_true rfl) ?_
  refine Fin.bool ?_
  simp
theorem cmp_det (a b : Int) : Det Try.prog 99 [.one (i64 a), .one (i64 b)] (tint (cmpI a b)) := by
  refine det_of_awp TTok mixed Try.func99 rfl rfl [] (Nat.le_of_ble_eq_true rfl) ?_
  repeat' first | refine CallW.mk' (nan_det _) ?_ | refine Split.t ?_ | refine Split.f ?_ | refine Split.mk (fun _ => ?_) (fun _ => ?_) | refine Fin.int ?_ | fail
  all_goals simp_all [cmpI]
  all_goals try (intros; omega)
theorem cmp_zero (n : Int) : cmpI n 0 = sgnI n := by
  unfold cmpI sgnI
  split <;> split <;> omega
/-- The first of two numbers that is not 0. -/
def orI (a b : Int) : Int := if a ≠ 0 then a else b
theorem or_det (a b : Int) (get : Nat → Nat → SV) (h0 : get 0 0 = i64 a) (h1 : get 1 0 = i64 b) : Det Try.prog 101 [.one (.sl 2 1 get)] (tint (orI a b)) := by
  refine Det.le (args' := [.one (.sl 2 1 fun i _ => match i with | 0 => i64 a | _ => i64 b)]) (.cons (DLe.one (SLe.sl ?_)) .nil) ?_
  · intro i hi j hj
    obtain rfl : j = 0 := by omega
    rcases i with _ | _ | i
    · exact SLe.of_eq h0
    · exact SLe.of_eq h1
    · omega
  refine det_of_awp TTok mixed Try.func101 rfl rfl [] (Nat.le_of_ble_eq_true rfl) ?_
  refine Loop.unroll 3 ?_
  repeat' first | refine Split.t ?_ | refine Split.f ?_ | refine Need.mk (by decide) ?_ | refine Split.mk (fun _ => ?_) (fun _ => ?_) | refine Fin.int ?_ | fail
  all_goals simp_all [orI]

theorem within_det (v : V2) (m : Int) : Det Try.prog 18 [vD v, .one (i64 m)] (tbool (withinV v m)) := by
  refine det_of_awp TTok mixed Try.func18 rfl rfl [] (Nat.le_of_ble_eq_true rfl) ?_
  repeat' first | refine Split.t ?_ | refine Split.f ?_ | refine Split.mk (fun _ => ?_) (fun _ => ?_) | refine Need.mk (by kernel_rfl) ?_ | refine Fin.bool ?_ | fail
  all_goals
    simp_all [withinV, ng, w64]
    try (intros; omega)
theorem vwithin_det (v : V2) (m : Int) : Det Try.prog 61 [vD v, .one (i64 m)] (tbool (withinV v m)) := by
  refine det_of_awp TTok mixed Try.func61 rfl rfl [] (Nat.le_of_ble_eq_true rfl) ?_
  repeat' first | refine Split.t ?_ | refine Split.f ?_ | refine Split.mk (fun _ => ?_) (fun _ => ?_) | refine Need.mk (by kernel_rfl) ?_ | refine Fin.bool ?_ | fail
  all_goals
    simp_all [withinV, ng, w64]
    try (intros; omega)
theorem sub_det (a b : V2) : Det Try.prog 89 [vD a, vD b] (.d (vD (subW a b))) := by
  refine det_of_awp TTok mixed Try.func89 rfl rfl [] (Nat.le_of_ble_eq_true rfl) ?_
  repeat' first | refine Need.mk (by kernel_rfl) ?_ | fail
  exact Fin.rfl'
theorem vsub_det (a b : V2) : Det Try.prog 66 [vD a, vD b] (.d (vD (subW a b))) := by
  refine det_of_awp TTok mixed Try.func66 rfl rfl [] (Nat.le_of_ble_eq_true rfl) ?_
  repeat' first | refine Need.mk (by kernel_rfl) ?_ | fail
  exact Fin.rfl'
theorem cross_det (a b : V2) : Det Try.prog 88 [vD a, vD b] (tint (crossW a b)) := by
  refine det_of_awp TTok mixed Try.func88 rfl rfl [] (Nat.le_of_ble_eq_true rfl) ?_
  repeat' first | refine Need.mk (by kernel_rfl) ?_ | fail
  exact Fin.rfl'
theorem vcross_det (a b : V2) : Det Try.prog 65 [vD a, vD b] (tint (crossW a b)) := by
  refine det_of_awp TTok mixed Try.func65 rfl rfl [] (Nat.le_of_ble_eq_true rfl) ?_
  repeat' first | refine Need.mk (by kernel_rfl) ?_ | fail
  exact Fin.rfl'
theorem turn_det (a b c : V2) : Det Try.prog 40 [vD a, vD b, vD c] (tint (turnW a b c)) := by
  refine det_of_awp TTok mixed Try.func40 rfl rfl [] (Nat.le_of_ble_eq_true rfl) ?_
  refine CallW.v (sub_det b a) (fun p hp => ?_)
  refine CallW.v (sub_det c a) (fun q hq => ?_)
  refine CallW.int (cross_det p q) (fun n hn => ?_)
  refine CallW.int (sign_det n) (fun s hs => ?_)
  repeat' first | refine Need.mk (by kernel_rfl) ?_ | fail
  refine Fin.int ?_
  subst hs hn hp hq
  rfl
theorem vturn_det (a b c : V2) : Det Try.prog 72 [vD a, vD b, vD c] (tint (turnW a b c)) := by
  refine det_of_awp TTok mixed Try.func72 rfl rfl [] (Nat.le_of_ble_eq_true rfl) ?_
  refine CallW.v (vsub_det b a) (fun p hp => ?_)
  refine CallW.v (vsub_det c a) (fun q hq => ?_)
  refine CallW.int (vcross_det p q) (fun n hn => ?_)
  refine CallW.int (cmp_det n 0) (fun s hs => ?_)
  repeat' first | refine Need.mk (by kernel_rfl) ?_ | fail
  refine Fin.int ?_
  rw [cmp_zero] at hs
  subst hs hn hp hq
  rfl
theorem less_det (a b : V2) : Det Try.prog 92 [vD a, vD b] (tbool (lessB a b)) := by
  refine det_of_awp TTok mixed Try.func92 rfl rfl [] (Nat.le_of_ble_eq_true rfl) ?_
  repeat' first | refine Split.t ?_ | refine Split.f ?_ | refine Split.mk (fun _ => ?_) (fun _ => ?_) | refine Need.mk (by kernel_rfl) ?_ | refine Fin.bool ?_ | fail
  all_goals simp_all [lessB]
  all_goals try (intros; omega)
theorem orI_cmp (a b : V2) : orI (cmpI a.y b.y) (cmpI a.x b.x) = cmpV a b := by
  unfold orI cmpV cmpI lessB
  by_cases h : a = b
  · subst h; simp
  · rw [if_neg h]
    rw [V2.eq_iff] at h
    simp only [Bool.or_eq_true, Bool.and_eq_true, decide_eq_true_eq]
    repeat' split
    all_goals omega
theorem vcmp_det (a b : V2) : Det Try.prog 82 [vD a, vD b] (tint (cmpV a b)) := by
  refine det_of_awp TTok mixed Try.func82 rfl rfl [] (Nat.le_of_ble_eq_true rfl) ?_
  refine CallW.int (cmp_det _ _) (fun p hp => ?_)
  refine CallW.int (cmp_det _ _) (fun q hq => ?_)
  refine CallW.int (or_det p q _ rfl rfl) (fun r hr => ?_)
  refine Need.mk (by kernel_rfl) ?_
  refine Fin.int ?_
  rw [hr, hp, hq]
  exact orI_cmp a b
theorem cmpV_neg (a b : V2) : decide (cmpV a b < 0) = lessB a b := by
  unfold cmpV
  cases h : lessB a b with
  | true => simp
  | false =>
    simp only [Bool.false_eq_true, if_false]
    split <;> rfl
theorem vless_det (a b : V2) : Det Try.prog 110 [vD a, vD b] (tbool (lessB a b)) := by
  refine det_of_awp TTok mixed Try.func110 rfl rfl [] (Nat.le_of_ble_eq_true rfl) ?_
  refine CallW.int (vcmp_det a b) (fun p hp => ?_)
  refine Fin.bool ?_
  rw [hp]
  exact cmpV_neg a b
end Sg
end Go.Vm
