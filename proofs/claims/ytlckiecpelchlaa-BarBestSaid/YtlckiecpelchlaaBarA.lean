/-
  Layer 26: contracts of the functions on one part, and of the search in a row.
-/
import Derived.Test.YtlckiecpelchlaaVmT
namespace Go.Vm
set_option maxRecDepth 20000
set_option linter.unusedVariables false
set_option linter.unusedSimpArgs false
open Go Go.RowKit Go.Proofs

structure BP where
  nm : ByteArray
  gr : ByteArray
  len : Int
  left : Int
  right : Int
abbrev bpL (p : BP) : List SV := [.v (.string p.nm), .v (.string p.gr), i64 p.len, i64 p.left, i64 p.right]
abbrev bpD (p : BP) : DV := .agg (bpL p)
abbrev rowS (n : Nat) (R : Nat → BP) : SV := .sl n 5 fun i j => match j with
  | 0 => .v (.string (R i).nm)
  | 1 => .v (.string (R i).gr)
  | 2 => i64 (R i).len
  | 3 => i64 (R i).left
  | _ => i64 (R i).right

abbrev ng (x : Int) : Int := w64 (0 - x)
def withinI (n lo hi : Int) : Bool := decide (n ≥ lo) && decide (n ≤ hi)
def topI (p : BP) : Int := w64 (w64 (p.len + p.left) + p.right)
def validP (p : BP) : Bool := withinI p.len 1 2000 && withinI p.left (-200) 200 && withinI p.right (-200) 200 && withinI (topI p) 1 2000
def turnedP (p : BP) : BP := ⟨p.nm, p.gr, topI p, ng p.right, ng p.left⟩
def flippedP (p : BP) : BP := ⟨p.nm, p.gr, p.len, p.right, p.left⟩

theorem lean_det (n : Int) : Det Try.prog 64 [.one (i64 n)] (tbool (withinI n (-200) 200)) := by
  refine det_of_awp TTok mixed Try.func64 rfl rfl [] (Nat.le_of_ble_eq_true rfl) ?_
  repeat' first | refine Split.t ?_ | refine Split.f ?_ | refine Split.mk (fun _ => ?_) (fun _ => ?_) | refine Fin.bool ?_
  all_goals simp_all [withinI]
  all_goals try (intros; omega)
theorem long_det (n : Int) : Det Try.prog 63 [.one (i64 n)] (tbool (withinI n 1 2000)) := by
  refine det_of_awp TTok mixed Try.func63 rfl rfl [] (Nat.le_of_ble_eq_true rfl) ?_
  repeat' first | refine Split.t ?_ | refine Split.f ?_ | refine Split.mk (fun _ => ?_) (fun _ => ?_) | refine Fin.bool ?_
  all_goals simp_all [withinI]
  all_goals try (intros; omega)
theorem within_det (n lo hi : Int) : Det Try.prog 44 [.one (i64 n), .one (i64 lo), .one (i64 hi)] (tbool (withinI n lo hi)) := by
  refine det_of_awp TTok mixed Try.func44 rfl rfl [] (Nat.le_of_ble_eq_true rfl) ?_
  repeat' first | refine Split.t ?_ | refine Split.f ?_ | refine Split.mk (fun _ => ?_) (fun _ => ?_) | refine Fin.bool ?_
  all_goals simp_all [withinI]
  all_goals try (intros; omega)
theorem top_det (p : BP) : Det Try.prog 65 [bpD p] (tint (topI p)) := by
  refine det_of_awp TTok mixed Try.func65 rfl rfl [] (Nat.le_of_ble_eq_true rfl) ?_
  repeat' first | refine Need.mk (by kernel_rfl) ?_ | refine Fin.int ?_
  all_goals rfl
theorem validp_det (p : BP) : Det Try.prog 37 [bpD p] (tbool (validP p)) := by
  refine det_of_awp TTok mixed Try.func37 rfl rfl [] (Nat.le_of_ble_eq_true rfl) ?_
  repeat' first | refine CallW.bool (long_det _) (fun _ _ => ?_) | refine CallW.bool (lean_det _) (fun _ _ => ?_) | refine CallW.int (top_det p) (fun _ _ => ?_) | refine Split.t ?_ | refine Split.f ?_ | refine Split.mk (fun _ => ?_) (fun _ => ?_) | refine Need.mk (by kernel_rfl) ?_ | refine Fin.bool ?_
  all_goals simp_all [validP]
theorem rvalidp_det (p : BP) : Det Try.prog 43 [bpD p] (tbool (validP p)) := by
  refine det_of_awp TTok mixed Try.func43 rfl rfl [] (Nat.le_of_ble_eq_true rfl) ?_
  have e : validP p = (withinI p.len 1 2000 && withinI p.left (-200) 200 && withinI p.right (-200) 200 && withinI (w64 (w64 (p.len + p.left) + p.right)) 1 2000) := rfl
  repeat' first | refine CallW.mk' (within_det _ _ _) ?_ | refine Split.t ?_ | refine Split.f ?_ | refine Split.mk (fun _ => ?_) (fun _ => ?_) | refine Need.mk (by kernel_rfl) ?_ | refine Fin.bool ?_
  all_goals
    rw [e]
    clear e
    simp only [*, Bool.and_true, Bool.and_false, Bool.true_and, Bool.false_and]
set_option maxRecDepth 100000 in
theorem turned_det (p : BP) : Det Try.prog 41 [bpD p] (.d (bpD (turnedP p))) := by
  refine det_of_awp TTok mixed Try.func41 rfl rfl [] (Nat.le_of_ble_eq_true rfl) ?_
  repeat' first | refine CallW.mk' (top_det p) ?_ | refine Need.mk (by kernel_rfl) ?_
  exact Fin.rfl'
set_option maxRecDepth 100000 in
theorem rturned_det (p : BP) : Det Try.prog 68 [bpD p] (.d (bpD (turnedP p))) := by
  refine det_of_awp TTok mixed Try.func68 rfl rfl [] (Nat.le_of_ble_eq_true rfl) ?_
  repeat' first | refine Need.mk (by kernel_rfl) ?_
  exact Fin.rfl'
theorem bad_det (p : BP) : Det Try.prog 66 [bpD p] (tbool (!validP p)) := by
  refine det_of_awp TTok mixed Try.func66 rfl rfl [] (Nat.le_of_ble_eq_true rfl) ?_
  refine CallW.mk' (validp_det p) ?_
  exact Fin.rfl'

/-! ### the search in a row -/
/-- The first place at which b holds, or -1. -/
def firstAt (b : Nat → Bool) : Nat → Nat → Int
  | 0, _ => -1
  | n + 1, i => bif b i then (i : Int) else firstAt b n (i + 1)
theorem firstAt_nonneg (b : Nat → Bool) : ∀ (n i : Nat), firstAt b n i ≥ 0 ↔ ∃ k, k < n ∧ b (i + k) = true
  | 0, i => by simp [firstAt]
  | n + 1, i => by
    simp only [firstAt]
    cases h : b i with
    | true =>
      simp only [cond_true]
      exact ⟨fun _ => ⟨0, by omega, h⟩, fun _ => by omega⟩
    | false =>
      simp only [cond_false]
      rw [firstAt_nonneg b n (i + 1)]
      constructor
      · rintro ⟨k, h1, h2⟩
        exact ⟨k + 1, by omega, by rw [← h2]; congr 1; omega⟩
      · rintro ⟨k, h1, h2⟩
        cases k with
        | zero => rw [Nat.add_zero, h] at h2; cases h2
        | succ k => exact ⟨k, by omega, by rw [← h2]; congr 1; omega⟩
theorem index_det (n : Nat) (R : Nat → BP) (hn : n ≤ maxLen) (f q : Nat) (cap : Nat → SV) (b : Nat → Bool) (hf : ∀ i, i < n → Det Try.prog f ([bpD (R i)] ++ capsL q cap) (tbool (b i))) :
    Det Try.prog 71 [.one (rowS n R), .one (.fn f q cap)] (tint (firstAt b n 0)) := by
  have hm : (n : Int) < 9223372036854775808 := by simp only [maxLen] at hn; omega
  refine det_of_awp TTok mixed Try.func71 rfl rfl [] (Nat.le_of_ble_eq_true rfl) ?_
  refine Loop.by (α := Nat) (fun k => [(0, .d (.one (rowS n R))), (1, .d (.one (.fn f q cap))), (7, tint n), (8, tint k)]) (fun _ => []) (fun k => k ≤ n ∧ firstAt b (n - k) k = firstAt b n 0) (fun k => n - k)
    (Adj.at 0 ⟨Nat.zero_le _, rfl⟩ .nil (.cons .same (.cons .same (.cons .same (.cons .same .nil))))) (fun k hi => ?_)
  obtain ⟨hk, hi⟩ := hi
  refine Split.mk (fun h3 => ?_) (fun h3 => ?_)
  · have hlt : k < n := by have := of_decide_eq_true h3; omega
    have hw64 : IntKind.i64.wrap ((k : Int) + 1) = ((k + 1 : Nat) : Int) := (w64_id ⟨by omega, by omega⟩).trans (by omega)
    obtain ⟨m, hm'⟩ : ∃ m, n - k = m + 1 := ⟨n - k - 1, by omega⟩
    rw [hm'] at hi
    simp only [firstAt] at hi
    refine Need.mk (by omega) ?_
    refine CallW.bool (hf k hlt) (fun c hc => ?_)
    refine Split.mk (fun h4 => ?_) (fun h4 => ?_)
    · refine Fin.int ?_
      rw [← hi, ← hc, h4]
      rfl
    · refine Adj.back (x := k) (k + 1) ⟨hlt, ?_⟩ (by omega) .nil (.cons .same (.cons .same (.cons .same (.cons (SlotLe.int hw64) .nil))))
      rw [← hc, h4] at hi
      rw [show n - (k + 1) = m by omega]
      exact hi
  · have e : k = n := by have := of_decide_eq_false h3; omega
    subst e
    refine Fin.int ?_
    rw [← hi, Nat.sub_self]
    rfl
def anyB (b : Nat → Bool) (n : Nat) : Bool := decide (firstAt b n 0 ≥ 0)
theorem contains_det (n : Nat) (R : Nat → BP) (hn : n ≤ maxLen) (f q : Nat) (cap : Nat → SV) (b : Nat → Bool) (hf : ∀ i, i < n → Det Try.prog f ([bpD (R i)] ++ capsL q cap) (tbool (b i))) :
    Det Try.prog 48 [.one (rowS n R), .one (.fn f q cap)] (tbool (anyB b n)) := by
  refine det_of_awp TTok mixed Try.func48 rfl rfl [] (Nat.le_of_ble_eq_true rfl) ?_
  refine CallW.mk' (index_det n R hn f q cap b hf) ?_
  exact Fin.rfl'
end Go.Vm
