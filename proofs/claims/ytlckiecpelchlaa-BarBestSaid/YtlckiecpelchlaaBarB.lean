/-
  Layer 26: contracts of the functions on a row.
-/
import Derived.Test.YtlckiecpelchlaaBarA
namespace Go.Vm
set_option maxRecDepth 20000
set_option linter.unusedVariables false
set_option linter.unusedSimpArgs false
open Go Go.RowKit Go.Proofs

def maxI (x y : Int) : Int := if y > x then y else x
def gapI (p q : BP) (kerf : Int) : Int := w64 (kerf + maxI 0 (w64 (p.right + q.left)))
def extLo (p : BP) (a : Int) : Int := w64 (a - maxI 0 p.left)
def extHi (p : BP) (a : Int) : Int := w64 (w64 (a + p.len) + maxI 0 p.right)
def placeI (R : Nat → BP) (kerf : Int) : Nat → Int
  | 0 => maxI 0 (R 0).left
  | i + 1 => w64 (w64 (placeI R kerf i + (R i).len) + gapI (R i) (R (i + 1)) kerf)
def badB (R : Nat → BP) (n : Nat) : Bool := anyB (fun i => !validP (R i)) n
def errI (n : Nat) (R : Nat → BP) (kerf : Int) : Int := if kerf < 0 ∨ kerf > 100 ∨ badB R n = true then 1 else if (n : Int) > 40 then 9 else 0
abbrev intS (n : Nat) (X : Nat → Int) : SV := .sl n 1 fun i _ => i64 (X i)

theorem SLe.app {k i : Nat} {x y z : SV} (hi : i < k + 1) (h1 : i < k → SLe x z) (h2 : i = k → SLe y z) : SLe (bif Nat.blt i k then x else y) z := by
  cases h : Nat.blt i k with
  | true => exact h1 (lt_of_blt h)
  | false =>
    refine h2 ?_
    have : ¬ i < k := fun hl => by
      have : Nat.blt i k = true := by rw [Nat.blt_eq]; exact hl
      rw [h] at this; cases this
    omega

theorem check_det (n : Nat) (R : Nat → BP) (kerf : Int) (hn : n ≤ maxLen) : Det Try.prog 38 [.one (rowS n R), .one (i64 kerf)] (tint (errI n R kerf)) := by
  refine det_of_awp TTok mixed Try.func38 rfl rfl [] (Nat.le_of_ble_eq_true rfl) ?_
  repeat' first | refine CallW.bool (contains_det n R hn 66 0 _ (fun i => !validP (R i)) (fun i _ => bad_det (R i))) (fun _ _ => ?_) | refine Split.t ?_ | refine Split.f ?_ | refine Split.mk (fun _ => ?_) (fun _ => ?_) | refine Need.mk (by kernel_rfl) ?_ | refine Fin.int ?_
  all_goals
    simp_all [errI, badB]
    try (intros; omega)
theorem gap_det (p q : BP) (kerf : Int) : Det Try.prog 42 [bpD p, bpD q, .one (i64 kerf)] (tint (gapI p q kerf)) := by
  refine det_of_awp TTok mixed Try.func42 rfl rfl [] (Nat.le_of_ble_eq_true rfl) ?_
  exact Fin.int rfl
theorem extent_det (p : BP) (a : Int) : Det Try.prog 73 [bpD p, .one (i64 a)] (.tup [.one (i64 (extLo p a)), .one (i64 (extHi p a))]) := by
  refine det_of_awp TTok mixed Try.func73 rfl rfl [] (Nat.le_of_ble_eq_true rfl) ?_
  refine Need.mk (by kernel_rfl) ?_
  exact Fin.rfl'
theorem places_det (n : Nat) (R : Nat → BP) (kerf : Int) (hn : n ≤ 1000) : Det Try.prog 72 [.one (rowS n R), .one (i64 kerf)] (.d (.one (intS n (placeI R kerf)))) := by
  refine det_of_awp TTok mixed Try.func72 rfl rfl [] (Nat.le_of_ble_eq_true rfl) ?_
  refine Loop.by (α := Nat) (fun k => [(0, .d (.one (rowS n R))), (1, tint kerf), (8, .d (.one (rowS n R))), (9, tint n), (10, tint k), (5, .hdl 22 0)]) (fun k => [(22, .bld 0 k 1 3 fun i _ => i64 (placeI R kerf i))]) (fun k => k ≤ n) (fun k => n - k)
    (Adj.nil 5 22 1 3 (fun i _ => i64 (placeI R kerf i)) rfl rfl (Adj.at 0 (Nat.zero_le _) (.cons (.bld (fun _ h => absurd h (Nat.not_lt_zero _))) .nil) (.cons .same (.cons .same (.cons .same (.cons .same (.cons .same (.cons (.hdl rfl rfl) .nil)))))))) (fun k hk => ?_)
  refine Split.mk (fun h3 => ?_) (fun h3 => ?_)
  · have hlt : k < n := by have := of_decide_eq_true h3; omega
    have hw64 : IntKind.i64.wrap ((k : Int) + 1) = ((k + 1 : Nat) : Int) := (w64_id ⟨by omega, by omega⟩).trans (by omega)
    refine Need.mk (by omega) ?_
    cases k with
    | zero =>
      refine Split.t ?_
      refine Need.mk ⟨by decide, by decide⟩ ?_
      refine Adj.back (x := 0) 1 hlt (by omega) (.cons (.bld (fun i hi j hj => SLe.app hi (fun h => absurd h (Nat.not_lt_zero _)) (fun h => ?_))) .nil) (.cons .same (.cons .same (.cons .same (.cons .same (.cons (SlotLe.int hw64) (.cons (.hdl rfl rfl) .nil))))))
      obtain rfl : j = 0 := by omega
      subst h
      exact SLe.refl _
    | succ m =>
      have hw : IntKind.i64.wrap (((m + 1 : Nat) : Int) - 1) = (m : Int) := (w64_id ⟨by omega, by omega⟩).trans (by omega)
      refine Split.isF (by simp; omega) ?_
      refine Need.mk (by rw [hw]; omega) ?_
      refine Need.mk (by rw [hw]; omega) ?_
      refine Need.mk (by rw [hw]; omega) ?_
      refine CallW.mk' (gap_det _ _ _) ?_
      refine Need.mk ⟨(show (m + 1 + 1) * 8 ≤ 140737488355328 by omega), by simp only [maxLen]; omega⟩ ?_
      refine Need.mk (by kernel_rfl) ?_
      refine Adj.back (x := m + 1) (m + 2) hlt (by omega) (.cons (.bld (fun i hi j hj => SLe.app hi (fun _ => SLe.refl _) (fun h => ?_))) .nil) (.cons .same (.cons .same (.cons .same (.cons .same (.cons (SlotLe.int hw64) (.cons (.hdl rfl rfl) .nil))))))
      obtain rfl : j = 0 := by omega
      subst h
      rw [Nat.sub_self]
      refine SLe.of_eq ?_
      show i64 (w64 (w64 (placeI R kerf (IntKind.i64.wrap (((m + 1 : Nat) : Int) - 1)).toNat + (R (IntKind.i64.wrap (((m + 1 : Nat) : Int) - 1)).toNat).len) + gapI (R (IntKind.i64.wrap (((m + 1 : Nat) : Int) - 1)).toNat) (R (m + 1)) kerf)) = _
      rw [hw, Int.toNat_natCast]
      rfl
  · have e : k = n := by have := of_decide_eq_false h3; omega
    subst e
    exact Fin.rfl'
end Go.Vm
