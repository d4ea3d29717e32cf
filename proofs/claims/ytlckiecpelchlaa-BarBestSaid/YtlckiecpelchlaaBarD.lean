/-
  Layer 26: contracts of a row's cuts, of two parts' gap, of the statements' guards.
-/
import Derived.Test.YtlckiecpelchlaaBarC
namespace Go.Vm
set_option maxRecDepth 20000
set_option linter.unusedVariables false
set_option linter.unusedSimpArgs false
open Go Go.RowKit Go.Proofs

def cutI (R : Nat → BP) : Nat → Int
  | 0 => 2
  | k + 1 => if k = 0 then 2 else if (R (k - 1)).right = ng (R k).left then w64 (cutI R k + 1) else w64 (w64 (cutI R k + 1) + 1)
abbrev cutsT (n : Nat) (R : Nat → BP) : TV := intErr (if n = 0 then 0 else cutI R n) (errI n R 0)
theorem cuts_det (n : Nat) (R : Nat → BP) (hn : n ≤ maxLen) : Det Try.prog 36 [.one (rowS n R)] (cutsT n R) := by
  refine det_of_awp TTok mixed Try.func36 rfl rfl [] (Nat.le_of_ble_eq_true rfl) ?_
  refine CallW.int (check_det n R 0 hn) (fun e he => ?_)
  unfold cutsT
  rw [← he]
  refine Split.mk (fun h => ?_) (fun h => ?_)
  · repeat refine Split.t ?_
    refine Fin.eq ?_
    have : e ≠ 0 := by simpa using h
    simp only [intErr, if_neg this]
  · have h0 : e = 0 := by simpa using h
    have h40 : n ≤ 40 := errI_le (he ▸ h0)
    repeat refine Split.f ?_
    refine Split.mk (fun h1 => ?_) (fun h1 => ?_)
    · have hz : n = 0 := by simpa using h1
      refine Fin.eq ?_
      subst h0 hz
      rfl
    · have hz : n ≠ 0 := by simpa using h1
      refine Loop.by (α := Nat) (fun k => [(0, .d (.one (rowS n R))), (5, tint (cutI R (k + 1))), (6, tint (k + 1 : Nat))]) (fun _ => []) (fun k => k + 1 ≤ n) (fun k => n - k)
        (Adj.at 0 (by omega) .nil (.cons .same (.cons .same (.cons .same .nil)))) (fun k hk => ?_)
      refine Split.mk (fun h3 => ?_) (fun h3 => ?_)
      · have hlt : k + 1 < n := by have := of_decide_eq_true h3; omega
        have hw64 : IntKind.i64.wrap (((k + 1 : Nat) : Int) + 1) = ((k + 1 + 1 : Nat) : Int) := (w64_id ⟨by omega, by omega⟩).trans (by omega)
        have hw : IntKind.i64.wrap (((k + 1 : Nat) : Int) - 1) = (k : Int) := (w64_id ⟨by omega, by omega⟩).trans (by omega)
        refine Need.mk (by rw [hw]; omega) ?_
        refine Need.mk (by omega) ?_
        refine Need.mk (by kernel_rfl) ?_
        have hc : cutI R (k + 1 + 1) = if (R (IntKind.i64.wrap (((k + 1 : Nat) : Int) - 1)).toNat).right = ng (R (k + 1)).left then w64 (cutI R (k + 1) + 1) else w64 (w64 (cutI R (k + 1) + 1) + 1) := by
          rw [hw, Int.toNat_natCast]
          rfl
        refine Split.mk (fun h4 => ?_) (fun h4 => ?_)
        · refine Adj.back (x := k) (k + 1) hlt (by omega) .nil (.cons .same (.cons (SlotLe.int ?_) (.cons (SlotLe.int hw64) .nil)))
          rw [hc, if_neg (by simpa [ng, w64] using h4)]
        · refine Adj.back (x := k) (k + 1) hlt (by omega) .nil (.cons .same (.cons (SlotLe.int ?_) (.cons (SlotLe.int hw64) .nil)))
          rw [hc, if_pos (by simpa [ng, w64] using h4)]
      · have e1 : n = k + 1 := by have := of_decide_eq_false h3; omega
        refine Fin.eq ?_
        subst h0 e1
        rfl

def okFrom (R : Nat → BP) : Nat → Nat → Bool
  | 0, _ => true
  | m + 1, i => validP (R i) && okFrom R m (i + 1)
def smallB (n : Nat) (R : Nat → BP) (kerf : Int) : Bool := okFrom R n 0 && decide ((n : Int) ≤ 40) && decide (kerf ≥ 0) && decide (kerf ≤ 100)
theorem gap2_det (p q : BP) (kerf : Int) : Det Try.prog 35 [bpD p, bpD q, .one (i64 kerf)] (intErr (gapI p q kerf) (errI 2 (fun i => match i with | 0 => p | _ => q) kerf)) := by
  refine det_of_awp TTok mixed Try.func35 rfl rfl [] (Nat.le_of_ble_eq_true rfl) ?_
  generalize he : errI 2 (fun i => match i with | 0 => p | _ => q) kerf = e
  refine CallW.le (he ▸ check_det 2 (fun i => match i with | 0 => p | _ => q) kerf (by decide)) (.cons (DLe.one (SLe.sl ?_)) (.cons (DLe.refl _) .nil)) ?_
  · intro i hi j hj
    replace hi : i < 2 := hi
    replace hj : j < 5 := hj
    rcases i with _ | _ | i <;> rcases j with _ | _ | _ | _ | _ | j <;> first | exact SLe.refl _ | omega
  refine Split.mk (fun h => ?_) (fun h => ?_)
  · refine Fin.eq ?_
    have : e ≠ 0 := by simpa using h
    simp only [intErr, if_neg this]
  · have h0 : e = 0 := by simpa using h
    refine CallW.mk' (gap_det p q kerf) ?_
    refine Fin.eq ?_
    subst h0
    rfl
end Go.Vm
