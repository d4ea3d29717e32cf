/-
  Layer 8: contracts of Convex, Area2, Same, Few, Reverse, Move of both.
-/
import Derived.Test.YtlckiecpelchlaaRingG
namespace Go.Vm
set_option maxRecDepth 20000
set_option linter.unusedVariables false
set_option linter.unusedSimpArgs false
open Go Go.RowKit Go.Proofs
namespace Sg

theorem turns_eq {l : List V2} (f : Int → Bool) : (allB l.length fun i => f (turnW (gt l i) (nxt l i) (nx2 l i))) = allB l.length fun i => f (turnW (lst l i) (gt l i) (nxt l i)) := by
  rw [Bool.eq_iff_iff, allB_iff, allB_iff]
  constructor
  · intro h i hi
    have := h ((i + l.length - 1) % l.length) (Nat.mod_lt _ (by omega))
    rw [nxt_lst hi, nx2_lst hi] at this
    exact this
  · intro h i hi
    have := h ((i + 1) % l.length) (Nat.mod_lt _ (by omega))
    rw [lst_nxt hi, nxt_nxt] at this
    exact this
def leftB (l : List V2) : Bool := allB l.length fun i => decide (0 < turnW (lst l i) (gt l i) (nxt l i))
def convexR (l : List V2) : Bool := leftB l && validR l
def area2R (l : List V2) : Int := if validR l = true then areaW l else 0
/-! ### Same -/
theorem list_ext {a b : List V2} (hl : a.length = b.length) (h : ∀ i, i < a.length → gt a i = gt b i) : a = b := by
  refine List.ext_getElem hl (fun i h1 h2 => ?_)
  have := h i h1
  simpa [gt, List.getD, h1, h2] using this
theorem rsame6_det (a b : List V2) (ha : a.length ≤ 40000) : Det Try.prog 23 [.one (vlS a), .one (vlS b)] (tbool (decide (a = b))) := by
  refine det_of_awp TTok mixed Try.func23 rfl rfl [] (Nat.le_of_ble_eq_true rfl) ?_
  refine Split.mk (fun h => ?_) (fun h => ?_)
  · refine Fin.bool ?_
    have : a.length ≠ b.length := by
      have : (a.length : Int) ≠ b.length := by simpa using h
      omega
    exact (decide_eq_false (fun e => this (by rw [e]))).symm
  have hlen : a.length = b.length := by
    have : (a.length : Int) = b.length := by simpa using h
    omega
  refine Loop.by (α := Nat) (fun k => [(0, .d (.one (vlS a))), (1, .d (.one (vlS b))), (5, tint k)]) (fun _ => []) (fun k => k ≤ a.length ∧ ∀ i, i < k → gt a i = gt b i) (fun k => a.length - k)
    (Adj.at 0 ⟨Nat.zero_le _, fun _ h => absurd h (Nat.not_lt_zero _)⟩ .nil (.cons .same (.cons .same (.cons .same .nil)))) (fun k hk => ?_)
  obtain ⟨hk, hall⟩ := hk
  refine Split.mk (fun h => ?_) (fun h => ?_)
  · have hlt : k < a.length := by have := of_decide_eq_true h; omega
    refine Need.mk (by omega) ?_
    refine Need.mk (by omega) ?_
    refine EqW.v (gt a k) (gt b k) (fun q hq => ?_)
    refine Need.mk (by kernel_rfl) ?_
    refine Split.mk (fun h1 => ?_) (fun h1 => ?_)
    · refine Fin.bool ?_
      refine (decide_eq_false (fun e => ?_)).symm
      have : q = true := hq.2 (by rw [e])
      rw [this] at h1; cases h1
    · refine Adj.back (x := k) (k + 1) ⟨by omega, fun i hi => ?_⟩ (by omega) .nil (.cons .same (.cons .same (.cons (SlotLe.int ?_) .nil)))
      · rcases Nat.lt_succ_iff_lt_or_eq.1 hi with hi | rfl
        · exact hall i hi
        · exact hq.1 (by simpa using h1)
      · rw [hw _ (by omega) (by omega)]; omega
  · have he : k = a.length := by have := of_decide_eq_false h; omega
    subst he
    refine Fin.bool ?_
    exact (decide_eq_true (list_ext hlen hall)).symm
/-- The element behind the k first ones. -/
theorem vG_at (E : List V2) (s : V2) (k i j : Nat) (hi : i < k + 1) (hj : j < 2) (hs : s = E.getD k ⟨0, 0⟩) : SLe (bif Nat.blt i k then vG E i j else (vL s).getD ((i - k) * 2 + j) (.v Go.undef)) (vG E i j) := by
  refine SLe.bif (fun _ => SLe.refl _) (fun h => ?_)
  have e : i = k := by omega
  subst e
  subst hs
  rw [Nat.sub_self, Nat.zero_mul, Nat.zero_add]
  match j, hj with
  | 0, _ => exact SLe.refl _
  | 1, _ => exact SLe.refl _

/-! ### Reverse -/
theorem rreverse_det (l : List V2) (hl : l.length ≤ 40000) : Det Try.prog 92 [.one (vlS l)] (.d (.one (vlS l.reverse))) := by
  refine det_of_awp TTok mixed Try.func92 rfl rfl [] (Nat.le_of_ble_eq_true rfl) ?_
  refine Loop.by (α := Nat) (fun k => [(0, .d (.one (vlS l))), (4, tint ((l.length : Int) - 1 - k)), (3, .hdl 18 0)]) (fun k => [(18, .bld 0 k 2 43 (vG l.reverse))]) (fun k => k ≤ l.length) (fun k => l.length - k)
    (Adj.nil 3 18 2 43 (vG l.reverse) rfl rfl (Adj.at 0 (Nat.zero_le _) (.cons (.bld (fun _ h => absurd h (Nat.not_lt_zero _))) .nil) (.cons .same (.cons (SlotLe.int (by rw [hw _ (by omega) (by omega)]; omega)) (.cons (.hdl rfl rfl) .nil))))) (fun k hk => ?_)
  refine Split.mk (fun h => ?_) (fun h => ?_)
  · have hlt : k < l.length := by have := of_decide_eq_true h; omega
    have e1 : ((l.length : Int) - 1 - k).toNat = l.length - 1 - k := by omega
    refine Need.mk (by omega) ?_
    refine Need.mk (needApp (by omega) (by decide)) ?_
    refine Adj.back (x := k) (k + 1) (by omega) (by omega) (.cons (.bld (fun i hi j hj => ?_)) .nil) (.cons .same (.cons (SlotLe.int ?_) (.cons (.hdl rfl rfl) .nil)))
    · exact vG_at l.reverse (gt l ((l.length : Int) - 1 - k).toNat) k i j hi hj (by rw [getD_reverse _ _ hlt, e1])
    · rw [hw _ (by omega) (by omega)]; omega
  · have he : k = l.length := by have := of_decide_eq_false h; omega
    refine Fin.one ?_
    exact SLe.slN (by rw [List.length_reverse, he]) (fun i hi j hj => SLe.refl _)

/-! ### Move -/
theorem add_det (a b : V2) : Det Try.prog 34 [vD a, vD b] (.d (vD (addW a b))) := by
  refine det_of_awp TTok mixed Try.func34 rfl rfl [] (Nat.le_of_ble_eq_true rfl) ?_
  exact Fin.rfl'
theorem vadd_det (a b : V2) : Det Try.prog 53 [vD a, vD b] (.d (vD (addW a b))) := by
  refine det_of_awp TTok mixed Try.func53 rfl rfl [] (Nat.le_of_ble_eq_true rfl) ?_
  exact Fin.rfl'
def movL (l : List V2) (v : V2) : List V2 := l.map fun u => addW u v
theorem movL_len (l : List V2) (v : V2) : (movL l v).length = l.length := by simp [movL]
theorem movL_at (l : List V2) (v : V2) (i : Nat) (hi : i < l.length) : (movL l v).getD i ⟨0, 0⟩ = addW (gt l i) v := by simp [movL, gt, List.getD, hi]
/-- A ring, or the number of an error. -/
abbrev ringE (l : List V2) (e : Int) : TV := .tup [.one (vlS l), .one (i64 e)]
def movR (l : List V2) (v : V2) : List V2 × Int := if validR l = false then ([], 11) else if withinV v 4000 = false then ([], 2) else if nearR (movL l v) = false then ([], 2) else (movL l v, 0)
theorem Fin.ringE {l l' : List V2} {e e' : Int} (h : l = l') (k : e = e') : Fin (ringE l e) (ringE l' e') := by subst h k; exact Fin.rfl'
theorem Fin.ringN {l' : List V2} {e e' : Int} (h : [] = l') (k : e = e') : Fin (.tup [.one (.v (.slice none 0 0)), .one (i64 e)]) (Sg.ringE l' e') := by
  subst h k
  exact Fin.tup (.cons (DLe.one (SLe.nil _ _)) (.cons (DLe.refl _) .nil))
end Sg
end Go.Vm
