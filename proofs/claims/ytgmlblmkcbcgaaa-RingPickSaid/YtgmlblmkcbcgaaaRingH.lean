/-
  Layer 8: contracts of Convex, Area2, Same, Few, Reverse, Move of both.
-/
import Derived.Test.YtgmlblmkcbcgaaaRingG
namespace Go.Vm
set_option maxRecDepth 20000
set_option linter.unusedVariables false
set_option linter.unusedSimpArgs false
open Go Go.RowKit Go.Proofs
namespace Sg

theorem turns_eq {l : List V2} (f : Int → Bool) : (allB l.length fun i => f (turnW (gt l i) (nxt l i) (nx2 l i))) = allB l.length fun i => f (turnW (lst l i) (gt l i) (nxt l i)) := by
  rw [Bool.eq_iff_iff, allB_iff, allB_iff]
  constructor
  · intro h i hi
    have := h ((i + l.length - 1) % l.length) (Nat.mod_lt _ (by omega))
    rw [nxt_lst hi, nx2_lst hi] at this
    exact this
  · intro h i hi
    have := h ((i + 1) % l.length) (Nat.mod_lt _ (by omega))
    rw [lst_nxt hi, nxt_nxt] at this
    exact this
def leftB (l : List V2) : Bool := allB l.length fun i => decide (0 < turnW (lst l i) (gt l i) (nxt l i))
def convexR (l : List V2) : Bool := leftB l && validR l
theorem convex_det (l : List V2) (hl : l.length ≤ 40000) : Det Try.prog 42 [.one (vlS l)] (tbool (convexR l)) := by
  refine det_of_awp TTok mixed Try.func42 rfl rfl [] (Nat.le_of_ble_eq_true rfl) ?_
  refine Loop.by (α := Nat) (fun k => [(0, .d (.one (vlS l))), (5, .d (.one (vlS l))), (6, tint l.length), (7, tint k)]) (fun _ => []) (fun k => k ≤ l.length ∧ ∀ i, i < k → 0 < turnW (lst l i) (gt l i) (nxt l i)) (fun k => l.length - k)
    (Adj.at 0 ⟨Nat.zero_le _, fun _ h => absurd h (Nat.not_lt_zero _)⟩ .nil (.cons .same (.cons .same (.cons .same (.cons .same .nil))))) (fun k hk => ?_)
  obtain ⟨hk, hall⟩ := hk
  refine Split.mk (fun h => ?_) (fun h => ?_)
  · have hlt : k < l.length := by have := of_decide_eq_true h; omega
    refine Need.mk (by omega) ?_
    refine CallW.v (last_det l k hlt hl) (fun u hu => ?_)
    refine CallW.v (next_det l k hlt hl) (fun v hv => ?_)
    refine CallW.int (vturn_det u (gt l k) v) (fun c hc => ?_)
    rw [hu, hv] at hc
    refine Need.mk (by kernel_rfl) ?_
    refine Split.mk (fun h1 => ?_) (fun h1 => ?_)
    · refine Fin.bool ?_
      have hz : ¬ 0 < turnW (lst l k) (gt l k) (nxt l k) := by rw [← hc]; have := of_decide_eq_true h1; omega
      rw [convexR, leftB, allB_false k hlt (decide_eq_false hz), Bool.false_and]
    · refine Adj.back (x := k) (k + 1) ⟨by omega, fun i hi => ?_⟩ (by omega) .nil (.cons .same (.cons .same (.cons .same (.cons (SlotLe.int ?_) .nil))))
      · rcases Nat.lt_succ_iff_lt_or_eq.1 hi with hi | rfl
        · exact hall i hi
        · rw [← hc]; have := of_decide_eq_false h1; omega
      · rw [hw _ (by omega) (by omega)]; omega
  · have he : k = l.length := by have := of_decide_eq_false h; omega
    subst he
    refine CallW.bool (valid_det' l hl) (fun b hb => ?_)
    refine Fin.bool ?_
    rw [convexR, leftB, allB_iff.2 (fun i hi => by simpa using hall i hi), hb, Bool.true_and]
theorem rconvex_det (l : List V2) (hl : l.length ≤ 40000) : Det Try.prog 21 [.one (vlS l)] (tbool (convexR l)) := by
  refine det_of_awp TTok mixed Try.func21 rfl rfl [] (Nat.le_of_ble_eq_true rfl) ?_
  have hcv : convexR l = ((allB l.length fun i => decide (0 < turnW (gt l i) (nxt l i) (nx2 l i))) && validR l) := by
    rw [convexR, leftB, turns_eq (fun x => decide (0 < x))]
  refine CallW.bool (rvalid_det8 l hl) (fun b hb => ?_)
  refine Split.mk (fun h => ?_) (fun h => ?_)
  · have hv : validR l = false := by rw [← hb]; simpa using h
    refine Fin.bool ?_
    rw [convexR, hv, Bool.and_false]
  have hv : validR l = true := by rw [← hb]; simpa using h
  rw [hcv, hv, Bool.and_true]
  refine Loop.by (α := Nat) (fun k => [(0, .d (.one (vlS l))), (3, tint l.length), (4, tint k)]) (fun _ => []) (fun k => k ≤ l.length ∧ ∀ i, i < k → 0 < turnW (gt l i) (nxt l i) (nx2 l i)) (fun k => l.length - k)
    (Adj.at 0 ⟨Nat.zero_le _, fun _ h => absurd h (Nat.not_lt_zero _)⟩ .nil (.cons .same (.cons .same (.cons .same .nil)))) (fun k hk => ?_)
  obtain ⟨hk, hall⟩ := hk
  refine Split.mk (fun h => ?_) (fun h => ?_)
  · have hlt : k < l.length := by have := of_decide_eq_true h; omega
    have e1 := natw k 1 (by omega) (by omega)
    have e2 := natw k 2 (by omega) (by omega)
    have b1 := tmodB (k + 1) l.length (by omega)
    have b2 := tmodB (k + 2) l.length (by omega)
    refine Need.mk (by omega) ?_
    refine Need.mk (by omega) ?_
    refine Need.mk (by rw [show (1 : Int) = (1 : Nat) from rfl, e1]; exact b1) ?_
    refine Need.mk (by omega) ?_
    refine Need.mk (by rw [show (2 : Int) = (2 : Nat) from rfl, e2]; exact b2) ?_
    refine CallW.int (turn_det (gt l k) (gt l (Int.toNat ((IntKind.i64.wrap ((k : Int) + (1 : Nat))).tmod l.length))) (gt l (Int.toNat ((IntKind.i64.wrap ((k : Int) + (2 : Nat))).tmod l.length)))) (fun c hc => ?_)
    rw [e1, e2, tmodN, tmodN] at hc
    replace hc : c = turnW (gt l k) (nxt l k) (nx2 l k) := hc
    refine Need.mk (by kernel_rfl) ?_
    refine Split.mk (fun h1 => ?_) (fun h1 => ?_)
    · refine Fin.bool ?_
      have hz : ¬ 0 < turnW (gt l k) (nxt l k) (nx2 l k) := by rw [← hc]; have := of_decide_eq_true h1; omega
      rw [allB_false k hlt (decide_eq_false hz)]
    · refine Adj.back (x := k) (k + 1) ⟨by omega, fun i hi => ?_⟩ (by omega) .nil (.cons .same (.cons .same (.cons (SlotLe.int ?_) .nil)))
      · rcases Nat.lt_succ_iff_lt_or_eq.1 hi with hi | rfl
        · exact hall i hi
        · rw [← hc]; have := of_decide_eq_false h1; omega
      · rw [hw _ (by omega) (by omega)]; omega
  · have he : k = l.length := by have := of_decide_eq_false h; omega
    subst he
    refine Fin.bool ?_
    rw [allB_iff.2 (fun i hi => by simpa using hall i hi)]

def area2R (l : List V2) : Int := if validR l = true then areaW l else 0
theorem area2_det (l : List V2) (hl : l.length ≤ 40000) : Det Try.prog 37 [.one (vlS l)] (tint (area2R l)) := by
  refine det_of_awp TTok mixed Try.func37 rfl rfl [] (Nat.le_of_ble_eq_true rfl) ?_
  refine CallW.bool (valid_det' l hl) (fun b hb => ?_)
  refine Split.mk (fun h => ?_) (fun h => ?_)
  · refine Fin.int ?_
    rw [area2R, ← hb, if_neg (by simpa using h)]
  · refine CallW.int (area_det l hl) (fun n hn => ?_)
    refine Fin.int ?_
    rw [area2R, ← hb, if_pos (by simpa using h), hn]
theorem rarea2_det (l : List V2) (hl : l.length ≤ 40000) : Det Try.prog 20 [.one (vlS l)] (tint (area2R l)) := by
  refine det_of_awp TTok mixed Try.func20 rfl rfl [] (Nat.le_of_ble_eq_true rfl) ?_
  refine CallW.bool (rvalid_det8 l hl) (fun b hb => ?_)
  refine Split.mk (fun h => ?_) (fun h => ?_)
  · refine Fin.int ?_
    rw [area2R, ← hb, if_neg (by simpa using h)]
  · refine CallW.int (signed_det l hl) (fun n hn => ?_)
    refine Fin.int ?_
    rw [area2R, ← hb, if_pos (by simpa using h), hn]
theorem few_det (l : List V2) (hl : l.length ≤ maxLen) : Det Try.prog 13 [.one (vlS l)] (tbool (decide (l.length ≤ 60))) := by
  refine det_of_awp TTok mixed Try.func13 rfl rfl [] (Nat.le_of_ble_eq_true rfl) ?_
  refine Fin.bool ?_
  exact decide_eq_decide.2 ⟨fun h => by omega, fun h => by omega⟩

/-! ### Same -/
theorem list_ext {a b : List V2} (hl : a.length = b.length) (h : ∀ i, i < a.length → gt a i = gt b i) : a = b := by
  refine List.ext_getElem hl (fun i h1 h2 => ?_)
  have := h i h1
  simpa [gt, List.getD, h1, h2] using this
theorem equal_det (a b : List V2) (ha : a.length ≤ 40000) : Det Try.prog 80 [.one (vlS a), .one (vlS b)] (tbool (decide (a = b))) := by
  refine det_of_awp TTok mixed Try.func80 rfl rfl [] (Nat.le_of_ble_eq_true rfl) ?_
  refine Split.mk (fun h => ?_) (fun h => ?_)
  · refine Fin.bool ?_
    have : a.length ≠ b.length := by
      have : (a.length : Int) ≠ b.length := by simpa using h
      omega
    exact (decide_eq_false (fun e => this (by rw [e]))).symm
  have hlen : a.length = b.length := by
    have : (a.length : Int) = b.length := by simpa using h
    omega
  refine Loop.by (α := Nat) (fun k => [(0, .d (.one (vlS a))), (1, .d (.one (vlS b))), (12, tint a.length), (13, tint k)]) (fun _ => []) (fun k => k ≤ a.length ∧ ∀ i, i < k → gt a i = gt b i) (fun k => a.length - k)
    (Adj.at 0 ⟨Nat.zero_le _, fun _ h => absurd h (Nat.not_lt_zero _)⟩ .nil (.cons .same (.cons .same (.cons .same (.cons .same .nil))))) (fun k hk => ?_)
  obtain ⟨hk, hall⟩ := hk
  refine Split.mk (fun h => ?_) (fun h => ?_)
  · have hlt : k < a.length := by have := of_decide_eq_true h; omega
    refine Need.mk (by omega) ?_
    refine Need.mk (by omega) ?_
    refine EqW.v (gt a k) (gt b k) (fun q hq => ?_)
    refine Need.mk (by kernel_rfl) ?_
    refine Split.mk (fun h1 => ?_) (fun h1 => ?_)
    · refine Fin.bool ?_
      refine (decide_eq_false (fun e => ?_)).symm
      have : q = true := hq.2 (by rw [e])
      rw [this] at h1; cases h1
    · refine Adj.back (x := k) (k + 1) ⟨by omega, fun i hi => ?_⟩ (by omega) .nil (.cons .same (.cons .same (.cons .same (.cons (SlotLe.int ?_) .nil))))
      · rcases Nat.lt_succ_iff_lt_or_eq.1 hi with hi | rfl
        · exact hall i hi
        · exact hq.1 (by simpa using h1)
      · rw [hw _ (by omega) (by omega)]; omega
  · have he : k = a.length := by have := of_decide_eq_false h; omega
    subst he
    refine Fin.bool ?_
    exact (decide_eq_true (list_ext hlen hall)).symm
theorem same_det (a b : List V2) (ha : a.length ≤ 40000) : Det Try.prog 35 [.one (vlS a), .one (vlS b)] (tbool (decide (a = b))) := by
  refine det_of_awp TTok mixed Try.func35 rfl rfl [] (Nat.le_of_ble_eq_true rfl) ?_
  refine CallW.bool (equal_det a b ha) (fun q hq => ?_)
  exact Fin.bool hq
theorem rsame6_det (a b : List V2) (ha : a.length ≤ 40000) : Det Try.prog 55 [.one (vlS a), .one (vlS b)] (tbool (decide (a = b))) := by
  refine det_of_awp TTok mixed Try.func55 rfl rfl [] (Nat.le_of_ble_eq_true rfl) ?_
  refine Split.mk (fun h => ?_) (fun h => ?_)
  · refine Fin.bool ?_
    have : a.length ≠ b.length := by
      have : (a.length : Int) ≠ b.length := by simpa using h
      omega
    exact (decide_eq_false (fun e => this (by rw [e]))).symm
  have hlen : a.length = b.length := by
    have : (a.length : Int) = b.length := by simpa using h
    omega
  refine Loop.by (α := Nat) (fun k => [(0, .d (.one (vlS a))), (1, .d (.one (vlS b))), (5, tint k)]) (fun _ => []) (fun k => k ≤ a.length ∧ ∀ i, i < k → gt a i = gt b i) (fun k => a.length - k)
    (Adj.at 0 ⟨Nat.zero_le _, fun _ h => absurd h (Nat.not_lt_zero _)⟩ .nil (.cons .same (.cons .same (.cons .same .nil)))) (fun k hk => ?_)
  obtain ⟨hk, hall⟩ := hk
  refine Split.mk (fun h => ?_) (fun h => ?_)
  · have hlt : k < a.length := by have := of_decide_eq_true h; omega
    refine Need.mk (by omega) ?_
    refine Need.mk (by omega) ?_
    refine EqW.v (gt a k) (gt b k) (fun q hq => ?_)
    refine Need.mk (by kernel_rfl) ?_
    refine Split.mk (fun h1 => ?_) (fun h1 => ?_)
    · refine Fin.bool ?_
      refine (decide_eq_false (fun e => ?_)).symm
      have : q = true := hq.2 (by rw [e])
      rw [this] at h1; cases h1
    · refine Adj.back (x := k) (k + 1) ⟨by omega, fun i hi => ?_⟩ (by omega) .nil (.cons .same (.cons .same (.cons (SlotLe.int ?_) .nil)))
      · rcases Nat.lt_succ_iff_lt_or_eq.1 hi with hi | rfl
        · exact hall i hi
        · exact hq.1 (by simpa using h1)
      · rw [hw _ (by omega) (by omega)]; omega
  · have he : k = a.length := by have := of_decide_eq_false h; omega
    subst he
    refine Fin.bool ?_
    exact (decide_eq_true (list_ext hlen hall)).symm
theorem rsame_det (a b : List V2) (ha : a.length ≤ 40000) : Det Try.prog 16 [.one (vlS a), .one (vlS b)] (tbool (decide (a = b))) := by
  refine det_of_awp TTok mixed Try.func16 rfl rfl [] (Nat.le_of_ble_eq_true rfl) ?_
  refine CallW.bool (rsame6_det a b ha) (fun q hq => ?_)
  exact Fin.bool hq

/-- The element behind the k first ones. -/
theorem vG_at (E : List V2) (s : V2) (k i j : Nat) (hi : i < k + 1) (hj : j < 2) (hs : s = E.getD k ⟨0, 0⟩) : SLe (bif Nat.blt i k then vG E i j else (vL s).getD ((i - k) * 2 + j) (.v Go.undef)) (vG E i j) := by
  refine SLe.bif (fun _ => SLe.refl _) (fun h => ?_)
  have e : i = k := by omega
  subst e
  subst hs
  rw [Nat.sub_self, Nat.zero_mul, Nat.zero_add]
  match j, hj with
  | 0, _ => exact SLe.refl _
  | 1, _ => exact SLe.refl _

/-! ### Reverse -/
theorem rreverse_det (l : List V2) (hl : l.length ≤ 40000) : Det Try.prog 53 [.one (vlS l)] (.d (.one (vlS l.reverse))) := by
  refine det_of_awp TTok mixed Try.func53 rfl rfl [] (Nat.le_of_ble_eq_true rfl) ?_
  refine Loop.by (α := Nat) (fun k => [(0, .d (.one (vlS l))), (4, tint ((l.length : Int) - 1 - k)), (3, .hdl 18 0)]) (fun k => [(18, .bld 0 k 2 32 (vG l.reverse))]) (fun k => k ≤ l.length) (fun k => l.length - k)
    (Adj.nil 3 18 2 32 (vG l.reverse) rfl rfl (Adj.at 0 (Nat.zero_le _) (.cons (.bld (fun _ h => absurd h (Nat.not_lt_zero _))) .nil) (.cons .same (.cons (SlotLe.int (by rw [hw _ (by omega) (by omega)]; omega)) (.cons (.hdl rfl rfl) .nil))))) (fun k hk => ?_)
  refine Split.mk (fun h => ?_) (fun h => ?_)
  · have hlt : k < l.length := by have := of_decide_eq_true h; omega
    have e1 : ((l.length : Int) - 1 - k).toNat = l.length - 1 - k := by omega
    refine Need.mk (by omega) ?_
    refine Need.mk (needApp (by omega) (by decide)) ?_
    refine Adj.back (x := k) (k + 1) (by omega) (by omega) (.cons (.bld (fun i hi j hj => ?_)) .nil) (.cons .same (.cons (SlotLe.int ?_) (.cons (.hdl rfl rfl) .nil)))
    · exact vG_at l.reverse (gt l ((l.length : Int) - 1 - k).toNat) k i j hi hj (by rw [getD_reverse _ _ hlt, e1])
    · rw [hw _ (by omega) (by omega)]; omega
  · have he : k = l.length := by have := of_decide_eq_false h; omega
    refine Fin.one ?_
    exact SLe.slN (by rw [List.length_reverse, he]) (fun i hi j hj => SLe.refl _)

theorem reverse_det (l : List V2) (hl : l.length ≤ 40000) : Det Try.prog 43 [.one (vlS l)] (.d (.one (vlS l.reverse))) := by
  refine det_of_awp TTok mixed Try.func43 rfl rfl [90 + 2000000, 50 + 2000000] (Nat.le_of_ble_eq_true rfl) ?_
  refine CallM.mk' [] (cloneR_detM l (by omega)) ⟨.nil, .cons (.d (DLe.refl _)) .nil, rfl, rfl, fun _ => rfl⟩ ?_
  refine CallM.mk' [5] (reverse_detM l (by omega)) ⟨.cons (.bld (fun _ _ _ _ => SLe.refl _)) .nil, .cons (.hdl rfl rfl) .nil, rfl, rfl, fun h => absurd rfl h⟩ ?_
  refine Fin.one ?_
  exact SLe.slN (by simp) (fun i hi j hj => SLe.refl _)

/-! ### Move -/
theorem add_det (a b : V2) : Det Try.prog 46 [vD a, vD b] (.d (vD (addW a b))) := by
  refine det_of_awp TTok mixed Try.func46 rfl rfl [] (Nat.le_of_ble_eq_true rfl) ?_
  exact Fin.rfl'
theorem vadd_det (a b : V2) : Det Try.prog 91 [vD a, vD b] (.d (vD (addW a b))) := by
  refine det_of_awp TTok mixed Try.func91 rfl rfl [] (Nat.le_of_ble_eq_true rfl) ?_
  exact Fin.rfl'
def movL (l : List V2) (v : V2) : List V2 := l.map fun u => addW u v
theorem movL_len (l : List V2) (v : V2) : (movL l v).length = l.length := by simp [movL]
theorem movL_at (l : List V2) (v : V2) (i : Nat) (hi : i < l.length) : (movL l v).getD i ⟨0, 0⟩ = addW (gt l i) v := by simp [movL, gt, List.getD, hi]
/-- A ring, or the number of an error. -/
abbrev ringE (l : List V2) (e : Int) : TV := .tup [.one (vlS l), .one (i64 e)]
def movR (l : List V2) (v : V2) : List V2 × Int := if validR l = false then ([], 11) else if withinV v 4000 = false then ([], 2) else if nearR (movL l v) = false then ([], 2) else (movL l v, 0)
theorem Fin.ringE {l l' : List V2} {e e' : Int} (h : l = l') (k : e = e') : Fin (ringE l e) (ringE l' e') := by subst h k; exact Fin.rfl'
theorem Fin.ringN {l' : List V2} {e e' : Int} (h : [] = l') (k : e = e') : Fin (.tup [.one (.v (.slice none 0 0)), .one (i64 e)]) (Sg.ringE l' e') := by
  subst h k
  exact Fin.tup (.cons (DLe.one (SLe.nil _ _)) (.cons (DLe.refl _) .nil))
theorem move_det (l : List V2) (v : V2) (hl : l.length ≤ 40000) : Det Try.prog 44 [.one (vlS l), vD v] (ringE (movR l v).1 (movR l v).2) := by
  refine det_of_awp TTok mixed Try.func44 rfl rfl [] (Nat.le_of_ble_eq_true rfl) ?_
  refine CallW.bool (valid_det' l hl) (fun b hb => ?_)
  refine Split.mk (fun h => ?_) (fun h => ?_)
  · have hv : validR l = false := by rw [← hb]; simpa using h
    refine Fin.ringN ?_ ?_ <;> simp [movR, hv]
  have hv : validR l = true := by rw [← hb]; simpa using h
  refine CallW.bool (vwithin_det v 4000) (fun c hc => ?_)
  refine Split.mk (fun h => ?_) (fun h => ?_)
  · have hw : withinV v 4000 = false := by rw [← hc]; simpa using h
    refine Fin.ringN ?_ ?_ <;> simp [movR, hv, hw]
  have hwv : withinV v 4000 = true := by rw [← hc]; simpa using h
  refine Loop.by (α := Nat) (fun k => [(3, .ptr 3 0), (15, .d (.one (vlS l))), (16, tint l.length), (17, tint k), (6, .hdl 26 0)]) (fun k => [(3, .box (vL v)), (26, .bld 0 k 2 32 (vG (movL l v)))]) (fun k => k ≤ l.length) (fun k => l.length - k)
    (Adj.nil 6 26 2 32 (vG (movL l v)) rfl rfl (Adj.at 0 (Nat.zero_le _) (.cons (.box (LLe.of_eq rfl)) (.cons (.bld (fun _ h => absurd h (Nat.not_lt_zero _))) .nil)) (.cons (.box rfl rfl) (.cons .same (.cons .same (.cons .same (.cons (.hdl rfl rfl) .nil))))))) (fun k hk => ?_)
  refine Split.mk (fun h => ?_) (fun h => ?_)
  · have hlt : k < l.length := by have := of_decide_eq_true h; omega
    refine Need.mk (by omega) ?_
    refine CallW.v (vadd_det (gt l k) v) (fun u hu => ?_)
    refine Need.mk (needApp (by omega) (by decide)) ?_
    refine Adj.back (x := k) (k + 1) (by omega) (by omega) (.cons (.box (LLe.of_eq rfl)) (.cons (.bld (fun i hi j hj => vG_at (movL l v) u k i j hi hj (by rw [movL_at l v k hlt, hu]))) .nil)) (.cons (.box rfl rfl) (.cons .same (.cons .same (.cons (SlotLe.int ?_) (.cons (.hdl rfl rfl) .nil)))))
    rw [hw _ (by omega) (by omega)]; omega
  · have he : k = l.length := by have := of_decide_eq_false h; omega
    subst he
    have hle : DsLe [.one (.sl l.length 2 (vG (movL l v)))] [.one (vlS (movL l v))] := .cons (DLe.one (SLe.slN (movL_len l v).symm (fun _ _ _ _ => SLe.refl _))) .nil
    refine CallW.bool ((nearl_det (movL l v) (by rw [movL_len]; exact hl)).le hle) (fun d hd => ?_)
    refine Split.mk (fun h => ?_) (fun h => ?_)
    · have hm : nearR (movL l v) = false := by rw [← hd]; simpa using h
      refine Fin.ringN ?_ ?_ <;> simp [movR, hv, hwv, hm]
    · have hm : nearR (movL l v) = true := by rw [← hd]; simpa using h
      have e : movR l v = (movL l v, 0) := by simp [movR, hv, hwv, hm]
      rw [e]
      exact Fin.tup (.cons (DLe.one (SLe.slN (movL_len l v).symm (fun _ _ _ _ => SLe.refl _))) (.cons (DLe.refl _) .nil))
theorem rmove_det (l : List V2) (v : V2) (hl : l.length ≤ 40000) : Det Try.prog 45 [.one (vlS l), vD v] (ringE (movR l v).1 (movR l v).2) := by
  refine det_of_awp TTok mixed Try.func45 rfl rfl [] (Nat.le_of_ble_eq_true rfl) ?_
  refine CallW.bool (rvalid_det8 l hl) (fun b hb => ?_)
  refine Split.mk (fun h => ?_) (fun h => ?_)
  · have hv : validR l = false := by rw [← hb]; simpa using h
    refine Fin.ringN ?_ ?_ <;> simp [movR, hv]
  have hv : validR l = true := by rw [← hb]; simpa using h
  refine CallW.bool (within_det v 4000) (fun c hc => ?_)
  refine Split.mk (fun h => ?_) (fun h => ?_)
  · have hw : withinV v 4000 = false := by rw [← hc]; simpa using h
    refine Fin.ringN ?_ ?_ <;> simp [movR, hv, hw]
  have hwv : withinV v 4000 = true := by rw [← hc]; simpa using h
  refine Loop.by (α := Nat) (fun k => [(0, .d (.one (vlS l))), (3, .ptr 3 0), (7, tint k), (6, .hdl 28 0)]) (fun k => [(3, .box (vL v)), (28, .bld 0 k 2 32 (vG (movL l v)))]) (fun k => k ≤ l.length) (fun k => l.length - k)
    (Adj.nil 6 28 2 32 (vG (movL l v)) rfl rfl (Adj.at 0 (Nat.zero_le _) (.cons (.box (LLe.of_eq rfl)) (.cons (.bld (fun _ h => absurd h (Nat.not_lt_zero _))) .nil)) (.cons .same (.cons (.box rfl rfl) (.cons .same (.cons (.hdl rfl rfl) .nil)))))) (fun k hk => ?_)
  refine Split.mk (fun h => ?_) (fun h => ?_)
  · have hlt : k < l.length := by have := of_decide_eq_true h; omega
    refine Need.mk (by omega) ?_
    refine CallW.v (add_det (gt l k) v) (fun u hu => ?_)
    refine Need.mk (needApp (by omega) (by decide)) ?_
    refine Need.mk (by kernel_rfl) ?_
    refine Adj.back (x := k) (k + 1) (by omega) (by omega) (.cons (.box (LLe.of_eq rfl)) (.cons (.bld (fun i hi j hj => vG_at (movL l v) u k i j hi hj (by rw [movL_at l v k hlt, hu]))) .nil)) (.cons .same (.cons (.box rfl rfl) (.cons (SlotLe.int ?_) (.cons (.hdl rfl rfl) .nil))))
    rw [hw _ (by omega) (by omega)]; omega
  · have he : k = l.length := by have := of_decide_eq_false h; omega
    subst he
    have hle : DsLe [.one (.sl l.length 2 (vG (movL l v)))] [.one (vlS (movL l v))] := .cons (DLe.one (SLe.slN (movL_len l v).symm (fun _ _ _ _ => SLe.refl _))) .nil
    refine CallW.bool ((rwithin_det (movL l v) (by rw [movL_len]; exact hl)).le hle) (fun d hd => ?_)
    refine Split.mk (fun h => ?_) (fun h => ?_)
    · have hm : nearR (movL l v) = false := by rw [← hd]; simpa using h
      refine Fin.ringN ?_ ?_ <;> simp [movR, hv, hwv, hm]
    · have hm : nearR (movL l v) = true := by rw [← hd]; simpa using h
      have e : movR l v = (movL l v, 0) := by simp [movR, hv, hwv, hm]
      rw [e]
      exact Fin.tup (.cons (DLe.one (SLe.slN (movL_len l v).symm (fun _ _ _ _ => SLe.refl _))) (.cons (DLe.refl _) .nil))
end Sg
end Go.Vm
