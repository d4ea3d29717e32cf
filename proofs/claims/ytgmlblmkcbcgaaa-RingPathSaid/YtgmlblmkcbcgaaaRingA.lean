/-
  Layer 8: contracts of the library's functions on slices of vectors.
-/
import Derived.Test.YtgmlblmkcbcgaaaSegN
namespace Go.Vm
set_option maxRecDepth 20000
set_option linter.unusedVariables false
set_option linter.unusedSimpArgs false
open Go Go.RowKit Go.Proofs
namespace Sg

/-- One element is written. -/
theorem SLe.put {i q j n : Nat} {x y z : SV} (hj : j < n) (h1 : i = q → SLe x z) (h2 : i ≠ q → SLe y z) : SLe (bif Nat.beq i q && Nat.ble 0 j && Nat.blt j (0 + n) then x else y) z := by
  by_cases e : i = q
  · have : (Nat.beq i q && Nat.ble 0 j && Nat.blt j (0 + n)) = true := by
      rw [e, Nat.beq_refl, ble_t (Nat.zero_le j), blt_t (by omega)]; rfl
    rw [this]; exact h1 e
  · rw [beq_f e]; exact h2 e
theorem SLe.vget {v : V2} {l : List V2} {p j : Nat} (hj : j < 2) (h : v = l.getD p ⟨0, 0⟩) : SLe ([i64 v.x, i64 v.y].getD (j - 0) (.v Go.undef)) (vG l p j) := by
  subst h
  match j, hj with
  | 0, _ => exact SLe.refl _
  | 1, _ => exact SLe.refl _

/-! ### Reverse -/
/-- The list with k pairs exchanged. -/
def revL (l : List V2) (k : Nat) : List V2 := (List.range l.length).map fun p => if p < k ∨ l.length - k ≤ p then l.getD (l.length - 1 - p) ⟨0, 0⟩ else l.getD p ⟨0, 0⟩
theorem revL_at (l : List V2) (k p : Nat) (h : p < l.length) : (revL l k).getD p ⟨0, 0⟩ = if p < k ∨ l.length - k ≤ p then l.getD (l.length - 1 - p) ⟨0, 0⟩ else l.getD p ⟨0, 0⟩ := by
  simp [revL, List.getD, h]
theorem getD_reverse (l : List V2) (p : Nat) (h : p < l.length) : l.reverse.getD p ⟨0, 0⟩ = l.getD (l.length - 1 - p) ⟨0, 0⟩ := by
  have h2 : l.length - 1 - p < l.length := by omega
  simp [List.getD, List.getElem?_reverse h]
theorem reverse_detM (l : List V2) (hl : l.length ≤ 100000) : DetM Try.prog 50 [.hdl (.n 2000) 1] [.bld 1 l.length 2 32 (vG l)] (.tup []) [.bld 1 l.length 2 32 (vG l.reverse)] .none := by
  refine detM_of_awp TTok mixed Try.func50 rfl rfl [] (Nat.le_of_ble_eq_true rfl) (Nat.le_of_ble_eq_true rfl) (sigM_of rfl) ?_
  have hw : ∀ n : Int, -10 ≤ n → n ≤ 100010 → IntKind.i64.wrap n = n := fun n h1 h2 => wid (by omega) (by omega)
  refine Loop.by (α := Nat) (fun k => [(0, .hdl (.n 2000) 1), (2, tint (k : Int)), (3, tint ((l.length : Int) - 1 - k))]) (fun k => [(.n 2000, .bld 1 l.length 2 32 (vG (revL l k)))]) (fun k => 2 * k ≤ l.length) (fun k => l.length - 2 * k)
    (Adj.at 0 (by omega) (.cons (.bld (fun i hi j hj => SLe.of_eq (vG_eq ?_ j))) .nil) (.cons (.hdl rfl rfl) (.cons .same (.cons (SlotLe.int ?_) .nil)))) (fun k hk => ?_)
  · rw [revL_at _ _ _ hi, if_neg (by omega)]
  · rw [hw _ (by omega) (by omega)]; omega
  refine Split.mk (fun h => ?_) (fun h => ?_)
  · have hlt : (k : Int) < (l.length : Int) - 1 - k := by simpa using h
    refine Need.mk (by omega) ?_
    refine Need.mk (by omega) ?_
    refine Need.mk (by omega) ?_
    refine Need.mk (by omega) ?_
    refine Need.mk (by kernel_rfl) ?_
    refine Adj.back (x := k) (k + 1) (by omega) (by omega) (.cons (.bld (fun i hi j hj => ?_)) .nil) (.cons (.hdl rfl rfl) (.cons (SlotLe.int ?_) (.cons (SlotLe.int ?_) .nil)))
    · have e1 : ((l.length : Int) - 1 - k).toNat = l.length - 1 - k := by omega
      have e2 : ((k : Int)).toNat = k := by omega
      refine SLe.put (by exact hj) (fun e => SLe.vget hj ?_) (fun e => SLe.put (by exact hj) (fun e' => SLe.vget hj ?_) (fun e' => SLe.of_eq (vG_eq ?_ j)))
      · rw [e1] at e
        rw [e, e2, revL_at _ _ _ (by omega), revL_at _ _ _ (by omega), if_neg (by omega), if_pos (by omega)]
        congr 1; omega
      · rw [e2] at e'
        rw [e', e1, revL_at _ _ _ (by omega), revL_at _ _ _ (by omega), if_neg (by omega), if_pos (by omega)]
      · rw [e1] at e
        rw [e2] at e'
        rw [revL_at _ _ _ hi, revL_at _ _ _ hi]
        by_cases hc : i < k ∨ l.length - k ≤ i
        · rw [if_pos hc, if_pos (by omega)]
        · rw [if_neg hc, if_neg (by omega)]
    · rw [hw _ (by omega) (by omega)]; omega
    · rw [hw _ (by omega) (by omega)]; omega
  · have hge : ¬ (k : Int) < (l.length : Int) - 1 - k := by simpa using h
    refine EndM.mk ⟨.n 0, .none, .cons (.bld (fun h => h) (fun i hi j hj => SLe.of_eq (vG_eq ?_ j))) (.nil _), .inl rfl⟩
    rw [revL_at _ _ _ hi, getD_reverse _ _ hi]
    by_cases hc : i < k ∨ l.length - k ≤ i
    · rw [if_pos hc]
    · rw [if_neg hc]
      congr 1; omega

/-! ### Clone -/
theorem clone_detM (l : List V2) (hl : l.length ≤ 100000) : DetM Try.prog 76 [.d (.one (vlS l))] [] (.hdl (.n 3000) 0) [] (.bld 0 l.length 2 32 (vG l)) := by
  refine detM_of_awp TTok mixed Try.func76 rfl rfl [0] (Nat.le_of_ble_eq_true rfl) (Nat.le_of_ble_eq_true rfl) (sigM_of rfl) ?_
  refine Cut.id ?_
  refine NilW.mk ?_ (fun h0 => ?_)
  · refine Need.mk (needApp (by omega) (by decide)) ?_
    refine Cut.id ?_
    exact EndM.mk ⟨.n 5, .one (.hdl rfl rfl rfl), .nil _, .inr ⟨.bldN (Nat.zero_add _) (fun h => absurd h (by decide)) (fun i hi j hj => SLe.of_eq (by rw [blt_f (Nat.not_lt_zero i)]; rfl)), rfl⟩⟩
  · obtain rfl : l = [] := List.eq_nil_of_length_eq_zero h0
    refine Cut.mk (Adj.nil 2 7 2 32 (vG []) rfl rfl (Adj.id ?_))
    exact EndM.mk ⟨.n 7, .one (.hdl rfl rfl rfl), .nil _, .inr ⟨.bld (fun h => absurd h (by decide)) (fun i hi => absurd hi (Nat.not_lt_zero i)), rfl⟩⟩

theorem cloneR_detM (l : List V2) (hl : l.length ≤ 100000) : DetM Try.prog 90 [.d (.one (vlS l))] [] (.hdl (.n 3000) 0) [] (.bld 0 l.length 2 32 (vG l)) := by
  refine detM_of_awp TTok mixed Try.func90 rfl rfl [0] (Nat.le_of_ble_eq_true rfl) (Nat.le_of_ble_eq_true rfl) (sigM_of rfl) ?_
  refine Cut.id ?_
  refine NilW.mk ?_ (fun h0 => ?_)
  · refine Need.mk (needApp (by omega) (by decide)) ?_
    refine Cut.id ?_
    exact EndM.mk ⟨.n 5, .one (.hdl rfl rfl rfl), .nil _, .inr ⟨.bldN (Nat.zero_add _) (fun h => absurd h (by decide)) (fun i hi j hj => SLe.of_eq (by rw [blt_f (Nat.not_lt_zero i)]; rfl)), rfl⟩⟩
  · obtain rfl : l = [] := List.eq_nil_of_length_eq_zero h0
    refine Cut.mk (Adj.nil 2 7 2 32 (vG []) rfl rfl (Adj.id ?_))
    exact EndM.mk ⟨.n 7, .one (.hdl rfl rfl rfl), .nil _, .inr ⟨.bld (fun h => absurd h (by decide)) (fun i hi => absurd hi (Nat.not_lt_zero i)), rfl⟩⟩

/-! ### Delete -/
theorem delete_detM (l : List V2) (q : Nat) (hq : q < l.length) (hl : l.length ≤ 100000) : DetM Try.prog 78 [.hdl (.n 2000) 1, tint q, tint ((q : Int) + 1)] [.bld 1 l.length 2 32 (vG l)] (.hdl (.n 2000) 5) [.bld 5 (l.length - 1) 2 32 (vG (l.eraseIdx q))] .none := by
  refine detM_of_awp TTok mixed Try.func78 rfl rfl [0] (Nat.le_of_ble_eq_true rfl) (Nat.le_of_ble_eq_true rfl) (sigM_of rfl) ?_
  refine Need.mk (by omega) ?_
  refine Cut.id ?_
  refine Split.isF (by simp; omega) ?_
  refine Need.mk (by omega) ?_
  refine EitherW.l ?_
  refine Need.mk (by omega) ?_
  refine EitherW.l ?_
  refine Need.mk (by omega) ?_
  refine Need.mk (by kernel_rfl) ?_
  refine Need.mk (by omega) ?_
  refine EitherW.l ?_
  refine Cut.mk (Adj.trunc 6 2000 _ _ _ 2 32 _ rfl rfl (Adj.id ?_))
  refine EndM.mk ⟨.n 0, .one (.hdl rfl rfl rfl), .cons (.bldN ?_ (fun h => absurd h (by decide)) (fun i hi j hj => ?_)) (.nil _), .inl rfl⟩
  · omega
  · have e2 : ((q : Int) + 1).toNat = q + 1 := by omega
    simp only [Int.toNat_natCast, e2, Nat.sub_zero, Nat.zero_add] at hi ⊢
    rw [ble_f (show ¬ q + (l.length - (q + 1)) ≤ i by omega), Bool.false_and, cond_false]
    refine SLe.of_eq ?_
    by_cases h : i < q
    · rw [blt_t h, cond_true]
      exact vG_eq (by simp [List.getD, List.getElem?_eraseIdx, h]) j
    · rw [blt_f h, cond_false, blt_t hi, cond_true]
      refine vG_eq ?_ j
      simp only [List.getD, List.getElem?_eraseIdx, h, if_false]
      rw [show q + 1 + (i - q) = i + 1 by omega]
end Sg
end Go.Vm
