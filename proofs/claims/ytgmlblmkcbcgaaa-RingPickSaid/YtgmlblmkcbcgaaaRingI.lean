/-
  Layer 8: contracts of Canonical and Begin.
-/
import Derived.Test.YtgmlblmkcbcgaaaRingH
namespace Go.Vm
set_option maxRecDepth 20000
set_option linter.unusedVariables false
set_option linter.unusedSimpArgs false
open Go Go.RowKit Go.Proofs
namespace Sg

/-- The index of the first least one of the i first ones. -/
def lk (l : List V2) : Nat → Nat
  | 0 => 0
  | i + 1 => if lessB (gt l i) (gt l (lk l i)) = true then i else lk l i
def minIx (l : List V2) : Nat := lk l l.length
def rotL (l : List V2) (k : Nat) : List V2 := l.drop k ++ l.take k
def beginL (l : List V2) : List V2 := rotL l (minIx l)
theorem lk_lt (l : List V2) : ∀ i, 0 < i → lk l i < i
  | 0, h => absurd h (Nat.lt_irrefl _)
  | i + 1, _ => by
    simp only [lk]
    split
    · omega
    · rcases Nat.eq_zero_or_pos i with h | h
      · subst h; simp [lk]
      · have := lk_lt l i h; omega
theorem lk_le (l : List V2) (i : Nat) : lk l i ≤ i := by
  rcases Nat.eq_zero_or_pos i with h | h
  · subst h; exact Nat.le_refl _
  · exact Nat.le_of_lt (lk_lt l i h)
theorem lk_min (l : List V2) : ∀ i, (∀ j, j < lk l i → lessB (gt l (lk l i)) (gt l j) = true) ∧ ∀ j, j < i → lessB (gt l j) (gt l (lk l i)) = false
  | 0 => ⟨fun j h => absurd h (Nat.not_lt_zero _), fun j h => absurd h (Nat.not_lt_zero _)⟩
  | i + 1 => by
    obtain ⟨h1, h2⟩ := lk_min l i
    simp only [lk]
    split
    · rename_i hl
      refine ⟨fun j hj => ?_, fun j hj => ?_⟩
      · rcases less_tri (gt l i) (gt l j) with h | h | h
        · exact h
        · have := h2 j hj
          rw [← h, hl] at this; cases this
        · have := h2 j hj
          rw [less_trans h hl] at this; cases this
      · rcases Nat.lt_succ_iff_lt_or_eq.1 hj with hj | rfl
        · cases hq : lessB (gt l j) (gt l i) with
          | false => rfl
          | true =>
            have := h2 j hj
            rw [less_trans hq hl] at this; cases this
        · exact less_irr _
    · rename_i hl
      refine ⟨h1, fun j hj => ?_⟩
      rcases Nat.lt_succ_iff_lt_or_eq.1 hj with hj | rfl
      · exact h2 j hj
      · simpa using hl
theorem rotL_len (l : List V2) (k : Nat) : (rotL l k).length = l.length := by simp [rotL]; omega
theorem rotL_at (l : List V2) (k i : Nat) (hk : k ≤ l.length) (hi : i < l.length) : (rotL l k).getD i ⟨0, 0⟩ = if i < l.length - k then gt l (k + i) else gt l (i - (l.length - k)) := by
  unfold rotL gt
  simp only [List.getD, List.getElem?_append, List.length_drop, List.getElem?_drop, List.getElem?_take]
  split
  · rfl
  · rw [if_pos (by omega)]

theorem begin_det (l : List V2) (hl : l.length ≤ 40000) : Det Try.prog 54 [.one (vlS l)] (.d (.one (vlS (beginL l)))) := by
  refine det_of_awp TTok mixed Try.func54 rfl rfl [] (Nat.le_of_ble_eq_true rfl) ?_
  refine Loop.by (α := Nat) (fun k => [(0, .d (.one (vlS l))), (4, tint k), (3, tint (lk l k))]) (fun _ => []) (fun k => k ≤ l.length) (fun k => l.length - k)
    (Adj.at 0 (Nat.zero_le _) .nil (.cons .same (.cons .same (.cons .same .nil)))) (fun k hk => ?_)
  refine Split.mk (fun h => ?_) (fun h => ?_)
  · have hlt : k < l.length := by have := of_decide_eq_true h; omega
    have hq := lk_le l k
    refine Need.mk (by omega) ?_
    refine Need.mk (by omega) ?_
    refine CallW.bool (less_det (gt l k) (gt l (lk l k))) (fun b hb => ?_)
    refine Need.mk (by kernel_rfl) ?_
    refine Split.mk (fun h1 => ?_) (fun h1 => ?_)
    · refine Adj.back (x := k) (k + 1) (by omega) (by omega) .nil (.cons .same (.cons (SlotLe.int ?_) (.cons (SlotLe.int ?_) .nil)))
      · rw [hw _ (by omega) (by omega)]; omega
      · rw [lk, if_pos (by rw [← hb, h1])]
    · refine Adj.back (x := k) (k + 1) (by omega) (by omega) .nil (.cons .same (.cons (SlotLe.int ?_) (.cons (SlotLe.int ?_) .nil)))
      · rw [hw _ (by omega) (by omega)]; omega
      · rw [lk, if_neg (by rw [← hb, h1]; simp)]
  · have he : k = l.length := by have := of_decide_eq_false h; omega
    subst he
    have hq := lk_le l l.length
    refine Need.mk (by omega) ?_
    refine Need.mk (needApp (by omega) (by decide)) ?_
    refine Need.mk (by omega) ?_
    refine Need.mk (needApp (by omega) (by decide)) ?_
    refine Need.mk (by kernel_rfl) ?_
    refine Fin.one ?_
    refine SLe.slN ?_ (fun i hi j hj => SLe.of_eq ?_)
    · simp only [beginL, rotL_len, minIx, Int.toNat_natCast]; omega
    · simp only [Int.toNat_natCast, Nat.zero_add, Nat.sub_zero] at hi ⊢
      have hil : i < l.length := by omega
      by_cases hc : i < l.length - lk l l.length
      · rw [blt_t hc, cond_true, blt_f (Nat.not_lt_zero _), cond_false]
        refine vG_eq ?_ j
        rw [beginL, rotL_at _ _ _ (show minIx l ≤ l.length from hq) hil, if_pos (show i < l.length - minIx l from hc)]
        rfl
      · rw [blt_f hc, cond_false]
        refine vG_eq ?_ j
        rw [beginL, rotL_at _ _ _ (show minIx l ≤ l.length from hq) hil, if_neg (show ¬ i < l.length - minIx l from hc)]
        rfl
def canonR (l : List V2) : List V2 := if validR l = true then beginL l else []
theorem rcanon_det (l : List V2) (hl : l.length ≤ 40000) : Det Try.prog 19 [.one (vlS l)] (.d (.one (vlS (canonR l)))) := by
  refine det_of_awp TTok mixed Try.func19 rfl rfl [] (Nat.le_of_ble_eq_true rfl) ?_
  refine CallW.bool (rvalid_det8 l hl) (fun b hb => ?_)
  refine Split.mk (fun h => ?_) (fun h => ?_)
  · refine Fin.one ?_
    rw [canonR, ← hb, if_neg (by simpa using h)]
    exact SLe.nil _ _
  · refine CallW.mk' (begin_det l hl) ?_
    rw [canonR, ← hb, if_pos (by simpa using h)]
    exact Fin.rfl'

/-! ### the program's way -/
theorem minf_det (l : List V2) (hl : l.length ≤ 40000) (h0 : 0 < l.length) : Det Try.prog 81 [.one (vlS l), .one (.fn 82 0 fun _ => .v Go.undef)] (.d (vD (gt l (minIx l)))) := by
  refine det_of_awp TTok mixed Try.func81 rfl rfl [] (Nat.le_of_ble_eq_true rfl) ?_
  refine Split.isF (decide_eq_false (by omega)) ?_
  refine Need.mk (by omega) ?_
  refine Loop.by (α := Nat) (fun k => [(0, .d (.one (vlS l))), (1, .d (.one (.fn 82 0 fun _ => .v Go.undef))), (4, .ptr 4 0), (5, .ptr 5 0), (6, tint k)]) (fun k => [(4, .box [i64 0, i64 0]), (5, .box (vL (gt l (lk l k))))]) (fun k => 1 ≤ k ∧ k ≤ l.length) (fun k => l.length - k)
    (Adj.at 1 ⟨Nat.le_refl _, h0⟩ (.cons (.box (LLe.of_eq rfl)) (.cons (.box (LLe.of_eq (by simp [lk]))) .nil)) (.cons .same (.cons .same (.cons (.box rfl rfl) (.cons (.box rfl rfl) (.cons .same .nil)))))) (fun k hk => ?_)
  obtain ⟨hk1, hk⟩ := hk
  refine Split.mk (fun h => ?_) (fun h => ?_)
  · have hlt : k < l.length := by have := of_decide_eq_true h; omega
    refine Need.mk (by omega) ?_
    refine CallW.int (vcmp_det (gt l k) (gt l (lk l k))) (fun c hc => ?_)
    refine Need.mk (by kernel_rfl) ?_
    refine Split.mk (fun h1 => ?_) (fun h1 => ?_)
    · have hls : lessB (gt l k) (gt l (lk l k)) = true := by rw [← cmpV_neg, ← hc]; exact h1
      refine Need.mk (by omega) ?_
      refine Adj.back (x := k) (k + 1) ⟨by omega, by omega⟩ (by omega) (.cons (.box (LLe.of_eq rfl)) (.cons (.box (LLe.of_eq ?_)) .nil)) (.cons .same (.cons .same (.cons (.box rfl rfl) (.cons (.box rfl rfl) (.cons (SlotLe.int ?_) .nil)))))
      · rw [lk, if_pos hls]; rfl
      · rw [hw _ (by omega) (by omega)]; omega
    · have hls : ¬ lessB (gt l k) (gt l (lk l k)) = true := by
        rw [← cmpV_neg, ← hc]
        intro e
        rw [show decide (c < 0) = false from h1] at e; cases e
      refine Adj.back (x := k) (k + 1) ⟨by omega, by omega⟩ (by omega) (.cons (.box (LLe.of_eq rfl)) (.cons (.box (LLe.of_eq ?_)) .nil)) (.cons .same (.cons .same (.cons (.box rfl rfl) (.cons (.box rfl rfl) (.cons (SlotLe.int ?_) .nil)))))
      · rw [lk, if_neg hls]
      · rw [hw _ (by omega) (by omega)]; omega
  · have he : k = l.length := by have := of_decide_eq_false h; omega
    subst he
    exact Fin.rfl'
theorem index_det (l : List V2) (hl : l.length ≤ 40000) (h0 : 0 < l.length) : Det Try.prog 83 [.one (vlS l), vD (gt l (minIx l))] (tint (minIx l)) := by
  refine det_of_awp TTok mixed Try.func83 rfl rfl [] (Nat.le_of_ble_eq_true rfl) ?_
  have hm : minIx l < l.length := lk_lt l _ h0
  refine Loop.by (α := Nat) (fun k => [(0, .d (.one (vlS l))), (3, .ptr 3 0), (7, tint l.length), (8, tint k)]) (fun _ => [(3, .box (vL (gt l (minIx l))))]) (fun k => k ≤ minIx l) (fun k => l.length - k)
    (Adj.at 0 (Nat.zero_le _) (.cons (.box (LLe.of_eq rfl)) .nil) (.cons .same (.cons (.box rfl rfl) (.cons .same (.cons .same .nil))))) (fun k hk => ?_)
  refine Split.isT (decide_eq_true (by omega)) ?_
  refine Need.mk (by omega) ?_
  refine EqW.v (gt l (minIx l)) (gt l k) (fun q hq => ?_)
  refine Need.mk (by kernel_rfl) ?_
  refine Split.mk (fun h1 => ?_) (fun h1 => ?_)
  · refine Fin.int ?_
    have e := hq.1 h1
    rcases Nat.lt_or_ge k (minIx l) with h | h
    · have := (lk_min l l.length).1 k h
      rw [show gt l (lk l l.length) = gt l k from e, less_irr] at this; cases this
    · omega
  · have hne : k ≠ minIx l := fun e => by
      have : q = true := hq.2 (by rw [e])
      rw [this] at h1; cases h1
    refine Adj.back (x := k) (k + 1) (by omega) (by omega) (.cons (.box (LLe.of_eq rfl)) .nil) (.cons .same (.cons (.box rfl rfl) (.cons .same (.cons (SlotLe.int ?_) .nil))))
    rw [hw _ (by omega) (by omega)]; omega
theorem grow_detM (n : Nat) (hn : n ≤ 40000) (h0 : 0 < n) : DetM Try.prog 102 [.d (.one (.v (.slice none 0 0))), tint n] [] (.hdl (.n 3000) 0) [] (.bld 0 0 2 32 (vG [])) := by
  refine detM_of_awp TTok mixed Try.func102 rfl rfl [] (Nat.le_of_ble_eq_true rfl) (Nat.le_of_ble_eq_true rfl) (sigM_of rfl) ?_
  refine Split.isF (decide_eq_false (by omega)) ?_
  have e : IntKind.i64.wrap ((n : Int) - IntKind.i64.wrap (0 - ((0 : Nat) : Int))) = n := by
    rw [show IntKind.i64.wrap (0 - ((0 : Nat) : Int)) = 0 from rfl, hw _ (by omega) (by omega)]; omega
  refine Split.isT (decide_eq_true (by rw [e]; omega)) ?_
  refine Need.mk (by decide) ?_
  refine Need.mk (by rw [e]; exact ⟨by omega, (show (n : Int) * 16 ≤ 140737488355328 by omega), by simp only [maxLen]; omega, by decide⟩) ?_
  refine Need.mk (by omega) ?_
  refine EitherW.r ⟨rfl, ?_⟩
  exact EndM.mk ⟨.n 22, .one (.hdl rfl rfl rfl), .nil _, .inr ⟨.bld (fun h => absurd h (by decide)) (fun i hi => absurd hi (Nat.not_lt_zero i)), rfl⟩⟩

theorem concat_det (a b : Nat) (g1 g2 g : Nat → Nat → SV) (h : a + b ≤ 40000) (h0 : 0 < a + b) (e0 : g 0 0 = .sl a 2 g1) (e1 : g 1 0 = .sl b 2 g2) :
    Det Try.prog 84 [.one (.sl 2 1 g)] (.d (.one (.sl (a + b) 2 fun i j => bif Nat.blt i a then g1 i j else g2 (i - a) j))) := by
  refine Det.le (args' := [.one (.sl 2 1 fun i _ => match i with | 0 => .sl a 2 g1 | _ => .sl b 2 g2)]) (.cons (DLe.one (SLe.sl (fun i hi j hj => SLe.of_eq ?_))) .nil) ?_
  · obtain rfl : j = 0 := by omega
    match i, hi with
    | 0, _ => exact e0
    | 1, _ => exact e1
  refine det_of_awp TTok mixed Try.func84 rfl rfl [102 + 2000000] (Nat.le_of_ble_eq_true rfl) ?_
  refine Loop.unroll 3 ?_
  refine Split.t ?_
  refine Need.mk (by decide) ?_
  have w1 : IntKind.i64.wrap (0 + (a : Int)) = a := by rw [hw _ (by omega) (by omega)]; omega
  have w2 : IntKind.i64.wrap (IntKind.i64.wrap (0 + (a : Int)) + (b : Int)) = ((a + b : Nat) : Int) := by rw [w1, hw _ (by omega) (by omega)]; omega
  refine Split.isF (decide_eq_false (by rw [w1]; omega)) ?_
  refine Split.t ?_
  refine Need.mk (by decide) ?_
  refine Split.isF (decide_eq_false (by rw [w2]; omega)) ?_
  refine Split.f ?_
  refine CallM.mk' [] (grow_detM (a + b) h h0) ⟨.nil, .cons (.d (DLe.refl _)) (.cons (.d (DLe.of_eq (by rw [w2]))) .nil), rfl, rfl, fun _ => rfl⟩ ?_
  refine Loop.unroll 3 ?_
  refine Split.t ?_
  refine Need.mk (by decide) ?_
  refine Need.mk (needApp (by omega) (by decide)) ?_
  refine Split.t ?_
  refine Need.mk (by decide) ?_
  refine Need.mk (needApp (by omega) (by decide)) ?_
  refine Split.f ?_
  refine Fin.one ?_
  refine SLe.slN (by omega) (fun i hi j hj => SLe.of_eq ?_)
  simp only [Nat.zero_add, Nat.sub_zero]
  by_cases hc : i < a
  · rw [blt_t hc, cond_true, cond_true, blt_f (Nat.not_lt_zero i), cond_false]
  · rw [blt_f hc, cond_false, cond_false]
theorem canon_det (l : List V2) (hl : l.length ≤ 40000) : Det Try.prog 36 [.one (vlS l)] (.d (.one (vlS (canonR l)))) := by
  refine det_of_awp TTok mixed Try.func36 rfl rfl [] (Nat.le_of_ble_eq_true rfl) ?_
  refine CallW.bool (valid_det' l hl) (fun b hb => ?_)
  refine Split.mk (fun h => ?_) (fun h => ?_)
  · refine Fin.one ?_
    rw [canonR, ← hb, if_neg (by simpa using h)]
    exact SLe.nil _ _
  have hv : validR l = true := by rw [← hb]; simpa using h
  have h0 : 0 < l.length := by
    simp only [validR, headB, Bool.and_eq_true, decide_eq_true_eq] at hv
    omega
  have hm : minIx l < l.length := lk_lt l _ h0
  refine CallW.v (minf_det l hl h0) (fun v hv => ?_)
  subst hv
  refine CallW.int (index_det l hl h0) (fun n hn => ?_)
  subst hn
  refine Need.mk (by omega) ?_
  refine Need.mk (by omega) ?_
  refine CallW.mk' (concat_det (l.length - minIx l) (minIx l - 0) _ _ _ (by omega) (by omega) rfl rfl) ?_
  refine Need.mk (by kernel_rfl) ?_
  refine Fin.one ?_
  rw [canonR, if_pos hv]
  refine SLe.slN (by simp only [beginL, rotL_len]; omega) (fun i hi j hj => SLe.of_eq ?_)
  have hil : i < l.length := by omega
  by_cases hc : i < l.length - minIx l
  · rw [blt_t hc, cond_true]
    refine vG_eq ?_ j
    rw [beginL, rotL_at _ _ _ (by omega) hil, if_pos hc]
    rfl
  · rw [blt_f hc, cond_false]
    refine vG_eq ?_ j
    rw [beginL, rotL_at _ _ _ (by omega) hil, if_neg hc, Nat.zero_add]
end Sg
end Go.Vm
