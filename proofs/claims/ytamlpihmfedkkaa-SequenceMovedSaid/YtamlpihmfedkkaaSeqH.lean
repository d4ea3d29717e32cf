/-
  Layer 47: Hot and Travel of the program and of the specification.
-/
import Derived.Test.YtamlpihmfedkkaaSeqG
namespace Go.Vm
set_option maxRecDepth 20000
set_option linter.unusedVariables false
set_option linter.unusedSimpArgs false
open Go Go.RowKit Go.Proofs
namespace Sg

theorem distV_eq {a b : V2} (ha : In 8000 a) (hb : In 8000 b) : distV a b = maxI (if a.x - b.x ≥ 0 then a.x - b.x else b.x - a.x) (if a.y - b.y ≥ 0 then a.y - b.y else b.y - a.y) := by
  obtain ⟨h1, h2, h3, h4⟩ := ha
  obtain ⟨k1, k2, k3, k4⟩ := hb
  have e1 : w64 (a.x - b.x) = a.x - b.x := wid (by omega) (by omega)
  have e2 : w64 (a.y - b.y) = a.y - b.y := wid (by omega) (by omega)
  have e3 : ng (a.x - b.x) = b.x - a.x := by rw [ng, wid' (by omega) (by omega)]; omega
  have e4 : ng (a.y - b.y) = b.y - a.y := by rw [ng, wid' (by omega) (by omega)]; omega
  simp only [distV, subW, absI, e1, e2, e3, e4]
theorem distV_comm {a b : V2} (ha : In 8000 a) (hb : In 8000 b) : distV a b = distV b a := by
  rw [distV_eq ha hb, distV_eq hb ha]
  unfold maxI
  repeat' split
  all_goals omega
abbrev stO (l : List Ct) (x : Int) : V2 := (ctGet l x.toNat).st
theorem ok_st {l : List Ct} (h : chkI l = 0) {x : Int} (h0 : 0 ≤ x) (hx : x < l.length) : In 8000 (stO l x) := by
  have := chk_ok h (i := x.toNat) (by omega)
  simp only [okC, Bool.and_eq_true] at this
  exact In.of (by decide) (by decide) this.2
theorem ok_at {l : List Ct} (h : chkI l = 0) {x : Int} (h0 : 0 ≤ x) (hx : x < l.length) : 0 ≤ (ctGet l x.toNat).at_ ∧ (ctGet l x.toNat).at_ < (ctGet l x.toNat).ring.length := by
  have := chk_ok h (i := x.toNat) (by omega)
  simp only [okC, Bool.and_eq_true, decide_eq_true_eq] at this
  exact ⟨this.1.1.1.2, this.1.1.2⟩
theorem chkT_ok {l : List Ct} {o : List Int} (h : chkT l o = 0) : chkI l = 0 ∧ o.length = l.length ∧ ∀ k, k < o.length → stepB l o k = true := by
  have h0 : chkI l = 0 := by
    by_cases h0 : chkI l = 0
    · exact h0
    · rw [chkT, if_pos h0] at h; exact absurd h h0
  rw [chkT, if_neg (by simp [h0]), ordE] at h
  split at h
  · cases h
  rename_i h1
  split at h
  · rename_i h2
    exact ⟨h0, by omega, fun k hk => allB_iff.1 h2 k hk⟩
  · cases h
theorem step_in {l : List Ct} {o : List Int} {k : Nat} (h : stepB l o k = true) : 0 ≤ iGet o k ∧ iGet o k < l.length ∧ ¬ iGet o k ∈ o.take k ∧ depIn l (iGet o k).toNat (o.take k) = true := by
  simp only [stepB, Bool.and_eq_true, Bool.not_eq_true', decide_eq_true_eq, decide_eq_false_iff_not] at h
  exact ⟨h.1.1.1, h.1.1.2, h.1.2, h.2⟩
def hotN (l : List Ct) (o : List Int) (h : Int) : Nat → Nat
  | 0 => 0
  | k + 1 => if 1 ≤ k ∧ distV (stO l (iGet o (k - 1))) (stO l (iGet o k)) < h then hotN l o h k + 1 else hotN l o h k
theorem hotN_le (l : List Ct) (o : List Int) (h : Int) : ∀ k, hotN l o h k ≤ k
  | 0 => Nat.le_refl _
  | k + 1 => by
    have := hotN_le l o h k
    simp only [hotN]
    split <;> omega
def hotT (l : List Ct) (o : List Int) (h : Int) : Int × Int := if chkT l o ≠ 0 then (0, chkT l o) else (hotN l o h o.length, 0)
abbrev twoI (a b : Int) : TV := .tup [.one (i64 a), .one (i64 b)]
theorem Fin.two {a b a' b' : Int} (h : a = a') (k : b = b') : Fin (twoI a b) (twoI a' b') := by subst h; subst k; exact Fin.rfl'
theorem hot47_det (l : List Ct) (o : List Int) (h : Int) (hl : l.length ≤ 10000) (ho : o.length ≤ 10000) (hf : FewC l) : Det Try.prog 33 [.one (ctS l), .one (ilS o), .one (i64 h)] (twoI (hotT l o h).1 (hotT l o h).2) := by
  refine det_of_awp TTok mixed Try.func33 rfl rfl [] (Nat.le_of_ble_eq_true rfl) ?_
  refine CallW.int (chk47_det l o hl ho hf) (fun e he => ?_)
  refine Split.mk (fun h1 => ?_) (fun h1 => ?_)
  · have hne : chkT l o ≠ 0 := by rw [← he]; simpa using h1
    rw [hotT, if_pos hne]
    exact Fin.two rfl he
  have h0 : chkT l o = 0 := by rw [← he]; simpa using h1
  obtain ⟨h0', hlen, hst⟩ := chkT_ok h0
  rw [hotT, if_neg (by simp [h0])]
  refine Loop.by (α := Nat) (fun k => [(0, .d (.one (ctS l))), (1, .d (.one (ilS o))), (2, tint h), (9, tint (hotN l o h k)), (10, tint k)]) (fun _ => []) (fun k => 1 ≤ k ∧ (k ≤ o.length ∨ k = 1)) (fun k => o.length - k)
    (Adj.at 1 ⟨Nat.le_refl _, .inr rfl⟩ .nil (.cons .same (.cons .same (.cons .same (.cons .same (.cons .same .nil)))))) (fun k hk => ?_)
  obtain ⟨hk, hk2⟩ := hk
  refine Split.mk (fun h2 => ?_) (fun h2 => ?_)
  · have hlt : k < o.length := by have := of_decide_eq_true h2; omega
    have e1 : IntKind.i64.wrap ((k : Int) - 1) = ((k - 1 : Nat) : Int) := by rw [wid (by omega) (by omega)]; omega
    obtain ⟨a1, a2, _⟩ := step_in (hst k hlt)
    obtain ⟨b1, b2, _⟩ := step_in (hst (k - 1) (by omega))
    have e2 : iGet o (IntKind.i64.wrap ((k : Int) - 1)).toNat = iGet o (k - 1) := by rw [e1]; rfl
    refine Need.mk (by rw [e1]; omega) ?_
    refine Need.mk ⟨by rw [e2]; omega, by rw [e2]; omega⟩ ?_
    refine Need.mk (by omega) ?_
    refine Need.mk ⟨a1, a2⟩ ?_
    refine CallW.bool (hot_det (ctGet l (iGet o (IntKind.i64.wrap ((k : Int) - 1)).toNat).toNat) (ctGet l (iGet o k).toNat) h) (fun b hb => ?_)
    rw [e2] at hb
    refine Need.mk (by kernel_rfl) ?_
    have hN := hotN_le l o h k
    refine Split.mk (fun h3 => ?_) (fun h3 => ?_)
    · have e : hotN l o h (k + 1) = hotN l o h k + 1 := by
        rw [hotN, if_pos ⟨hk, of_decide_eq_true (by rw [← hb]; exact h3)⟩]
      refine Adj.back (x := k) (k + 1) ⟨by omega, by omega⟩ (by omega) .nil (.cons .same (.cons .same (.cons .same (.cons (SlotLe.int ?_) (.cons (SlotLe.int ?_) .nil)))))
      · rw [hw _ (by omega) (by omega), e]; omega
      · rw [hw _ (by omega) (by omega)]; omega
    · have e : hotN l o h (k + 1) = hotN l o h k := by
        rw [hotN, if_neg (fun q => by rw [hb, decide_eq_true q.2] at h3; cases h3)]
      refine Adj.back (x := k) (k + 1) ⟨by omega, by omega⟩ (by omega) .nil (.cons .same (.cons .same (.cons .same (.cons (SlotLe.int ?_) (.cons (SlotLe.int ?_) .nil)))))
      · rw [e]
      · rw [hw _ (by omega) (by omega)]; omega
  · have he : hotN l o h k = hotN l o h o.length := by
      have h2' : ¬ (k : Int) < o.length := of_decide_eq_false h2
      by_cases e : k = o.length
      · rw [e]
      · have : k = 1 := by omega
        have : o.length = 0 := by omega
        subst k
        rw [this]; simp [hotN]
    exact Fin.two (by rw [he]) rfl
theorem rhot47_det (l : List Ct) (o : List Int) (h : Int) (hl : l.length ≤ 10000) (ho : o.length ≤ 10000) (hf : FewC l) : Det Try.prog 34 [.one (ctS l), .one (ilS o), .one (i64 h)] (twoI (hotT l o h).1 (hotT l o h).2) := by
  refine det_of_awp TTok mixed Try.func34 rfl rfl [] (Nat.le_of_ble_eq_true rfl) ?_
  refine CallW.int (rchk47_det l o hl ho hf) (fun e he => ?_)
  refine Split.mk (fun h1 => ?_) (fun h1 => ?_)
  · have hne : chkT l o ≠ 0 := by rw [← he]; simpa using h1
    rw [hotT, if_pos hne]
    exact Fin.two rfl he
  have h0 : chkT l o = 0 := by rw [← he]; simpa using h1
  obtain ⟨h0', hlen, hst⟩ := chkT_ok h0
  rw [hotT, if_neg (by simp [h0])]
  refine Loop.by (α := Nat) (fun k => [(0, .d (.one (ctS l))), (1, .d (.one (ilS o))), (2, tint h), (9, tint (hotN l o h k)), (10, tint k)]) (fun _ => []) (fun k => 1 ≤ k ∧ (k ≤ o.length ∨ k = 1)) (fun k => o.length - k)
    (Adj.at 1 ⟨Nat.le_refl _, .inr rfl⟩ .nil (.cons .same (.cons .same (.cons .same (.cons .same (.cons .same .nil)))))) (fun k hk => ?_)
  obtain ⟨hk, hk2⟩ := hk
  refine Split.mk (fun h2 => ?_) (fun h2 => ?_)
  · have hlt : k < o.length := by have := of_decide_eq_true h2; omega
    have e1 : IntKind.i64.wrap ((k : Int) - 1) = ((k - 1 : Nat) : Int) := by rw [wid (by omega) (by omega)]; omega
    obtain ⟨a1, a2, _⟩ := step_in (hst k hlt)
    obtain ⟨b1, b2, _⟩ := step_in (hst (k - 1) (by omega))
    have e2 : iGet o (IntKind.i64.wrap ((k : Int) - 1)).toNat = iGet o (k - 1) := by rw [e1]; rfl
    refine Need.mk (by omega) ?_
    refine Need.mk ⟨a1, a2⟩ ?_
    refine Need.mk (by rw [e1]; omega) ?_
    refine Need.mk ⟨by rw [e2]; omega, by rw [e2]; omega⟩ ?_
    refine CallW.int (rdist_det (stO l (iGet o k)) (stO l (iGet o (IntKind.i64.wrap ((k : Int) - 1)).toNat))) (fun b hb => ?_)
    rw [e2, distV_comm (ok_st h0' a1 a2) (ok_st h0' b1 b2)] at hb
    refine Need.mk (by kernel_rfl) ?_
    have hN := hotN_le l o h k
    refine Split.mk (fun h3 => ?_) (fun h3 => ?_)
    · have e : hotN l o h (k + 1) = hotN l o h k + 1 := by
        rw [hotN, if_pos ⟨hk, by rw [← hb]; exact of_decide_eq_true h3⟩]
      refine Adj.back (x := k) (k + 1) ⟨by omega, by omega⟩ (by omega) .nil (.cons .same (.cons .same (.cons .same (.cons (SlotLe.int ?_) (.cons (SlotLe.int ?_) .nil)))))
      · rw [hw _ (by omega) (by omega), e]; omega
      · rw [hw _ (by omega) (by omega)]; omega
    · have e : hotN l o h (k + 1) = hotN l o h k := by
        rw [hotN, if_neg (fun q => by rw [← hb] at q; exact of_decide_eq_false h3 q.2)]
      refine Adj.back (x := k) (k + 1) ⟨by omega, by omega⟩ (by omega) .nil (.cons .same (.cons .same (.cons .same (.cons (SlotLe.int ?_) (.cons (SlotLe.int ?_) .nil)))))
      · rw [e]
      · rw [hw _ (by omega) (by omega)]; omega
  · have he : hotN l o h k = hotN l o h o.length := by
      have h2' : ¬ (k : Int) < o.length := of_decide_eq_false h2
      by_cases e : k = o.length
      · rw [e]
      · have : k = 1 := by omega
        have : o.length = 0 := by omega
        subst k
        rw [this]; simp [hotN]
    exact Fin.two (by rw [he]) rfl
/-! ### Travel -/
abbrev enC (c : Ct) : V2 := gt c.ring c.at_.toNat
abbrev enO (l : List Ct) (x : Int) : V2 := enC (ctGet l x.toNat)
/-- The head's place behind the first k contours of an order. -/
def headO (l : List Ct) (o : List Int) (first : V2) : Nat → V2
  | 0 => first
  | k + 1 => enO l (iGet o k)
def travK (l : List Ct) (o : List Int) (first : V2) : Nat → Int
  | 0 => 0
  | k + 1 => w64 (travK l o first k + distV (stO l (iGet o k)) (headO l o first k))
def travT (l : List Ct) (o : List Int) (first : V2) : Int × Int := if chkT l o ≠ 0 then (0, chkT l o) else if withinV first 8000 = false then (0, 2) else (travK l o first o.length, 0)
theorem travel_det (l : List Ct) (o : List Int) (v : V2) (hl : l.length ≤ 10000) (ho : o.length ≤ 10000) (hf : FewC l) : Det Try.prog 30 [.one (ctS l), .one (ilS o), vD v] (twoI (travT l o v).1 (travT l o v).2) := by
  refine det_of_awp TTok mixed Try.func30 rfl rfl [] (Nat.le_of_ble_eq_true rfl) ?_
  refine CallW.int (chk47_det l o hl ho hf) (fun e he => ?_)
  refine Split.mk (fun h1 => ?_) (fun h1 => ?_)
  · have hne : chkT l o ≠ 0 := by rw [← he]; simpa using h1
    rw [travT, if_pos hne]
    exact Fin.two rfl he
  have h0 : chkT l o = 0 := by rw [← he]; simpa using h1
  obtain ⟨h0', hlen, hst⟩ := chkT_ok h0
  rw [travT, if_neg (by simp [h0])]
  refine CallW.bool (vwithin_det v 8000) (fun b hb => ?_)
  refine Split.mk (fun h2 => ?_) (fun h2 => ?_)
  · rw [if_pos (by rw [← hb]; simpa using h2)]
    exact Fin.two rfl rfl
  rw [if_neg (by rw [← hb]; simpa using h2)]
  refine Loop.by (α := Nat) (fun k => [(0, .d (.one (ctS l))), (5, .ptr 5 0), (9, tint (travK l o v k)), (21, .d (.one (ilS o))), (22, tint o.length), (23, tint k)]) (fun k => [(5, .box (vL (headO l o v k)))]) (fun k => k ≤ o.length) (fun k => o.length - k)
    (Adj.at 0 (Nat.zero_le _) (.cons (.box (LLe.of_eq rfl)) .nil) (.cons .same (.cons (.box rfl rfl) (.cons .same (.cons .same (.cons .same (.cons .same .nil))))))) (fun k hk => ?_)
  refine Split.mk (fun h2 => ?_) (fun h2 => ?_)
  · have hlt : k < o.length := by have := of_decide_eq_true h2; omega
    obtain ⟨a1, a2, _⟩ := step_in (hst k hlt)
    refine Need.mk (by omega) ?_
    refine Need.mk ⟨a1, a2⟩ ?_
    refine CallW.int (dist_det (stO l (iGet o k)) (headO l o v k)) (fun d hd => ?_)
    refine Need.mk (by kernel_rfl) ?_
    refine Need.mk ⟨a1, a2⟩ ?_
    refine Need.mk ⟨a1, a2⟩ ?_
    refine Need.mk (ok_at h0' a1 a2) ?_
    refine Need.mk (by kernel_rfl) ?_
    refine Adj.back (x := k) (k + 1) (by omega) (by omega) (.cons (.box (LLe.of_eq rfl)) .nil) (.cons .same (.cons (.box rfl rfl) (.cons (SlotLe.int ?_) (.cons .same (.cons .same (.cons (SlotLe.int ?_) .nil))))))
    · rw [travK, ← hd]
    · rw [hw _ (by omega) (by omega)]; omega
  · have he : k = o.length := by have := of_decide_eq_false h2; omega
    subst he
    exact Fin.two rfl rfl
theorem rtravel_det (l : List Ct) (o : List Int) (v : V2) (hl : l.length ≤ 10000) (ho : o.length ≤ 10000) (hf : FewC l) : Det Try.prog 35 [.one (ctS l), .one (ilS o), vD v] (twoI (travT l o v).1 (travT l o v).2) := by
  refine det_of_awp TTok mixed Try.func35 rfl rfl [] (Nat.le_of_ble_eq_true rfl) ?_
  refine CallW.int (rchk47_det l o hl ho hf) (fun e he => ?_)
  refine Split.mk (fun h1 => ?_) (fun h1 => ?_)
  · have hne : chkT l o ≠ 0 := by rw [← he]; simpa using h1
    rw [travT, if_pos hne]
    exact Fin.two rfl he
  have h0 : chkT l o = 0 := by rw [← he]; simpa using h1
  obtain ⟨h0', hlen, hst⟩ := chkT_ok h0
  rw [travT, if_neg (by simp [h0])]
  refine CallW.int (ranged_det v) (fun b hb => ?_)
  refine Split.mk (fun h2 => ?_) (fun h2 => ?_)
  · have h2' : b ≠ 0 := by simpa using h2
    have hw : withinV v 8000 = false := by
      cases h : withinV v 8000
      · rfl
      · rw [if_pos h] at hb; exact absurd hb h2'
    rw [if_pos hw]
    rw [hw] at hb
    exact Fin.two rfl hb
  have hw : withinV v 8000 = true := by
    have h2' : b = 0 := by simpa using h2
    cases h : withinV v 8000
    · rw [h, h2'] at hb; cases hb
    · rfl
  rw [if_neg (by rw [hw]; simp)]
  refine Loop.by (α := Nat) (fun k => [(0, .d (.one (ctS l))), (1, .d (.one (ilS o))), (10, tint (travK l o v k)), (11, .ptr 11 0), (12, tint k)]) (fun k => [(11, .box (vL (headO l o v k)))]) (fun k => k ≤ o.length) (fun k => o.length - k)
    (Adj.at 0 (Nat.zero_le _) (.cons (.box (LLe.of_eq rfl)) .nil) (.cons .same (.cons .same (.cons .same (.cons (.box rfl rfl) (.cons .same .nil)))))) (fun k hk => ?_)
  refine Split.mk (fun h2 => ?_) (fun h2 => ?_)
  · have hlt : k < o.length := by have := of_decide_eq_true h2; omega
    obtain ⟨a1, a2, _⟩ := step_in (hst k hlt)
    refine Need.mk (by omega) ?_
    refine Need.mk ⟨a1, a2⟩ ?_
    refine CallW.int (rdist_det (stO l (iGet o k)) (headO l o v k)) (fun d hd => ?_)
    refine Need.mk (ok_at h0' a1 a2) ?_
    refine Adj.back (x := k) (k + 1) (by omega) (by omega) (.cons (.box (LLe.of_eq rfl)) .nil) (.cons .same (.cons .same (.cons (SlotLe.int ?_) (.cons (.box rfl rfl) (.cons (SlotLe.int ?_) .nil)))))
    · rw [travK, ← hd]
    · rw [Sg.hw _ (by omega) (by omega)]; omega
  · have he : k = o.length := by have := of_decide_eq_false h2; omega
    subst he
    exact Fin.two rfl rfl
end Sg
end Go.Vm
