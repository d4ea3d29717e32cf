/-
  Layer 37: contracts of joined and of the reference's Shaped.
-/
import Derived.Test.YtlpkgpldamhhbaaStpH
namespace Go.Vm
set_option maxRecDepth 20000
set_option linter.unusedVariables false
set_option linter.unusedSimpArgs false
open Go Go.RowKit Go.Proofs
namespace St

def allN : Nat → (Nat → Bool) → Bool
  | 0, _ => true
  | n + 1, P => allN n P && P n
theorem allN_iff {P : Nat → Bool} : ∀ {n : Nat}, allN n P = true ↔ ∀ i, i < n → P i = true
  | 0 => ⟨fun _ i h => absurd h (Nat.not_lt_zero _), fun _ => rfl⟩
  | n + 1 => by
    rw [allN, Bool.and_eq_true, allN_iff]
    constructor
    · rintro ⟨h1, h2⟩ i hi
      rcases Nat.lt_succ_iff_lt_or_eq.1 hi with hi | rfl
      · exact h1 i hi
      · exact h2
    · intro h
      exact ⟨fun i hi => h i (by omega), h n (by omega)⟩
def leafI (n : Nd) : Bool := decide (n.f = -1) && decide (n.s = -1)
def ndOkB (len i : Nat) (n : Nd) : Bool := (leafI n && !n.v) || (inB n.f (i + 1) (len - 1) && inB n.s (i + 1) (len - 1))
def incr (l : List Int) (j : Int) : List Int := l.set j.toNat (l.getD j.toNat 0 + 1)
def pT (t : List Nd) : Nat → List Int
  | 0 => List.replicate t.length 0
  | k + 1 => if leafI (ndget t k) = true then pT t k else incr (incr (pT t k) (ndget t k).f) (ndget t k).s
def joinB (t : List Nd) : Bool := allN t.length (fun i => ndOkB t.length i (ndget t i)) && (allN t.length (fun i => decide (i = 0) || decide (iget (pT t t.length) i = 1)) && inB t.length 1 4000)
theorem incr_len (l : List Int) (j : Int) : (incr l j).length = l.length := by simp [incr]
theorem pT_len (t : List Nd) : ∀ k, (pT t k).length = t.length
  | 0 => by simp [pT]
  | k + 1 => by
    rw [pT]
    split
    · exact pT_len t k
    · rw [incr_len, incr_len, pT_len t k]
theorem incr_at (l : List Int) (j : Int) (i : Nat) : (incr l j).getD i 0 = l.getD i 0 ∨ (incr l j).getD i 0 = l.getD i 0 + 1 := by
  unfold incr
  by_cases h : i = j.toNat
  · subst h
    by_cases hl : j.toNat < l.length
    · right; simp [List.getD, hl]
    · left; simp [List.getD, hl]
  · left; simp [List.getD, List.getElem?_set_ne (Ne.symm h)]
theorem pT_bd (t : List Nd) : ∀ k i, 0 ≤ (pT t k).getD i 0 ∧ (pT t k).getD i 0 ≤ 2 * k
  | 0, i => by
    have : (pT t 0).getD i 0 = 0 := by rw [pT, List.getD, List.getElem?_replicate]; split <;> rfl
    omega
  | k + 1, i => by
    have ih := pT_bd t k i
    rw [pT]
    split
    · omega
    · rcases incr_at (incr (pT t k) (ndget t k).f) (ndget t k).s i with h | h <;> rcases incr_at (pT t k) (ndget t k).f i with h' | h' <;> omega
theorem joined_det (t : List Nd) (hl : t.length ≤ 100000000) : Det Try.prog 56 [.one (ndS t)] (tbool (joinB t)) := by
  refine det_of_awp TTok mixed Try.func56 rfl rfl [10] (Nat.le_of_ble_eq_true rfl) ?_
  refine Need.mk (needMake (by omega)) ?_
  refine Loop.by (α := Nat) (fun k => [(0, .d (.one (ndS t))), (3, .hdl 9 0), (10, .d (.one (ndS t))), (11, tint t.length), (12, tint k)]) (fun k => [(9, .bld 0 t.length 1 3 (lG iL 0 (pT t k)))]) (fun k => k ≤ t.length ∧ ∀ i, i < k → ndOkB t.length i (ndget t i) = true) (fun k => t.length - k)
    (Adj.at 0 ⟨Nat.zero_le _, fun _ h => absurd h (Nat.not_lt_zero _)⟩ (.cons (.bldN (by omega) (fun i hi j hj => SLe.of_eq (lG_rep t.length i j (by omega) hj))) .nil) (.cons .same (.cons (.hdl rfl rfl) (.cons .same (.cons .same (.cons .same .nil)))))) (fun k hk => ?_)
  obtain ⟨hk, hx⟩ := hk
  refine Split.mk (fun h => ?_) (fun h => ?_)
  · have hlt : k < t.length := by have := of_decide_eq_true h; omega
    have bad : ndOkB t.length k (ndget t k) = false → false = joinB t := fun hb => by
      cases hq : joinB t with
      | false => rfl
      | true =>
        simp only [joinB, Bool.and_eq_true] at hq
        rw [allN_iff.1 hq.1 k hlt] at hb; cases hb
    have hpl := pT_len t k
    have hpn : pT t (k + 1) = if leafI (ndget t k) = true then pT t k else incr (incr (pT t k) (ndget t k).f) (ndget t k).s := rfl
    have e1 : IntKind.i64.wrap ((k : Int) + 1) = (k : Int) + 1 := by rw [hw _ (by omega) (by omega)]
    have e2 : IntKind.i64.wrap ((t.length : Int) - 1) = (t.length : Int) - 1 := by rw [hw _ (by omega) (by omega)]
    refine Need.mk (by omega) ?_
    show Split ((ndget t k).f == -1) _
    refine Split.mk (fun c1 => ?a1) (fun c1 => ?a2)
    case' a1 =>
      repeat' first | refine Split.isT c1 ?_ | refine Split.t ?_ | refine Split.f ?_ | fail
      refine Split.mk (fun c2 => ?b1) (fun c2 => ?b2)
    case' b1 =>
      repeat' first | refine Split.isT c1 ?_ | refine Split.isT c2 ?_ | refine Split.t ?_ | refine Split.f ?_ | fail
      have c1' : (ndget t k).f = -1 := eq_of_beq c1
      have c2' : (ndget t k).s = -1 := eq_of_beq c2
      have hleaf : leafI (ndget t k) = true := by rw [leafI, decide_eq_true c1', decide_eq_true c2']; rfl
      refine Split.mk (fun c3 => ?d1) (fun c3 => ?d2)
    case d1 =>
      repeat' first | refine Split.isT c3 ?_ | refine Split.t ?_ | refine Split.f ?_ | fail
      have c3' : (!(ndget t k).v) = true := c3
      have hok : ndOkB t.length k (ndget t k) = true := by rw [ndOkB, hleaf, c3']; rfl
      rw [if_pos hleaf] at hpn
      refine Adj.back (x := k) (k + 1) ⟨by omega, fun i hi => ?_⟩ (by omega) (.cons (.bld (fun i hi j hj => SLe.of_eq (by rw [hpn]))) .nil) (.cons .same (.cons (.hdl rfl rfl) (.cons .same (.cons .same (.cons (SlotLe.int (hS k (by omega))) .nil)))))
      rcases Nat.lt_succ_iff_lt_or_eq.1 hi with hi | rfl
      · exact hx i hi
      · exact hok
    case' d2 =>
      have hnl : ¬ (leafI (ndget t k) = true ∧ (ndget t k).v = false) := fun q => by
        have c3' : (!(ndget t k).v) = false := c3
        rw [q.2] at c3'; cases c3'
      repeat' first | refine Split.isF c3 ?_ | refine Split.t ?_ | refine Split.f ?_ | fail
      clear c1' c2' hleaf c3
    case' b2 =>
      have hnl : ¬ (leafI (ndget t k) = true ∧ (ndget t k).v = false) := fun q => by
        have := q.1
        have c2' : ¬ (ndget t k).s = -1 := ne_of_beq_false c2
        rw [leafI, decide_eq_false c2', Bool.and_false] at this
        cases this
      repeat' first | refine Split.isT c1 ?_ | refine Split.isF c2 ?_ | refine Split.t ?_ | refine Split.f ?_ | fail
    case' a2 =>
      have hnl : ¬ (leafI (ndget t k) = true ∧ (ndget t k).v = false) := fun q => by
        have := q.1
        have c1' : ¬ (ndget t k).f = -1 := ne_of_beq_false c1
        rw [leafI, decide_eq_false c1', Bool.false_and] at this
        cases this
      repeat' first | refine Split.isF c1 ?_ | refine Split.t ?_ | refine Split.f ?_ | fail
    all_goals
      refine CallW.bool ((in_det (ndget t k).f (k + 1) (t.length - 1)).le (.cons (DLe.refl _) (.cons (DLe.of_eq (by rw [e1])) (.cons (DLe.of_eq (by rw [e2])) .nil)))) (fun b1 hb1 => ?_)
      refine Split.mk (fun d1 => ?_) (fun d1 => ?_)
      · repeat' first | refine Split.isT d1 ?_ | refine Split.t ?_ | refine Split.f ?_ | fail
        refine Fin.bool (bad ?_)
        have i1 : inB (ndget t k).f (k + 1) (t.length - 1) = false := by rw [← hb1]; simpa using d1
        simp only [ndOkB, i1, Bool.false_and, Bool.or_false]
        cases hq : leafI (ndget t k) && !(ndget t k).v with
        | false => rfl
        | true => exact absurd (by rw [Bool.and_eq_true, Bool.not_eq_true'] at hq; exact hq) hnl
      repeat' first | refine Split.isF d1 ?_ | refine Split.t ?_ | refine Split.f ?_ | fail
      refine CallW.bool ((in_det (ndget t k).s (k + 1) (t.length - 1)).le (.cons (DLe.refl _) (.cons (DLe.of_eq (by rw [e1])) (.cons (DLe.of_eq (by rw [e2])) .nil)))) (fun b2 hb2 => ?_)
      repeat' first | refine Split.isF d1 ?_ | refine Split.t ?_ | refine Split.f ?_ | fail
      refine Split.mk (fun d2 => ?_) (fun d2 => ?_)
      · refine Fin.bool (bad ?_)
        have i2 : inB (ndget t k).s (k + 1) (t.length - 1) = false := by rw [← hb2]; simpa using d2
        simp only [ndOkB, i2, Bool.and_false, Bool.or_false]
        cases hq : leafI (ndget t k) && !(ndget t k).v with
        | false => rfl
        | true => exact absurd (by rw [Bool.and_eq_true, Bool.not_eq_true'] at hq; exact hq) hnl
      have i1 : inB (ndget t k).f (k + 1) (t.length - 1) = true := by rw [← hb1]; simpa using d1
      have i2 : inB (ndget t k).s (k + 1) (t.length - 1) = true := by rw [← hb2]; simpa using d2
      have hok : ndOkB t.length k (ndget t k) = true := by rw [ndOkB, i1, i2, Bool.and_self, Bool.or_true]
      rw [inB_iff] at i1 i2
      have hnleaf : ¬ leafI (ndget t k) = true := fun q => by
        simp only [leafI, Bool.and_eq_true, decide_eq_true_eq] at q; omega
      rw [if_neg hnleaf] at hpn
      have j1 : 0 ≤ (t.getD ((k : Int)).toNat nd0).f ∧ (t.getD ((k : Int)).toNat nd0).f < (t.length : Int) := (⟨by omega, by omega⟩ : 0 ≤ (ndget t k).f ∧ (ndget t k).f < (t.length : Int))
      have j2 : 0 ≤ (t.getD ((k : Int)).toNat nd0).s ∧ (t.getD ((k : Int)).toNat nd0).s < (t.length : Int) := (⟨by omega, by omega⟩ : 0 ≤ (ndget t k).s ∧ (ndget t k).s < (t.length : Int))
      refine Need.mk j1 ?_
      refine Need.mk j1 ?_
      have bd := pT_bd t k (ndget t k).f.toNat
      have bd2 : 0 ≤ (incr (pT t k) (ndget t k).f).getD (ndget t k).s.toNat 0 ∧ (incr (pT t k) (ndget t k).f).getD (ndget t k).s.toNat 0 ≤ 2 * k + 1 := by
        have := pT_bd t k (ndget t k).s.toNat
        rcases incr_at (pT t k) (ndget t k).f (ndget t k).s.toNat with h | h <;> omega
      have w1 : IntKind.i64.wrap ((pT t k).getD (ndget t k).f.toNat 0 + 1) = (pT t k).getD (ndget t k).f.toNat 0 + 1 := hw _ (by omega) (by omega)
      have w2 : IntKind.i64.wrap ((incr (pT t k) (ndget t k).f).getD (ndget t k).s.toNat 0 + 1) = (incr (pT t k) (ndget t k).f).getD (ndget t k).s.toNat 0 + 1 := hw _ (by omega) (by omega)
      refine Cut.mk (Adj.keep [(0, .d (.one (ndS t))), (3, .hdl 9 0), (10, .d (.one (ndS t))), (11, tint t.length), (12, tint k), (5, .ptr 5 0)] [(9, .bld 0 t.length 1 3 (lG iL 0 (incr (pT t k) (ndget t k).f))), (5, .box (ndL (ndget t k)))] (.cons (.bld (fun i hi j hj => ?_)) (.cons (.box (LLe.of_eq rfl)) .nil)) (.cons .same (.cons (.hdl rfl rfl) (.cons .same (.cons .same (.cons .same (.cons (.box rfl rfl) .nil)))))) ?_)
      · exact lG_set iL 0 (pT t k) ((pT t k).getD (ndget t k).f.toNat 0 + 1) (ndget t k).f.toNat i j 1 [i64 (IntKind.i64.wrap ((pT t k).getD (ndget t k).f.toNat 0 + 1))] (by rw [w1]) (by rw [hpl]; exact hi) hj
      refine Need.mk j2 ?_
      refine Need.mk j2 ?_
      refine Adj.back (x := k) (k + 1) ⟨by omega, fun i hi => ?_⟩ (by omega) (.cons (.bld (fun i hi j hj => ?_)) .nil) (.cons .same (.cons (.hdl rfl rfl) (.cons .same (.cons .same (.cons (SlotLe.int (hS k (by omega))) .nil)))))
      · rcases Nat.lt_succ_iff_lt_or_eq.1 hi with hi | rfl
        · exact hx i hi
        · exact hok
      · rw [hpn]
        exact lG_set iL 0 (incr (pT t k) (ndget t k).f) ((incr (pT t k) (ndget t k).f).getD (ndget t k).s.toNat 0 + 1) (ndget t k).s.toNat i j 1 [i64 (IntKind.i64.wrap ((incr (pT t k) (ndget t k).f).getD (ndget t k).s.toNat 0 + 1))] (by rw [w2]) (by rw [incr_len, hpl]; exact hi) hj
  · have he : k = t.length := by have := of_decide_eq_false h; omega
    subst he
    refine Loop.by (α := Nat) (fun i => [(0, .d (.one (ndS t))), (3, .hdl 9 0), (6, tint i)]) (fun i => [(9, .bld 0 t.length 1 3 (lG iL 0 (pT t t.length)))]) (fun k => 1 ≤ k ∧ (1 ≤ t.length → k ≤ t.length) ∧ ∀ i, 1 ≤ i → i < k → iget (pT t t.length) i = 1) (fun k => t.length - k)
      (Adj.at 1 ⟨Nat.le_refl _, fun h => h, fun i h1 h2 => by omega⟩ (.cons (.bld (fun _ _ _ _ => SLe.refl _)) .nil) (.cons .same (.cons (.hdl rfl rfl) (.cons .same .nil)))) (fun k hk => ?_)
    obtain ⟨k1, k2, k3⟩ := hk
    refine Split.mk (fun h => ?_) (fun h => ?_)
    · have hlt : k < t.length := by have := of_decide_eq_true h; omega
      refine Need.mk (by omega) ?_
      show Split (iget (pT t t.length) k != 1) _
      refine Split.mk (fun c => ?_) (fun c => ?_)
      · refine Fin.bool ?_
        have c' : iget (pT t t.length) k ≠ 1 := by simpa using c
        cases hq : joinB t with
        | false => rfl
        | true =>
          simp only [joinB, Bool.and_eq_true] at hq
          have := allN_iff.1 hq.2.1 k hlt
          simp only [Bool.or_eq_true, decide_eq_true_eq] at this
          omega
      · refine Adj.back (x := k) (k + 1) ⟨by omega, fun _ => by omega, fun i h1 h2 => ?_⟩ (by omega) (.cons (.bld (fun _ _ _ _ => SLe.refl _)) .nil) (.cons .same (.cons (.hdl rfl rfl) (.cons (SlotLe.int (hS k (by omega))) .nil)))
        rcases Nat.lt_succ_iff_lt_or_eq.1 h2 with h2 | rfl
        · exact k3 i h1 h2
        · have : iget (pT t t.length) i = 1 := by simpa using c
          exact this
    · have hge : t.length ≤ k := by have := of_decide_eq_false h; omega
      refine CallW.bool (in_det t.length 1 4000) (fun b hb => ?_)
      refine Fin.bool ?_
      have a1 : allN t.length (fun i => ndOkB t.length i (ndget t i)) = true := allN_iff.2 hx
      have a2 : allN t.length (fun i => decide (i = 0) || decide (iget (pT t t.length) i = 1)) = true := allN_iff.2 (fun i hi => by
        by_cases h0 : i = 0
        · rw [decide_eq_true h0]; rfl
        · rw [decide_eq_true (k3 i (by omega) (by omega)), Bool.or_true])
      rw [joinB, a1, a2, hb]
      rfl
end St
end Go.Vm
