/-
  Layer 37: contracts of the reference's leaf, whole, piece, Shaped, Value and Counts.
  Layer 37: contracts of both Places; the pieces are apart; the law Places.
-/
import Derived.Test.YtfoblfchkgapoaaStpN
namespace Go.Vm
set_option maxRecDepth 20000
set_option linter.unusedVariables false
set_option linter.unusedSimpArgs false
open Go Go.RowKit Go.Proofs
namespace St

theorem rleaf_det (n : Nd) : Det Try.prog 55 [.agg (ndL n)] (tbool (leafI n)) := by
  refine det_of_awp TTok mixed Try.func55 rfl rfl [] (Nat.le_of_ble_eq_true rfl) ?_
  refine Split.mk (fun c1 => ?_) (fun c1 => ?_)
  · repeat' first | refine Split.isT c1 ?_ | refine Split.t ?_ | refine Split.f ?_ | fail
    refine Fin.bool ?_
    rw [leafI, decide_eq_true (eq_of_beq c1), Bool.true_and]
    rfl
  · repeat' first | refine Split.isF c1 ?_ | refine Split.t ?_ | refine Split.f ?_ | fail
    refine Fin.bool ?_
    rw [leafI, decide_eq_false (ne_of_beq_false c1), Bool.false_and]
theorem rpiece_det (n : Nd) : Det Try.prog 53 [.agg (ndL n)] (tbool (leafP n)) := by
  refine det_of_awp TTok mixed Try.func53 rfl rfl [] (Nat.le_of_ble_eq_true rfl) ?_
  have e : leafP n = (leafI n && (decide (n.a = 0) && !n.v)) := by simp [leafP, leafI, Bool.and_assoc]
  rw [e]
  refine CallW.bool (rleaf_det n) (fun b hb => ?_)
  rw [← hb]
  refine Split.mk (fun c1 => ?_) (fun c1 => ?_)
  · repeat' first | refine Split.isT c1 ?_ | refine Split.t ?_ | refine Split.f ?_ | fail
    refine Split.mk (fun c2 => ?_) (fun c2 => ?_)
    · repeat' first | refine Split.isT c1 ?_ | refine Split.isT c2 ?_ | refine Split.t ?_ | refine Split.f ?_ | fail
      refine Fin.bool ?_
      rw [c1, decide_eq_true (eq_of_beq c2), Bool.true_and, Bool.true_and]
    · repeat' first | refine Split.isT c1 ?_ | refine Split.isF c2 ?_ | refine Split.t ?_ | refine Split.f ?_ | fail
      refine Fin.bool ?_
      rw [decide_eq_false (ne_of_beq_false c2), Bool.false_and, Bool.and_false]
  · repeat' first | refine Split.isF c1 ?_ | refine Split.t ?_ | refine Split.f ?_ | fail
    refine Fin.bool ?_
    rw [c1, Bool.false_and]
def wholeB (n : Nd) : Bool := if leafI n = true then decide (n.a = 0) else decide (n.k = -1)
theorem rwhole_det (n : Nd) : Det Try.prog 98 [.agg (ndL n)] (tbool (wholeB n)) := by
  refine det_of_awp TTok mixed Try.func98 rfl rfl [] (Nat.le_of_ble_eq_true rfl) ?_
  have h2 := rleaf_det n
  refine CallW.bool (rleaf_det n) (fun b hb => ?_)
  refine Split.mk (fun c1 => ?_) (fun c1 => ?_)
  · have hl : leafI n = true := hb.symm.trans c1
    rw [hl] at h2
    rw [wholeB, if_pos hl]
    repeat' first | refine Split.isT c1 ?_ | refine Split.t ?_ | refine Split.f ?_ | fail
    refine Split.mk (fun c2 => ?_) (fun c2 => ?_)
    · repeat' first | refine Split.isT c1 ?_ | refine Split.isT c2 ?_ | refine Split.t ?_ | refine Split.f ?_ | fail
      refine Fin.bool ?_
      rw [decide_eq_true (eq_of_beq c2)]
    · repeat' first | refine Split.isT c1 ?_ | refine Split.isF c2 ?_ | refine Split.t ?_ | refine Split.f ?_ | fail
      refine CallW.mk' h2 ?_
      repeat' first | refine Split.isT c1 ?_ | refine Split.isF c2 ?_ | refine Split.t ?_ | refine Split.f ?_ | fail
      refine Fin.bool ?_
      rw [decide_eq_false (ne_of_beq_false c2)]
  · have hl : leafI n = false := hb.symm.trans c1
    rw [hl] at h2
    rw [wholeB, if_neg (by rw [hl]; simp)]
    repeat' first | refine Split.isF c1 ?_ | refine Split.t ?_ | refine Split.f ?_ | fail
    refine CallW.mk' h2 ?_
    repeat' first | refine Split.isF c1 ?_ | refine Split.t ?_ | refine Split.f ?_ | fail
    refine Fin.bool ?_
    cases hq : n.k == -1 with
    | true => rw [decide_eq_true (eq_of_beq hq)]
    | false => rw [decide_eq_false (ne_of_beq_false hq)]
theorem shaped_det (t : List Nd) (hl : t.length ≤ 100000000) : Det Try.prog 54 [.one (ndS t)] (tbool (joinB t)) := by
  refine det_of_awp TTok mixed Try.func54 rfl rfl [15] (Nat.le_of_ble_eq_true rfl) ?_
  have short : ¬ (1 ≤ t.length ∧ t.length ≤ 4000) → false = joinB t := fun h => by
    cases hq : joinB t with
    | false => rfl
    | true =>
      simp only [joinB, Bool.and_eq_true, inB_iff] at hq
      omega
  refine Split.mk (fun c1 => ?_) (fun c1 => ?_)
  · repeat' first | refine Split.isT c1 ?_ | refine Split.t ?_ | refine Split.f ?_ | fail
    exact Fin.bool (short (by have := of_decide_eq_true c1; omega))
  repeat' first | refine Split.isF c1 ?_ | refine Split.t ?_ | refine Split.f ?_ | fail
  refine Split.mk (fun c2 => ?_) (fun c2 => ?_)
  · exact Fin.bool (short (by have := of_decide_eq_true c2; omega))
  have l1 : 1 ≤ t.length := by have := of_decide_eq_false c1; omega
  have l2 : t.length ≤ 4000 := by have := of_decide_eq_false c2; omega
  refine Need.mk (needMake (by omega)) ?_
  refine Loop.by (α := Nat) (fun k => [(0, .d (.one (ndS t))), (3, .hdl 17 0), (4, tint k)]) (fun k => [(17, .bld 0 t.length 1 3 (lG iL 0 (pT t k)))]) (fun k => k ≤ t.length ∧ ∀ i, i < k → ndOkB t.length i (ndget t i) = true) (fun k => t.length - k)
    (Adj.at 0 ⟨Nat.zero_le _, fun _ h => absurd h (Nat.not_lt_zero _)⟩ (.cons (.bldN (by omega) (fun i hi j hj => SLe.of_eq (lG_rep t.length i j (by omega) hj))) .nil) (.cons .same (.cons (.hdl rfl rfl) (.cons .same .nil)))) (fun k hk => ?_)
  obtain ⟨hk, hx⟩ := hk
  refine Split.mk (fun h => ?_) (fun h => ?_)
  · have hlt : k < t.length := by have := of_decide_eq_true h; omega
    have bad : ndOkB t.length k (ndget t k) = false → false = joinB t := fun hb => by
      cases hq : joinB t with
      | false => rfl
      | true =>
        simp only [joinB, Bool.and_eq_true] at hq
        rw [allN_iff.1 hq.1 k hlt] at hb; cases hb
    have hpl := pT_len t k
    have hpn : pT t (k + 1) = if leafI (ndget t k) = true then pT t k else incr (incr (pT t k) (ndget t k).f) (ndget t k).s := rfl
    refine Need.mk (by omega) ?_
    refine CallW.bool (rleaf_det (ndget t k)) (fun b hb => ?_)
    refine Split.mk (fun c3 => ?_) (fun c3 => ?_)
    · have hleaf : leafI (ndget t k) = true := hb.symm.trans c3
      have hfs := hleaf
      simp only [leafI, Bool.and_eq_true, decide_eq_true_eq] at hfs
      show Split (ndget t k).v _
      refine Split.mk (fun c4 => ?_) (fun c4 => ?_)
      · have c4' : (ndget t k).v = true := c4
        refine Fin.bool (bad ?_)
        cases hq : ndOkB t.length k (ndget t k) with
        | false => rfl
        | true =>
          rw [ndOkB, c4', Bool.not_true, Bool.and_false, Bool.false_or, Bool.and_eq_true, inB_iff, inB_iff] at hq
          omega
      · have c4' : (ndget t k).v = false := c4
        have hok : ndOkB t.length k (ndget t k) = true := by rw [ndOkB, hleaf, c4']; rfl
        rw [if_pos hleaf] at hpn
        refine Adj.back (x := k) (k + 1) ⟨by omega, fun i hi => ?_⟩ (by omega) (.cons (.bld (fun i hi j hj => SLe.of_eq (by rw [hpn]))) .nil) (.cons .same (.cons (.hdl rfl rfl) (.cons (SlotLe.int (hS k (by omega))) .nil)))
        rcases Nat.lt_succ_iff_lt_or_eq.1 hi with hi | rfl
        · exact hx i hi
        · exact hok
    have hnleaf : leafI (ndget t k) = false := hb.symm.trans c3
    have hiff : ndOkB t.length k (ndget t k) = (inB (ndget t k).f (k + 1) (t.length - 1) && inB (ndget t k).s (k + 1) (t.length - 1)) := by rw [ndOkB, hnleaf, Bool.false_and, Bool.false_or]
    have bad2 : ¬ (((k : Int) + 1 ≤ (ndget t k).f ∧ (ndget t k).f ≤ t.length - 1) ∧ ((k : Int) + 1 ≤ (ndget t k).s ∧ (ndget t k).s ≤ t.length - 1)) → false = joinB t := fun hb => bad (by
      rw [hiff]
      cases hq : inB (ndget t k).f (k + 1) (t.length - 1) && inB (ndget t k).s (k + 1) (t.length - 1) with
      | false => rfl
      | true =>
        rw [Bool.and_eq_true, inB_iff, inB_iff] at hq
        exact absurd hq hb)
    show Split (decide ((ndget t k).f ≤ (k : Int))) _
    refine Split.mk (fun d1 => ?_) (fun d1 => ?_)
    · repeat' first | refine Split.isT d1 ?_ | refine Split.t ?_ | refine Split.f ?_ | fail
      exact Fin.bool (bad2 (fun q => by have : (ndget t k).f ≤ (k : Int) := of_decide_eq_true d1; omega))
    repeat' first | refine Split.isF d1 ?_ | refine Split.t ?_ | refine Split.f ?_ | fail
    show Split (decide ((ndget t k).f ≥ (t.length : Int))) _
    refine Split.mk (fun d2 => ?_) (fun d2 => ?_)
    · repeat' first | refine Split.isF d1 ?_ | refine Split.isT d2 ?_ | refine Split.t ?_ | refine Split.f ?_ | fail
      exact Fin.bool (bad2 (fun q => by have : (ndget t k).f ≥ (t.length : Int) := of_decide_eq_true d2; omega))
    repeat' first | refine Split.isF d1 ?_ | refine Split.isF d2 ?_ | refine Split.t ?_ | refine Split.f ?_ | fail
    show Split (decide ((ndget t k).s ≤ (k : Int))) _
    refine Split.mk (fun d3 => ?_) (fun d3 => ?_)
    · repeat' first | refine Split.isF d1 ?_ | refine Split.isF d2 ?_ | refine Split.isT d3 ?_ | refine Split.t ?_ | refine Split.f ?_ | fail
      exact Fin.bool (bad2 (fun q => by have : (ndget t k).s ≤ (k : Int) := of_decide_eq_true d3; omega))
    repeat' first | refine Split.isF d1 ?_ | refine Split.isF d2 ?_ | refine Split.isF d3 ?_ | refine Split.t ?_ | refine Split.f ?_ | fail
    show Split (decide ((ndget t k).s ≥ (t.length : Int))) _
    refine Split.mk (fun d4 => ?_) (fun d4 => ?_)
    · exact Fin.bool (bad2 (fun q => by have : (ndget t k).s ≥ (t.length : Int) := of_decide_eq_true d4; omega))
    have i1 : (k : Int) + 1 ≤ (ndget t k).f ∧ (ndget t k).f ≤ t.length - 1 := by
      have e1 : ¬ (ndget t k).f ≤ (k : Int) := of_decide_eq_false d1
      have e2 : ¬ (ndget t k).f ≥ (t.length : Int) := of_decide_eq_false d2
      omega
    have i2 : (k : Int) + 1 ≤ (ndget t k).s ∧ (ndget t k).s ≤ t.length - 1 := by
      have e1 : ¬ (ndget t k).s ≤ (k : Int) := of_decide_eq_false d3
      have e2 : ¬ (ndget t k).s ≥ (t.length : Int) := of_decide_eq_false d4
      omega
    have hok : ndOkB t.length k (ndget t k) = true := by rw [hiff, inB_iff.2 i1, inB_iff.2 i2]; rfl
    rw [if_neg (by rw [hnleaf]; simp)] at hpn
    have j1 : 0 ≤ (t.getD ((k : Int)).toNat nd0).f ∧ (t.getD ((k : Int)).toNat nd0).f < (t.length : Int) := (⟨by omega, by omega⟩ : 0 ≤ (ndget t k).f ∧ (ndget t k).f < (t.length : Int))
    have j2 : 0 ≤ (t.getD ((k : Int)).toNat nd0).s ∧ (t.getD ((k : Int)).toNat nd0).s < (t.length : Int) := (⟨by omega, by omega⟩ : 0 ≤ (ndget t k).s ∧ (ndget t k).s < (t.length : Int))
    refine Need.mk j1 ?_
    refine Need.mk j1 ?_
    have bd := pT_bd t k (ndget t k).f.toNat
    have bd2 : 0 ≤ (incr (pT t k) (ndget t k).f).getD (ndget t k).s.toNat 0 ∧ (incr (pT t k) (ndget t k).f).getD (ndget t k).s.toNat 0 ≤ 2 * k + 1 := by
      have := pT_bd t k (ndget t k).s.toNat
      rcases incr_at (pT t k) (ndget t k).f (ndget t k).s.toNat with h | h <;> omega
    have w1 : IntKind.i64.wrap ((pT t k).getD (ndget t k).f.toNat 0 + 1) = (pT t k).getD (ndget t k).f.toNat 0 + 1 := hw _ (by omega) (by omega)
    have w2 : IntKind.i64.wrap ((incr (pT t k) (ndget t k).f).getD (ndget t k).s.toNat 0 + 1) = (incr (pT t k) (ndget t k).f).getD (ndget t k).s.toNat 0 + 1 := hw _ (by omega) (by omega)
    refine Cut.mk (Adj.keep [(0, .d (.one (ndS t))), (3, .hdl 17 0), (4, tint k), (5, .ptr 5 0)] [(17, .bld 0 t.length 1 3 (lG iL 0 (incr (pT t k) (ndget t k).f))), (5, .box (ndL (ndget t k)))] (.cons (.bld (fun i hi j hj => ?_)) (.cons (.box (LLe.of_eq rfl)) .nil)) (.cons .same (.cons (.hdl rfl rfl) (.cons .same (.cons (.box rfl rfl) .nil)))) ?_)
    · exact lG_set iL 0 (pT t k) ((pT t k).getD (ndget t k).f.toNat 0 + 1) (ndget t k).f.toNat i j 1 [i64 (IntKind.i64.wrap ((pT t k).getD (ndget t k).f.toNat 0 + 1))] (by rw [w1]) (by rw [hpl]; exact hi) hj
    refine Need.mk j2 ?_
    refine Need.mk j2 ?_
    refine Adj.back (x := k) (k + 1) ⟨by omega, fun i hi => ?_⟩ (by omega) (.cons (.bld (fun i hi j hj => ?_)) .nil) (.cons .same (.cons (.hdl rfl rfl) (.cons (SlotLe.int (hS k (by omega))) .nil)))
    · rcases Nat.lt_succ_iff_lt_or_eq.1 hi with hi | rfl
      · exact hx i hi
      · exact hok
    · rw [hpn]
      exact lG_set iL 0 (incr (pT t k) (ndget t k).f) ((incr (pT t k) (ndget t k).f).getD (ndget t k).s.toNat 0 + 1) (ndget t k).s.toNat i j 1 [i64 (IntKind.i64.wrap ((incr (pT t k) (ndget t k).f).getD (ndget t k).s.toNat 0 + 1))] (by rw [w2]) (by rw [incr_len, hpl]; exact hi) hj
  · have he : k = t.length := by have := of_decide_eq_false h; omega
    subst he
    refine Loop.by (α := Nat) (fun i => [(0, .d (.one (ndS t))), (3, .hdl 17 0), (6, tint i)]) (fun i => [(17, .bld 0 t.length 1 3 (lG iL 0 (pT t t.length)))]) (fun k => 1 ≤ k ∧ k ≤ t.length ∧ ∀ i, 1 ≤ i → i < k → iget (pT t t.length) i = 1) (fun k => t.length - k)
      (Adj.at 1 ⟨Nat.le_refl _, l1, fun i h1 h2 => by omega⟩ (.cons (.bld (fun _ _ _ _ => SLe.refl _)) .nil) (.cons .same (.cons (.hdl rfl rfl) (.cons .same .nil)))) (fun k hk => ?_)
    obtain ⟨k1, k2, k3⟩ := hk
    refine Split.mk (fun h => ?_) (fun h => ?_)
    · have hlt : k < t.length := by have := of_decide_eq_true h; omega
      refine Need.mk (by omega) ?_
      show Split (iget (pT t t.length) k != 1) _
      refine Split.mk (fun c => ?_) (fun c => ?_)
      · refine Fin.bool ?_
        have c' : iget (pT t t.length) k ≠ 1 := by simpa using c
        cases hq : joinB t with
        | false => rfl
        | true =>
          simp only [joinB, Bool.and_eq_true] at hq
          have := allN_iff.1 hq.2.1 k hlt
          simp only [Bool.or_eq_true, decide_eq_true_eq] at this
          omega
      · refine Adj.back (x := k) (k + 1) ⟨by omega, by omega, fun i h1 h2 => ?_⟩ (by omega) (.cons (.bld (fun _ _ _ _ => SLe.refl _)) .nil) (.cons .same (.cons (.hdl rfl rfl) (.cons (SlotLe.int (hS k (by omega))) .nil)))
        rcases Nat.lt_succ_iff_lt_or_eq.1 h2 with h2 | rfl
        · exact k3 i h1 h2
        · have : iget (pT t t.length) i = 1 := by simpa using c
          exact this
    · have hge : t.length ≤ k := by have := of_decide_eq_false h; omega
      refine Fin.bool ?_
      have a1 : allN t.length (fun i => ndOkB t.length i (ndget t i)) = true := allN_iff.2 hx
      have a2 : allN t.length (fun i => decide (i = 0) || decide (iget (pT t t.length) i = 1)) = true := allN_iff.2 (fun i hi => by
        by_cases h0 : i = 0
        · rw [decide_eq_true h0]; rfl
        · rw [decide_eq_true (k3 i (by omega) (by omega)), Bool.or_true])
      have a3 : inB t.length 1 4000 = true := inB_iff.2 ⟨by omega, by omega⟩
      rw [joinB, a1, a2, a3]
      rfl
theorem rvalue_det (t : List Nd) (ks : List Knd) (hl : t.length ≤ 100000000) (hk : ks.length ≤ 100000000) : Det Try.prog 22 [.one (ndS t), .one (kS ks)] (tint (valS t ks t.length)) := by
  refine det_of_awp TTok mixed Try.func22 rfl rfl [] (Nat.le_of_ble_eq_true rfl) ?_
  refine Loop.by (α := Nat) (fun k => [(0, .d (.one (ndS t))), (1, .d (.one (kS ks))), (5, tint (valS t ks k)), (6, tint k)]) (fun _ => []) (fun k => k ≤ t.length) (fun k => t.length - k)
    (Adj.at 0 (Nat.zero_le _) .nil (.cons .same (.cons .same (.cons .same (.cons .same .nil))))) (fun k hk' => ?_)
  refine Split.mk (fun h => ?_) (fun h => ?_)
  · have hlt : k < t.length := by have := of_decide_eq_true h; omega
    have hvn : valS t ks (k + 1) = if leafP (ndget t k) = true ∧ inB (ndget t k).k 0 (ks.length - 1) = true then w64 (valS t ks k + (kget ks (ndget t k).k.toNat).v) else valS t ks k := rfl
    refine Need.mk (by omega) ?_
    refine Need.mk (by omega) ?_
    refine CallW.bool (rpiece_det (ndget t k)) (fun b hb => ?_)
    refine Split.mk (fun c1 => ?_) (fun c1 => ?_)
    · repeat' first | refine Split.isT c1 ?_ | refine Split.t ?_ | refine Split.f ?_ | fail
      show Split (decide ((ndget t k).k ≥ 0)) _
      refine Split.mk (fun c2 => ?_) (fun c2 => ?_)
      · have c2' : (ndget t k).k ≥ 0 := of_decide_eq_true c2
        repeat' first | refine Split.isT c1 ?_ | refine Split.isT c2 ?_ | refine Split.t ?_ | refine Split.f ?_ | fail
        show Split (decide ((ndget t k).k < (ks.length : Int))) _
        refine Split.mk (fun c3 => ?_) (fun c3 => ?_)
        · have c3' : (ndget t k).k < (ks.length : Int) := of_decide_eq_true c3
          refine Need.mk (⟨c2', c3'⟩ : 0 ≤ (ndget t k).k ∧ (ndget t k).k < (ks.length : Int)) ?_
          exact Adj.back (x := k) (k + 1) (by omega) (by omega) .nil (.cons .same (.cons .same (.cons (SlotLe.int (hvn.trans (if_pos ⟨hb.symm.trans c1, inB_iff.2 ⟨c2', by omega⟩⟩)).symm) (.cons (SlotLe.int (hS k (by omega))) .nil))))
        · have c3' : ¬ (ndget t k).k < (ks.length : Int) := of_decide_eq_false c3
          exact Adj.back (x := k) (k + 1) (by omega) (by omega) .nil (.cons .same (.cons .same (.cons (SlotLe.int (hvn.trans (if_neg (fun q => by have := inB_iff.1 q.2; omega))).symm) (.cons (SlotLe.int (hS k (by omega))) .nil))))
      · have c2' : ¬ (ndget t k).k ≥ 0 := of_decide_eq_false c2
        repeat' first | refine Split.isT c1 ?_ | refine Split.isF c2 ?_ | refine Split.t ?_ | refine Split.f ?_ | fail
        exact Adj.back (x := k) (k + 1) (by omega) (by omega) .nil (.cons .same (.cons .same (.cons (SlotLe.int (hvn.trans (if_neg (fun q => by have := inB_iff.1 q.2; omega))).symm) (.cons (SlotLe.int (hS k (by omega))) .nil))))
    · repeat' first | refine Split.isF c1 ?_ | refine Split.t ?_ | refine Split.f ?_ | fail
      exact Adj.back (x := k) (k + 1) (by omega) (by omega) .nil (.cons .same (.cons .same (.cons (SlotLe.int (hvn.trans (if_neg (fun q => by rw [← hb, c1] at q; cases q.1))).symm) (.cons (SlotLe.int (hS k (by omega))) .nil))))
  · have he : k = t.length := by have := of_decide_eq_false h; omega
    refine Fin.int ?_
    rw [he]
end St
end Go.Vm
namespace Go.Vm
set_option maxRecDepth 20000
set_option linter.unusedVariables false
set_option linter.unusedSimpArgs false
open Go Go.RowKit Go.Proofs
namespace St

structure Pl where
  k : Int
  x : Int
  y : Int
abbrev plL (p : Pl) : List SV := [i64 p.k, i64 p.x, i64 p.y]
abbrev pl0 : Pl := ⟨0, 0, 0⟩
abbrev plS (l : List Pl) : SV := .sl l.length 3 (lG plL pl0 l)
abbrev plget (l : List Pl) (i : Nat) : Pl := l.getD i pl0
def plOf (t : List Nd) (R : List Rc) (i : Nat) : Pl := ⟨(ndget t i).k, (rcget R i).x, (rcget R i).y⟩
def plIx (t : List Nd) : Nat → List Nat
  | 0 => []
  | k + 1 => if 0 ≤ (ndget t k).k then plIx t k ++ [k] else plIx t k
def plT (t : List Nd) (R : List Rc) (k : Nat) : List Pl := (plIx t k).map (plOf t R)
theorem plT_succ (t : List Nd) (R : List Rc) (k : Nat) : plT t R (k + 1) = if 0 ≤ (ndget t k).k then plT t R k ++ [plOf t R k] else plT t R k := by
  unfold plT
  rw [plIx]
  split
  · rw [List.map_append]; rfl
  · rfl
theorem plIx_len (t : List Nd) : ∀ k, (plIx t k).length ≤ k
  | 0 => Nat.le_refl _
  | k + 1 => by
    have := plIx_len t k
    rw [plIx]
    split
    · rw [List.length_append, List.length_singleton]; omega
    · omega
theorem plT_len (t : List Nd) (R : List Rc) (k : Nat) : (plT t R k).length ≤ k := by
  unfold plT
  rw [List.length_map]
  exact plIx_len t k
def placesR (t : List Nd) (ks : List Knd) (w h kerf : Int) : List Pl × Int := if validB t ks w h kerf = true then (plT t (rT t w h kerf t.length) t.length, 0) else ([], 1)
abbrev plE (x : List Pl × Int) : TV := .tup [.one (plS x.1), .one (i64 x.2)]
theorem CallW.pls {P : Program} {f : FuncId} {args : List DV} {K : TV → Prop} {a : List Pl × Int} (h : Det P f args (plE a)) (kk : ∀ x, x = a → K (plE x)) : CallW P f args K := ⟨_, h, kk a rfl⟩
def apartB (a n b m kerf : Int) : Bool := decide (a + n + kerf ≤ b) || decide (b + m + kerf ≤ a)
structure Sm (n : Int) : Prop where
  lo : -1000000 ≤ n
  hi : n ≤ 1000000
/-! ### the pieces are apart -/
structure Full (r : Rc) : Prop where
  w : 1 ≤ r.w
  h : 1 ≤ r.h
def Ap (kerf : Int) (r s : Rc) : Prop := r.x + r.w + kerf ≤ s.x ∨ s.x + s.w + kerf ≤ r.x ∨ r.y + r.h + kerf ≤ s.y ∨ s.y + s.h + kerf ≤ r.y
structure Sub (r s : Rc) : Prop where
  x : s.x ≤ r.x
  y : s.y ≤ r.y
  w : r.x + r.w ≤ s.x + s.w
  h : r.y + r.h ≤ s.y + s.h
def Live (t : List Nd) (k i : Nat) : Prop := k ≤ i ∨ leafI (ndget t i) = true
structure PlOk (ks : List Knd) (w h kerf : Int) (l : List Pl) : Prop where
  k : ∀ i, i < l.length → 0 ≤ (plget l i).k ∧ (plget l i).k < ks.length
  at' : ∀ i, i < l.length → 0 ≤ (plget l i).x ∧ 0 ≤ (plget l i).y ∧ (plget l i).x + (kget ks (plget l i).k.toNat).w ≤ w ∧ (plget l i).y + (kget ks (plget l i).k.toNat).h ≤ h
  ap : ∀ i j, i < l.length → j < i → apartB (plget l i).x (kget ks (plget l i).k.toNat).w (plget l j).x (kget ks (plget l j).k.toNat).w kerf = true ∨ apartB (plget l i).y (kget ks (plget l i).k.toNat).h (plget l j).y (kget ks (plget l j).k.toNat).h kerf = true
end St
end Go.Vm
