/-
  Layer 37: contracts of the reference's leaf, whole, piece, Shaped, Value and Counts.
  Layer 37: contracts of both Places; the pieces are apart; the law Places.
-/
import Derived.Test.YtfoblfchkgapoaaStpN
namespace Go.Vm
set_option maxRecDepth 20000
set_option linter.unusedVariables false
set_option linter.unusedSimpArgs false
open Go Go.RowKit Go.Proofs
namespace St

theorem rleaf_det (n : Nd) : Det Try.prog 55 [.agg (ndL n)] (tbool (leafI n)) := by
  refine det_of_awp TTok mixed Try.func55 rfl rfl [] (Nat.le_of_ble_eq_true rfl) ?_
  refine Split.mk (fun c1 => ?_) (fun c1 => ?_)
  · repeat' first | refine Split.isT c1 ?_ | refine Split.t ?_ | refine Split.f ?_ | fail
    refine Fin.bool ?_
    rw [leafI, decide_eq_true (eq_of_beq c1), Bool.true_and]
    rfl
  · repeat' first | refine Split.isF c1 ?_ | refine Split.t ?_ | refine Split.f ?_ | fail
    refine Fin.bool ?_
    rw [leafI, decide_eq_false (ne_of_beq_false c1), Bool.false_and]
theorem rpiece_det (n : Nd) : Det Try.prog 53 [.agg (ndL n)] (tbool (leafP n)) := by
  refine det_of_awp TTok mixed Try.func53 rfl rfl [] (Nat.le_of_ble_eq_true rfl) ?_
  have e : leafP n = (leafI n && (decide (n.a = 0) && !n.v)) := by simp [leafP, leafI, Bool.and_assoc]
  rw [e]
  refine CallW.bool (rleaf_det n) (fun b hb => ?_)
  rw [← hb]
  refine Split.mk (fun c1 => ?_) (fun c1 => ?_)
  · repeat' first | refine Split.isT c1 ?_ | refine Split.t ?_ | refine Split.f ?_ | fail
    refine Split.mk (fun c2 => ?_) (fun c2 => ?_)
    · repeat' first | refine Split.isT c1 ?_ | refine Split.isT c2 ?_ | refine Split.t ?_ | refine Split.f ?_ | fail
      refine Fin.bool ?_
      rw [c1, decide_eq_true (eq_of_beq c2), Bool.true_and, Bool.true_and]
    · repeat' first | refine Split.isT c1 ?_ | refine Split.isF c2 ?_ | refine Split.t ?_ | refine Split.f ?_ | fail
      refine Fin.bool ?_
      rw [decide_eq_false (ne_of_beq_false c2), Bool.false_and, Bool.and_false]
  · repeat' first | refine Split.isF c1 ?_ | refine Split.t ?_ | refine Split.f ?_ | fail
    refine Fin.bool ?_
    rw [c1, Bool.false_and]
def wholeB (n : Nd) : Bool := if leafI n = true then decide (n.a = 0) else decide (n.k = -1)
theorem rwhole_det (n : Nd) : Det Try.prog 98 [.agg (ndL n)] (tbool (wholeB n)) := by
  refine det_of_awp TTok mixed Try.func98 rfl rfl [] (Nat.le_of_ble_eq_true rfl) ?_
  have h2 := rleaf_det n
  refine CallW.bool (rleaf_det n) (fun b hb => ?_)
  refine Split.mk (fun c1 => ?_) (fun c1 => ?_)
  · have hl : leafI n = true := hb.symm.trans c1
    rw [hl] at h2
    rw [wholeB, if_pos hl]
    repeat' first | refine Split.isT c1 ?_ | refine Split.t ?_ | refine Split.f ?_ | fail
    refine Split.mk (fun c2 => ?_) (fun c2 => ?_)
    · repeat' first | refine Split.isT c1 ?_ | refine Split.isT c2 ?_ | refine Split.t ?_ | refine Split.f ?_ | fail
      refine Fin.bool ?_
      rw [decide_eq_true (eq_of_beq c2)]
    · repeat' first | refine Split.isT c1 ?_ | refine Split.isF c2 ?_ | refine Split.t ?_ | refine Split.f ?_ | fail
      refine CallW.mk' h2 ?_
      repeat' first | refine Split.isT c1 ?_ | refine Split.isF c2 ?_ | refine Split.t ?_ | refine Split.f ?_ | fail
      refine Fin.bool ?_
      rw [decide_eq_false (ne_of_beq_false c2)]
  · have hl : leafI n = false := hb.symm.trans c1
    rw [hl] at h2
    rw [wholeB, if_neg (by rw [hl]; simp)]
    repeat' first | refine Split.isF c1 ?_ | refine Split.t ?_ | refine Split.f ?_ | fail
    refine CallW.mk' h2 ?_
    repeat' first | refine Split.isF c1 ?_ | refine Split.t ?_ | refine Split.f ?_ | fail
    refine Fin.bool ?_
    cases hq : n.k == -1 with
    | true => rw [decide_eq_true (eq_of_beq hq)]
    | false => rw [decide_eq_false (ne_of_beq_false hq)]
theorem shaped_det (t : List Nd) (hl : t.length ≤ 100000000) : Det Try.prog 54 [.one (ndS t)] (tbool (joinB t)) := by
  refine det_of_awp TTok mixed Try.func54 rfl rfl [15] (Nat.le_of_ble_eq_true rfl) ?_
  have short : ¬ (1 ≤ t.length ∧ t.length ≤ 4000) → false = joinB t := fun h => by
    cases hq : joinB t with
    | false => rfl
    | true =>
      simp only [joinB, Bool.and_eq_true, inB_iff] at hq
      omega
  refine Split.mk (fun c1 => ?_) (fun c1 => ?_)
  · repeat' first | refine Split.isT c1 ?_ | refine Split.t ?_ | refine Split.f ?_ | fail
    exact Fin.bool (short (by have := of_decide_eq_true c1; omega))
  repeat' first | refine Split.isF c1 ?_ | refine Split.t ?_ | refine Split.f ?_ | fail
  refine Split.mk (fun c2 => ?_) (fun c2 => ?_)
  · exact Fin.bool (short (by have := of_decide_eq_true c2; omega))
  have l1 : 1 ≤ t.length := by have := of_decide_eq_false c1; omega
  have l2 : t.length ≤ 4000 := by have := of_decide_eq_false c2; omega
  refine Need.mk (needMake (by omega)) ?_
  refine Loop.by (α := Nat) (fun k => [(0, .d (.one (ndS t))), (3, .hdl 17 0), (4, tint k)]) (fun k => [(17, .bld 0 t.length 1 3 (lG iL 0 (pT t k)))]) (fun k => k ≤ t.length ∧ ∀ i, i < k → ndOkB t.length i (ndget t i) = true) (fun k => t.length - k)
    (Adj.at 0 ⟨Nat.zero_le _, fun _ h => absurd h (Nat.not_lt_zero _)⟩ (.cons (.bldN (by omega) (fun i hi j hj => SLe.of_eq (lG_rep t.length i j (by omega) hj))) .nil) (.cons .same (.cons (.hdl rfl rfl) (.cons .same .nil)))) (fun k hk => ?_)
  obtain ⟨hk, hx⟩ := hk
  refine Split.mk (fun h => ?_) (fun h => ?_)
  · have hlt : k < t.length := by have := of_decide_eq_true h; omega
    have bad : ndOkB t.length k (ndget t k) = false → false = joinB t := fun hb => by
      cases hq : joinB t with
      | false => rfl
      | true =>
        simp only [joinB, Bool.and_eq_true] at hq
        rw [allN_iff.1 hq.1 k hlt] at hb; cases hb
    have hpl := pT_len t k
    have hpn : pT t (k + 1) = if leafI (ndget t k) = true then pT t k else incr (incr (pT t k) (ndget t k).f) (ndget t k).s := rfl
    refine Need.mk (by omega) ?_
    refine CallW.bool (rleaf_det (ndget t k)) (fun b hb => ?_)
    refine Split.mk (fun c3 => ?_) (fun c3 => ?_)
    · have hleaf : leafI (ndget t k) = true := hb.symm.trans c3
      have hfs := hleaf
      simp only [leafI, Bool.and_eq_true, decide_eq_true_eq] at hfs
      show Split (ndget t k).v _
      refine Split.mk (fun c4 => ?_) (fun c4 => ?_)
      · have c4' : (ndget t k).v = true := c4
        refine Fin.bool (bad ?_)
        cases hq : ndOkB t.length k (ndget t k) with
        | false => rfl
        | true =>
          rw [ndOkB, c4', Bool.not_true, Bool.and_false, Bool.false_or, Bool.and_eq_true, inB_iff, inB_iff] at hq
          omega
      · have c4' : (ndget t k).v = false := c4
        have hok : ndOkB t.length k (ndget t k) = true := by rw [ndOkB, hleaf, c4']; rfl
        rw [if_pos hleaf] at hpn
        refine Adj.back (x := k) (k + 1) ⟨by omega, fun i hi => ?_⟩ (by omega) (.cons (.bld (fun i hi j hj => SLe.of_eq (by rw [hpn]))) .nil) (.cons .same (.cons (.hdl rfl rfl) (.cons (SlotLe.int (hS k (by omega))) .nil)))
        rcases Nat.lt_succ_iff_lt_or_eq.1 hi with hi | rfl
        · exact hx i hi
        · exact hok
    have hnleaf : leafI (ndget t k) = false := hb.symm.trans c3
    have hiff : ndOkB t.length k (ndget t k) = (inB (ndget t k).f (k + 1) (t.length - 1) && inB (ndget t k).s (k + 1) (t.length - 1)) := by rw [ndOkB, hnleaf, Bool.false_and, Bool.false_or]
    have bad2 : ¬ (((k : Int) + 1 ≤ (ndget t k).f ∧ (ndget t k).f ≤ t.length - 1) ∧ ((k : Int) + 1 ≤ (ndget t k).s ∧ (ndget t k).s ≤ t.length - 1)) → false = joinB t := fun hb => bad (by
      rw [hiff]
      cases hq : inB (ndget t k).f (k + 1) (t.length - 1) && inB (ndget t k).s (k + 1) (t.length - 1) with
      | false => rfl
      | true =>
        rw [Bool.and_eq_true, inB_iff, inB_iff] at hq
        exact absurd hq hb)
    show Split (decide ((ndget t k).f ≤ (k : Int))) _
    refine Split.mk (fun d1 => ?_) (fun d1 => ?_)
    · repeat' first | refine Split.isT d1 ?_ | refine Split.t ?_ | refine Split.f ?_ | fail
      exact Fin.bool (bad2 (fun q => by have : (ndget t k).f ≤ (k : Int) := of_decide_eq_true d1; omega))
    repeat' first | refine Split.isF d1 ?_ | refine Split.t ?_ | refine Split.f ?_ | fail
    show Split (decide ((ndget t k).f ≥ (t.length : Int))) _
    refine Split.mk (fun d2 => ?_) (fun d2 => ?_)
    · repeat' first | refine Split.isF d1 ?_ | refine Split.isT d2 ?_ | refine Split.t ?_ | refine Split.f ?_ | fail
      exact Fin.bool (bad2 (fun q => by have : (ndget t k).f ≥ (t.length : Int) := of_decide_eq_true d2; omega))
    repeat' first | refine Split.isF d1 ?_ | refine Split.isF d2 ?_ | refine Split.t ?_ | refine Split.f ?_ | fail
    show Split (decide ((ndget t k).s ≤ (k : Int))) _
    refine Split.mk (fun d3 => ?_) (fun d3 => ?_)
    · repeat' first | refine Split.isF d1 ?_ | refine Split.isF d2 ?_ | refine Split.isT d3 ?_ | refine Split.t ?_ | refine Split.f ?_ | fail
      exact Fin.bool (bad2 (fun q => by have : (ndget t k).s ≤ (k : Int) := of_decide_eq_true d3; omega))
    repeat' first | refine Split.isF d1 ?_ | refine Split.isF d2 ?_ | refine Split.isF d3 ?_ | refine Split.t ?_ | refine Split.f ?_ | fail
    show Split (decide ((ndget t k).s ≥ (t.length : Int))) _
    refine Split.mk (fun d4 => ?_) (fun d4 => ?_)
    · exact Fin.bool (bad2 (fun q => by have : (ndget t k).s ≥ (t.length : Int) := of_decide_eq_true d4; omega))
    have i1 : (k : Int) + 1 ≤ (ndget t k).f ∧ (ndget t k).f ≤ t.length - 1 := by
      have e1 : ¬ (ndget t k).f ≤ (k : Int) := of_decide_eq_false d1
      have e2 : ¬ (ndget t k).f ≥ (t.length : Int) := of_decide_eq_false d2
      omega
    have i2 : (k : Int) + 1 ≤ (ndget t k).s ∧ (ndget t k).s ≤ t.length - 1 := by
      have e1 : ¬ (ndget t k).s ≤ (k : Int) := of_decide_eq_false d3
      have e2 : ¬ (ndget t k).s ≥ (t.length : Int) := of_decide_eq_false d4
      omega
    have hok : ndOkB t.length k (ndget t k) = true := by rw [hiff, inB_iff.2 i1, inB_iff.2 i2]; rfl
    rw [if_neg (by rw [hnleaf]; simp)] at hpn
    have j1 : 0 ≤ (t.getD ((k : Int)).toNat nd0).f ∧ (t.getD ((k : Int)).toNat nd0).f < (t.length : Int) := (⟨by omega, by omega⟩ : 0 ≤ (ndget t k).f ∧ (ndget t k).f < (t.length : Int))
    have j2 : 0 ≤ (t.getD ((k : Int)).toNat nd0).s ∧ (t.getD ((k : Int)).toNat nd0).s < (t.length : Int) := (⟨by omega, by omega⟩ : 0 ≤ (ndget t k).s ∧ (ndget t k).s < (t.length : Int))
    refine Need.mk j1 ?_
    refine Need.mk j1 ?_
    have bd := pT_bd t k (ndget t k).f.toNat
    have bd2 : 0 ≤ (incr (pT t k) (ndget t k).f).getD (ndget t k).s.toNat 0 ∧ (incr (pT t k) (ndget t k).f).getD (ndget t k).s.toNat 0 ≤ 2 * k + 1 := by
      have := pT_bd t k (ndget t k).s.toNat
      rcases incr_at (pT t k) (ndget t k).f (ndget t k).s.toNat with h | h <;> omega
    have w1 : IntKind.i64.wrap ((pT t k).getD (ndget t k).f.toNat 0 + 1) = (pT t k).getD (ndget t k).f.toNat 0 + 1 := hw _ (by omega) (by omega)
    have w2 : IntKind.i64.wrap ((incr (pT t k) (ndget t k).f).getD (ndget t k).s.toNat 0 + 1) = (incr (pT t k) (ndget t k).f).getD (ndget t k).s.toNat 0 + 1 := hw _ (by omega) (by omega)
    refine Cut.mk (Adj.keep [(0, .d (.one (ndS t))), (3, .hdl 17 0), (4, tint k), (5, .ptr 5 0)] [(17, .bld 0 t.length 1 3 (lG iL 0 (incr (pT t k) (ndget t k).f))), (5, .box (ndL (ndget t k)))] (.cons (.bld (fun i hi j hj => ?_)) (.cons (.box (LLe.of_eq rfl)) .nil)) (.cons .same (.cons (.hdl rfl rfl) (.cons .same (.cons (.box rfl rfl) .nil)))) ?_)
    · exact lG_set iL 0 (pT t k) ((pT t k).getD (ndget t k).f.toNat 0 + 1) (ndget t k).f.toNat i j 1 [i64 (IntKind.i64.wrap ((pT t k).getD (ndget t k).f.toNat 0 + 1))] (by rw [w1]) (by rw [hpl]; exact hi) hj
    refine Need.mk j2 ?_
    refine Need.mk j2 ?_
    refine Adj.back (x := k) (k + 1) ⟨by omega, fun i hi => ?_⟩ (by omega) (.cons (.bld (fun i hi j hj => ?_)) .nil) (.cons .same (.cons (.hdl rfl rfl) (.cons (SlotLe.int (hS k (by omega))) .nil)))
    · rcases Nat.lt_succ_iff_lt_or_eq.1 hi with hi | rfl
      · exact hx i hi
      · exact hok
    · rw [hpn]
      exact lG_set iL 0 (incr (pT t k) (ndget t k).f) ((incr (pT t k) (ndget t k).f).getD (ndget t k).s.toNat 0 + 1) (ndget t k).s.toNat i j 1 [i64 (IntKind.i64.wrap ((incr (pT t k) (ndget t k).f).getD (ndget t k).s.toNat 0 + 1))] (by rw [w2]) (by rw [incr_len, hpl]; exact hi) hj
  · have he : k = t.length := by have := of_decide_eq_false h; omega
    subst he
    refine Loop.by (α := Nat) (fun i => [(0, .d (.one (ndS t))), (3, .hdl 17 0), (6, tint i)]) (fun i => [(17, .bld 0 t.length 1 3 (lG iL 0 (pT t t.length)))]) (fun k => 1 ≤ k ∧ k ≤ t.length ∧ ∀ i, 1 ≤ i → i < k → iget (pT t t.length) i = 1) (fun k => t.length - k)
      (Adj.at 1 ⟨Nat.le_refl _, l1, fun i h1 h2 => by omega⟩ (.cons (.bld (fun _ _ _ _ => SLe.refl _)) .nil) (.cons .same (.cons (.hdl rfl rfl) (.cons .same .nil)))) (fun k hk => ?_)
    obtain ⟨k1, k2, k3⟩ := hk
    refine Split.mk (fun h => ?_) (fun h => ?_)
    · have hlt : k < t.length := by have := of_decide_eq_true h; omega
      refine Need.mk (by omega) ?_
      show Split (iget (pT t t.length) k != 1) _
      refine Split.mk (fun c => ?_) (fun c => ?_)
      · refine Fin.bool ?_
        have c' : iget (pT t t.length) k ≠ 1 := by simpa using c
        cases hq : joinB t with
        | false => rfl
        | true =>
          simp only [joinB, Bool.and_eq_true] at hq
          have := allN_iff.1 hq.2.1 k hlt
          simp only [Bool.or_eq_true, decide_eq_true_eq] at this
          omega
      · refine Adj.back (x := k) (k + 1) ⟨by omega, by omega, fun i h1 h2 => ?_⟩ (by omega) (.cons (.bld (fun _ _ _ _ => SLe.refl _)) .nil) (.cons .same (.cons (.hdl rfl rfl) (.cons (SlotLe.int (hS k (by omega))) .nil)))
        rcases Nat.lt_succ_iff_lt_or_eq.1 h2 with h2 | rfl
        · exact k3 i h1 h2
        · have : iget (pT t t.length) i = 1 := by simpa using c
          exact this
    · have hge : t.length ≤ k := by have := of_decide_eq_false h; omega
      refine Fin.bool ?_
      have a1 : allN t.length (fun i => ndOkB t.length i (ndget t i)) = true := allN_iff.2 hx
      have a2 : allN t.length (fun i => decide (i = 0) || decide (iget (pT t t.length) i = 1)) = true := allN_iff.2 (fun i hi => by
        by_cases h0 : i = 0
        · rw [decide_eq_true h0]; rfl
        · rw [decide_eq_true (k3 i (by omega) (by omega)), Bool.or_true])
      have a3 : inB t.length 1 4000 = true := inB_iff.2 ⟨by omega, by omega⟩
      rw [joinB, a1, a2, a3]
      rfl
theorem rvalue_det (t : List Nd) (ks : List Knd) (hl : t.length ≤ 100000000) (hk : ks.length ≤ 100000000) : Det Try.prog 22 [.one (ndS t), .one (kS ks)] (tint (valS t ks t.length)) := by
  refine det_of_awp TTok mixed Try.func22 rfl rfl [] (Nat.le_of_ble_eq_true rfl) ?_
  refine Loop.by (α := Nat) (fun k => [(0, .d (.one (ndS t))), (1, .d (.one (kS ks))), (5, tint (valS t ks k)), (6, tint k)]) (fun _ => []) (fun k => k ≤ t.length) (fun k => t.length - k)
    (Adj.at 0 (Nat.zero_le _) .nil (.cons .same (.cons .same (.cons .same (.cons .same .nil))))) (fun k hk' => ?_)
  refine Split.mk (fun h => ?_) (fun h => ?_)
  · have hlt : k < t.length := by have := of_decide_eq_true h; omega
    have hvn : valS t ks (k + 1) = if leafP (ndget t k) = true ∧ inB (ndget t k).k 0 (ks.length - 1) = true then w64 (valS t ks k + (kget ks (ndget t k).k.toNat).v) else valS t ks k := rfl
    refine Need.mk (by omega) ?_
    refine Need.mk (by omega) ?_
    refine CallW.bool (rpiece_det (ndget t k)) (fun b hb => ?_)
    refine Split.mk (fun c1 => ?_) (fun c1 => ?_)
    · repeat' first | refine Split.isT c1 ?_ | refine Split.t ?_ | refine Split.f ?_ | fail
      show Split (decide ((ndget t k).k ≥ 0)) _
      refine Split.mk (fun c2 => ?_) (fun c2 => ?_)
      · have c2' : (ndget t k).k ≥ 0 := of_decide_eq_true c2
        repeat' first | refine Split.isT c1 ?_ | refine Split.isT c2 ?_ | refine Split.t ?_ | refine Split.f ?_ | fail
        show Split (decide ((ndget t k).k < (ks.length : Int))) _
        refine Split.mk (fun c3 => ?_) (fun c3 => ?_)
        · have c3' : (ndget t k).k < (ks.length : Int) := of_decide_eq_true c3
          refine Need.mk (⟨c2', c3'⟩ : 0 ≤ (ndget t k).k ∧ (ndget t k).k < (ks.length : Int)) ?_
          exact Adj.back (x := k) (k + 1) (by omega) (by omega) .nil (.cons .same (.cons .same (.cons (SlotLe.int (hvn.trans (if_pos ⟨hb.symm.trans c1, inB_iff.2 ⟨c2', by omega⟩⟩)).symm) (.cons (SlotLe.int (hS k (by omega))) .nil))))
        · have c3' : ¬ (ndget t k).k < (ks.length : Int) := of_decide_eq_false c3
          exact Adj.back (x := k) (k + 1) (by omega) (by omega) .nil (.cons .same (.cons .same (.cons (SlotLe.int (hvn.trans (if_neg (fun q => by have := inB_iff.1 q.2; omega))).symm) (.cons (SlotLe.int (hS k (by omega))) .nil))))
      · have c2' : ¬ (ndget t k).k ≥ 0 := of_decide_eq_false c2
        repeat' first | refine Split.isT c1 ?_ | refine Split.isF c2 ?_ | refine Split.t ?_ | refine Split.f ?_ | fail
        exact Adj.back (x := k) (k + 1) (by omega) (by omega) .nil (.cons .same (.cons .same (.cons (SlotLe.int (hvn.trans (if_neg (fun q => by have := inB_iff.1 q.2; omega))).symm) (.cons (SlotLe.int (hS k (by omega))) .nil))))
    · repeat' first | refine Split.isF c1 ?_ | refine Split.t ?_ | refine Split.f ?_ | fail
      exact Adj.back (x := k) (k + 1) (by omega) (by omega) .nil (.cons .same (.cons .same (.cons (SlotLe.int (hvn.trans (if_neg (fun q => by rw [← hb, c1] at q; cases q.1))).symm) (.cons (SlotLe.int (hS k (by omega))) .nil))))
  · have he : k = t.length := by have := of_decide_eq_false h; omega
    refine Fin.int ?_
    rw [he]
end St
end Go.Vm
namespace Go.Vm
set_option maxRecDepth 20000
set_option linter.unusedVariables false
set_option linter.unusedSimpArgs false
open Go Go.RowKit Go.Proofs
namespace St

structure Pl where
  k : Int
  x : Int
  y : Int
abbrev plL (p : Pl) : List SV := [i64 p.k, i64 p.x, i64 p.y]
abbrev pl0 : Pl := ⟨0, 0, 0⟩
abbrev plS (l : List Pl) : SV := .sl l.length 3 (lG plL pl0 l)
abbrev plget (l : List Pl) (i : Nat) : Pl := l.getD i pl0
def plOf (t : List Nd) (R : List Rc) (i : Nat) : Pl := ⟨(ndget t i).k, (rcget R i).x, (rcget R i).y⟩
def plIx (t : List Nd) : Nat → List Nat
  | 0 => []
  | k + 1 => if 0 ≤ (ndget t k).k then plIx t k ++ [k] else plIx t k
def plT (t : List Nd) (R : List Rc) (k : Nat) : List Pl := (plIx t k).map (plOf t R)
theorem plT_succ (t : List Nd) (R : List Rc) (k : Nat) : plT t R (k + 1) = if 0 ≤ (ndget t k).k then plT t R k ++ [plOf t R k] else plT t R k := by
  unfold plT
  rw [plIx]
  split
  · rw [List.map_append]; rfl
  · rfl
theorem plIx_len (t : List Nd) : ∀ k, (plIx t k).length ≤ k
  | 0 => Nat.le_refl _
  | k + 1 => by
    have := plIx_len t k
    rw [plIx]
    split
    · rw [List.length_append, List.length_singleton]; omega
    · omega
theorem plT_len (t : List Nd) (R : List Rc) (k : Nat) : (plT t R k).length ≤ k := by
  unfold plT
  rw [List.length_map]
  exact plIx_len t k
theorem plIx_mem (t : List Nd) : ∀ k, ∀ i ∈ plIx t k, i < k ∧ 0 ≤ (ndget t i).k
  | 0, i, h => by cases h
  | k + 1, i, h => by
    rw [plIx] at h
    split at h
    · rename_i hc
      rcases List.mem_append.1 h with h | h
      · obtain ⟨a, b⟩ := plIx_mem t k i h
        exact ⟨by omega, b⟩
      · obtain rfl := List.mem_singleton.1 h
        exact ⟨by omega, hc⟩
    · obtain ⟨a, b⟩ := plIx_mem t k i h
      exact ⟨by omega, b⟩
theorem plIx_lt (t : List Nd) : ∀ k, (plIx t k).Pairwise (· < ·)
  | 0 => List.Pairwise.nil
  | k + 1 => by
    rw [plIx]
    split
    · refine List.pairwise_append.2 ⟨plIx_lt t k, List.pairwise_singleton _ _, fun a ha b hb => ?_⟩
      obtain rfl := List.mem_singleton.1 hb
      exact (plIx_mem t _ a ha).1
    · exact plIx_lt t k
def placesR (t : List Nd) (ks : List Knd) (w h kerf : Int) : List Pl × Int := if validB t ks w h kerf = true then (plT t (rT t w h kerf t.length) t.length, 0) else ([], 1)
abbrev plE (x : List Pl × Int) : TV := .tup [.one (plS x.1), .one (i64 x.2)]
theorem CallW.pls {P : Program} {f : FuncId} {args : List DV} {K : TV → Prop} {a : List Pl × Int} (h : Det P f args (plE a)) (kk : ∀ x, x = a → K (plE x)) : CallW P f args K := ⟨_, h, kk a rfl⟩
theorem places_det (t : List Nd) (ks : List Knd) (w h kerf : Int) (hl : t.length ≤ 100000000) (hk : ks.length ≤ maxLen) : Det Try.prog 40 [.one (ndS t), .one (kS ks), .one (i64 w), .one (i64 h), .one (i64 kerf)] (plE (placesR t ks w h kerf)) := by
  refine det_of_awp TTok mixed Try.func40 rfl rfl [] (Nat.le_of_ble_eq_true rfl) ?_
  refine CallW.bool (valid_det t ks w h kerf hl hk) (fun b hb => ?_)
  refine Split.mk (fun c1 => ?_) (fun c1 => ?_)
  · have : validB t ks w h kerf = false := by rw [← hb]; simpa using c1
    rw [placesR, if_neg (by rw [this]; simp)]
    exact Fin.tup (.cons (DLe.one (SLe.nil _ _)) (.cons (DLe.refl _) .nil))
  have hv : validB t ks w h kerf = true := by rw [← hb]; simpa using c1
  have hv' := hv
  simp only [validB, Bool.and_eq_true] at hv'
  obtain ⟨hp, hj, hr, hkb⟩ := hv'
  have p := prob_iff.1 hp
  refine CallW.rect (rect_det t w h kerf hl hj p.w0 p.w1 p.h0 p.h1 p.k0 p.k1) (fun x hx => ?_)
  obtain rfl : x = (rT t w h kerf t.length, true) := by rw [hx, rectR, if_pos hr]
  rw [placesR, if_pos hv]
  have hxl := rT_len t w h kerf t.length
  clear hx hkb hr
  generalize rT t w h kerf t.length = R at *
  refine Loop.by (α := Nat) (fun k => [(12, .d (.one (rcS R))), (14, .hdl 57 0), (32, .d (.one (ndS t))), (33, tint t.length), (34, tint k)]) (fun k => [(57, .bld 0 (plT t R k).length 3 77 (lG plL pl0 (plT t R k)))]) (fun k => k ≤ t.length) (fun k => t.length - k)
    (Adj.nil 14 57 3 77 (lG plL pl0 []) rfl rfl (Adj.at 0 (Nat.zero_le _) (.cons (.bld (fun _ h => absurd h (Nat.not_lt_zero _))) .nil) (.cons .same (.cons (.hdl rfl rfl) (.cons .same (.cons .same (.cons .same .nil))))))) (fun k hk' => ?_)
  have hpl := plT_len t R k
  have hps := plT_succ t R k
  refine Split.mk (fun hc => ?_) (fun hc => ?_)
  · have hlt : k < t.length := by have := of_decide_eq_true hc; omega
    refine Need.mk (by omega) ?_
    show Split (decide ((ndget t k).k ≥ 0)) _
    refine Split.mk (fun c2 => ?_) (fun c2 => ?_)
    · have e := hps.trans (if_pos (of_decide_eq_true c2))
      refine Need.mk (by show 0 ≤ (k : Int) ∧ (k : Int) < (R.length : Int); omega) ?_
      refine Need.mk (by show 0 ≤ (k : Int) ∧ (k : Int) < (R.length : Int); omega) ?_
      refine Need.mk (needApp (n := (plT t R k).length + 1) (by omega) (by decide)) ?_
      refine Need.mk (by kernel_rfl) ?_
      refine Adj.back (x := k) (k + 1) (by omega) (by omega) (.cons (.bldN (by rw [e, List.length_append]; rfl) (fun q hq j hj => ?_)) .nil) (.cons .same (.cons (.hdl rfl rfl) (.cons .same (.cons .same (.cons (SlotLe.int (hS k (by omega))) .nil)))))
      rw [e]
      exact lG_snoc plL pl0 _ (plOf t R k) 3 _ q j [i64 (ndget t k).k, i64 (rcget R k).x, i64 (rcget R k).y] rfl rfl hq hj
    · have e := hps.trans (if_neg (of_decide_eq_false c2))
      exact Adj.back (x := k) (k + 1) (by omega) (by omega) (.cons (.bldN (by rw [e]) (fun q hq j hj => SLe.of_eq (by rw [e]))) .nil) (.cons .same (.cons (.hdl rfl rfl) (.cons .same (.cons .same (.cons (SlotLe.int (hS k (by omega))) .nil)))))
  · have he : k = t.length := by have := of_decide_eq_false hc; omega
    subst he
    exact Fin.tup (.cons (DLe.one (SLe.slN rfl (fun _ _ _ _ => SLe.refl _))) (.cons (DLe.refl _) .nil))
def apartB (a n b m kerf : Int) : Bool := decide (a + n + kerf ≤ b) || decide (b + m + kerf ≤ a)
structure Sm (n : Int) : Prop where
  lo : -1000000 ≤ n
  hi : n ≤ 1000000
/-! ### the pieces are apart -/
structure Full (r : Rc) : Prop where
  w : 1 ≤ r.w
  h : 1 ≤ r.h
def Ap (kerf : Int) (r s : Rc) : Prop := r.x + r.w + kerf ≤ s.x ∨ s.x + s.w + kerf ≤ r.x ∨ r.y + r.h + kerf ≤ s.y ∨ s.y + s.h + kerf ≤ r.y
theorem Ap.symm {kerf : Int} {r s : Rc} (h : Ap kerf r s) : Ap kerf s r := by unfold Ap at *; omega
structure Sub (r s : Rc) : Prop where
  x : s.x ≤ r.x
  y : s.y ≤ r.y
  w : r.x + r.w ≤ s.x + s.w
  h : r.y + r.h ≤ s.y + s.h
theorem Ap.sub {kerf : Int} {r s q : Rc} (h : Ap kerf s q) (hs : Sub r s) : Ap kerf r q := by
  have := hs.x; have := hs.y; have := hs.w; have := hs.h
  unfold Ap at *
  omega
theorem cut_sub {r : Rc} {n : Nd} {kerf : Int} (hk : 0 ≤ kerf) (hl : leafI n = false) (hp : posB r n = true) (h0 : 0 ≤ r.w ∧ 0 ≤ r.h) :
    (Full (cutA r n) → Full r ∧ Sub (cutA r n) r) ∧ (Full (cutB r n kerf) → Full r ∧ Sub (cutB r n kerf) r) ∧ (Full (cutB r n kerf) → Ap kerf (cutA r n) (cutB r n kerf)) := by
  rw [posB, if_neg (by rw [hl]; simp), inB_iff] at hp
  unfold cutA cutB
  cases hv : n.v with
  | true =>
    rw [hv] at hp
    simp only [if_true] at hp ⊢
    have a := minI_spec r.w (n.a + kerf)
    have b := maxI_spec (r.w - n.a - kerf)
    generalize minI r.w (n.a + kerf) = x at *
    generalize maxI 0 (r.w - n.a - kerf) = y at *
    refine ⟨fun f => ?_, fun f => ?_, fun f => ?_⟩
    · have f1 : 1 ≤ n.a := f.w
      have f2 : 1 ≤ r.h := f.h
      exact ⟨⟨by omega, f2⟩, ⟨Int.le_refl _, Int.le_refl _, by show r.x + n.a ≤ r.x + r.w; omega, Int.le_refl _⟩⟩
    · have f1 : 1 ≤ y := f.w
      have f2 : 1 ≤ r.h := f.h
      exact ⟨⟨by omega, f2⟩, ⟨by show r.x ≤ r.x + x; omega, Int.le_refl _, by show r.x + x + y ≤ r.x + r.w; omega, Int.le_refl _⟩⟩
    · have f1 : 1 ≤ y := f.w
      refine .inl ?_
      show r.x + n.a + kerf ≤ r.x + x
      omega
  | false =>
    rw [hv] at hp
    simp only [Bool.false_eq_true, if_false] at hp ⊢
    have a := minI_spec r.h (n.a + kerf)
    have b := maxI_spec (r.h - n.a - kerf)
    generalize minI r.h (n.a + kerf) = x at *
    generalize maxI 0 (r.h - n.a - kerf) = y at *
    refine ⟨fun f => ?_, fun f => ?_, fun f => ?_⟩
    · have f1 : 1 ≤ n.a := f.h
      have f2 : 1 ≤ r.w := f.w
      exact ⟨⟨f2, by omega⟩, ⟨Int.le_refl _, Int.le_refl _, Int.le_refl _, by show r.y + n.a ≤ r.y + r.h; omega⟩⟩
    · have f1 : 1 ≤ y := f.h
      have f2 : 1 ≤ r.w := f.w
      exact ⟨⟨f2, by omega⟩, ⟨Int.le_refl _, by show r.y ≤ r.y + x; omega, Int.le_refl _, by show r.y + x + y ≤ r.y + r.h; omega⟩⟩
    · have f1 : 1 ≤ y := f.h
      refine .inr (.inr (.inl ?_))
      show r.y + n.a + kerf ≤ r.y + x
      omega
def Live (t : List Nd) (k i : Nat) : Prop := k ≤ i ∨ leafI (ndget t i) = true
theorem set2 {R : List Rc} {f s i : Nat} {A B : Rc} : (i ≠ f ∧ i ≠ s ∧ rcget ((R.set f A).set s B) i = rcget R i) ∨ (i = s ∧ rcget ((R.set f A).set s B) i = B) ∨ (i = f ∧ i ≠ s ∧ rcget ((R.set f A).set s B) i = A) ∨ (rcget ((R.set f A).set s B) i = rc0) := by
  unfold rcget
  by_cases hi : i < R.length
  · by_cases h1 : s = i
    · right; left
      subst h1
      exact ⟨rfl, by simp [List.getD, hi]⟩
    · by_cases h2 : f = i
      · right; right; left
        subst h2
        exact ⟨rfl, fun h => h1 h.symm, by rw [List.getD, List.getElem?_set_ne h1]; simp [hi]⟩
      · left
        exact ⟨fun h => h2 h.symm, fun h => h1 h.symm, by simp [List.getD, List.getElem?_set_ne h1, List.getElem?_set_ne h2]⟩
  · right; right; right
    have : ((R.set f A).set s B)[i]? = none := by
      rw [List.getElem?_eq_none]
      simp; omega
    rw [List.getD, this]; rfl
theorem all_apart {t : List Nd} {w h kerf : Int} (w0 : 0 ≤ w) (h0 : 0 ≤ h) (hk : 0 ≤ kerf) (hj : joinB t = true) (hr : rectB t w h kerf = true) : ∀ k, k ≤ t.length → ∀ i j, i ≠ j → Live t k i → Live t k j → Full (rcget (rT t w h kerf k) i) → Full (rcget (rT t w h kerf k) j) → Ap kerf (rcget (rT t w h kerf k) i) (rcget (rT t w h kerf k) j)
  | 0, _, i, j, hij, _, _, fi, fj => by
    have z : ∀ i, i ≠ 0 → ¬ Full (rcget (rT t w h kerf 0) i) := fun i hi hf => by
      have : rcget (rT t w h kerf 0) i = rc0 := by
        unfold rcget
        rw [rT]
        simp only [List.getD, List.getElem?_set_ne (Ne.symm hi), List.getElem?_replicate]
        split <;> rfl
      rw [this] at hf
      have := hf.w
      replace this : (1 : Int) ≤ 0 := this
      omega
    by_cases e : i = 0
    · exact absurd fj (z j (by omega))
    · exact absurd fi (z i e)
  | k + 1, hkl, i, j, hij, li, lj, fi, fj => by
    have ih := all_apart w0 h0 hk hj hr k (by omega)
    have hrk : ∀ i, i < k → posB (rcget (rT t w h kerf i) i) (ndget t i) = true := fun i hi => allN_iff.1 hr i (by omega)
    have hpk : posB (rcget (rT t w h kerf k) k) (ndget t k) = true := allN_iff.1 hr k (by omega)
    have inn := rT_in (t := t) (kerf := kerf) w0 h0 hk k hrk k
    have up : ∀ i, Live t (k + 1) i → Live t k i := fun i h => h.elim (fun h => .inl (by omega)) .inr
    rw [rT] at fi fj ⊢
    cases hl : leafI (ndget t k) with
    | true =>
      rw [hl] at fi fj
      simp only [if_true] at fi fj ⊢
      exact ih i j hij (up i li) (up j lj) fi fj
    | false =>
      rw [hl] at fi fj
      simp only [Bool.false_eq_true, if_false] at fi fj ⊢
      obtain ⟨cA, cB, cAB⟩ := cut_sub (kerf := kerf) hk hl hpk ⟨inn.w0, inn.h0⟩
      have nk : ∀ i, Live t (k + 1) i → k ≠ i := fun i h e => by
        subst e
        rcases h with h | h
        · omega
        · rw [hl] at h; cases h
      have zz : ∀ {r : Rc}, r = rc0 → ¬ Full r := fun e hf => by
        subst e
        have := hf.w
        replace this : (1 : Int) ≤ 0 := this
        omega
      have one : ∀ {r : Rc} i, Live t (k + 1) i → Full (rcget (rT t w h kerf k) i) → (Full r → Full (rcget (rT t w h kerf k) k) ∧ Sub r (rcget (rT t w h kerf k) k)) → Full r → Ap kerf r (rcget (rT t w h kerf k) i) := fun i l f c fr => by
        obtain ⟨c1, c2⟩ := c fr
        exact (ih k i (nk i l) (.inl (Nat.le_refl _)) (up i l) c1 f).sub c2
      rcases set2 (R := rT t w h kerf k) (f := (ndget t k).f.toNat) (s := (ndget t k).s.toNat) (i := i) (A := cutA (rcget (rT t w h kerf k) k) (ndget t k)) (B := cutB (rcget (rT t w h kerf k) k) (ndget t k) kerf) with ⟨a1, a2, a3⟩ | ⟨a1, a3⟩ | ⟨a1, a2, a3⟩ | a3
      · rcases set2 (R := rT t w h kerf k) (f := (ndget t k).f.toNat) (s := (ndget t k).s.toNat) (i := j) (A := cutA (rcget (rT t w h kerf k) k) (ndget t k)) (B := cutB (rcget (rT t w h kerf k) k) (ndget t k) kerf) with ⟨b1, b2, b3⟩ | ⟨b1, b3⟩ | ⟨b1, b2, b3⟩ | b3
        · rw [a3] at fi ⊢
          rw [b3] at fj ⊢
          exact ih i j hij (up i li) (up j lj) fi fj
        · rw [a3] at fi ⊢
          rw [b3] at fj ⊢
          exact (one i li fi cB fj).symm
        · rw [a3] at fi ⊢
          rw [b3] at fj ⊢
          exact (one i li fi cA fj).symm
        · exact absurd fj (zz b3)
      · rcases set2 (R := rT t w h kerf k) (f := (ndget t k).f.toNat) (s := (ndget t k).s.toNat) (i := j) (A := cutA (rcget (rT t w h kerf k) k) (ndget t k)) (B := cutB (rcget (rT t w h kerf k) k) (ndget t k) kerf) with ⟨b1, b2, b3⟩ | ⟨b1, b3⟩ | ⟨b1, b2, b3⟩ | b3
        · rw [a3] at fi ⊢
          rw [b3] at fj ⊢
          exact one j lj fj cB fi
        · exact absurd (a1.trans b1.symm) hij
        · rw [a3] at fi ⊢
          rw [b3] at fj ⊢
          exact (cAB fi).symm
        · exact absurd fj (zz b3)
      · rcases set2 (R := rT t w h kerf k) (f := (ndget t k).f.toNat) (s := (ndget t k).s.toNat) (i := j) (A := cutA (rcget (rT t w h kerf k) k) (ndget t k)) (B := cutB (rcget (rT t w h kerf k) k) (ndget t k) kerf) with ⟨b1, b2, b3⟩ | ⟨b1, b3⟩ | ⟨b1, b2, b3⟩ | b3
        · rw [a3] at fi ⊢
          rw [b3] at fj ⊢
          exact one j lj fj cA fi
        · rw [a3] at fi ⊢
          rw [b3] at fj ⊢
          exact cAB fj
        · exact absurd (a1.trans b1.symm) hij
        · exact absurd fj (zz b3)
      · exact absurd fi (zz a3)
/-- What the law says of a list of pieces. -/
structure PlOk (ks : List Knd) (w h kerf : Int) (l : List Pl) : Prop where
  k : ∀ i, i < l.length → 0 ≤ (plget l i).k ∧ (plget l i).k < ks.length
  at' : ∀ i, i < l.length → 0 ≤ (plget l i).x ∧ 0 ≤ (plget l i).y ∧ (plget l i).x + (kget ks (plget l i).k.toNat).w ≤ w ∧ (plget l i).y + (kget ks (plget l i).k.toNat).h ≤ h
  ap : ∀ i j, i < l.length → j < i → apartB (plget l i).x (kget ks (plget l i).k.toNat).w (plget l j).x (kget ks (plget l j).k.toNat).w kerf = true ∨ apartB (plget l i).y (kget ks (plget l i).k.toNat).h (plget l j).y (kget ks (plget l j).k.toNat).h kerf = true
theorem places_ok {t : List Nd} {ks : List Knd} {w h kerf : Int} (hv : validB t ks w h kerf = true) : PlOk ks w h kerf (plT t (rT t w h kerf t.length) t.length) := by
  simp only [validB, Bool.and_eq_true] at hv
  obtain ⟨hp, hj, hr, hkb⟩ := hv
  have p := prob_iff.1 hp
  have w0 := p.w0; have h0 := p.h0; have k0 := p.k0
  have inn := rT_in (t := t) (kerf := kerf) (show 0 ≤ w by omega) (show 0 ≤ h by omega) k0 t.length (fun i hi => allN_iff.1 hr i hi)
  have piece : ∀ n, n ∈ plIx t t.length → leafI (ndget t n) = true ∧ 0 ≤ (ndget t n).k ∧ (ndget t n).k < ks.length ∧ (rcget (rT t w h kerf t.length) n).w = (kget ks (ndget t n).k.toNat).w ∧ (rcget (rT t w h kerf t.length) n).h = (kget ks (ndget t n).k.toNat).h ∧ Full (rcget (rT t w h kerf t.length) n) := fun n hn => by
    obtain ⟨a, b⟩ := plIx_mem t _ n hn
    have hko : kindOkB ks (rcget (rT t w h kerf t.length) n) (ndget t n) = true := allN_iff.1 hkb n a
    cases hl : leafI (ndget t n) with
    | false =>
      rw [kindOkB, if_neg (by rw [hl]; simp), decide_eq_true_eq] at hko
      omega
    | true =>
      rw [kindOkB, if_pos hl, Bool.or_eq_true, decide_eq_true_eq, Bool.and_eq_true, Bool.and_eq_true, decide_eq_true_eq, decide_eq_true_eq, inB_iff] at hko
      rcases hko with q | ⟨q, q1, q2⟩
      · omega
      · have ko := p.ok _ (kget_mem (l := ks) (i := (ndget t n).k.toNat) (by omega))
        have := ko.w0; have := ko.h0
        exact ⟨rfl, b, by omega, q1, q2, ⟨by omega, by omega⟩⟩
  have len : (plT t (rT t w h kerf t.length) t.length).length = (plIx t t.length).length := by rw [plT, List.length_map]
  have get : ∀ i, (hi : i < (plIx t t.length).length) → plget (plT t (rT t w h kerf t.length) t.length) i = plOf t (rT t w h kerf t.length) ((plIx t t.length)[i]) := fun i hi => by
    simp [plget, plT, List.getD, hi]
  refine ⟨fun i hi => ?_, fun i hi => ?_, fun i j hi hji => ?_⟩
  · rw [len] at hi
    rw [get i hi]
    obtain ⟨_, a, b, _⟩ := piece _ (List.getElem_mem hi)
    exact ⟨a, b⟩
  · rw [len] at hi
    rw [get i hi]
    obtain ⟨_, a, b, c, d, _⟩ := piece _ (List.getElem_mem hi)
    have n := inn ((plIx t t.length)[i])
    refine ⟨n.x0, n.y0, ?_, ?_⟩
    · show (rcget _ _).x + (kget ks (ndget t _).k.toNat).w ≤ w
      rw [← c]; exact n.x1
    · show (rcget _ _).y + (kget ks (ndget t _).k.toNat).h ≤ h
      rw [← d]; exact n.y1
  · rw [len] at hi
    have hjl : j < (plIx t t.length).length := by omega
    rw [get i hi, get j hjl]
    have hne : (plIx t t.length)[j] < (plIx t t.length)[i] := List.pairwise_iff_getElem.1 (plIx_lt t t.length) j i hjl hi hji
    obtain ⟨l1, _, _, c1, d1, f1⟩ := piece _ (List.getElem_mem hi)
    obtain ⟨l2, _, _, c2, d2, f2⟩ := piece _ (List.getElem_mem hjl)
    have := all_apart (show 0 ≤ w by omega) (show 0 ≤ h by omega) k0 hj hr t.length (Nat.le_refl _) _ _ (by omega) (.inr l1) (.inr l2) f1 f2
    rw [Ap, c1, c2, d1, d2] at this
    simp only [apartB, Bool.or_eq_true, plOf]
    rcases this with h | h | h | h
    · exact .inl (.inl (decide_eq_true h))
    · exact .inl (.inr (decide_eq_true h))
    · exact .inr (.inl (decide_eq_true h))
    · exact .inr (.inr (decide_eq_true h))
end St
end Go.Vm
