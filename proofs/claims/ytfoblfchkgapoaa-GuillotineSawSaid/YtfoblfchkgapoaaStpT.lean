/-
  Layer 37: contracts of both Stages and both Counts.
-/
import Derived.Test.YtfoblfchkgapoaaStpS
namespace Go.Vm
set_option maxRecDepth 20000
set_option linter.unusedVariables false
set_option linter.unusedSimpArgs false
open Go Go.RowKit Go.Proofs
namespace St

def aT (t : List Nd) : Nat → List Int
  | 0 => List.replicate t.length 0
  | k + 1 => sT t (k + 1)
theorem aT_eq {t : List Nd} {k : Nat} (h : k ≠ 0) : aT t k = sT t k := by
  cases k with
  | zero => exact absurd rfl h
  | succ k => rfl
theorem aT_leaf {t : List Nd} {k : Nat} (hl : leafI (ndget t k) = true) : aT t (k + 1) = aT t k := by
  have e : sT t (k + 1) = sT t k := by
    show tab _ _ _ _ _ (k + 1) = _
    rw [tab, if_pos hl]; rfl
  show sT t (k + 1) = _
  rw [e]
  cases k with
  | zero => show sT0 t = _; rw [sT0, if_pos hl]; rfl
  | succ k => rfl
theorem aT_len (t : List Nd) (k : Nat) : (aT t k).length = t.length := by
  cases k with
  | zero => simp [aT]
  | succ k => exact tab_len (sT0_len t) _
theorem sT_len (t : List Nd) (k : Nat) : (sT t k).length = t.length := tab_len (sT0_len t) _
def sJ (t : List Nd) (k : Nat) : Nat → List Int
  | 0 => sT t k
  | 1 => (sT t k).set (ndget t k).f.toNat ((sT t k).getD k 0 + dV t k (ndget t k).f)
  | _ + 2 => ((sT t k).set (ndget t k).f.toNat ((sT t k).getD k 0 + dV t k (ndget t k).f)).set (ndget t k).s.toNat ((sT t k).getD k 0 + dV t k (ndget t k).s)
theorem rstages_det (t : List Nd) (hl : t.length ≤ 100000000) : Det Try.prog 23 [.one (ndS t)] (tint (stagesR t)) := by
  refine det_of_awp TTok mixed Try.func23 rfl rfl [12, 20] (Nat.le_of_ble_eq_true rfl) ?_
  refine CallW.bool (shaped_det t hl) (fun b hb => ?_)
  refine Split.mk (fun c1 => ?_) (fun c1 => ?_)
  · have : joinB t = false := by rw [← hb]; simpa using c1
    refine Fin.int ?_
    rw [stagesR, if_neg (by rw [this]; simp)]
  have hj : joinB t = true := by rw [← hb]; simpa using c1
  have J := joined_of hj
  have l1 := J.l1
  rw [stagesR, if_pos hj]
  refine Need.mk (needMake (by omega)) ?_
  refine Loop.by (α := Nat) (fun k => [(0, .d (.one (ndS t))), (3, .hdl 13 0), (4, tint (stM t k)), (5, tint k)]) (fun k => [(13, .bld 0 t.length 1 3 (lG iL 0 (aT t k)))]) (fun k => k ≤ t.length) (fun k => t.length - k)
    (Adj.at 0 (Nat.zero_le _) (.cons (.bldN (by omega) (fun i hi j hj => SLe.of_eq (lG_rep t.length i j (by omega) hj))) .nil) (.cons .same (.cons (.hdl rfl rfl) (.cons .same (.cons .same .nil))))) (fun k hk => ?_)
  refine Split.mk (fun hc => ?_) (fun hc => ?_)
  rotate_left
  · have he : k = t.length := by have := of_decide_eq_false hc; omega
    refine Fin.int ?_
    rw [he]
  have hlt : k < t.length := by have := of_decide_eq_true hc; omega
  have hMn : stM t (k + 1) = if leafI (ndget t k) = true then stM t k else maxI (stM t k) ((sT t k).getD k 0) := rfl
  refine Need.mk (by omega) ?_
  refine CallW.bool (rleaf_det (ndget t k)) (fun b5 hb5 => ?_)
  refine Split.mk (fun d1 => ?_) (fun d1 => ?_)
  · have hleaf : leafI (ndget t k) = true := hb5.symm.trans d1
    rw [if_pos hleaf] at hMn
    have ha := aT_leaf hleaf
    exact Adj.back (x := k) (k + 1) (by omega) (by omega) (.cons (.bld (fun i hi j hj => SLe.of_eq (by rw [ha]))) .nil) (.cons .same (.cons (.hdl rfl rfl) (.cons (SlotLe.int hMn.symm) (.cons (SlotLe.int (hS k (by omega))) .nil))))
  have hnl : leafI (ndget t k) = false := hb5.symm.trans d1
  rw [if_neg (by rw [hnl]; simp)] at hMn
  obtain ⟨⟨f1, f2, f3⟩, s1, s2, s3⟩ := J.kids k hlt hnl
  have hne := J.ne k hlt hnl
  have hbd := sT_bd t k k
  have hal := aT_len t k
  have hsl := sT_len t k
  show Split ((k : Int) == 0) _
  refine Split.mk (fun d2 => ?a1) (fun d2 => ?a2)
  case' a1 =>
    have hk0 : k = 0 := by have := eq_of_beq d2; omega
    refine Need.mk (by omega) ?_
    refine Cut.mk (Adj.keep [(0, .d (.one (ndS t))), (3, .hdl 13 0), (4, tint (stM t k)), (5, tint k)] [(13, .bld 0 t.length 1 3 (lG iL 0 (sT t k)))] (.cons (.bld (fun i hi j hj => ?b1)) .nil) (.cons .same (.cons (.hdl rfl rfl) (.cons .same (.cons .same .nil)))) ?_)
  case b1 =>
    have hle := lG_set iL 0 (aT t k) 1 ((k : Int)).toNat i j 1 [i64 1] rfl (by rw [hal]; exact hi) hj
    refine SLe.trans hle (SLe.of_eq ?_)
    subst hk0
    show lG iL 0 ((List.replicate t.length 0).set 0 1) i j = lG iL 0 (sT0 t) i j
    rw [sT0, if_neg (by rw [hnl]; simp)]
  case' a2 =>
    have hk0 : k ≠ 0 := by have := ne_of_beq_false d2; omega
    have ha := aT_eq (t := t) hk0
    refine Cut.mk (Adj.keep [(0, .d (.one (ndS t))), (3, .hdl 13 0), (4, tint (stM t k)), (5, tint k)] [(13, .bld 0 t.length 1 3 (lG iL 0 (sT t k)))] (.cons (.bld (fun i hi j hj => SLe.of_eq (by rw [ha]))) .nil) (.cons .same (.cons (.hdl rfl rfl) (.cons .same (.cons .same .nil)))) ?_)
  all_goals
    refine Need.mk (by omega) ?_
    refine Loop.by (α := Nat) (fun j => [(0, .d (.one (ndS t))), (3, .hdl 13 0), (4, tint (maxI (stM t k) ((sT t k).getD k 0))), (5, tint k), (6, tint j)]) (fun j => [(13, .bld 0 t.length 1 3 (lG iL 0 (sJ t k j)))]) (fun j => j ≤ 2) (fun j => 2 - j)
      (Adj.at 0 (Nat.zero_le _) (.cons (.bld (fun _ _ _ _ => SLe.refl _)) .nil) (.cons .same (.cons (.hdl rfl rfl) (.cons (SlotLe.int rfl) (.cons .same (.cons .same .nil)))))) (fun j hj => ?_)
    refine Split.mk (fun hc => ?_) (fun hc => ?_)
    rotate_left
    · have hj2 : j = 2 := by have := of_decide_eq_false hc; omega
      subst hj2
      have e : sJ t k 2 = aT t (k + 1) := by
        show _ = tab _ _ _ _ _ (k + 1)
        rw [tab, if_neg (by rw [hnl]; simp)]; rfl
      exact Adj.back (x := k) (k + 1) (by omega) (by omega) (.cons (.bld (fun i hi j hj => SLe.of_eq (by rw [e]))) .nil) (.cons .same (.cons (.hdl rfl rfl) (.cons (SlotLe.int hMn.symm) (.cons (SlotLe.int (hS k (by omega))) .nil))))
    have hj2 : j < 2 := by have := of_decide_eq_true hc; omega
    refine Need.mk (by omega) ?_
    obtain rfl | rfl : j = 0 ∨ j = 1 := by omega
    · refine Split.f ?_
      refine Need.mk (by omega) ?_
      refine Need.mk (⟨f3, by omega⟩ : 0 ≤ (ndget t k).f ∧ (ndget t k).f < (t.length : Int)) ?_
      have hd : dV t k (ndget t k).f = if (ndget t (ndget t k).f.toNat).v = (ndget t k).v then 0 else 1 := rfl
      have hlS : ((sT t k).set (ndget t k).f.toNat ((sT t k).getD k 0)).length = t.length := by rw [List.length_set, hsl]
      refine Cut.mk (Adj.keep [(0, .d (.one (ndS t))), (3, .hdl 13 0), (4, tint (maxI (stM t k) ((sT t k).getD k 0))), (5, tint k), (6, tint 0), (7, tint (ndget t k).f)] [(13, .bld 0 t.length 1 3 (lG iL 0 ((sT t k).set (ndget t k).f.toNat ((sT t k).getD k 0))))] (.cons (.bld (fun i hi j hj => ?_)) .nil) (.cons .same (.cons (.hdl rfl rfl) (.cons .same (.cons .same (.cons .same (.cons .same .nil)))))) ?_)
      · exact lG_set iL 0 (sT t k) ((sT t k).getD k 0) (ndget t k).f.toNat i j 1 [i64 ((sT t k).getD ((k : Int)).toNat 0)] (by rw [Int.toNat_natCast]) (by rw [hsl]; exact hi) hj
      refine Need.mk (⟨f3, by omega⟩ : 0 ≤ (ndget t k).f ∧ (ndget t k).f < (t.length : Int)) ?_
      refine Need.mk (by omega) ?_
      refine Need.mk (by kernel_rfl) ?_
      refine Need.mk (by kernel_rfl) ?_
      show Split (!((ndget t (ndget t k).f.toNat).v == (ndget t k).v)) _
      refine Split.mk (fun g => ?_) (fun g => ?_)
      · have g' : ¬ (ndget t (ndget t k).f.toNat).v = (ndget t k).v := by simpa using g
        rw [if_neg g'] at hd
        refine Need.mk (⟨f3, by omega⟩ : 0 ≤ (ndget t k).f ∧ (ndget t k).f < (t.length : Int)) ?_
        refine Need.mk (⟨f3, by omega⟩ : 0 ≤ (ndget t k).f ∧ (ndget t k).f < (t.length : Int)) ?_
        refine Adj.back (x := 0) 1 (by omega) (by omega) (.cons (.bld (fun i hi j hj => ?_)) .nil) (.cons .same (.cons (.hdl rfl rfl) (.cons .same (.cons .same (.cons (SlotLe.int rfl) .nil)))))
        have hle := lG_set iL 0 ((sT t k).set (ndget t k).f.toNat ((sT t k).getD k 0)) ((sT t k).getD k 0 + 1) (ndget t k).f.toNat i j 1 [i64 (IntKind.i64.wrap (((sT t k).set (ndget t k).f.toNat ((sT t k).getD k 0)).getD (ndget t k).f.toNat 0 + 1))] (by rw [getD_set_eq (by rw [hsl]; exact f2), hw _ (by omega) (by omega)]) (by rw [hlS]; exact hi) hj
        refine SLe.trans hle (SLe.of_eq ?_)
        rw [List.set_set]
        show _ = lG iL 0 ((sT t k).set (ndget t k).f.toNat ((sT t k).getD k 0 + dV t k (ndget t k).f)) i j
        rw [hd]
      · have g' : (ndget t (ndget t k).f.toNat).v = (ndget t k).v := by simpa using g
        rw [if_pos g'] at hd
        refine Adj.back (x := 0) 1 (by omega) (by omega) (.cons (.bld (fun i hi j hj => SLe.of_eq ?_)) .nil) (.cons .same (.cons (.hdl rfl rfl) (.cons .same (.cons .same (.cons (SlotLe.int rfl) .nil)))))
        show _ = lG iL 0 ((sT t k).set (ndget t k).f.toNat ((sT t k).getD k 0 + dV t k (ndget t k).f)) i j
        rw [hd, Int.add_zero]
    · refine Split.t ?_
      refine Need.mk (by omega) ?_
      have hS1 : (sJ t k 1).length = t.length := by show (List.set _ _ _).length = _; rw [List.length_set, hsl]
      have hg1 : (sJ t k 1).getD k 0 = (sT t k).getD k 0 := getD_set_ne (by omega)
      refine Need.mk (by omega) ?_
      refine Need.mk (⟨s3, by omega⟩ : 0 ≤ (ndget t k).s ∧ (ndget t k).s < (t.length : Int)) ?_
      have hd : dV t k (ndget t k).s = if (ndget t (ndget t k).s.toNat).v = (ndget t k).v then 0 else 1 := rfl
      have hlS : ((sJ t k 1).set (ndget t k).s.toNat ((sT t k).getD k 0)).length = t.length := by rw [List.length_set, hS1]
      refine Cut.mk (Adj.keep [(0, .d (.one (ndS t))), (3, .hdl 13 0), (4, tint (maxI (stM t k) ((sT t k).getD k 0))), (5, tint k), (6, tint 1), (7, tint (ndget t k).s)] [(13, .bld 0 t.length 1 3 (lG iL 0 ((sJ t k 1).set (ndget t k).s.toNat ((sT t k).getD k 0))))] (.cons (.bld (fun i hi j hj => ?_)) .nil) (.cons .same (.cons (.hdl rfl rfl) (.cons .same (.cons .same (.cons .same (.cons .same .nil)))))) ?_)
      · exact lG_set iL 0 (sJ t k 1) ((sT t k).getD k 0) (ndget t k).s.toNat i j 1 [i64 ((sJ t k 1).getD ((k : Int)).toNat 0)] (by rw [Int.toNat_natCast, hg1]) (by rw [hS1]; exact hi) hj
      refine Need.mk (⟨s3, by omega⟩ : 0 ≤ (ndget t k).s ∧ (ndget t k).s < (t.length : Int)) ?_
      refine Need.mk (by omega) ?_
      refine Need.mk (by kernel_rfl) ?_
      refine Need.mk (by kernel_rfl) ?_
      show Split (!((ndget t (ndget t k).s.toNat).v == (ndget t k).v)) _
      refine Split.mk (fun g => ?_) (fun g => ?_)
      · have g' : ¬ (ndget t (ndget t k).s.toNat).v = (ndget t k).v := by simpa using g
        rw [if_neg g'] at hd
        refine Need.mk (⟨s3, by omega⟩ : 0 ≤ (ndget t k).s ∧ (ndget t k).s < (t.length : Int)) ?_
        refine Need.mk (⟨s3, by omega⟩ : 0 ≤ (ndget t k).s ∧ (ndget t k).s < (t.length : Int)) ?_
        refine Adj.back (x := 1) 2 (by omega) (by omega) (.cons (.bld (fun i hi j hj => ?_)) .nil) (.cons .same (.cons (.hdl rfl rfl) (.cons .same (.cons .same (.cons (SlotLe.int rfl) .nil)))))
        have hle := lG_set iL 0 ((sJ t k 1).set (ndget t k).s.toNat ((sT t k).getD k 0)) ((sT t k).getD k 0 + 1) (ndget t k).s.toNat i j 1 [i64 (IntKind.i64.wrap (((sJ t k 1).set (ndget t k).s.toNat ((sT t k).getD k 0)).getD (ndget t k).s.toNat 0 + 1))] (by rw [getD_set_eq (by rw [hS1]; exact s2), hw _ (by omega) (by omega)]) (by rw [hlS]; exact hi) hj
        refine SLe.trans hle (SLe.of_eq ?_)
        rw [List.set_set]
        show _ = lG iL 0 ((sJ t k 1).set (ndget t k).s.toNat ((sT t k).getD k 0 + dV t k (ndget t k).s)) i j
        rw [hd]
      · have g' : (ndget t (ndget t k).s.toNat).v = (ndget t k).v := by simpa using g
        rw [if_pos g'] at hd
        refine Adj.back (x := 1) 2 (by omega) (by omega) (.cons (.bld (fun i hi j hj => SLe.of_eq ?_)) .nil) (.cons .same (.cons (.hdl rfl rfl) (.cons .same (.cons .same (.cons (SlotLe.int rfl) .nil)))))
        show _ = lG iL 0 ((sJ t k 1).set (ndget t k).s.toNat ((sT t k).getD k 0 + dV t k (ndget t k).s)) i j
        rw [hd, Int.add_zero]
/-! ### the program's walk -/
abbrev wM (t : List Nd) (m : Int) : List Mem := [.box [ndS t], .box [i64 m], .obj [.clo 75 [.ptr (.n 2000) 0, .ptr (.n 2001) 0, .ptr (.n 2002) 0]]]
theorem walk_detM {t : List Nd} (J : Jn t) : ∀ (n i : Nat) (st m : Int), i < t.length → t.length ≤ n + i → 0 ≤ st → st + n ≤ 100000 →
    DetM Try.prog 75 [tint i, tint st, .ptr (.n 2000) 0, .ptr (.n 2001) 0, .ptr (.n 2002) 0] (wM t m) (.tup []) (wM t (wk t n i st m)) .none
  | 0, i, _, _, h1, h2, _, _ => absurd h1 (by omega)
  | n + 1, i, st, m, hi, hn, h0, h1 => by
    have l1 := J.l1
    have hwk : wk t (n + 1) i st m = if leafI (ndget t i) = true then m else wk t n (ndget t i).s.toNat (st + dV t i (ndget t i).s) (wk t n (ndget t i).f.toNat (st + dV t i (ndget t i).f) (maxI m st)) := rfl
    refine detM_of_awp TTok mixed Try.func75 rfl rfl [75 + 2000000] (Nat.le_of_ble_eq_true rfl) (Nat.le_of_ble_eq_true rfl) (sigM_of rfl) ?_
    refine Need.mk (by omega) ?_
    show Split ((ndget t i).f == -1) _
    refine Split.mk (fun c1 => ?_) (fun c1 => ?_)
    · have c1' : (ndget t i).f = -1 := eq_of_beq c1
      have hl : leafI (ndget t i) = true := by
        cases hq : leafI (ndget t i) with
        | true => rfl
        | false => have := (J.kids i hi hq).1.2.2; omega
      rw [if_pos hl] at hwk
      exact EndM.mk ⟨.n 0, .none, .cons (.box (LLe.refl _)) (.cons (.box (LLe.of_eq (by rw [hwk]))) (.cons (.obj (.cons (.clo (.cons (.ptr rfl) (.cons (.ptr rfl) (.cons (.ptr rfl) .nil)))) .nil)) (.nil _))), .inl rfl⟩
    have hl : leafI (ndget t i) = false := by
      cases hq : leafI (ndget t i) with
      | false => rfl
      | true =>
        simp only [leafI, Bool.and_eq_true, decide_eq_true_eq] at hq
        exact absurd hq.1 (ne_of_beq_false c1)
    rw [if_neg (by rw [hl]; simp)] at hwk
    obtain ⟨⟨f1, f2, f3⟩, s1, s2, s3⟩ := J.kids i hi hl
    have ef : (ndget t i).f = (((ndget t i).f.toNat : Nat) : Int) := by omega
    have es : (ndget t i).s = (((ndget t i).s.toNat : Nat) : Int) := by omega
    have hd1 : dV t i (ndget t i).f = if (ndget t (ndget t i).f.toNat).v = (ndget t i).v then 0 else 1 := rfl
    have hd2 : dV t i (ndget t i).s = if (ndget t (ndget t i).s.toNat).v = (ndget t i).v then 0 else 1 := rfl
    have b1 := dV_bd t i (ndget t i).f
    have b2 := dV_bd t i (ndget t i).s
    have c1M := walk_detM J n (ndget t i).f.toNat (st + dV t i (ndget t i).f) (maxI m st) f2 (by omega) (by omega) (by omega)
    have c2M := walk_detM J n (ndget t i).s.toNat (st + dV t i (ndget t i).s) (wk t n (ndget t i).f.toNat (st + dV t i (ndget t i).f) (maxI m st)) s2 (by omega) (by omega) (by omega)
    rw [← hwk] at c2M
    generalize wk t n (ndget t i).f.toNat (st + dV t i (ndget t i).f) (maxI m st) = m1 at *
    refine Loop.unroll 3 ?_
    refine Split.t ?_
    refine Need.mk (by decide) ?_
    refine Need.mk (⟨f3, by omega⟩ : 0 ≤ (ndget t i).f ∧ (ndget t i).f < (t.length : Int)) ?_
    refine Need.mk (by kernel_rfl) ?_
    refine Need.mk (by kernel_rfl) ?_
    show Split (!((ndget t (ndget t i).f.toNat).v == (ndget t i).v)) _
    refine Split.mk (fun g => ?a1) (fun g => ?a2)
    case' a1 =>
      have g' : ¬ (ndget t (ndget t i).f.toNat).v = (ndget t i).v := by simpa using g
      rw [if_neg g'] at hd1
      refine CallM.mk' [2000, 2001, 2002] c1M ⟨.cons (.box (LLe.refl _)) (.cons (.box (LLe.refl _)) (.cons (.obj (.cons (.clo (.cons (.ptr rfl) (.cons (.ptr rfl) (.cons (.ptr rfl) .nil)))) .nil)) .nil)), .cons (.d (DLe.of_eq (congrArg (fun x => DV.one (i64 x)) ef))) (.cons (.d (DLe.of_eq (by rw [hd1, hw _ (by omega) (by omega)]))) (.cons (.ptr rfl) (.cons (.ptr rfl) (.cons (.ptr rfl) .nil)))), rfl, rfl, fun h => absurd rfl h⟩ ?_
    case' a2 =>
      have g' : (ndget t (ndget t i).f.toNat).v = (ndget t i).v := by simpa using g
      rw [if_pos g'] at hd1
      refine CallM.mk' [2000, 2001, 2002] c1M ⟨.cons (.box (LLe.refl _)) (.cons (.box (LLe.refl _)) (.cons (.obj (.cons (.clo (.cons (.ptr rfl) (.cons (.ptr rfl) (.cons (.ptr rfl) .nil)))) .nil)) .nil)), .cons (.d (DLe.of_eq (congrArg (fun x => DV.one (i64 x)) ef))) (.cons (.d (DLe.of_eq (by rw [hd1, Int.add_zero]))) (.cons (.ptr rfl) (.cons (.ptr rfl) (.cons (.ptr rfl) .nil)))), rfl, rfl, fun h => absurd rfl h⟩ ?_
    all_goals
      refine Split.t ?_
      refine Need.mk (by decide) ?_
      refine Need.mk (⟨s3, by omega⟩ : 0 ≤ (ndget t i).s ∧ (ndget t i).s < (t.length : Int)) ?_
      refine Need.mk (by kernel_rfl) ?_
      refine Need.mk (by kernel_rfl) ?_
      show Split (!((ndget t (ndget t i).s.toNat).v == (ndget t i).v)) _
      refine Split.mk (fun g2 => ?_) (fun g2 => ?_)
      · have g2' : ¬ (ndget t (ndget t i).s.toNat).v = (ndget t i).v := by simpa using g2
        rw [if_neg g2'] at hd2
        refine CallM.mk' [2000, 2001, 2002] c2M ⟨.cons (.box (LLe.refl _)) (.cons (.box (LLe.refl _)) (.cons (.obj (.cons (.clo (.cons (.ptr rfl) (.cons (.ptr rfl) (.cons (.ptr rfl) .nil)))) .nil)) .nil)), .cons (.d (DLe.of_eq (congrArg (fun x => DV.one (i64 x)) es))) (.cons (.d (DLe.of_eq (by rw [hd2, hw _ (by omega) (by omega)]))) (.cons (.ptr rfl) (.cons (.ptr rfl) (.cons (.ptr rfl) .nil)))), rfl, rfl, fun h => absurd rfl h⟩ ?_
        refine Split.f ?_
        exact EndM.mk ⟨.n 0, .none, .cons (.box (LLe.refl _)) (.cons (.box (LLe.refl _)) (.cons (.obj (.cons (.clo (.cons (.ptr rfl) (.cons (.ptr rfl) (.cons (.ptr rfl) .nil)))) .nil)) (.nil _))), .inl rfl⟩
      · have g2' : (ndget t (ndget t i).s.toNat).v = (ndget t i).v := by simpa using g2
        rw [if_pos g2'] at hd2
        refine CallM.mk' [2000, 2001, 2002] c2M ⟨.cons (.box (LLe.refl _)) (.cons (.box (LLe.refl _)) (.cons (.obj (.cons (.clo (.cons (.ptr rfl) (.cons (.ptr rfl) (.cons (.ptr rfl) .nil)))) .nil)) .nil)), .cons (.d (DLe.of_eq (congrArg (fun x => DV.one (i64 x)) es))) (.cons (.d (DLe.of_eq (by rw [hd2, Int.add_zero]))) (.cons (.ptr rfl) (.cons (.ptr rfl) (.cons (.ptr rfl) .nil)))), rfl, rfl, fun h => absurd rfl h⟩ ?_
        refine Split.f ?_
        exact EndM.mk ⟨.n 0, .none, .cons (.box (LLe.refl _)) (.cons (.box (LLe.refl _)) (.cons (.obj (.cons (.clo (.cons (.ptr rfl) (.cons (.ptr rfl) (.cons (.ptr rfl) .nil)))) .nil)) (.nil _))), .inl rfl⟩
theorem stages_det (t : List Nd) (hl : t.length ≤ 100000000) : Det Try.prog 42 [.one (ndS t)] (tint (stagesR t)) := by
  refine det_of_awp TTok mixed Try.func42 rfl rfl [75 + 1000000, 75 + 2000000] (Nat.le_of_ble_eq_true rfl) ?_
  refine CallW.bool (joined_det t hl) (fun b hb => ?_)
  refine Split.mk (fun c1 => ?_) (fun c1 => ?_)
  · have : joinB t = false := by rw [← hb]; simpa using c1
    refine Fin.int ?_
    rw [stagesR, if_neg (by rw [this]; simp)]
  have hj : joinB t = true := by rw [← hb]; simpa using c1
  have J := joined_of hj
  have l0 := J.l0
  have l1 := J.l1
  rw [stagesR, if_pos hj]
  have hc : DetM Try.prog 75 [tint 0, tint 1, .ptr (.n 2000) 0, .ptr (.n 2001) 0, .ptr (.n 2002) 0] (wM t 0) (.tup []) (wM t (stM t t.length)) .none := by
    have := walk_detM J t.length 0 1 0 (by omega) (by omega) (by decide) (by omega)
    rw [wk_eq J] at this
    exact this
  refine CallM.mk' [1, 3, 4] hc ⟨.cons (.box (LLe.refl _)) (.cons (.box (LLe.refl _)) (.cons (.obj (.cons (.clo (.cons (.ptr rfl) (.cons (.ptr rfl) (.cons (.ptr rfl) .nil)))) .nil)) .nil)), .cons (.d (DLe.refl _)) (.cons (.d (DLe.refl _)) (.cons (.ptr rfl) (.cons (.ptr rfl) (.cons (.ptr rfl) .nil)))), rfl, rfl, fun h => absurd rfl h⟩ ?_
  exact Fin.int rfl
end St
end Go.Vm
