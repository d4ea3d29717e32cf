/-
  Layer 47: the statements' first look at the example; contours as they come in; SequenceDepends, SequenceOrder, SequenceCheck.
-/
import Derived.Test.YtamlpihmfedkkaaSeqL
import Derived.Test.YtamlpihmfedkkaaRingO
namespace Go.Vm
set_option maxRecDepth 20000
set_option linter.unusedVariables false
set_option linter.unusedSimpArgs false
open Go Go.RowKit Go.Proofs
namespace Sg

abbrev sqL (x y n : Int) : List V2 := [⟨x, y⟩, ⟨x + n, y⟩, ⟨x + n, y + n⟩, ⟨x, y + n⟩]
abbrev exC : List Ct := [⟨0, -1, sqL 0 0 9, ⟨-1, -1⟩, 0⟩, ⟨0, 0, sqL 3 3 2, ⟨4, 4⟩, 0⟩]
theorem square47_det (x y n : Int) (hx : x = 0 ∨ x = 3) (hy : y = x) (hn : n = 9 ∨ n = 2) : Det Try.prog 64 [.one (i64 x), .one (i64 y), .one (i64 n)] (.d (.one (vlS (sqL x y n)))) := by
  refine det_of_awp TTok mixed Try.func64 rfl rfl [] (Nat.le_of_ble_eq_true rfl) ?_
  have e1 : IntKind.i64.wrap (x + n) = x + n := wid (by omega) (by omega)
  have e2 : IntKind.i64.wrap (y + n) = y + n := wid (by omega) (by omega)
  refine Fin.one (SLe.lit rfl (fun i hi => ?_))
  match i, hi with
  | 0, _ => exact ⟨rfl, rfl⟩
  | 1, _ => exact ⟨congrArg i64 e1, rfl⟩
  | 2, _ => exact ⟨congrArg i64 e1, congrArg i64 e2⟩
  | 3, _ => exact ⟨rfl, congrArg i64 e2⟩
theorem exC_few : FewC exC := by
  intro i
  match i with
  | 0 => decide
  | 1 => decide
  | i + 2 => exact Nat.zero_le _
theorem exC_dep : depT exC = ([[1], []], 0) := by
  have : decide (depT exC = ([[1], []], 0)) = true := by kernel_rfl
  exact of_decide_eq_true this
theorem exC_ord : ordT exC 0 ⟨0, 0⟩ = ([1, 0], 0) := by
  have : decide (ordT exC 0 ⟨0, 0⟩ = ([1, 0], 0)) = true := by kernel_rfl
  exact of_decide_eq_true this
theorem exC_tra : travT exC [1, 0] ⟨0, 0⟩ = (8, 0) := by
  have : decide (travT exC [1, 0] ⟨0, 0⟩ = (8, 0)) = true := by kernel_rfl
  exact of_decide_eq_true this
theorem exC_chk : chkT exC [0, 1] = 22 := by
  have : decide (chkT exC [0, 1] = 22) = true := by kernel_rfl
  exact of_decide_eq_true this
theorem awake47_det : Det Try.prog 15 [] (tbool true) := by
  refine det_of_awp TTok mixed Try.func15 rfl rfl [] (Nat.le_of_ble_eq_true rfl) ?_
  refine CallW.mk' (square47_det 0 0 9 (by decide) rfl (by decide)) ?_
  refine CallW.mk' (square47_det 3 3 2 (by decide) rfl (by decide)) ?_
  refine CallW.le (depends47_det exC (by decide) exC_few) (.cons (DLe.one (SLe.slN rfl (fun i hi j hj => ?_))) .nil) ?_
  · match i, hi, j, hj with
    | 0, _, 0, _ => exact SLe.of_eq rfl
    | 0, _, 1, _ => exact SLe.of_eq rfl
    | 0, _, 2, _ => exact SLe.of_eq rfl
    | 0, _, 3, _ => exact SLe.of_eq rfl
    | 0, _, 4, _ => exact SLe.of_eq rfl
    | 0, _, 5, _ => exact SLe.of_eq rfl
    | 1, _, 0, _ => exact SLe.of_eq rfl
    | 1, _, 1, _ => exact SLe.of_eq rfl
    | 1, _, 2, _ => exact SLe.of_eq rfl
    | 1, _, 3, _ => exact SLe.of_eq rfl
    | 1, _, 4, _ => exact SLe.of_eq rfl
    | 1, _, 5, _ => exact SLe.of_eq rfl
  rw [exC_dep]
  refine CallW.le (order_det exC ⟨0, 0⟩ 0 (by decide) exC_few) (.cons (DLe.one (SLe.slN rfl (fun i hi j hj => ?_))) (.cons (DLe.refl _) (.cons (DLe.refl _) .nil))) ?_
  · match i, hi, j, hj with
    | 0, _, 0, _ => exact SLe.of_eq rfl
    | 0, _, 1, _ => exact SLe.of_eq rfl
    | 0, _, 2, _ => exact SLe.of_eq rfl
    | 0, _, 3, _ => exact SLe.of_eq rfl
    | 0, _, 4, _ => exact SLe.of_eq rfl
    | 0, _, 5, _ => exact SLe.of_eq rfl
    | 1, _, 0, _ => exact SLe.of_eq rfl
    | 1, _, 1, _ => exact SLe.of_eq rfl
    | 1, _, 2, _ => exact SLe.of_eq rfl
    | 1, _, 3, _ => exact SLe.of_eq rfl
    | 1, _, 4, _ => exact SLe.of_eq rfl
    | 1, _, 5, _ => exact SLe.of_eq rfl
  rw [exC_ord]
  refine CallW.le (travel_det exC [1, 0] ⟨0, 0⟩ (by decide) (by decide) exC_few) (.cons (DLe.one (SLe.slN rfl (fun i hi j hj => ?_))) (.cons (DLe.refl _) (.cons (DLe.refl _) .nil))) ?_
  · match i, hi, j, hj with
    | 0, _, 0, _ => exact SLe.of_eq rfl
    | 0, _, 1, _ => exact SLe.of_eq rfl
    | 0, _, 2, _ => exact SLe.of_eq rfl
    | 0, _, 3, _ => exact SLe.of_eq rfl
    | 0, _, 4, _ => exact SLe.of_eq rfl
    | 0, _, 5, _ => exact SLe.of_eq rfl
    | 1, _, 0, _ => exact SLe.of_eq rfl
    | 1, _, 1, _ => exact SLe.of_eq rfl
    | 1, _, 2, _ => exact SLe.of_eq rfl
    | 1, _, 3, _ => exact SLe.of_eq rfl
    | 1, _, 4, _ => exact SLe.of_eq rfl
    | 1, _, 5, _ => exact SLe.of_eq rfl
  rw [exC_tra]
  repeat' first | refine Split.t ?_ | refine Need.mk (by decide) ?_ | refine Need.mk (by kernel_rfl) ?_ | fail
  refine CallW.le (chk47_det exC [0, 1] (by decide) (by decide) exC_few) (.cons (DLe.one (SLe.slN rfl (fun i hi j hj => ?_))) (.cons (DLe.one (SLe.slN rfl (fun i hi j hj => ?_))) .nil)) ?_
  · match i, hi, j, hj with
    | 0, _, 0, _ => exact SLe.of_eq rfl
    | 0, _, 1, _ => exact SLe.of_eq rfl
    | 0, _, 2, _ => exact SLe.of_eq rfl
    | 0, _, 3, _ => exact SLe.of_eq rfl
    | 0, _, 4, _ => exact SLe.of_eq rfl
    | 0, _, 5, _ => exact SLe.of_eq rfl
    | 1, _, 0, _ => exact SLe.of_eq rfl
    | 1, _, 1, _ => exact SLe.of_eq rfl
    | 1, _, 2, _ => exact SLe.of_eq rfl
    | 1, _, 3, _ => exact SLe.of_eq rfl
    | 1, _, 4, _ => exact SLe.of_eq rfl
    | 1, _, 5, _ => exact SLe.of_eq rfl
  · match i, hi, j, hj with
    | 0, _, 0, _ => exact SLe.of_eq rfl
    | 1, _, 0, _ => exact SLe.of_eq rfl
  rw [exC_chk]
  repeat' first | refine Split.t ?_ | refine Need.mk (by decide) ?_ | refine Need.mk (by kernel_rfl) ?_ | fail
  exact Fin.rfl'
/-! ### contours as they come in -/
theorem cts_of {v : DV} (h : TypD Try.prog 22 v) : ∃ l : List Ct, l.length ≤ maxLen ∧ (∀ i, (ctGet l i).ring.length ≤ maxLen) ∧ DLe v (.one (ctS l)) := by
  obtain ⟨c, rfl, h1⟩ := TypD.one (by kernel_rfl) h
  obtain ⟨n, get, e, hn, hr⟩ := Typ.inv_slc (P := Try.prog) (e := 48) rfl h1
  cases e
  have hp : ∀ i, ∃ c : Ct, c.ring.length ≤ maxLen ∧ (i < n → ∀ j, j < 6 → SLe (get i j) ((ctL c).getD j (.v Go.undef))) := fun i => by
    by_cases hi : i < n
    · have hc : Typ Try.prog 48 [get i 0, get i 1, get i 2, get i 3, get i 4, get i 5] := hr i hi
      obtain ⟨a0, e0, _⟩ := Typ.inv_i64 rfl (hc.field rfl 0 0 1 3 rfl)
      obtain ⟨a1, e1, _⟩ := Typ.inv_i64 rfl (hc.field rfl 1 1 1 3 rfl)
      obtain ⟨m, g, e2, hm, hg⟩ := Typ.inv_slc (P := Try.prog) (e := 35) rfl (hc.field rfl 2 2 1 46 rfl)
      obtain ⟨a3, a4, e3, _⟩ := typ35 (hc.field rfl 3 3 2 35 rfl)
      obtain ⟨a5, e5, _⟩ := Typ.inv_i64 rfl (hc.field rfl 4 5 1 3 rfl)
      obtain ⟨l, hl, hle⟩ := list_of hg
      have e0' : get i 0 = i64 a0 := by have : [get i 0] = [i64 a0] := e0; simpa using this
      have e1' : get i 1 = i64 a1 := by have : [get i 1] = [i64 a1] := e1; simpa using this
      have e2' : get i 2 = .sl m 2 g := by have : [get i 2] = [.sl m 2 g] := e2; simpa using this
      have e3' : get i 3 = i64 a3 ∧ get i 4 = i64 a4 := by have : [get i 3, get i 4] = [i64 a3, i64 a4] := e3; simpa using this
      have e5' : get i 5 = i64 a5 := by have : [get i 5] = [i64 a5] := e5; simpa using this
      refine ⟨⟨a0, a1, l, ⟨a3, a4⟩, a5⟩, by show l.length ≤ maxLen; rw [hl]; exact hm, fun _ j hj => ?_⟩
      match j, hj with
      | 0, _ => exact SLe.of_eq e0'
      | 1, _ => exact SLe.of_eq e1'
      | 2, _ => rw [e2']; exact fun S w x r => hle S w x r
      | 3, _ => exact SLe.of_eq e3'.1
      | 4, _ => exact SLe.of_eq e3'.2
      | 5, _ => exact SLe.of_eq e5'
    · exact ⟨ct0, Nat.zero_le _, fun h => absurd h hi⟩
  obtain ⟨R, hR⟩ := Classical.axiomOfChoice hp
  have hg : ∀ i, i < n → ctGet ((List.range n).map R) i = R i := fun i hi => by simp [ctGet, List.getD, hi]
  refine ⟨(List.range n).map R, by simpa using hn, fun i => ?_, DLe.one (SLe.slN (by simp) (fun i hi j hj => ?_))⟩
  · by_cases hi : i < n
    · rw [hg i hi]; exact (hR i).1
    · have : ctGet ((List.range n).map R) i = ct0 := by simp [ctGet, List.getD, Nat.le_of_not_lt hi]
      rw [this]; exact Nat.zero_le _
  · have := (hR i).2 hi j hj
    rw [← hg i hi] at this
    match j, hj with
    | 0, _ => exact this
    | 1, _ => exact this
    | 2, _ => exact this
    | 3, _ => exact this
    | 4, _ => exact this
    | 5, _ => exact this
theorem fewCB_iff {l : List Ct} (h : fewCB l = true) : l.length ≤ 8 ∧ FewC l := by
  simp only [fewCB, Bool.and_eq_true, decide_eq_true_eq] at h
  refine ⟨h.2, fun i => ?_⟩
  by_cases hi : i < l.length
  · exact of_decide_eq_true (allB_iff.1 h.1 i hi)
  · rw [ctGet, List.getD, List.getElem?_eq_none (by omega)]
    exact Nat.zero_le _
theorem ldep_det (l : List Ct) (hl : l.length ≤ maxLen) (hr : ∀ i, (ctGet l i).ring.length ≤ maxLen) : Det Try.prog 3 [.one (ctS l)] (tbool true) := by
  refine det_of_awp TTok mixed Try.func3 rfl rfl [] (Nat.le_of_ble_eq_true rfl) ?_
  refine CallW.mk' awake47_det ?_
  refine Split.f ?_
  refine CallW.bool (few47_det l hl hr) (fun b hb => ?_)
  refine Split.mk (fun h => ?_) (fun h => ?_)
  · exact Fin.rfl'
  have hf0 : fewCB l = true := by rw [← hb]; simpa using h
  obtain ⟨h8, hf⟩ := fewCB_iff hf0
  refine CallW.mk' (own_det l (by omega)) ?_
  refine CallW.mk' (depends47_det l (by omega) hf) ?_
  refine CallW.mk' (rdepends_det l (by omega) hf) ?_
  have hD : (depT l).1.length ≤ 8 ∧ ∀ i, ((depT l).1.getD i []).length ≤ 10000 := by
    unfold depT
    split
    · exact ⟨Nat.zero_le _, fun i => by simp⟩
    · refine ⟨by simp [depL]; omega, fun i => ?_⟩
      by_cases hi : i < l.length
      · rw [depL_at l hi]
        have := depK_len l i l.length
        omega
      · simp [depL, List.getD, hi]
  obtain ⟨hD, hDi⟩ := hD
  generalize (depT l).1 = D at hD hDi
  generalize (depT l).2 = e
  have ee : (e != e) = false := by simp
  have eD : ((D.length : Int) != D.length) = false := by simp
  repeat' first | refine Split.t ?_ | refine Split.f ?_ | refine Split.isF ee ?_ | refine Split.isF eD ?_ | fail
  refine Loop.by (α := Nat) (fun k => [(3, .d (.one (illS D))), (5, .d (.one (illS D))), (7, tint k)]) (fun _ => []) (fun k => k ≤ D.length) (fun k => D.length - k)
    (Adj.at 0 (Nat.zero_le _) .nil (.cons .same (.cons .same (.cons .same .nil)))) (fun k hk => ?_)
  refine Split.mk (fun h => ?_) (fun h => ?_)
  · have hlt : k < D.length := by have := of_decide_eq_true h; omega
    refine Need.mk (by omega) ?_
    refine Need.mk (by omega) ?_
    refine CallW.mk' ((samei_det (D.getD k []) (D.getD k []) (hDi k)).eq (by rw [decide_eq_true rfl])) ?_
    refine Need.mk (by kernel_rfl) ?_
    repeat' first | refine Split.t ?_ | refine Split.f ?_ | fail
    refine Adj.back (x := k) (k + 1) (by omega) (by omega) .nil (.cons .same (.cons .same (.cons (SlotLe.int ?_) .nil)))
    rw [hw _ (by omega) (by omega)]; omega
  · exact Fin.rfl'
theorem ord_ok {l : List Ct} {h : Int} {v : V2} (h0 : (ordT l h v).2 = 0) : chkI l = 0 ∧ (ordT l h v).1 = ordO l h v l.length ∧ chkT l (ordT l h v).1 = 0 := by
  unfold ordT at h0 ⊢
  split at h0
  · rename_i h1; exact absurd h0 h1
  rename_i h1
  rw [if_neg h1]
  split at h0
  · cases h0
  rename_i h2
  rw [if_neg h2]
  have hc : chkI l = 0 := by simpa using h1
  refine ⟨hc, rfl, ?_⟩
  have hl := ordO_len l h v l.length
  rw [chkT, if_neg h1, ordE, if_neg (by simp [hl]), if_pos (allB_iff.2 (fun k hk => ord_step l h v (Nat.le_refl _) (by rwa [hl] at hk)))]
theorem ordT_len (l : List Ct) (h : Int) (v : V2) : (ordT l h v).1.length ≤ l.length := by
  unfold ordT
  split
  · exact Nat.zero_le _
  split
  · exact Nat.zero_le _
  · show (ordO l h v l.length).length ≤ _
    rw [ordO_len]; exact Nat.le_refl _
theorem lord_det (l : List Ct) (v : V2) (ht : Int) (hl : l.length ≤ maxLen) (hr : ∀ i, (ctGet l i).ring.length ≤ maxLen) : Det Try.prog 4 [.one (ctS l), vD v, .one (i64 ht)] (tbool true) := by
  refine det_of_awp TTok mixed Try.func4 rfl rfl [] (Nat.le_of_ble_eq_true rfl) ?_
  refine CallW.mk' awake47_det ?_
  refine Split.f ?_
  refine CallW.bool (few47_det l hl hr) (fun b hb => ?_)
  refine Split.mk (fun h => ?_) (fun h => ?_)
  · exact Fin.rfl'
  have hf0 : fewCB l = true := by rw [← hb]; simpa using h
  obtain ⟨h8, hf⟩ := fewCB_iff hf0
  refine CallW.mk' (own_det l (by omega)) ?_
  refine CallW.mk' (order_det l v ht (by omega) hf) ?_
  refine Need.mk (by kernel_rfl) ?_
  refine CallW.mk' (rorder_det l v ht (by omega) hf) ?_
  have hol := ordT_len l ht v
  have hok := ord_ok (l := l) (h := ht) (v := v)
  have hO : ∃ O, O = (ordT l ht v).1 := ⟨_, rfl⟩
  have hE : ∃ e, e = (ordT l ht v).2 := ⟨_, rfl⟩
  obtain ⟨O, hO⟩ := hO
  obtain ⟨e, hE⟩ := hE
  rw [← hO, ← hE] at hok
  rw [← hO] at hol ⊢
  rw [← hE]
  refine CallW.mk' ((samei_det O O (by omega)).eq (by rw [decide_eq_true rfl])) ?_
  have ee : (e == e) = true := by simp
  repeat' first | refine Split.t ?_ | refine Split.f ?_ | refine Split.isT ee ?_ | fail
  refine Split.mk (fun h1 => ?_) (fun h1 => ?_)
  · repeat' first | refine Split.t ?_ | refine Split.f ?_ | refine Split.isT h1 ?_ | refine Split.isT ee ?_ | fail
    exact Fin.rfl'
  · repeat' first | refine Split.t ?_ | refine Split.f ?_ | refine Split.isF h1 ?_ | refine Split.isT ee ?_ | fail
    refine CallW.mk' (own_det l (by omega)) ?_
    repeat' first | refine Split.t ?_ | refine Split.f ?_ | refine Split.isF h1 ?_ | refine Split.isT ee ?_ | fail
    have e0 : e = 0 := by simpa using h1
    refine CallW.mk' ((chk47_det l O (by omega) (by omega) hf).eq (by rw [(hok e0).2.2])) ?_
    repeat' first | refine Split.t ?_ | refine Split.f ?_ | refine Split.isF h1 ?_ | refine Split.isT ee ?_ | fail
    exact Fin.rfl'
theorem hotT_e (l : List Ct) (o : List Int) (h : Int) : (hotT l o h).2 = chkT l o := by
  unfold hotT
  split
  · rfl
  · rename_i h1; exact (show chkT l o = 0 by simpa using h1).symm
theorem lchk_det (l : List Ct) (o : List Int) (v : V2) (ht : Int) (hl : l.length ≤ maxLen) (ho : o.length ≤ maxLen) (hr : ∀ i, (ctGet l i).ring.length ≤ maxLen) : Det Try.prog 7 [.one (ctS l), .agg [ilS o, i64 v.x, i64 v.y, i64 ht]] (tbool true) := by
  refine det_of_awp TTok mixed Try.func7 rfl rfl [] (Nat.le_of_ble_eq_true rfl) ?_
  refine CallW.mk' awake47_det ?_
  refine Split.f ?_
  refine CallW.bool (few47_det l hl hr) (fun b hb => ?_)
  refine Split.mk (fun h => ?_) (fun h => ?_)
  · repeat' first | refine Split.t ?_ | refine Split.f ?_ | refine Split.isT h ?_ | fail
    exact Fin.rfl'
  have hf0 : fewCB l = true := by rw [← hb]; simpa using h
  obtain ⟨h8, hf⟩ := fewCB_iff hf0
  repeat' first | refine Split.t ?_ | refine Split.f ?_ | refine Split.isF h ?_ | fail
  refine Split.mk (fun h1 => ?_) (fun h1 => ?_)
  · exact Fin.rfl'
  have h20 : o.length ≤ 20 := by have : ¬ (o.length : Int) > 20 := of_decide_eq_false h1; omega
  refine CallW.mk' (own_det l (by omega)) ?_
  refine CallW.mk' (hot47_det l o ht (by omega) (by omega) hf) ?_
  refine Need.mk (by kernel_rfl) ?_
  refine CallW.mk' (rhot47_det l o ht (by omega) (by omega) hf) ?_
  refine CallW.mk' (own_det l (by omega)) ?_
  refine CallW.mk' (travel_det l o v (by omega) (by omega) hf) ?_
  refine Need.mk (by kernel_rfl) ?_
  refine CallW.mk' (rtravel_det l o v (by omega) (by omega) hf) ?_
  refine CallW.mk' (own_det l (by omega)) ?_
  refine CallW.int (chk47_det l o (by omega) (by omega) hf) (fun c hc => ?_)
  refine CallW.int (rchk47_det l o (by omega) (by omega) hf) (fun d hd => ?_)
  obtain rfl : c = d := hc.trans hd.symm
  generalize (hotT l o ht).1 = a
  generalize (hotT l o ht).2 = e
  generalize (travT l o v).1 = a'
  generalize (travT l o v).2 = e'
  have i1 : (c == c) = true := by simp
  have i2 : (a == a) = true := by simp
  have i3 : (e == e) = true := by simp
  have i4 : (a' == a') = true := by simp
  have i5 : (e' == e') = true := by simp
  repeat' first | refine Split.isT i1 ?_ | refine Split.isT i2 ?_ | refine Split.isT i3 ?_ | refine Split.isT i4 ?_ | refine Split.isT i5 ?_ | refine Split.t ?_ | refine Split.f ?_ | refine Need.mk (by kernel_rfl) ?_ | fail
  exact Fin.bool i5
theorem ldep_all : ∀ dvs, TypL Try.prog Try.f3.params.toList dvs → Det Try.prog 3 dvs (tbool true) := by
  intro dvs h
  obtain ⟨v0, r0, rfl, h0, q0⟩ := TypL.inv_cons (t := 22) (ts := []) h
  obtain rfl := TypL.inv_nil q0
  obtain ⟨l, hl, hr, hle⟩ := cts_of h0
  exact Det.le (.cons hle .nil) (ldep_det l hl hr)
theorem lord_all : ∀ dvs, TypL Try.prog Try.f4.params.toList dvs → Det Try.prog 4 dvs (tbool true) := by
  intro dvs h
  obtain ⟨v0, r0, rfl, h0, q0⟩ := TypL.inv_cons (t := 22) (ts := [35, 3]) h
  obtain ⟨v1, r1, rfl, h1, q1⟩ := TypL.inv_cons (t := 35) (ts := [3]) q0
  obtain ⟨v2, r2, rfl, h2, q2⟩ := TypL.inv_cons (t := 3) (ts := []) q1
  obtain rfl := TypL.inv_nil q2
  obtain ⟨l, hl, hr, hle⟩ := cts_of h0
  obtain ⟨v, rfl, _⟩ := vecIn h1
  obtain ⟨n, rfl, _⟩ := TypD.i64 (by kernel_rfl) rfl h2
  exact Det.le (.cons hle (.cons (DLe.refl _) (.cons (DLe.refl _) .nil))) (lord_det l v n hl hr)
/-- A list of numbers as it comes in. -/
theorem ints_of {n : Nat} {get : Nat → Nat → SV} (hr : ∀ i, i < n → Typ Try.prog 3 (cells 1 (get i))) : ∃ l : List Int, l.length = n ∧ SLe (.sl n 1 get) (ilS l) := by
  have hp : ∀ i, ∃ a : Int, i < n → get i 0 = i64 a := fun i => by
    by_cases hi : i < n
    · obtain ⟨a, e, _⟩ := Typ.inv_i64 rfl (hr i hi)
      have : [get i 0] = [i64 a] := e
      exact ⟨a, fun _ => by simpa using this⟩
    · exact ⟨0, fun h => absurd h hi⟩
  obtain ⟨R, hR⟩ := Classical.axiomOfChoice hp
  refine ⟨(List.range n).map R, by simp, SLe.slN (by simp) (fun i hi j hj => ?_)⟩
  obtain rfl : j = 0 := by omega
  rw [hR i hi]
  refine SLe.of_eq ?_
  show i64 (R i) = i64 (((List.range n).map R).getD i 0)
  simp [List.getD, hi]
theorem asked_of {v : DV} (h : TypD Try.prog 52 v) : ∃ (o : List Int) (p : V2) (n : Int), o.length ≤ maxLen ∧ DLe v (.agg [ilS o, i64 p.x, i64 p.y, i64 n]) ∧ R64 p.x ∧ R64 p.y ∧ R64 n := by
  obtain ⟨cs, rfl, k⟩ := TypD.agg (by kernel_rfl) h
  have hl : cs.length = 4 := (Typ.inv_str rfl k).1
  match cs, hl, k with
  | [c0, c1, c2, c3], _, k =>
    obtain ⟨m, g, e0, hm, hg⟩ := Typ.inv_slc (P := Try.prog) (e := 3) rfl (k.field rfl 0 0 1 33 rfl)
    obtain ⟨a, b, e1, ha, hb⟩ := typ35 (k.field rfl 1 1 2 35 rfl)
    obtain ⟨n, e2, hn⟩ := Typ.inv_i64 rfl (k.field rfl 2 3 1 3 rfl)
    cases (show [c0] = [.sl m 1 g] from e0)
    cases (show [c1, c2] = [i64 a, i64 b] from e1)
    cases (show [c3] = [i64 n] from e2)
    obtain ⟨o, ho, hle⟩ := ints_of hg
    exact ⟨o, ⟨a, b⟩, n, by rw [ho]; exact hm, DLe.agg (.cons hle (.cons (SLe.refl _) (.cons (SLe.refl _) (.cons (SLe.refl _) .nil)))), ha, hb, hn⟩
theorem lchk_all : ∀ dvs, TypL Try.prog Try.f7.params.toList dvs → Det Try.prog 7 dvs (tbool true) := by
  intro dvs h
  obtain ⟨v0, r0, rfl, h0, q0⟩ := TypL.inv_cons (t := 22) (ts := [52]) h
  obtain ⟨v1, r1, rfl, h1, q1⟩ := TypL.inv_cons (t := 52) (ts := []) q0
  obtain rfl := TypL.inv_nil q1
  obtain ⟨l, hl, hr, hle⟩ := cts_of h0
  obtain ⟨o, v, n, ho, hle2, _⟩ := asked_of h1
  exact Det.le (.cons hle (.cons hle2 .nil)) (lchk_det l o v n hl ho hr)
end Sg
end Go.Vm
