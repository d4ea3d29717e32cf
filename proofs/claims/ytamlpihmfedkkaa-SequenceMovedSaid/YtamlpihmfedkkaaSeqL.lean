/-
  Layer 47: Order of the specification.
-/
import Derived.Test.YtamlpihmfedkkaaSeqK
namespace Go.Vm
set_option maxRecDepth 20000
set_option linter.unusedVariables false
set_option linter.unusedSimpArgs false
open Go Go.RowKit Go.Proofs
namespace Sg

theorem mfitN {m : Id → Mem} {os : List Id} {d : Id} {g n n' k : Nat} {e : TypeId} {get get' : Nat → Nat → SV} (hn : n = n') (h : ∀ i, i < n → ∀ j, j < k → SLe (get i j) (get' i j)) : MFit m os d (.bld g n k e get) (.bld 1 n' k e get') := by
  subst hn; exact .bld h
theorem nowB_def {l : List Ct} {h : Int} {o : List Int} {x : Int} {n : Nat} (hn : o.length = n) (h0 : n ≠ 0) : nowB l h o x = !decide (distV (stO l (iGet o (n - 1))) (stO l x) < h) := by
  subst hn
  rw [nowB, decide_eq_false h0, Bool.false_or]
theorem rorder_det (l : List Ct) (v : V2) (h : Int) (hl : l.length ≤ 10000) (hf : FewC l) : Det Try.prog 22 [.one (ctS l), vD v, .one (i64 h)] (ordV (ordT l h v).1 (ordT l h v).2) := by
  refine det_of_awp TTok mixed Try.func22 rfl rfl [37 + 2000000, 11, 17, 19] (Nat.le_of_ble_eq_true rfl) ?_
  refine CallW.int (rcheck_det l hl hf) (fun e he => ?_)
  refine Split.mk (fun h1 => ?_) (fun h1 => ?_)
  · have hne : chkI l ≠ 0 := by rw [← he]; simpa using h1
    rw [ordT, if_pos hne]
    exact Fin.tup (.cons (DLe.one (SLe.nil _ _)) (.cons (DLe.of_eq (by rw [he])) .nil))
  have h0 : chkI l = 0 := by rw [← he]; simpa using h1
  have hl2 := chk_len h0
  rw [ordT, if_neg (by simp [h0])]
  refine CallW.int (ranged_det v) (fun b hb => ?_)
  refine Split.mk (fun h2 => ?_) (fun h2 => ?_)
  · repeat' first | refine Split.t ?_ | refine Split.f ?_ | refine Split.isT h2 ?_ | fail
    have h2' : withinV v 8000 = false := by
      have h2' : b ≠ 0 := by simpa using h2
      cases h : withinV v 8000
      · rfl
      · rw [if_pos h] at hb; exact absurd hb h2'
    rw [if_pos (by rw [h2']; rfl)]
    exact Fin.tup (.cons (DLe.one (SLe.nil _ _)) (.cons (DLe.refl _) .nil))
  have h2' : withinV v 8000 = true := by
    have h2' : b = 0 := by simpa using h2
    cases h : withinV v 8000
    · rw [h, h2'] at hb; cases hb
    · rfl
  repeat' first | refine Split.t ?_ | refine Split.f ?_ | refine Split.isF h2 ?_ | fail
  refine Split.mk (fun h3 => ?_) (fun h3 => ?_)
  · repeat' first | refine Split.t ?_ | refine Split.f ?_ | refine Split.isF h2 ?_ | refine Split.isT h3 ?_ | fail
    have h3' : h < 0 := of_decide_eq_true h3
    rw [if_pos (by rw [decide_eq_false (show ¬ 0 ≤ h by omega)]; simp)]
    exact Fin.tup (.cons (DLe.one (SLe.nil _ _)) (.cons (DLe.refl _) .nil))
  have h3' : 0 ≤ h := by have : ¬ h < 0 := of_decide_eq_false h3; omega
  repeat' first | refine Split.t ?_ | refine Split.f ?_ | refine Split.isF h2 ?_ | refine Split.isF h3 ?_ | fail
  refine Split.mk (fun h4 => ?_) (fun h4 => ?_)
  · have h4' : h > 8000 := of_decide_eq_true h4
    rw [if_pos (by rw [decide_eq_false (show ¬ h ≤ 8000 by omega)]; simp)]
    exact Fin.tup (.cons (DLe.one (SLe.nil _ _)) (.cons (DLe.refl _) .nil))
  have h4' : h ≤ 8000 := by have : ¬ h > 8000 := of_decide_eq_false h4; omega
  rw [if_neg (by rw [h2', decide_eq_true h3', decide_eq_true h4']; simp)]
  refine Loop.by (α := Nat) (fun k => [(0, .d (.one (ctS l))), (2, tint h), (9, .hdl 118 0), (10, .ptr 10 0)]) (fun k => [(118, .bld 0 k 1 3 (iG (ordO l h v k))), (10, .box (vL (headO l (ordO l h v k) v k)))]) (fun k => k ≤ l.length) (fun k => l.length - k)
    (Adj.nil 9 118 1 3 (iG (ordO l h v 0)) rfl rfl (Adj.at 0 (Nat.zero_le _) (.cons (.bld (fun _ h => absurd h (Nat.not_lt_zero _))) (.cons (.box (LLe.of_eq rfl)) .nil)) (.cons .same (.cons .same (.cons (.hdl rfl rfl) (.cons (.box rfl rfl) .nil)))))) (fun n hn => ?_)
  have hol := ordO_len l h v n
  have ho : ∃ o, o = ordO l h v n := ⟨_, rfl⟩
  obtain ⟨o, ho⟩ := ho
  have hh : ∃ hd, hd = headO l o v n := ⟨_, rfl⟩
  obtain ⟨hd, hh⟩ := hh
  rw [← ho] at hol ⊢
  rw [← hh]
  refine Split.mk (fun h5 => ?_) (fun h5 => ?_)
  · have hlt : n < l.length := by have := of_decide_eq_true h5; omega
    refine CallM.mk' [118] (ready_detM l o hl (by omega) hf h0) ⟨.cons (mfitN hol.symm (fun _ _ _ _ => SLe.refl _)) .nil, .cons (.d (DLe.refl _)) (.cons (.hdl rfl rfl) .nil), rfl, rfl, fun _ => rfl⟩ ?_
    have hR0 := ready_ne l o (by omega)
    have hRl := readyK_len l o l.length
    have hRm := readyK_mem l o l.length
    have hre : ∃ R, R = readyK l o l.length := ⟨_, rfl⟩
    obtain ⟨R, hR⟩ := hre
    rw [← hR] at hR0 hRl hRm ⊢
    refine Cut.mk (Adj.freeze 11 40 0 R.length 1 3 (iG R) rfl rfl (Adj.keep [(0, .d (.one (ctS l))), (2, tint h), (9, .hdl 118 0), (10, .ptr 10 0), (11, .d (.one (ilS R)))] [(118, .bld 0 n 1 3 (iG o)), (10, .box (vL hd))] (.cons (.bldN hol (fun _ _ _ _ => SLe.refl _)) (.cons (.box (LLe.of_eq rfl)) .nil)) (.cons .same (.cons .same (.cons (.hdl rfl rfl) (.cons (.box rfl rfl) (.cons .same .nil))))) ?_))
    have hC : ∃ C : Nat → List Int, C = fun i => (R.take i).filter (nowB l h o) := ⟨_, rfl⟩
    obtain ⟨C, hC⟩ := hC
    have hCl : ∀ i, (C i).length ≤ l.length := fun i => by
      rw [hC]
      exact Nat.le_trans (List.length_filter_le _ _) (Nat.le_trans (by rw [List.length_take]; omega) hRl)
    have hC1 : ∀ i, i < R.length → C (i + 1) = if nowB l h o (iGet R i) = true then C i ++ [iGet R i] else C i := fun i hi => by
      simp only [hC, take_succ' hi, List.filter_append]
      generalize iGet R i = y
      cases hn : nowB l h o y <;> simp [hn]
    refine Loop.by (α := Nat) (fun i => [(0, .d (.one (ctS l))), (2, tint h), (9, .hdl 118 0), (10, .ptr 10 0), (11, .d (.one (ilS R))), (12, .hdl 79 0), (13, tint i)]) (fun i => [(118, .bld 0 n 1 3 (iG o)), (10, .box (vL hd)), (79, .bld 0 (C i).length 1 3 (iG (C i)))]) (fun i => i ≤ R.length) (fun i => R.length - i)
      (Adj.nil 12 79 1 3 (iG (C 0)) rfl rfl (Adj.at 0 (Nat.zero_le _) (.cons (.bld (fun _ _ _ _ => SLe.refl _)) (.cons (.box (LLe.of_eq rfl)) (.cons (.bldN (by rw [hC]; simp) (fun _ h => absurd h (Nat.not_lt_zero _))) .nil))) (.cons .same (.cons .same (.cons (.hdl rfl rfl) (.cons (.box rfl rfl) (.cons .same (.cons (.hdl rfl rfl) (.cons .same .nil))))))))) (fun i hi => ?_)
    refine Split.mk (fun h6 => ?_) (fun h6 => ?_)
    · have hil : i < R.length := by have := of_decide_eq_true h6; omega
      obtain ⟨r0, r1, _⟩ := (hRm _).1 (iGet_mem hil)
      have hci := hCl i
      refine Split.mk (fun h7 => ?_) (fun h7 => ?_)
      · have hn0 : n = 0 := by
          have : ((n : Int) == 0) = true := h7
          have : (n : Int) = 0 := by simpa using this
          omega
        repeat' first | refine Split.isT h7 ?_ | refine Split.t ?_ | refine Split.f ?_ | fail
        refine Need.mk (by kernel_rfl) ?_
        repeat' first | refine Split.isT h7 ?_ | refine Split.t ?_ | refine Split.f ?_ | fail
        have hnw : nowB l h o (iGet R i) = true := by rw [nowB, decide_eq_true (show o.length = 0 by omega)]; rfl
        have e := hC1 i hil
        rw [if_pos hnw] at e
        refine Need.mk (by omega) ?_
        refine Need.mk (needApp (by omega) (by decide)) ?_
        refine Adj.back (x := i) (i + 1) (by omega) (by omega) (.cons (.bld (fun _ _ _ _ => SLe.refl _)) (.cons (.box (LLe.of_eq rfl)) (.cons (.bldN (by rw [e, List.length_append]; rfl) (fun p hp j hj => ?_)) .nil))) (.cons .same (.cons .same (.cons (.hdl rfl rfl) (.cons (.box rfl rfl) (.cons .same (.cons (.hdl rfl rfl) (.cons (SlotLe.int ?_) .nil)))))))
        · rw [e]; exact iG_app _ _ _ p j rfl hp hj
        · rw [hw _ (by omega) (by omega)]; omega
      · have hn0 : n ≠ 0 := by
          have h9'' : ((n : Int) == 0) = false := h7
          intro q; subst q; simp at h9''
        have e1 : IntKind.i64.wrap ((n : Int) - 1) = ((n - 1 : Nat) : Int) := by rw [wid (by omega) (by omega)]; omega
        have e2 : iGet o (IntKind.i64.wrap ((n : Int) - 1)).toNat = iGet o (n - 1) := by rw [e1]; rfl
        have hrg : 0 ≤ iGet o (n - 1) ∧ iGet o (n - 1) < l.length := by
          rw [ho]
          exact ordO_range l h v hn (by omega)
        repeat' first | refine Split.isF h7 ?_ | refine Split.t ?_ | refine Split.f ?_ | fail
        refine Need.mk (by omega) ?_
        repeat' first | refine Split.isF h7 ?_ | refine Split.t ?_ | refine Split.f ?_ | fail
        refine Need.mk ⟨r0, r1⟩ ?_
        repeat' first | refine Split.isF h7 ?_ | refine Split.t ?_ | refine Split.f ?_ | fail
        refine Need.mk (by rw [e1]; omega) ?_
        repeat' first | refine Split.isF h7 ?_ | refine Split.t ?_ | refine Split.f ?_ | fail
        refine Need.mk (by rw [e2]; exact hrg) ?_
        repeat' first | refine Split.isF h7 ?_ | refine Split.t ?_ | refine Split.f ?_ | fail
        refine CallW.int (rdist_det (stO l (iGet R i)) (stO l (iGet o (IntKind.i64.wrap ((n : Int) - 1)).toNat))) (fun d hd' => ?_)
        rw [e2, distV_comm (ok_st h0 r0 r1) (ok_st h0 hrg.1 hrg.2)] at hd'
        repeat' first | refine Split.isF h7 ?_ | refine Split.t ?_ | refine Split.f ?_ | fail
        refine Need.mk (by kernel_rfl) ?_
        refine Split.mk (fun h8 => ?_) (fun h8 => ?_)
        · have hnw : nowB l h o (iGet R i) = true := by
            have h8' : d ≥ h := of_decide_eq_true h8
            rw [nowB_def hol hn0, ← hd', decide_eq_false (by omega)]; rfl
          have e := hC1 i hil
          rw [if_pos hnw] at e
          refine Need.mk (by omega) ?_
          refine Need.mk (needApp (by omega) (by decide)) ?_
          refine Adj.back (x := i) (i + 1) (by omega) (by omega) (.cons (.bld (fun _ _ _ _ => SLe.refl _)) (.cons (.box (LLe.of_eq rfl)) (.cons (.bldN (by rw [e, List.length_append]; rfl) (fun p hp j hj => ?_)) .nil))) (.cons .same (.cons .same (.cons (.hdl rfl rfl) (.cons (.box rfl rfl) (.cons .same (.cons (.hdl rfl rfl) (.cons (SlotLe.int ?_) .nil)))))))
          · rw [e]; exact iG_app _ _ _ p j rfl hp hj
          · rw [hw _ (by omega) (by omega)]; omega
        · have hnw : nowB l h o (iGet R i) = false := by
            have h8' : ¬ d ≥ h := of_decide_eq_false h8
            rw [nowB_def hol hn0, ← hd', decide_eq_true (by omega)]; rfl
          have e := hC1 i hil
          rw [if_neg (by rw [hnw]; simp)] at e
          refine Adj.back (x := i) (i + 1) (by omega) (by omega) (.cons (.bld (fun _ _ _ _ => SLe.refl _)) (.cons (.box (LLe.of_eq rfl)) (.cons (.bldN (by rw [e]) (fun p hp j hj => SLe.of_eq (by rw [e]))) .nil))) (.cons .same (.cons .same (.cons (.hdl rfl rfl) (.cons (.box rfl rfl) (.cons .same (.cons (.hdl rfl rfl) (.cons (SlotLe.int ?_) .nil)))))))
          rw [hw _ (by omega) (by omega)]; omega
    · have hil : i = R.length := by have := of_decide_eq_false h6; omega
      subst hil
      have hCe : C R.length = R.filter (nowB l h o) := by rw [hC]; simp
      have hcl := hCl R.length
      have hch := cho_range l h o hd (by omega)
      have hchd : choO l h o hd = amin (disO l hd) (pickL R (C R.length)) := by rw [hCe, choO, ← hR]
      have hPs : ∀ x, x ∈ pickL R (C R.length) → 0 ≤ x ∧ x < l.length := fun x hx => by
        have := (hRm x).1 (pickL_sub (B := nowB l h o) (by rw [← hCe]; exact hx))
        exact ⟨this.1, this.2.1⟩
      have hPn : pickL R (C R.length) ≠ [] := pickL_ne hR0
      have hPl : (pickL R (C R.length)).length ≤ 10000 := by
        unfold pickL
        split <;> omega
      have hCC : ∃ D, D = C R.length := ⟨_, rfl⟩
      obtain ⟨D, hD⟩ := hCC
      rw [← hD] at hchd hPs hPn hPl hcl ⊢
      clear hCe hC1 hCl hC hD
      refine Cut.mk (Adj.freeze 12 79 0 D.length 1 3 (iG D) rfl rfl (Adj.keep [(0, .d (.one (ctS l))), (2, tint h), (9, .hdl 118 0), (10, .ptr 10 0), (11, .d (.one (ilS R))), (12, .d (.one (ilS D)))] [(118, .bld 0 n 1 3 (iG o)), (10, .box (vL hd))] (.cons (.bld (fun _ _ _ _ => SLe.refl _)) (.cons (.box (LLe.of_eq rfl)) .nil)) (.cons .same (.cons .same (.cons (.hdl rfl rfl) (.cons (.box rfl rfl) (.cons .same (.cons .same .nil)))))) ?_))
      have hP : ∃ P, P = pickL R D := ⟨_, rfl⟩
      obtain ⟨P, hP⟩ := hP
      rw [← hP] at hchd hPs hPn hPl
      refine Split.mk (fun h7 => ?pa) (fun h7 => ?pb)
      case' pa =>
        have hD0 : D = [] := by
          have : ((D.length : Int) == 0) = true := h7
          have : (D.length : Int) = 0 := by simpa using this
          exact List.eq_nil_of_length_eq_zero (by omega)
        have hPR : P = R := by rw [hP, pickL, if_pos hD0]
        refine Cut.mk (Adj.keep [(0, .d (.one (ctS l))), (2, tint h), (9, .hdl 118 0), (10, .ptr 10 0), (12, .d (.one (ilS P)))] [(118, .bld 0 n 1 3 (iG o)), (10, .box (vL hd))] (.cons (.bld (fun _ _ _ _ => SLe.refl _)) (.cons (.box (LLe.of_eq rfl)) .nil)) (.cons .same (.cons .same (.cons (.hdl rfl rfl) (.cons (.box rfl rfl) (.cons (.data (DLe.of_eq ?pc)) .nil))))) ?_)
        case pc => rw [hPR]
      case' pb =>
        have hD0 : D ≠ [] := by
          intro q
          rw [q] at h7
          have : ((0 : Int) == 0) = false := h7
          simp at this
        have hPR : P = D := by rw [hP, pickL, if_neg hD0]
        refine Cut.mk (Adj.keep [(0, .d (.one (ctS l))), (2, tint h), (9, .hdl 118 0), (10, .ptr 10 0), (12, .d (.one (ilS P)))] [(118, .bld 0 n 1 3 (iG o)), (10, .box (vL hd))] (.cons (.bld (fun _ _ _ _ => SLe.refl _)) (.cons (.box (LLe.of_eq rfl)) .nil)) (.cons .same (.cons .same (.cons (.hdl rfl rfl) (.cons (.box rfl rfl) (.cons (.data (DLe.of_eq ?pd)) .nil))))) ?_)
        case pd => rw [hPR]
      all_goals
        clear hPR hD0 h7 hP
        have hP0 : 0 < P.length := List.length_pos_iff.2 hPn
        refine Need.mk (by omega) ?_
        refine Loop.by (α := Nat) (fun i => [(0, .d (.one (ctS l))), (2, tint h), (9, .hdl 118 0), (10, .ptr 10 0), (12, .d (.one (ilS P))), (14, tint (amin (disO l hd) (P.take i))), (15, tint i)]) (fun i => [(118, .bld 0 n 1 3 (iG o)), (10, .box (vL hd))]) (fun i => 1 ≤ i ∧ i ≤ P.length) (fun i => P.length - i)
          (Adj.at 1 ⟨Nat.le_refl _, hP0⟩ (.cons (.bld (fun _ _ _ _ => SLe.refl _)) (.cons (.box (LLe.of_eq rfl)) .nil)) (.cons .same (.cons .same (.cons (.hdl rfl rfl) (.cons (.box rfl rfl) (.cons .same (.cons (SlotLe.int ?_) (.cons .same .nil)))))))) (fun i hi => ?_)
        · rw [take_succ' hP0]; rfl
        obtain ⟨hi1, hi⟩ := hi
        have hTn : P.take i ≠ [] := by
          intro q
          have := congrArg List.length q
          rw [List.length_take, List.length_nil] at this
          omega
        obtain ⟨t0, t1⟩ := hPs _ (List.mem_of_mem_take (amin_mem (disO l hd) hTn))
        refine Split.mk (fun h6 => ?_) (fun h6 => ?_)
        · have hil : i < P.length := by have := of_decide_eq_true h6; omega
          obtain ⟨r0, r1⟩ := hPs _ (iGet_mem hil)
          refine Need.mk (by omega) ?_
          refine Need.mk ⟨r0, r1⟩ ?_
          refine CallW.int (rdist_det (stO l (iGet P i)) hd) (fun d1 hd1 => ?_)
          refine Need.mk ⟨t0, t1⟩ ?_
          refine CallW.int (rdist_det (stO l (amin (disO l hd) (P.take i))) hd) (fun d2 hd2 => ?_)
          refine Need.mk (by kernel_rfl) ?_
          have e : amin (disO l hd) (P.take (i + 1)) = if d1 < d2 then iGet P i else amin (disO l hd) (P.take i) := by rw [take_succ' hil, amin_app _ hTn, aminF, hd1, hd2]
          refine Split.mk (fun h7 => ?_) (fun h7 => ?_)
          · rw [if_pos (of_decide_eq_true h7)] at e
            refine Need.mk (by omega) ?_
            refine Adj.back (x := i) (i + 1) ⟨by omega, by omega⟩ (by omega) (.cons (.bld (fun _ _ _ _ => SLe.refl _)) (.cons (.box (LLe.of_eq rfl)) .nil)) (.cons .same (.cons .same (.cons (.hdl rfl rfl) (.cons (.box rfl rfl) (.cons .same (.cons (SlotLe.int ?_) (.cons (SlotLe.int ?_) .nil)))))))
            · rw [e]; rfl
            · rw [hw _ (by omega) (by omega)]; omega
          · rw [if_neg (of_decide_eq_false h7)] at e
            refine Adj.back (x := i) (i + 1) ⟨by omega, by omega⟩ (by omega) (.cons (.bld (fun _ _ _ _ => SLe.refl _)) (.cons (.box (LLe.of_eq rfl)) .nil)) (.cons .same (.cons .same (.cons (.hdl rfl rfl) (.cons (.box rfl rfl) (.cons .same (.cons (SlotLe.int ?_) (.cons (SlotLe.int ?_) .nil)))))))
            · rw [e]
            · rw [hw _ (by omega) (by omega)]; omega
        · have hil : i = P.length := by have := of_decide_eq_false h6; omega
          subst hil
          rw [List.take_length, ← hchd] at t0 t1 ⊢
          have hxx : ∃ x, x = choO l h o hd := ⟨_, rfl⟩
          obtain ⟨x, hx⟩ := hxx
          rw [← hx] at t0 t1 ⊢
          refine Need.mk (needApp (by omega) (by decide)) ?_
          refine Need.mk ⟨t0, t1⟩ ?_
          refine Need.mk ⟨t0, t1⟩ ?_
          refine Need.mk (ok_at h0 t0 t1) ?_
          refine Need.mk (by kernel_rfl) ?_
          have eo : ordO l h v (n + 1) = o ++ [x] := by rw [ordO, ← ho, ← hh, ← hx]
          refine Adj.back (x := n) (n + 1) (by omega) (by omega) (.cons (.bldN rfl (fun p hp j hj => ?_)) (.cons (.box ?_) .nil)) (.cons .same (.cons .same (.cons (.hdl rfl rfl) (.cons (.box rfl rfl) .nil))))
          · rw [eo]
            exact iG_app o n x p j hol hp hj
          · rw [eo, headO_app hol]
            exact LLe.of_eq rfl
  · have he : n = l.length := by have := of_decide_eq_false h5; omega
    subst he
    subst ho
    exact Fin.tup (.cons (DLe.one (SLe.slN hol.symm (fun _ _ _ _ => SLe.refl _))) (.cons (DLe.refl _) .nil))
end Sg
end Go.Vm
