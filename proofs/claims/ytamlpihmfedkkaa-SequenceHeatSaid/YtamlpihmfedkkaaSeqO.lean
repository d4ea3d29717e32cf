/-
  Layer 47: SequenceHeat.
-/
import Derived.Test.YtamlpihmfedkkaaSeqM
namespace Go.Vm
set_option maxRecDepth 20000
set_option linter.unusedVariables false
set_option linter.unusedSimpArgs false
open Go Go.RowKit Go.Proofs
namespace Sg

theorem distV_nonneg {a b : V2} (ha : In 8000 a) (hb : In 8000 b) : 0 ≤ distV a b := by
  rw [distV_eq ha hb]
  unfold maxI
  repeat' split
  all_goals omega
theorem hotN_zero {l : List Ct} {o : List Int} (h0 : chkI l = 0) (hr : ∀ k, k < o.length → 0 ≤ iGet o k ∧ iGet o k < l.length) : ∀ k, k ≤ o.length → hotN l o 0 k = 0
  | 0, _ => rfl
  | k + 1, hk => by
    rw [hotN, if_neg, hotN_zero h0 hr k (by omega)]
    rintro ⟨h1, h2⟩
    have a := hr k (by omega)
    have b := hr (k - 1) (by omega)
    have := distV_nonneg (ok_st h0 b.1 b.2) (ok_st h0 a.1 a.2)
    omega
/-- If the next contour is hot, all that are ready are. -/
theorem all_hot {l : List Ct} {h : Int} {v : V2} {n i : Nat} (hn : n ≤ l.length) (hi : i < n) (h1 : 1 ≤ i)
    (hh : distV (stO l (iGet (ordO l h v n) (i - 1))) (stO l (iGet (ordO l h v n) i)) < h) :
    ∀ x, x ∈ readyK l ((ordO l h v n).take i) l.length → distV (stO l (iGet (ordO l h v n) (i - 1))) (stO l x) < h := by
  rw [ordO_take l h v (by omega)]
  rw [ordO_at l h v hi] at hh
  have e1 : iGet (ordO l h v n) (i - 1) = iGet (ordO l h v i) (i - 1) := by
    rw [← ordO_take l h v (show i ≤ n by omega), iGet_take (by omega)]
  rw [e1] at hh ⊢
  have hl := ordO_len l h v i
  generalize ordO l h v i = s at *
  generalize headO l s v i = hd at *
  have hnow : ∀ x, nowB l h s x = !decide (distV (stO l (iGet s (i - 1))) (stO l x) < h) := fun x => by
    rw [nowB, decide_eq_false (show ¬ s.length = 0 by omega), Bool.false_or, hl]
  have hC : (readyK l s l.length).filter (nowB l h s) = [] := by
    refine Classical.byContradiction fun q => ?_
    have hm := amin_mem (disO l hd) q
    have e : choO l h s hd = amin (disO l hd) ((readyK l s l.length).filter (nowB l h s)) := by rw [choO, pickL, if_neg q]
    rw [← e] at hm
    have := (List.mem_filter.1 hm).2
    rw [hnow, decide_eq_true hh] at this
    cases this
  intro x hx
  refine Classical.byContradiction fun q => ?_
  have : x ∈ (readyK l s l.length).filter (nowB l h s) := List.mem_filter.2 ⟨hx, by rw [hnow, decide_eq_false q]; rfl⟩
  rw [hC] at this
  cases this
theorem ord_bad {l : List Ct} {h : Int} {v : V2} (he : (ordT l h v).2 ≠ 0) : (ordT l h v).1 = [] := by
  unfold ordT at he ⊢
  split
  · rfl
  · rename_i h1
    rw [if_neg h1] at he
    split
    · rfl
    · rename_i h2
      rw [if_neg h2] at he
      exact absurd rfl he
theorem lheat_det (l : List Ct) (v : V2) (ht : Int) (hl : l.length ≤ maxLen) (hr : ∀ i, (ctGet l i).ring.length ≤ maxLen) : Det Try.prog 8 [.one (ctS l), vD v, .one (i64 ht)] (tbool true) := by
  refine det_of_awp TTok mixed Try.func8 rfl rfl [] (Nat.le_of_ble_eq_true rfl) ?_
  refine CallW.mk' awake47_det ?_
  refine Split.f ?_
  refine CallW.bool (few47_det l hl hr) (fun b hb => ?_)
  refine Split.mk (fun h => ?_) (fun h => ?_)
  · exact Fin.rfl'
  have hf0 : fewCB l = true := by rw [← hb]; simpa using h
  obtain ⟨h8, hf⟩ := fewCB_iff hf0
  refine CallW.mk' (own_det l (by omega)) ?_
  refine CallW.mk' (order_det l v ht (by omega) hf) ?_
  refine Need.mk (by kernel_rfl) ?_
  by_cases he : (ordT l ht v).2 = 0
  case neg =>
    refine Split.isT (by simpa using he) ?_
    refine Fin.bool ?_
    rw [ord_bad he]; rfl
  obtain ⟨h0, hO1, hok⟩ := ord_ok he
  rw [he]
  have hO : ∃ O, O = (ordT l ht v).1 := ⟨_, rfl⟩
  obtain ⟨O, hO⟩ := hO
  rw [← hO] at hO1 hok ⊢
  have hol : O.length = l.length := by rw [hO1, ordO_len]
  obtain ⟨_, _, hst⟩ := chkT_ok hok
  have hrg : ∀ k, k < O.length → 0 ≤ iGet O k ∧ iGet O k < l.length := fun k hk => by
    have := step_in (hst k hk); exact ⟨this.1, this.2.1⟩
  refine Split.f ?_
  refine CallW.mk' (own_det l (by omega)) ?_
  have hz : hotT l O 0 = (0, 0) := by rw [hotT, if_neg (by simp [hok]), hotN_zero h0 hrg _ (Nat.le_refl _)]; rfl
  refine CallW.mk' ((hot47_det l O 0 (by omega) (by omega) hf).eq (by rw [hz])) ?_
  have gl : ((O.length : Int) != l.length) = false := by rw [hol]; simp
  repeat' first | refine Split.isF gl ?_ | refine Split.t ?_ | refine Split.f ?_ | fail
  refine Loop.by (α := Nat) (fun i => [(0, .d (.one (ctS l))), (2, tint ht), (7, .d (.one (ilS O))), (11, tint (hotN l O ht i)), (12, tint i)]) (fun _ => []) (fun i => 1 ≤ i ∧ (i ≤ O.length ∨ i = 1)) (fun i => O.length - i)
    (Adj.at 1 ⟨Nat.le_refl _, .inr rfl⟩ .nil (.cons .same (.cons .same (.cons .same (.cons .same (.cons .same .nil)))))) (fun i hi => ?_)
  obtain ⟨hi1, hi2⟩ := hi
  refine Split.mk (fun h2 => ?_) (fun h2 => ?_)
  · have hlt : i < O.length := by have := of_decide_eq_true h2; omega
    have e1 : IntKind.i64.wrap ((i : Int) - 1) = ((i - 1 : Nat) : Int) := by rw [wid (by omega) (by omega)]; omega
    have e2 : iGet O (IntKind.i64.wrap ((i : Int) - 1)).toNat = iGet O (i - 1) := by rw [e1]; rfl
    have a := hrg i hlt
    have b := hrg (i - 1) (by omega)
    refine Need.mk (by rw [e1]; omega) ?_
    refine Need.mk (by rw [e2]; exact b) ?_
    refine Need.mk (by omega) ?_
    refine Need.mk a ?_
    refine CallW.v (sub_det (stO l (iGet O i)) (stO l (iGet O (IntKind.i64.wrap ((i : Int) - 1)).toNat))) (fun s hs => ?_)
    rw [e2] at hs
    refine CallW.int (rnorm_det s) (fun d hd => ?_)
    have hd' : d = distV (stO l (iGet O (i - 1))) (stO l (iGet O i)) := by
      rw [hd, hs, ← distV_comm (ok_st h0 a.1 a.2) (ok_st h0 b.1 b.2)]; rfl
    clear hd hs
    refine Need.mk (by kernel_rfl) ?_
    have hN := hotN_le l O ht i
    refine Split.mk (fun h3 => ?_) (fun h3 => ?_)
    · have h3' : d ≥ ht := of_decide_eq_true h3
      have e : hotN l O ht (i + 1) = hotN l O ht i := by
        rw [hotN, if_neg (fun q => by have := q.2; omega)]
      refine Adj.back (x := i) (i + 1) ⟨by omega, by omega⟩ (by omega) .nil (.cons .same (.cons .same (.cons .same (.cons (SlotLe.int ?_) (.cons (SlotLe.int ?_) .nil)))))
      · rw [e]
      · rw [hw _ (by omega) (by omega)]; omega
    · have h3' : ¬ d ≥ ht := of_decide_eq_false h3
      have e : hotN l O ht (i + 1) = hotN l O ht i + 1 := by
        rw [hotN, if_pos ⟨hi1, by omega⟩]
      refine Need.mk (by omega) ?_
      refine CallW.le (ready_det l (O.take i) (by omega) (by simp; omega) hf h0) (.cons (DLe.refl _) (.cons (ilS_take (Nat.le_of_lt hlt) (fun i => Nat.zero_add i) rfl) .nil)) ?_
      have hall : ∀ x, x ∈ readyK l (O.take i) l.length → distV (stO l (iGet O (i - 1))) (stO l x) < ht := by
        rw [hO1]
        refine all_hot (Nat.le_refl _) (by rw [hol] at hlt; exact hlt) hi1 ?_
        rw [← hO1]; omega
      have hRm := readyK_mem l (O.take i) l.length
      have hRl := readyK_len l (O.take i) l.length
      generalize readyK l (O.take i) l.length = R at hall hRm hRl
      refine Loop.by (α := Nat) (fun k => [(0, .d (.one (ctS l))), (2, tint ht), (7, .d (.one (ilS O))), (11, tint (hotN l O ht (i + 1))), (12, tint i), (13, .ptr 13 0), (14, .d (.one (ilS R))), (15, tint k)]) (fun _ => [(13, .box (vL (stO l (iGet O (i - 1)))))]) (fun k => k ≤ R.length) (fun k => R.length - k)
        (Adj.at 0 (Nat.zero_le _) (.cons (.box (LLe.of_eq ?_)) .nil) (.cons .same (.cons .same (.cons .same (.cons (SlotLe.int ?_) (.cons .same (.cons (.box rfl rfl) (.cons .same (.cons .same .nil))))))))) (fun k hk => ?_)
      · show vL (stO l (iGet O (IntKind.i64.wrap ((i : Int) - 1)).toNat)) = _
        rw [e2]
      · rw [hw _ (by omega) (by omega), e]; omega
      refine Split.mk (fun h4 => ?_) (fun h4 => ?_)
      · have hkl : k < R.length := by have := of_decide_eq_true h4; omega
        have hm := iGet_mem hkl
        have c := (hRm _).1 hm
        have hx := hall _ hm
        refine Need.mk (by omega) ?_
        refine Need.mk ⟨c.1, c.2.1⟩ ?_
        refine CallW.v (sub_det (stO l (iGet R k)) (stO l (iGet O (i - 1)))) (fun s hs => ?_)
        refine CallW.int (rnorm_det s) (fun d2 hd2 => ?_)
        have hd2' : d2 = distV (stO l (iGet O (i - 1))) (stO l (iGet R k)) := by
          rw [hd2, hs, ← distV_comm (ok_st h0 c.1 c.2.1) (ok_st h0 b.1 b.2)]; rfl
        refine Need.mk (by kernel_rfl) ?_
        refine Split.isF (decide_eq_false (show ¬ d2 ≥ ht by omega)) ?_
        refine Adj.back (x := k) (k + 1) (by omega) (by omega) (.cons (.box (LLe.of_eq rfl)) .nil) (.cons .same (.cons .same (.cons .same (.cons .same (.cons .same (.cons (.box rfl rfl) (.cons .same (.cons (SlotLe.int ?_) .nil))))))))
        rw [hw _ (by omega) (by omega)]; omega
      · refine Adj.back (x := i) (i + 1) ⟨by omega, by omega⟩ (by omega) .nil (.cons .same (.cons .same (.cons .same (.cons .same (.cons (SlotLe.int ?_) .nil)))))
        rw [hw _ (by omega) (by omega)]; omega
  · have he : hotN l O ht i = hotN l O ht O.length := by
      have h2' : ¬ (i : Int) < O.length := of_decide_eq_false h2
      by_cases e : i = O.length
      · rw [e]
      · have : i = 1 := by omega
        have : O.length = 0 := by omega
        subst i
        rw [this]; simp [hotN]
    refine CallW.mk' (own_det l (by omega)) ?_
    have hz : hotT l O ht = (((hotN l O ht O.length : Nat) : Int), 0) := by rw [hotT, if_neg (by simp [hok])]
    refine CallW.mk' ((hot47_det l O ht (by omega) (by omega) hf).eq (by rw [hz])) ?_
    repeat' first | refine Split.t ?_ | refine Split.f ?_ | fail
    refine Fin.bool ?_
    rw [he]; simp
theorem lheat_all : ∀ dvs, TypL Try.prog Try.f8.params.toList dvs → Det Try.prog 8 dvs (tbool true) := by
  intro dvs h
  obtain ⟨v0, r0, rfl, h0, q0⟩ := TypL.inv_cons (t := 22) (ts := [35, 3]) h
  obtain ⟨v1, r1, rfl, h1, q1⟩ := TypL.inv_cons (t := 35) (ts := [3]) q0
  obtain ⟨v2, r2, rfl, h2, q2⟩ := TypL.inv_cons (t := 3) (ts := []) q1
  obtain rfl := TypL.inv_nil q2
  obtain ⟨l, hl, hr, hle⟩ := cts_of h0
  obtain ⟨v, rfl, _⟩ := vecIn h1
  obtain ⟨n, rfl, _⟩ := TypD.i64 (by kernel_rfl) rfl h2
  exact Det.le (.cons hle (.cons (DLe.refl _) (.cons (DLe.refl _) .nil))) (lheat_det l v n hl hr)
end Sg
end Go.Vm
