/-
  Layer 7: contracts of the reference's sorted list of common ends.
-/
import Derived.Test.YtgmlblmkcbcgaaaSegD
namespace Go.Vm
set_option maxRecDepth 20000
set_option linter.unusedVariables false
set_option linter.unusedSimpArgs false
open Go Go.RowKit Go.Proofs

theorem SLe.slN {n n' k : Nat} {g g' : Nat → Nat → SV} (hn : n = n') (h : ∀ i, i < n → ∀ j, j < k → SLe (g i j) (g' i j)) : SLe (.sl n k g) (.sl n' k g') := by
  subst hn; exact SLe.sl h
theorem SLe.bif {k i : Nat} {x y z : SV} (h1 : i < k → SLe x z) (h2 : k ≤ i → SLe y z) : SLe (bif Nat.blt i k then x else y) z := by
  cases h : Nat.blt i k with
  | true => exact h1 (lt_of_blt h)
  | false =>
    refine h2 (Nat.le_of_not_lt fun hl => ?_)
    have : Nat.blt i k = true := blt_t hl
    rw [h] at this; cases this

theorem needApp {n B : Nat} (h : n ≤ 100000) (hB : B ≤ 1000) : n * B ≤ 140737488355328 ∧ n ≤ maxLen := by
  have := Nat.mul_le_mul h hB
  simp only [maxLen]
  omega

namespace Sg

/-- A vector is put into a sorted list, if it is not there. -/
def insV : List V2 → V2 → List V2
  | [], v => [v]
  | x :: r, v => if lessB x v = true then x :: insV r v else if x = v then x :: r else v :: x :: r
def sortV (l : List V2) : List V2 := l.foldl insV []
theorem insV_at {v : V2} : ∀ (l : List V2) (k : Nat), k ≤ l.length → (∀ i, i < k → lessB (l.getD i ⟨0, 0⟩) v = true) → (k < l.length → lessB (l.getD k ⟨0, 0⟩) v = false) →
    insV l v = if k < l.length ∧ l.getD k ⟨0, 0⟩ = v then l else l.take k ++ v :: l.drop k
  | [], k, hk, _, _ => by
    have : k = 0 := by simpa using hk
    subst this
    simp [insV]
  | x :: r, 0, _, _, hn => by
    have := hn (by simp)
    simp only [List.getD_cons_zero] at this
    simp only [insV, this, Bool.false_eq_true, if_false, List.length_cons, Nat.zero_lt_succ, true_and, List.getD_cons_zero, List.take_zero, List.drop_zero, List.nil_append]
  | x :: r, k + 1, hk, hl, hn => by
    have h0 := hl 0 (by omega)
    simp only [List.getD_cons_zero] at h0
    have ih := insV_at (v := v) r k (by simpa using hk) (fun i hi => by simpa using hl (i + 1) (by omega)) (fun h => by simpa using hn (by simpa using h))
    simp only [insV, h0, if_true, ih, List.length_cons, Nat.add_lt_add_iff_right, List.getD_cons_succ, List.take_succ_cons, List.drop_succ_cons]
    split <;> rfl
theorem length_insV (v : V2) : ∀ l : List V2, (insV l v).length ≤ l.length + 1
  | [] => by simp [insV]
  | x :: r => by
    simp only [insV]
    have := length_insV v r
    split
    · simp; omega
    · split <;> simp

abbrev vG (l : List V2) : Nat → Nat → SV := fun i j => match j with
  | 0 => i64 (l.getD i ⟨0, 0⟩).x
  | _ => i64 (l.getD i ⟨0, 0⟩).y
theorem vG_eq {l l' : List V2} {i i' : Nat} (h : l.getD i ⟨0, 0⟩ = l'.getD i' ⟨0, 0⟩) (j : Nat) : vG l i j = vG l' i' j := by
  unfold vG
  rw [h]
/-- One more vector behind a list of slices read. -/
theorem sorted_step (l : List V2) (v : V2) (k i : Nat) (hk : k ≤ l.length) (hi : i < l.length + 1) :
    (l.take k ++ v :: l.drop k).getD i ⟨0, 0⟩ = if i < k then l.getD i ⟨0, 0⟩ else if i = k then v else l.getD (i - 1) ⟨0, 0⟩ := by
  simp only [List.getD, List.getElem?_append, List.length_take, Nat.min_eq_left hk]
  by_cases h1 : i < k
  · simp [h1, List.getElem?_take]
  · by_cases h2 : i = k
    · subst h2; simp
    · simp only [h1, if_false, h2]
      obtain ⟨d, hd⟩ : ∃ d, i - k = d + 1 := ⟨i - k - 1, by omega⟩
      rw [hd, List.getElem?_cons_succ, List.getElem?_drop, show k + d = i - 1 by omega]
theorem put_le (o : List V2) (v : V2) (q : Nat) (hq : q ≤ o.length) {r : List V2} (hr : r = o.take q ++ v :: o.drop q) (i : Nat) (hi : i < 0 + (q - 0) + 1 + (o.length - q)) (j : Nat) (hj : j < 2) :
    SLe (bif Nat.blt i (0 + (q - 0) + 1) then (bif Nat.blt i (0 + (q - 0)) then (bif Nat.blt i 0 then .v Go.undef else vG o (0 + (i - 0)) j) else (vL v).getD ((i - (0 + (q - 0))) * 2 + j) (.v Go.undef)) else vG o (q + (i - (0 + (q - 0) + 1))) j) (vG r i j) := by
  have hs := sorted_step o v q i hq (by omega)
  rw [← hr] at hs
  refine SLe.bif (fun h1 => SLe.bif (fun h2 => SLe.bif (fun h3 => absurd h3 (Nat.not_lt_zero _)) (fun _ => ?_)) (fun h2 => ?_)) (fun h1 => ?_)
  · rw [if_pos (by omega)] at hs
    exact SLe.of_eq (vG_eq (by rw [hs]; congr 1; omega) j)
  · have e : i = q := by omega
    subst e
    rw [if_neg (by omega), if_pos rfl] at hs
    have e0 : i - (0 + (i - 0)) = 0 := by omega
    rw [e0]
    unfold vG
    rw [hs]
    rcases j with _ | _ | j
    · exact SLe.refl _
    · exact SLe.refl _
    · omega
  · rw [if_neg (by omega), if_neg (by omega)] at hs
    exact SLe.of_eq (vG_eq (by rw [hs]; congr 1; omega) j)
theorem sorted_det (l : List V2) (hl : l.length ≤ 1000) : Det Try.prog 103 [.one (vlS l)] (.d (.one (vlS (sortV l)))) := by
  refine det_of_awp TTok mixed Try.func103 rfl rfl [] (Nat.le_of_ble_eq_true rfl) ?_
  refine Loop.by (α := Nat × List V2) (fun x => [(0, .d (.one (vlS l))), (4, tint x.1), (3, .d (.one (vlS x.2)))]) (fun _ => []) (fun x => x.1 ≤ l.length ∧ x.2 = (l.take x.1).foldl insV [] ∧ x.2.length ≤ x.1) (fun x => l.length - x.1)
    (Adj.at (0, []) ⟨Nat.zero_le _, rfl, Nat.le_refl _⟩ .nil (.cons .same (.cons .same (.cons (.data (DLe.one (SLe.nil _ _))) .nil)))) (fun x hi => ?_)
  obtain ⟨k, o⟩ := x
  obtain ⟨hk, ho, hol⟩ := hi
  replace hk : k ≤ l.length := hk
  replace ho : o = (l.take k).foldl insV [] := ho
  replace hol : o.length ≤ k := hol
  refine Split.mk (fun h3 => ?_) (fun h3 => ?_)
  · have hlt : k < l.length := by have := of_decide_eq_true h3; omega
    have hw64 : IntKind.i64.wrap ((k : Int) + 1) = ((k + 1 : Nat) : Int) := (w64_id ⟨by omega, by omega⟩).trans (by omega)
    have hnext : (l.take (k + 1)).foldl insV [] = insV o (l.getD k ⟨0, 0⟩) := by
      rw [List.take_add_one, List.foldl_append, ← ho]
      simp [List.getD, List.getElem?_eq_getElem hlt]
    refine Loop.by (α := Nat) (fun q => [(0, .d (.one (vlS l))), (4, tint k), (3, .d (.one (vlS o))), (5, tint q)]) (fun _ => []) (fun q => q ≤ o.length ∧ ∀ i, i < q → lessB (o.getD i ⟨0, 0⟩) (l.getD k ⟨0, 0⟩) = true) (fun q => o.length - q)
      (Adj.at 0 ⟨Nat.zero_le _, fun _ h => absurd h (Nat.not_lt_zero _)⟩ .nil (.cons .same (.cons .same (.cons .same (.cons .same .nil))))) (fun q hi => ?_)
    obtain ⟨hq, hi⟩ := hi
    have hwq : IntKind.i64.wrap ((q : Int) + 1) = ((q + 1 : Nat) : Int) := (w64_id ⟨by omega, by omega⟩).trans (by omega)
    -- behind the search
    have behind : (q < o.length → lessB (o.getD q ⟨0, 0⟩) (l.getD k ⟨0, 0⟩) = false) → insV o (l.getD k ⟨0, 0⟩) = if q < o.length ∧ o.getD q ⟨0, 0⟩ = l.getD k ⟨0, 0⟩ then o else o.take q ++ l.getD k ⟨0, 0⟩ :: o.drop q := fun h => insV_at o q hq hi h
    refine Split.mk (fun h4 => ?_) (fun h4 => ?_)
    · have hql : q < o.length := by have := of_decide_eq_true h4; omega
      repeat' first | refine Split.t ?_ | refine Need.mk (by omega) ?_ | fail
      refine CallW.bool (less_det (o.getD q ⟨0, 0⟩) (l.getD k ⟨0, 0⟩)) (fun c hc => ?_)
      repeat' first | refine Split.t ?_ | refine Need.mk (by kernel_rfl) ?_ | fail
      refine Split.mk (fun h5 => ?_) (fun h5 => ?_)
      · refine Adj.back (x := q) (q + 1) ⟨hql, fun i hik => ?_⟩ (by omega) .nil (.cons .same (.cons .same (.cons .same (.cons (SlotLe.int hwq) .nil))))
        by_cases e : i = q
        · subst e; rw [← hc]; exact h5
        · exact hi i (by omega)
      · have hfalse : lessB (o.getD q ⟨0, 0⟩) (l.getD k ⟨0, 0⟩) = false := by rw [← hc]; exact h5
        have hins := behind (fun _ => hfalse)
        repeat' first | refine Split.t ?_ | refine Need.mk (by omega) ?_ | refine Split.isT h4 ?_ | fail
        refine EqW.v (o.getD q ⟨0, 0⟩) (l.getD k ⟨0, 0⟩) (fun e he => ?_)
        repeat' first | refine Split.t ?_ | refine Need.mk (by kernel_rfl) ?_ | fail
        refine Split.mk (fun h6 => ?_) (fun h6 => ?_)
        · refine Adj.back (x := (k, o)) (k + 1, o) ⟨hlt, ?_, ?_⟩ (by show l.length - (k + 1) < l.length - k; omega) .nil (.cons .same (.cons (SlotLe.int hw64) (.cons .same .nil)))
          · show o = _
            rw [hnext, hins, if_pos ⟨hql, he.1 h6⟩]
          · show o.length ≤ k + 1
            omega
        · have hne : ¬ (q < o.length ∧ o.getD q ⟨0, 0⟩ = l.getD k ⟨0, 0⟩) := fun h => by rw [he.2 h.2] at h6; cases h6
          rw [if_neg hne] at hins
          refine Need.mk (by omega) ?_
          refine Need.mk (needApp (by omega) (by decide)) ?_
          refine Need.mk (by omega) ?_
          refine Need.mk (needApp (by omega) (by decide)) ?_
          refine Need.mk (by omega) ?_
          refine Need.mk (needApp (by omega) (by decide)) ?_
          refine Need.mk (by kernel_rfl) ?_
          refine Adj.freeze 3 44 _ _ 2 32 _ rfl rfl (Adj.back (x := (k, o)) (k + 1, insV o (l.getD k ⟨0, 0⟩)) ⟨hlt, hnext.symm, ?_⟩ (by show l.length - (k + 1) < l.length - k; omega) .nil (.cons .same (.cons (SlotLe.int hw64) (.cons (.data (DLe.one (SLe.slN ?_ ?_))) .nil))))
          · exact Nat.le_trans (length_insV _ _) (by omega)
          · rw [hins]
            simp only [List.length_append, List.length_take, List.length_cons, List.length_drop, Int.toNat_natCast]
            omega
          · exact put_le o (l.getD k ⟨0, 0⟩) q hq hins
    · have hql : ¬ q < o.length := by have := of_decide_eq_false h4; omega
      have hins := behind (fun h => absurd h hql)
      rw [if_neg (fun h => hql h.1)] at hins
      repeat' first | refine Split.f ?_ | refine Need.mk (by kernel_rfl) ?_ | fail
      refine Split.isF h4 ?_
      repeat' first | refine Split.f ?_ | refine Need.mk (by kernel_rfl) ?_ | fail
      refine Need.mk (by omega) ?_
      refine Need.mk (needApp (by omega) (by decide)) ?_
      refine Need.mk (by omega) ?_
      refine Need.mk (needApp (by omega) (by decide)) ?_
      refine Need.mk (by omega) ?_
      refine Need.mk (needApp (by omega) (by decide)) ?_
      refine Need.mk (by kernel_rfl) ?_
      refine Adj.freeze 3 44 _ _ 2 32 _ rfl rfl (Adj.back (x := (k, o)) (k + 1, insV o (l.getD k ⟨0, 0⟩)) ⟨hlt, hnext.symm, ?_⟩ (by show l.length - (k + 1) < l.length - k; omega) .nil (.cons .same (.cons (SlotLe.int hw64) (.cons (.data (DLe.one (SLe.slN ?_ ?_))) .nil))))
      · exact Nat.le_trans (length_insV _ _) (by omega)
      · rw [hins]
        simp only [List.length_append, List.length_take, List.length_cons, List.length_drop, Int.toNat_natCast]
        omega
      · exact put_le o (l.getD k ⟨0, 0⟩) q hq hins
  · have e : k = l.length := by have := of_decide_eq_false h3; omega
    refine Fin.eq ?_
    show TV.d (.one (vlS o)) = _
    rw [ho, e, List.take_length]
    rfl
end Sg
end Go.Vm
