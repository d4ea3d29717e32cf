/-
  Layer 7: contracts of the reference's Meet, At and Share.
-/
import Derived.Test.YtgmlblmkcbcgaaaSegE
namespace Go.Vm
set_option maxRecDepth 20000
set_option linter.unusedVariables false
set_option linter.unusedSimpArgs false
open Go Go.RowKit Go.Proofs
namespace Sg

def endsL (s t : Seg) : List V2 := [s.a, s.b, t.a, t.b]
def bothB (s t : Seg) (e : V2) : Bool := onB s e && onB t e
def commonL (s t : Seg) : List V2 := sortV ((endsL s t).filter (bothB s t))
theorem filter_take (p : V2 → Bool) (l : List V2) (k : Nat) (hk : k < l.length) : (l.take (k + 1)).filter p = (l.take k).filter p ++ (if p (l.getD k ⟨0, 0⟩) = true then [l.getD k ⟨0, 0⟩] else []) := by
  rw [List.take_add_one, List.filter_append]
  congr 1
  simp only [List.getD, List.getElem?_eq_getElem hk, Option.toList_some, Option.getD_some, List.filter_cons, List.filter_nil]
theorem vG_app (o : List V2) (v : V2) (i : Nat) (hi : i < o.length + 1) (j : Nat) (hj : j < 2) : SLe (bif Nat.blt i o.length then vG o i j else (vL v).getD ((i - o.length) * 2 + j) (.v Go.undef)) (vG (o ++ [v]) i j) := by
  refine SLe.bif (fun h => SLe.of_eq (vG_eq ?_ j)) (fun h => ?_)
  · simp [List.getD, List.getElem?_append, h]
  · have e : i = o.length := by omega
    subst e
    have e2 : (o ++ [v]).getD o.length ⟨0, 0⟩ = v := by simp [List.getD]
    unfold vG
    rw [e2, Nat.sub_self]
    rcases j with _ | _ | j
    · exact SLe.refl _
    · exact SLe.refl _
    · omega
theorem common_det (s t : Seg) : Det Try.prog 85 [sD s, sD t] (.d (.one (vlS (commonL s t)))) := by
  refine det_of_awp TTok mixed Try.func85 rfl rfl [] (Nat.le_of_ble_eq_true rfl) ?_
  have hE : ∀ i, i < 4 → ∀ j, j < 2 → SLe ([i64 s.a.x, i64 s.a.y, i64 s.b.x, i64 s.b.y, i64 t.a.x, i64 t.a.y, i64 t.b.x, i64 t.b.y].getD (i * 2 + j) (.v Go.undef)) (vG (endsL s t) i j) := by
    intro i hi j hj
    rcases i with _ | _ | _ | _ | i <;> rcases j with _ | _ | j <;> first | exact SLe.refl _ | omega
  refine Loop.by (α := Nat) (fun k => [(2, .ptr 2 0), (3, .ptr 3 0), (5, .d (.one (vlS (endsL s t)))), (7, tint k), (6, .hdl 41 0)]) (fun k => [(2, .box (sL s)), (3, .box (sL t)), (41, .bld 0 (((endsL s t).take k).filter (bothB s t)).length 2 32 (vG (((endsL s t).take k).filter (bothB s t))))]) (fun k => k ≤ 4) (fun k => 4 - k)
    (Adj.nil 6 41 2 32 (fun _ _ => .v Go.undef) rfl rfl (Adj.at 0 (Nat.zero_le _) (.cons (.box (LLe.refl _)) (.cons (.box (LLe.refl _)) (.cons (.bld (fun _ h => absurd h (Nat.not_lt_zero _))) .nil))) (.cons (.box rfl rfl) (.cons (.box rfl rfl) (.cons (.data (DLe.one (SLe.sl hE))) (.cons .same (.cons (.hdl rfl rfl) .nil))))))) (fun k hk => ?_)
  refine Split.mk (fun h3 => ?_) (fun h3 => ?_)
  · have hlt : k < 4 := by have := of_decide_eq_true h3; omega
    have hw64 : IntKind.i64.wrap ((k : Int) + 1) = ((k + 1 : Nat) : Int) := (w64_id ⟨by omega, by omega⟩).trans (by omega)
    have hft := filter_take (bothB s t) (endsL s t) k hlt
    have hlen : (((endsL s t).take k).filter (bothB s t)).length ≤ 4 := by
      refine Nat.le_trans (List.length_filter_le _ _) ?_
      simp; omega
    refine Need.mk (show 0 ≤ (k : Int) ∧ (k : Int) < 4 by omega) ?_
    refine CallW.bool (ron_det s ((endsL s t).getD k ⟨0, 0⟩)) (fun b hb => ?_)
    refine Split.mk (fun h4 => ?_) (fun h4 => ?_)
    · subst h4
      repeat' first | refine Split.t ?_ | refine Need.mk (show 0 ≤ (k : Int) ∧ (k : Int) < 4 by omega) ?_ | fail
      refine CallW.bool (ron_det t ((endsL s t).getD k ⟨0, 0⟩)) (fun c hc => ?_)
      repeat' first | refine Split.t ?_ | refine Need.mk (by kernel_rfl) ?_ | fail
      refine Split.mk (fun h5 => ?_) (fun h5 => ?_)
      · subst h5
        have hp : bothB s t ((endsL s t).getD k ⟨0, 0⟩) = true := by rw [bothB, ← hb, ← hc]; rfl
        rw [if_pos hp] at hft
        refine Need.mk (show 0 ≤ (k : Int) ∧ (k : Int) < 4 by omega) ?_
        refine Need.mk (needApp (by omega) (by decide)) ?_
        refine Adj.back (x := k) (k + 1) hlt (by omega) (.cons (.box (LLe.refl _)) (.cons (.box (LLe.refl _)) (.cons (.bldN ?_ ?_) .nil))) (.cons (.box rfl rfl) (.cons (.box rfl rfl) (.cons .same (.cons (SlotLe.int hw64) (.cons (.hdl rfl rfl) .nil)))))
        · rw [hft]; simp
        · intro i hi j hj
          rw [hft]
          exact vG_app _ _ i hi j hj
      · subst h5
        have hp : bothB s t ((endsL s t).getD k ⟨0, 0⟩) = false := by rw [bothB, ← hc]; simp
        rw [hp] at hft
        simp only [Bool.false_eq_true, if_false, List.append_nil] at hft
        refine Adj.back (x := k) (k + 1) hlt (by omega) (.cons (.box (LLe.refl _)) (.cons (.box (LLe.refl _)) (.cons (.bldN ?_ ?_) .nil))) (.cons (.box rfl rfl) (.cons (.box rfl rfl) (.cons .same (.cons (SlotLe.int hw64) (.cons (.hdl rfl rfl) .nil)))))
        · rw [hft]
        · intro i hi j hj
          rw [hft]
          exact SLe.refl _
    · subst h4
      have hp : bothB s t ((endsL s t).getD k ⟨0, 0⟩) = false := by rw [bothB, ← hb]; rfl
      rw [hp] at hft
      simp only [Bool.false_eq_true, if_false, List.append_nil] at hft
      repeat' first | refine Split.f ?_ | refine Need.mk (by kernel_rfl) ?_ | fail
      refine Adj.back (x := k) (k + 1) hlt (by omega) (.cons (.box (LLe.refl _)) (.cons (.box (LLe.refl _)) (.cons (.bldN ?_ ?_) .nil))) (.cons (.box rfl rfl) (.cons (.box rfl rfl) (.cons .same (.cons (SlotLe.int hw64) (.cons (.hdl rfl rfl) .nil)))))
      · rw [hft]
      · intro i hi j hj
        rw [hft]
        exact SLe.refl _
  · have e : k = 4 := by have := of_decide_eq_false h3; omega
    subst e
    have hlen : ((endsL s t).filter (bothB s t)).length ≤ 4 := List.length_filter_le _ _
    refine CallW.mk' (sorted_det ((endsL s t).filter (bothB s t)) (by omega)) ?_
    exact Fin.rfl'

def crossB (s t : Seg) : Bool := decide (sideI s t.a * sideI s t.b < 0) && decide (sideI t s.a * sideI t s.b < 0)
def rmeetI (s t : Seg) : Int := if validS s = false ∨ validS t = false then 0 else if (commonL s t).length > 1 then 3 else if (commonL s t).length = 1 then 1 else if crossB s t = true then 2 else 0
theorem side_b (s : Seg) (p : V2) : -1 ≤ sideI s p ∧ sideI s p ≤ 1 := by
  unfold sideI
  cases validS s && withinV p 4000
  · simp only [cond_false]
    omega
  · simp only [cond_true, turnW, sgnI]
    split
    · decide
    · split <;> decide
theorem side_mul (s t : Seg) (p q : V2) : w64 (sideI s p * sideI t q) = sideI s p * sideI t q := by
  have h1 := side_b s p
  have h2 := side_b t q
  have a : sideI s p = -1 ∨ sideI s p = 0 ∨ sideI s p = 1 := by omega
  rcases a with a | a | a <;> rw [a] <;> exact wid' (by omega) (by omega)
theorem length_sort (l : List V2) : (sortV l).length ≤ l.length := by
  have : ∀ (l o : List V2), (l.foldl insV o).length ≤ o.length + l.length := by
    intro l
    induction l with
    | nil => intro o; exact Nat.le_refl _
    | cons x l ih =>
      intro o
      have h1 := ih (insV o x)
      have h2 := length_insV x o
      simp only [List.foldl_cons, List.length_cons]
      omega
  simpa [sortV] using this l []
theorem common_le (s t : Seg) : (commonL s t).length ≤ 4 := Nat.le_trans (length_sort _) (List.length_filter_le _ _)
theorem rmeet_det (s t : Seg) : Det Try.prog 39 [sD s, sD t] (tint (rmeetI s t)) := by
  refine det_of_awp TTok mixed Try.func39 rfl rfl [] (Nat.le_of_ble_eq_true rfl) ?_
  refine CallW.bool (rvalid_det s) (fun a ha => ?_)
  refine Split.mk (fun h => ?_) (fun h => ?_)
  · repeat' first | refine Split.t ?_ | refine Fin.int ?_ | fail
    rw [rmeetI, if_pos (.inl (by rw [← ha]; simpa using h))]
  repeat' first | refine Split.f ?_ | fail
  refine CallW.bool (rvalid_det t) (fun b hb => ?_)
  repeat' first | refine Split.f ?_ | fail
  refine Split.mk (fun h2 => ?_) (fun h2 => ?_)
  · refine Fin.int ?_
    rw [rmeetI, if_pos (.inr (by rw [← hb]; simpa using h2))]
  have hv : ¬ (validS s = false ∨ validS t = false) := by
    rw [← ha, ← hb]
    simp at h h2
    simp [h, h2]
  have hR : rmeetI s t = if (commonL s t).length > 1 then 3 else if (commonL s t).length = 1 then 1 else if crossB s t = true then 2 else 0 := by rw [rmeetI, if_neg hv]
  rw [hR]
  refine CallW.mk' (common_det s t) ?_
  refine Split.mk (fun h3 => ?_) (fun h3 => ?_)
  · replace h3 := of_decide_eq_true h3
    refine Fin.int ?_
    rw [if_pos (by omega)]
  replace h3 := of_decide_eq_false h3
  rw [if_neg (by omega)]
  refine Split.mk (fun h4 => ?_) (fun h4 => ?_)
  · have h4' : ((commonL s t).length : Int) = 1 := by simpa using h4
    refine Fin.int ?_
    rw [if_pos (by omega)]
  have h4' : ((commonL s t).length : Int) ≠ 1 := by simpa using h4
  rw [if_neg (by omega)]
  refine CallW.int (rside_det s t.a) (fun p1 hp1 => ?_)
  refine CallW.int (rside_det s t.b) (fun p2 hp2 => ?_)
  have m1 := side_mul s s t.a t.b
  have m2 := side_mul t t s.a s.b
  rw [← hp1, ← hp2] at m1
  have e : crossB s t = (decide (p1 * p2 < 0) && decide (sideI t s.a * sideI t s.b < 0)) := by rw [crossB, hp1, hp2]
  rw [e]
  refine Split.mk (fun h5 => ?_) (fun h5 => ?_)
  · replace h5 : decide (w64 (p1 * p2) < 0) = true := h5
    rw [m1] at h5
    repeat' first | refine Split.t ?_ | fail
    refine CallW.int (rside_det t s.a) (fun q1 hq1 => ?_)
    have h5' : decide (w64 (p1 * p2) < 0) = true := by rw [m1]; exact h5
    repeat' first | refine Split.t ?_ | refine Split.isT h5' ?_ | refine CallW.int (rside_det t s.b) (fun q2 hq2 => ?_) | refine Need.mk (by kernel_rfl) ?_ | fail
    rw [← hq1, ← hq2] at m2
    rw [← hq1, ← hq2, h5, Bool.true_and]
    refine Split.mk (fun h6 => ?_) (fun h6 => ?_)
    · replace h6 : decide (w64 (q1 * q2) < 0) = true := h6
      rw [m2] at h6
      refine Fin.int ?_
      rw [if_pos h6]
    · replace h6 : decide (w64 (q1 * q2) < 0) = false := h6
      rw [m2] at h6
      refine Fin.int ?_
      rw [h6]
      rfl
  · replace h5 : decide (w64 (p1 * p2) < 0) = false := h5
    rw [m1] at h5
    rw [h5, Bool.false_and]
    have h5' : decide (w64 (p1 * p2) < 0) = false := by rw [m1]; exact h5
    repeat' first | refine Split.f ?_ | refine Split.isF h5' ?_ | refine Need.mk (by kernel_rfl) ?_ | refine Fin.int ?_ | fail
    rfl
end Sg
end Go.Vm
