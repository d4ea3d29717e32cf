/-
  Layer 37: lists as slices; contracts of in, problem, many and of the reference's Problem and limit.
-/
import Derived.Test.YtlpkgpldamhhbaaVmT
import Derived.Test.YtlpkgpldamhhbaaVmW
namespace Go.Vm
set_option maxRecDepth 20000
set_option linter.unusedVariables false
set_option linter.unusedSimpArgs false
open Go Go.RowKit Go.Proofs
namespace St

theorem wid {n : Int} (h1 : -9223372036854775808 ≤ n) (h2 : n < 9223372036854775808) : IntKind.i64.wrap n = n := w64_id ⟨h1, h2⟩
theorem wid' {n : Int} (h1 : -9223372036854775808 ≤ n) (h2 : n < 9223372036854775808) : w64 n = n := w64_id ⟨h1, h2⟩
theorem hw (n : Int) (h1 : -1000000000 ≤ n) (h2 : n ≤ 1000000000) : IntKind.i64.wrap n = n := wid (by omega) (by omega)
theorem hS (k : Nat) (h : k ≤ 1000000000) : IntKind.i64.wrap ((k : Int) + 1) = ((k + 1 : Nat) : Int) := by rw [wid (by omega) (by omega)]; omega
theorem SLe.slN {n n' k : Nat} {g g' : Nat → Nat → SV} (hn : n = n') (h : ∀ i, i < n → ∀ j, j < k → SLe (g i j) (g' i j)) : SLe (.sl n k g) (.sl n' k g') := by
  subst hn; exact SLe.sl h
theorem SLe.bif {k i : Nat} {x y z : SV} (h1 : i < k → SLe x z) (h2 : k ≤ i → SLe y z) : SLe (bif Nat.blt i k then x else y) z := by
  cases h : Nat.blt i k with
  | true => exact h1 (lt_of_blt h)
  | false =>
    refine h2 (Nat.le_of_not_lt fun hl => ?_)
    have : Nat.blt i k = true := blt_t hl
    rw [h] at this; cases this
theorem needApp {n B : Nat} (h : n ≤ 200000000) (hB : B ≤ 1000) : n * B ≤ 140737488355328 ∧ n ≤ maxLen := by
  have := Nat.mul_le_mul h hB
  simp only [maxLen]
  omega
/-! ### lists as slices -/
def lG {α : Type} (f : α → List SV) (d : α) (l : List α) : Nat → Nat → SV := fun i j => (f (l.getD i d)).getD j (.v Go.undef)
theorem lG_eq {α : Type} {f : α → List SV} {d : α} {l l' : List α} {i i' : Nat} (h : l.getD i d = l'.getD i' d) (j : Nat) : lG f d l i j = lG f d l' i' j := by unfold lG; rw [h]
theorem getD_app_l {α : Type} (a b : List α) (d : α) (i : Nat) (h : i < a.length) : (a ++ b).getD i d = a.getD i d := by simp [List.getD, List.getElem?_append_left h]
theorem getD_app_r {α : Type} (a b : List α) (d : α) (i : Nat) (h : a.length ≤ i) : (a ++ b).getD i d = b.getD (i - a.length) d := by simp [List.getD, List.getElem?_append_right h]
theorem getD_snoc {α : Type} (a : List α) (v d : α) : (a ++ [v]).getD a.length d = v := by simp [List.getD]
/-- One more element behind. -/
theorem lG_snoc {α : Type} (f : α → List SV) (d : α) (D : List α) (v : α) (k n i j : Nat) (cs : List SV) (hc : cs = f v) (hn : D.length = n) (hi : i < n + 1) (hj : j < k) : SLe (bif Nat.blt i n then lG f d D i j else cs.getD ((i - n) * k + j) (.v Go.undef)) (lG f d (D ++ [v]) i j) := by
  subst hn; subst hc
  refine SLe.bif (fun h => SLe.of_eq (lG_eq (getD_app_l _ _ _ _ h).symm j)) (fun h => ?_)
  have e : i = D.length := by omega
  subst e
  rw [Nat.sub_self, Nat.zero_mul, Nat.zero_add]
  exact SLe.of_eq (by unfold lG; rw [getD_snoc])
/-- One element is written. -/
theorem lG_set {α : Type} (f : α → List SV) (d : α) (D : List α) (v : α) (q i j n : Nat) (cs : List SV) (hc : cs = f v) (hi : i < D.length) (hj : j < n) : SLe (bif Nat.beq i q && Nat.ble 0 j && Nat.blt j (0 + n) then cs.getD (j - 0) (.v Go.undef) else lG f d D i j) (lG f d (D.set q v) i j) := by
  subst hc
  by_cases e : i = q
  · have : (Nat.beq i q && Nat.ble 0 j && Nat.blt j (0 + n)) = true := by rw [e, Nat.beq_refl, ble_t (Nat.zero_le j), blt_t (by omega)]; rfl
    rw [this, cond_true, Nat.sub_zero]
    refine SLe.of_eq ?_
    unfold lG
    subst e
    simp [List.getD, hi]
  · rw [beq_f e]
    refine SLe.of_eq (lG_eq ?_ j)
    simp [List.getD, List.getElem?_set_ne (Ne.symm e)]
/-- One cell of an element is written. -/
theorem lG_cell {α : Type} (f : α → List SV) (d : α) (D : List α) (v : α) (q i j p k : Nat) (c : SV) (hi : i < D.length) (hj : j < k) (h1 : (f v).getD p (.v Go.undef) = c) (h2 : ∀ j, j < k → j ≠ p → (f v).getD j (.v Go.undef) = (f (D.getD q d)).getD j (.v Go.undef)) : SLe (bif Nat.beq i q && Nat.ble p j && Nat.blt j (p + 1) then [c].getD (j - p) (.v Go.undef) else lG f d D i j) (lG f d (D.set q v) i j) := by
  by_cases e : i = q
  · subst e
    have hg : (D.set i v).getD i d = v := by simp [List.getD, hi]
    by_cases e2 : j = p
    · subst e2
      have : (Nat.beq i i && Nat.ble j j && Nat.blt j (j + 1)) = true := by rw [Nat.beq_refl, ble_t (Nat.le_refl j), blt_t (by omega)]; rfl
      rw [this, cond_true, Nat.sub_self]
      refine SLe.of_eq ?_
      unfold lG
      rw [hg, h1]; rfl
    · have : (Nat.beq i i && Nat.ble p j && Nat.blt j (p + 1)) = false := by
        rw [Nat.beq_refl]
        by_cases h : p ≤ j
        · rw [blt_f (show ¬ j < p + 1 by omega), Bool.and_false]
        · rw [ble_f h]; rfl
      rw [this, cond_false]
      refine SLe.of_eq ?_
      unfold lG
      rw [hg, h2 j hj e2]
  · rw [beq_f e]
    refine SLe.of_eq (lG_eq ?_ j)
    simp [List.getD, List.getElem?_set_ne (Ne.symm e)]
/-- A slice as it comes in. -/
theorem lst_of {α : Type} {f : α → List SV} {d : α} {Q : α → Prop} {n k : Nat} {get : Nat → Nat → SV} (h : ∀ i, i < n → ∃ a : α, Q a ∧ cells k (get i) = f a) : ∃ l : List α, l.length = n ∧ (∀ a ∈ l, Q a) ∧ DLe (.one (.sl n k get)) (.one (.sl l.length k (lG f d l))) := by
  have hp : ∀ i, ∃ a : α, i < n → Q a ∧ cells k (get i) = f a := fun i => by
    by_cases hi : i < n
    · obtain ⟨a, h1, h2⟩ := h i hi
      exact ⟨a, fun _ => ⟨h1, h2⟩⟩
    · exact ⟨d, fun h => absurd h hi⟩
  obtain ⟨R, hR⟩ := Classical.axiomOfChoice hp
  refine ⟨(List.range n).map R, by simp, fun a ha => ?_, DLe.one (SLe.slN (by simp) (fun i hi j hj => SLe.of_eq ?_))⟩
  · obtain ⟨i, hi, rfl⟩ := List.mem_map.1 ha
    exact (hR i (List.mem_range.1 hi)).1
  · have hg : ((List.range n).map R).getD i d = R i := by simp [List.getD, hi]
    unfold lG
    rw [hg, ← (hR i hi).2]
    have hc : ∀ (k : Nat) (g : Nat → SV) (j : Nat), j < k → (cells k g).getD j (.v Go.undef) = g j := by
      intro k
      induction k with
      | zero => intro g j h; exact absurd h (Nat.not_lt_zero _)
      | succ k ih =>
        intro g j h
        cases j with
        | zero => rfl
        | succ j =>
          have := ih (fun i => g (i + 1)) j (by omega)
          simpa [cells, List.getD] using this
    exact (hc k (get i) j hj).symm
/-! ### numbers -/
abbrev iL (n : Int) : List SV := [i64 n]
abbrev iS (l : List Int) : SV := .sl l.length 1 (lG iL 0 l)
abbrev iget (l : List Int) (i : Nat) : Int := l.getD i 0
/-! ### kinds -/
structure Knd where
  w : Int
  h : Int
  v : Int
  deriving DecidableEq
abbrev kL (k : Knd) : List SV := [i64 k.w, i64 k.h, i64 k.v]
abbrev k0 : Knd := ⟨0, 0, 0⟩
abbrev kS (l : List Knd) : SV := .sl l.length 3 (lG kL k0 l)
abbrev kget (l : List Knd) (i : Nat) : Knd := l.getD i k0
def inB (n lo hi : Int) : Bool := decide (lo ≤ n) && decide (n ≤ hi)
theorem in_det (n lo hi : Int) : Det Try.prog 59 [.one (i64 n), .one (i64 lo), .one (i64 hi)] (tbool (inB n lo hi)) := by
  refine det_of_awp TTok mixed Try.func59 rfl rfl [] (Nat.le_of_ble_eq_true rfl) ?_
  refine Split.mk (fun h => ?_) (fun h => ?_)
  · repeat' first | refine Split.isT h ?_ | refine Split.t ?_ | refine Split.f ?_ | fail
    refine Fin.bool ?_
    have h := of_decide_eq_true h
    simp only [inB, decide_eq_true (show lo ≤ n by omega), Bool.true_and]
  · repeat' first | refine Split.isF h ?_ | refine Split.t ?_ | refine Split.f ?_ | fail
    refine Fin.bool ?_
    have h := of_decide_eq_false h
    simp only [inB, decide_eq_false (show ¬ lo ≤ n by omega), Bool.false_and]
def wrongB (k : Knd) : Bool := !inB k.w 1 2000 || (!inB k.h 1 2000 || !inB k.v 0 1000000)
theorem wrong_det (k : Knd) : Det Try.prog 76 [.agg (kL k)] (tbool (wrongB k)) := by
  refine det_of_awp TTok mixed Try.func76 rfl rfl [] (Nat.le_of_ble_eq_true rfl) ?_
  refine CallW.bool (in_det k.w 1 2000) (fun b1 h1 => ?_)
  refine Split.mk (fun h => ?_) (fun h => ?_)
  · repeat' first | refine Split.isT h ?_ | refine Split.isF h ?_ | refine Split.t ?_ | refine Split.f ?_ | fail
    refine Fin.bool ?_
    simp [wrongB, ← h1, h]
    try simpa using h
  repeat' first | refine Split.isF h ?_ | refine Split.t ?_ | refine Split.f ?_ | fail
  refine CallW.bool (in_det k.h 1 2000) (fun b2 h2 => ?_)
  repeat' first | refine Split.isF h ?_ | refine Split.t ?_ | refine Split.f ?_ | fail
  refine Split.mk (fun g => ?_) (fun g => ?_)
  · repeat' first | refine Split.isF h ?_ | refine Split.isT g ?_ | refine Split.t ?_ | refine Split.f ?_ | fail
    refine Fin.bool ?_
    simp [wrongB, ← h1, ← h2]
    simp at g h
    simp [g, h]
  repeat' first | refine Split.isF h ?_ | refine Split.isF g ?_ | refine Split.t ?_ | refine Split.f ?_ | fail
  refine CallW.bool (in_det k.v 0 1000000) (fun b3 h3 => ?_)
  repeat' first | refine Split.isF h ?_ | refine Split.isF g ?_ | refine Split.t ?_ | refine Split.f ?_ | fail
  refine Fin.bool ?_
  simp [wrongB, ← h1, ← h2, ← h3]
  simp at g h
  simp [g, h]
/-- The first one that is wrong. -/
def ixW : List Knd → Nat → Int
  | [], _ => -1
  | k :: r, i => if wrongB k = true then i else ixW r (i + 1)
theorem ixW_drop (l : List Knd) (k : Nat) (hk : k < l.length) : ixW (l.drop k) k = if wrongB (kget l k) = true then (k : Int) else ixW (l.drop (k + 1)) (k + 1) := by
  rw [List.drop_eq_getElem_cons hk, ixW]
  simp [kget, List.getD, hk]
theorem ixW_any (l : List Knd) : ∀ i, decide (ixW l i ≥ 0) = l.any wrongB := by
  induction l with
  | nil => intro i; rfl
  | cons k r ih =>
    intro i
    rw [ixW, List.any_cons]
    split
    · rename_i h; rw [h, Bool.true_or]; exact decide_eq_true (by omega)
    · rename_i h; rw [ih]; simp at h; rw [h, Bool.false_or]
theorem indexK_det (l : List Knd) (hl : l.length ≤ 100000000) (cap : Nat → SV) : Det Try.prog 99 [.one (kS l), .one (.fn 76 0 cap)] (tint (ixW l 0)) := by
  refine det_of_awp TTok mixed Try.func99 rfl rfl [] (Nat.le_of_ble_eq_true rfl) ?_
  refine Loop.by (α := Nat) (fun k => [(0, .d (.one (kS l))), (1, .d (.one (.fn 76 0 cap))), (7, tint l.length), (8, tint k)]) (fun _ => []) (fun k => k ≤ l.length ∧ ixW l 0 = ixW (l.drop k) k) (fun k => l.length - k)
    (Adj.at 0 ⟨Nat.zero_le _, by rw [List.drop_zero]⟩ .nil (.cons .same (.cons .same (.cons .same (.cons .same .nil))))) (fun k hk => ?_)
  obtain ⟨hk, hx⟩ := hk
  refine Split.mk (fun h => ?_) (fun h => ?_)
  · have hlt : k < l.length := by have := of_decide_eq_true h; omega
    have hd := ixW_drop l k hlt
    refine Need.mk (by omega) ?_
    refine CallW.bool (wrong_det (kget l k)) (fun b hb => ?_)
    refine Split.mk (fun g => ?_) (fun g => ?_)
    · refine Fin.int ?_
      rw [hx, hd, if_pos (by rw [← hb, g])]
    · refine Adj.back (x := k) (k + 1) ⟨by omega, by rw [hx, hd, if_neg (by rw [← hb, g]; simp)]⟩ (by omega) .nil (.cons .same (.cons .same (.cons .same (.cons (SlotLe.int (hS k (by omega))) .nil))))
  · have he : k = l.length := by have := of_decide_eq_false h; omega
    refine Fin.int ?_
    rw [hx, he, List.drop_length]
    rfl
theorem containsK_det (l : List Knd) (hl : l.length ≤ 100000000) (cap : Nat → SV) : Det Try.prog 77 [.one (kS l), .one (.fn 76 0 cap)] (tbool (l.any wrongB)) := by
  refine det_of_awp TTok mixed Try.func77 rfl rfl [] (Nat.le_of_ble_eq_true rfl) ?_
  refine CallW.int (indexK_det l hl cap) (fun n hn => ?_)
  refine Fin.bool ?_
  rw [hn, ixW_any]
def probB (l : List Knd) (w h kerf : Int) : Bool := decide (l.length ≤ 20) && (!l.any wrongB && (inB w 1 2000 && (inB h 1 2000 && inB kerf 0 50)))
theorem problem_det (l : List Knd) (w h kerf : Int) (hl : l.length ≤ maxLen) : Det Try.prog 45 [.one (kS l), .one (i64 w), .one (i64 h), .one (i64 kerf)] (tbool (probB l w h kerf)) := by
  refine det_of_awp TTok mixed Try.func45 rfl rfl [] (Nat.le_of_ble_eq_true rfl) ?_
  refine Split.mk (fun h1 => ?_) (fun h1 => ?_)
  · have hl20 : l.length ≤ 20 := by have := of_decide_eq_true h1; omega
    repeat' first | refine Split.isT h1 ?_ | refine Split.t ?_ | refine Split.f ?_ | fail
    refine CallW.bool (containsK_det l (by omega) _) (fun b1 e1 => ?_)
    repeat' first | refine Split.isT h1 ?_ | refine Split.t ?_ | refine Split.f ?_ | fail
    refine Split.mk (fun h2 => ?_) (fun h2 => ?_)
    · repeat' first | refine Split.isT h1 ?_ | refine Split.isT h2 ?_ | refine Split.t ?_ | refine Split.f ?_ | fail
      refine CallW.bool (in_det w 1 2000) (fun b2 e2 => ?_)
      repeat' first | refine Split.isT h1 ?_ | refine Split.isT h2 ?_ | refine Split.t ?_ | refine Split.f ?_ | fail
      refine Split.mk (fun h3 => ?_) (fun h3 => ?_)
      · repeat' first | refine Split.isT h1 ?_ | refine Split.isT h2 ?_ | refine Split.isT h3 ?_ | refine Split.t ?_ | refine Split.f ?_ | fail
        refine CallW.bool (in_det h 1 2000) (fun b3 e3 => ?_)
        repeat' first | refine Split.isT h1 ?_ | refine Split.isT h2 ?_ | refine Split.isT h3 ?_ | refine Split.t ?_ | refine Split.f ?_ | fail
        refine Split.mk (fun h4 => ?_) (fun h4 => ?_)
        · repeat' first | refine Split.isT h1 ?_ | refine Split.isT h2 ?_ | refine Split.isT h3 ?_ | refine Split.isT h4 ?_ | refine Split.t ?_ | refine Split.f ?_ | fail
          refine CallW.bool (in_det kerf 0 50) (fun b4 e4 => ?_)
          repeat' first | refine Split.isT h1 ?_ | refine Split.isT h2 ?_ | refine Split.isT h3 ?_ | refine Split.isT h4 ?_ | refine Split.t ?_ | refine Split.f ?_ | fail
          refine Fin.bool ?_
          subst e4
          simp at h2
          simp [probB, hl20, ← e1, ← e2, ← e3, h2, h3, h4]
        · repeat' first | refine Split.isT h1 ?_ | refine Split.isT h2 ?_ | refine Split.isT h3 ?_ | refine Split.isF h4 ?_ | refine Split.t ?_ | refine Split.f ?_ | fail
          refine Fin.bool ?_
          simp [probB, ← e3, h4]
      · repeat' first | refine Split.isT h1 ?_ | refine Split.isT h2 ?_ | refine Split.isF h3 ?_ | refine Split.t ?_ | refine Split.f ?_ | fail
        refine Fin.bool ?_
        simp [probB, ← e2, h3]
    · repeat' first | refine Split.isT h1 ?_ | refine Split.isF h2 ?_ | refine Split.t ?_ | refine Split.f ?_ | fail
      refine Fin.bool ?_
      simp at h2
      simp [probB, ← e1, h2]
  · repeat' first | refine Split.isF h1 ?_ | refine Split.t ?_ | refine Split.f ?_ | fail
    refine Fin.bool ?_
    have : ¬ l.length ≤ 20 := by have := of_decide_eq_false h1; omega
    simp [probB, this]
end St
end Go.Vm
