/-
  Layer 37: lists as slices; contracts of in, problem, many and of the reference's Problem and limit.
  Layer 37: contracts of many, limit and of the reference's Problem and Few; the knapsack.
-/
import Derived.Test.YtfoblfchkgapoaaVmT
import Derived.Test.YtfoblfchkgapoaaVmW
namespace Go.Vm
set_option maxRecDepth 20000
set_option linter.unusedVariables false
set_option linter.unusedSimpArgs false
open Go Go.RowKit Go.Proofs
namespace St

theorem wid {n : Int} (h1 : -9223372036854775808 ≤ n) (h2 : n < 9223372036854775808) : IntKind.i64.wrap n = n := w64_id ⟨h1, h2⟩
theorem wid' {n : Int} (h1 : -9223372036854775808 ≤ n) (h2 : n < 9223372036854775808) : w64 n = n := w64_id ⟨h1, h2⟩
theorem hw (n : Int) (h1 : -1000000000 ≤ n) (h2 : n ≤ 1000000000) : IntKind.i64.wrap n = n := wid (by omega) (by omega)
theorem hS (k : Nat) (h : k ≤ 1000000000) : IntKind.i64.wrap ((k : Int) + 1) = ((k + 1 : Nat) : Int) := by rw [wid (by omega) (by omega)]; omega
theorem SLe.slN {n n' k : Nat} {g g' : Nat → Nat → SV} (hn : n = n') (h : ∀ i, i < n → ∀ j, j < k → SLe (g i j) (g' i j)) : SLe (.sl n k g) (.sl n' k g') := by
  subst hn; exact SLe.sl h
theorem SLe.bif {k i : Nat} {x y z : SV} (h1 : i < k → SLe x z) (h2 : k ≤ i → SLe y z) : SLe (bif Nat.blt i k then x else y) z := by
  cases h : Nat.blt i k with
  | true => exact h1 (lt_of_blt h)
  | false =>
    refine h2 (Nat.le_of_not_lt fun hl => ?_)
    have : Nat.blt i k = true := blt_t hl
    rw [h] at this; cases this
theorem needApp {n B : Nat} (h : n ≤ 200000000) (hB : B ≤ 1000) : n * B ≤ 140737488355328 ∧ n ≤ maxLen := by
  have := Nat.mul_le_mul h hB
  simp only [maxLen]
  omega
/-! ### lists as slices -/
def lG {α : Type} (f : α → List SV) (d : α) (l : List α) : Nat → Nat → SV := fun i j => (f (l.getD i d)).getD j (.v Go.undef)
theorem lG_eq {α : Type} {f : α → List SV} {d : α} {l l' : List α} {i i' : Nat} (h : l.getD i d = l'.getD i' d) (j : Nat) : lG f d l i j = lG f d l' i' j := by unfold lG; rw [h]
theorem getD_app_l {α : Type} (a b : List α) (d : α) (i : Nat) (h : i < a.length) : (a ++ b).getD i d = a.getD i d := by simp [List.getD, List.getElem?_append_left h]
theorem getD_app_r {α : Type} (a b : List α) (d : α) (i : Nat) (h : a.length ≤ i) : (a ++ b).getD i d = b.getD (i - a.length) d := by simp [List.getD, List.getElem?_append_right h]
theorem getD_snoc {α : Type} (a : List α) (v d : α) : (a ++ [v]).getD a.length d = v := by simp [List.getD]
theorem lG_snoc {α : Type} (f : α → List SV) (d : α) (D : List α) (v : α) (k n i j : Nat) (cs : List SV) (hc : cs = f v) (hn : D.length = n) (hi : i < n + 1) (hj : j < k) : SLe (bif Nat.blt i n then lG f d D i j else cs.getD ((i - n) * k + j) (.v Go.undef)) (lG f d (D ++ [v]) i j) := by
  subst hn; subst hc
  refine SLe.bif (fun h => SLe.of_eq (lG_eq (getD_app_l _ _ _ _ h).symm j)) (fun h => ?_)
  have e : i = D.length := by omega
  subst e
  rw [Nat.sub_self, Nat.zero_mul, Nat.zero_add]
  exact SLe.of_eq (by unfold lG; rw [getD_snoc])
theorem lG_set {α : Type} (f : α → List SV) (d : α) (D : List α) (v : α) (q i j n : Nat) (cs : List SV) (hc : cs = f v) (hi : i < D.length) (hj : j < n) : SLe (bif Nat.beq i q && Nat.ble 0 j && Nat.blt j (0 + n) then cs.getD (j - 0) (.v Go.undef) else lG f d D i j) (lG f d (D.set q v) i j) := by
  subst hc
  by_cases e : i = q
  · have : (Nat.beq i q && Nat.ble 0 j && Nat.blt j (0 + n)) = true := by rw [e, Nat.beq_refl, ble_t (Nat.zero_le j), blt_t (by omega)]; rfl
    rw [this, cond_true, Nat.sub_zero]
    refine SLe.of_eq ?_
    unfold lG
    subst e
    simp [List.getD, hi]
  · rw [beq_f e]
    refine SLe.of_eq (lG_eq ?_ j)
    simp [List.getD, List.getElem?_set_ne (Ne.symm e)]
theorem lG_cell {α : Type} (f : α → List SV) (d : α) (D : List α) (v : α) (q i j p k : Nat) (c : SV) (hi : i < D.length) (hj : j < k) (h1 : (f v).getD p (.v Go.undef) = c) (h2 : ∀ j, j < k → j ≠ p → (f v).getD j (.v Go.undef) = (f (D.getD q d)).getD j (.v Go.undef)) : SLe (bif Nat.beq i q && Nat.ble p j && Nat.blt j (p + 1) then [c].getD (j - p) (.v Go.undef) else lG f d D i j) (lG f d (D.set q v) i j) := by
  by_cases e : i = q
  · subst e
    have hg : (D.set i v).getD i d = v := by simp [List.getD, hi]
    by_cases e2 : j = p
    · subst e2
      have : (Nat.beq i i && Nat.ble j j && Nat.blt j (j + 1)) = true := by rw [Nat.beq_refl, ble_t (Nat.le_refl j), blt_t (by omega)]; rfl
      rw [this, cond_true, Nat.sub_self]
      refine SLe.of_eq ?_
      unfold lG
      rw [hg, h1]; rfl
    · have : (Nat.beq i i && Nat.ble p j && Nat.blt j (p + 1)) = false := by
        rw [Nat.beq_refl]
        by_cases h : p ≤ j
        · rw [blt_f (show ¬ j < p + 1 by omega), Bool.and_false]
        · rw [ble_f h]; rfl
      rw [this, cond_false]
      refine SLe.of_eq ?_
      unfold lG
      rw [hg, h2 j hj e2]
  · rw [beq_f e]
    refine SLe.of_eq (lG_eq ?_ j)
    simp [List.getD, List.getElem?_set_ne (Ne.symm e)]
theorem lst_of {α : Type} {f : α → List SV} {d : α} {Q : α → Prop} {n k : Nat} {get : Nat → Nat → SV} (h : ∀ i, i < n → ∃ a : α, Q a ∧ cells k (get i) = f a) : ∃ l : List α, l.length = n ∧ (∀ a ∈ l, Q a) ∧ DLe (.one (.sl n k get)) (.one (.sl l.length k (lG f d l))) := by
  have hp : ∀ i, ∃ a : α, i < n → Q a ∧ cells k (get i) = f a := fun i => by
    by_cases hi : i < n
    · obtain ⟨a, h1, h2⟩ := h i hi
      exact ⟨a, fun _ => ⟨h1, h2⟩⟩
    · exact ⟨d, fun h => absurd h hi⟩
  obtain ⟨R, hR⟩ := Classical.axiomOfChoice hp
  refine ⟨(List.range n).map R, by simp, fun a ha => ?_, DLe.one (SLe.slN (by simp) (fun i hi j hj => SLe.of_eq ?_))⟩
  · obtain ⟨i, hi, rfl⟩ := List.mem_map.1 ha
    exact (hR i (List.mem_range.1 hi)).1
  · have hg : ((List.range n).map R).getD i d = R i := by simp [List.getD, hi]
    unfold lG
    rw [hg, ← (hR i hi).2]
    have hc : ∀ (k : Nat) (g : Nat → SV) (j : Nat), j < k → (cells k g).getD j (.v Go.undef) = g j := by
      intro k
      induction k with
      | zero => intro g j h; exact absurd h (Nat.not_lt_zero _)
      | succ k ih =>
        intro g j h
        cases j with
        | zero => rfl
        | succ j =>
          have := ih (fun i => g (i + 1)) j (by omega)
          simpa [cells, List.getD] using this
    exact (hc k (get i) j hj).symm
/-! ### numbers -/
abbrev iL (n : Int) : List SV := [i64 n]
abbrev iS (l : List Int) : SV := .sl l.length 1 (lG iL 0 l)
abbrev iget (l : List Int) (i : Nat) : Int := l.getD i 0
/-! ### kinds -/
structure Knd where
  w : Int
  h : Int
  v : Int
  deriving DecidableEq
abbrev kL (k : Knd) : List SV := [i64 k.w, i64 k.h, i64 k.v]
abbrev k0 : Knd := ⟨0, 0, 0⟩
abbrev kS (l : List Knd) : SV := .sl l.length 3 (lG kL k0 l)
abbrev kget (l : List Knd) (i : Nat) : Knd := l.getD i k0
def inB (n lo hi : Int) : Bool := decide (lo ≤ n) && decide (n ≤ hi)
theorem in_det (n lo hi : Int) : Det Try.prog 59 [.one (i64 n), .one (i64 lo), .one (i64 hi)] (tbool (inB n lo hi)) := by
  refine det_of_awp TTok mixed Try.func59 rfl rfl [] (Nat.le_of_ble_eq_true rfl) ?_
  refine Split.mk (fun h => ?_) (fun h => ?_)
  · repeat' first | refine Split.isT h ?_ | refine Split.t ?_ | refine Split.f ?_ | fail
    refine Fin.bool ?_
    have h := of_decide_eq_true h
    simp only [inB, decide_eq_true (show lo ≤ n by omega), Bool.true_and]
  · repeat' first | refine Split.isF h ?_ | refine Split.t ?_ | refine Split.f ?_ | fail
    refine Fin.bool ?_
    have h := of_decide_eq_false h
    simp only [inB, decide_eq_false (show ¬ lo ≤ n by omega), Bool.false_and]
def wrongB (k : Knd) : Bool := !inB k.w 1 2000 || (!inB k.h 1 2000 || !inB k.v 0 1000000)
theorem wrong_det (k : Knd) : Det Try.prog 76 [.agg (kL k)] (tbool (wrongB k)) := by
  refine det_of_awp TTok mixed Try.func76 rfl rfl [] (Nat.le_of_ble_eq_true rfl) ?_
  refine CallW.bool (in_det k.w 1 2000) (fun b1 h1 => ?_)
  refine Split.mk (fun h => ?_) (fun h => ?_)
  · repeat' first | refine Split.isT h ?_ | refine Split.isF h ?_ | refine Split.t ?_ | refine Split.f ?_ | fail
    refine Fin.bool ?_
    simp [wrongB, ← h1, h]
    try simpa using h
  repeat' first | refine Split.isF h ?_ | refine Split.t ?_ | refine Split.f ?_ | fail
  refine CallW.bool (in_det k.h 1 2000) (fun b2 h2 => ?_)
  repeat' first | refine Split.isF h ?_ | refine Split.t ?_ | refine Split.f ?_ | fail
  refine Split.mk (fun g => ?_) (fun g => ?_)
  · repeat' first | refine Split.isF h ?_ | refine Split.isT g ?_ | refine Split.t ?_ | refine Split.f ?_ | fail
    refine Fin.bool ?_
    simp [wrongB, ← h1, ← h2]
    simp at g h
    simp [g, h]
  repeat' first | refine Split.isF h ?_ | refine Split.isF g ?_ | refine Split.t ?_ | refine Split.f ?_ | fail
  refine CallW.bool (in_det k.v 0 1000000) (fun b3 h3 => ?_)
  repeat' first | refine Split.isF h ?_ | refine Split.isF g ?_ | refine Split.t ?_ | refine Split.f ?_ | fail
  refine Fin.bool ?_
  simp [wrongB, ← h1, ← h2, ← h3]
  simp at g h
  simp [g, h]
def ixW : List Knd → Nat → Int
  | [], _ => -1
  | k :: r, i => if wrongB k = true then i else ixW r (i + 1)
theorem ixW_drop (l : List Knd) (k : Nat) (hk : k < l.length) : ixW (l.drop k) k = if wrongB (kget l k) = true then (k : Int) else ixW (l.drop (k + 1)) (k + 1) := by
  rw [List.drop_eq_getElem_cons hk, ixW]
  simp [kget, List.getD, hk]
theorem ixW_any (l : List Knd) : ∀ i, decide (ixW l i ≥ 0) = l.any wrongB := by
  induction l with
  | nil => intro i; rfl
  | cons k r ih =>
    intro i
    rw [ixW, List.any_cons]
    split
    · rename_i h; rw [h, Bool.true_or]; exact decide_eq_true (by omega)
    · rename_i h; rw [ih]; simp at h; rw [h, Bool.false_or]
theorem indexK_det (l : List Knd) (hl : l.length ≤ 100000000) (cap : Nat → SV) : Det Try.prog 99 [.one (kS l), .one (.fn 76 0 cap)] (tint (ixW l 0)) := by
  refine det_of_awp TTok mixed Try.func99 rfl rfl [] (Nat.le_of_ble_eq_true rfl) ?_
  refine Loop.by (α := Nat) (fun k => [(0, .d (.one (kS l))), (1, .d (.one (.fn 76 0 cap))), (7, tint l.length), (8, tint k)]) (fun _ => []) (fun k => k ≤ l.length ∧ ixW l 0 = ixW (l.drop k) k) (fun k => l.length - k)
    (Adj.at 0 ⟨Nat.zero_le _, by rw [List.drop_zero]⟩ .nil (.cons .same (.cons .same (.cons .same (.cons .same .nil))))) (fun k hk => ?_)
  obtain ⟨hk, hx⟩ := hk
  refine Split.mk (fun h => ?_) (fun h => ?_)
  · have hlt : k < l.length := by have := of_decide_eq_true h; omega
    have hd := ixW_drop l k hlt
    refine Need.mk (by omega) ?_
    refine CallW.bool (wrong_det (kget l k)) (fun b hb => ?_)
    refine Split.mk (fun g => ?_) (fun g => ?_)
    · refine Fin.int ?_
      rw [hx, hd, if_pos (by rw [← hb, g])]
    · refine Adj.back (x := k) (k + 1) ⟨by omega, by rw [hx, hd, if_neg (by rw [← hb, g]; simp)]⟩ (by omega) .nil (.cons .same (.cons .same (.cons .same (.cons (SlotLe.int (hS k (by omega))) .nil))))
  · have he : k = l.length := by have := of_decide_eq_false h; omega
    refine Fin.int ?_
    rw [hx, he, List.drop_length]
    rfl
theorem containsK_det (l : List Knd) (hl : l.length ≤ 100000000) (cap : Nat → SV) : Det Try.prog 77 [.one (kS l), .one (.fn 76 0 cap)] (tbool (l.any wrongB)) := by
  refine det_of_awp TTok mixed Try.func77 rfl rfl [] (Nat.le_of_ble_eq_true rfl) ?_
  refine CallW.int (indexK_det l hl cap) (fun n hn => ?_)
  refine Fin.bool ?_
  rw [hn, ixW_any]
def probB (l : List Knd) (w h kerf : Int) : Bool := decide (l.length ≤ 20) && (!l.any wrongB && (inB w 1 2000 && (inB h 1 2000 && inB kerf 0 50)))
theorem problem_det (l : List Knd) (w h kerf : Int) (hl : l.length ≤ maxLen) : Det Try.prog 45 [.one (kS l), .one (i64 w), .one (i64 h), .one (i64 kerf)] (tbool (probB l w h kerf)) := by
  refine det_of_awp TTok mixed Try.func45 rfl rfl [] (Nat.le_of_ble_eq_true rfl) ?_
  refine Split.mk (fun h1 => ?_) (fun h1 => ?_)
  · have hl20 : l.length ≤ 20 := by have := of_decide_eq_true h1; omega
    repeat' first | refine Split.isT h1 ?_ | refine Split.t ?_ | refine Split.f ?_ | fail
    refine CallW.bool (containsK_det l (by omega) _) (fun b1 e1 => ?_)
    repeat' first | refine Split.isT h1 ?_ | refine Split.t ?_ | refine Split.f ?_ | fail
    refine Split.mk (fun h2 => ?_) (fun h2 => ?_)
    · repeat' first | refine Split.isT h1 ?_ | refine Split.isT h2 ?_ | refine Split.t ?_ | refine Split.f ?_ | fail
      refine CallW.bool (in_det w 1 2000) (fun b2 e2 => ?_)
      repeat' first | refine Split.isT h1 ?_ | refine Split.isT h2 ?_ | refine Split.t ?_ | refine Split.f ?_ | fail
      refine Split.mk (fun h3 => ?_) (fun h3 => ?_)
      · repeat' first | refine Split.isT h1 ?_ | refine Split.isT h2 ?_ | refine Split.isT h3 ?_ | refine Split.t ?_ | refine Split.f ?_ | fail
        refine CallW.bool (in_det h 1 2000) (fun b3 e3 => ?_)
        repeat' first | refine Split.isT h1 ?_ | refine Split.isT h2 ?_ | refine Split.isT h3 ?_ | refine Split.t ?_ | refine Split.f ?_ | fail
        refine Split.mk (fun h4 => ?_) (fun h4 => ?_)
        · repeat' first | refine Split.isT h1 ?_ | refine Split.isT h2 ?_ | refine Split.isT h3 ?_ | refine Split.isT h4 ?_ | refine Split.t ?_ | refine Split.f ?_ | fail
          refine CallW.bool (in_det kerf 0 50) (fun b4 e4 => ?_)
          repeat' first | refine Split.isT h1 ?_ | refine Split.isT h2 ?_ | refine Split.isT h3 ?_ | refine Split.isT h4 ?_ | refine Split.t ?_ | refine Split.f ?_ | fail
          refine Fin.bool ?_
          subst e4
          simp at h2
          simp [probB, hl20, ← e1, ← e2, ← e3, h2, h3, h4]
        · repeat' first | refine Split.isT h1 ?_ | refine Split.isT h2 ?_ | refine Split.isT h3 ?_ | refine Split.isF h4 ?_ | refine Split.t ?_ | refine Split.f ?_ | fail
          refine Fin.bool ?_
          simp [probB, ← e3, h4]
      · repeat' first | refine Split.isT h1 ?_ | refine Split.isT h2 ?_ | refine Split.isF h3 ?_ | refine Split.t ?_ | refine Split.f ?_ | fail
        refine Fin.bool ?_
        simp [probB, ← e2, h3]
    · repeat' first | refine Split.isT h1 ?_ | refine Split.isF h2 ?_ | refine Split.t ?_ | refine Split.f ?_ | fail
      refine Fin.bool ?_
      simp at h2
      simp [probB, ← e1, h2]
  · repeat' first | refine Split.isF h1 ?_ | refine Split.t ?_ | refine Split.f ?_ | fail
    refine Fin.bool ?_
    have : ¬ l.length ≤ 20 := by have := of_decide_eq_false h1; omega
    simp [probB, this]
end St
end Go.Vm
namespace Go.Vm
set_option maxRecDepth 20000
set_option linter.unusedVariables false
set_option linter.unusedSimpArgs false
open Go Go.RowKit Go.Proofs
namespace St

structure KOk (k : Knd) : Prop where
  w0 : 1 ≤ k.w
  w1 : k.w ≤ 2000
  h0 : 1 ≤ k.h
  h1 : k.h ≤ 2000
  v0 : 0 ≤ k.v
  v1 : k.v ≤ 1000000
structure Pb (l : List Knd) (w h kerf : Int) : Prop where
  len : l.length ≤ 20
  ok : ∀ k ∈ l, KOk k
  w0 : 1 ≤ w
  w1 : w ≤ 2000
  h0 : 1 ≤ h
  h1 : h ≤ 2000
  k0 : 0 ≤ kerf
  k1 : kerf ≤ 50
theorem inB_iff {n lo hi : Int} : inB n lo hi = true ↔ lo ≤ n ∧ n ≤ hi := by simp [inB]
theorem wrong_iff {k : Knd} : wrongB k = false ↔ KOk k := by
  simp only [wrongB, Bool.or_eq_false_iff, Bool.not_eq_false', inB_iff]
  exact ⟨fun ⟨⟨a, b⟩, ⟨c, d⟩, e, f⟩ => ⟨a, b, c, d, e, f⟩, fun ⟨a, b, c, d, e, f⟩ => ⟨⟨a, b⟩, ⟨c, d⟩, e, f⟩⟩
theorem any_wrong {l : List Knd} : l.any wrongB = false ↔ ∀ k ∈ l, KOk k := by
  rw [← Bool.not_eq_true, List.any_eq_true]
  constructor
  · intro h k hk
    refine wrong_iff.1 ?_
    cases hw : wrongB k with
    | false => rfl
    | true => exact absurd ⟨k, hk, hw⟩ h
  · rintro h ⟨k, hk, hw⟩
    rw [wrong_iff.2 (h k hk)] at hw; cases hw
theorem prob_iff {l : List Knd} {w h kerf : Int} : probB l w h kerf = true ↔ Pb l w h kerf := by
  simp only [probB, Bool.and_eq_true, decide_eq_true_eq, Bool.not_eq_true', any_wrong, inB_iff]
  exact ⟨fun ⟨a, b, ⟨c, d⟩, ⟨e, f⟩, g, i⟩ => ⟨a, b, c, d, e, f, g, i⟩, fun ⟨a, b, c, d, e, f, g, i⟩ => ⟨a, b, ⟨c, d⟩, ⟨e, f⟩, g, i⟩⟩
theorem kget_mem {l : List Knd} {i : Nat} (h : i < l.length) : kget l i ∈ l := by
  unfold kget
  rw [List.getD, List.getElem?_eq_getElem h]
  exact List.getElem_mem h
theorem Pb.at' {l : List Knd} {w h kerf : Int} (p : Pb l w h kerf) {i : Nat} (hi : i < l.length) : KOk (kget l i) := p.ok _ (kget_mem hi)
/-! ### the reference's Problem -/
theorem rproblem_det (l : List Knd) (w hh kerf : Int) (hl : l.length ≤ 100000000) : Det Try.prog 24 [.one (kS l), .one (i64 w), .one (i64 hh), .one (i64 kerf)] (tbool (probB l w hh kerf)) := by
  refine det_of_awp TTok mixed Try.func24 rfl rfl [] (Nat.le_of_ble_eq_true rfl) ?_
  refine Loop.by (α := Nat) (fun k => [(0, .d (.one (kS l))), (1, tint w), (2, tint hh), (3, tint kerf), (9, tint k)]) (fun _ => []) (fun k => k ≤ l.length ∧ ∀ i, i < k → KOk (kget l i)) (fun k => l.length - k)
    (Adj.at 0 ⟨Nat.zero_le _, fun _ h => absurd h (Nat.not_lt_zero _)⟩ .nil (.cons .same (.cons .same (.cons .same (.cons .same (.cons .same .nil)))))) (fun k hk => ?_)
  obtain ⟨hk, hx⟩ := hk
  refine Split.mk (fun h => ?_) (fun h => ?_)
  · have hlt : k < l.length := by have := of_decide_eq_true h; omega
    have bad : ¬ KOk (l.getD ((k : Int)).toNat k0) → probB l w hh kerf = false := fun hb => by
      cases hq : probB l w hh kerf with
      | false => rfl
      | true => exact absurd ((prob_iff.1 hq).at' hlt) hb
    refine Need.mk (by omega) ?_
    refine Split.mk (fun c1 => ?_) (fun c1 => ?_)
    · repeat' first | refine Split.isT c1 ?_ | refine Split.t ?_ | refine Split.f ?_ | fail
      exact Fin.bool (bad fun q => by have := q.w0; have := of_decide_eq_true c1; omega).symm
    repeat' first | refine Split.isF c1 ?_ | refine Split.t ?_ | refine Split.f ?_ | fail
    refine Split.mk (fun c2 => ?_) (fun c2 => ?_)
    · repeat' first | refine Split.isT c2 ?_ | refine Split.t ?_ | refine Split.f ?_ | fail
      exact Fin.bool (bad fun q => by have := q.w1; have := of_decide_eq_true c2; omega).symm
    repeat' first | refine Split.isF c2 ?_ | refine Split.t ?_ | refine Split.f ?_ | fail
    refine Split.mk (fun c3 => ?_) (fun c3 => ?_)
    · repeat' first | refine Split.isT c3 ?_ | refine Split.t ?_ | refine Split.f ?_ | fail
      exact Fin.bool (bad fun q => by have := q.h0; have := of_decide_eq_true c3; omega).symm
    repeat' first | refine Split.isF c3 ?_ | refine Split.t ?_ | refine Split.f ?_ | fail
    refine Split.mk (fun c4 => ?_) (fun c4 => ?_)
    · repeat' first | refine Split.isT c4 ?_ | refine Split.t ?_ | refine Split.f ?_ | fail
      exact Fin.bool (bad fun q => by have := q.h1; have := of_decide_eq_true c4; omega).symm
    repeat' first | refine Split.isF c4 ?_ | refine Split.t ?_ | refine Split.f ?_ | fail
    refine Split.mk (fun c5 => ?_) (fun c5 => ?_)
    · repeat' first | refine Split.isT c5 ?_ | refine Split.t ?_ | refine Split.f ?_ | fail
      exact Fin.bool (bad fun q => by have := q.v0; have := of_decide_eq_true c5; omega).symm
    repeat' first | refine Split.isF c5 ?_ | refine Split.t ?_ | refine Split.f ?_ | fail
    refine Split.mk (fun c6 => ?_) (fun c6 => ?_)
    · exact Fin.bool (bad fun q => by have := q.v1; have := of_decide_eq_true c6; omega).symm
    refine Adj.back (x := k) (k + 1) ⟨by omega, fun i hi => ?_⟩ (by omega) .nil (.cons .same (.cons .same (.cons .same (.cons .same (.cons (SlotLe.int (hS k (by omega))) .nil)))))
    rcases Nat.lt_succ_iff_lt_or_eq.1 hi with hi | rfl
    · exact hx i hi
    · have := of_decide_eq_false c1; have := of_decide_eq_false c2; have := of_decide_eq_false c3; have := of_decide_eq_false c4; have := of_decide_eq_false c5; have := of_decide_eq_false c6
      exact (⟨by omega, by omega, by omega, by omega, by omega, by omega⟩ : KOk (l.getD ((i : Int)).toNat k0))
  · have he : k = l.length := by have := of_decide_eq_false h; omega
    have hall : ∀ k ∈ l, KOk k := fun a ha => by
      obtain ⟨i, hi, e⟩ := List.getElem_of_mem ha
      have := hx i (by omega)
      rw [← e]
      simpa [kget, List.getD, hi] using this
    have pn : ∀ {b : Bool}, (b = true ↔ Pb l w hh kerf) → b = probB l w hh kerf := fun {b} hb => by
      rw [Bool.eq_iff_iff, prob_iff]; exact hb
    have pnF : ¬ Pb l w hh kerf → false = probB l w hh kerf := fun hb => by
      cases hq : probB l w hh kerf with
      | false => rfl
      | true => exact absurd (prob_iff.1 hq) hb
    refine Split.mk (fun c1 => ?_) (fun c1 => ?_)
    · repeat' first | refine Split.isT c1 ?_ | refine Split.t ?_ | refine Split.f ?_ | fail
      refine Split.mk (fun c2 => ?_) (fun c2 => ?_)
      · repeat' first | refine Split.isT c2 ?_ | refine Split.t ?_ | refine Split.f ?_ | fail
        refine Split.mk (fun c3 => ?_) (fun c3 => ?_)
        · repeat' first | refine Split.isT c3 ?_ | refine Split.t ?_ | refine Split.f ?_ | fail
          refine Split.mk (fun c4 => ?_) (fun c4 => ?_)
          · repeat' first | refine Split.isT c4 ?_ | refine Split.t ?_ | refine Split.f ?_ | fail
            refine Split.mk (fun c5 => ?_) (fun c5 => ?_)
            · repeat' first | refine Split.isT c5 ?_ | refine Split.t ?_ | refine Split.f ?_ | fail
              refine Split.mk (fun c6 => ?_) (fun c6 => ?_)
              · repeat' first | refine Split.isT c6 ?_ | refine Split.t ?_ | refine Split.f ?_ | fail
                refine Fin.bool (pn ?_)
                rw [decide_eq_true_eq]
                have := of_decide_eq_true c1; have := of_decide_eq_true c2; have := of_decide_eq_true c3; have := of_decide_eq_true c4; have := of_decide_eq_true c5; have := of_decide_eq_true c6
                exact ⟨fun q => ⟨by omega, hall, by omega, by omega, by omega, by omega, by omega, q⟩, fun p => p.k1⟩
              · repeat' first | refine Split.isF c6 ?_ | refine Split.t ?_ | refine Split.f ?_ | fail
                exact Fin.bool (pnF fun p => by have := p.k0; have := of_decide_eq_false c6; omega)
            · repeat' first | refine Split.isF c5 ?_ | refine Split.t ?_ | refine Split.f ?_ | fail
              exact Fin.bool (pnF fun p => by have := p.h1; have := of_decide_eq_false c5; omega)
          · repeat' first | refine Split.isF c4 ?_ | refine Split.t ?_ | refine Split.f ?_ | fail
            exact Fin.bool (pnF fun p => by have := p.h0; have := of_decide_eq_false c4; omega)
        · repeat' first | refine Split.isF c3 ?_ | refine Split.t ?_ | refine Split.f ?_ | fail
          exact Fin.bool (pnF fun p => by have := p.w1; have := of_decide_eq_false c3; omega)
      · repeat' first | refine Split.isF c2 ?_ | refine Split.t ?_ | refine Split.f ?_ | fail
        exact Fin.bool (pnF fun p => by have := p.w0; have := of_decide_eq_false c2; omega)
    · repeat' first | refine Split.isF c1 ?_ | refine Split.t ?_ | refine Split.f ?_ | fail
      exact Fin.bool (pnF fun p => by have := p.len; have := of_decide_eq_false c1; omega)
/-! ### many, limit -/
def lowL (f : Knd → Int) (l : List Knd) (a : Int) : Int := l.foldl (fun a k => if f k < a then f k else a) a
theorem lowL_take (f : Knd → Int) (l : List Knd) (a : Int) (k : Nat) (hk : k < l.length) : lowL f (l.take (k + 1)) a = if f (kget l k) < lowL f (l.take k) a then f (kget l k) else lowL f (l.take k) a := by
  rw [List.take_succ_eq_append_getElem hk]
  simp only [lowL, List.foldl_append, List.foldl_cons, List.foldl_nil, kget, List.getD, List.getElem?_eq_getElem hk, Option.getD_some]
theorem lowL_ge (f : Knd → Int) (m : Int) : ∀ (l : List Knd) (a : Int), (∀ k ∈ l, m ≤ f k) → m ≤ a → m ≤ lowL f l a
  | [], a, _, h => h
  | k :: r, a, h, ha => by
    show m ≤ lowL f r (if f k < a then f k else a)
    refine lowL_ge f m r _ (fun k hk => h k (List.mem_cons_of_mem _ hk)) ?_
    have := h k (by simp)
    split <;> omega
theorem lowL_le (f : Knd → Int) : ∀ (l : List Knd) (a : Int), lowL f l a ≤ a
  | [], a => Int.le_refl _
  | k :: r, a => by
    show lowL f r (if f k < a then f k else a) ≤ a
    refine Int.le_trans (lowL_le f r _) ?_
    split <;> omega
theorem lowL_head (f : Knd → Int) (l : List Knd) (h : l ≠ []) (hb : ∀ k ∈ l, f k ≤ 2000) : lowL f l 2000 = lowL f l (f (kget l 0)) := by
  cases l with
  | nil => exact absurd rfl h
  | cons k r =>
    have := hb k (by simp)
    show lowL f r (if f k < 2000 then f k else 2000) = lowL f r (if f k < f k then f k else f k)
    congr 1
    split <;> split <;> omega
def manyB (l : List Knd) (w h kerf : Int) : Bool := if l = [] then false else decide ((w + kerf) / (lowL Knd.w l 2000 + kerf) * ((h + kerf) / (lowL Knd.h l 2000 + kerf)) > 600)
theorem quo_w {n v : Int} (h0 : 0 ≤ n) (h1 : n < 9223372036854775808) (hv : 0 < v) : IntKind.i64.wrap (n.tdiv v) = n / v := by
  rw [Int.tdiv_eq_ediv_of_nonneg h0]
  have a := Int.ediv_nonneg h0 (Int.le_of_lt hv)
  have b := Int.ediv_le_self v h0
  exact wid (by omega) (by omega)
end St
end Go.Vm
