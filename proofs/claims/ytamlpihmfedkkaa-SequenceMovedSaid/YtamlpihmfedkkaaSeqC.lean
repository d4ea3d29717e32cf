/-
  Layer 47: the contracts of Few, SameInts and within.
-/
import Derived.Test.YtamlpihmfedkkaaSeqB
namespace Go.Vm
set_option maxRecDepth 20000
set_option linter.unusedVariables false
set_option linter.unusedSimpArgs false
open Go Go.RowKit Go.Proofs
namespace Sg

def fewCB (l : List Ct) : Bool := (allB l.length fun i => decide ((ctGet l i).ring.length ≤ 60)) && decide (l.length ≤ 8)
theorem few47_det (l : List Ct) (hl : l.length ≤ maxLen) (hr : ∀ i, (ctGet l i).ring.length ≤ maxLen) : Det Try.prog 16 [.one (ctS l)] (tbool (fewCB l)) := by
  refine det_of_awp TTok mixed Try.func16 rfl rfl [] (Nat.le_of_ble_eq_true rfl) ?_
  refine Loop.by (α := Nat) (fun k => [(0, .d (.one (ctS l))), (3, tint k)]) (fun _ => []) (fun k => k ≤ l.length ∧ ∀ i, i < k → (ctGet l i).ring.length ≤ 60) (fun k => l.length - k)
    (Adj.at 0 ⟨Nat.zero_le _, fun _ h => absurd h (Nat.not_lt_zero _)⟩ .nil (.cons .same (.cons .same .nil))) (fun k hk => ?_)
  obtain ⟨hk, hall⟩ := hk
  refine Split.mk (fun h => ?_) (fun h => ?_)
  · have hlt : k < l.length := by have := of_decide_eq_true h; omega
    refine Need.mk (by omega) ?_
    refine CallW.bool (few_det (ctGet l k).ring (hr k)) (fun b hb => ?_)
    refine Split.mk (fun h1 => ?_) (fun h1 => ?_)
    · refine Fin.bool ?_
      have : ¬ (ctGet l k).ring.length ≤ 60 := by
        have : b = false := by simpa using h1
        exact of_decide_eq_false (by rw [← hb, this])
      rw [fewCB, allB_false k hlt (decide_eq_false this)]
      rfl
    · have h6 : (ctGet l k).ring.length ≤ 60 := by
        have : b = true := by simpa using h1
        exact of_decide_eq_true (by rw [← hb, this])
      refine Adj.back (x := k) (k + 1) ⟨by omega, fun i hi => ?_⟩ (by omega) .nil (.cons .same (.cons (SlotLe.int ?_) .nil))
      · by_cases e : i = k
        · rw [e]; exact h6
        · exact hall i (by omega)
      · simp only [maxLen] at hl
        rw [wid (by omega) (by omega)]; omega
  · have he : k = l.length := by have := of_decide_eq_false h; omega
    subst he
    refine Fin.bool ?_
    rw [fewCB, allB_iff.2 (fun i hi => decide_eq_true (hall i hi)), Bool.true_and, decide_eq_decide]
    omega
/-! ### lists of numbers -/
abbrev iGet (l : List Int) (i : Nat) : Int := l.getD i 0
abbrev iG (l : List Int) : Nat → Nat → SV := fun i _ => i64 (iGet l i)
abbrev ilS (l : List Int) : SV := .sl l.length 1 (iG l)
theorem samei_det (a b : List Int) (ha : a.length ≤ 10000) : Det Try.prog 20 [.one (ilS a), .one (ilS b)] (tbool (decide (a = b))) := by
  refine det_of_awp TTok mixed Try.func20 rfl rfl [] (Nat.le_of_ble_eq_true rfl) ?_
  refine Split.mk (fun h => ?_) (fun h => ?_)
  · refine Fin.bool ?_
    refine (decide_eq_false (fun e => ?_)).symm
    rw [e] at h
    simp at h
  have hl : a.length = b.length := by
    have : ¬ ((a.length : Int) ≠ b.length) := by simpa using h
    omega
  refine Loop.by (α := Nat) (fun k => [(0, .d (.one (ilS a))), (1, .d (.one (ilS b))), (5, tint k)]) (fun _ => []) (fun k => k ≤ a.length ∧ ∀ i, i < k → iGet a i = iGet b i) (fun k => a.length - k)
    (Adj.at 0 ⟨Nat.zero_le _, fun _ h => absurd h (Nat.not_lt_zero _)⟩ .nil (.cons .same (.cons .same (.cons .same .nil)))) (fun k hk => ?_)
  obtain ⟨hk, hall⟩ := hk
  refine Split.mk (fun h => ?_) (fun h => ?_)
  · have hlt : k < a.length := by have := of_decide_eq_true h; omega
    refine Need.mk (by omega) ?_
    refine Need.mk (by omega) ?_
    refine Need.mk (by kernel_rfl) ?_
    refine Split.mk (fun h1 => ?_) (fun h1 => ?_)
    · refine Fin.bool ?_
      refine (decide_eq_false (fun e => ?_)).symm
      have h1' : (iGet a k != iGet b k) = true := h1
      rw [e] at h1'
      simp at h1'
    · have h2 : iGet a k = iGet b k := by
        have h1' : (iGet a k != iGet b k) = false := h1
        simpa using h1'
      refine Adj.back (x := k) (k + 1) ⟨by omega, fun i hi => ?_⟩ (by omega) .nil (.cons .same (.cons .same (.cons (SlotLe.int ?_) .nil)))
      · by_cases e : i = k
        · rw [e]; exact h2
        · exact hall i (by omega)
      · rw [hw _ (by omega) (by omega)]; omega
  · have he : k = a.length := by have := of_decide_eq_false h; omega
    subst he
    refine Fin.bool ?_
    refine (decide_eq_true ?_).symm
    refine List.ext_getElem hl (fun i h1 h2 => ?_)
    have := hall i h1
    simpa [iGet, List.getD, h1, h2] using this
/-! ### within -/
theorem DLe.ad {n : Nat} {cell cell' : Nat → SV} (h : ∀ j, j < n → SLe (cell j) (cell' j)) : DLe (.one (.ad n cell)) (.one (.ad n cell')) := DLe.one (fun S w x r => by
  obtain ⟨b, off, xs, rfl, r2, r3, r4⟩ := Rd.inv_ad r
  exact .ad xs r2 r3 (fun j hj => h j hj _ _ _ (r4 j hj)))
theorem wlam_det (c : Ct) (v : V2) (hc : c.ring.length ≤ 10000) : Det Try.prog 140 [vD v, .one (.ad 6 fun j => (ctL c).getD j (.v Go.undef))] (tbool (decide (whereV c.ring v = 0))) := by
  refine det_of_awp TTok mixed Try.func140 rfl rfl [] (Nat.le_of_ble_eq_true rfl) ?_
  refine CallW.int (whereV_det c.ring v hc) (fun n hn => ?_)
  refine Fin.bool ?_
  rw [← hn]
  rfl
/-- The first number that a test accepts, or -1. -/
def fI (n : Nat) (B : Nat → Bool) : Int := match (List.range n).find? B with | none => -1 | some i => (i : Int)
theorem fI_some {n i : Nat} {B : Nat → Bool} (hi : i < n) (h : B i = true) (hb : ∀ j, j < i → B j = false) : fI n B = i := by
  have : (List.range n).find? B = some i := by
    rw [List.find?_range_eq_some]
    exact ⟨h, List.mem_range.2 hi, fun j hj => by rw [hb j hj]; rfl⟩
  rw [fI, this]
theorem fI_none {n : Nat} {B : Nat → Bool} (h : ∀ i, i < n → B i = false) : fI n B = -1 := by
  have : (List.range n).find? B = none := by
    rw [List.find?_eq_none]
    intro x hx
    rw [h x (List.mem_range.1 hx)]; simp
  rw [fI, this]
theorem fI_any (n : Nat) (B : Nat → Bool) : decide (0 ≤ fI n B) = !allB n fun i => !B i := by
  cases hc : allB n fun i => !B i with
  | true =>
    have h := allB_iff.1 hc
    rw [fI_none (fun i hi => by have := h i hi; simpa using this)]; rfl
  | false =>
    unfold fI
    cases hf : (List.range n).find? B with
    | some i => simp
    | none =>
      rw [List.find?_eq_none] at hf
      rw [allB_iff.2 (fun i hi => by have := hf i (List.mem_range.2 hi); simpa using this)] at hc
      cases hc
abbrev capC (c : Ct) : Nat → SV := fun i => [SV.ad 6 fun j => (ctL c).getD j (.v Go.undef)].getD i (.v Go.undef)
theorem widx_det (l : List V2) (c : Ct) (hl : l.length ≤ 10000) (hc : c.ring.length ≤ 10000) : Det Try.prog 150 [.one (vlS l), .one (.fn 140 1 (capC c))] (tint (fI l.length fun k => decide (whereV c.ring (gt l k) = 0))) := by
  refine det_of_awp TTok mixed Try.func150 rfl rfl [] (Nat.le_of_ble_eq_true rfl) ?_
  refine Loop.by (α := Nat) (fun k => [(0, .d (.one (vlS l))), (1, .d (.one (.fn 140 1 (capC c)))), (7, tint l.length), (8, tint k)]) (fun _ => []) (fun k => k ≤ l.length ∧ ∀ i, i < k → decide (whereV c.ring (gt l i) = 0) = false) (fun k => l.length - k)
    (Adj.at 0 ⟨Nat.zero_le _, fun _ h => absurd h (Nat.not_lt_zero _)⟩ .nil (.cons .same (.cons .same (.cons .same (.cons .same .nil))))) (fun k hk => ?_)
  obtain ⟨hk, hall⟩ := hk
  refine Split.mk (fun h => ?_) (fun h => ?_)
  · have hlt : k < l.length := by simpa using h
    refine Need.mk (by omega) ?_
    refine CallW.bool (wlam_det c (gt l k) hc) (fun b hb => ?_)
    refine Split.mk (fun h1 => ?_) (fun h1 => ?_)
    · refine Fin.int ?_
      exact (fI_some hlt (by rw [← hb, h1]) hall).symm
    · refine Adj.back (x := k) (k + 1) ⟨by omega, fun i hi => ?_⟩ (by omega) .nil (.cons .same (.cons .same (.cons .same (.cons (SlotLe.int ?_) .nil))))
      · by_cases e : i = k
        · rw [e, ← hb, h1]
        · exact hall i (by omega)
      · rw [hw _ (by omega) (by omega)]; omega
  · have hge : k = l.length := by
      have : ¬ k < l.length := by simpa using h
      omega
    subst hge
    refine Fin.int ?_
    rw [fI_none hall]
theorem wcf_det (l : List V2) (c : Ct) (hl : l.length ≤ 10000) (hc : c.ring.length ≤ 10000) : Det Try.prog 139 [.one (vlS l), .one (.fn 140 1 (capC c))] (tbool (!allB l.length fun k => !decide (whereV c.ring (gt l k) = 0))) := by
  refine det_of_awp TTok mixed Try.func139 rfl rfl [] (Nat.le_of_ble_eq_true rfl) ?_
  refine CallW.int (widx_det l c hl hc) (fun n hn => ?_)
  refine Fin.bool ?_
  rw [← fI_any l.length (fun k => decide (whereV c.ring (gt l k) = 0)), ← hn]
/-- Contour d lies within contour c. -/
def inC (d c : Ct) : Bool := (allB d.ring.length fun k => !decide (whereV c.ring (gt d.ring k) = 0)) && (decide (area2R d.ring < area2R c.ring) || (decide (area2R d.ring = area2R c.ring) && decide (d.hole < 0) && decide (0 ≤ c.hole)))
theorem within47_det (d c : Ct) (hd : d.ring.length ≤ 10000) (hc : c.ring.length ≤ 10000) : Det Try.prog 121 [ctD d, ctD c] (tbool (inC d c)) := by
  refine det_of_awp TTok mixed Try.func121 rfl rfl [] (Nat.le_of_ble_eq_true rfl) ?_
  refine CallW.int (area2_det d.ring hd) (fun x hx => ?_)
  refine CallW.int (area2_det c.ring hc) (fun y hy => ?_)
  refine Need.mk (by kernel_rfl) ?_
  have e : inC d c = ((decide (x < y) || (decide (x = y) && decide (d.hole < 0) && decide (0 ≤ c.hole))) && (allB d.ring.length fun k => !decide (whereV c.ring (gt d.ring k) = 0))) := by rw [inC, ← hx, ← hy, Bool.and_comm]
  rw [e]
  refine Split.mk (fun h1 => ?_) (fun h1 => ?_)
  · repeat' first | refine Split.t ?_ | refine Split.f ?_ | refine Split.isT h1 ?_ | fail
    refine Fin.bool ?_
    have : x > y := of_decide_eq_true h1
    rw [decide_eq_false (show ¬ x < y by omega), decide_eq_false (show ¬ x = y by omega)]
    rfl
  have g1 : ¬ x > y := of_decide_eq_false h1
  repeat' first | refine Split.t ?_ | refine Split.f ?_ | refine Split.isF h1 ?_ | fail
  refine Split.mk (fun h2 => ?_) (fun h2 => ?_)
  · have g2 : x = y := by simpa using h2
    repeat' first | refine Split.t ?_ | refine Split.f ?_ | refine Split.isF h1 ?_ | refine Split.isT h2 ?_ | fail
    refine Split.mk (fun h3 => ?_) (fun h3 => ?_)
    · repeat' first | refine Split.t ?_ | refine Split.f ?_ | refine Split.isF h1 ?_ | refine Split.isT h2 ?_ | refine Split.isT h3 ?_ | fail
      refine Fin.bool ?_
      have : d.hole ≥ 0 := of_decide_eq_true (show decide (d.hole ≥ 0) = true from h3)
      rw [decide_eq_false (show ¬ x < y by omega), decide_eq_false (show ¬ d.hole < 0 by omega)]
      simp
    have g3 : ¬ d.hole ≥ 0 := of_decide_eq_false (show decide (d.hole ≥ 0) = false from h3)
    repeat' first | refine Split.t ?_ | refine Split.f ?_ | refine Split.isF h1 ?_ | refine Split.isT h2 ?_ | refine Split.isF h3 ?_ | fail
    refine Split.mk (fun h4 => ?_) (fun h4 => ?_)
    · repeat' first | refine Split.t ?_ | refine Split.f ?_ | refine Split.isF h1 ?_ | refine Split.isT h2 ?_ | refine Split.isF h3 ?_ | refine Split.isT h4 ?_ | fail
      refine Fin.bool ?_
      have : c.hole < 0 := of_decide_eq_true (show decide (c.hole < 0) = true from h4)
      rw [decide_eq_false (show ¬ x < y by omega), decide_eq_false (show ¬ 0 ≤ c.hole by omega)]
      simp
    · have g4 : ¬ c.hole < 0 := of_decide_eq_false (show decide (c.hole < 0) = false from h4)
      repeat' first | refine Split.t ?_ | refine Split.f ?_ | refine Split.isF h1 ?_ | refine Split.isT h2 ?_ | refine Split.isF h3 ?_ | refine Split.isF h4 ?_ | fail
      refine CallW.bool (wcf_det d.ring c hd hc) (fun b hb => ?_)
      refine Fin.bool ?_
      rw [hb, Bool.not_not, decide_eq_true (show x = y from g2), decide_eq_true (show d.hole < 0 by omega), decide_eq_true (show 0 ≤ c.hole by omega)]
      simp
  · have g2 : ¬ x = y := by simpa using h2
    repeat' first | refine Split.t ?_ | refine Split.f ?_ | refine Split.isF h1 ?_ | refine Split.isF h2 ?_ | fail
    refine CallW.bool (wcf_det d.ring c hd hc) (fun b hb => ?_)
    refine Fin.bool ?_
    rw [hb, Bool.not_not, decide_eq_true (show x < y by omega)]
    simp
theorem rwithin47_det (d c : Ct) (hd : d.ring.length ≤ 10000) (hc : c.ring.length ≤ 10000) (hh : -1 ≤ d.hole) : Det Try.prog 69 [ctD d, ctD c] (tbool (inC d c)) := by
  refine det_of_awp TTok mixed Try.func69 rfl rfl [] (Nat.le_of_ble_eq_true rfl) ?_
  refine Loop.by (α := Nat) (fun k => [(2, .ptr 2 0), (3, .ptr 3 0), (5, tint k)]) (fun _ => [(2, .box (ctL d)), (3, .box (ctL c))]) (fun k => k ≤ d.ring.length ∧ ∀ i, i < k → (!decide (whereV c.ring (gt d.ring i) = 0)) = true) (fun k => d.ring.length - k)
    (Adj.at 0 ⟨Nat.zero_le _, fun _ h => absurd h (Nat.not_lt_zero _)⟩ (.cons (.box (LLe.of_eq rfl)) (.cons (.box (LLe.of_eq rfl)) .nil)) (.cons (.box rfl rfl) (.cons (.box rfl rfl) (.cons .same .nil)))) (fun k hk => ?_)
  obtain ⟨hk, hall⟩ := hk
  refine Split.mk (fun h => ?_) (fun h => ?_)
  · have hlt : k < d.ring.length := by have := of_decide_eq_true h; omega
    refine Need.mk (by omega) ?_
    refine CallW.int (rwhereV_det c.ring (gt d.ring k) hc) (fun n hn => ?_)
    refine Need.mk (by kernel_rfl) ?_
    refine Split.mk (fun h1 => ?_) (fun h1 => ?_)
    · refine Fin.bool ?_
      have : whereV c.ring (gt d.ring k) = 0 := by rw [← hn]; simpa using h1
      rw [inC, allB_false k hlt (by rw [decide_eq_true this]; rfl)]
      rfl
    · have h0 : (!decide (whereV c.ring (gt d.ring k) = 0)) = true := by
        have : ¬ n = 0 := by simpa using h1
        rw [← hn, decide_eq_false this]; rfl
      refine Adj.back (x := k) (k + 1) ⟨by omega, fun i hi => ?_⟩ (by omega) (.cons (.box (LLe.of_eq rfl)) (.cons (.box (LLe.of_eq rfl)) .nil)) (.cons (.box rfl rfl) (.cons (.box rfl rfl) (.cons (SlotLe.int ?_) .nil)))
      · by_cases e : i = k
        · rw [e]; exact h0
        · exact hall i (by omega)
      · rw [hw _ (by omega) (by omega)]; omega
  · have he : k = d.ring.length := by have := of_decide_eq_false h; omega
    subst he
    have e : inC d c = (decide (area2R d.ring < area2R c.ring) || (decide (area2R d.ring = area2R c.ring) && decide (d.hole < 0) && decide (0 ≤ c.hole))) := by rw [inC, allB_iff.2 hall, Bool.true_and]
    rw [e]
    refine CallW.int (rarea2_det d.ring hd) (fun x hx => ?_)
    refine CallW.int (rarea2_det c.ring hc) (fun y hy => ?_)
    rw [← hx, ← hy]
    refine Need.mk (by kernel_rfl) ?_
    refine Split.mk (fun h1 => ?_) (fun h1 => ?_)
    · repeat' first | refine Split.t ?_ | refine Split.f ?_ | refine Split.isT h1 ?_ | fail
      refine Fin.bool ?_
      rw [show decide (x < y) = true from h1]; rfl
    replace h1 : decide (x < y) = false := h1
    repeat' first | refine Split.t ?_ | refine Split.f ?_ | refine Split.isF h1 ?_ | fail
    refine Split.mk (fun h2 => ?_) (fun h2 => ?_)
    · have g2 : x = y := by simpa using h2
      repeat' first | refine Split.t ?_ | refine Split.f ?_ | refine Split.isF h1 ?_ | refine Split.isT h2 ?_ | fail
      refine Split.mk (fun h3 => ?_) (fun h3 => ?_)
      · have g3 : d.hole = -1 := by
          have h3' : (d.hole == -1) = true := h3
          simpa using h3'
        repeat' first | refine Split.t ?_ | refine Split.f ?_ | refine Split.isF h1 ?_ | refine Split.isT h2 ?_ | refine Split.isT h3 ?_ | fail
        refine Fin.bool ?_
        rw [h1, decide_eq_true g2, decide_eq_true (show d.hole < 0 by omega)]
        rfl
      · have g3 : ¬ d.hole = -1 := by
          have h3' : (d.hole == -1) = false := h3
          simpa using h3'
        repeat' first | refine Split.t ?_ | refine Split.f ?_ | refine Split.isF h1 ?_ | refine Split.isT h2 ?_ | refine Split.isF h3 ?_ | fail
        refine Fin.bool ?_
        rw [h1, decide_eq_false (show ¬ d.hole < 0 by omega), Bool.and_false]
        rfl
    · have g2 : ¬ x = y := by simpa using h2
      repeat' first | refine Split.t ?_ | refine Split.f ?_ | refine Split.isF h1 ?_ | refine Split.isF h2 ?_ | fail
      refine Fin.bool ?_
      rw [h1, decide_eq_false g2]
      rfl
end Sg
end Go.Vm
