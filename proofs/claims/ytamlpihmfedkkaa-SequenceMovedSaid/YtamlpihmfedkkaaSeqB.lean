/-
  Layer 47: contours; the contracts of own/To, check and the specification's valid.
  Layer 47: the contracts of the specification's valid, Few, SameInts, and of within.
-/
import Derived.Test.YtamlpihmfedkkaaRingM
namespace Go.Vm
set_option maxRecDepth 20000
set_option linter.unusedVariables false
set_option linter.unusedSimpArgs false
open Go Go.RowKit Go.Proofs
namespace Sg

structure Ct where
  pl : Int
  hole : Int
  ring : List V2
  st : V2
  at_ : Int
def ct0 : Ct := ⟨0, 0, [], ⟨0, 0⟩, 0⟩
abbrev ctGet (l : List Ct) (i : Nat) : Ct := l.getD i ct0
abbrev ctL (c : Ct) : List SV := [i64 c.pl, i64 c.hole, vlS c.ring, i64 c.st.x, i64 c.st.y, i64 c.at_]
abbrev ctD (c : Ct) : DV := .agg (ctL c)
abbrev ctG (l : List Ct) : Nat → Nat → SV := fun i j => match j with
  | 0 => i64 (ctGet l i).pl
  | 1 => i64 (ctGet l i).hole
  | 2 => vlS (ctGet l i).ring
  | 3 => i64 (ctGet l i).st.x
  | 4 => i64 (ctGet l i).st.y
  | _ => i64 (ctGet l i).at_
abbrev ctS (l : List Ct) : SV := .sl l.length 6 (ctG l)
theorem ctG_at (E : List Ct) (s : Ct) (k i j : Nat) (hi : i < k + 1) (hj : j < 6) (hs : s = ctGet E k) : SLe (bif Nat.blt i k then ctG E i j else (ctL s).getD ((i - k) * 6 + j) (.v Go.undef)) (ctG E i j) := by
  refine SLe.bif (fun _ => SLe.refl _) (fun h => ?_)
  have e : i = k := by omega
  subst e
  subst hs
  rw [Nat.sub_self, Nat.zero_mul, Nat.zero_add]
  match j, hj with
  | 0, _ => exact SLe.refl _
  | 1, _ => exact SLe.refl _
  | 2, _ => exact SLe.refl _
  | 3, _ => exact SLe.refl _
  | 4, _ => exact SLe.refl _
  | 5, _ => exact SLe.refl _
theorem to_own_det (l : List Ct) (hl : l.length ≤ 10000) : Det Try.prog 67 [.one (ctS l)] (.d (.one (ctS l))) := by
  refine det_of_awp TTok mixed Try.func67 rfl rfl [] (Nat.le_of_ble_eq_true rfl) ?_
  refine Loop.by (α := Nat) (fun k => [(0, .d (.one (ctS l))), (4, tint k), (3, .hdl 17 0)]) (fun k => [(17, .bld 0 k 6 91 (ctG l))]) (fun k => k ≤ l.length) (fun k => l.length - k)
    (Adj.nil 3 17 6 91 (ctG l) rfl rfl (Adj.at 0 (Nat.zero_le _) (.cons (.bld (fun _ h => absurd h (Nat.not_lt_zero _))) .nil) (.cons .same (.cons .same (.cons (.hdl rfl rfl) .nil))))) (fun k hk => ?_)
  refine Split.mk (fun h => ?_) (fun h => ?_)
  · have hlt : k < l.length := by have := of_decide_eq_true h; omega
    refine Need.mk (by omega) ?_
    refine Need.mk (needApp (by omega) (by decide)) ?_
    refine Adj.back (x := k) (k + 1) (by omega) (by omega) (.cons (.bld (fun i hi j hj => ctG_at l (ctGet l k) k i j hi hj rfl)) .nil) (.cons .same (.cons (SlotLe.int ?_) (.cons (.hdl rfl rfl) .nil)))
    rw [hw _ (by omega) (by omega)]; omega
  · have he : k = l.length := by have := of_decide_eq_false h; omega
    subst he
    exact Fin.one (SLe.slN rfl (fun _ _ _ _ => SLe.refl _))
theorem own_det (l : List Ct) (hl : l.length ≤ 10000) : Det Try.prog 18 [.one (ctS l)] (.d (.one (ctS l))) := by
  refine det_of_awp TTok mixed Try.func18 rfl rfl [] (Nat.le_of_ble_eq_true rfl) ?_
  refine CallW.mk' (to_own_det l hl) ?_
  exact Fin.rfl'
/-! ### the first error -/
def okC (c : Ct) : Bool := validR c.ring && decide (0 ≤ c.at_) && decide (c.at_ < c.ring.length) && decide (-1 ≤ c.hole) && withinV c.st 8000
def chkI (l : List Ct) : Int := if 120 < l.length then 9 else if (allB l.length fun i => okC (ctGet l i)) = true then 0 else 1
/-- Every ring is short. -/
def FewC (l : List Ct) : Prop := ∀ i, (ctGet l i).ring.length ≤ 60
theorem check_det (l : List Ct) (hl : l.length ≤ 10000) (hf : FewC l) : Det Try.prog 65 [.one (ctS l)] (tint (chkI l)) := by
  refine det_of_awp TTok mixed Try.func65 rfl rfl [] (Nat.le_of_ble_eq_true rfl) ?_
  refine Split.mk (fun h => ?_) (fun h => ?_)
  · have h9 : 120 < l.length := by have := of_decide_eq_true h; omega
    refine Fin.int ?_
    rw [chkI, if_pos h9]
  have h9 : ¬ 120 < l.length := by have := of_decide_eq_false h; omega
  have bad : ∀ i, i < l.length → okC (ctGet l i) = false → chkI l = 1 := fun i hi h => by
    rw [chkI, if_neg h9, if_neg (by rw [allB_false i hi h]; simp)]
  refine Loop.by (α := Nat) (fun k => [(8, .d (.one (ctS l))), (9, tint l.length), (10, tint k)]) (fun _ => []) (fun k => k ≤ l.length ∧ ∀ i, i < k → okC (ctGet l i) = true) (fun k => l.length - k)
    (Adj.at 0 ⟨Nat.zero_le _, fun _ h => absurd h (Nat.not_lt_zero _)⟩ .nil (.cons .same (.cons .same (.cons .same .nil)))) (fun k hk => ?_)
  obtain ⟨hk, hall⟩ := hk
  refine Split.mk (fun h => ?_) (fun h => ?_)
  · have hlt : k < l.length := by have := of_decide_eq_true h; omega
    refine Need.mk (by omega) ?_
    have hb := bad k hlt
    have hfk := hf k
    have hnx : okC (ctGet l k) = true → ∀ i, i < k + 1 → okC (ctGet l i) = true := fun hk i hi => by
      by_cases e : i = k
      · rw [e]; exact hk
      · exact hall i (by omega)
    refine CallW.bool (valid_det' (ctGet l k).ring (by omega)) (fun b hb' => ?_)
    refine Split.mk (fun h1 => ?_) (fun h1 => ?_)
    · repeat' first | refine Split.t ?_ | refine Split.f ?_ | refine Split.isT h1 ?_ | fail
      refine Fin.int ?_
      rw [hb ?_]
      have : validR (ctGet l k).ring = false := by rw [← hb']; simpa using h1
      generalize ctGet l k = c at this ⊢
      simp [okC, this]
    have g1 : validR (ctGet l k).ring = true := by rw [← hb']; simpa using h1
    repeat' first | refine Split.t ?_ | refine Split.f ?_ | refine Split.isF h1 ?_ | fail
    refine Split.mk (fun h2 => ?_) (fun h2 => ?_)
    · repeat' first | refine Split.t ?_ | refine Split.f ?_ | refine Split.isF h1 ?_ | refine Split.isT h2 ?_ | fail
      refine Fin.int ?_
      rw [hb ?_]
      have : ¬ 0 ≤ (ctGet l k).at_ := by have := of_decide_eq_true (show decide ((ctGet l k).at_ < 0) = true from h2); omega
      generalize ctGet l k = c at this ⊢
      simp [okC, this]
    have g2 : 0 ≤ (ctGet l k).at_ := by have := of_decide_eq_false (show decide ((ctGet l k).at_ < 0) = false from h2); omega
    repeat' first | refine Split.t ?_ | refine Split.f ?_ | refine Split.isF h1 ?_ | refine Split.isF h2 ?_ | fail
    refine Split.mk (fun h3 => ?_) (fun h3 => ?_)
    · repeat' first | refine Split.t ?_ | refine Split.f ?_ | refine Split.isF h1 ?_ | refine Split.isF h2 ?_ | refine Split.isT h3 ?_ | fail
      refine Fin.int ?_
      rw [hb ?_]
      have : ¬ (ctGet l k).at_ < (ctGet l k).ring.length := by have := of_decide_eq_true (show decide ((ctGet l k).at_ ≥ (ctGet l k).ring.length) = true from h3); omega
      generalize ctGet l k = c at this ⊢
      simp [okC, this]
    have g3 : (ctGet l k).at_ < (ctGet l k).ring.length := by have := of_decide_eq_false (show decide ((ctGet l k).at_ ≥ (ctGet l k).ring.length) = false from h3); omega
    repeat' first | refine Split.t ?_ | refine Split.f ?_ | refine Split.isF h1 ?_ | refine Split.isF h2 ?_ | refine Split.isF h3 ?_ | fail
    refine Split.mk (fun h4 => ?_) (fun h4 => ?_)
    · repeat' first | refine Split.t ?_ | refine Split.f ?_ | refine Split.isF h1 ?_ | refine Split.isF h2 ?_ | refine Split.isF h3 ?_ | refine Split.isT h4 ?_ | fail
      refine Fin.int ?_
      rw [hb ?_]
      have : ¬ -1 ≤ (ctGet l k).hole := by have := of_decide_eq_true (show decide ((ctGet l k).hole < -1) = true from h4); omega
      generalize ctGet l k = c at this ⊢
      simp [okC, this]
    have g4 : -1 ≤ (ctGet l k).hole := by have := of_decide_eq_false (show decide ((ctGet l k).hole < -1) = false from h4); omega
    repeat' first | refine Split.t ?_ | refine Split.f ?_ | refine Split.isF h1 ?_ | refine Split.isF h2 ?_ | refine Split.isF h3 ?_ | refine Split.isF h4 ?_ | fail
    refine CallW.bool (vwithin_det (ctGet l k).st 8000) (fun d hd => ?_)
    repeat' first | refine Split.t ?_ | refine Split.f ?_ | refine Split.isF h1 ?_ | refine Split.isF h2 ?_ | refine Split.isF h3 ?_ | refine Split.isF h4 ?_ | fail
    refine Split.mk (fun h5 => ?_) (fun h5 => ?_)
    · refine Fin.int ?_
      rw [hb ?_]
      have : withinV (ctGet l k).st 8000 = false := by rw [← hd]; simpa using h5
      generalize ctGet l k = c at this ⊢
      simp [okC, this]
    have g5 : withinV (ctGet l k).st 8000 = true := by rw [← hd]; simpa using h5
    have hok : okC (ctGet l k) = true := by
      generalize ctGet l k = c at g1 g2 g3 g4 g5 ⊢
      simp [okC, g1, g2, g3, g4, g5]
    refine Adj.back (x := k) (k + 1) ⟨by omega, hnx hok⟩ (by omega) .nil (.cons .same (.cons .same (.cons (SlotLe.int ?_) .nil)))
    rw [hw _ (by omega) (by omega)]; omega
  · have he : k = l.length := by have := of_decide_eq_false h; omega
    subst he
    refine Fin.int ?_
    rw [chkI, if_neg h9, if_pos (allB_iff.2 hall)]
end Sg
end Go.Vm
namespace Go.Vm
set_option maxRecDepth 20000
set_option linter.unusedVariables false
set_option linter.unusedSimpArgs false
open Go Go.RowKit Go.Proofs
namespace Sg

theorem rcheck_det (l : List Ct) (hl : l.length ≤ 10000) (hf : FewC l) : Det Try.prog 68 [.one (ctS l)] (tint (chkI l)) := by
  refine det_of_awp TTok mixed Try.func68 rfl rfl [] (Nat.le_of_ble_eq_true rfl) ?_
  refine Split.mk (fun h => ?_) (fun h => ?_)
  · have h9 : 120 < l.length := by have := of_decide_eq_true h; omega
    refine Fin.int ?_
    rw [chkI, if_pos h9]
  have h9 : ¬ 120 < l.length := by have := of_decide_eq_false h; omega
  have bad : ∀ i, i < l.length → okC (ctGet l i) = false → chkI l = 1 := fun i hi h => by
    rw [chkI, if_neg h9, if_neg (by rw [allB_false i hi h]; simp)]
  refine Loop.by (α := Nat) (fun k => [(0, .d (.one (ctS l))), (3, tint k)]) (fun _ => []) (fun k => k ≤ l.length ∧ ∀ i, i < k → okC (ctGet l i) = true) (fun k => l.length - k)
    (Adj.at 0 ⟨Nat.zero_le _, fun _ h => absurd h (Nat.not_lt_zero _)⟩ .nil (.cons .same (.cons .same .nil))) (fun k hk => ?_)
  obtain ⟨hk, hall⟩ := hk
  refine Split.mk (fun h => ?_) (fun h => ?_)
  · have hlt : k < l.length := by have := of_decide_eq_true h; omega
    refine Need.mk (by omega) ?_
    have hb := bad k hlt
    have hfk := hf k
    have hnx : okC (ctGet l k) = true → ∀ i, i < k + 1 → okC (ctGet l i) = true := fun hk i hi => by
      by_cases e : i = k
      · rw [e]; exact hk
      · exact hall i (by omega)
    refine CallW.bool (rvalid_det8 (ctGet l k).ring (by omega)) (fun b hb' => ?_)
    refine Split.mk (fun h1 => ?_) (fun h1 => ?_)
    · repeat' first | refine Split.t ?_ | refine Split.f ?_ | refine Split.isT h1 ?_ | refine Need.mk (by omega) ?_ | fail
      refine Need.mk (by kernel_rfl) ?_
      repeat' first | refine Split.t ?_ | refine Split.f ?_ | refine Split.isT h1 ?_ | refine Need.mk (by omega) ?_ | fail
      refine Fin.int ?_
      rw [hb ?_]
      have : validR (ctGet l k).ring = false := by rw [← hb']; simpa using h1
      generalize ctGet l k = c at this ⊢
      simp [okC, this]
    have g1 : validR (ctGet l k).ring = true := by rw [← hb']; simpa using h1
    repeat' first | refine Split.t ?_ | refine Split.f ?_ | refine Split.isF h1 ?_ | refine Need.mk (by omega) ?_ | fail
    refine Split.mk (fun h2 => ?_) (fun h2 => ?_)
    · repeat' first | refine Split.t ?_ | refine Split.f ?_ | refine Split.isF h1 ?_ | refine Split.isT h2 ?_ | refine Need.mk (by omega) ?_ | fail
      refine Need.mk (by kernel_rfl) ?_
      repeat' first | refine Split.t ?_ | refine Split.f ?_ | refine Split.isF h1 ?_ | refine Split.isT h2 ?_ | refine Need.mk (by omega) ?_ | fail
      refine Fin.int ?_
      rw [hb ?_]
      have : ¬ 0 ≤ (ctGet l k).at_ := by have := of_decide_eq_true (show decide ((ctGet l k).at_ < 0) = true from h2); omega
      generalize ctGet l k = c at this ⊢
      simp [okC, this]
    have g2 : 0 ≤ (ctGet l k).at_ := by have := of_decide_eq_false (show decide ((ctGet l k).at_ < 0) = false from h2); omega
    repeat' first | refine Split.t ?_ | refine Split.f ?_ | refine Split.isF h1 ?_ | refine Split.isF h2 ?_ | refine Need.mk (by omega) ?_ | fail
    refine Split.mk (fun h3 => ?_) (fun h3 => ?_)
    · repeat' first | refine Split.t ?_ | refine Split.f ?_ | refine Split.isF h1 ?_ | refine Split.isF h2 ?_ | refine Split.isT h3 ?_ | refine Need.mk (by omega) ?_ | fail
      refine Need.mk (by kernel_rfl) ?_
      repeat' first | refine Split.t ?_ | refine Split.f ?_ | refine Split.isF h1 ?_ | refine Split.isF h2 ?_ | refine Split.isT h3 ?_ | refine Need.mk (by omega) ?_ | fail
      refine Fin.int ?_
      rw [hb ?_]
      have : ¬ (ctGet l k).at_ < (ctGet l k).ring.length := by have := of_decide_eq_true (show decide ((ctGet l k).at_ ≥ (ctGet l k).ring.length) = true from h3); omega
      generalize ctGet l k = c at this ⊢
      simp [okC, this]
    have g3 : (ctGet l k).at_ < (ctGet l k).ring.length := by have := of_decide_eq_false (show decide ((ctGet l k).at_ ≥ (ctGet l k).ring.length) = false from h3); omega
    repeat' first | refine Split.t ?_ | refine Split.f ?_ | refine Split.isF h1 ?_ | refine Split.isF h2 ?_ | refine Split.isF h3 ?_ | refine Need.mk (by omega) ?_ | fail
    refine Split.mk (fun h4 => ?_) (fun h4 => ?_)
    · repeat' first | refine Split.t ?_ | refine Split.f ?_ | refine Split.isF h1 ?_ | refine Split.isF h2 ?_ | refine Split.isF h3 ?_ | refine Split.isT h4 ?_ | refine Need.mk (by omega) ?_ | fail
      refine Need.mk (by kernel_rfl) ?_
      repeat' first | refine Split.t ?_ | refine Split.f ?_ | refine Split.isF h1 ?_ | refine Split.isF h2 ?_ | refine Split.isF h3 ?_ | refine Split.isT h4 ?_ | refine Need.mk (by omega) ?_ | fail
      refine Fin.int ?_
      rw [hb ?_]
      have : ¬ -1 ≤ (ctGet l k).hole := by have := of_decide_eq_true (show decide ((ctGet l k).hole < -1) = true from h4); omega
      generalize ctGet l k = c at this ⊢
      simp [okC, this]
    have g4 : -1 ≤ (ctGet l k).hole := by have := of_decide_eq_false (show decide ((ctGet l k).hole < -1) = false from h4); omega
    repeat' first | refine Split.t ?_ | refine Split.f ?_ | refine Split.isF h1 ?_ | refine Split.isF h2 ?_ | refine Split.isF h3 ?_ | refine Split.isF h4 ?_ | refine Need.mk (by omega) ?_ | fail
    refine CallW.bool (within_det (ctGet l k).st 8000) (fun d hd => ?_)
    repeat' first | refine Split.t ?_ | refine Split.f ?_ | refine Split.isF h1 ?_ | refine Split.isF h2 ?_ | refine Split.isF h3 ?_ | refine Split.isF h4 ?_ | refine Need.mk (by omega) ?_ | fail
    refine Need.mk (by kernel_rfl) ?_
    refine Split.mk (fun h5 => ?_) (fun h5 => ?_)
    · refine Fin.int ?_
      rw [hb ?_]
      have : withinV (ctGet l k).st 8000 = false := by rw [← hd]; simpa using h5
      generalize ctGet l k = c at this ⊢
      simp [okC, this]
    have g5 : withinV (ctGet l k).st 8000 = true := by rw [← hd]; simpa using h5
    have hok : okC (ctGet l k) = true := by
      generalize ctGet l k = c at g1 g2 g3 g4 g5 ⊢
      simp [okC, g1, g2, g3, g4, g5]
    refine Adj.back (x := k) (k + 1) ⟨by omega, hnx hok⟩ (by omega) .nil (.cons .same (.cons (SlotLe.int ?_) .nil))
    rw [hw _ (by omega) (by omega)]; omega
  · have he : k = l.length := by have := of_decide_eq_false h; omega
    subst he
    refine Fin.int ?_
    rw [chkI, if_neg h9, if_pos (allB_iff.2 hall)]
end Sg
end Go.Vm
