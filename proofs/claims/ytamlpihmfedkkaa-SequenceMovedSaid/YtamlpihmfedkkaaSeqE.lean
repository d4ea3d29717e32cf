/-
  Layer 47: the contract of the program's depends.
-/
import Derived.Test.YtamlpihmfedkkaaSeqD
import Derived.Test.YtamlpihmfedkkaaVmW
namespace Go.Vm
set_option maxRecDepth 20000
set_option linter.unusedVariables false
set_option linter.unusedSimpArgs false
open Go Go.RowKit Go.Proofs
namespace Sg

/-- The rows that are made, the first i of them. -/
def rowS (l : List Ct) (i : Nat) : Nat → Nat → SV := fun p _ => if p < i then ilS (depK l p l.length) else .v (.slice none 0 0)
def rowC (l : List Ct) (i : Nat) (c : CV) : Nat → Nat → CV := fun p _ => if p = i then c else .s (rowS l i p 0)
def rowM (l : List Ct) (i : Nat) (D : List Int) : List (Id × Mem) := match D with
  | [] => [(.n 10, .bldc 0 l.length 1 33 (rowC l i (.s (.v (.slice none 0 0))))), (.n 5, .box (ctL (ctGet l i)))]
  | a :: D => [(.n 10, .bldc 0 l.length 1 33 (rowC l i (.hdl (.n 41) 0))), (.n 41, .bld 0 (a :: D).length 1 3 (iG (a :: D))), (.n 5, .box (ctL (ctGet l i)))]
theorem rowC_at (l : List Ct) (i : Nat) (c : CV) : rowC l i c i 0 = c := by rw [rowC, if_pos rfl]
theorem CVLe.bif {m m' : Id → Mem} {b : Bool} {x y z : CV} (h1 : b = true → CVLe m m' x z) (h2 : b = false → CVLe m m' y z) : CVLe m m' (bif b then x else y) z := by
  cases b
  · exact h2 rfl
  · exact h1 rfl
theorem rowC_s {m m' : Id → Mem} (l : List Ct) (i : Nat) (x : SV) (p j : Nat) : CVLe m m' (rowC l i (.s x) p j) (rowC l i (.s x) p j) := by
  rw [rowC]
  split <;> exact .s (SLe.refl _)
theorem rowC_h {m m' : Id → Mem} (l : List Ct) (i : Nat) (g g' p j : Nat) (h : m' (.n 41) ≠ .none) (hg : g = (m (.n 41)).gen) (hg' : g' = (m' (.n 41)).gen) : CVLe m m' (rowC l i (.hdl (.n 41) g) p j) (rowC l i (.hdl (.n 41) g') p j) := by
  rw [rowC, rowC]
  split
  · exact .hdl h hg hg'
  · exact .s (SLe.refl _)
theorem depends_det (l : List Ct) (hl : l.length ≤ 120) (hf : FewC l) : Det Try.prog 66 [.one (ctS l)] (.d (.one (illS (depL l)))) := by
  refine det_of_awp TTok mixed Try.func66 rfl rfl [] (Nat.le_of_ble_eq_true rfl) ?_
  refine Need.mk ⟨by omega, by omega, (show (24 : Int) * l.length ≤ 281474976710656 by omega), by omega⟩ ?_
  refine Loop.by (α := Nat) (fun i => [(0, .d (.one (ctS l))), (3, .hdl 10 0), (11, .d (.one (ctS l))), (12, tint l.length), (13, tint i)]) (fun i => [(10, .bld 0 l.length 1 33 (rowS l i))]) (fun i => i ≤ l.length) (fun i => l.length - i)
    (Adj.at 0 (Nat.zero_le _) (.cons (.bldN (by simp) (fun p hp j hj => ?_)) .nil) (.cons .same (.cons (.hdl rfl rfl) (.cons .same (.cons .same (.cons .same .nil)))))) (fun i hi => ?_)
  · obtain rfl : j = 0 := by have : j < 1 := hj; omega
    exact SLe.of_eq rfl
  refine Split.mk (fun h => ?_) (fun h => ?_)
  · have hlt : i < l.length := by have := of_decide_eq_true h; omega
    refine Need.mk (by omega) ?_
    have hr : ∀ i, (ctGet l i).ring.length ≤ 10000 := fun i => by have := hf i; omega
    refine Loop.by (α := Nat × List Int) (fun x => [(0, .d (.one (ctS l))), (3, .hdl 10 0), (11, .d (.one (ctS l))), (12, tint l.length), (13, tint i), (4, tint i), (5, .ptr 5 0), (18, .d (.one (ctS l))), (19, tint l.length), (20, tint x.1)]) (fun x => rowM l i x.2) (fun x => x.1 ≤ l.length ∧ x.2 = depK l i x.1) (fun x => l.length - x.1)
      (Adj.at (0, []) ⟨Nat.zero_le _, rfl⟩ (.cons (.bldObj (fun p hp j hj => ?_)) (.cons (.box (LLe.of_eq rfl)) .nil)) (.cons .same (.cons (.hdl rfl rfl) (.cons .same (.cons .same (.cons .same (.cons .same (.cons (.box rfl rfl) (.cons .same (.cons .same (.cons .same .nil))))))))))) (fun x hx => ?_)
    · obtain rfl : j = 0 := by have : j < 1 := hj; omega
      show CVLe _ _ (.s (rowS l i p 0)) (rowC l i (.s (.v (.slice none 0 0))) p 0)
      rw [rowC]
      split
      · rename_i hpi
        subst hpi
        rw [rowS, if_neg (Nat.lt_irrefl _)]
        exact .s (SLe.refl _)
      · exact .s (SLe.refl _)
    obtain ⟨k, D⟩ := x
    obtain ⟨hk, hD⟩ := hx
    replace hk : k ≤ l.length := hk
    replace hD : D = depK l i k := hD
    have hdk := depK_len l i k
    cases D with
    | nil =>
      refine Split.mk (fun h => ?_) (fun h => ?_)
      · have hkl : k < l.length := by have := of_decide_eq_true h; omega
        refine Need.mk (by omega) ?_
        refine Split.mk (fun h1 => ?_) (fun h1 => ?_)
        · have g1 : k ≠ i := by
            have h1' : ((i : Int) != (k : Int)) = true := h1
            intro e; subst e; simp at h1'
          repeat' first | refine Split.t ?_ | refine Split.f ?_ | refine Split.isT h1 ?_ | fail
          refine CallW.bool (within47_det (ctGet l k) (ctGet l i) (hr k) (hr i)) (fun b hb => ?_)
          repeat' first | refine Split.t ?_ | refine Split.f ?_ | refine Split.isT h1 ?_ | fail
          refine Split.mk (fun h2 => ?_) (fun h2 => ?_)
          · have e : depK l i (k + 1) = [(k : Int)] := by rw [depK, if_pos ⟨g1, by rw [← hb, h2]⟩, ← hD]; rfl
            refine Need.mk (by omega) ?_
            refine ⟨⟨_, rowC_at l i _, ?_⟩⟩
            refine Need.mk (needApp (by omega) (by decide)) ?_
            refine Need.mk (by omega) ?_
            refine Adj.back (x := (k, [])) (k + 1, [(k : Int)]) ⟨by show k + 1 ≤ l.length; omega, e.symm⟩ (by show l.length - (k + 1) < l.length - k; omega) (.cons (.bldc (fun p hp j hj => ?_)) (.cons (.bldN rfl (fun p hp j hj => ?_)) (.cons (.box (LLe.of_eq rfl)) .nil))) (.cons .same (.cons (.hdl rfl rfl) (.cons .same (.cons .same (.cons .same (.cons .same (.cons (.box rfl rfl) (.cons .same (.cons .same (.cons (SlotLe.int ?_) .nil))))))))))
            · obtain rfl : j = 0 := by have : j < 1 := hj; omega
              refine CVLe.bif (fun q => ?_) (fun q => ?_)
              · have e : p = i := by
                  have : Nat.beq p (i : Int).toNat = true := (Bool.and_eq_true _ _ ▸ q).1
                  simpa using this
                subst e
                rw [rowC_at]
                exact .hdl (by intro q; cases q) rfl rfl
              · have e : ¬ p = i := fun e => by
                  subst e
                  have : (Nat.beq p (p : Int).toNat && Nat.beq 0 0) = false := q
                  simp at this
                rw [rowC, rowC, if_neg e, if_neg e]
                exact .s (SLe.refl _)
            · obtain rfl : j = 0 := by have : j < 1 := hj; omega
              obtain rfl : p = 0 := by have : p < 1 := hp; omega
              exact SLe.of_eq rfl
            · rw [hw _ (by omega) (by omega)]; omega
          · have e : depK l i (k + 1) = [] := by rw [depK, if_neg (by rw [← hb, h2]; simp), ← hD]
            refine Adj.back (x := (k, [])) (k + 1, []) ⟨by show k + 1 ≤ l.length; omega, e.symm⟩ (by show l.length - (k + 1) < l.length - k; omega) (.cons (.bldc (fun p hp j hj => ?_)) (.cons (.box (LLe.of_eq rfl)) .nil)) (.cons .same (.cons (.hdl rfl rfl) (.cons .same (.cons .same (.cons .same (.cons .same (.cons (.box rfl rfl) (.cons .same (.cons .same (.cons (SlotLe.int ?_) .nil))))))))))
            · exact rowC_s l i _ p j
            · rw [hw _ (by omega) (by omega)]; omega
        · have g1 : k = i := by
            have h1' : ((i : Int) != (k : Int)) = false := h1
            have : (i : Int) = k := by simpa using h1'
            omega
          repeat' first | refine Split.t ?_ | refine Split.f ?_ | refine Split.isF h1 ?_ | fail
          have e : depK l i (k + 1) = [] := by rw [depK, if_neg (by simp [g1]), ← hD]
          refine Adj.back (x := (k, [])) (k + 1, []) ⟨by show k + 1 ≤ l.length; omega, e.symm⟩ (by show l.length - (k + 1) < l.length - k; omega) (.cons (.bldc (fun p hp j hj => ?_)) (.cons (.box (LLe.of_eq rfl)) .nil)) (.cons .same (.cons (.hdl rfl rfl) (.cons .same (.cons .same (.cons .same (.cons .same (.cons (.box rfl rfl) (.cons .same (.cons .same (.cons (SlotLe.int ?_) .nil))))))))))
          · exact rowC_s l i _ p j
          · rw [hw _ (by omega) (by omega)]; omega
      · have he' : k = l.length := by have := of_decide_eq_false h; omega
        subst he'
        refine Adj.uncell 10 0 l.length 33 _ (rowS l i) rfl (fun p hp => ?_) (Adj.back (x := i) (i + 1) (by omega) (by omega) (.cons (.bldN rfl (fun p hp j hj => ?_)) .nil) (.cons .same (.cons (.hdl rfl rfl) (.cons .same (.cons .same (.cons (SlotLe.int ?_) .nil))))))
        · rw [rowC]
          split
          · rename_i hpi
            subst hpi
            rw [rowS, if_neg (Nat.lt_irrefl _)]
          · rfl
        · show SLe (rowS l i p j) (rowS l (i + 1) p j)
          rw [rowS, rowS]
          by_cases e : p < i
          · rw [if_pos e, if_pos (by omega)]; exact SLe.refl _
          · rw [if_neg e]
            by_cases e2 : p = i
            · subst e2
              rw [if_pos (by omega), ← hD]
              exact SLe.nil _ _
            · rw [if_neg (by omega)]; exact SLe.refl _
        · rw [hw _ (by omega) (by omega)]; omega
    | cons a D =>
      have hlen : (a :: D).length ≤ 120 := by rw [hD]; omega
      refine Split.mk (fun h => ?_) (fun h => ?_)
      · have hkl : k < l.length := by have := of_decide_eq_true h; omega
        refine Need.mk (by omega) ?_
        refine Split.mk (fun h1 => ?_) (fun h1 => ?_)
        · have g1 : k ≠ i := by
            have h1' : ((i : Int) != (k : Int)) = true := h1
            intro e; subst e; simp at h1'
          repeat' first | refine Split.t ?_ | refine Split.f ?_ | refine Split.isT h1 ?_ | fail
          refine CallW.bool (within47_det (ctGet l k) (ctGet l i) (hr k) (hr i)) (fun b hb => ?_)
          repeat' first | refine Split.t ?_ | refine Split.f ?_ | refine Split.isT h1 ?_ | fail
          refine Split.mk (fun h2 => ?_) (fun h2 => ?_)
          · have e : depK l i (k + 1) = (a :: D) ++ [(k : Int)] := by rw [depK, if_pos ⟨g1, by rw [← hb, h2]⟩, ← hD]
            refine Need.mk (by omega) ?_
            refine ⟨⟨_, rowC_at l i _, ?_⟩⟩
            refine Need.mk (needApp (by omega) (by decide)) ?_
            refine Need.mk (by omega) ?_
            refine Adj.back (x := (k, a :: D)) (k + 1, (a :: D) ++ [(k : Int)]) ⟨by show k + 1 ≤ l.length; omega, e.symm⟩ (by show l.length - (k + 1) < l.length - k; omega) (.cons (.bldc (fun p hp j hj => ?_)) (.cons (.bldN (by simp) (fun p hp j hj => iG_at (a :: D) _ k p j rfl hp hj)) (.cons (.box (LLe.of_eq rfl)) .nil))) (.cons .same (.cons (.hdl rfl rfl) (.cons .same (.cons .same (.cons .same (.cons .same (.cons (.box rfl rfl) (.cons .same (.cons .same (.cons (SlotLe.int ?_) .nil))))))))))
            · obtain rfl : j = 0 := by have : j < 1 := hj; omega
              refine CVLe.bif (fun q => ?_) (fun q => ?_)
              · have e : p = i := by
                  have : Nat.beq p (i : Int).toNat = true := (Bool.and_eq_true _ _ ▸ q).1
                  simpa using this
                subst e
                rw [rowC_at]
                exact .hdl (by intro q; cases q) rfl rfl
              · have e : ¬ p = i := fun e => by
                  subst e
                  have : (Nat.beq p (p : Int).toNat && Nat.beq 0 0) = false := q
                  simp at this
                have e1 : rowC l i (.hdl (.n 41) 0) p 0 = .s (rowS l i p 0) := if_neg e
                rw [e1]
                exact .s (SLe.refl _)
            · rw [hw _ (by omega) (by omega)]; omega
          · have e : depK l i (k + 1) = a :: D := by rw [depK, if_neg (by rw [← hb, h2]; simp), ← hD]
            refine Adj.back (x := (k, a :: D)) (k + 1, a :: D) ⟨by show k + 1 ≤ l.length; omega, e.symm⟩ (by show l.length - (k + 1) < l.length - k; omega) (.cons (.bldc (fun p hp j hj => ?_)) (.cons (.bld (fun _ _ _ _ => SLe.refl _)) (.cons (.box (LLe.of_eq rfl)) .nil))) (.cons .same (.cons (.hdl rfl rfl) (.cons .same (.cons .same (.cons .same (.cons .same (.cons (.box rfl rfl) (.cons .same (.cons .same (.cons (SlotLe.int ?_) .nil))))))))))
            · exact rowC_h l i 0 0 p j (by intro q; cases q) rfl rfl
            · rw [hw _ (by omega) (by omega)]; omega
        · have g1 : k = i := by
            have h1' : ((i : Int) != (k : Int)) = false := h1
            have : (i : Int) = k := by simpa using h1'
            omega
          repeat' first | refine Split.t ?_ | refine Split.f ?_ | refine Split.isF h1 ?_ | fail
          have e : depK l i (k + 1) = a :: D := by rw [depK, if_neg (by simp [g1]), ← hD]
          refine Adj.back (x := (k, a :: D)) (k + 1, a :: D) ⟨by show k + 1 ≤ l.length; omega, e.symm⟩ (by show l.length - (k + 1) < l.length - k; omega) (.cons (.bldc (fun p hp j hj => ?_)) (.cons (.bld (fun _ _ _ _ => SLe.refl _)) (.cons (.box (LLe.of_eq rfl)) .nil))) (.cons .same (.cons (.hdl rfl rfl) (.cons .same (.cons .same (.cons .same (.cons .same (.cons (.box rfl rfl) (.cons .same (.cons .same (.cons (SlotLe.int ?_) .nil))))))))))
          · exact rowC_h l i 0 0 p j (by intro q; cases q) rfl rfl
          · rw [hw _ (by omega) (by omega)]; omega
      · have he' : k = l.length := by have := of_decide_eq_false h; omega
        subst he'
        refine Adj.freezeCell 10 41 0 l.length 33 _ 0 (a :: D).length 1 3 (iG (a :: D)) (fun p _ => if p = i then ilS (a :: D) else rowS l i p 0) rfl rfl (fun p hp => ?_) (Adj.back (x := i) (i + 1) (by omega) (by omega) (.cons (.bldN rfl (fun p hp j hj => ?_)) .nil) (.cons .same (.cons (.hdl rfl rfl) (.cons .same (.cons .same (.cons (SlotLe.int ?_) .nil))))))
        · by_cases e : p = i
          · right
            subst e
            exact ⟨rowC_at _ _ _, by rw [if_pos rfl]⟩
          · left
            show rowC l i (.hdl (.n 41) 0) p 0 = .s (if p = i then ilS (a :: D) else rowS l i p 0)
            rw [if_neg e]
            exact if_neg e
        · show SLe (if p = i then ilS (a :: D) else rowS l i p 0) (rowS l (i + 1) p j)
          by_cases e2 : p = i
          · rw [if_pos e2, rowS, if_pos (by omega), e2, ← hD]
            exact SLe.refl _
          · rw [if_neg e2, rowS, rowS]
            by_cases e : p < i
            · rw [if_pos e, if_pos (by omega)]; exact SLe.refl _
            · rw [if_neg e, if_neg (by omega)]; exact SLe.refl _
        · rw [hw _ (by omega) (by omega)]; omega
  · have he' : i = l.length := by have := of_decide_eq_false h; omega
    subst he'
    refine Fin.one (SLe.slN (by simp [depL]) (fun p hp j hj => SLe.of_eq ?_))
    show rowS l l.length p j = ilS ((depL l).getD p [])
    rw [depL_at l hp, rowS, if_pos hp]
end Sg
end Go.Vm
