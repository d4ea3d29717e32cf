/-
  Layer 47: the contract of the specification's Depends.
-/
import Derived.Test.YtamlpihmfedkkaaSeqC
namespace Go.Vm
set_option maxRecDepth 20000
set_option linter.unusedVariables false
set_option linter.unusedSimpArgs false
open Go Go.RowKit Go.Proofs
namespace Sg

/-- Of the first k contours, those on which contour i depends. -/
def depK (l : List Ct) (i : Nat) : Nat → List Int
  | 0 => []
  | k + 1 => if k ≠ i ∧ inC (ctGet l k) (ctGet l i) = true then depK l i k ++ [(k : Int)] else depK l i k
def depL (l : List Ct) : List (List Int) := (List.range l.length).map fun i => depK l i l.length
abbrev illG (L : List (List Int)) : Nat → Nat → SV := fun i _ => ilS (L.getD i [])
abbrev illS (L : List (List Int)) : SV := .sl L.length 1 (illG L)
theorem depK_len (l : List Ct) (i : Nat) : ∀ k, (depK l i k).length ≤ k
  | 0 => Nat.le_refl _
  | k + 1 => by
    have := depK_len l i k
    simp only [depK]
    split
    · simp; omega
    · omega
theorem depL_at (l : List Ct) {i : Nat} (hi : i < l.length) : (depL l).getD i [] = depK l i l.length := by simp [depL, List.getD, hi]
def depT (l : List Ct) : List (List Int) × Int := if chkI l ≠ 0 then ([], chkI l) else (depL l, 0)
abbrev depV (L : List (List Int)) (e : Int) : TV := .tup [.one (illS L), .one (i64 e)]
theorem chk_ok {l : List Ct} (h : chkI l = 0) {i : Nat} (hi : i < l.length) : okC (ctGet l i) = true := by
  unfold chkI at h
  split at h
  · cases h
  · split at h
    · rename_i h2; exact allB_iff.1 h2 i hi
    · cases h
theorem chk_len {l : List Ct} (h : chkI l = 0) : l.length ≤ 120 := by
  unfold chkI at h
  split at h
  · cases h
  · omega
theorem okC_hole {c : Ct} (h : okC c = true) : -1 ≤ c.hole := by
  simp only [okC, Bool.and_eq_true, decide_eq_true_eq] at h
  exact h.1.2
theorem iG_at (D : List Int) (n k i j : Nat) (hn : n = D.length) (hi : i < n + 1) (hj : j < 1) : SLe (bif Nat.blt i n then iG D i j else [i64 (k : Int)].getD ((i - n) * 1 + j) (.v Go.undef)) (iG (D ++ [(k : Int)]) i j) := by
  subst hn
  refine SLe.bif (fun h => SLe.of_eq ?_) (fun h => ?_)
  · show i64 (D.getD i 0) = i64 ((D ++ [(k : Int)]).getD i 0)
    have h' : i < D.length := by simpa using h
    simp [List.getD, List.getElem?_append_left h']
  · have e : i = D.length := by omega
    obtain rfl : j = 0 := by omega
    subst e
    rw [Nat.sub_self]
    refine SLe.of_eq ?_
    show i64 (k : Int) = i64 ((D ++ [(k : Int)]).getD D.length 0)
    simp [List.getD]
theorem rdepends_det (l : List Ct) (hl : l.length ≤ 10000) (hf : FewC l) : Det Try.prog 19 [.one (ctS l)] (depV (depT l).1 (depT l).2) := by
  refine det_of_awp TTok mixed Try.func19 rfl rfl [15] (Nat.le_of_ble_eq_true rfl) ?_
  refine CallW.int (rcheck_det l hl hf) (fun e he => ?_)
  refine Split.mk (fun h => ?_) (fun h => ?_)
  · have hne : chkI l ≠ 0 := by rw [← he]; simpa using h
    rw [depT, if_pos hne]
    exact Fin.tup (.cons (DLe.one (SLe.nil _ _)) (.cons (DLe.of_eq (by rw [he])) .nil))
  have h0 : chkI l = 0 := by rw [← he]; simpa using h
  have h120 := chk_len h0
  rw [depT, if_neg (by simp [h0])]
  have hr : ∀ i, (ctGet l i).ring.length ≤ 10000 := fun i => by have := hf i; omega
  refine Loop.by (α := Nat) (fun i => [(0, .d (.one (ctS l))), (6, tint i), (5, .hdl 47 0)]) (fun i => [(47, .bld 0 i 1 33 (illG (depL l)))]) (fun i => i ≤ l.length) (fun i => l.length - i)
    (Adj.nil 5 47 1 33 (illG (depL l)) rfl rfl (Adj.at 0 (Nat.zero_le _) (.cons (.bld (fun _ h => absurd h (Nat.not_lt_zero _))) .nil) (.cons .same (.cons .same (.cons (.hdl rfl rfl) .nil))))) (fun i hi => ?_)
  refine Split.mk (fun h => ?_) (fun h => ?_)
  · have hlt : i < l.length := by have := of_decide_eq_true h; omega
    refine Loop.by (α := Nat) (fun k => [(0, .d (.one (ctS l))), (6, tint i), (5, .hdl 47 0), (8, tint k), (7, .hdl 43 0)]) (fun k => [(47, .bld 0 i 1 33 (illG (depL l))), (43, .bld 0 (depK l i k).length 1 3 (iG (depK l i k)))]) (fun k => k ≤ l.length) (fun k => l.length - k)
      (Adj.nil 7 43 1 3 (iG (depK l i 0)) rfl rfl (Adj.at 0 (Nat.zero_le _) (.cons (.bld (fun _ _ _ _ => SLe.refl _)) (.cons (.bld (fun _ h => absurd h (Nat.not_lt_zero _))) .nil)) (.cons .same (.cons .same (.cons (.hdl rfl rfl) (.cons .same (.cons (.hdl rfl rfl) .nil))))))) (fun k hk => ?_)
    refine Split.mk (fun h => ?_) (fun h => ?_)
    · have hkl : k < l.length := by have := of_decide_eq_true h; omega
      have hdk := depK_len l i k
      refine Split.mk (fun h1 => ?_) (fun h1 => ?_)
      · have g1 : k ≠ i := by
          have h1' : ((k : Int) != (i : Int)) = true := h1
          intro e; subst e; simp at h1'
        repeat' first | refine Split.t ?_ | refine Split.f ?_ | refine Split.isT h1 ?_ | refine Need.mk (by omega) ?_ | fail
        refine CallW.bool (rwithin47_det (ctGet l k) (ctGet l i) (hr k) (hr i) (okC_hole (chk_ok h0 hkl))) (fun b hb => ?_)
        repeat' first | refine Split.t ?_ | refine Split.f ?_ | refine Split.isT h1 ?_ | fail
        refine Need.mk (by kernel_rfl) ?_
        refine Split.mk (fun h2 => ?_) (fun h2 => ?_)
        · have e : depK l i (k + 1) = depK l i k ++ [(k : Int)] := by rw [depK, if_pos ⟨g1, by rw [← hb, h2]⟩]
          refine Need.mk (needApp (by omega) (by decide)) ?_
          refine Adj.back (x := k) (k + 1) (by omega) (by omega) (.cons (.bld (fun _ _ _ _ => SLe.refl _)) (.cons (.bldN (by rw [e, List.length_append]; rfl) (fun p hp j hj => ?_)) .nil)) (.cons .same (.cons .same (.cons (.hdl rfl rfl) (.cons (SlotLe.int ?_) (.cons (.hdl rfl rfl) .nil)))))
          · rw [e]; exact iG_at (depK l i k) _ k p j rfl hp hj
          · rw [hw _ (by omega) (by omega)]; omega
        · have e : depK l i (k + 1) = depK l i k := by rw [depK, if_neg (by rw [← hb, h2]; simp)]
          refine Adj.back (x := k) (k + 1) (by omega) (by omega) (.cons (.bld (fun _ _ _ _ => SLe.refl _)) (.cons (.bldN (by rw [e]) (fun p hp j hj => SLe.of_eq (by rw [e]))) .nil)) (.cons .same (.cons .same (.cons (.hdl rfl rfl) (.cons (SlotLe.int ?_) (.cons (.hdl rfl rfl) .nil)))))
          rw [hw _ (by omega) (by omega)]; omega
      · have g1 : k = i := by
          have h1' : ((k : Int) != (i : Int)) = false := h1
          have : (k : Int) = i := by simpa using h1'
          omega
        repeat' first | refine Split.t ?_ | refine Split.f ?_ | refine Split.isF h1 ?_ | fail
        refine Need.mk (by kernel_rfl) ?_
        repeat' first | refine Split.t ?_ | refine Split.f ?_ | refine Split.isF h1 ?_ | fail
        have e : depK l i (k + 1) = depK l i k := by rw [depK, if_neg (by simp [g1])]
        refine Adj.back (x := k) (k + 1) (by omega) (by omega) (.cons (.bld (fun _ _ _ _ => SLe.refl _)) (.cons (.bldN (by rw [e]) (fun p hp j hj => SLe.of_eq (by rw [e]))) .nil)) (.cons .same (.cons .same (.cons (.hdl rfl rfl) (.cons (SlotLe.int ?_) (.cons (.hdl rfl rfl) .nil)))))
        rw [hw _ (by omega) (by omega)]; omega
    · have he' : k = l.length := by have := of_decide_eq_false h; omega
      subst he'
      refine Cut.mk (Adj.freeze 7 43 _ _ 1 3 _ rfl rfl (Adj.keep [(0, .d (.one (ctS l))), (6, tint i), (5, .hdl 47 0), (7, .d (.one (ilS (depK l i l.length))))] [(47, .bld 0 i 1 33 (illG (depL l)))] (.cons (.bld (fun _ _ _ _ => SLe.refl _)) .nil) (.cons .same (.cons .same (.cons (.hdl rfl rfl) (.cons .same .nil)))) ?_))
      refine Need.mk (needApp (by omega) (by decide)) ?_
      refine Adj.back (x := i) (i + 1) (by omega) (by omega) (.cons (.bld (fun p hp j hj => ?_)) .nil) (.cons .same (.cons (SlotLe.int ?_) (.cons (.hdl rfl rfl) .nil)))
      · refine SLe.bif (fun _ => SLe.refl _) (fun hge => ?_)
        have ep : p = i := by omega
        subst ep
        obtain rfl : j = 0 := by omega
        rw [Nat.sub_self]
        refine SLe.of_eq ?_
        show ilS (depK l p l.length) = ilS ((depL l).getD p [])
        rw [depL_at l hlt]
      · rw [hw _ (by omega) (by omega)]; omega
  · have he' : i = l.length := by have := of_decide_eq_false h; omega
    subst he'
    refine Fin.tup (.cons (DLe.one (SLe.slN (by simp [depL]) (fun _ _ _ _ => SLe.refl _))) (.cons (DLe.refl _) .nil))
end Sg
end Go.Vm
