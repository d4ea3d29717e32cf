/-
  Layer 26: no order of the parts is shorter than the best one; the contract of Best.
-/
import Derived.Test.YtlckiecpelchlaaBarQ
namespace Go.Vm
set_option maxRecDepth 20000
set_option linter.unusedVariables false
set_option linter.unusedSimpArgs false
open Go Go.RowKit Go.Proofs

theorem visF_mono (n : Nat) (R : Nat → BP) (kerf : Int) : ∀ (k : Nat) (L b : List Pk), ∃ b', visF n R kerf k L (some b) = some b' ∧ lenL R kerf b' ≤ lenL R kerf b
  | 0, L, b => by
    simp only [visF, leafF]
    split
    · rename_i h; exact ⟨L, rfl, Int.le_of_lt h⟩
    · exact ⟨b, rfl, Int.le_refl _⟩
  | k + 1, L, b => by
    rw [visF_succ]
    have key : ∀ q, ∃ b', visK n R kerf k L (some b) q = some b' ∧ lenL R kerf b' ≤ lenL R kerf b := by
      intro q
      induction q with
      | zero => exact ⟨b, rfl, Int.le_refl _⟩
      | succ q ih =>
        obtain ⟨c, hc, hle⟩ := ih
        rw [visK_succ, hc]
        split
        · exact ⟨c, rfl, hle⟩
        · obtain ⟨d, hd, hd2⟩ := visF_mono n R kerf k (L ++ [⟨q, false⟩]) c
          rw [hd]
          obtain ⟨e, he, he2⟩ := visF_mono n R kerf k (L ++ [⟨q, true⟩]) d
          exact ⟨e, he, by omega⟩
    exact key n
theorem visK_mono (n : Nat) (R : Nat → BP) (kerf : Int) (k : Nat) (L : List Pk) (st : Option (List Pk)) (q0 : Nat) (b : List Pk) (hb : visK n R kerf k L st q0 = some b) : ∀ d, ∃ b', visK n R kerf k L st (q0 + d) = some b' ∧ lenL R kerf b' ≤ lenL R kerf b
  | 0 => ⟨b, hb, Int.le_refl _⟩
  | d + 1 => by
    obtain ⟨c, hc, hle⟩ := visK_mono n R kerf k L st q0 b hb d
    rw [← Nat.add_assoc, visK_succ, hc]
    split
    · exact ⟨c, rfl, hle⟩
    · obtain ⟨d, hd, hd2⟩ := visF_mono n R kerf k (L ++ [⟨q0 + d, false⟩]) c
      rw [hd]
      obtain ⟨e, he, he2⟩ := visF_mono n R kerf k (L ++ [⟨q0 + _, true⟩]) d
      exact ⟨e, he, by omega⟩
theorem visF_le (n : Nat) (R : Nat → BP) (kerf : Int) : ∀ (M L : List Pk) (st : Option (List Pk)), M.Pairwise (fun a b => a.i ≠ b.i) → (∀ p ∈ M, p.i < n ∧ hasL L p.i = false) → ∃ b, visF n R kerf M.length L st = some b ∧ lenL R kerf b ≤ lenL R kerf (L ++ M)
  | [], L, st, _, _ => by
    rw [List.append_nil, List.length_nil]
    cases st with
    | none => exact ⟨L, rfl, Int.le_refl _⟩
    | some b =>
      simp only [visF, leafF]
      split
      · exact ⟨L, rfl, Int.le_refl _⟩
      · exact ⟨b, rfl, by omega⟩
  | p :: M, L, st, hp, hM => by
    rw [List.length_cons, visF_succ]
    obtain ⟨hp1, hp2⟩ := List.pairwise_cons.1 hp
    obtain ⟨h1, h2⟩ := hM p (by simp)
    have hM' : ∀ p' ∈ M, p'.i < n ∧ hasL (L ++ [p]) p'.i = false := fun p' hp' => by
      obtain ⟨a, b⟩ := hM p' (by simp [hp'])
      refine ⟨a, ?_⟩
      rw [hasL_snoc, b, beq_f (hp1 p' hp')]; rfl
    have key : ∃ b, visK n R kerf M.length L st (p.i + 1) = some b ∧ lenL R kerf b ≤ lenL R kerf (L ++ p :: M) := by
      rw [visK_succ, if_neg (by rw [h2]; simp)]
      have e : L ++ p :: M = L ++ [p] ++ M := by simp
      obtain ⟨i, t⟩ := p
      cases t with
      | true =>
        rw [e]
        exact visF_le n R kerf M _ _ hp2 hM'
      | false =>
        obtain ⟨b, hb, hb2⟩ := visF_le n R kerf M (L ++ [⟨i, false⟩]) (visK n R kerf M.length L st i) hp2 hM'
        show ∃ b', visF n R kerf M.length (L ++ [⟨i, true⟩]) (visF n R kerf M.length (L ++ [⟨i, false⟩]) (visK n R kerf M.length L st i)) = some b' ∧ _
        rw [hb, e]
        obtain ⟨c, hc, hc2⟩ := visF_mono n R kerf M.length (L ++ [⟨i, true⟩]) b
        exact ⟨c, hc, by omega⟩
    obtain ⟨b, hb, hb2⟩ := key
    obtain ⟨c, hc, hc2⟩ := visK_mono n R kerf M.length L st (p.i + 1) b hb (n - (p.i + 1))
    rw [show p.i + 1 + (n - (p.i + 1)) = n by omega] at hc
    exact ⟨c, hc, by omega⟩
def bestP (n : Nat) (R : Nat → BP) (kerf : Int) : List Pk := (visF n R kerf n [] none).getD []
theorem bestP_is (n : Nat) (R : Nat → BP) (kerf : Int) : visF n R kerf n [] none = some (bestP n R kerf) := by
  obtain ⟨b, hb, _⟩ := visF_le n R kerf ((List.range n).map fun i => ⟨i, false⟩) [] none (by
    rw [List.pairwise_map]
    exact List.nodup_range) (fun p hp => by
    obtain ⟨i, hi, rfl⟩ := List.mem_map.1 hp
    exact ⟨List.mem_range.1 hi, rfl⟩)
  rw [List.length_map, List.length_range] at hb
  rw [bestP, hb]; rfl
theorem bestP_le (n : Nat) (R : Nat → BP) (kerf : Int) (M : List Pk) (hm : M.length = n) (h1 : M.Pairwise (fun a b => a.i ≠ b.i)) (h2 : PkOk n M) : lenL R kerf (bestP n R kerf) ≤ lenL R kerf M := by
  obtain ⟨b, hb, hle⟩ := visF_le n R kerf M [] none h1 (fun p hp => ⟨h2 p hp, rfl⟩)
  rw [hm, bestP_is] at hb
  rw [Option.some.inj hb]
  exact hle
theorem bestP_ok (n : Nat) (R : Nat → BP) (kerf : Int) : (bestP n R kerf).length = n ∧ PkOk n (bestP n R kerf) :=
  visF_ok n R kerf n [] none (fun p hp => by simp at hp) (by simp) (fun b hb => by cases hb) _ (bestP_is n R kerf)

abbrev best3 (n : Nat) (R : Nat → BP) (kerf : Int) : TV := .tup [.one (pS (if errI n R kerf = 0 then bestP n R kerf else [])), .one (i64 (if errI n R kerf = 0 then lenL R kerf (bestP n R kerf) else 0)), .one (i64 (errI n R kerf))]
theorem errI_01 {n : Nat} (R : Nat → BP) (kerf : Int) (hn : n ≤ 4) : errI n R kerf = 0 ∨ errI n R kerf = 1 := by
  unfold errI
  split
  · exact .inr rfl
  · rw [if_neg (by omega)]; exact .inl rfl
theorem bbest_det (n : Nat) (R : Nat → BP) (kerf : Int) (hn : n ≤ 4) : Det Try.prog 13 [.one (rowS n R), .one (i64 kerf)] (best3 n R kerf) := by
  refine det_of_awp TTok mixed Try.func13 rfl rfl [12, 39 + 1000000, 39 + 2000000] (Nat.le_of_ble_eq_true rfl) ?_
  refine CallW.int (check_det n R kerf (by simp only [maxLen]; omega)) (fun e he => ?_)
  refine Split.mk (fun c1 => ?_) (fun c1 => ?_)
  · have c1' : e = 1 := eq_of_beq c1
    rw [c1'] at he ⊢
    unfold best3
    rw [← he]
    exact Fin.tup (.cons (DLe.one (SLe.nil _ _)) (.cons (DLe.refl _) (.cons (DLe.refl _) .nil)))
  have c1' : ¬ e = 1 := ne_of_beq_false c1
  have e0 : errI n R kerf = 0 := by have := errI_01 R kerf hn; omega
  have V := VR.of_err e0
  refine Split.isF (decide_eq_false (by omega)) ?_
  refine Need.mk ⟨Int.natCast_nonneg _, Int.le_refl _, (show ((1 : Nat) : Int) * (n : Int) ≤ 281474976710656 by omega), (show (n : Int) ≤ 9223372036854775807 by omega)⟩ ?_
  refine Cut.mk (Adj.nilCell 9 0 500 2 72 (pG []) _ _ rfl rfl rfl rfl (Adj.id ?_))
  refine CallM.mk' [9, 2, 10, 8, 11, 3, 12, 500, 26] (visit_detM V n [] none (fun p hp => by simp at hp) (by simp) (fun b hb => by cases hb)) ⟨(.cons (.obj (.cons (.hdl rfl rfl) .nil)) (.cons (.box (LLe.refl _)) (.cons (.box (LLe.of_eq rfl)) (.cons (.boxObj (.cons (.s (SLe.nil _ _)) .nil)) (.cons (.obj (.cons (.hdl rfl rfl) .nil)) (.cons (.box (LLe.refl _)) (.cons (.obj (.cons (.clo (.cons (.ptr rfl) (.cons (.ptr rfl) (.cons (.ptr rfl) (.cons (.ptr rfl) (.cons (.ptr rfl) (.cons (.ptr rfl) (.cons (.ptr rfl) .nil)))))))) .nil)) (.cons (.bld (fun i hi => absurd hi (Nat.not_lt_zero i))) (.cons (.bld (fun i _ j hj => ?_)) .nil))))))))), (.cons (.d (DLe.of_eq rfl)) (.cons (.d (DLe.of_eq rfl)) (.cons (.ptr rfl) (.cons (.ptr rfl) (.cons (.ptr rfl) (.cons (.ptr rfl) (.cons (.ptr rfl) (.cons (.ptr rfl) (.cons (.ptr rfl) .nil))))))))), rfl, rfl, fun h => absurd rfl h⟩ ?_
  · match j, hj with
    | 0, _ => exact SLe.of_eq rfl
  rw [bestP_is]
  refine Need.mk (by kernel_rfl) ?_
  unfold best3
  rw [if_pos e0, if_pos e0, e0]
  exact Fin.tup (.cons (DLe.refl _) (.cons (DLe.refl _) (.cons (DLe.refl _) .nil)))
end Go.Vm
