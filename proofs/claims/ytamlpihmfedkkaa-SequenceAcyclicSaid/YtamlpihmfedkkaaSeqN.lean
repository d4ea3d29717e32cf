/-
  Layer 47: SequenceAcyclic: boxes.
-/
import Derived.Test.YtamlpihmfedkkaaSeqM
namespace Go.Vm
set_option maxRecDepth 20000
set_option linter.unusedVariables false
set_option linter.unusedSimpArgs false
open Go Go.RowKit Go.Proofs
namespace Sg

def minX (X : Nat → Int) : Nat → Int
  | 0 => X 0
  | k + 1 => minI (minX X k) (X k)
def maxX (X : Nat → Int) : Nat → Int
  | 0 => X 0
  | k + 1 => maxI (maxX X k) (X k)
theorem minX_le (X : Nat → Int) : ∀ {n i : Nat}, i < n → minX X n ≤ X i
  | 0, _, h => absurd h (Nat.not_lt_zero _)
  | n + 1, i, h => by
    simp only [minX, minI]
    by_cases e : i = n
    · subst e; split <;> omega
    · have := minX_le X (n := n) (i := i) (by omega)
      split <;> omega
theorem le_maxX (X : Nat → Int) : ∀ {n i : Nat}, i < n → X i ≤ maxX X n
  | 0, _, h => absurd h (Nat.not_lt_zero _)
  | n + 1, i, h => by
    simp only [maxX, maxI]
    by_cases e : i = n
    · subst e; split <;> omega
    · have := le_maxX X (n := n) (i := i) (by omega)
      split <;> omega
theorem minX_at (X : Nat → Int) : ∀ n, ∃ i, (i < n ∨ i = 0) ∧ minX X n = X i
  | 0 => ⟨0, .inr rfl, rfl⟩
  | n + 1 => by
    obtain ⟨i, hi, e⟩ := minX_at X n
    simp only [minX, minI]
    split
    · exact ⟨n, .inl (by omega), rfl⟩
    · exact ⟨i, by omega, e⟩
theorem maxX_at (X : Nat → Int) : ∀ n, ∃ i, (i < n ∨ i = 0) ∧ maxX X n = X i
  | 0 => ⟨0, .inr rfl, rfl⟩
  | n + 1 => by
    obtain ⟨i, hi, e⟩ := maxX_at X n
    simp only [maxX, maxI]
    split
    · exact ⟨n, .inl (by omega), rfl⟩
    · exact ⟨i, by omega, e⟩
abbrev bx0 (l : List V2) : Int := minX (fun i => (gt l i).x) l.length
abbrev by0 (l : List V2) : Int := minX (fun i => (gt l i).y) l.length
abbrev bx1 (l : List V2) : Int := maxX (fun i => (gt l i).x) l.length
abbrev by1 (l : List V2) : Int := maxX (fun i => (gt l i).y) l.length
abbrev boxD (l : List V2) : DV := .agg (boxL (bx0 l) (by0 l) (bx1 l) (by1 l))
theorem rboxof_det (l : List V2) (hn : l.length ≤ 10000) (h0 : 0 < l.length) : Det Try.prog 78 [.one (vlS l)] (.tup [boxD l, .one (.v (.bool true))]) := by
  refine det_of_awp TTok mixed Try.func78 rfl rfl [] (Nat.le_of_ble_eq_true rfl) ?_
  refine Split.isF (by simp; intro q; rw [q] at h0; exact absurd h0 (Nat.lt_irrefl _)) ?_
  repeat' first | refine Need.mk (by kernel_rfl) ?_ | refine Need.mk (by omega) ?_ | fail
  refine Loop.by (α := Nat) (fun k => [(0, .d (.one (vlS l))), (2, .ptr 2 0), (4, .ptr 4 0), (5, tint k)]) (fun k => [(2, .box (boxL 0 0 0 0)), (4, .box (boxL (minX (fun i => (gt l i).x) k) (minX (fun i => (gt l i).y) k) (maxX (fun i => (gt l i).x) k) (maxX (fun i => (gt l i).y) k)))]) (fun k => k ≤ l.length) (fun k => l.length - k)
    (Adj.at 0 (Nat.zero_le _) (.cons (.box (LLe.of_eq rfl)) (.cons (.box (LLe.of_eq rfl)) .nil)) (.cons .same (.cons (.box rfl rfl) (.cons (.box rfl rfl) (.cons .same .nil))))) (fun k hk => ?_)
  refine Split.mk (fun h3 => ?_) (fun h3 => ?_)
  · have hlt : k < l.length := by have := of_decide_eq_true h3; omega
    repeat' first | refine Need.mk (by kernel_rfl) ?_ | refine Need.mk (by omega) ?_ | fail
    refine Adj.back (x := k) (k + 1) hlt (by omega) (.cons (.box (LLe.of_eq rfl)) (.cons (.box (LLe.of_eq ?_)) .nil)) (.cons .same (.cons (.box rfl rfl) (.cons (.box rfl rfl) (.cons (SlotLe.int ?_) .nil))))
    · rfl
    · rw [hw _ (by omega) (by omega)]; omega
  · have e : k = l.length := by have := of_decide_eq_false h3; omega
    subst e
    exact Fin.rfl'
theorem rbox_det (l : List V2) (hr : RingOk l) : Det Try.prog 24 [.one (vlS l)] (.tup [boxD l, .one (.v (.bool true))]) := by
  have h3 := hr.three
  have h4 := hr.forty
  refine det_of_awp TTok mixed Try.func24 rfl rfl [] (Nat.le_of_ble_eq_true rfl) ?_
  refine CallW.mk' ((rvalid_det8 l (by omega)).eq (by rw [ring_ok.2 hr])) ?_
  refine Split.f ?_
  refine CallW.mk' (rboxof_det l (by omega) (by omega)) ?_
  exact Fin.rfl'
theorem rinbox_det (a b c d : Int) (p : V2) : Det Try.prog 26 [.agg (boxL a b c d), vD p] (tbool (decide (a ≤ p.x) && decide (p.x ≤ c) && decide (b ≤ p.y) && decide (p.y ≤ d))) := by
  refine det_of_awp TTok mixed Try.func26 rfl rfl [] (Nat.le_of_ble_eq_true rfl) ?_
  refine Split.mk (fun h1 => ?_) (fun h1 => ?_)
  · repeat' first | refine Split.t ?_ | refine Split.f ?_ | refine Split.isT h1 ?_ | fail
    refine Split.mk (fun h2 => ?_) (fun h2 => ?_)
    · repeat' first | refine Split.t ?_ | refine Split.f ?_ | refine Split.isT h1 ?_ | refine Split.isT h2 ?_ | fail
      refine Split.mk (fun h3 => ?_) (fun h3 => ?_)
      · repeat' first | refine Split.t ?_ | refine Split.f ?_ | refine Split.isT h1 ?_ | refine Split.isT h2 ?_ | refine Split.isT h3 ?_ | fail
        refine Fin.bool ?_
        have e1 : decide (a ≤ p.x) = true := h1
        have e2 : decide (p.x ≤ c) = true := h2
        have e3 : decide (b ≤ p.y) = true := h3
        rw [e1, e2, e3]; rfl
      · repeat' first | refine Split.t ?_ | refine Split.f ?_ | refine Split.isT h1 ?_ | refine Split.isT h2 ?_ | refine Split.isF h3 ?_ | fail
        refine Fin.bool ?_
        have e3 : decide (b ≤ p.y) = false := h3
        rw [e3]; simp
    · repeat' first | refine Split.t ?_ | refine Split.f ?_ | refine Split.isT h1 ?_ | refine Split.isF h2 ?_ | fail
      refine Fin.bool ?_
      have e2 : decide (p.x ≤ c) = false := h2
      rw [e2]; simp
  · repeat' first | refine Split.t ?_ | refine Split.f ?_ | refine Split.isF h1 ?_ | fail
    refine Fin.bool ?_
    have e1 : decide (a ≤ p.x) = false := h1
    rw [e1]; simp
/-! ### a point that is not outside lies in the box -/
def shL (l : List V2) (v : V2) : List V2 := l.map fun p => addP p v
theorem sh_moved (l : List V2) (v : V2) : Moved l (shL l v) v := by
  refine ⟨by simp [shL], fun i hi => ?_⟩
  simp [shL, gt, List.getD, hi]
theorem sh_out {l : List V2} {v : V2} {i : Nat} (hi : ¬ i < l.length) : gt (shL l v) i = ⟨0, 0⟩ := by
  simp [shL, gt, List.getD, Nat.le_of_not_lt hi]
theorem out_box {l : List V2} {p : V2} (h : (∀ i, i < l.length → (gt l i).y < p.y) ∨ (∀ i, i < l.length → p.y < (gt l i).y) ∨ (∀ i, i < l.length → p.x < (gt l i).x) ∨ (∀ i, i < l.length → (gt l i).x < p.x)) : wherePl l (ptOf p) = 0 := by
  have key : ∀ v : V2, ((∀ i, (toV (ptOf (addP p v)) (gt (shL l v) i)).y < 0) ∨ (∀ i, 0 < (toV (ptOf (addP p v)) (gt (shL l v) i)).y) ∨ (∀ i, 0 < (toV (ptOf (addP p v)) (gt (shL l v) i)).x) ∨ (∀ i, (toV (ptOf (addP p v)) (gt (shL l v) i)).x < 0)) → wherePl l (ptOf p) = 0 := fun v h => by
    rw [← (sh_moved l v).where p]
    exact where_out (by simp [ptOf]) h
  have at_ : ∀ (v : V2) (i : Nat), i < l.length → gt (shL l v) i = addP (gt l i) v := fun v i hi => (sh_moved l v).at_ i hi
  rcases h with h | h | h | h
  · refine key ⟨0, 1 - p.y⟩ (.inr (.inl (fun i => ?_)))
    by_cases hi : i < l.length
    · rw [at_ _ i hi]; have := h i hi; simp only [toV, ptOf, addP]; omega
    · rw [sh_out hi]; simp only [toV, ptOf, addP]; omega
  · refine key ⟨0, -1 - p.y⟩ (.inl (fun i => ?_))
    by_cases hi : i < l.length
    · rw [at_ _ i hi]; have := h i hi; simp only [toV, ptOf, addP]; omega
    · rw [sh_out hi]; simp only [toV, ptOf, addP]; omega
  · refine key ⟨-1 - p.x, 0⟩ (.inr (.inr (.inr (fun i => ?_))))
    by_cases hi : i < l.length
    · rw [at_ _ i hi]; have := h i hi; simp only [toV, ptOf, addP]; omega
    · rw [sh_out hi]; simp only [toV, ptOf, addP]; omega
  · refine key ⟨1 - p.x, 0⟩ (.inr (.inr (.inl (fun i => ?_))))
    by_cases hi : i < l.length
    · rw [at_ _ i hi]; have := h i hi; simp only [toV, ptOf, addP]; omega
    · rw [sh_out hi]; simp only [toV, ptOf, addP]; omega
theorem in_box {l : List V2} {p : V2} (hr : RingOk l) (h : whereV l p ≠ 0) : bx0 l ≤ p.x ∧ p.x ≤ bx1 l ∧ by0 l ≤ p.y ∧ p.y ≤ by1 l := by
  rw [whereV_eq hr] at h
  refine ⟨?_, ?_, ?_, ?_⟩
  · refine Int.not_lt.1 (fun q => h (out_box (.inr (.inr (.inl (fun i hi => ?_))))))
    have t : minX (fun i => (gt l i).x) l.length ≤ (gt l i).x := minX_le (fun i => (gt l i).x) hi; have q' : p.x < minX (fun i => (gt l i).x) l.length := q; omega
  · refine Int.not_lt.1 (fun q => h (out_box (.inr (.inr (.inr (fun i hi => ?_))))))
    have t : (gt l i).x ≤ maxX (fun i => (gt l i).x) l.length := le_maxX (fun i => (gt l i).x) hi; have q' : maxX (fun i => (gt l i).x) l.length < p.x := q; omega
  · refine Int.not_lt.1 (fun q => h (out_box (.inr (.inl (fun i hi => ?_)))))
    have t : minX (fun i => (gt l i).y) l.length ≤ (gt l i).y := minX_le (fun i => (gt l i).y) hi; have q' : p.y < minX (fun i => (gt l i).y) l.length := q; omega
  · refine Int.not_lt.1 (fun q => h (out_box (.inl (fun i hi => ?_))))
    have t : (gt l i).y ≤ maxX (fun i => (gt l i).y) l.length := le_maxX (fun i => (gt l i).y) hi; have q' : maxX (fun i => (gt l i).y) l.length < p.y := q; omega
/-- The box of a contour that lies within another one lies in its box. -/
theorem inC_box {d c : Ct} (hd : 3 ≤ d.ring.length) (hr : RingOk c.ring) (h : inC d c = true) :
    (bx0 c.ring ≤ bx0 d.ring ∧ bx0 d.ring ≤ bx1 c.ring ∧ by0 c.ring ≤ by0 d.ring ∧ by0 d.ring ≤ by1 c.ring) ∧ (bx0 c.ring ≤ bx1 d.ring ∧ bx1 d.ring ≤ bx1 c.ring ∧ by0 c.ring ≤ by1 d.ring ∧ by1 d.ring ≤ by1 c.ring) := by
  simp only [inC, Bool.and_eq_true] at h
  have hin : ∀ i, i < d.ring.length → bx0 c.ring ≤ (gt d.ring i).x ∧ (gt d.ring i).x ≤ bx1 c.ring ∧ by0 c.ring ≤ (gt d.ring i).y ∧ (gt d.ring i).y ≤ by1 c.ring := fun i hi => by
    refine in_box hr ?_
    have := allB_iff.1 h.1 i hi
    simpa using this
  obtain ⟨i0, h0, e0⟩ := minX_at (fun i => (gt d.ring i).x) d.ring.length
  obtain ⟨i1, h1, e1⟩ := minX_at (fun i => (gt d.ring i).y) d.ring.length
  obtain ⟨i2, h2, e2⟩ := maxX_at (fun i => (gt d.ring i).x) d.ring.length
  obtain ⟨i3, h3, e3⟩ := maxX_at (fun i => (gt d.ring i).y) d.ring.length
  have k0 := hin i0 (by omega)
  have k1 := hin i1 (by omega)
  have k2 := hin i2 (by omega)
  have k3 := hin i3 (by omega)
  rw [show bx0 d.ring = (gt d.ring i0).x from e0, show by0 d.ring = (gt d.ring i1).y from e1, show bx1 d.ring = (gt d.ring i2).x from e2, show by1 d.ring = (gt d.ring i3).y from e3]
  exact ⟨⟨k0.1, k0.2.1, k1.2.2.1, k1.2.2.2⟩, ⟨k2.1, k2.2.1, k3.2.2.1, k3.2.2.2⟩⟩
/-- A contour's list is ascending. -/
theorem depK_asc (l : List Ct) (i : Nat) : ∀ (k q : Nat), q + 1 < (depK l i k).length → iGet (depK l i k) q < iGet (depK l i k) (q + 1)
  | 0, q, h => by simp [depK] at h
  | k + 1, q, h => by
    have ih := depK_asc l i k q
    simp only [depK] at h ⊢
    split
    · rename_i hc
      rw [if_pos hc] at h
      have hl : q + 1 < (depK l i k).length + 1 := by simpa using h
      by_cases e : q + 1 = (depK l i k).length
      · rw [e, iGet_last, iGet_app (by omega)]
        exact (depK_lt l i k _ (iGet_mem (by omega))).2
      · rw [iGet_app (by omega), iGet_app (by omega)]
        exact ih (by omega)
    · rename_i hc
      rw [if_neg hc] at h
      exact ih h
theorem ok_ring {l : List Ct} (h : chkI l = 0) {i : Nat} (hi : i < l.length) : RingOk (ctGet l i).ring := by
  have := chk_ok h hi
  simp only [okC, Bool.and_eq_true] at this
  exact ring_ok.1 this.1.1.1.1
theorem lacy_det (l : List Ct) (hl : l.length ≤ maxLen) (hr : ∀ i, (ctGet l i).ring.length ≤ maxLen) : Det Try.prog 5 [.one (ctS l)] (tbool true) := by
  refine det_of_awp TTok mixed Try.func5 rfl rfl [] (Nat.le_of_ble_eq_true rfl) ?_
  refine CallW.mk' awake47_det ?_
  refine Split.f ?_
  refine CallW.bool (few47_det l hl hr) (fun b hb => ?_)
  refine Split.mk (fun h => ?_) (fun h => ?_)
  · exact Fin.rfl'
  have hf0 : fewCB l = true := by rw [← hb]; simpa using h
  obtain ⟨h8, hf⟩ := fewCB_iff hf0
  refine CallW.mk' (own_det l (by omega)) ?_
  refine CallW.mk' (depends47_det l (by omega) hf) ?_
  by_cases h0 : chkI l = 0
  case neg =>
    rw [depT, if_pos h0]
    refine Split.isT (by simpa using h0) ?_
    exact Fin.rfl'
  rw [depT, if_neg (by simp [h0])]
  have hDL : ∃ DL, DL = depL l := ⟨_, rfl⟩
  obtain ⟨DL, hDL⟩ := hDL
  have hdl : DL.length = l.length := by rw [hDL]; simp [depL]
  have hdat : ∀ i, i < l.length → DL.getD i [] = depK l i l.length := fun i hi => by rw [hDL]; exact depL_at l hi
  rw [← hDL]
  refine Split.f ?_
  refine Split.isF (by simp [hdl]) ?_
  refine Loop.by (α := Nat) (fun i => [(0, .d (.one (ctS l))), (3, .d (.one (illS DL))), (5, tint i)]) (fun _ => []) (fun i => i ≤ l.length) (fun i => l.length - i)
    (Adj.at 0 (Nat.zero_le _) .nil (.cons .same (.cons .same (.cons .same .nil)))) (fun i hi => ?_)
  refine Split.mk (fun h => ?_) (fun h => ?_)
  · have hil : i < l.length := by have := of_decide_eq_true h; omega
    refine Need.mk (by omega) ?_
    refine CallW.mk' (rbox_det (ctGet l i).ring (ok_ring h0 hil)) ?_
    have hD : ∃ D, D = DL.getD i [] := ⟨_, rfl⟩
    obtain ⟨D, hD⟩ := hD
    have hDk : D = depK l i l.length := hD.trans (hdat i hil)
    have hlen := depK_len l i l.length
    rw [← hDk] at hlen
    refine Loop.by (α := Nat) (fun k => [(0, .d (.one (ctS l))), (3, .d (.one (illS DL))), (5, tint i), (6, .ptr 6 0), (8, tint k)]) (fun _ => [(6, .box (boxL (bx0 (ctGet l i).ring) (by0 (ctGet l i).ring) (bx1 (ctGet l i).ring) (by1 (ctGet l i).ring)))]) (fun k => k ≤ D.length) (fun k => D.length - k)
      (Adj.at 0 (Nat.zero_le _) (.cons (.box (LLe.of_eq rfl)) .nil) (.cons .same (.cons .same (.cons .same (.cons (.box rfl rfl) (.cons .same .nil)))))) (fun k hk => ?_)
    refine Need.mk (by omega) ?_
    refine Split.mk (fun h1 => ?_) (fun h1 => ?_)
    · have hkl : k < D.length := by
        have h4' : (k : Int) < (DL.getD i []).length := of_decide_eq_true h1
        rw [← hD] at h4'; omega
      have hbn : (k : Int) < (DL.getD i []).length := by rw [← hD]; omega
      obtain ⟨j, hj, hjl, hne, hin⟩ := mem_depK.1 (show iGet D k ∈ depK l i l.length by rw [← hDk]; exact iGet_mem hkl)
      have hj' : iGet (DL.getD i []) k = j := by rw [← hD]; exact hj
      have hn1 : iGet (DL.getD i []) k < 0 ↔ False := by rw [hj']; exact ⟨fun q => by omega, False.elim⟩
      refine Need.mk (by omega) ?_
      refine Need.mk ⟨by omega, hbn⟩ ?_
      have hok := ok_ring h0 hjl
      have hoki := ok_ring h0 hil
      have g1 : decide (iGet (DL.getD i []) k < 0) = false := decide_eq_false (by rw [hj']; omega)
      have g2 : decide (iGet (DL.getD i []) k ≥ l.length) = false := decide_eq_false (by rw [hj']; omega)
      have g3 : (iGet (DL.getD i []) k == (i : Int)) = false := by
        rw [hj']; simp only [beq_eq_false_iff_ne]; omega
      have jt : (iGet (DL.getD i []) k).toNat = j := by rw [hj']; rfl
      have hinB := inC_box hok.three hoki hin
      have hholej := okC_hole (chk_ok h0 hjl)
      simp only [inC, Bool.and_eq_true, Bool.or_eq_true, decide_eq_true_eq] at hin
      obtain ⟨hin1, hin2⟩ := hin
      obtain ⟨⟨p1, p2, p3, p4⟩, ⟨p5, p6, p7, p8⟩⟩ := hinB
      have fin : ∀ (T : Bool), T = true → T = true := fun _ h => h
      repeat' first | refine Split.isF g1 ?_ | refine Split.isF g2 ?_ | refine Split.isF g3 ?_ | refine Split.t ?_ | refine Split.f ?_ | fail
      refine Split.mk (fun h2 => ?pa) (fun h2 => ?pb)
      case' pa =>
        have hk0 : 0 < k := by have : (0 : Int) < k := of_decide_eq_true h2; omega
        have e1 : IntKind.i64.wrap ((k : Int) - 1) = ((k - 1 : Nat) : Int) := by rw [wid (by omega) (by omega)]; omega
        repeat' first | refine Split.isF g1 ?_ | refine Split.isF g2 ?_ | refine Split.isF g3 ?_ | refine Split.isT h2 ?_ | refine Split.t ?_ | refine Split.f ?_ | fail
        refine Need.mk ⟨by omega, by omega⟩ ?_
        repeat' first | refine Split.isF g1 ?_ | refine Split.isF g2 ?_ | refine Split.isF g3 ?_ | refine Split.isT h2 ?_ | refine Split.t ?_ | refine Split.f ?_ | fail
        refine Need.mk (by rw [e1]; exact ⟨by omega, by show ((k - 1 : Nat) : Int) < ((DL.getD i []).length : Int); omega⟩) ?_
        have hasc := depK_asc l i l.length (k - 1) (by rw [← hDk]; omega)
        rw [← hDk, show k - 1 + 1 = k by omega, hj] at hasc
        have g4 : decide (iGet (DL.getD i []) (IntKind.i64.wrap ((k : Int) - 1)).toNat ≥ iGet (DL.getD i []) k) = false := decide_eq_false (by
          rw [e1, hj', ← hD]
          show ¬ iGet D (k - 1) ≥ (j : Int)
          omega)
        repeat' first | refine Split.isF g1 ?_ | refine Split.isF g2 ?_ | refine Split.isF g3 ?_ | refine Split.isF g4 ?_ | refine Split.isT h2 ?_ | refine Split.t ?_ | refine Split.f ?_ | fail
      case' pb =>
        repeat' first | refine Split.isF g1 ?_ | refine Split.isF g2 ?_ | refine Split.isF g3 ?_ | refine Split.isF h2 ?_ | refine Split.t ?_ | refine Split.f ?_ | fail
      all_goals
        clear h1 h2 g1 g2 g3 fin
        have hjn : 0 ≤ iGet (DL.getD i []) k ∧ iGet (DL.getD i []) k < l.length := by rw [hj']; omega
        refine Need.mk hjn ?_
        refine CallW.le (rbox_det (ctGet l j).ring hok) (.cons (DLe.of_eq (by show DV.one (vlS (ctGet l (iGet (DL.getD i []) k).toNat).ring) = _; rw [jt])) .nil) ?_
        refine Need.mk hjn ?_
        refine CallW.int (rarea2_det (ctGet l (iGet (DL.getD i []) k).toNat).ring (by rw [jt]; have := hf j; omega)) (fun x hx => ?_)
        refine Need.mk (by omega) ?_
        refine CallW.int (rarea2_det (ctGet l i).ring (by have := hf i; omega)) (fun y hy => ?_)
        rw [jt] at hx
        rw [← hx, ← hy] at hin2
        refine Need.mk (by kernel_rfl) ?_
        have gx : decide (x > y) = false := decide_eq_false (by omega)
        repeat' first | refine Split.isF gx ?_ | refine Split.t ?_ | refine Split.f ?_ | fail
        have hB1 : (decide (bx0 (ctGet l i).ring ≤ bx0 (ctGet l j).ring) && decide (bx0 (ctGet l j).ring ≤ bx1 (ctGet l i).ring) && decide (by0 (ctGet l i).ring ≤ by0 (ctGet l j).ring) && decide (by0 (ctGet l j).ring ≤ by1 (ctGet l i).ring)) = true := by
          rw [decide_eq_true p1, decide_eq_true p2, decide_eq_true p3, decide_eq_true p4]; rfl
        have hB2 : (decide (bx0 (ctGet l i).ring ≤ bx1 (ctGet l j).ring) && decide (bx1 (ctGet l j).ring ≤ bx1 (ctGet l i).ring) && decide (by0 (ctGet l i).ring ≤ by1 (ctGet l j).ring) && decide (by1 (ctGet l j).ring ≤ by1 (ctGet l i).ring)) = true := by
          rw [decide_eq_true p5, decide_eq_true p6, decide_eq_true p7, decide_eq_true p8]; rfl
        refine Split.mk (fun h2 => ?_) (fun h2 => ?_)
        · have hxy : x = y := by simpa using h2
          have q1 : (ctGet l j).hole < 0 ∧ 0 ≤ (ctGet l i).hole := by omega
          have g5 : ((ctGet l (iGet (DL.getD i []) k).toNat).hole != -1) = false := by
            rw [jt]; simp only [bne_eq_false_iff_eq]; omega
          have g6 : decide ((ctGet l i).hole < 0) = false := decide_eq_false (by omega)
          repeat' first | refine Split.isT h2 ?_ | refine Split.isF gx ?_ | refine Split.t ?_ | refine Split.f ?_ | refine Need.mk hjn ?_ | fail
          repeat' first | refine Split.isT h2 ?_ | refine Split.isF gx ?_ | refine Split.isF g5 ?_ | refine Split.t ?_ | refine Split.f ?_ | refine Need.mk hjn ?_ | fail
          refine Need.mk (by omega) ?_
          repeat' first | refine Split.isT h2 ?_ | refine Split.isF gx ?_ | refine Split.isF g5 ?_ | refine Split.isF g6 ?_ | refine Split.t ?_ | refine Split.f ?_ | fail
          refine CallW.mk' ((rinbox_det _ _ _ _ ⟨bx0 (ctGet l j).ring, by0 (ctGet l j).ring⟩).eq (by rw [hB1])) ?_
          repeat' first | refine Split.isT h2 ?_ | refine Split.isF gx ?_ | refine Split.isF g5 ?_ | refine Split.isF g6 ?_ | refine Split.t ?_ | refine Split.f ?_ | fail
          refine CallW.mk' ((rinbox_det _ _ _ _ ⟨bx1 (ctGet l j).ring, by1 (ctGet l j).ring⟩).eq (by rw [hB2])) ?_
          repeat' first | refine Split.isT h2 ?_ | refine Split.isF gx ?_ | refine Split.isF g5 ?_ | refine Split.isF g6 ?_ | refine Split.t ?_ | refine Split.f ?_ | fail
          refine Adj.back (x := k) (k + 1) (by omega) (by omega) (.cons (.box (LLe.of_eq rfl)) .nil) (.cons .same (.cons .same (.cons .same (.cons (.box rfl rfl) (.cons (SlotLe.int ?_) .nil)))))
          rw [hw _ (by omega) (by omega)]; omega
        · repeat' first | refine Split.isF h2 ?_ | refine Split.isF gx ?_ | refine Split.t ?_ | refine Split.f ?_ | fail
          refine CallW.mk' ((rinbox_det _ _ _ _ ⟨bx0 (ctGet l j).ring, by0 (ctGet l j).ring⟩).eq (by rw [hB1])) ?_
          repeat' first | refine Split.isF h2 ?_ | refine Split.isF gx ?_ | refine Split.t ?_ | refine Split.f ?_ | fail
          refine CallW.mk' ((rinbox_det _ _ _ _ ⟨bx1 (ctGet l j).ring, by1 (ctGet l j).ring⟩).eq (by rw [hB2])) ?_
          repeat' first | refine Split.isF h2 ?_ | refine Split.isF gx ?_ | refine Split.t ?_ | refine Split.f ?_ | fail
          refine Adj.back (x := k) (k + 1) (by omega) (by omega) (.cons (.box (LLe.of_eq rfl)) .nil) (.cons .same (.cons .same (.cons .same (.cons (.box rfl rfl) (.cons (SlotLe.int ?_) .nil)))))
          rw [hw _ (by omega) (by omega)]; omega
    · have hkl : k = D.length := by
        have h4' : ¬ (k : Int) < (DL.getD i []).length := of_decide_eq_false h1
        rw [← hD] at h4'; omega
      refine Adj.back (x := i) (i + 1) (by omega) (by omega) .nil (.cons .same (.cons .same (.cons (SlotLe.int ?_) .nil)))
      rw [hw _ (by omega) (by omega)]; omega
  · exact Fin.rfl'
theorem lacy_all : ∀ dvs, TypL Try.prog Try.f5.params.toList dvs → Det Try.prog 5 dvs (tbool true) := by
  intro dvs h
  obtain ⟨v0, r0, rfl, h0, q0⟩ := TypL.inv_cons (t := 22) (ts := []) h
  obtain rfl := TypL.inv_nil q0
  obtain ⟨l, hl, hr, hle⟩ := cts_of h0
  exact Det.le (.cons hle .nil) (lacy_det l hl hr)
end Sg
end Go.Vm
