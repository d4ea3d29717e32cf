/-
  Layer 8: a path that meets no edge: both ends lie at the same place. The contract of RingPath.
-/
import Derived.Test.YtgmlblmkcbcgaaaRingR
namespace Go.Vm
set_option maxRecDepth 20000
set_option linter.unusedVariables false
set_option linter.unusedSimpArgs false
open Go Go.RowKit Go.Proofs
namespace Sg

theorem on_onL {s : Seg} {p : V2} (hs : validS s = true) : onB s p = true ↔ OnL s.a s.b p := by
  rw [on_iff hs, inBox_iff]
  exact ⟨fun ⟨x, y⟩ => ⟨y, x⟩, fun ⟨x, y⟩ => ⟨y, x⟩⟩
theorem onP_onL {a b p : V2} : onP ⟨a, b⟩ (ptOf p) = true ↔ OnL a b p := by
  have hs : sdP ⟨a, b⟩ (ptOf p) = trP a b p := by
    unfold sdP trP
    congr 1
    simp only [toV, ptOf, subP]
    congr 1 <;> omega
  unfold onP OnL
  rw [hs]
  simp only [Bool.and_eq_true, decide_eq_true_eq, minI_le, le_maxI]
  simp only [toV, ptOf]
  omega
theorem cross_iff {e s : Seg} (he : validS e = true) (hs : validS s = true) : crossB e s = true ↔ ((0 < trP s.a s.b e.a ∧ trP s.a s.b e.b < 0) ∨ (trP s.a s.b e.a < 0 ∧ 0 < trP s.a s.b e.b)) ∧ ((0 < trP e.a e.b s.a ∧ trP e.a e.b s.b < 0) ∨ (trP e.a e.b s.a < 0 ∧ 0 < trP e.a e.b s.b)) := by
  unfold crossB
  rw [side_eq he (valid_in hs).1, side_eq he (valid_in hs).2, side_eq hs (valid_in he).1, side_eq hs (valid_in he).2]
  simp only [Bool.and_eq_true, decide_eq_true_eq, sgn_mul]
  show ((trP e.a e.b s.a < 0 ∧ 0 < trP e.a e.b s.b) ∨ (0 < trP e.a e.b s.a ∧ trP e.a e.b s.b < 0)) ∧ ((trP s.a s.b e.a < 0 ∧ 0 < trP s.a s.b e.b) ∨ (0 < trP s.a s.b e.a ∧ trP s.a s.b e.b < 0)) ↔ _
  omega
theorem nm_meet {e s : Seg} (he : validS e = true) (hs : validS s = true) : rmeetI e s = 0 ↔ NM e.a e.b s.a s.b := by
  constructor
  · intro h
    have h' : rmeetI s e = 0 := by rw [swap_meet]; exact h
    refine ⟨fun k => end_meet he hs (.inl rfl) ((on_onL hs).2 k) h, fun k => end_meet he hs (.inr rfl) ((on_onL hs).2 k) h, fun k => end_meet hs he (.inl rfl) ((on_onL he).2 k) h', fun k => end_meet hs he (.inr rfl) ((on_onL he).2 k) h', fun k => ?_⟩
    have hc := (cross_iff he hs).2 k
    unfold rmeetI at h
    rw [if_neg (by rw [he, hs]; simp), if_pos hc] at h
    split at h
    · cases h
    · split at h <;> cases h
  · intro h
    have hz : commonL e s = [] := by
      refine List.eq_nil_iff_forall_not_mem.2 (fun p hp => ?_)
      unfold commonL at hp
      rw [(sort_facts _).2, List.mem_filter] at hp
      obtain ⟨h1, h2⟩ := hp
      rw [bothB, Bool.and_eq_true, on_onL he, on_onL hs] at h2
      simp only [endsL, List.mem_cons, List.not_mem_nil, or_false] at h1
      rcases h1 with rfl | rfl | rfl | rfl
      · exact h.a_ h2.2
      · exact h.b_ h2.2
      · exact h.p_ h2.1
      · exact h.q_ h2.1
    have hc : ¬ crossB e s = true := fun k => h.cr ((cross_iff he hs).1 k)
    unfold rmeetI
    rw [if_neg (by rw [he, hs]; simp), hz, if_neg (by simp), if_neg (by simp), if_neg hc]

/-! ### the parity along a path -/
theorem crs_up {a b p : V2} (h : a.y ≤ b.y) : crsP ⟨a, b⟩ (ptOf p) = decide (a.y ≤ p.y ∧ p.y < b.y ∧ 0 < trP a b p) := by
  have hs : sdP ⟨a, b⟩ (ptOf p) = trP a b p := by
    unfold sdP trP
    congr 1
    simp only [toV, ptOf, subP]
    congr 1 <;> omega
  show ((!(decide (0 ≤ p.y - a.y * 1) == decide (0 ≤ p.y - b.y * 1))) && (decide (0 ≤ p.y - a.y * 1) == decide (0 < sdP ⟨a, b⟩ (ptOf p)))) = _
  rw [hs]
  generalize c1 : decide (0 ≤ p.y - a.y * 1) = x1
  generalize c2 : decide (0 ≤ p.y - b.y * 1) = x2
  generalize c3 : decide (0 < trP a b p) = x3
  generalize c4 : decide (a.y ≤ p.y ∧ p.y < b.y ∧ 0 < trP a b p) = x4
  cases x1 <;> cases x2 <;> cases x3 <;> cases x4 <;> simp only [decide_eq_true_eq, decide_eq_false_iff_not] at c1 c2 c3 c4 <;> first | rfl | (exfalso; omega)
theorem crs_rev {a b p : V2} (h : ¬ OnL a b p) : crsP ⟨b, a⟩ (ptOf p) = crsP ⟨a, b⟩ (ptOf p) := by
  have hs : ∀ a b, sdP ⟨a, b⟩ (ptOf p) = trP a b p := fun a b => by
    unfold sdP trP
    congr 1
    simp only [toV, ptOf, subP]
    congr 1 <;> omega
  have h1 : ¬ (trP a b p = 0 ∧ a.y < b.y ∧ a.y ≤ p.y ∧ p.y ≤ b.y) := fun ⟨k0, k1, k2, k3⟩ => h (on_level k0 k1 k2 k3)
  have h2 : ¬ (trP b a p = 0 ∧ b.y < a.y ∧ b.y ≤ p.y ∧ p.y ≤ a.y) := fun ⟨k0, k1, k2, k3⟩ => h (onL_swap.1 (on_level k0 k1 k2 k3))
  show ((!(decide (0 ≤ p.y - b.y * 1) == decide (0 ≤ p.y - a.y * 1))) && (decide (0 ≤ p.y - b.y * 1) == decide (0 < sdP ⟨b, a⟩ (ptOf p)))) = ((!(decide (0 ≤ p.y - a.y * 1) == decide (0 ≤ p.y - b.y * 1))) && (decide (0 ≤ p.y - a.y * 1) == decide (0 < sdP ⟨a, b⟩ (ptOf p))))
  rw [hs, hs]
  rw [tr_swap a b p] at h2 ⊢
  generalize c1 : decide (0 ≤ p.y - a.y * 1) = x1
  generalize c2 : decide (0 ≤ p.y - b.y * 1) = x2
  generalize c3 : decide (0 < trP a b p) = x3
  generalize c4 : decide (0 < -trP a b p) = x4
  cases x1 <;> cases x2 <;> cases x3 <;> cases x4 <;> simp only [decide_eq_true_eq, decide_eq_false_iff_not] at c1 c2 c3 c4 <;> first | rfl | (exfalso; omega)
/-- To the right of the path, at its levels. -/
def sideF (p q v : V2) : Bool := decide (p.y < v.y ∧ v.y ≤ q.y ∧ trP p q v < 0)
theorem path_step {a b p q : V2} (h : NM a b p q) (hl : p.y ≤ q.y) : xor (crsP ⟨a, b⟩ (ptOf p)) (crsP ⟨a, b⟩ (ptOf q)) = xor (sideF p q a) (sideF p q b) := by
  rcases Int.le_total a.y b.y with hu | hu
  · rw [crs_up hu, crs_up hu]
    exact (h.q4 hu hl).step
  · rw [← crs_rev h.p_, ← crs_rev h.q_, crs_up hu, crs_up hu, Bool.xor_comm (sideF p q a)]
    exact (h.rev.q4 hu hl).step
theorem parN_xor (f g : Nat → Bool) : ∀ n, parN n (fun i => xor (f i) (g i)) = xor (parN n f) (parN n g)
  | 0 => rfl
  | n + 1 => by
    simp only [parN]
    rw [parN_xor f g n]
    generalize parN n f = x1
    generalize parN n g = x2
    generalize f n = x3
    generalize g n = x4
    revert x1 x2 x3 x4
    decide
theorem path_par {l : List V2} {p q : V2} (h0 : 0 < l.length) (h : ∀ i, i < l.length → NM (gt l i) (nxt l i) p q) : parN l.length (fun i => crsP (edge l i) (ptOf p)) = parN l.length (fun i => crsP (edge l i) (ptOf q)) := by
  have key : ∀ p q : V2, p.y ≤ q.y → (∀ i, i < l.length → NM (gt l i) (nxt l i) p q) → parN l.length (fun i => crsP (edge l i) (ptOf p)) = parN l.length (fun i => crsP (edge l i) (ptOf q)) := by
    intro p q hl h
    have e1 : parN l.length (fun i => xor (crsP (edge l i) (ptOf p)) (crsP (edge l i) (ptOf q))) = parN l.length (fun i => xor (sideF p q (gt l i)) (sideF p q (gt l ((i + 1) % l.length)))) := parN_congr (fun i hi => path_step (h i hi) hl)
    rw [parN_xor, parN_step (fun i => sideF p q (gt l i)) h0] at e1
    revert e1
    generalize parN l.length (fun i => crsP (edge l i) (ptOf p)) = x1
    generalize parN l.length (fun i => crsP (edge l i) (ptOf q)) = x2
    cases x1 <;> cases x2 <;> decide
  rcases Int.le_total p.y q.y with hl | hl
  · exact key p q hl h
  · exact (key q p hl (fun i hi => (h i hi).swap)).symm
theorem off_any {l : List V2} {p : P3} (h : ∀ i, i < l.length → onP (edge l i) p = false) : onAny l p = false := by
  unfold onAny
  rw [allB_iff.2 (fun i hi => by rw [h i hi]; rfl)]
  rfl
theorem path_where {l : List V2} {p q : V2} (hr : RingOk l) (h : ∀ i, i < l.length → NM (gt l i) (nxt l i) p q) : whereV l p = whereV l q ∧ whereV l p ≠ 1 := by
  have hf : ∀ (v : V2), (∀ i, i < l.length → ¬ OnL (gt l i) (nxt l i) v) → onAny l (ptOf v) = false := fun v hv => off_any (fun i hi => by
    cases hc : onP (edge l i) (ptOf v) with
    | false => rfl
    | true => exact absurd (onP_onL.1 hc) (hv i hi))
  rw [whereV_eq hr, whereV_eq hr]
  unfold wherePl
  rw [hf p (fun i hi => (h i hi).p_), hf q (fun i hi => (h i hi).q_), parK_eq, parK_eq, path_par (by have := hr.three; omega) h]
  refine ⟨rfl, ?_⟩
  rw [if_neg (by simp)]
  split <;> decide

theorem lpath_det (l : List V2) (p q : V2) (hl : l.length ≤ maxLen) : Det Try.prog 8 [.one (vlS l), vD p, vD q] (tbool true) := by
  refine det_of_awp TTok mixed Try.func8 rfl rfl [] (Nat.le_of_ble_eq_true rfl) ?_
  refine CallW.mk' awake8_det ?_
  refine Split.f ?_
  refine CallW.bool (few_det l hl) (fun b hb => ?_)
  refine Split.mk (fun h => ?_) (fun h => ?_)
  · repeat' first | refine Split.t ?_ | refine Split.f ?_ | refine Split.isT h ?_ | fail
    exact Fin.rfl'
  have h6 : l.length ≤ 60 := by
    have : b = true := by simpa using h
    exact of_decide_eq_true (by rw [← hb, this])
  repeat' first | refine Split.t ?_ | refine Split.f ?_ | refine Split.isF h ?_ | fail
  refine CallW.bool (valid_det' l (by omega)) (fun c hc => ?_)
  repeat' first | refine Split.t ?_ | refine Split.f ?_ | refine Split.isF h ?_ | fail
  refine Split.mk (fun h1 => ?_) (fun h1 => ?_)
  · repeat' first | refine Split.t ?_ | refine Split.f ?_ | refine Split.isF h ?_ | refine Split.isT h1 ?_ | fail
    exact Fin.rfl'
  have hr : RingOk l := ring_ok.1 (by rw [← hc]; simpa using h1)
  repeat' first | refine Split.t ?_ | refine Split.f ?_ | refine Split.isF h ?_ | refine Split.isF h1 ?_ | fail
  refine CallW.bool (rvalid_det ⟨p, q⟩) (fun d hd => ?_)
  repeat' first | refine Split.t ?_ | refine Split.f ?_ | refine Split.isF h ?_ | refine Split.isF h1 ?_ | fail
  refine Split.mk (fun h2 => ?_) (fun h2 => ?_)
  · exact Fin.rfl'
  have hs : validS ⟨p, q⟩ = true := by rw [← hd]; simpa using h2
  have hge : ¬ l.length < 2 := by have := hr.three; omega
  have hEl := edges_len hge
  refine CallW.mk' (edges_det l (by omega)) ?_
  refine Loop.by (α := Nat) (fun k => [(0, .d (.one (vlS l))), (4, .ptr 4 0), (5, .ptr 5 0), (7, .ptr 7 0), (8, .d (.one (slS (edgesL l)))), (9, tint k)]) (fun _ => [(4, .box (vL p)), (5, .box (vL q)), (7, .box (sL ⟨p, q⟩))]) (fun k => k ≤ l.length ∧ ∀ i, i < k → rmeetI (edge l i) ⟨p, q⟩ = 0) (fun k => l.length - k)
    (Adj.at 0 ⟨Nat.zero_le _, fun i hi => absurd hi (Nat.not_lt_zero i)⟩ (.cons (.box (LLe.of_eq rfl)) (.cons (.box (LLe.of_eq rfl)) (.cons (.box (LLe.of_eq rfl)) .nil))) (.cons .same (.cons (.box rfl rfl) (.cons (.box rfl rfl) (.cons (.box rfl rfl) (.cons .same (.cons .same .nil))))))) (fun k hk => ?_)
  obtain ⟨hk, hm⟩ := hk
  refine Split.mk (fun h => ?_) (fun h => ?_)
  · have hlt : k < l.length := by have := of_decide_eq_true h; omega
    refine Need.mk (by omega) ?_
    have hle : DsLe [sD (sGet (edgesL l) k), sD ⟨p, q⟩] [sD (edge l k), sD ⟨p, q⟩] := .cons (DLe.of_eq (congrArg sD (edges_at hge k hlt))) (.cons (DLe.refl _) .nil)
    refine CallW.int ((rmeet_det (edge l k) ⟨p, q⟩).le hle) (fun n hn => ?_)
    refine Need.mk (by kernel_rfl) ?_
    refine Split.mk (fun h3 => ?_) (fun h3 => ?_)
    · exact Fin.rfl'
    · have h0 : rmeetI (edge l k) ⟨p, q⟩ = 0 := by rw [← hn]; simpa using h3
      refine Adj.back (x := k) (k + 1) ⟨by omega, fun i hi => ?_⟩ (by omega) (.cons (.box (LLe.of_eq rfl)) (.cons (.box (LLe.of_eq rfl)) (.cons (.box (LLe.of_eq rfl)) .nil))) (.cons .same (.cons (.box rfl rfl) (.cons (.box rfl rfl) (.cons (.box rfl rfl) (.cons .same (.cons (SlotLe.int ?_) .nil))))))
      · by_cases e : i = k
        · rw [e]; exact h0
        · exact hm i (by omega)
      · rw [Sg.hw _ (by omega) (by omega)]; omega
  · have he : k = l.length := by have := of_decide_eq_false h; omega
    subst he
    obtain ⟨w1, w2⟩ := path_where hr (fun i hi => (nm_meet (edge_valid hr.near i) hs).1 (hm i hi))
    refine CallW.int (whereV_det l p (by omega)) (fun x hx => ?_)
    refine CallW.int ((whereV_det l q (by omega)).eq (by rw [← w1])) (fun y hy => ?_)
    obtain rfl : x = y := hx.trans hy.symm
    have ex : (x == x) = true := by simp
    refine Split.isT ex ?_
    repeat' first | refine Split.t ?_ | refine Split.f ?_ | refine Split.isT ex ?_ | fail
    refine CallW.int (whereV_det l p (by omega)) (fun z hz => ?_)
    repeat' first | refine Split.t ?_ | refine Split.f ?_ | refine Split.isT ex ?_ | fail
    refine Need.mk (by kernel_rfl) ?_
    refine Fin.bool ?_
    rw [hz]
    simpa using w2
theorem lpath_all : ∀ dvs, TypL Try.prog Try.f8.params.toList dvs → Det Try.prog 8 dvs (tbool true) := by
  intro dvs h
  obtain ⟨v0, r0, rfl, h0, q0⟩ := TypL.inv_cons (t := 23) (ts := [32, 32]) h
  obtain ⟨v1, r1, rfl, h1, q1⟩ := TypL.inv_cons (t := 32) (ts := [32]) q0
  obtain ⟨v2, r2, rfl, h2, q2⟩ := TypL.inv_cons (t := 32) (ts := []) q1
  obtain rfl := TypL.inv_nil q2
  obtain ⟨l, hl, hle⟩ := ring_of h0
  obtain ⟨p, rfl, _⟩ := vecIn h1
  obtain ⟨q, rfl, _⟩ := vecIn h2
  exact Det.le (.cons hle (.cons (DLe.refl _) (.cons (DLe.refl _) .nil))) (lpath_det l p q hl)
end Sg
end Go.Vm
