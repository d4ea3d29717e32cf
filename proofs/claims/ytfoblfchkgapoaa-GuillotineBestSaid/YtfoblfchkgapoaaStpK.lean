/-
  Layer 37: contracts of Valid and Value; the statements' first look at the example.
-/
import Derived.Test.YtfoblfchkgapoaaStpJ
namespace Go.Vm
set_option maxRecDepth 20000
set_option linter.unusedVariables false
set_option linter.unusedSimpArgs false
open Go Go.RowKit Go.Proofs
namespace St

def kindOkB (ks : List Knd) (r : Rc) (n : Nd) : Bool := if leafI n = true then decide (n.k = -1) || (inB n.k 0 (ks.length - 1) && (decide (r.w = (kget ks n.k.toNat).w) && decide (r.h = (kget ks n.k.toNat).h))) else decide (n.k = -1)
def kindB (t : List Nd) (ks : List Knd) (w h kerf : Int) : Bool := allN t.length fun i => kindOkB ks (rcget (rT t w h kerf t.length) i) (ndget t i)
def validB (t : List Nd) (ks : List Knd) (w h kerf : Int) : Bool := probB ks w h kerf && (joinB t && (rectB t w h kerf && kindB t ks w h kerf))
theorem CallW.rect {P : Program} {f : FuncId} {args : List DV} {K : TV → Prop} {a : List Rc × Bool} (h : Det P f args (rectE a)) (kk : ∀ x, x = a → K (rectE x)) : CallW P f args K := ⟨_, h, kk a rfl⟩
theorem join_nd {t : List Nd} (h : joinB t = true) {i : Nat} (hi : i < t.length) : ndOkB t.length i (ndget t i) = true := by
  simp only [joinB, Bool.and_eq_true] at h
  exact allN_iff.1 h.1 i hi
theorem leaf_same {t : List Nd} {w h kerf : Int} (hj : joinB t = true) (hr : rectB t w h kerf = true) {i : Nat} (hi : i < t.length) : leafP (ndget t i) = leafI (ndget t i) := by
  have a := join_nd hj hi
  have b := allN_iff.1 hr i hi
  cases hq : leafI (ndget t i) with
  | false =>
    cases hp : leafP (ndget t i) with
    | false => rfl
    | true =>
      simp only [leafP, Bool.and_eq_true, decide_eq_true_eq] at hp
      rw [leafI, decide_eq_true hp.1, decide_eq_true hp.2.1] at hq
      cases hq
  | true =>
    replace b : posB (rcget (rT t w h kerf i) i) (ndget t i) = true := b
    rw [posB, if_pos hq, decide_eq_true_eq] at b
    have hq' := hq
    simp only [leafI, Bool.and_eq_true, decide_eq_true_eq] at hq'
    have hv : (ndget t i).v = false := by
      cases hv : (ndget t i).v with
      | false => rfl
      | true =>
        rw [ndOkB, hv, Bool.not_true, Bool.and_false, Bool.false_or, Bool.and_eq_true, inB_iff, inB_iff] at a
        omega
    rw [leafP, decide_eq_true hq'.1, decide_eq_true hq'.2, decide_eq_true b, hv]; rfl
theorem valid_det (t : List Nd) (ks : List Knd) (w h kerf : Int) (hl : t.length ≤ 100000000) (hk : ks.length ≤ maxLen) : Det Try.prog 26 [.one (ndS t), .one (kS ks), .one (i64 w), .one (i64 h), .one (i64 kerf)] (tbool (validB t ks w h kerf)) := by
  refine det_of_awp TTok mixed Try.func26 rfl rfl [] (Nat.le_of_ble_eq_true rfl) ?_
  refine CallW.bool (problem_det ks w h kerf hk) (fun b hb => ?_)
  refine Split.mk (fun c1 => ?_) (fun c1 => ?_)
  · repeat' first | refine Split.isT c1 ?_ | refine Split.t ?_ | refine Split.f ?_ | fail
    refine Fin.bool ?_
    have : probB ks w h kerf = false := by rw [← hb]; simpa using c1
    rw [validB, this]; rfl
  have hp : probB ks w h kerf = true := by rw [← hb]; simpa using c1
  have p := prob_iff.1 hp
  repeat' first | refine Split.isF c1 ?_ | refine Split.t ?_ | refine Split.f ?_ | fail
  refine CallW.bool (joined_det t hl) (fun b2 hb2 => ?_)
  repeat' first | refine Split.isF c1 ?_ | refine Split.t ?_ | refine Split.f ?_ | fail
  refine Split.mk (fun c2 => ?_) (fun c2 => ?_)
  · refine Fin.bool ?_
    have : joinB t = false := by rw [← hb2]; simpa using c2
    rw [validB, this, Bool.false_and, Bool.and_false]
  have hj : joinB t = true := by rw [← hb2]; simpa using c2
  refine CallW.rect (rect_det t w h kerf hl hj p.w0 p.w1 p.h0 p.h1 p.k0 p.k1) (fun x hx => ?_)
  refine Split.mk (fun c3 => ?_) (fun c3 => ?_)
  · refine Fin.bool ?_
    have : rectB t w h kerf = false := by
      cases hq : rectB t w h kerf with
      | false => rfl
      | true =>
        rw [rectR, if_pos hq] at hx
        rw [hx] at c3; cases c3
    rw [validB, this, Bool.false_and, Bool.and_false, Bool.and_false]
  have hr : rectB t w h kerf = true := by
    cases hq : rectB t w h kerf with
    | true => rfl
    | false =>
      rw [rectR, if_neg (by rw [hq]; simp)] at hx
      rw [hx] at c3; cases c3
  have hx' : x = (rT t w h kerf t.length, true) := by rw [hx, rectR, if_pos hr]
  have hv : validB t ks w h kerf = kindB t ks w h kerf := by rw [validB, hp, hj, hr]; rfl
  have hxl := rT_len t w h kerf t.length
  subst hx'
  rw [hv]
  clear hx
  have hkb : kindB t ks w h kerf = allN t.length fun i => kindOkB ks (rcget (rT t w h kerf t.length) i) (ndget t i) := rfl
  generalize rT t w h kerf t.length = R at *
  refine Loop.by (α := Nat) (fun k => [(1, .d (.one (kS ks))), (11, .d (.one (rcS R))), (36, .d (.one (ndS t))), (37, tint t.length), (38, tint k)]) (fun _ => []) (fun k => k ≤ t.length ∧ ∀ i, i < k → kindOkB ks (rcget R i) (ndget t i) = true) (fun k => t.length - k)
    (Adj.at 0 ⟨Nat.zero_le _, fun _ h => absurd h (Nat.not_lt_zero _)⟩ .nil (.cons .same (.cons .same (.cons .same (.cons .same (.cons .same .nil)))))) (fun k hk => ?_)
  obtain ⟨hk, hall⟩ := hk
  refine Split.mk (fun hlo => ?_) (fun hlo => ?_)
  · have hlt : k < t.length := by have := of_decide_eq_true hlo; omega
    have hls := leaf_same hj hr hlt
    have bad : kindOkB ks (rcget R k) (ndget t k) = false → false = kindB t ks w h kerf := fun hb => by
      cases hq : kindB t ks w h kerf with
      | false => rfl
      | true =>
        rw [hkb] at hq
        have := allN_iff.1 hq k hlt
        rw [hb] at this; cases this
    have nxt : kindOkB ks (rcget R k) (ndget t k) = true → ∀ i, i < k + 1 → kindOkB ks (rcget R i) (ndget t i) = true := fun hp i hi => by
      rcases Nat.lt_succ_iff_lt_or_eq.1 hi with hi | rfl
      · exact hall i hi
      · exact hp
    have hlen := p.len
    have e1 : IntKind.i64.wrap ((ks.length : Int) - 1) = (ks.length : Int) - 1 := hw _ (by omega) (by omega)
    refine Need.mk (by omega) ?_
    refine CallW.bool (leaf_det (ndget t k)) (fun b5 hb5 => ?_)
    rw [hls] at hb5
    refine Split.mk (fun d1 => ?a1) (fun d1 => ?a2)
    case' a1 =>
      repeat' first | refine Split.isT d1 ?_ | refine Split.t ?_ | refine Split.f ?_ | fail
      refine Split.mk (fun d2 => ?b1) (fun d2 => ?b2)
    case b1 =>
      repeat' first | refine Split.isT d1 ?_ | refine Split.isT d2 ?_ | refine Split.t ?_ | refine Split.f ?_ | fail
      refine Fin.bool (bad ?_)
      have q1 : leafI (ndget t k) = false := by rw [← hb5]; simpa using d1
      have q2 : ¬ (ndget t k).k = -1 := by
        have : ((ndget t k).k != -1) = true := d2
        simpa using this
      rw [kindOkB, if_neg (by rw [q1]; simp), decide_eq_false q2]
    case' b2 =>
      have hbr : leafI (ndget t k) = false → (ndget t k).k = -1 := fun _ => by
        have : ((ndget t k).k != -1) = false := d2
        simpa using this
      repeat' first | refine Split.isT d1 ?_ | refine Split.isF d2 ?_ | refine Split.t ?_ | refine Split.f ?_ | fail
    case' a2 =>
      have hbr : leafI (ndget t k) = false → (ndget t k).k = -1 := fun q => by
        rw [← hb5] at q
        rw [q] at d1; cases d1
      repeat' first | refine Split.isF d1 ?_ | refine Split.t ?_ | refine Split.f ?_ | fail
    all_goals
      refine CallW.bool ((in_det (ndget t k).k (-1) (ks.length - 1)).le (.cons (DLe.refl _) (.cons (DLe.refl _) (.cons (DLe.of_eq (by rw [e1])) .nil)))) (fun b6 hb6 => ?_)
      refine Split.mk (fun d3 => ?_) (fun d3 => ?_)
      · refine Fin.bool (bad ?_)
        have q : inB (ndget t k).k (-1) (ks.length - 1) = false := by rw [← hb6]; simpa using d3
        have q' : ¬ (-1 ≤ (ndget t k).k ∧ (ndget t k).k ≤ ks.length - 1) := fun z => by rw [inB_iff.2 z] at q; cases q
        have z1 : ¬ (ndget t k).k = -1 := fun z => q' (by omega)
        have z2 : inB (ndget t k).k 0 (ks.length - 1) = false := by
          cases hq : inB (ndget t k).k 0 (ks.length - 1) with
          | false => rfl
          | true => rw [inB_iff] at hq; exact absurd ⟨by omega, hq.2⟩ q'
        rw [kindOkB, decide_eq_false z1, z2]
        split <;> rfl
      have hin : -1 ≤ (ndget t k).k ∧ (ndget t k).k ≤ ks.length - 1 := inB_iff.1 (by rw [← hb6]; simpa using d3)
      show Split (decide ((ndget t k).k ≥ 0)) _
      refine Split.mk (fun d4 => ?_) (fun d4 => ?_)
      · have h0 : 0 ≤ (ndget t k).k := of_decide_eq_true d4
        have hleaf : leafI (ndget t k) = true := by
          cases hq : leafI (ndget t k) with
          | true => rfl
          | false => have := hbr hq; omega
        have z1 : ¬ (ndget t k).k = -1 := by omega
        have z2 : inB (ndget t k).k 0 (ks.length - 1) = true := inB_iff.2 ⟨h0, hin.2⟩
        have hko : kindOkB ks (rcget R k) (ndget t k) = (decide ((rcget R k).w = (kget ks (ndget t k).k.toNat).w) && decide ((rcget R k).h = (kget ks (ndget t k).k.toNat).h)) := by
          rw [kindOkB, if_pos hleaf, decide_eq_false z1, z2]; rfl
        repeat' first | refine Split.isT d4 ?_ | refine Split.t ?_ | refine Split.f ?_ | fail
        refine Need.mk (by show 0 ≤ (k : Int) ∧ (k : Int) < (R.length : Int); omega) ?_
        repeat' first | refine Split.isT d4 ?_ | refine Split.t ?_ | refine Split.f ?_ | fail
        refine Need.mk (⟨h0, by omega⟩ : 0 ≤ (ndget t k).k ∧ (ndget t k).k < (ks.length : Int)) ?_
        repeat' first | refine Split.isT d4 ?_ | refine Split.t ?_ | refine Split.f ?_ | fail
        show Split ((rcget R k).w != (kget ks (ndget t k).k.toNat).w) _
        refine Split.mk (fun d5 => ?_) (fun d5 => ?_)
        · repeat' first | refine Split.isT d4 ?_ | refine Split.isT d5 ?_ | refine Split.t ?_ | refine Split.f ?_ | fail
          refine Need.mk (by kernel_rfl) ?_
          repeat' first | refine Split.isT d4 ?_ | refine Split.isT d5 ?_ | refine Split.t ?_ | refine Split.f ?_ | fail
          refine Fin.bool (bad ?_)
          rw [hko, decide_eq_false (show ¬ (rcget R k).w = (kget ks (ndget t k).k.toNat).w by simpa using d5)]; rfl
        have d5' : (rcget R k).w = (kget ks (ndget t k).k.toNat).w := by simpa using d5
        repeat' first | refine Split.isT d4 ?_ | refine Split.isF d5 ?_ | refine Split.t ?_ | refine Split.f ?_ | fail
        refine Need.mk (by show 0 ≤ (k : Int) ∧ (k : Int) < (R.length : Int); omega) ?_
        repeat' first | refine Split.isT d4 ?_ | refine Split.isF d5 ?_ | refine Split.t ?_ | refine Split.f ?_ | fail
        refine Need.mk (⟨h0, by omega⟩ : 0 ≤ (ndget t k).k ∧ (ndget t k).k < (ks.length : Int)) ?_
        repeat' first | refine Split.isT d4 ?_ | refine Split.isF d5 ?_ | refine Split.t ?_ | refine Split.f ?_ | fail
        refine Need.mk (by kernel_rfl) ?_
        repeat' first | refine Split.isT d4 ?_ | refine Split.isF d5 ?_ | refine Split.t ?_ | refine Split.f ?_ | fail
        show Split ((rcget R k).h != (kget ks (ndget t k).k.toNat).h) _
        refine Split.mk (fun d6 => ?_) (fun d6 => ?_)
        · refine Fin.bool (bad ?_)
          rw [hko, decide_eq_false (show ¬ (rcget R k).h = (kget ks (ndget t k).k.toNat).h by simpa using d6), Bool.and_false]
        have d6' : (rcget R k).h = (kget ks (ndget t k).k.toNat).h := by simpa using d6
        exact Adj.back (x := k) (k + 1) ⟨by omega, nxt (by rw [hko, decide_eq_true d5', decide_eq_true d6']; rfl)⟩ (by omega) .nil (.cons .same (.cons .same (.cons .same (.cons .same (.cons (SlotLe.int (hS k (by omega))) .nil)))))
      · have h0 : (ndget t k).k = -1 := by have : ¬ (ndget t k).k ≥ 0 := of_decide_eq_false d4; omega
        repeat' first | refine Split.isF d4 ?_ | refine Split.t ?_ | refine Split.f ?_ | fail
        refine Need.mk (by kernel_rfl) ?_
        repeat' first | refine Split.isF d4 ?_ | refine Split.t ?_ | refine Split.f ?_ | fail
        exact Adj.back (x := k) (k + 1) ⟨by omega, nxt (by rw [kindOkB, decide_eq_true h0]; split <;> rfl)⟩ (by omega) .nil (.cons .same (.cons .same (.cons .same (.cons .same (.cons (SlotLe.int (hS k (by omega))) .nil)))))
  · have he : k = t.length := by have := of_decide_eq_false hlo; omega
    refine Fin.bool ?_
    rw [hkb]
    exact (allN_iff.2 (by rw [he] at hall; exact hall)).symm
/-! ### Value -/
def valS (t : List Nd) (ks : List Knd) : Nat → Int
  | 0 => 0
  | k + 1 => if leafP (ndget t k) = true ∧ inB (ndget t k).k 0 (ks.length - 1) = true then w64 (valS t ks k + (kget ks (ndget t k).k.toNat).v) else valS t ks k
/-! ### the example -/
abbrev exK : List Knd := [⟨4, 3, 5⟩, ⟨5, 5, 12⟩]
theorem CallW.best {P : Program} {f : FuncId} {args : List DV} {K : TV → Prop} {a : Int × List Nd × Int} (h : Det P f args (bestE a)) (kk : ∀ x, x = a → K (bestE x)) : CallW P f args K := ⟨_, h, kk a rfl⟩
end St
end Go.Vm
