/-
  Layer 37: contracts of joined and of the reference's Shaped.
  Layer 37: contracts of rectangles, Valid and Value.
-/
import Derived.Test.YtfoblfchkgapoaaStpH
namespace Go.Vm
set_option maxRecDepth 20000
set_option linter.unusedVariables false
set_option linter.unusedSimpArgs false
open Go Go.RowKit Go.Proofs
namespace St

def allN : Nat → (Nat → Bool) → Bool
  | 0, _ => true
  | n + 1, P => allN n P && P n
theorem allN_iff {P : Nat → Bool} : ∀ {n : Nat}, allN n P = true ↔ ∀ i, i < n → P i = true
  | 0 => ⟨fun _ i h => absurd h (Nat.not_lt_zero _), fun _ => rfl⟩
  | n + 1 => by
    rw [allN, Bool.and_eq_true, allN_iff]
    constructor
    · rintro ⟨h1, h2⟩ i hi
      rcases Nat.lt_succ_iff_lt_or_eq.1 hi with hi | rfl
      · exact h1 i hi
      · exact h2
    · intro h
      exact ⟨fun i hi => h i (by omega), h n (by omega)⟩
def leafI (n : Nd) : Bool := decide (n.f = -1) && decide (n.s = -1)
def ndOkB (len i : Nat) (n : Nd) : Bool := (leafI n && !n.v) || (inB n.f (i + 1) (len - 1) && inB n.s (i + 1) (len - 1))
def incr (l : List Int) (j : Int) : List Int := l.set j.toNat (l.getD j.toNat 0 + 1)
def pT (t : List Nd) : Nat → List Int
  | 0 => List.replicate t.length 0
  | k + 1 => if leafI (ndget t k) = true then pT t k else incr (incr (pT t k) (ndget t k).f) (ndget t k).s
def joinB (t : List Nd) : Bool := allN t.length (fun i => ndOkB t.length i (ndget t i)) && (allN t.length (fun i => decide (i = 0) || decide (iget (pT t t.length) i = 1)) && inB t.length 1 4000)
theorem incr_len (l : List Int) (j : Int) : (incr l j).length = l.length := by simp [incr]
theorem pT_len (t : List Nd) : ∀ k, (pT t k).length = t.length
  | 0 => by simp [pT]
  | k + 1 => by
    rw [pT]
    split
    · exact pT_len t k
    · rw [incr_len, incr_len, pT_len t k]
theorem incr_at (l : List Int) (j : Int) (i : Nat) : (incr l j).getD i 0 = l.getD i 0 ∨ (incr l j).getD i 0 = l.getD i 0 + 1 := by
  unfold incr
  by_cases h : i = j.toNat
  · subst h
    by_cases hl : j.toNat < l.length
    · right; simp [List.getD, hl]
    · left; simp [List.getD, hl]
  · left; simp [List.getD, List.getElem?_set_ne (Ne.symm h)]
theorem pT_bd (t : List Nd) : ∀ k i, 0 ≤ (pT t k).getD i 0 ∧ (pT t k).getD i 0 ≤ 2 * k
  | 0, i => by
    have : (pT t 0).getD i 0 = 0 := by rw [pT, List.getD, List.getElem?_replicate]; split <;> rfl
    omega
  | k + 1, i => by
    have ih := pT_bd t k i
    rw [pT]
    split
    · omega
    · rcases incr_at (incr (pT t k) (ndget t k).f) (ndget t k).s i with h | h <;> rcases incr_at (pT t k) (ndget t k).f i with h' | h' <;> omega
theorem joined_det (t : List Nd) (hl : t.length ≤ 100000000) : Det Try.prog 56 [.one (ndS t)] (tbool (joinB t)) := by
  refine det_of_awp TTok mixed Try.func56 rfl rfl [10] (Nat.le_of_ble_eq_true rfl) ?_
  refine Need.mk (needMake (by omega)) ?_
  refine Loop.by (α := Nat) (fun k => [(0, .d (.one (ndS t))), (3, .hdl 9 0), (10, .d (.one (ndS t))), (11, tint t.length), (12, tint k)]) (fun k => [(9, .bld 0 t.length 1 3 (lG iL 0 (pT t k)))]) (fun k => k ≤ t.length ∧ ∀ i, i < k → ndOkB t.length i (ndget t i) = true) (fun k => t.length - k)
    (Adj.at 0 ⟨Nat.zero_le _, fun _ h => absurd h (Nat.not_lt_zero _)⟩ (.cons (.bldN (by omega) (fun i hi j hj => SLe.of_eq (lG_rep t.length i j (by omega) hj))) .nil) (.cons .same (.cons (.hdl rfl rfl) (.cons .same (.cons .same (.cons .same .nil)))))) (fun k hk => ?_)
  obtain ⟨hk, hx⟩ := hk
  refine Split.mk (fun h => ?_) (fun h => ?_)
  · have hlt : k < t.length := by have := of_decide_eq_true h; omega
    have bad : ndOkB t.length k (ndget t k) = false → false = joinB t := fun hb => by
      cases hq : joinB t with
      | false => rfl
      | true =>
        simp only [joinB, Bool.and_eq_true] at hq
        rw [allN_iff.1 hq.1 k hlt] at hb; cases hb
    have hpl := pT_len t k
    have hpn : pT t (k + 1) = if leafI (ndget t k) = true then pT t k else incr (incr (pT t k) (ndget t k).f) (ndget t k).s := rfl
    have e1 : IntKind.i64.wrap ((k : Int) + 1) = (k : Int) + 1 := by rw [hw _ (by omega) (by omega)]
    have e2 : IntKind.i64.wrap ((t.length : Int) - 1) = (t.length : Int) - 1 := by rw [hw _ (by omega) (by omega)]
    refine Need.mk (by omega) ?_
    show Split ((ndget t k).f == -1) _
    refine Split.mk (fun c1 => ?a1) (fun c1 => ?a2)
    case' a1 =>
      repeat' first | refine Split.isT c1 ?_ | refine Split.t ?_ | refine Split.f ?_ | fail
      refine Split.mk (fun c2 => ?b1) (fun c2 => ?b2)
    case' b1 =>
      repeat' first | refine Split.isT c1 ?_ | refine Split.isT c2 ?_ | refine Split.t ?_ | refine Split.f ?_ | fail
      have c1' : (ndget t k).f = -1 := eq_of_beq c1
      have c2' : (ndget t k).s = -1 := eq_of_beq c2
      have hleaf : leafI (ndget t k) = true := by rw [leafI, decide_eq_true c1', decide_eq_true c2']; rfl
      refine Split.mk (fun c3 => ?d1) (fun c3 => ?d2)
    case d1 =>
      repeat' first | refine Split.isT c3 ?_ | refine Split.t ?_ | refine Split.f ?_ | fail
      have c3' : (!(ndget t k).v) = true := c3
      have hok : ndOkB t.length k (ndget t k) = true := by rw [ndOkB, hleaf, c3']; rfl
      rw [if_pos hleaf] at hpn
      refine Adj.back (x := k) (k + 1) ⟨by omega, fun i hi => ?_⟩ (by omega) (.cons (.bld (fun i hi j hj => SLe.of_eq (by rw [hpn]))) .nil) (.cons .same (.cons (.hdl rfl rfl) (.cons .same (.cons .same (.cons (SlotLe.int (hS k (by omega))) .nil)))))
      rcases Nat.lt_succ_iff_lt_or_eq.1 hi with hi | rfl
      · exact hx i hi
      · exact hok
    case' d2 =>
      have hnl : ¬ (leafI (ndget t k) = true ∧ (ndget t k).v = false) := fun q => by
        have c3' : (!(ndget t k).v) = false := c3
        rw [q.2] at c3'; cases c3'
      repeat' first | refine Split.isF c3 ?_ | refine Split.t ?_ | refine Split.f ?_ | fail
      clear c1' c2' hleaf c3
    case' b2 =>
      have hnl : ¬ (leafI (ndget t k) = true ∧ (ndget t k).v = false) := fun q => by
        have := q.1
        have c2' : ¬ (ndget t k).s = -1 := ne_of_beq_false c2
        rw [leafI, decide_eq_false c2', Bool.and_false] at this
        cases this
      repeat' first | refine Split.isT c1 ?_ | refine Split.isF c2 ?_ | refine Split.t ?_ | refine Split.f ?_ | fail
    case' a2 =>
      have hnl : ¬ (leafI (ndget t k) = true ∧ (ndget t k).v = false) := fun q => by
        have := q.1
        have c1' : ¬ (ndget t k).f = -1 := ne_of_beq_false c1
        rw [leafI, decide_eq_false c1', Bool.false_and] at this
        cases this
      repeat' first | refine Split.isF c1 ?_ | refine Split.t ?_ | refine Split.f ?_ | fail
    all_goals
      refine CallW.bool ((in_det (ndget t k).f (k + 1) (t.length - 1)).le (.cons (DLe.refl _) (.cons (DLe.of_eq (by rw [e1])) (.cons (DLe.of_eq (by rw [e2])) .nil)))) (fun b1 hb1 => ?_)
      refine Split.mk (fun d1 => ?_) (fun d1 => ?_)
      · repeat' first | refine Split.isT d1 ?_ | refine Split.t ?_ | refine Split.f ?_ | fail
        refine Fin.bool (bad ?_)
        have i1 : inB (ndget t k).f (k + 1) (t.length - 1) = false := by rw [← hb1]; simpa using d1
        simp only [ndOkB, i1, Bool.false_and, Bool.or_false]
        cases hq : leafI (ndget t k) && !(ndget t k).v with
        | false => rfl
        | true => exact absurd (by rw [Bool.and_eq_true, Bool.not_eq_true'] at hq; exact hq) hnl
      repeat' first | refine Split.isF d1 ?_ | refine Split.t ?_ | refine Split.f ?_ | fail
      refine CallW.bool ((in_det (ndget t k).s (k + 1) (t.length - 1)).le (.cons (DLe.refl _) (.cons (DLe.of_eq (by rw [e1])) (.cons (DLe.of_eq (by rw [e2])) .nil)))) (fun b2 hb2 => ?_)
      repeat' first | refine Split.isF d1 ?_ | refine Split.t ?_ | refine Split.f ?_ | fail
      refine Split.mk (fun d2 => ?_) (fun d2 => ?_)
      · refine Fin.bool (bad ?_)
        have i2 : inB (ndget t k).s (k + 1) (t.length - 1) = false := by rw [← hb2]; simpa using d2
        simp only [ndOkB, i2, Bool.and_false, Bool.or_false]
        cases hq : leafI (ndget t k) && !(ndget t k).v with
        | false => rfl
        | true => exact absurd (by rw [Bool.and_eq_true, Bool.not_eq_true'] at hq; exact hq) hnl
      have i1 : inB (ndget t k).f (k + 1) (t.length - 1) = true := by rw [← hb1]; simpa using d1
      have i2 : inB (ndget t k).s (k + 1) (t.length - 1) = true := by rw [← hb2]; simpa using d2
      have hok : ndOkB t.length k (ndget t k) = true := by rw [ndOkB, i1, i2, Bool.and_self, Bool.or_true]
      rw [inB_iff] at i1 i2
      have hnleaf : ¬ leafI (ndget t k) = true := fun q => by
        simp only [leafI, Bool.and_eq_true, decide_eq_true_eq] at q; omega
      rw [if_neg hnleaf] at hpn
      have j1 : 0 ≤ (t.getD ((k : Int)).toNat nd0).f ∧ (t.getD ((k : Int)).toNat nd0).f < (t.length : Int) := (⟨by omega, by omega⟩ : 0 ≤ (ndget t k).f ∧ (ndget t k).f < (t.length : Int))
      have j2 : 0 ≤ (t.getD ((k : Int)).toNat nd0).s ∧ (t.getD ((k : Int)).toNat nd0).s < (t.length : Int) := (⟨by omega, by omega⟩ : 0 ≤ (ndget t k).s ∧ (ndget t k).s < (t.length : Int))
      refine Need.mk j1 ?_
      refine Need.mk j1 ?_
      have bd := pT_bd t k (ndget t k).f.toNat
      have bd2 : 0 ≤ (incr (pT t k) (ndget t k).f).getD (ndget t k).s.toNat 0 ∧ (incr (pT t k) (ndget t k).f).getD (ndget t k).s.toNat 0 ≤ 2 * k + 1 := by
        have := pT_bd t k (ndget t k).s.toNat
        rcases incr_at (pT t k) (ndget t k).f (ndget t k).s.toNat with h | h <;> omega
      have w1 : IntKind.i64.wrap ((pT t k).getD (ndget t k).f.toNat 0 + 1) = (pT t k).getD (ndget t k).f.toNat 0 + 1 := hw _ (by omega) (by omega)
      have w2 : IntKind.i64.wrap ((incr (pT t k) (ndget t k).f).getD (ndget t k).s.toNat 0 + 1) = (incr (pT t k) (ndget t k).f).getD (ndget t k).s.toNat 0 + 1 := hw _ (by omega) (by omega)
      refine Cut.mk (Adj.keep [(0, .d (.one (ndS t))), (3, .hdl 9 0), (10, .d (.one (ndS t))), (11, tint t.length), (12, tint k), (5, .ptr 5 0)] [(9, .bld 0 t.length 1 3 (lG iL 0 (incr (pT t k) (ndget t k).f))), (5, .box (ndL (ndget t k)))] (.cons (.bld (fun i hi j hj => ?_)) (.cons (.box (LLe.of_eq rfl)) .nil)) (.cons .same (.cons (.hdl rfl rfl) (.cons .same (.cons .same (.cons .same (.cons (.box rfl rfl) .nil)))))) ?_)
      · exact lG_set iL 0 (pT t k) ((pT t k).getD (ndget t k).f.toNat 0 + 1) (ndget t k).f.toNat i j 1 [i64 (IntKind.i64.wrap ((pT t k).getD (ndget t k).f.toNat 0 + 1))] (by rw [w1]) (by rw [hpl]; exact hi) hj
      refine Need.mk j2 ?_
      refine Need.mk j2 ?_
      refine Adj.back (x := k) (k + 1) ⟨by omega, fun i hi => ?_⟩ (by omega) (.cons (.bld (fun i hi j hj => ?_)) .nil) (.cons .same (.cons (.hdl rfl rfl) (.cons .same (.cons .same (.cons (SlotLe.int (hS k (by omega))) .nil)))))
      · rcases Nat.lt_succ_iff_lt_or_eq.1 hi with hi | rfl
        · exact hx i hi
        · exact hok
      · rw [hpn]
        exact lG_set iL 0 (incr (pT t k) (ndget t k).f) ((incr (pT t k) (ndget t k).f).getD (ndget t k).s.toNat 0 + 1) (ndget t k).s.toNat i j 1 [i64 (IntKind.i64.wrap ((incr (pT t k) (ndget t k).f).getD (ndget t k).s.toNat 0 + 1))] (by rw [w2]) (by rw [incr_len, hpl]; exact hi) hj
  · have he : k = t.length := by have := of_decide_eq_false h; omega
    subst he
    refine Loop.by (α := Nat) (fun i => [(0, .d (.one (ndS t))), (3, .hdl 9 0), (6, tint i)]) (fun i => [(9, .bld 0 t.length 1 3 (lG iL 0 (pT t t.length)))]) (fun k => 1 ≤ k ∧ (1 ≤ t.length → k ≤ t.length) ∧ ∀ i, 1 ≤ i → i < k → iget (pT t t.length) i = 1) (fun k => t.length - k)
      (Adj.at 1 ⟨Nat.le_refl _, fun h => h, fun i h1 h2 => by omega⟩ (.cons (.bld (fun _ _ _ _ => SLe.refl _)) .nil) (.cons .same (.cons (.hdl rfl rfl) (.cons .same .nil)))) (fun k hk => ?_)
    obtain ⟨k1, k2, k3⟩ := hk
    refine Split.mk (fun h => ?_) (fun h => ?_)
    · have hlt : k < t.length := by have := of_decide_eq_true h; omega
      refine Need.mk (by omega) ?_
      show Split (iget (pT t t.length) k != 1) _
      refine Split.mk (fun c => ?_) (fun c => ?_)
      · refine Fin.bool ?_
        have c' : iget (pT t t.length) k ≠ 1 := by simpa using c
        cases hq : joinB t with
        | false => rfl
        | true =>
          simp only [joinB, Bool.and_eq_true] at hq
          have := allN_iff.1 hq.2.1 k hlt
          simp only [Bool.or_eq_true, decide_eq_true_eq] at this
          omega
      · refine Adj.back (x := k) (k + 1) ⟨by omega, fun _ => by omega, fun i h1 h2 => ?_⟩ (by omega) (.cons (.bld (fun _ _ _ _ => SLe.refl _)) .nil) (.cons .same (.cons (.hdl rfl rfl) (.cons (SlotLe.int (hS k (by omega))) .nil)))
        rcases Nat.lt_succ_iff_lt_or_eq.1 h2 with h2 | rfl
        · exact k3 i h1 h2
        · have : iget (pT t t.length) i = 1 := by simpa using c
          exact this
    · have hge : t.length ≤ k := by have := of_decide_eq_false h; omega
      refine CallW.bool (in_det t.length 1 4000) (fun b hb => ?_)
      refine Fin.bool ?_
      have a1 : allN t.length (fun i => ndOkB t.length i (ndget t i)) = true := allN_iff.2 hx
      have a2 : allN t.length (fun i => decide (i = 0) || decide (iget (pT t t.length) i = 1)) = true := allN_iff.2 (fun i hi => by
        by_cases h0 : i = 0
        · rw [decide_eq_true h0]; rfl
        · rw [decide_eq_true (k3 i (by omega) (by omega)), Bool.or_true])
      rw [joinB, a1, a2, hb]
      rfl
end St
end Go.Vm
namespace Go.Vm
set_option maxRecDepth 20000
set_option linter.unusedVariables false
set_option linter.unusedSimpArgs false
open Go Go.RowKit Go.Proofs
namespace St

def leafP (n : Nd) : Bool := decide (n.f = -1) && (decide (n.s = -1) && (decide (n.a = 0) && !n.v))
theorem leaf_det (n : Nd) : Det Try.prog 58 [.agg (ndL n)] (tbool (leafP n)) := by
  refine det_of_awp TTok mixed Try.func58 rfl rfl [] (Nat.le_of_ble_eq_true rfl) ?_
  refine Split.mk (fun c1 => ?_) (fun c1 => ?_)
  · repeat' first | refine Split.isT c1 ?_ | refine Split.t ?_ | refine Split.f ?_ | fail
    refine Split.mk (fun c2 => ?_) (fun c2 => ?_)
    · repeat' first | refine Split.isT c1 ?_ | refine Split.isT c2 ?_ | refine Split.t ?_ | refine Split.f ?_ | fail
      refine Split.mk (fun c3 => ?_) (fun c3 => ?_)
      · repeat' first | refine Split.isT c1 ?_ | refine Split.isT c2 ?_ | refine Split.isT c3 ?_ | refine Split.t ?_ | refine Split.f ?_ | fail
        refine Fin.bool ?_
        rw [leafP, decide_eq_true (eq_of_beq c1), decide_eq_true (eq_of_beq c2), decide_eq_true (eq_of_beq c3)]; rfl
      · repeat' first | refine Split.isT c1 ?_ | refine Split.isT c2 ?_ | refine Split.isF c3 ?_ | refine Split.t ?_ | refine Split.f ?_ | fail
        refine Fin.bool ?_
        rw [leafP, decide_eq_false (ne_of_beq_false c3), Bool.false_and, Bool.and_false, Bool.and_false]
    · repeat' first | refine Split.isT c1 ?_ | refine Split.isF c2 ?_ | refine Split.t ?_ | refine Split.f ?_ | fail
      refine Fin.bool ?_
      rw [leafP, decide_eq_false (ne_of_beq_false c2), Bool.false_and, Bool.and_false]
  · repeat' first | refine Split.isF c1 ?_ | refine Split.t ?_ | refine Split.f ?_ | fail
    refine Fin.bool ?_
    rw [leafP, decide_eq_false (ne_of_beq_false c1), Bool.false_and]
/-! ### rectangles -/
structure Rc where
  x : Int
  y : Int
  w : Int
  h : Int
  deriving DecidableEq
abbrev rcL (r : Rc) : List SV := [i64 r.x, i64 r.y, i64 r.w, i64 r.h]
abbrev rc0 : Rc := ⟨0, 0, 0, 0⟩
abbrev rcS (l : List Rc) : SV := .sl l.length 4 (lG rcL rc0 l)
abbrev rcget (l : List Rc) (i : Nat) : Rc := l.getD i rc0
def minI (a b : Int) : Int := if b < a then b else a
def maxI (a b : Int) : Int := if b > a then b else a
def cutA (r : Rc) (n : Nd) : Rc := if n.v = true then ⟨r.x, r.y, n.a, r.h⟩ else ⟨r.x, r.y, r.w, n.a⟩
def cutB (r : Rc) (n : Nd) (kerf : Int) : Rc := if n.v = true then ⟨r.x + minI r.w (n.a + kerf), r.y, maxI 0 (r.w - n.a - kerf), r.h⟩ else ⟨r.x, r.y + minI r.h (n.a + kerf), r.w, maxI 0 (r.h - n.a - kerf)⟩
def rT (t : List Nd) (w h kerf : Int) : Nat → List Rc
  | 0 => (List.replicate t.length rc0).set 0 ⟨0, 0, w, h⟩
  | k + 1 => if leafI (ndget t k) = true then rT t w h kerf k else ((rT t w h kerf k).set (ndget t k).f.toNat (cutA (rcget (rT t w h kerf k) k) (ndget t k))).set (ndget t k).s.toNat (cutB (rcget (rT t w h kerf k) k) (ndget t k) kerf)
def posB (r : Rc) (n : Nd) : Bool := if leafI n = true then decide (n.a = 0) else inB n.a 1 ((if n.v = true then r.w else r.h) - 1)
def rectB (t : List Nd) (w h kerf : Int) : Bool := allN t.length fun i => posB (rcget (rT t w h kerf i) i) (ndget t i)
theorem rT_len (t : List Nd) (w h kerf : Int) : ∀ k, (rT t w h kerf k).length = t.length
  | 0 => by simp [rT]
  | k + 1 => by
    rw [rT]
    split
    · exact rT_len t w h kerf k
    · rw [List.length_set, List.length_set, rT_len t w h kerf k]
structure InR (w h : Int) (r : Rc) : Prop where
  x0 : 0 ≤ r.x
  y0 : 0 ≤ r.y
  w0 : 0 ≤ r.w
  h0 : 0 ≤ r.h
  x1 : r.x + r.w ≤ w
  y1 : r.y + r.h ≤ h
theorem minI_spec (a b : Int) : (minI a b = a ∧ a ≤ b) ∨ (minI a b = b ∧ b ≤ a) := by unfold minI; split <;> omega
theorem maxI_spec (b : Int) : (maxI 0 b = 0 ∧ b ≤ 0) ∨ (maxI 0 b = b ∧ 0 < b) := by unfold maxI; split <;> omega
theorem cut_in {w h kerf : Int} {r : Rc} {n : Nd} (hr : InR w h r) (hk : 0 ≤ kerf) (hl : leafI n = false) (hp : posB r n = true) : InR w h (cutA r n) ∧ InR w h (cutB r n kerf) := by
  have := hr.x0; have := hr.y0; have := hr.w0; have := hr.h0; have := hr.x1; have := hr.y1
  rw [posB, if_neg (by rw [hl]; simp), inB_iff] at hp
  unfold cutA cutB
  cases hv : n.v with
  | true =>
    rw [hv] at hp
    simp only [if_true] at hp ⊢
    have a := minI_spec r.w (n.a + kerf)
    have b := maxI_spec (r.w - n.a - kerf)
    generalize minI r.w (n.a + kerf) = x at *
    generalize maxI 0 (r.w - n.a - kerf) = y at *
    exact ⟨⟨by omega, by omega, by show 0 ≤ n.a; omega, by omega, by show r.x + n.a ≤ w; omega, by omega⟩, ⟨by show 0 ≤ r.x + x; omega, by omega, by show 0 ≤ y; omega, by omega, by show r.x + x + y ≤ w; omega, by omega⟩⟩
  | false =>
    rw [hv] at hp
    simp only [Bool.false_eq_true, if_false] at hp ⊢
    have a := minI_spec r.h (n.a + kerf)
    have b := maxI_spec (r.h - n.a - kerf)
    generalize minI r.h (n.a + kerf) = x at *
    generalize maxI 0 (r.h - n.a - kerf) = y at *
    exact ⟨⟨by omega, by omega, by omega, by show 0 ≤ n.a; omega, by omega, by show r.y + n.a ≤ h; omega⟩, ⟨by omega, by show 0 ≤ r.y + x; omega, by omega, by show 0 ≤ y; omega, by omega, by show r.y + x + y ≤ h; omega⟩⟩
theorem getD_set {α : Type} (l : List α) (i j : Nat) (x d : α) (P : α → Prop) (h1 : P x) (h2 : P (l.getD j d)) : P ((l.set i x).getD j d) := by
  by_cases e : i = j
  · subst e
    by_cases hl : i < l.length
    · have : (l.set i x).getD i d = x := by simp [List.getD, hl]
      rw [this]; exact h1
    · have : (l.set i x).getD i d = l.getD i d := by simp [List.getD, hl]
      rw [this]; exact h2
  · have : (l.set i x).getD j d = l.getD j d := by simp [List.getD, List.getElem?_set_ne e]
    rw [this]; exact h2
theorem rT_in {t : List Nd} {w h kerf : Int} (hw : 0 ≤ w) (hh : 0 ≤ h) (hk : 0 ≤ kerf) : ∀ k, (∀ i, i < k → posB (rcget (rT t w h kerf i) i) (ndget t i) = true) → ∀ j, InR w h (rcget (rT t w h kerf k) j)
  | 0, _, j => by
    refine getD_set _ 0 j _ rc0 (InR w h) ⟨Int.le_refl _, Int.le_refl _, hw, hh, by show 0 + w ≤ w; omega, by show 0 + h ≤ h; omega⟩ ?_
    have : (List.replicate t.length rc0).getD j rc0 = rc0 := by rw [List.getD, List.getElem?_replicate]; split <;> rfl
    rw [this]
    exact ⟨Int.le_refl _, Int.le_refl _, Int.le_refl _, Int.le_refl _, by show 0 + 0 ≤ w; omega, by show 0 + 0 ≤ h; omega⟩
  | k + 1, hp, j => by
    have ih := rT_in hw hh hk k (fun i hi => hp i (by omega))
    rw [rT]
    split
    · exact ih j
    · rename_i hl
      obtain ⟨a, b⟩ := cut_in (kerf := kerf) (ih k) hk (by simpa using hl) (hp k (Nat.lt_succ_self k))
      exact getD_set _ _ j _ rc0 (InR w h) b (getD_set _ _ j _ rc0 (InR w h) a (ih j))
def rectR (t : List Nd) (w h kerf : Int) : List Rc × Bool := if rectB t w h kerf = true then (rT t w h kerf t.length, true) else ([], false)
abbrev rectE (x : List Rc × Bool) : TV := .tup [.one (rcS x.1), .one (.v (.bool x.2))]
theorem needMake4 {n : Nat} (h : n ≤ 100000000) : 0 ≤ (n : Int) ∧ (n : Int) ≤ n ∧ ((32 : Nat) : Int) * n ≤ 281474976710656 ∧ (n : Int) ≤ 9223372036854775807 := by omega
theorem rect_det (t : List Nd) (w h kerf : Int) (hl : t.length ≤ 100000000) (hj : joinB t = true) (w0 : 1 ≤ w) (w1 : w ≤ 2000) (h0 : 1 ≤ h) (h1 : h ≤ 2000) (k0 : 0 ≤ kerf) (k1 : kerf ≤ 50) :
    Det Try.prog 57 [.one (ndS t), .one (i64 w), .one (i64 h), .one (i64 kerf)] (rectE (rectR t w h kerf)) := by
  refine det_of_awp TTok mixed Try.func57 rfl rfl [13, 17] (Nat.le_of_ble_eq_true rfl) ?_
  simp only [joinB, Bool.and_eq_true] at hj
  obtain ⟨jo, _, jl⟩ := hj
  rw [inB_iff] at jl
  replace jo := fun i hi => allN_iff.1 jo i hi
  refine Need.mk (needMake4 (by omega)) ?_
  refine Need.mk (by omega) ?_
  refine Loop.by (α := Nat) (fun k => [(3, tint kerf), (10, .hdl 16 0), (22, .d (.one (ndS t))), (23, tint t.length), (24, tint k)]) (fun k => [(16, .bld 0 t.length 4 105 (lG rcL rc0 (rT t w h kerf k)))]) (fun k => k ≤ t.length ∧ ∀ i, i < k → posB (rcget (rT t w h kerf i) i) (ndget t i) = true) (fun k => t.length - k)
    (Adj.at 0 ⟨Nat.zero_le _, fun _ h => absurd h (Nat.not_lt_zero _)⟩ (.cons (.bldN (by omega) (fun i hi j hj => ?_)) .nil) (.cons .same (.cons (.hdl rfl rfl) (.cons .same (.cons .same (.cons .same .nil)))))) (fun k hk => ?_)
  · have hz : ∀ i j, j < 4 → i < t.length → [i64 0, i64 0, i64 0, i64 0].getD j (.v Go.undef) = lG rcL rc0 (List.replicate t.length rc0) i j := fun i j hj hi => by
      unfold lG
      have : (List.replicate t.length rc0).getD i rc0 = rc0 := by rw [List.getD, List.getElem?_replicate]; split <;> rfl
      rw [this]
    have hle := lG_set rcL rc0 (List.replicate t.length rc0) ⟨0, 0, w, h⟩ 0 i j 4 [i64 0, i64 0, i64 w, i64 h] rfl (by rw [List.length_replicate]; omega) hj
    rw [← hz i j hj (by omega)] at hle
    exact hle
  obtain ⟨hk, hx⟩ := hk
  have hbl := rT_len t w h kerf k
  have inn := rT_in (t := t) (kerf := kerf) (show 0 ≤ w by omega) (show 0 ≤ h by omega) k0 k hx k
  refine Split.mk (fun hc => ?_) (fun hc => ?_)
  · have hlt : k < t.length := by have := of_decide_eq_true hc; omega
    have ok := jo k hlt
    have bad : posB (rcget (rT t w h kerf k) k) (ndget t k) = false → rectR t w h kerf = ([], false) := fun hb => by
      rw [rectR, if_neg]
      intro hq
      rw [rectB] at hq
      have := allN_iff.1 hq k hlt
      rw [hb] at this; cases this
    have nxt : posB (rcget (rT t w h kerf k) k) (ndget t k) = true → ∀ i, i < k + 1 → posB (rcget (rT t w h kerf i) i) (ndget t i) = true := fun hp i hi => by
      rcases Nat.lt_succ_iff_lt_or_eq.1 hi with hi | rfl
      · exact hx i hi
      · exact hp
    have hrn : rT t w h kerf (k + 1) = if leafI (ndget t k) = true then rT t w h kerf k else ((rT t w h kerf k).set (ndget t k).f.toNat (cutA (rcget (rT t w h kerf k) k) (ndget t k))).set (ndget t k).s.toNat (cutB (rcget (rT t w h kerf k) k) (ndget t k) kerf) := rfl
    have fail2 : ([], false) = rectR t w h kerf → Fin (.tup [.one (.v (.slice none 0 0)), .one (.v (.bool false))]) (rectE (rectR t w h kerf)) := fun e => by
      rw [← e]
      exact Fin.tup (.cons (DLe.one (SLe.nil _ _)) (.cons (DLe.refl _) .nil))
    have i0 := inn.x0; have i1 := inn.y0; have i2 := inn.w0; have i3 := inn.h0; have i4 := inn.x1; have i5 := inn.y1
    refine Need.mk (by omega) ?_
    refine CallW.bool (leaf_det (ndget t k)) (fun b hb => ?_)
    refine Split.mk (fun c1 => ?_) (fun c1 => ?_)
    · have hlp : leafP (ndget t k) = true := by rw [← hb, c1]
      simp only [leafP, Bool.and_eq_true, decide_eq_true_eq] at hlp
      obtain ⟨q1, q2, q3, q4⟩ := hlp
      have hleaf : leafI (ndget t k) = true := by rw [leafI, decide_eq_true q1, decide_eq_true q2]; rfl
      have hpos : posB (rcget (rT t w h kerf k) k) (ndget t k) = true := by rw [posB, if_pos hleaf, decide_eq_true q3]
      rw [if_pos hleaf] at hrn
      exact Adj.back (x := k) (k + 1) ⟨by omega, nxt hpos⟩ (by omega) (.cons (.bld (fun i hi j hj => SLe.of_eq (by rw [hrn]))) .nil) (.cons .same (.cons (.hdl rfl rfl) (.cons .same (.cons .same (.cons (SlotLe.int (hS k (by omega))) .nil)))))
    have hlp : leafP (ndget t k) = false := by rw [← hb, c1]
    refine Need.mk (by omega) ?_
    show Split (ndget t k).v _
    refine Split.mk (fun c2 => ?_) (fun c2 => ?_)
    · have hnl : leafI (ndget t k) = false := by
        cases hq : leafI (ndget t k) with
        | false => rfl
        | true =>
          simp only [leafI, Bool.and_eq_true, decide_eq_true_eq] at hq
          rw [ndOkB, c2, Bool.not_true, Bool.and_false, Bool.false_or, Bool.and_eq_true, inB_iff, inB_iff] at ok
          omega
      have hps : posB (rcget (rT t w h kerf k) k) (ndget t k) = inB (ndget t k).a 1 ((rcget (rT t w h kerf k) k).w - 1) := by rw [posB, if_neg (by rw [hnl]; simp), if_pos c2]
      have e1 : IntKind.i64.wrap ((rcget (rT t w h kerf k) k).w - 1) = (rcget (rT t w h kerf k) k).w - 1 := hw _ (by omega) (by omega)
      refine CallW.bool ((in_det (ndget t k).a 1 ((rcget (rT t w h kerf k) k).w - 1)).le (.cons (DLe.refl _) (.cons (DLe.refl _) (.cons (DLe.of_eq (by rw [← e1]; rfl)) .nil)))) (fun b2 hb2 => ?_)
      refine Split.mk (fun c3 => ?_) (fun c3 => ?_)
      · exact fail2 (bad (by rw [hps, ← hb2]; simpa using c3)).symm
      have hpos : posB (rcget (rT t w h kerf k) k) (ndget t k) = true := by rw [hps, ← hb2]; simpa using c3
      rw [hps, inB_iff] at hpos
      rw [ndOkB, hnl, Bool.false_and, Bool.false_or, Bool.and_eq_true, inB_iff, inB_iff] at ok
      rw [if_neg (by rw [hnl]; simp)] at hrn
      refine Need.mk (⟨by omega, by omega⟩ : 0 ≤ (ndget t k).f ∧ (ndget t k).f < (t.length : Int)) ?_
      refine Cut.mk (Adj.keep [(3, tint kerf), (10, .hdl 16 0), (22, .d (.one (ndS t))), (23, tint t.length), (24, tint k), (12, .ptr 12 0), (13, .ptr 13 0)] [(16, .bld 0 t.length 4 105 (lG rcL rc0 ((rT t w h kerf k).set (ndget t k).f.toNat (cutA (rcget (rT t w h kerf k) k) (ndget t k))))), (12, .box (ndL (ndget t k))), (13, .box (rcL (rcget (rT t w h kerf k) k)))]
        (.cons (.bld (fun i hi j hj => ?_)) (.cons (.box (LLe.of_eq rfl)) (.cons (.box (LLe.of_eq rfl)) .nil))) (.cons .same (.cons (.hdl rfl rfl) (.cons .same (.cons .same (.cons .same (.cons (.box rfl rfl) (.cons (.box rfl rfl) .nil))))))) ?_)
      · exact lG_set rcL rc0 (rT t w h kerf k) (cutA (rcget (rT t w h kerf k) k) (ndget t k)) (ndget t k).f.toNat i j 4 (rcL ⟨(rcget (rT t w h kerf k) k).x, (rcget (rT t w h kerf k) k).y, (ndget t k).a, (rcget (rT t w h kerf k) k).h⟩) (by rw [cutA, if_pos c2]) (by rw [hbl]; exact hi) hj
      refine Need.mk (⟨by omega, by omega⟩ : 0 ≤ (ndget t k).s ∧ (ndget t k).s < (t.length : Int)) ?_
      refine Adj.back (x := k) (k + 1) ⟨by omega, nxt (by rw [hps, inB_iff]; exact hpos)⟩ (by omega) (.cons (.bld (fun i hi j hj => ?_)) .nil) (.cons .same (.cons (.hdl rfl rfl) (.cons .same (.cons .same (.cons (SlotLe.int (hS k (by omega))) .nil)))))
      rw [hrn]
      have w1' : IntKind.i64.wrap ((ndget t k).a + kerf) = (ndget t k).a + kerf := hw _ (by omega) (by omega)
      have w2' : IntKind.i64.wrap (IntKind.i64.wrap ((rcget (rT t w h kerf k) k).w - (ndget t k).a) - kerf) = (rcget (rT t w h kerf k) k).w - (ndget t k).a - kerf := by rw [hw ((rcget (rT t w h kerf k) k).w - (ndget t k).a) (by omega) (by omega), hw _ (by omega) (by omega)]
      have w3' : IntKind.i64.wrap ((rcget (rT t w h kerf k) k).x + (if IntKind.i64.wrap ((ndget t k).a + kerf) < (rcget (rT t w h kerf k) k).w then IntKind.i64.wrap ((ndget t k).a + kerf) else (rcget (rT t w h kerf k) k).w)) = (rcget (rT t w h kerf k) k).x + minI (rcget (rT t w h kerf k) k).w ((ndget t k).a + kerf) := by
        rw [w1', minI]
        split <;> exact hw _ (by omega) (by omega)
      exact lG_set rcL rc0 ((rT t w h kerf k).set (ndget t k).f.toNat (cutA (rcget (rT t w h kerf k) k) (ndget t k))) (cutB (rcget (rT t w h kerf k) k) (ndget t k) kerf) (ndget t k).s.toNat i j 4
        [i64 (IntKind.i64.wrap ((rcget (rT t w h kerf k) k).x + (if IntKind.i64.wrap ((ndget t k).a + kerf) < (rcget (rT t w h kerf k) k).w then IntKind.i64.wrap ((ndget t k).a + kerf) else (rcget (rT t w h kerf k) k).w))), i64 (rcget (rT t w h kerf k) k).y, i64 (if IntKind.i64.wrap (IntKind.i64.wrap ((rcget (rT t w h kerf k) k).w - (ndget t k).a) - kerf) > 0 then IntKind.i64.wrap (IntKind.i64.wrap ((rcget (rT t w h kerf k) k).w - (ndget t k).a) - kerf) else 0), i64 (rcget (rT t w h kerf k) k).h]
        (by rw [w3', w2', cutB, if_pos c2]; rfl) (by rw [List.length_set, hbl]; exact hi) hj
    · show Split ((ndget t k).f == -1) _
      refine Split.mk (fun c3 => ?_) (fun c3 => ?_)
      · repeat' first | refine Split.isT c3 ?_ | refine Split.t ?_ | refine Split.f ?_ | fail
        have c3' : (ndget t k).f = -1 := eq_of_beq c3
        have hlf : leafI (ndget t k) = true := by
          cases hq : leafI (ndget t k) with
          | true => rfl
          | false =>
            rw [ndOkB, hq, Bool.false_and, Bool.false_or, Bool.and_eq_true, inB_iff, inB_iff] at ok
            omega
        refine fail2 (bad ?_).symm
        rw [posB, if_pos hlf]
        refine decide_eq_false fun q => ?_
        simp only [leafI, Bool.and_eq_true, decide_eq_true_eq] at hlf
        rw [leafP, decide_eq_true hlf.1, decide_eq_true hlf.2, decide_eq_true q, show (ndget t k).v = false from c2] at hlp
        cases hlp
      have c3' : ¬ (ndget t k).f = -1 := ne_of_beq_false c3
      have hnl : leafI (ndget t k) = false := by rw [leafI, decide_eq_false c3', Bool.false_and]
      have hps : posB (rcget (rT t w h kerf k) k) (ndget t k) = inB (ndget t k).a 1 ((rcget (rT t w h kerf k) k).h - 1) := by rw [posB, if_neg (by rw [hnl]; simp), if_neg (by rw [show (ndget t k).v = false from c2]; simp)]
      have e1 : IntKind.i64.wrap ((rcget (rT t w h kerf k) k).h - 1) = (rcget (rT t w h kerf k) k).h - 1 := hw _ (by omega) (by omega)
      repeat' first | refine Split.isF c3 ?_ | refine Split.t ?_ | refine Split.f ?_ | fail
      refine CallW.bool ((in_det (ndget t k).a 1 ((rcget (rT t w h kerf k) k).h - 1)).le (.cons (DLe.refl _) (.cons (DLe.refl _) (.cons (DLe.of_eq (by rw [← e1]; rfl)) .nil)))) (fun b2 hb2 => ?_)
      repeat' first | refine Split.isF c3 ?_ | refine Split.t ?_ | refine Split.f ?_ | fail
      refine Split.mk (fun c4 => ?_) (fun c4 => ?_)
      · exact fail2 (bad (by rw [hps, ← hb2]; simpa using c4)).symm
      have hpos : posB (rcget (rT t w h kerf k) k) (ndget t k) = true := by rw [hps, ← hb2]; simpa using c4
      rw [hps, inB_iff] at hpos
      rw [ndOkB, hnl, Bool.false_and, Bool.false_or, Bool.and_eq_true, inB_iff, inB_iff] at ok
      rw [if_neg (by rw [hnl]; simp)] at hrn
      have c2' : ¬ (ndget t k).v = true := by rw [show (ndget t k).v = false from c2]; simp
      refine Need.mk (⟨by omega, by omega⟩ : 0 ≤ (ndget t k).f ∧ (ndget t k).f < (t.length : Int)) ?_
      refine Cut.mk (Adj.keep [(3, tint kerf), (10, .hdl 16 0), (22, .d (.one (ndS t))), (23, tint t.length), (24, tint k), (12, .ptr 12 0), (13, .ptr 13 0)] [(16, .bld 0 t.length 4 105 (lG rcL rc0 ((rT t w h kerf k).set (ndget t k).f.toNat (cutA (rcget (rT t w h kerf k) k) (ndget t k))))), (12, .box (ndL (ndget t k))), (13, .box (rcL (rcget (rT t w h kerf k) k)))]
        (.cons (.bld (fun i hi j hj => ?_)) (.cons (.box (LLe.of_eq rfl)) (.cons (.box (LLe.of_eq rfl)) .nil))) (.cons .same (.cons (.hdl rfl rfl) (.cons .same (.cons .same (.cons .same (.cons (.box rfl rfl) (.cons (.box rfl rfl) .nil))))))) ?_)
      · exact lG_set rcL rc0 (rT t w h kerf k) (cutA (rcget (rT t w h kerf k) k) (ndget t k)) (ndget t k).f.toNat i j 4 (rcL ⟨(rcget (rT t w h kerf k) k).x, (rcget (rT t w h kerf k) k).y, (rcget (rT t w h kerf k) k).w, (ndget t k).a⟩) (by rw [cutA, if_neg c2']) (by rw [hbl]; exact hi) hj
      refine Need.mk (⟨by omega, by omega⟩ : 0 ≤ (ndget t k).s ∧ (ndget t k).s < (t.length : Int)) ?_
      refine Adj.back (x := k) (k + 1) ⟨by omega, nxt (by rw [hps, inB_iff]; exact hpos)⟩ (by omega) (.cons (.bld (fun i hi j hj => ?_)) .nil) (.cons .same (.cons (.hdl rfl rfl) (.cons .same (.cons .same (.cons (SlotLe.int (hS k (by omega))) .nil)))))
      rw [hrn]
      have w1' : IntKind.i64.wrap ((ndget t k).a + kerf) = (ndget t k).a + kerf := hw _ (by omega) (by omega)
      have w2' : IntKind.i64.wrap (IntKind.i64.wrap ((rcget (rT t w h kerf k) k).h - (ndget t k).a) - kerf) = (rcget (rT t w h kerf k) k).h - (ndget t k).a - kerf := by rw [hw ((rcget (rT t w h kerf k) k).h - (ndget t k).a) (by omega) (by omega), hw _ (by omega) (by omega)]
      have w3' : IntKind.i64.wrap ((rcget (rT t w h kerf k) k).y + (if IntKind.i64.wrap ((ndget t k).a + kerf) < (rcget (rT t w h kerf k) k).h then IntKind.i64.wrap ((ndget t k).a + kerf) else (rcget (rT t w h kerf k) k).h)) = (rcget (rT t w h kerf k) k).y + minI (rcget (rT t w h kerf k) k).h ((ndget t k).a + kerf) := by
        rw [w1', minI]
        split <;> exact hw _ (by omega) (by omega)
      exact lG_set rcL rc0 ((rT t w h kerf k).set (ndget t k).f.toNat (cutA (rcget (rT t w h kerf k) k) (ndget t k))) (cutB (rcget (rT t w h kerf k) k) (ndget t k) kerf) (ndget t k).s.toNat i j 4
        [i64 (rcget (rT t w h kerf k) k).x, i64 (IntKind.i64.wrap ((rcget (rT t w h kerf k) k).y + (if IntKind.i64.wrap ((ndget t k).a + kerf) < (rcget (rT t w h kerf k) k).h then IntKind.i64.wrap ((ndget t k).a + kerf) else (rcget (rT t w h kerf k) k).h))), i64 (rcget (rT t w h kerf k) k).w, i64 (if IntKind.i64.wrap (IntKind.i64.wrap ((rcget (rT t w h kerf k) k).h - (ndget t k).a) - kerf) > 0 then IntKind.i64.wrap (IntKind.i64.wrap ((rcget (rT t w h kerf k) k).h - (ndget t k).a) - kerf) else 0)]
        (by rw [w3', w2', cutB, if_neg c2']; rfl) (by rw [List.length_set, hbl]; exact hi) hj
  · have he : k = t.length := by have := of_decide_eq_false hc; omega
    subst he
    have : rectR t w h kerf = (rT t w h kerf t.length, true) := by rw [rectR, if_pos (by rw [rectB]; exact allN_iff.2 hx)]
    rw [this]
    exact Fin.tup (.cons (DLe.one (SLe.slN hbl.symm (fun _ _ _ _ => SLe.refl _))) (.cons (DLe.refl _) .nil))
end St
end Go.Vm
