/-
  Layer 37, plain: the reference's best value is the program's; what a knapsack's taken items add up to.
  Layer 37, plain: a tree that is laid flat is joined; what holds of its nodes; the tree of Best.
-/
import Derived.Test.YtfoblfchkgapoaaStpM
import Derived.Test.YtfoblfchkgapoaaStpS
namespace Go.Vm
set_option maxRecDepth 20000
set_option linter.unusedVariables false
set_option linter.unusedSimpArgs false
open Go Go.RowKit Go.Proofs
namespace St

/-! ### the reference's strips -/
def rsF (ks : List Knd) (kerf w : Int) : Nat → List Itm
  | 0 => []
  | n + 1 => rsF ks kerf w n ++ [⟨(kget ks n).h + kerf, valOf ks kerf w (kget ks n).h⟩]
theorem rsF_len (ks : List Knd) (kerf w : Int) : ∀ n, (rsF ks kerf w n).length = n
  | 0 => rfl
  | n + 1 => by rw [rsF, List.length_append, rsF_len ks kerf w n]; rfl
section
variable {ks : List Knd} {w h kerf : Int} (p : Pb ks w h kerf)
include p
end
/-! ### taken items -/
section
variable {ks : List Knd} {w h kerf : Int} (p : Pb ks w h kerf)
include p
end
end St
end Go.Vm
namespace Go.Vm
set_option maxRecDepth 20000
set_option linter.unusedVariables false
set_option linter.unusedSimpArgs false
open Go Go.RowKit Go.Proofs
namespace St

inductive CT where
  | leaf (k : Int)
  | cut (v : Bool) (a : Int) (l r : CT)
def CT.flat : CT → Nat → List Nd
  | .leaf k, _ => [leafN k]
  | .cut v a l r, b => cutT v a l.flat r.flat b
def CT.size : CT → Nat
  | .leaf _ => 1
  | .cut _ _ l r => 1 + l.size + r.size
def CT.vert : CT → Bool
  | .leaf _ => false
  | .cut v _ _ _ => v
theorem CT.size_pos : ∀ c : CT, 1 ≤ c.size
  | .leaf _ => Nat.le_refl _
  | .cut _ _ l r => by rw [CT.size]; omega
theorem flat_len : ∀ (c : CT) (b : Nat), (c.flat b).length = c.size
  | .leaf _, _ => rfl
  | .cut v a l r, b => by
    rw [CT.flat, cutT, List.length_cons, List.length_append, flat_len l, flat_len r, CT.size]; omega
def At (t : List Nd) : CT → Nat → Prop
  | .leaf k, b => ndget t b = leafN k
  | .cut v a l r, b => ndget t b = ⟨v, a, (b + 1 : Nat), (b + 1 + l.size : Nat), -1⟩ ∧ At t l (b + 1) ∧ At t r (b + 1 + l.size)
theorem at_of {t : List Nd} : ∀ (c : CT) (b : Nat), (∀ i, i < c.size → ndget t (b + i) = (c.flat b).getD i nd0) → At t c b
  | .leaf k, b, h => by
    have := h 0 (Nat.succ_pos _)
    exact this
  | .cut v a l r, b, h => by
    have hs : (CT.cut v a l r).size = 1 + l.size + r.size := rfl
    have e : (CT.cut v a l r).flat b = ⟨v, a, (b + 1 : Nat), (b + 1 + l.size : Nat), -1⟩ :: (l.flat (b + 1) ++ r.flat (b + 1 + l.size)) := by
      rw [CT.flat, cutT, flat_len]
    rw [e, hs] at h
    refine ⟨h 0 (by omega), at_of l (b + 1) (fun i hi => ?_), at_of r (b + 1 + l.size) (fun i hi => ?_)⟩
    · have := h (i + 1) (by omega)
      rw [show b + (i + 1) = b + 1 + i by omega] at this
      rw [this]
      show (l.flat (b + 1) ++ r.flat (b + 1 + l.size)).getD i nd0 = _
      exact getD_app_l _ _ _ _ (by rw [flat_len]; exact hi)
    · have := h (l.size + i + 1) (by omega)
      rw [show b + (l.size + i + 1) = b + 1 + l.size + i by omega] at this
      rw [this]
      show (l.flat (b + 1) ++ r.flat (b + 1 + l.size)).getD (l.size + i) nd0 = _
      rw [getD_app_r _ _ _ _ (by rw [flat_len]; omega), flat_len, Nat.add_sub_cancel_left]
theorem at_flat (c : CT) : At (c.flat 0) c 0 := at_of c 0 (fun i _ => by rw [Nat.zero_add])
theorem leaf_leafN (k : Int) : leafI (leafN k) = true := rfl
theorem cut_nl (v : Bool) (a k : Int) (f s : Nat) : leafI ⟨v, a, (f : Int), (s : Int), k⟩ = false := by
  rw [leafI, decide_eq_false (show ¬ (f : Int) = -1 by omega), Bool.false_and]
theorem at_refs {t : List Nd} : ∀ (c : CT) (b : Nat), At t c b → ∀ i, refs t i (b + c.size) = refs t i b + (if b < i ∧ i < b + c.size then 1 else 0)
  | .leaf k, b, h, i => by
    show refs t i (b + 1) = _
    rw [refs, show ndget t b = leafN k from h, refN, if_pos (leaf_leafN k), if_neg (by show ¬ (b < i ∧ i < b + 1); omega)]
  | .cut v a l r, b, h, i => by
    obtain ⟨h1, h2, h3⟩ := h
    have e1 := at_refs l (b + 1) h2 i
    have e2 := at_refs r (b + 1 + l.size) h3 i
    have hs : (CT.cut v a l r).size = 1 + l.size + r.size := rfl
    have p1 := l.size_pos
    have p2 := r.size_pos
    rw [show b + (CT.cut v a l r).size = b + 1 + l.size + r.size by omega, e2, e1, refs, h1, refN, if_neg (by rw [cut_nl]; simp)]
    simp only [Int.toNat_natCast]
    split <;> split <;> split <;> split <;> split <;> omega
theorem at_ok {t : List Nd} : ∀ (c : CT) (b : Nat), At t c b → b + c.size ≤ t.length → ∀ i, b ≤ i → i < b + c.size → ndOkB t.length i (ndget t i) = true
  | .leaf k, b, h, _, i, i1, i2 => by
    have hs : (CT.leaf k).size = 1 := rfl
    obtain rfl : i = b := by omega
    rw [show ndget t i = leafN k from h]; rfl
  | .cut v a l r, b, h, hl, i, i1, i2 => by
    obtain ⟨h1, h2, h3⟩ := h
    have hs : (CT.cut v a l r).size = 1 + l.size + r.size := rfl
    have p1 := l.size_pos
    have p2 := r.size_pos
    rcases Nat.lt_or_ge i (b + 1) with q | q
    · obtain rfl : i = b := by omega
      rw [h1, ndOkB, inB_iff.2 ⟨by show (i : Int) + 1 ≤ ((i + 1 : Nat) : Int); omega, by show ((i + 1 : Nat) : Int) ≤ (t.length : Int) - 1; omega⟩, inB_iff.2 ⟨by show (i : Int) + 1 ≤ ((i + 1 + l.size : Nat) : Int); omega, by show ((i + 1 + l.size : Nat) : Int) ≤ (t.length : Int) - 1; omega⟩]
      simp
    · rcases Nat.lt_or_ge i (b + 1 + l.size) with q2 | q2
      · exact at_ok l (b + 1) h2 (by omega) i q q2
      · exact at_ok r (b + 1 + l.size) h3 (by omega) i q2 (by omega)
theorem at_joined {c : CT} (hs : c.size ≤ 4000) : joinB (c.flat 0) = true := by
  have hA := at_flat c
  have hl := flat_len c 0
  have hp := c.size_pos
  have a1 : allN (c.flat 0).length (fun i => ndOkB (c.flat 0).length i (ndget (c.flat 0) i)) = true := allN_iff.2 (fun i hi => at_ok c 0 hA (by omega) i (Nat.zero_le _) (by omega))
  have a2 : allN (c.flat 0).length (fun i => decide (i = 0) || decide (iget (pT (c.flat 0) (c.flat 0).length) i = 1)) = true := allN_iff.2 (fun i hi => by
    by_cases h0 : i = 0
    · rw [decide_eq_true h0]; rfl
    · have := at_refs c 0 hA i
      rw [Nat.zero_add, if_pos ⟨by omega, by omega⟩] at this
      rw [pT_refs _ hi, hl, this, show refs (c.flat 0) i 0 = 0 from rfl]
      simp)
  rw [joinB, a1, a2, inB_iff.2 ⟨by omega, by omega⟩]
  rfl
/-! ### rectangles -/
def rT0 (t : List Nd) (w h : Int) : List Rc := (List.replicate t.length rc0).set 0 ⟨0, 0, w, h⟩
theorem rT_tab (t : List Nd) (w h kerf : Int) : ∀ k, rT t w h kerf k = tab rc0 t (fun i r => cutA r (ndget t i)) (fun i r => cutB r (ndget t i) kerf) (rT0 t w h) k
  | 0 => rfl
  | k + 1 => by rw [rT, tab, rT_tab t w h kerf k]
def okC (ks : List Knd) (kerf : Int) : CT → Rc → Prop
  | .leaf k, r => k = -1 ∨ (0 ≤ k ∧ k < ks.length ∧ r.w = (kget ks k.toNat).w ∧ r.h = (kget ks k.toNat).h)
  | .cut v a l r, q => (1 ≤ a ∧ a ≤ (if v = true then q.w else q.h) - 1) ∧ okC ks kerf l (cutA q ⟨v, a, 0, 0, -1⟩) ∧ okC ks kerf r (cutB q ⟨v, a, 0, 0, -1⟩ kerf)
section
variable {t : List Nd} (J : Jn t) {ks : List Knd} {w h kerf : Int}
include J
theorem at_rect : ∀ (c : CT) (b : Nat), At t c b → b + c.size ≤ t.length → okC ks kerf c (rcget (rT t w h kerf t.length) b) → ∀ i, b ≤ i → i < b + c.size →
    posB (rcget (rT t w h kerf t.length) i) (ndget t i) = true ∧ kindOkB ks (rcget (rT t w h kerf t.length) i) (ndget t i) = true
  | .leaf k, b, hA, _, hc, i, i1, i2 => by
    have hs : (CT.leaf k).size = 1 := rfl
    obtain rfl : i = b := by omega
    rw [show ndget t i = leafN k from hA]
    refine ⟨rfl, ?_⟩
    rw [kindOkB, if_pos (leaf_leafN k)]
    rcases hc with q | ⟨q1, q2, q3, q4⟩
    · rw [decide_eq_true q]; rfl
    · rw [inB_iff.2 ⟨q1, by show k ≤ _; omega⟩, decide_eq_true q3, decide_eq_true q4]; simp
  | .cut v a l r, b, hA, hl, hc, i, i1, i2 => by
    obtain ⟨h1, h2, h3⟩ := hA
    obtain ⟨⟨c0, c1⟩, c2, c3⟩ := hc
    have hs : (CT.cut v a l r).size = 1 + l.size + r.size := rfl
    have p1 := l.size_pos
    have p2 := r.size_pos
    have nl : leafI (ndget t b) = false := by rw [h1]; exact cut_nl _ _ _ _ _
    have kid := tab_kid (d := rc0) (gA := fun i r => cutA r (ndget t i)) (gB := fun i r => cutB r (ndget t i) kerf) (T0 := rT0 t w h) J (by simp [rT0]) (p := b) (by omega) nl
    rw [← rT_tab, h1] at kid
    simp only [Int.toNat_natCast] at kid
    obtain ⟨kl, kr⟩ := kid
    rcases Nat.lt_or_ge i (b + 1) with q | q
    · obtain rfl : i = b := by omega
      rw [h1]
      constructor
      · rw [posB, if_neg (by rw [cut_nl]; simp), inB_iff]
        exact ⟨c0, c1⟩
      · rw [kindOkB, if_neg (by rw [cut_nl]; simp)]; rfl
    · rcases Nat.lt_or_ge i (b + 1 + l.size) with q2 | q2
      · exact at_rect l (b + 1) h2 (by omega) (by rw [rcget, kl]; exact c2) i q q2
      · exact at_rect r (b + 1 + l.size) h3 (by omega) (by rw [rcget, kr]; exact c3) i q2 (by omega)
end
theorem at_valid {c : CT} {ks : List Knd} {w h kerf : Int} (p : Pb ks w h kerf) (hs : c.size ≤ 4000) (hc : okC ks kerf c ⟨0, 0, w, h⟩) : validB (c.flat 0) ks w h kerf = true := by
  have hj := at_joined hs
  have J := joined_of hj
  have hl := flat_len c 0
  have root : rcget (rT (c.flat 0) w h kerf (c.flat 0).length) 0 = ⟨0, 0, w, h⟩ := by
    rw [rT_tab]
    have := tab_root (d := rc0) (gA := fun i r => cutA r (ndget (c.flat 0) i)) (gB := fun i r => cutB r (ndget (c.flat 0) i) kerf) (T0 := rT0 (c.flat 0) w h) J
    rw [rcget, this]
    exact getD_set_eq (by rw [List.length_replicate]; exact J.l0)
  have key := at_rect J (ks := ks) (w := w) (h := h) (kerf := kerf) c 0 (at_flat c) (by omega) (by rw [root]; exact hc)
  rw [validB, prob_iff.2 p, hj, rectB, kindB, allN_iff.2 (fun i hi => ?_), allN_iff.2 (fun i hi => (key i (Nat.zero_le _) (by omega)).2)]
  · rfl
  · have := (key i (Nat.zero_le _) (by omega)).1
    rw [rT_tab, rcget, tab_stay J i (Nat.le_refl _) (by omega), ← rT_tab] at this
    exact this
/-! ### stages -/
def okS : CT → Int → Prop
  | .leaf _, _ => True
  | .cut v _ l r, s => s ≤ 3 ∧ okS l (s + (if l.vert = v then 0 else 1)) ∧ okS r (s + (if r.vert = v then 0 else 1))
/-! ### values -/
def valC (ks : List Knd) : CT → Int
  | .leaf k => if inB k 0 (ks.length - 1) = true then (kget ks k.toNat).v else 0
  | .cut _ _ l r => valC ks l + valC ks r
theorem at_val {t : List Nd} {ks : List Knd} : ∀ (c : CT) (b : Nat), At t c b → sumI (b + c.size) (vvI t ks) = sumI b (vvI t ks) + valC ks c
  | .leaf k, b, h => by
    show sumI b (vvI t ks) + vvI t ks b = _
    rw [vvI, show ndget t b = leafN k from h, valC]
    simp [leafP]
  | .cut v a l r, b, h => by
    obtain ⟨h1, h2, h3⟩ := h
    have hs : (CT.cut v a l r).size = 1 + l.size + r.size := rfl
    have e1 := at_val (ks := ks) l (b + 1) h2
    have e2 := at_val (ks := ks) r (b + 1 + l.size) h3
    have z : vvI t ks b = 0 := by
      rw [vvI, h1, if_neg]
      intro q
      have := q.1
      rw [leafP, decide_eq_false (show ¬ ((b + 1 : Nat) : Int) = -1 by omega), Bool.false_and] at this
      cases this
    have e3 : sumI (b + 1) (vvI t ks) = sumI b (vvI t ks) + vvI t ks b := rfl
    rw [show b + (CT.cut v a l r).size = b + 1 + l.size + r.size by omega, e2, e1, e3, z, valC]
    omega
theorem at_value {c : CT} {ks : List Knd} (hs : c.size ≤ 4000) (hks : ∀ k ∈ ks, 0 ≤ k.v ∧ k.v ≤ 1000000) : valS (c.flat 0) ks (c.flat 0).length = valC ks c := by
  have hl := flat_len c 0
  rw [(valS_eq hks _ (by omega)).1, hl]
  have := at_val (ks := ks) c 0 (at_flat c)
  rw [Nat.zero_add] at this
  rw [this]
  show 0 + _ = _
  omega
end St
end Go.Vm
