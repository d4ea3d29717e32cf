/-
  Layer 38: saw cuts do not cross (plain).
  Layer 38: law Saw.
-/
import Derived.Test.YtfoblfchkgapoaaGuiU
namespace Go.Vm
set_option maxRecDepth 20000
set_option linter.unusedVariables false
set_option linter.unusedSimpArgs false
open Go Go.RowKit Go.Proofs
namespace St

/-! ### segments that are parallel to an axis -/
/-- A segment lies on one side of a rectangle. -/
def SepB (s : Sg.Seg) (r : Rc) : Prop := s.b.x ≤ r.x ∨ r.x + r.w ≤ s.a.x ∨ s.b.y ≤ r.y ∨ r.y + r.h ≤ s.a.y
/-- Two rectangles lie apart. -/
def BBs (r q : Rc) : Prop := r.x + r.w ≤ q.x ∨ q.x + q.w ≤ r.x ∨ r.y + r.h ≤ q.y ∨ q.y + q.h ≤ r.y
/-- A rectangle lies within another one. -/
structure SubR (q r : Rc) : Prop where
  x0 : r.x ≤ q.x
  y0 : r.y ≤ q.y
  x1 : q.x + q.w ≤ r.x + r.w
  y1 : q.y + q.h ≤ r.y + r.h
theorem SepB.sub {s : Sg.Seg} {r q : Rc} (h : SepB s r) (k : SubR q r) : SepB s q := by
  have := k.x0; have := k.y0; have := k.x1; have := k.y1
  unfold SepB at *
  omega
theorem BBs.sub {r q p : Rc} (h : BBs r q) (k : SubR p r) : BBs p q := by
  have := k.x0; have := k.y0; have := k.x1; have := k.y1
  unfold BBs at *
  omega
theorem BBs.symm {r q : Rc} (h : BBs r q) : BBs q r := by
  unfold BBs at *
  omega
/-- A segment along an axis, from lower to higher. -/
structure Axl (s : Sg.Seg) : Prop where
  x : s.a.x ≤ s.b.x
  y : s.a.y ≤ s.b.y
  ax : s.a.x = s.b.x ∨ s.a.y = s.b.y
theorem cut_axl {w h : Int} {r : Rc} {n : Nd} (hr : InR w h r) : Axl (cutS r n) := by
  have := hr.w0; have := hr.h0
  unfold cutS
  split
  · exact ⟨Int.le_refl _, by show r.y ≤ r.y + r.h; omega, .inl rfl⟩
  · exact ⟨by show r.x ≤ r.x + r.w; omega, Int.le_refl _, .inr rfl⟩
/-! ### in a rectangle that is cut -/
section
variable {w h kerf : Int} {r : Rc} {n : Nd} (hr : InR w h r) (hk : 0 ≤ kerf) (hl : leafI n = false) (hp : posB r n = true)
include hr hk hl hp
theorem cut_subs : SubR (cutA r n) r ∧ SubR (cutB r n kerf) r ∧ SepB (cutS r n) (cutA r n) ∧ SepB (cutS r n) (cutB r n kerf) ∧ BBs (cutA r n) (cutB r n kerf) := by
  have := hr.w0; have := hr.h0
  rw [posB, if_neg (by rw [hl]; simp), inB_iff] at hp
  unfold cutA cutB cutS SepB BBs
  cases hv : n.v with
  | true =>
    rw [hv] at hp
    simp only [if_true] at hp ⊢
    have a := minI_spec r.w (n.a + kerf)
    have b := maxI_spec (r.w - n.a - kerf)
    generalize minI r.w (n.a + kerf) = x at *
    generalize maxI 0 (r.w - n.a - kerf) = y at *
    exact ⟨⟨Int.le_refl _, Int.le_refl _, by show r.x + n.a ≤ r.x + r.w; omega, Int.le_refl _⟩, ⟨by show r.x ≤ r.x + x; omega, Int.le_refl _, by show r.x + x + y ≤ r.x + r.w; omega, Int.le_refl _⟩, by omega, by omega, by omega⟩
  | false =>
    rw [hv] at hp
    simp only [Bool.false_eq_true, if_false] at hp ⊢
    have a := minI_spec r.h (n.a + kerf)
    have b := maxI_spec (r.h - n.a - kerf)
    generalize minI r.h (n.a + kerf) = x at *
    generalize maxI 0 (r.h - n.a - kerf) = y at *
    exact ⟨⟨Int.le_refl _, Int.le_refl _, Int.le_refl _, by show r.y + n.a ≤ r.y + r.h; omega⟩, ⟨Int.le_refl _, by show r.y ≤ r.y + x; omega, Int.le_refl _, by show r.y + x + y ≤ r.y + r.h; omega⟩, by omega, by omega, by omega⟩
omit hk in
/-- What lies apart of a rectangle lies apart of the rectangle's cut. -/
theorem cut_bb {q : Rc} (hb : BBs r q) : SepB (cutS r n) q := by
  have := hr.w0; have := hr.h0
  rw [posB, if_neg (by rw [hl]; simp), inB_iff] at hp
  unfold cutS SepB
  unfold BBs at hb
  cases hv : n.v with
  | true =>
    rw [hv] at hp
    simp only [if_true] at hp ⊢
    omega
  | false =>
    rw [hv] at hp
    simp only [Bool.false_eq_true, if_false] at hp ⊢
    omega
end
/-! ### the tree -/
/-- A node whose rectangle is known when k nodes are looked at. -/
def Fr (t : List Nd) (k j : Nat) : Prop := j = 0 ∨ ∃ p, p < k ∧ Ch t p j
theorem fin_in {t : List Nd} {w h kerf : Int} (hj : joinB t = true) (hr : rectB t w h kerf = true) (w0 : 0 ≤ w) (h0 : 0 ≤ h) (k0 : 0 ≤ kerf) (j : Nat) : InR w h (rcget (rT t w h kerf t.length) j) := rT_in w0 h0 k0 t.length (fun i hi => rect_at hr hi) j
theorem fin_pos {t : List Nd} {w h kerf : Int} (hj : joinB t = true) (hr : rectB t w h kerf = true) (w0 : 0 ≤ w) (h0 : 0 ≤ h) (k0 : 0 ≤ kerf) {i : Nat} (hi : i < t.length) : posB (rcget (rT t w h kerf t.length) i) (ndget t i) = true := by
  rw [rT_fin (joined_of hj) w h kerf (by omega)]
  exact rect_at hr hi
theorem fin_kid {t : List Nd} {w h kerf : Int} (hj : joinB t = true) (hr : rectB t w h kerf = true) (w0 : 0 ≤ w) (h0 : 0 ≤ h) (k0 : 0 ≤ kerf) {p : Nat} (hp : p < t.length) (hl : leafI (ndget t p) = false) : rcget (rT t w h kerf t.length) (ndget t p).f.toNat = cutA (rcget (rT t w h kerf t.length) p) (ndget t p) ∧ rcget (rT t w h kerf t.length) (ndget t p).s.toNat = cutB (rcget (rT t w h kerf t.length) p) (ndget t p) kerf := by
  have := tab_kid (d := rc0) (gA := fun i r => cutA r (ndget t i)) (gB := fun i r => cutB r (ndget t i) kerf) (T0 := rT0 t w h) (joined_of hj) (by simp [rT0]) hp hl
  rw [rcget, rcget, rcget, rT_tab]
  exact this
section
variable {t : List Nd} {w h kerf : Int} (hj : joinB t = true) (hr : rectB t w h kerf = true) (w0 : 0 ≤ w) (h0 : 0 ≤ h) (k0 : 0 ≤ kerf)
include hj hr w0 h0 k0
theorem sep_all : ∀ k, k ≤ t.length → (∀ i, i < k → leafI (ndget t i) = false → ∀ j, k ≤ j → j < t.length → Fr t k j → SepB (cutS (rcget (rT t w h kerf t.length) i) (ndget t i)) (rcget (rT t w h kerf t.length) j)) ∧ (∀ i j, k ≤ i → i < t.length → k ≤ j → j < t.length → i ≠ j → Fr t k i → Fr t k j → BBs (rcget (rT t w h kerf t.length) i) (rcget (rT t w h kerf t.length) j)) := by
  have J := joined_of hj
  intro k
  induction k with
  | zero =>
    intro _
    refine ⟨fun i hi => absurd hi (Nat.not_lt_zero _), fun i j _ _ _ _ hne a b => ?_⟩
    rcases a with a | ⟨p, hp, _⟩
    · rcases b with b | ⟨p, hp, _⟩
      · exact absurd (a.trans b.symm) hne
      · exact absurd hp (Nat.not_lt_zero _)
    · exact absurd hp (Nat.not_lt_zero _)
  | succ k ih =>
    intro hk
    obtain ⟨I1, I2⟩ := ih (by omega)
    have frk : Fr t k k := by
      rcases Nat.eq_zero_or_pos k with e | e
      · exact .inl e
      · obtain ⟨p, hp, hc⟩ := J.par k e (by omega)
        exact .inr ⟨p, hp, hc⟩
    have step : ∀ j, k + 1 ≤ j → Fr t (k + 1) j → Fr t k j ∨ Ch t k j := fun j hj' a => by
      rcases a with a | ⟨p, hp, hc⟩
      · omega
      · rcases Nat.lt_succ_iff_lt_or_eq.1 hp with hp | rfl
        · exact .inl (.inr ⟨p, hp, hc⟩)
        · exact .inr hc
    have inn := fin_in hj hr w0 h0 k0 k
    have kid : ∀ j, Ch t k j → SubR (rcget (rT t w h kerf t.length) j) (rcget (rT t w h kerf t.length) k) ∧ SepB (cutS (rcget (rT t w h kerf t.length) k) (ndget t k)) (rcget (rT t w h kerf t.length) j) := fun j hc => by
      obtain ⟨s1, s2, s3, s4, s5⟩ := cut_subs inn k0 hc.nl (fin_pos hj hr w0 h0 k0 (by omega))
      obtain ⟨e1, e2⟩ := fin_kid hj hr w0 h0 k0 (by omega) hc.nl
      rcases hc.kid with e | e
      · rw [← e, e1]; exact ⟨s1, s3⟩
      · rw [← e, e2]; exact ⟨s2, s4⟩
    constructor
    · intro i hi hl j hj1 hj2 hf
      rcases Nat.lt_succ_iff_lt_or_eq.1 hi with hi | rfl
      · rcases step j hj1 hf with q | q
        · exact I1 i hi hl j (by omega) hj2 q
        · exact (I1 i hi hl k (Nat.le_refl _) (by omega) frk).sub (kid j q).1
      · rcases step j hj1 hf with q | q
        · exact cut_bb inn hl (fin_pos hj hr w0 h0 k0 (by omega)) (I2 i j (Nat.le_refl _) (by omega) (by omega) hj2 (by omega) frk q)
        · exact (kid j q).2
    · intro i j hi1 hi2 hj1 hj2 hne a b
      rcases step i hi1 a with a | a
      · rcases step j hj1 b with b | b
        · exact I2 i j (by omega) hi2 (by omega) hj2 hne a b
        · exact ((I2 k i (Nat.le_refl _) (by omega) (by omega) hi2 (by omega) frk a).sub (kid j b).1).symm
      · rcases step j hj1 b with b | b
        · exact (I2 k j (Nat.le_refl _) (by omega) (by omega) hj2 (by omega) frk b).sub (kid i a).1
        · obtain ⟨s1, s2, s3, s4, s5⟩ := cut_subs inn k0 a.nl (fin_pos hj hr w0 h0 k0 (by omega))
          obtain ⟨e1, e2⟩ := fin_kid hj hr w0 h0 k0 (by omega) a.nl
          rcases a.kid with e | e
          · rcases b.kid with e' | e'
            · exact absurd (e.symm.trans e') hne
            · rw [← e, ← e', e1, e2]; exact s5
          · rcases b.kid with e' | e'
            · rw [← e, ← e', e1, e2]; exact s5.symm
            · exact absurd (e.symm.trans e') hne
theorem sep_cut {i k : Nat} (hik : i < k) (hk : k < t.length) (hl : leafI (ndget t i) = false) : SepB (cutS (rcget (rT t w h kerf t.length) i) (ndget t i)) (rcget (rT t w h kerf t.length) k) := by
  obtain ⟨p, hp, hc⟩ := (joined_of hj).par k (by omega) hk
  exact (sep_all hj hr w0 h0 k0 k (by omega)).1 i hik hl k (Nat.le_refl _) hk (.inr ⟨p, hp, hc⟩)
end
/-! ### how they meet -/
theorem sgn_mul {a b : Int} (h : Sg.sgnI a * Sg.sgnI b < 0) : (a < 0 ∧ 0 < b) ∨ (0 < a ∧ b < 0) := by
  unfold Sg.sgnI at h
  split at h
  · split at h
    · exact absurd h (by decide)
    · split at h
      · exact .inr ⟨by omega, by omega⟩
      · exact absurd h (by decide)
  · split at h
    · split at h
      · exact .inl ⟨by omega, by omega⟩
      · split at h
        · exact absurd h (by decide)
        · exact absurd h (by decide)
    · rw [Int.zero_mul] at h; omega
structure In60 (s : Sg.Seg) : Prop where
  a0 : 0 ≤ s.a.x
  a1 : 0 ≤ s.a.y
  b0 : s.b.x ≤ 2000
  b1 : s.b.y ≤ 2000
theorem valid60 {s : Sg.Seg} (h : In60 s) (a : Axl s) : Sg.validS s = true := by
  have := h.a0; have := h.a1; have := h.b0; have := h.b1; have := a.x; have := a.y
  rw [Sg.validS, Bool.and_eq_true, Sg.withinV_iff (by decide) (by decide), Sg.withinV_iff (by decide) (by decide)]
  omega
theorem side60 {s : Sg.Seg} {p : Sg.V2} (h : In60 s) (a : Axl s) (p0 : 0 ≤ p.x) (p1 : p.x ≤ 2000) (q0 : 0 ≤ p.y) (q1 : p.y ≤ 2000) : Sg.sideI s p = Sg.sgnI ((s.b.x - s.a.x) * (p.y - s.a.y) - (s.b.y - s.a.y) * (p.x - s.a.x)) := by
  have := h.a0; have := h.a1; have := h.b0; have := h.b1; have := a.x; have := a.y
  have hw' : Sg.withinV p 4000 = true := by rw [Sg.withinV_iff (by decide) (by decide)]; omega
  rw [Sg.sideI, valid60 h a, hw']
  show Sg.turnW s.a s.b p = _
  have bd : ∀ x y : Int, -2000 ≤ x → x ≤ 2000 → -2000 ≤ y → y ≤ 2000 → -4000000 ≤ x * y ∧ x * y ≤ 4000000 := fun x y a b c d => by
    have h1 : x * y ≤ (x.natAbs : Int) * (y.natAbs : Int) := by rw [← Int.natCast_mul, ← Int.natAbs_mul]; omega
    have h2 : -((x.natAbs : Int) * (y.natAbs : Int)) ≤ x * y := by rw [← Int.natCast_mul, ← Int.natAbs_mul]; omega
    have h3 : (x.natAbs : Int) * (y.natAbs : Int) ≤ 2000 * 2000 := Int.mul_le_mul (by omega) (by omega) (by omega) (by decide)
    omega
  have b1 := bd (s.b.x - s.a.x) (p.y - s.a.y) (by omega) (by omega) (by omega) (by omega)
  have b2 := bd (s.b.y - s.a.y) (p.x - s.a.x) (by omega) (by omega) (by omega) (by omega)
  simp only [Sg.turnW, Sg.crossW, Sg.subW]
  rw [Sg.wid' (n := s.b.x - s.a.x) (by omega) (by omega), Sg.wid' (n := p.y - s.a.y) (by omega) (by omega), Sg.wid' (n := s.b.y - s.a.y) (by omega) (by omega), Sg.wid' (n := p.x - s.a.x) (by omega) (by omega),
    Sg.wid' (n := (s.b.x - s.a.x) * (p.y - s.a.y)) (by omega) (by omega), Sg.wid' (n := (s.b.y - s.a.y) * (p.x - s.a.x)) (by omega) (by omega), Sg.wid' (by omega) (by omega)]
theorem mul_pos_l {a u : Int} (h : 0 ≤ a) (q : 0 < a * u) : 0 < u := by
  refine Classical.byContradiction fun c => ?_
  have := Int.mul_le_mul_of_nonneg_left (show u ≤ 0 by omega) h
  omega
theorem mul_neg_l {a u : Int} (h : 0 ≤ a) (q : a * u < 0) : u < 0 := by
  refine Classical.byContradiction fun c => ?_
  have := Int.mul_nonneg h (show 0 ≤ u by omega)
  omega
/-- Two points strictly on different sides of a segment along an axis. -/
theorem opp {s : Sg.Seg} {p q : Sg.V2} (hs : In60 s) (axs : Axl s) (p0 : 0 ≤ p.x) (p1 : p.x ≤ 2000) (p2 : 0 ≤ p.y) (p3 : p.y ≤ 2000) (q0 : 0 ≤ q.x) (q1 : q.x ≤ 2000) (q2 : 0 ≤ q.y) (q3 : q.y ≤ 2000) (px : p.x ≤ q.x) (py : p.y ≤ q.y) (h : Sg.sideI s p * Sg.sideI s q < 0) :
    (s.a.x = s.b.x → p.x < s.a.x ∧ s.a.x < q.x) ∧ (s.a.y = s.b.y → p.y < s.a.y ∧ s.a.y < q.y) := by
  rw [side60 hs axs p0 p1 p2 p3, side60 hs axs q0 q1 q2 q3] at h
  have k := sgn_mul h
  have sx := axs.x
  have sy := axs.y
  constructor
  · intro e
    rw [show s.b.x - s.a.x = 0 by omega, Int.zero_mul, Int.zero_mul, Int.zero_sub, Int.zero_sub] at k
    rcases k with ⟨a, b⟩ | ⟨a, b⟩
    · have u := mul_pos_l (show 0 ≤ s.b.y - s.a.y by omega) (show 0 < (s.b.y - s.a.y) * (p.x - s.a.x) by omega)
      have v := mul_neg_l (show 0 ≤ s.b.y - s.a.y by omega) (show (s.b.y - s.a.y) * (q.x - s.a.x) < 0 by omega)
      omega
    · have u := mul_neg_l (show 0 ≤ s.b.y - s.a.y by omega) (show (s.b.y - s.a.y) * (p.x - s.a.x) < 0 by omega)
      have v := mul_pos_l (show 0 ≤ s.b.y - s.a.y by omega) (show 0 < (s.b.y - s.a.y) * (q.x - s.a.x) by omega)
      omega
  · intro e
    rw [show s.b.y - s.a.y = 0 by omega, Int.zero_mul, Int.zero_mul, Int.sub_zero, Int.sub_zero] at k
    rcases k with ⟨a, b⟩ | ⟨a, b⟩
    · have u := mul_neg_l (show 0 ≤ s.b.x - s.a.x by omega) a
      have v := mul_pos_l (show 0 ≤ s.b.x - s.a.x by omega) b
      omega
    · have u := mul_pos_l (show 0 ≤ s.b.x - s.a.x by omega) a
      have v := mul_neg_l (show 0 ≤ s.b.x - s.a.x by omega) b
      omega
theorem on_box {s : Sg.Seg} {p : Sg.V2} (a : Axl s) (h : Sg.onB s p = true) : s.a.x ≤ p.x ∧ p.x ≤ s.b.x ∧ s.a.y ≤ p.y ∧ p.y ≤ s.b.y := by
  rw [Sg.onB, Bool.and_eq_true, Bool.and_eq_true] at h
  have hb := h.1.2
  simp only [Sg.inBoxB, Bool.and_eq_true, decide_eq_true_eq] at hb
  have x := a.x
  have y := a.y
  have e1 : Sg.minI s.a.x s.b.x = s.a.x := by unfold Sg.minI; split <;> omega
  have e2 : Sg.maxI s.a.x s.b.x = s.b.x := by unfold Sg.maxI; split <;> omega
  have e3 : Sg.minI s.a.y s.b.y = s.a.y := by unfold Sg.minI; split <;> omega
  have e4 : Sg.maxI s.a.y s.b.y = s.b.y := by unfold Sg.maxI; split <;> omega
  rw [e1, e2, e3, e4] at hb
  omega
theorem sort_one {c : Sg.V2} : ∀ l : List Sg.V2, (∀ p ∈ l, p = c) → (Sg.sortV l).length ≤ 1 := by
  have key : ∀ (l o : List Sg.V2), (o = [] ∨ o = [c]) → (∀ p ∈ l, p = c) → (l.foldl Sg.insV o).length ≤ 1 := by
    intro l
    induction l with
    | nil =>
      intro o ho _
      rcases ho with rfl | rfl
      · exact Nat.zero_le _
      · exact Nat.le_refl _
    | cons x l ih =>
      intro o ho hl
      obtain rfl := hl x (by simp)
      refine ih _ (.inr ?_) (fun p hp => hl p (by simp [hp]))
      rcases ho with rfl | rfl
      · rfl
      · have : Sg.lessB x x = false := by simp [Sg.lessB]
        show (if Sg.lessB x x = true then x :: Sg.insV [] x else if x = x then [x] else x :: [x]) = [x]
        rw [this, if_neg (by simp), if_pos rfl]
  intro l hl
  exact key l [] (.inl rfl) hl
theorem no_meet {w h : Int} {r : Rc} {n : Nd} {t : Sg.Seg} (w1 : w ≤ 2000) (h1 : h ≤ 2000) (hr : InR w h r) (hl : leafI n = false) (hp : posB r n = true) (at' : Axl t) (ht : In60 t) (sep : SepB t r) : Sg.rmeetI (cutS r n) t ≠ 2 ∧ Sg.rmeetI (cutS r n) t ≠ 3 := by
  have i0 := hr.x0; have i1 := hr.y0; have i2 := hr.w0; have i3 := hr.h0; have i4 := hr.x1; have i5 := hr.y1
  have axs := cut_axl (n := n) hr
  rw [posB, if_neg (by rw [hl]; simp), inB_iff] at hp
  have tx := at'.x
  have ty := at'.y
  have hs : In60 (cutS r n) := by
    unfold cutS
    cases hv : n.v with
    | true =>
      rw [hv] at hp
      simp only [if_true] at hp ⊢
      exact ⟨by show 0 ≤ r.x + n.a; omega, i1, by show r.x + n.a ≤ 2000; omega, by show r.y + r.h ≤ 2000; omega⟩
    | false =>
      rw [hv] at hp
      simp only [Bool.false_eq_true, if_false] at hp ⊢
      exact ⟨i0, by show 0 ≤ r.y + n.a; omega, by show r.x + r.w ≤ 2000; omega, by show r.y + n.a ≤ 2000; omega⟩
  have cs : (n.v = true ∧ cutS r n = ⟨⟨r.x + n.a, r.y⟩, ⟨r.x + n.a, r.y + r.h⟩⟩ ∧ 1 ≤ n.a ∧ n.a ≤ r.w - 1) ∨ (n.v = false ∧ cutS r n = ⟨⟨r.x, r.y + n.a⟩, ⟨r.x + r.w, r.y + n.a⟩⟩ ∧ 1 ≤ n.a ∧ n.a ≤ r.h - 1) := by
    unfold cutS
    cases hv : n.v with
    | true =>
      rw [hv] at hp
      simp only [if_true] at hp ⊢
      exact .inl ⟨trivial, trivial, hp.1, hp.2⟩
    | false =>
      rw [hv] at hp
      simp only [Bool.false_eq_true, if_false] at hp ⊢
      exact .inr ⟨trivial, trivial, hp.1, hp.2⟩
  unfold SepB at sep
  have one : (Sg.commonL (cutS r n) t).length ≤ 1 := by
    suffices hc : ∃ c, ∀ p, Sg.onB (cutS r n) p = true → Sg.onB t p = true → p = c by
      obtain ⟨c, hc⟩ := hc
      refine sort_one (c := c) _ (fun p q => ?_)
      obtain ⟨_, q⟩ := List.mem_filter.1 q
      rw [Sg.bothB, Bool.and_eq_true] at q
      exact hc p q.1 q.2
    rcases cs with ⟨_, e, a0, a1⟩ | ⟨_, e, a0, a1⟩
    · rcases sep with c | c | c | c
      · refine ⟨v20, fun p q1 q2 => ?_⟩
        have b1 := on_box axs q1
        have b2 := on_box at' q2
        rw [e] at b1
        replace b1 : r.x + n.a ≤ p.x ∧ p.x ≤ r.x + n.a ∧ r.y ≤ p.y ∧ p.y ≤ r.y + r.h := b1
        omega
      · refine ⟨v20, fun p q1 q2 => ?_⟩
        have b1 := on_box axs q1
        have b2 := on_box at' q2
        rw [e] at b1
        replace b1 : r.x + n.a ≤ p.x ∧ p.x ≤ r.x + n.a ∧ r.y ≤ p.y ∧ p.y ≤ r.y + r.h := b1
        omega
      · refine ⟨⟨r.x + n.a, r.y⟩, fun p q1 q2 => ?_⟩
        have b1 := on_box axs q1
        have b2 := on_box at' q2
        rw [e] at b1
        replace b1 : r.x + n.a ≤ p.x ∧ p.x ≤ r.x + n.a ∧ r.y ≤ p.y ∧ p.y ≤ r.y + r.h := b1
        exact Sg.V2.ext (by show p.x = r.x + n.a; omega) (by show p.y = r.y; omega)
      · refine ⟨⟨r.x + n.a, r.y + r.h⟩, fun p q1 q2 => ?_⟩
        have b1 := on_box axs q1
        have b2 := on_box at' q2
        rw [e] at b1
        replace b1 : r.x + n.a ≤ p.x ∧ p.x ≤ r.x + n.a ∧ r.y ≤ p.y ∧ p.y ≤ r.y + r.h := b1
        exact Sg.V2.ext (by show p.x = r.x + n.a; omega) (by show p.y = r.y + r.h; omega)
    · rcases sep with c | c | c | c
      · refine ⟨⟨r.x, r.y + n.a⟩, fun p q1 q2 => ?_⟩
        have b1 := on_box axs q1
        have b2 := on_box at' q2
        rw [e] at b1
        replace b1 : r.x ≤ p.x ∧ p.x ≤ r.x + r.w ∧ r.y + n.a ≤ p.y ∧ p.y ≤ r.y + n.a := b1
        exact Sg.V2.ext (by show p.x = r.x; omega) (by show p.y = r.y + n.a; omega)
      · refine ⟨⟨r.x + r.w, r.y + n.a⟩, fun p q1 q2 => ?_⟩
        have b1 := on_box axs q1
        have b2 := on_box at' q2
        rw [e] at b1
        replace b1 : r.x ≤ p.x ∧ p.x ≤ r.x + r.w ∧ r.y + n.a ≤ p.y ∧ p.y ≤ r.y + n.a := b1
        exact Sg.V2.ext (by show p.x = r.x + r.w; omega) (by show p.y = r.y + n.a; omega)
      · refine ⟨v20, fun p q1 q2 => ?_⟩
        have b1 := on_box axs q1
        have b2 := on_box at' q2
        rw [e] at b1
        replace b1 : r.x ≤ p.x ∧ p.x ≤ r.x + r.w ∧ r.y + n.a ≤ p.y ∧ p.y ≤ r.y + n.a := b1
        omega
      · refine ⟨v20, fun p q1 q2 => ?_⟩
        have b1 := on_box axs q1
        have b2 := on_box at' q2
        rw [e] at b1
        replace b1 : r.x ≤ p.x ∧ p.x ≤ r.x + r.w ∧ r.y + n.a ≤ p.y ∧ p.y ≤ r.y + n.a := b1
        omega
  have ncr : Sg.crossB (cutS r n) t = false := by
    cases hq : Sg.crossB (cutS r n) t with
    | false => rfl
    | true =>
      exfalso
      rw [Sg.crossB, Bool.and_eq_true, decide_eq_true_eq, decide_eq_true_eq] at hq
      obtain ⟨q1, q2⟩ := hq
      have t0 := ht.a0; have t1 := ht.a1; have t2 := ht.b0; have t3 := ht.b1
      have s0 := hs.a0; have s1 := hs.a1; have s2 := hs.b0; have s3 := hs.b1
      have sx := axs.x
      have sy := axs.y
      have o1 := opp hs axs t0 (by omega) t1 (by omega) (by omega) t2 (by omega) t3 tx ty q1
      have o2 := opp ht at' s0 (by omega) s1 (by omega) (by omega) s2 (by omega) s3 sx sy q2
      have ax := at'.ax
      rcases cs with ⟨_, e, a0, a1⟩ | ⟨_, e, a0, a1⟩
      · rw [e] at o1 o2
        have p1 := o1.1 rfl
        replace p1 : t.a.x < r.x + n.a ∧ r.x + n.a < t.b.x := p1
        rcases ax with ax | ax
        · omega
        · have p2 := o2.2 ax
          replace p2 : r.y < t.a.y ∧ t.a.y < r.y + r.h := p2
          omega
      · rw [e] at o1 o2
        have p1 := o1.2 rfl
        replace p1 : t.a.y < r.y + n.a ∧ r.y + n.a < t.b.y := p1
        rcases ax with ax | ax
        · have p2 := o2.1 ax
          replace p2 : r.x < t.a.x ∧ t.a.x < r.x + r.w := p2
          omega
        · omega
  unfold Sg.rmeetI
  split
  · exact ⟨by decide, by decide⟩
  · rw [if_neg (by omega)]
    split
    · exact ⟨by decide, by decide⟩
    · rw [ncr, if_neg (by simp)]
      exact ⟨by decide, by decide⟩
end St
end Go.Vm
namespace Go.Vm
set_option maxRecDepth 20000
set_option linter.unusedVariables false
set_option linter.unusedSimpArgs false
open Go Go.RowKit Go.Proofs
namespace St

structure SegOk (w h : Int) (s : Sg.Seg) : Prop where
  a0 : 0 ≤ s.a.x
  a1 : 0 ≤ s.a.y
  b0 : s.b.x ≤ w
  b1 : s.b.y ≤ h
theorem saw_ok {t : List Nd} {w h kerf : Int} (hj : joinB t = true) (hr : rectB t w h kerf = true) (w0 : 0 ≤ w) (w1 : w ≤ 2000) (h0 : 0 ≤ h) (h1 : h ≤ 2000) (k0 : 0 ≤ kerf) : ∀ k, k ≤ t.length →
    (∀ x ∈ sawL t w h kerf k, SegOk w h x ∧ Axl x ∧ ∃ j, j < k ∧ leafI (ndget t j) = false ∧ x = cutS (rcget (rT t w h kerf t.length) j) (ndget t j)) ∧ (sawL t w h kerf k).Pairwise (fun a b => Sg.rmeetI b a ≠ 2 ∧ Sg.rmeetI b a ≠ 3) := by
  intro k
  induction k with
  | zero => intro _; exact ⟨(fun x hx => by cases hx), List.Pairwise.nil⟩
  | succ k ih =>
    intro hk
    obtain ⟨i1, i2⟩ := ih (by omega)
    have e : sawL t w h kerf (k + 1) = if (ndget t k).f = -1 then sawL t w h kerf k else sawL t w h kerf k ++ [cutS (rcget (rT t w h kerf k) k) (ndget t k)] := rfl
    rw [← rT_fin (joined_of hj) w h kerf (by omega)] at e
    rw [e]
    split
    · exact ⟨fun x hx => by obtain ⟨a, b, j, c, d⟩ := i1 x hx; exact ⟨a, b, j, by omega, d⟩, i2⟩
    · rename_i hf
      have hl : leafI (ndget t k) = false := by rw [leafI, decide_eq_false hf, Bool.false_and]
      have inn := fin_in hj hr w0 h0 k0 k
      have pos := fin_pos hj hr w0 h0 k0 (i := k) (by omega)
      have ax := cut_axl (n := ndget t k) inn
      have okk : SegOk w h (cutS (rcget (rT t w h kerf t.length) k) (ndget t k)) := by
        have j0 := inn.x0; have j1 := inn.y0; have j2 := inn.w0; have j3 := inn.h0; have j4 := inn.x1; have j5 := inn.y1
        rw [posB, if_neg (by rw [hl]; simp), inB_iff] at pos
        generalize rcget (rT t w h kerf t.length) k = r at *
        unfold cutS
        cases hv : (ndget t k).v with
        | true =>
          rw [hv] at pos
          simp only [if_true] at pos ⊢
          exact ⟨by show 0 ≤ r.x + (ndget t k).a; omega, j1, by show r.x + (ndget t k).a ≤ w; omega, j5⟩
        | false =>
          rw [hv] at pos
          simp only [Bool.false_eq_true, if_false] at pos ⊢
          exact ⟨j0, by show 0 ≤ r.y + (ndget t k).a; omega, j4, by show r.y + (ndget t k).a ≤ h; omega⟩
      constructor
      · intro x hx
        rcases List.mem_append.1 hx with hx | hx
        · obtain ⟨a, b, j, c, d⟩ := i1 x hx; exact ⟨a, b, j, by omega, d⟩
        · obtain rfl := List.mem_singleton.1 hx
          exact ⟨okk, ax, k, Nat.lt_succ_self _, hl, rfl⟩
      · refine List.pairwise_append.2 ⟨i2, List.pairwise_singleton _ _, fun a ha b hb => ?_⟩
        obtain rfl := List.mem_singleton.1 hb
        obtain ⟨oa, aa, j, hjk, hlj, rfl⟩ := i1 a ha
        exact no_meet w1 h1 inn hl pos aa ⟨oa.a0, oa.a1, by have := oa.b0; omega, by have := oa.b1; omega⟩ (sep_cut hj hr w0 h0 k0 hjk (by omega) hlj)
theorem saw_good (t : List Nd) (w h kerf : Int) : (∀ i, i < (sawR t w h kerf).1.length → SegOk w h ((sawR t w h kerf).1.getD i sg0)) ∧ ∀ i k, i < (sawR t w h kerf).1.length → k < i → Sg.rmeetI ((sawR t w h kerf).1.getD i sg0) ((sawR t w h kerf).1.getD k sg0) ≠ 2 ∧ Sg.rmeetI ((sawR t w h kerf).1.getD i sg0) ((sawR t w h kerf).1.getD k sg0) ≠ 3 := by
  rw [saw_eq, rsawR]
  cases hok : okT t w h kerf with
  | false =>
    rw [if_neg (by simp)]
    exact ⟨fun i hi => absurd hi (Nat.not_lt_zero _), fun i k hi => absurd hi (Nat.not_lt_zero _)⟩
  | true =>
    rw [if_pos rfl]
    rw [okT, Bool.and_eq_true, Bool.and_eq_true] at hok
    obtain ⟨hp, hj, hb⟩ := hok
    have p := prob_iff.1 hp
    have w0 := p.w0; have h0 := p.h0
    obtain ⟨a, b⟩ := saw_ok hj (boxOk_rect hb) (by omega) p.w1 (by omega) p.h1 p.k0 t.length (Nat.le_refl _)
    constructor
    · intro i hi
      rw [List.getD, List.getElem?_eq_getElem hi]
      exact (a _ (List.getElem_mem hi)).1
    · intro i k hi hk
      have hk' : k < (sawL t w h kerf t.length).length := Nat.lt_trans hk hi
      rw [List.getD, List.getElem?_eq_getElem hi, List.getD, List.getElem?_eq_getElem hk']
      exact List.pairwise_iff_getElem.1 b k i hk' hi hk
theorem EqW.sgr {K : Bool → Prop} (a : Sg.Seg) (k : K true) : EqW Try.prog 64 (Sg.sL a) (Sg.sL a) K := ⟨_, eq64 a.a.x a.a.y a.b.x a.b.y a.a.x a.a.y a.b.x a.b.y, by rw [decide_eq_true rfl]; exact k⟩
theorem lgsaw_det (z : Pz) (t : List Nd) (hlt : t.length ≤ maxLen) : Det Try.prog 11 [.agg (pzL z), .one (ndS t)] (tbool true) := by
  refine det_of_awp TTok mixed Try.func11 rfl rfl [] (Nat.le_of_ble_eq_true rfl) ?_
  refine CallW.mk' awake38_det ?_
  refine Split.f ?_
  refine Split.mk (fun c1 => ?_) (fun c1 => ?_)
  · repeat' first | refine Split.isT c1 ?_ | refine Split.t ?_ | refine Split.f ?_ | fail
    exact Fin.rfl'
  repeat' first | refine Split.isF c1 ?_ | refine Split.t ?_ | refine Split.f ?_ | fail
  refine Split.mk (fun c2 => ?_) (fun c2 => ?_)
  · repeat' first | refine Split.isT c2 ?_ | refine Split.isF c1 ?_ | refine Split.t ?_ | refine Split.f ?_ | fail
    exact Fin.rfl'
  repeat' first | refine Split.isF c2 ?_ | refine Split.isF c1 ?_ | refine Split.t ?_ | refine Split.f ?_ | fail
  refine Split.mk (fun c3 => ?_) (fun c3 => ?_)
  · exact Fin.rfl'
  have htl : t.length ≤ 300 := by have := of_decide_eq_false c3; omega
  refine CallW.nds (own_det t (by omega)) ?_
  refine CallW.sg (saw_det t z.w z.h z.kerf (by omega)) (fun x hx => ?_)
  refine Need.mk (by kernel_rfl) ?_
  refine CallW.sg ((rsaw_det t z.w z.h z.kerf (by omega)).eq (by rw [← hx])) (fun y hy => ?_)
  subst hy
  obtain ⟨g1, g2⟩ := saw_good t z.w z.h z.kerf
  have hlen : y.1.length ≤ 300 := by
    rw [hx, sawR]
    split
    · exact Nat.le_trans (sawL_len t _ _ _ _) htl
    · exact Nat.zero_le _
  rw [← hx] at g1 g2
  clear hx
  obtain ⟨L, e⟩ := y
  replace hlen : L.length ≤ 300 := hlen
  replace g1 : ∀ i, i < L.length → SegOk z.w z.h (L.getD i sg0) := g1
  replace g2 : ∀ i k, i < L.length → k < i → Sg.rmeetI (L.getD i sg0) (L.getD k sg0) ≠ 2 ∧ Sg.rmeetI (L.getD i sg0) (L.getD k sg0) ≠ 3 := g2
  have f1 : (e != e) = false := bne_self_eq_false _
  have f2 : ((L.length : Int) != (L.length : Int)) = false := bne_self_eq_false _
  refine Split.isF f1 ?_
  repeat' first | refine Split.isF f1 ?_ | refine Split.t ?_ | refine Split.f ?_ | fail
  refine Split.isF f2 ?_
  refine Loop.by (α := Nat) (fun k => [(2, .ptr 2 0), (5, .d (.one (sgS L))), (7, .d (.one (sgS L))), (60, .d (.one (sgS L))), (61, tint L.length), (62, tint k)]) (fun _ => [(2, .box (pzL z))]) (fun k => k ≤ L.length) (fun k => L.length - k)
    (Adj.at 0 (Nat.zero_le _) (.cons (.box (LLe.refl _)) .nil) (.cons (.box rfl rfl) (.cons .same (.cons .same (.cons .same (.cons .same (.cons .same .nil))))))) (fun k hk => ?_)
  refine Split.mk (fun d1 => ?_) (fun d1 => ?_)
  · have hlt : k < L.length := by have := of_decide_eq_true d1; omega
    have ix : 0 ≤ (k : Int) ∧ (k : Int) < (L.length : Int) := by omega
    have g := g1 k hlt
    have h1 : decide ((L.getD k sg0).a.x < 0) = false := decide_eq_false (by have := g.a0; omega)
    have h2 : decide ((L.getD k sg0).a.y < 0) = false := decide_eq_false (by have := g.a1; omega)
    have h3 : decide ((L.getD k sg0).b.x > z.w) = false := decide_eq_false (by have := g.b0; omega)
    have h4 : decide ((L.getD k sg0).b.y > z.h) = false := decide_eq_false (by have := g.b1; omega)
    refine Need.mk ix ?_
    refine Need.mk ix ?_
    refine EqW.sgr (L.getD k sg0) ?_
    repeat' first | refine Split.isF h1 ?_ | refine Split.isF h2 ?_ | refine Split.isF h3 ?_ | refine Split.isF h4 ?_ | refine Need.mk ix ?_ | refine Split.t ?_ | refine Split.f ?_ | fail
    refine Need.mk (by kernel_rfl) ?_
    repeat' first | refine Split.isF h4 ?_ | refine Split.t ?_ | refine Split.f ?_ | fail
    refine Loop.by (α := Nat) (fun i => [(2, .ptr 2 0), (5, .d (.one (sgS L))), (7, .d (.one (sgS L))), (60, .d (.one (sgS L))), (61, tint L.length), (62, tint k), (9, tint k), (114, tint k), (115, tint i)]) (fun _ => [(2, .box (pzL z))]) (fun i => i ≤ k) (fun i => k - i)
      (Adj.at 0 (Nat.zero_le _) (.cons (.box (LLe.refl _)) .nil) (.cons (.box rfl rfl) (.cons .same (.cons .same (.cons .same (.cons .same (.cons .same (.cons .same (.cons .same (.cons .same .nil)))))))))) (fun i hi => ?_)
    refine Split.mk (fun d2 => ?_) (fun d2 => ?_)
    · have hil : i < k := by have := of_decide_eq_true d2; omega
      have iy : 0 ≤ (i : Int) ∧ (i : Int) < (L.length : Int) := by omega
      obtain ⟨m2, m3⟩ := g2 k i hlt hil
      refine Need.mk ix ?_
      refine Need.mk iy ?_
      refine CallW.int (Sg.rmeet_det (L.getD k sg0) (L.getD i sg0)) (fun m hm => ?_)
      rw [← hm] at m2 m3
      refine Need.mk (by kernel_rfl) ?_
      have f3 : (m == 2) = false := by simpa using m2
      have f4 : (m == 3) = false := by simpa using m3
      refine Split.isF f3 ?_
      repeat' first | refine Split.isF f3 ?_ | refine Split.isF f4 ?_ | refine Split.t ?_ | refine Split.f ?_ | fail
      exact Adj.back (x := i) (i + 1) (by omega) (by omega) (.cons (.box (LLe.refl _)) .nil) (.cons (.box rfl rfl) (.cons .same (.cons .same (.cons .same (.cons .same (.cons .same (.cons .same (.cons .same (.cons (SlotLe.int (hS i (by omega))) .nil)))))))))
    exact Adj.back (x := k) (k + 1) (by omega) (by omega) (.cons (.box (LLe.refl _)) .nil) (.cons (.box rfl rfl) (.cons .same (.cons .same (.cons .same (.cons .same (.cons (SlotLe.int (hS k (by omega))) .nil))))))
  exact Fin.rfl'
theorem lgsaw_all : ∀ dvs, TypL Try.prog Try.f11.params.toList dvs → Det Try.prog 11 dvs (tbool true) := by
  intro dvs h
  obtain ⟨v0, r0, rfl, h0, q0⟩ := TypL.inv_cons (t := 24) (ts := [37]) h
  obtain ⟨v1, r1, rfl, h1, q1⟩ := TypL.inv_cons (t := 37) (ts := []) q0
  obtain rfl := TypL.inv_nil q1
  obtain ⟨z, hz, _, _, _, hle⟩ := pzIn h0
  obtain ⟨l, hl, hle2⟩ := ndsIn h1
  exact Det.le (.cons hle (.cons hle2 .nil)) (lgsaw_det z l hl)
end St
end Go.Vm
