/-
  Layer 26: the plain law of a row, and the law BarApart.
-/
import Derived.Test.YtlckiecpelchlaaBarH
namespace Go.Vm
set_option maxRecDepth 20000
set_option linter.unusedVariables false
set_option linter.unusedSimpArgs false
open Go Go.RowKit Go.Proofs

theorem wid {n : Int} (h1 : -9223372036854775808 ≤ n) (h2 : n < 9223372036854775808) : IntKind.i64.wrap n = n := w64_id ⟨h1, h2⟩
theorem wid' {n : Int} (h1 : -9223372036854775808 ≤ n) (h2 : n < 9223372036854775808) : w64 n = n := w64_id ⟨h1, h2⟩

structure VP (p : BP) : Prop where
  l1 : 1 ≤ p.len
  l2 : p.len ≤ 2000
  a1 : -200 ≤ p.left
  a2 : p.left ≤ 200
  b1 : -200 ≤ p.right
  b2 : p.right ≤ 200
  t1 : 1 ≤ p.len + p.left + p.right
  t2 : p.len + p.left + p.right ≤ 2000
  tt : topI p = p.len + p.left + p.right
theorem VP.of {p : BP} (h : validP p = true) : VP p := by
  simp only [validP, withinI, Bool.and_eq_true, decide_eq_true_eq] at h
  obtain ⟨⟨⟨⟨h1, h2⟩, h3, h4⟩, h5, h6⟩, h7, h8⟩ := h
  have e : topI p = p.len + p.left + p.right := by
    unfold topI
    simp (disch := omega) only [wid']
  rw [e] at h7 h8
  exact ⟨by omega, by omega, by omega, by omega, by omega, by omega, by omega, by omega, e⟩
theorem VP.valid {p : BP} (h : VP p) : validP p = true := by
  obtain ⟨h1, h2, h3, h4, h5, h6, h7, h8, h9⟩ := h
  simp only [validP, withinI, Bool.and_eq_true, decide_eq_true_eq, h9]
  omega
/-- A valid row. -/
structure VR (n : Nat) (R : Nat → BP) (kerf : Int) : Prop where
  n40 : n ≤ 40
  k0 : 0 ≤ kerf
  k1 : kerf ≤ 100
  vp : ∀ i, i < n → VP (R i)
theorem VR.of {n : Nat} {R : Nat → BP} {kerf : Int} (h : smallB n R kerf = true) : VR n R kerf := by
  simp only [smallB, Bool.and_eq_true, decide_eq_true_eq] at h
  refine ⟨by omega, by omega, by omega, fun i hi => VP.of ?_⟩
  have := okFrom_at h.1.1.1 i hi
  rwa [Nat.zero_add] at this

theorem maxI_0 (y : Int) : 0 ≤ maxI 0 y ∧ y ≤ maxI 0 y ∧ (maxI 0 y = 0 ∨ maxI 0 y = y) := by
  unfold maxI
  split <;> omega
theorem place_b {n : Nat} {R : Nat → BP} {kerf : Int} (h : VR n R kerf) : ∀ i, i < n → 0 ≤ placeI R kerf i ∧ placeI R kerf i ≤ 200 + 2500 * i
  | 0, hi => by
    obtain ⟨h1, h2, h3, h4, h5, h6, h7, h8, h9⟩ := h.vp 0 hi
    simp only [placeI]
    have := maxI_0 (R 0).left
    omega
  | i + 1, hi => by
    have ih := place_b h i (by omega)
    obtain ⟨h1, h2, h3, h4, h5, h6, h7, h8, h9⟩ := h.vp i (by omega)
    obtain ⟨g1, g2, g3, g4, g5, g6, g7, g8, g9⟩ := h.vp (i + 1) hi
    obtain ⟨k1, k2, k3, _⟩ := h
    simp only [placeI, gapI]
    have hm := maxI_0 ((R i).right + (R (i + 1)).left)
    simp (disch := omega) only [wid']
    omega
theorem place_s {n : Nat} {R : Nat → BP} {kerf : Int} (h : VR n R kerf) (i : Nat) (hi : i + 1 < n) : placeI R kerf (i + 1) = placeI R kerf i + (R i).len + kerf + maxI 0 ((R i).right + (R (i + 1)).left) := by
  have ih := place_b h i (by omega)
  obtain ⟨h1, h2, h3, h4, h5, h6, h7, h8, h9⟩ := h.vp i (by omega)
  obtain ⟨g1, g2, g3, g4, g5, g6, g7, g8, g9⟩ := h.vp (i + 1) hi
  obtain ⟨k1, k2, k3, _⟩ := h
  simp only [placeI, gapI]
  have hm := maxI_0 ((R i).right + (R (i + 1)).left)
  simp (disch := omega) only [wid']
  omega
theorem length_e {m : Nat} {R : Nat → BP} {kerf : Int} (h : VR (m + 1) R kerf) : lengthI (m + 1) R kerf = placeI R kerf m + (R m).len + maxI 0 (R m).right := by
  have ih := place_b h m (by omega)
  obtain ⟨h1, h2, h3, h4, h5, h6, h7, h8, h9⟩ := h.vp m (by omega)
  obtain ⟨k1, k2, k3, _⟩ := h
  have hm := maxI_0 (R m).right
  simp only [lengthI, extHi, if_neg (Nat.succ_ne_zero m), Nat.add_sub_cancel]
  simp (disch := omega) only [wid']
/-- Both ends of the parts go up. -/
theorem ends_up {n : Nat} {R : Nat → BP} {kerf : Int} (h : VR n R kerf) (i : Nat) : ∀ d, i + d < n → placeI R kerf i + (R i).len ≤ placeI R kerf (i + d) + (R (i + d)).len ∧
    placeI R kerf i + (R i).len + (R i).right ≤ placeI R kerf (i + d) + (R (i + d)).len + (R (i + d)).right
  | 0, _ => ⟨Int.le_refl _, Int.le_refl _⟩
  | d + 1, hd => by
    have ih := ends_up h i d (by omega)
    have e := place_s h (i + d) (by omega)
    rw [show i + (d + 1) = i + d + 1 by omega]
    obtain ⟨h1, h2, h3, h4, h5, h6, h7, h8, h9⟩ := h.vp (i + d) (by omega)
    obtain ⟨g1, g2, g3, g4, g5, g6, g7, g8, g9⟩ := h.vp (i + d + 1) (by omega)
    obtain ⟨k1, k2, k3, _⟩ := h
    have hm := maxI_0 ((R (i + d)).right + (R (i + d + 1)).left)
    omega
theorem left_0 {n : Nat} {R : Nat → BP} {kerf : Int} (h : VR n R kerf) : ∀ i, i < n → 0 ≤ placeI R kerf i - (R i).left
  | 0, hi => by
    have := maxI_0 (R 0).left
    simp only [placeI]
    omega
  | i + 1, hi => by
    have e := place_s h i hi
    have ih := left_0 h i (by omega)
    obtain ⟨h1, h2, h3, h4, h5, h6, h7, h8, h9⟩ := h.vp i (by omega)
    obtain ⟨k1, k2, k3, _⟩ := h
    have hm := maxI_0 ((R i).right + (R (i + 1)).left)
    omega
theorem in_length {n : Nat} {R : Nat → BP} {kerf : Int} (h : VR n R kerf) (i : Nat) (hi : i < n) : placeI R kerf i + (R i).len ≤ lengthI n R kerf ∧ placeI R kerf i + (R i).len + (R i).right ≤ lengthI n R kerf ∧ 0 ≤ lengthI n R kerf ∧ lengthI n R kerf ≤ 110000 := by
  obtain ⟨m, rfl⟩ : ∃ m, n = m + 1 := ⟨n - 1, by omega⟩
  have e := length_e h
  have hb := place_b h m (by omega)
  have hm := maxI_0 (R m).right
  have hu := ends_up h i (m - i) (by omega)
  rw [show i + (m - i) = m by omega] at hu
  obtain ⟨h1, h2, h3, h4, h5, h6, h7, h8, h9⟩ := h.vp m (by omega)
  obtain ⟨k1, k2, k3, _⟩ := h
  omega
theorem length_b {n : Nat} {R : Nat → BP} {kerf : Int} (h : VR n R kerf) : 0 ≤ lengthI n R kerf ∧ lengthI n R kerf ≤ 110000 := by
  cases n with
  | zero => simp [lengthI]
  | succ m => exact (in_length h m (by omega)).2.2
/-- What the parts cover, doubled. -/
def coverP (R : Nat → BP) : Nat → Int
  | 0 => 0
  | k + 1 => coverP R k + ((R k).len + ((R k).len + (R k).left + (R k).right))
theorem cover_b {n : Nat} {R : Nat → BP} {kerf : Int} (h : VR n R kerf) : ∀ k, k ≤ n → 0 ≤ coverP R k ∧ coverP R k ≤ 4000 * k
  | 0, _ => by simp [coverP]
  | k + 1, hk => by
    have ih := cover_b h k (by omega)
    obtain ⟨h1, h2, h3, h4, h5, h6, h7, h8, h9⟩ := h.vp k (by omega)
    simp only [coverP]
    omega
theorem cover_le {n : Nat} {R : Nat → BP} {kerf : Int} (h : VR n R kerf) : ∀ k, k < n → coverP R (k + 1) ≤ 2 * placeI R kerf k + 2 * (R k).len + (R k).right
  | 0, hk => by
    have := maxI_0 (R 0).left
    simp only [coverP, placeI]
    omega
  | k + 1, hk => by
    have ih := cover_le h k (by omega)
    have e := place_s h k hk
    obtain ⟨k1, k2, k3, _⟩ := h
    have hm := maxI_0 ((R k).right + (R (k + 1)).left)
    have e2 : coverP R (k + 1 + 1) = coverP R (k + 1) + ((R (k + 1)).len + ((R (k + 1)).len + (R (k + 1)).left + (R (k + 1)).right)) := rfl
    omega
theorem scrap_e {n : Nat} {R : Nat → BP} {kerf : Int} (h : VR n R kerf) : ∀ k, k ≤ n → scrapI n R kerf k = 2 * lengthI n R kerf - coverP R k
  | 0, _ => by
    have := length_b h
    simp only [scrapI, coverP]
    simp (disch := omega) only [wid']
    omega
  | k + 1, hk => by
    have hl := length_b h
    have hc := cover_b h k (by omega)
    have e := scrap_e h k (by omega)
    have hn := h.n40
    obtain ⟨h1, h2, h3, h4, h5, h6, h7, h8, h9⟩ := h.vp k (by omega)
    simp only [scrapI, coverP, e, h9]
    simp (disch := omega) only [wid']
    omega
theorem scrap_0 {n : Nat} {R : Nat → BP} {kerf : Int} (h : VR n R kerf) : 0 ≤ scrapI n R kerf n := by
  rw [scrap_e h n (Nat.le_refl _)]
  cases n with
  | zero => simp [lengthI, coverP]
  | succ m =>
    have hc := cover_le h m (by omega)
    have hi := in_length h m (by omega)
    omega

abbrev intsErr (n : Nat) (X : Nat → Int) (e : Int) : TV := .tup [.one (intS (if e = 0 then n else 0) X), .one (i64 e)]
end Go.Vm
