/-
  Layer 26: a row that is turned around, or mirrored, and the law BarTurns.
-/
import Derived.Test.YtlckiecpelchlaaBarI
namespace Go.Vm
set_option maxRecDepth 20000
set_option linter.unusedVariables false
set_option linter.unusedSimpArgs false
open Go Go.RowKit Go.Proofs

def sumI (f : Nat → Int) : Nat → Int
  | 0 => 0
  | n + 1 => sumI f n + f n
theorem sumI_congr {f g : Nat → Int} : ∀ {n : Nat}, (∀ i, i < n → f i = g i) → sumI f n = sumI g n
  | 0, _ => rfl
  | n + 1, h => by
    simp only [sumI]
    rw [sumI_congr (n := n) (fun i hi => h i (by omega)), h n (by omega)]
theorem sumI_add (f g : Nat → Int) : ∀ n : Nat, sumI (fun i => f i + g i) n = sumI f n + sumI g n
  | 0 => rfl
  | n + 1 => by
    simp only [sumI, sumI_add f g n]
    omega
theorem sumI_head (f : Nat → Int) : ∀ n : Nat, sumI f (n + 1) = f 0 + sumI (fun i => f (i + 1)) n
  | 0 => by simp [sumI]
  | n + 1 => by
    rw [sumI, sumI_head f n]
    simp only [sumI]
    omega
theorem sumI_rev (f : Nat → Int) : ∀ n : Nat, sumI (fun i => f (n - 1 - i)) n = sumI f n
  | 0 => rfl
  | n + 1 => by
    rw [sumI_head, sumI, ← sumI_rev f n]
    have : sumI (fun i => f (n + 1 - 1 - (i + 1))) n = sumI (fun i => f (n - 1 - i)) n := sumI_congr fun i hi => by congr 1; omega
    rw [this, show n + 1 - 1 - 0 = n by omega]
    omega

theorem turned_VP {p : BP} (h : VP p) : VP (turnedP p) ∧ (turnedP p).len = p.len + p.left + p.right ∧ (turnedP p).left = -p.right ∧ (turnedP p).right = -p.left := by
  obtain ⟨h1, h2, h3, h4, h5, h6, h7, h8, h9⟩ := h
  have e1 : (turnedP p).len = p.len + p.left + p.right := h9
  have e2 : (turnedP p).left = -p.right := by
    show ng p.right = _
    simp only [ng]
    simp (disch := omega) only [wid']
    omega
  have e3 : (turnedP p).right = -p.left := by
    show ng p.left = _
    simp only [ng]
    simp (disch := omega) only [wid']
    omega
  refine ⟨⟨by omega, by omega, by omega, by omega, by omega, by omega, by omega, by omega, ?_⟩, e1, e2, e3⟩
  unfold topI
  rw [e1, e2, e3]
  simp (disch := omega) only [wid']
theorem turned_two {p : BP} (h : VP p) : (turnedP (turnedP p)).len = p.len ∧ (turnedP (turnedP p)).left = p.left ∧ (turnedP (turnedP p)).right = p.right := by
  obtain ⟨h1, h2, h3, h4⟩ := turned_VP h
  obtain ⟨_, g2, g3, g4⟩ := turned_VP h1
  omega
theorem flipped_VP {p : BP} (h : VP p) : VP (flippedP p) := by
  obtain ⟨h1, h2, h3, h4, h5, h6, h7, h8, h9⟩ := h
  refine ⟨h1, h2, h5, h6, h3, h4, ?_, ?_, ?_⟩
  · show 1 ≤ p.len + p.right + p.left; omega
  · show p.len + p.right + p.left ≤ 2000; omega
  · show w64 (w64 (p.len + p.right) + p.left) = p.len + p.right + p.left
    simp (disch := omega) only [wid']

theorem place_sum {n : Nat} {R : Nat → BP} {kerf : Int} (h : VR n R kerf) : ∀ i, i < n → placeI R kerf i = maxI 0 (R 0).left + sumI (fun j => (R j).len) i + sumI (fun j => kerf + maxI 0 ((R j).right + (R (j + 1)).left)) i
  | 0, _ => by simp [placeI, sumI]
  | i + 1, hi => by
    rw [place_s h i hi, place_sum h i (by omega)]
    simp only [sumI]
    omega
theorem length_sum {m : Nat} {R : Nat → BP} {kerf : Int} (h : VR (m + 1) R kerf) : lengthI (m + 1) R kerf = maxI 0 (R 0).left + sumI (fun j => (R j).len) (m + 1) + sumI (fun j => kerf + maxI 0 ((R j).right + (R (j + 1)).left)) m + maxI 0 (R m).right := by
  rw [length_e h, place_sum h m (by omega)]
  simp only [sumI]
  omega
theorem cover_sum (R : Nat → BP) : ∀ k, coverP R k = sumI (fun j => (R j).len + ((R j).len + (R j).left + (R j).right)) k
  | 0 => rfl
  | k + 1 => by simp only [coverP, sumI, cover_sum R k]
theorem cut_sum {n : Nat} {R : Nat → BP} {kerf : Int} (h : VR n R kerf) : ∀ k, k < n → cutI R (k + 1) = 2 + sumI (fun j => if (R j).right = -(R (j + 1)).left then 1 else 2) k ∧ cutI R (k + 1) ≤ 2 + 2 * k ∧ 0 ≤ cutI R (k + 1)
  | 0, _ => by simp [cutI, sumI]
  | k + 1, hk => by
    obtain ⟨ih, h1, h2⟩ := cut_sum h k (by omega)
    have hn := h.n40
    obtain ⟨g1, g2, g3, g4, g5, g6, g7, g8, g9⟩ := h.vp (k + 1) hk
    have e : cutI R (k + 1 + 1) = if (R k).right = ng (R (k + 1)).left then w64 (cutI R (k + 1) + 1) else w64 (w64 (cutI R (k + 1) + 1) + 1) := by
      rw [cutI, if_neg (by omega), Nat.add_sub_cancel]
    have en : ng (R (k + 1)).left = -(R (k + 1)).left := by
      simp only [ng]
      simp (disch := omega) only [wid']
      omega
    rw [e, en]
    simp (disch := omega) only [wid', sumI]
    split <;> omega

theorem max_neg (x : Int) : maxI 0 (-x) = maxI 0 x - x := by
  unfold maxI
  split <;> split <;> omega

/-- A row turned around. -/
def turnR (n : Nat) (R : Nat → BP) (i : Nat) : BP := turnedP (R (n - 1 - i))
def flipR (n : Nat) (R : Nat → BP) (i : Nat) : BP := flippedP (R (n - 1 - i))
theorem turnR_VR {n : Nat} {R : Nat → BP} {kerf : Int} (h : VR n R kerf) : VR n (turnR n R) kerf := ⟨h.n40, h.k0, h.k1, fun i hi => (turned_VP (h.vp (n - 1 - i) (by omega))).1⟩
theorem flipR_VR {n : Nat} {R : Nat → BP} {kerf : Int} (h : VR n R kerf) : VR n (flipR n R) kerf := ⟨h.n40, h.k0, h.k1, fun i hi => flipped_VP (h.vp (n - 1 - i) (by omega))⟩
theorem VR.err {n : Nat} {R : Nat → BP} {kerf : Int} (h : VR n R kerf) : errI n R kerf = 0 := by
  have hb : badB R n = false := by
    simp only [badB, anyB, decide_eq_false_iff_not]
    intro hh
    obtain ⟨k, hk, hv⟩ := (firstAt_nonneg _ n 0).1 hh
    have := (h.vp k hk).valid
    rw [Nat.zero_add] at hv
    rw [this] at hv
    cases hv
  have h1 := h.k0
  have h2 := h.k1
  have h3 := h.n40
  unfold errI
  rw [if_neg (by rw [hb]; simp; omega), if_neg (by omega)]
theorem VR.kerf0 {n : Nat} {R : Nat → BP} {kerf : Int} (h : VR n R kerf) : VR n R 0 := ⟨h.n40, by omega, by omega, h.vp⟩

/-- Two rows with the same length, cuts and scrap. -/
structure Alike (n : Nat) (R T : Nat → BP) (kerf : Int) : Prop where
  len : lengthI n R kerf = lengthI n T kerf
  cut : cutI R n = cutI T n
  scrap : scrapI n R kerf n = scrapI n T kerf n

theorem turn_alike {n : Nat} {R : Nat → BP} {kerf : Int} (h : VR n R kerf) : Alike n R (turnR n R) kerf := by
  cases n with
  | zero => exact ⟨rfl, rfl, rfl⟩
  | succ m =>
    have hT := turnR_VR h
    have hv : ∀ i, i < m + 1 → (turnR (m + 1) R i).len = (R (m - i)).len + (R (m - i)).left + (R (m - i)).right ∧ (turnR (m + 1) R i).left = -(R (m - i)).right ∧ (turnR (m + 1) R i).right = -(R (m - i)).left := fun i hi => by
      have := turned_VP (h.vp (m - i) (by omega))
      exact ⟨this.2.1, this.2.2.1, this.2.2.2⟩
    have e1 : sumI (fun j => (turnR (m + 1) R j).len) (m + 1) = sumI (fun j => (R j).len) (m + 1) + (sumI (fun j => (R j).left) (m + 1) + sumI (fun j => (R j).right) (m + 1)) := by
      rw [← sumI_add, ← sumI_add, ← sumI_rev (fun j => (R j).len + ((R j).left + (R j).right))]
      refine sumI_congr fun i hi => ?_
      rw [(hv i hi).1, show m + 1 - 1 - i = m - i by omega]
      omega
    have e2 : sumI (fun j => kerf + maxI 0 ((turnR (m + 1) R j).right + (turnR (m + 1) R (j + 1)).left)) m + (sumI (fun j => (R j).right) m + sumI (fun j => (R (j + 1)).left) m) = sumI (fun j => kerf + maxI 0 ((R j).right + (R (j + 1)).left)) m := by
      rw [← sumI_add]
      rw [← sumI_rev (fun i => (R i).right + (R (i + 1)).left), ← sumI_rev (fun j => kerf + maxI 0 ((R j).right + (R (j + 1)).left)), ← sumI_add]
      refine sumI_congr fun i hi => ?_
      have a := hv i (by omega)
      have b := hv (i + 1) (by omega)
      rw [a.2.2, b.2.1, show m - 1 - i + 1 = m - i by omega, show m - (i + 1) = m - 1 - i by omega]
      have := max_neg ((R (m - 1 - i)).right + (R (m - i)).left)
      rw [show -(R (m - i)).left + -(R (m - 1 - i)).right = -((R (m - 1 - i)).right + (R (m - i)).left) by omega, this]
      omega
    have el : lengthI (m + 1) R kerf = lengthI (m + 1) (turnR (m + 1) R) kerf := by
      rw [length_sum h, length_sum hT, e1, (hv 0 (by omega)).2.1, (hv m (by omega)).2.2, max_neg, max_neg, Nat.sub_self, Nat.sub_zero]
      have h1 : sumI (fun j => (R j).left) (m + 1) = (R 0).left + sumI (fun j => (R (j + 1)).left) m := sumI_head (fun j => (R j).left) m
      have h2 : sumI (fun j => (R j).right) (m + 1) = sumI (fun j => (R j).right) m + (R m).right := rfl
      omega
    refine ⟨el, ?_, ?_⟩
    · rw [(cut_sum h m (by omega)).1, (cut_sum hT m (by omega)).1]
      congr 1
      rw [← sumI_rev (fun j => if (R j).right = -(R (j + 1)).left then 1 else 2)]
      refine sumI_congr fun i hi => ?_
      have a := hv i (by omega)
      have b := hv (i + 1) (by omega)
      rw [a.2.2, b.2.1, show m - 1 - i + 1 = m - i by omega, show m - (i + 1) = m - 1 - i by omega]
      by_cases hc : (R (m - 1 - i)).right = -(R (m - i)).left
      · rw [if_pos hc, if_pos (by omega)]
      · rw [if_neg hc, if_neg (by omega)]
    · rw [scrap_e h _ (Nat.le_refl _), scrap_e hT _ (Nat.le_refl _), el, cover_sum, cover_sum]
      congr 1
      rw [← sumI_rev (fun j => (R j).len + ((R j).len + (R j).left + (R j).right))]
      refine sumI_congr fun i hi => ?_
      have a := hv i (by omega)
      rw [a.1, a.2.1, a.2.2, show m + 1 - 1 - i = m - i by omega]
      omega
theorem flip_alike {n : Nat} {R : Nat → BP} {kerf : Int} (h : VR n R kerf) : Alike n R (flipR n R) kerf := by
  cases n with
  | zero => exact ⟨rfl, rfl, rfl⟩
  | succ m =>
    have hT := flipR_VR h
    have hv : ∀ i, (flipR (m + 1) R i).len = (R (m - i)).len ∧ (flipR (m + 1) R i).left = (R (m - i)).right ∧ (flipR (m + 1) R i).right = (R (m - i)).left := fun i => ⟨rfl, rfl, rfl⟩
    have el : lengthI (m + 1) R kerf = lengthI (m + 1) (flipR (m + 1) R) kerf := by
      rw [length_sum h, length_sum hT, (hv 0).2.1, (hv m).2.2, Nat.sub_self, Nat.sub_zero]
      have e1 : sumI (fun j => (flipR (m + 1) R j).len) (m + 1) = sumI (fun j => (R j).len) (m + 1) := by
        rw [← sumI_rev (fun j => (R j).len)]
        rfl
      have e2 : sumI (fun j => kerf + maxI 0 ((flipR (m + 1) R j).right + (flipR (m + 1) R (j + 1)).left)) m = sumI (fun j => kerf + maxI 0 ((R j).right + (R (j + 1)).left)) m := by
        rw [← sumI_rev (fun j => kerf + maxI 0 ((R j).right + (R (j + 1)).left))]
        refine sumI_congr fun i hi => ?_
        rw [(hv i).2.2, (hv (i + 1)).2.1, show m - 1 - i + 1 = m - i by omega, show m - (i + 1) = m - 1 - i by omega, Int.add_comm (R (m - i)).left]
      omega
    refine ⟨el, ?_, ?_⟩
    · rw [(cut_sum h m (by omega)).1, (cut_sum hT m (by omega)).1]
      congr 1
      rw [← sumI_rev (fun j => if (R j).right = -(R (j + 1)).left then 1 else 2)]
      refine sumI_congr fun i hi => ?_
      rw [(hv i).2.2, (hv (i + 1)).2.1, show m - 1 - i + 1 = m - i by omega, show m - (i + 1) = m - 1 - i by omega]
      by_cases hc : (R (m - 1 - i)).right = -(R (m - i)).left
      · rw [if_pos hc, if_pos (by omega)]
      · rw [if_neg hc, if_neg (by omega)]
    · rw [scrap_e h _ (Nat.le_refl _), scrap_e hT _ (Nat.le_refl _), el, cover_sum, cover_sum]
      congr 1
      rw [← sumI_rev (fun j => (R j).len + ((R j).len + (R j).left + (R j).right))]
      refine sumI_congr fun i hi => ?_
      rw [(hv i).1, (hv i).2.1, (hv i).2.2, show m + 1 - 1 - i = m - i by omega]
      omega

theorem cutsT_eq {n : Nat} {R : Nat → BP} (h : VR n R 0) : cutsT n R = intErr (if n = 0 then 0 else cutI R n) 0 := by
  unfold cutsT
  rw [h.err]
end Go.Vm
