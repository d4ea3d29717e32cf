/-
  Layer 8: contracts of Where and WherePoint.
  Layer 8: contracts of the reference's Where and WherePoint: they are the program's.
-/
import Derived.Test.YtlckiecpelchlaaRingE
namespace Go.Vm
set_option maxRecDepth 20000
set_option linter.unusedVariables false
set_option linter.unusedSimpArgs false
open Go Go.RowKit Go.Proofs
namespace Sg

def toV (p : P3) (v : V2) : V2 := ⟨p.x - v.x * p.d, p.y - v.y * p.d⟩
def sdP (e : Seg) (p : P3) : Int := crossP (subP e.b e.a) (toV p e.a)
def onP (e : Seg) (p : P3) : Bool := decide (sdP e p = 0) && decide (minI (toV p e.a).x (toV p e.b).x ≤ 0) && decide (0 ≤ maxI (toV p e.a).x (toV p e.b).x) && decide (minI (toV p e.a).y (toV p e.b).y ≤ 0) && decide (0 ≤ maxI (toV p e.a).y (toV p e.b).y)
def crsP (e : Seg) (p : P3) : Bool := (!(decide (0 ≤ (toV p e.a).y) == decide (0 ≤ (toV p e.b).y))) && (decide (0 ≤ (toV p e.a).y) == decide (0 < sdP e p))
def parK (l : List V2) (p : P3) : Nat → Bool
  | 0 => false
  | k + 1 => xor (parK l p k) (crsP (edge l k) p)
def onAny (l : List V2) (p : P3) : Bool := !allB l.length fun i => !onP (edge l i) p
def wherePl (l : List V2) (p : P3) : Int := if onAny l p = true then 1 else if parK l p l.length = true then 2 else 0
def whereR (l : List V2) (p : P3) : Int := if validR l = true ∧ validP p = true then wherePl l p else 0

/-- Points and vertices are not too far for the words. -/
structure Far (p : P3) : Prop where
  d0 : 1 ≤ p.d
  d1 : p.d ≤ 134217728
  x0 : -(4000 * p.d) ≤ p.x
  x1 : p.x ≤ 4000 * p.d
  y0 : -(4000 * p.d) ≤ p.y
  y1 : p.y ≤ 4000 * p.d
theorem far_of {p : P3} (h : validP p = true) : Far p := by
  simp only [validP, Bool.and_eq_true] at h
  obtain ⟨h1, h2, h3, h4, h5, h6⟩ := boundB_iff.1 h.1
  exact ⟨h1, h2, h3, h4, h5, h6⟩
theorem mul_d {x d : Int} (h : -2000 ≤ x ∧ x ≤ 2000) (hd : 1 ≤ d ∧ d ≤ 134217728) : -(2000 * d) ≤ x * d ∧ x * d ≤ 2000 * d :=
  ⟨by rw [show -(2000 * d) = (-2000) * d by omega]; exact Int.mul_le_mul_of_nonneg_right h.1 (by omega), Int.mul_le_mul_of_nonneg_right h.2 (by omega)⟩
structure Near (v : V2) : Prop where
  x0 : -805306368000 ≤ v.x
  x1 : v.x ≤ 805306368000
  y0 : -805306368000 ≤ v.y
  y1 : v.y ≤ 805306368000
theorem toV_near {p : P3} {v : V2} (hp : Far p) (hv : In 2000 v) : Near (toV p v) := by
  obtain ⟨a1, a2⟩ := mul_d ⟨hv.x0, hv.x1⟩ ⟨hp.d0, hp.d1⟩
  obtain ⟨b1, b2⟩ := mul_d ⟨hv.y0, hv.y1⟩ ⟨hp.d0, hp.d1⟩
  obtain ⟨d0, d1, x0, x1, y0, y1⟩ := hp
  constructor <;> simp only [toV] <;> omega
def toW (p : P3) (v : V2) : V2 := ⟨w64 (p.x - w64 (v.x * p.d)), w64 (p.y - w64 (v.y * p.d))⟩
theorem toW_eq {p : P3} {v : V2} (hp : Far p) (hv : In 2000 v) : toW p v = toV p v := by
  obtain ⟨a1, a2⟩ := mul_d ⟨hv.x0, hv.x1⟩ ⟨hp.d0, hp.d1⟩
  obtain ⟨b1, b2⟩ := mul_d ⟨hv.y0, hv.y1⟩ ⟨hp.d0, hp.d1⟩
  have h := toV_near hp hv
  have hd := hp.d1
  have e1 : w64 (v.x * p.d) = v.x * p.d := wid' (by omega) (by omega)
  have e2 : w64 (v.y * p.d) = v.y * p.d := wid' (by omega) (by omega)
  unfold toW
  rw [e1, e2]
  have k1 := h.x0; have k2 := h.x1; have k3 := h.y0; have k4 := h.y1
  simp only [toV] at k1 k2 k3 k4
  rw [wid' (by omega) (by omega), wid' (by omega) (by omega)]
  rfl
theorem sdW_eq {u v : V2} (hu : In 4000 u) (hv : Near v) : crossW u v = crossP u v := by
  obtain ⟨x0, x1, y0, y1⟩ := hv
  have m1 := mul_abs ⟨hu.x0, hu.x1⟩ (show -805306368000 ≤ v.y ∧ v.y ≤ 805306368000 from ⟨y0, y1⟩)
  have m2 := mul_abs ⟨hu.y0, hu.y1⟩ (show -805306368000 ≤ v.x ∧ v.x ≤ 805306368000 from ⟨x0, x1⟩)
  unfold crossW crossP
  rw [wid' (n := u.x * v.y) (by omega) (by omega), wid' (n := u.y * v.x) (by omega) (by omega), wid' (by omega) (by omega)]
theorem SlotLe.bool {m m' : Id → Mem} {b b' : Bool} (h : b = b') : SlotLe m m' (tbool b) (tbool b') := h ▸ SlotLe.same
end Sg
end Go.Vm
namespace Go.Vm
set_option maxRecDepth 20000
set_option linter.unusedVariables false
set_option linter.unusedSimpArgs false
open Go Go.RowKit Go.Proofs
namespace Sg

def whereV (l : List V2) (v : V2) : Int := if withinV v 4000 = true then whereR l (ptOf v) else 0
def inP (e : Seg) (p : P3) : Bool := decide (p.x ≥ minI e.a.x e.b.x * p.d) && decide (p.x ≤ maxI e.a.x e.b.x * p.d) && decide (p.y ≥ minI e.a.y e.b.y * p.d) && decide (p.y ≤ maxI e.a.y e.b.y * p.d)
theorem minI_b {a b : Int} (ha : -2000 ≤ a ∧ a ≤ 2000) (hb : -2000 ≤ b ∧ b ≤ 2000) : -2000 ≤ minI a b ∧ minI a b ≤ 2000 := by unfold minI; split <;> omega
theorem maxI_b {a b : Int} (ha : -2000 ≤ a ∧ a ≤ 2000) (hb : -2000 ≤ b ∧ b ≤ 2000) : -2000 ≤ maxI a b ∧ maxI a b ≤ 2000 := by unfold maxI; split <;> omega
theorem box_side {a b d x : Int} (hd : 1 ≤ d) : (decide (minI (x - a * d) (x - b * d) ≤ 0) = decide (x ≤ maxI a b * d)) ∧ (decide (0 ≤ maxI (x - a * d) (x - b * d)) = decide (x ≥ minI a b * d)) := by
  have hle : a ≤ b → a * d ≤ b * d := fun h => Int.mul_le_mul_of_nonneg_right h (by omega)
  have hge : b ≤ a → b * d ≤ a * d := fun h => Int.mul_le_mul_of_nonneg_right h (by omega)
  constructor
  · rw [decide_eq_decide]
    unfold minI maxI
    split <;> split <;> constructor <;> intro h <;> first | omega | (have := hle (by omega); omega) | (have := hge (by omega); omega)
  · rw [decide_eq_decide]
    unfold minI maxI
    split <;> split <;> constructor <;> intro h <;> first | omega | (have := hle (by omega); omega) | (have := hge (by omega); omega)
theorem onP_in (e : Seg) (p : P3) (hp : Far p) : onP e p = (inP e p && decide (sdP e p = 0)) := by
  obtain ⟨x1, x2⟩ := box_side (a := e.a.x) (b := e.b.x) (x := p.x) hp.d0
  obtain ⟨y1, y2⟩ := box_side (a := e.a.y) (b := e.b.y) (x := p.y) hp.d0
  have e1 : onP e p = (decide (sdP e p = 0) && decide (minI (p.x - e.a.x * p.d) (p.x - e.b.x * p.d) ≤ 0) && decide (0 ≤ maxI (p.x - e.a.x * p.d) (p.x - e.b.x * p.d)) && decide (minI (p.y - e.a.y * p.d) (p.y - e.b.y * p.d) ≤ 0) && decide (0 ≤ maxI (p.y - e.a.y * p.d) (p.y - e.b.y * p.d))) := rfl
  rw [e1, x1, x2, y1, y2]
  unfold inP
  generalize decide (sdP e p = 0) = q1
  generalize decide (p.x ≤ _) = q2
  generalize decide (p.x ≥ _) = q3
  generalize decide (p.y ≤ _) = q4
  generalize decide (p.y ≥ _) = q5
  revert q1 q2 q3 q4 q5
  decide
theorem wmul {x d : Int} (h : -2000 ≤ x ∧ x ≤ 2000) (hd : 1 ≤ d ∧ d ≤ 134217728) : w64 (x * d) = x * d := by
  obtain ⟨a1, a2⟩ := mul_d h hd
  exact wid' (by omega) (by omega)
def rcrs (e : Seg) (p : P3) : Bool := (decide (e.a.y * p.d ≤ p.y) && decide (e.b.y * p.d > p.y) && decide (0 < sdP e p)) || (decide (e.b.y * p.d ≤ p.y) && decide (e.a.y * p.d > p.y) && decide (sdP e p < 0))
theorem cross_to (e : Seg) (p : P3) : crossP (toV p e.a) (toV p e.b) = p.d * sdP e p := by
  simp only [sdP, crossP, toV, subP]
  grind
theorem mul_nn {a b : Int} (ha : 0 ≤ a) (hb : 0 ≤ b) : 0 ≤ a * b := Int.mul_nonneg ha hb
theorem rcrs_eq {e : Seg} {p : P3} (hp : Far p) (h : onP e p = false) : rcrs e p = crsP e p := by
  have hc := cross_to e p
  simp only [crossP] at hc
  unfold crsP rcrs
  have ea : (toV p e.a).y = p.y - e.a.y * p.d := rfl
  have eb : (toV p e.b).y = p.y - e.b.y * p.d := rfl
  by_cases h0 : sdP e p = 0
  · -- a level that the edge passes would have the point on it
    have hno : ¬ (0 ≤ (toV p e.a).y ∧ (toV p e.b).y < 0) ∧ ¬ (0 ≤ (toV p e.b).y ∧ (toV p e.a).y < 0) := by
      have hf : ¬ (minI (toV p e.a).x (toV p e.b).x ≤ 0 ∧ 0 ≤ maxI (toV p e.a).x (toV p e.b).x ∧ minI (toV p e.a).y (toV p e.b).y ≤ 0 ∧ 0 ≤ maxI (toV p e.a).y (toV p e.b).y) := by
        intro ⟨k1, k2, k3, k4⟩
        have : onP e p = true := by simp [onP, h0, k1, k2, k3, k4]
        rw [h] at this; cases this
      rw [h0, Int.mul_zero] at hc
      generalize (toV p e.a).x = ax at *
      generalize (toV p e.a).y = ay at *
      generalize (toV p e.b).x = bx at *
      generalize (toV p e.b).y = bY at *
      have key : ∀ u v w z : Int, 0 ≤ v → z < 0 → u * z = v * w → ¬ (0 < u ∧ 0 < w) ∧ ¬ (u < 0 ∧ w < 0) := by
        intro u v w z hv hz he
        refine ⟨fun ⟨h1, h2⟩ => ?_, fun ⟨h1, h2⟩ => ?_⟩
        · have := Int.mul_neg_of_pos_of_neg h1 hz
          have := Int.mul_nonneg hv (Int.le_of_lt h2)
          omega
        · have := Int.mul_pos_of_neg_of_neg h1 hz
          have := Int.mul_nonpos_of_nonneg_of_nonpos hv (Int.le_of_lt h2)
          omega
      constructor
      · rintro ⟨h1, h2⟩
        obtain ⟨q1, q2⟩ := key ax ay bx bY h1 h2 (by rw [Int.mul_comm ay bx] ; have := hc; rw [Int.mul_comm ay bx] at this; omega)
        refine hf ⟨?_, ?_, ?_, ?_⟩ <;> simp only [minI, maxI] <;> split <;> omega
      · rintro ⟨h1, h2⟩
        obtain ⟨q1, q2⟩ := key bx bY ax ay h1 h2 (by rw [Int.mul_comm bY ax, Int.mul_comm bx ay]; omega)
        refine hf ⟨?_, ?_, ?_, ?_⟩ <;> simp only [minI, maxI] <;> split <;> omega
    rw [ea, eb] at hno ⊢
    rw [h0]
    generalize e.a.y * p.d = A at *
    generalize e.b.y * p.d = B at *
    have e1 : decide (0 ≤ p.y - A) = decide (A ≤ p.y) := decide_eq_decide.2 ⟨fun h => by omega, fun h => by omega⟩
    have e2 : decide (0 ≤ p.y - B) = decide (A ≤ p.y) := decide_eq_decide.2 ⟨fun h => by omega, fun h => by omega⟩
    have e3 : decide (B > p.y) = !decide (A ≤ p.y) := by rw [← decide_not]; exact decide_eq_decide.2 ⟨fun h => by omega, fun h => by omega⟩
    have e4 : decide (A > p.y) = !decide (A ≤ p.y) := by rw [← decide_not]; exact decide_eq_decide.2 ⟨fun h => by omega, fun h => by omega⟩
    have e5 : decide (B ≤ p.y) = decide (A ≤ p.y) := decide_eq_decide.2 ⟨fun h => by omega, fun h => by omega⟩
    rw [e1, e2, e3, e4, e5]
    generalize decide (A ≤ p.y) = q
    revert q
    decide
  · rw [ea, eb]
    generalize e.a.y * p.d = A at *
    generalize e.b.y * p.d = B at *
    have e1 : decide (0 ≤ p.y - A) = decide (A ≤ p.y) := decide_eq_decide.2 ⟨fun h => by omega, fun h => by omega⟩
    have e2 : decide (0 ≤ p.y - B) = decide (B ≤ p.y) := decide_eq_decide.2 ⟨fun h => by omega, fun h => by omega⟩
    have e3 : decide (B > p.y) = !decide (B ≤ p.y) := by rw [← decide_not]; exact decide_eq_decide.2 ⟨fun h => by omega, fun h => by omega⟩
    have e4 : decide (A > p.y) = !decide (A ≤ p.y) := by rw [← decide_not]; exact decide_eq_decide.2 ⟨fun h => by omega, fun h => by omega⟩
    have e5 : decide (sdP e p < 0) = !decide (0 < sdP e p) := by rw [← decide_not]; exact decide_eq_decide.2 ⟨fun h => by omega, fun h => by omega⟩
    rw [e1, e2, e3, e4, e5]
    generalize decide (A ≤ p.y) = q
    generalize decide (B ≤ p.y) = r
    generalize decide (0 < sdP e p) = t
    revert q r t
    decide

theorem sgn_b (x : Int) : decide (sgnI x > 0) = decide (0 < x) ∧ decide (sgnI x < 0) = decide (x < 0) := by
  constructor <;> rw [decide_eq_decide] <;> unfold sgnI <;> split <;> (try split) <;> omega
theorem validP_pt {v : V2} (h : validP (ptOf v) = true) : withinV v 4000 = true := by
  have := far_of h
  have h1 := this.x0; have h2 := this.x1; have h3 := this.y0; have h4 := this.y1
  exact In.within (by decide) (by decide) ⟨by simp only [ptOf] at h1; omega, by simp only [ptOf] at h2; omega, by simp only [ptOf] at h3; omega, by simp only [ptOf] at h4; omega⟩
end Sg
end Go.Vm
