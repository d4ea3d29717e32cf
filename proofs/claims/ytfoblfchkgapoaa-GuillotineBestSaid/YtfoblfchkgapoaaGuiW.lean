/-
  Layer 38: law Shrinks.
  Layer 38: law Stages.
  Layer 38: saw cuts do not cross (plain).
  Layer 38: law Saw.
-/
import Derived.Test.YtfoblfchkgapoaaGuiS
namespace Go.Vm
set_option maxRecDepth 20000
set_option linter.unusedVariables false
set_option linter.unusedSimpArgs false
open Go Go.RowKit Go.Proofs
namespace St

section
variable (sizes : List Int) (K : Nat)
def nmL (n : Nat) : Int := iget (rnL sizes K n) ((rnL sizes K n).length - 1)
def nm (a : Int) : Int := if a < 0 then 0 else nmL sizes K a.toNat
end
theorem gval_zero {ks : List Knd} {kerf w h : Int} (o : w < 1 ∨ h < 1) : gval ks w h kerf = 0 := by rw [gval, valI, if_pos o]
end St
end Go.Vm
namespace Go.Vm
set_option maxRecDepth 20000
set_option linter.unusedVariables false
set_option linter.unusedSimpArgs false
open Go Go.RowKit Go.Proofs
namespace St

/-! ### the bound -/
theorem bndF_mono (ks : List Knd) (w h kerf : Int) (n : Nat) : bndF ks w h kerf n ≤ bndF ks w h kerf (n + 1) ∧ ((kget ks n).w ≤ w → (kget ks n).h ≤ h → bterm w h kerf (kget ks n) ≤ bndF ks w h kerf (n + 1)) := by
  rw [show bndF ks w h kerf (n + 1) = if (kget ks n).w ≤ w ∧ (kget ks n).h ≤ h then (if bterm w h kerf (kget ks n) > bndF ks w h kerf n then bterm w h kerf (kget ks n) else bndF ks w h kerf n) else bndF ks w h kerf n from rfl]
  split
  · split <;> omega
  · rename_i c
    exact ⟨Int.le_refl _, fun a b => absurd ⟨a, b⟩ c⟩
theorem dens_ex (ks : List Knd) (w h kerf : Int) (k0 : 0 ≤ kerf) (w0 : 1 ≤ w) (h0 : 1 ≤ h) (hk : ∀ k ∈ ks, 1 ≤ k.w ∧ 1 ≤ k.h ∧ 0 ≤ k.v) : ∀ n, n ≤ ks.length → ∃ p q : Int, 0 ≤ p ∧ 1 ≤ q ∧ (∀ i, i < n → (kget ks i).w ≤ w → (kget ks i).h ≤ h → (kget ks i).v * q ≤ p * (((kget ks i).w + kerf) * ((kget ks i).h + kerf))) ∧ (w + kerf) * (h + kerf) * p / q ≤ bndF ks w h kerf n
  | 0, _ => ⟨0, 1, Int.le_refl _, Int.le_refl _, fun i hi => absurd hi (Nat.not_lt_zero _), by rw [Int.mul_zero]; exact Int.le_refl _⟩
  | n + 1, hn => by
    obtain ⟨p, q, p0, q0, hd, hb⟩ := dens_ex ks w h kerf k0 w0 h0 hk n (by omega)
    obtain ⟨b1, b2⟩ := bndF_mono ks w h kerf n
    have Dpos : ∀ i, i < ks.length → 1 ≤ ((kget ks i).w + kerf) * ((kget ks i).h + kerf) := fun i hi => by
      obtain ⟨a, b, _⟩ := hk _ (kget_mem hi)
      have : 1 * 1 ≤ ((kget ks i).w + kerf) * ((kget ks i).h + kerf) := Int.mul_le_mul (by omega) (by omega) (by decide) (by omega)
      omega
    by_cases fit : (kget ks n).w ≤ w ∧ (kget ks n).h ≤ h
    · by_cases c : (kget ks n).v * q ≤ p * (((kget ks n).w + kerf) * ((kget ks n).h + kerf))
      · refine ⟨p, q, p0, q0, fun i hi a b => ?_, by omega⟩
        rcases Nat.lt_succ_iff_lt_or_eq.1 hi with hi | rfl
        · exact hd i hi a b
        · exact c
      · refine ⟨(kget ks n).v, ((kget ks n).w + kerf) * ((kget ks n).h + kerf), (hk _ (kget_mem (by omega))).2.2, Dpos n (by omega), fun i hi a b => ?_, ?_⟩
        · rcases Nat.lt_succ_iff_lt_or_eq.1 hi with hi | rfl
          · have e := hd i hi a b
            have D1 := Dpos i (by omega)
            have D2 := Dpos n (by omega)
            generalize ((kget ks i).w + kerf) * ((kget ks i).h + kerf) = Di at *
            generalize ((kget ks n).w + kerf) * ((kget ks n).h + kerf) = D at *
            refine Classical.byContradiction fun hc => ?_
            have hc' : (kget ks n).v * Di < (kget ks i).v * D := by omega
            have s1 : (kget ks n).v * Di * q < (kget ks i).v * D * q := Int.mul_lt_mul_of_pos_right hc' (by omega)
            have s2 : (kget ks i).v * q * D ≤ p * Di * D := Int.mul_le_mul_of_nonneg_right e (by omega)
            have s3 : p * D * Di < (kget ks n).v * q * Di := Int.mul_lt_mul_of_pos_right (by omega) (by omega)
            have r1 : (kget ks i).v * D * q = (kget ks i).v * q * D := Int.mul_right_comm _ _ _
            have r2 : p * D * Di = p * Di * D := Int.mul_right_comm _ _ _
            have r3 : (kget ks n).v * q * Di = (kget ks n).v * Di * q := Int.mul_right_comm _ _ _
            omega
          · exact Int.le_refl _
        · exact b2 fit.1 fit.2
    · refine ⟨p, q, p0, q0, fun i hi a b => ?_, by omega⟩
      rcases Nat.lt_succ_iff_lt_or_eq.1 hi with hi | rfl
      · exact hd i hi a b
      · exact absurd ⟨a, b⟩ fit
theorem gval_bound {ks : List Knd} {w h kerf : Int} (p : Pb ks w h kerf) : gval ks w h kerf ≤ bndF ks w h kerf ks.length := by
  have k0 := p.k0; have w0 := p.w0; have h0 := p.h0
  obtain ⟨P, Q, P0, Q0, hd, hb⟩ := dens_ex ks w h kerf k0 w0 h0 (fun k hk => ⟨(p.ok k hk).w0, (p.ok k hk).h0, (p.ok k hk).v0⟩) ks.length (Nat.le_refl _)
  refine Int.le_trans ?_ hb
  have Qp : 0 < Q := by omega
  have sum : ∀ x y z : Int, x + y ≤ z → x / Q + y / Q ≤ z / Q := fun x y z c => by
    rw [Int.le_ediv_iff_mul_le Qp, Int.add_mul]
    have := Int.ediv_mul_le x (show Q ≠ 0 by omega)
    have := Int.ediv_mul_le y (show Q ≠ 0 by omega)
    omega
  have nn : ∀ a b : Int, 0 ≤ a + kerf → 0 ≤ b + kerf → 0 ≤ (a + kerf) * (b + kerf) * P / Q := fun a b x y => Int.ediv_nonneg (Int.mul_nonneg (Int.mul_nonneg x y) P0) (by omega)
  have mono : ∀ a b c d : Int, 0 ≤ a + kerf → 0 ≤ b + kerf → a ≤ c → b ≤ d → (a + kerf) * (b + kerf) * P / Q ≤ (c + kerf) * (d + kerf) * P / Q := fun a b c d x y z v => Int.ediv_le_ediv Qp (Int.mul_le_mul_of_nonneg_right (Int.mul_le_mul (by omega) (by omega) y (by omega)) P0)
  have key := gval_least (ks := ks) (kerf := kerf) k0 (W := w) (H := h) (G := fun a b => if a < 1 ∨ b < 1 then 0 else (a + kerf) * (b + kerf) * P / Q) ⟨fun a b _ _ => ?_, fun k hk a b hw hh c d => ?_, fun a b x x0 x1 hw h0 hh => ?_, fun a b y y0 y1 hh w0 hw => ?_⟩
  · rwa [if_neg (by omega)] at key
  · show 0 ≤ (if a < 1 ∨ b < 1 then (0 : Int) else (a + kerf) * (b + kerf) * P / Q)
    split
    · exact Int.le_refl _
    · exact nn a b (by omega) (by omega)
  · have o := p.ok k hk
    have a0 := o.w0; have b0 := o.h0
    show k.v ≤ (if _ then _ else _)
    rw [if_neg (by omega), Int.le_ediv_iff_mul_le Qp]
    obtain ⟨i, hi, rfl⟩ := List.getElem_of_mem hk
    have e : kget ks i = ks[i] := by simp [kget, List.getD, hi]
    have := hd i hi (by rw [e]; omega) (by rw [e]; omega)
    rw [e] at this
    refine Int.le_trans this ?_
    rw [Int.mul_comm]
    exact Int.mul_le_mul_of_nonneg_right (Int.mul_le_mul (by omega) (by omega) (by omega) (by omega)) P0
  · show (if _ then _ else _) + (if _ then _ else _) ≤ (if _ then _ else _)
    rw [if_neg (by omega), if_neg (show ¬ (a < 1 ∨ b < 1) by omega)]
    split
    · have := mono x b a b (by omega) (by omega) (by omega) (Int.le_refl _)
      omega
    · refine sum _ _ _ ?_
      rw [← Int.add_mul, ← Int.add_mul, show x + kerf + (a - x - kerf + kerf) = a + kerf by omega]
      exact Int.le_refl _
  · show (if _ then _ else _) + (if _ then _ else _) ≤ (if _ then _ else _)
    rw [if_neg (by omega), if_neg (show ¬ (a < 1 ∨ b < 1) by omega)]
    split
    · have := mono a y a b (by omega) (by omega) (Int.le_refl _) (by omega)
      omega
    · refine sum _ _ _ ?_
      rw [← Int.add_mul, ← Int.mul_add, show y + kerf + (b - y - kerf + kerf) = b + kerf by omega]
      exact Int.le_refl _
end St
end Go.Vm
namespace Go.Vm
set_option maxRecDepth 20000
set_option linter.unusedVariables false
set_option linter.unusedSimpArgs false
open Go Go.RowKit Go.Proofs
namespace St

/-! ### segments that are parallel to an axis -/
def SepB (s : Sg.Seg) (r : Rc) : Prop := s.b.x ≤ r.x ∨ r.x + r.w ≤ s.a.x ∨ s.b.y ≤ r.y ∨ r.y + r.h ≤ s.a.y
def BBs (r q : Rc) : Prop := r.x + r.w ≤ q.x ∨ q.x + q.w ≤ r.x ∨ r.y + r.h ≤ q.y ∨ q.y + q.h ≤ r.y
structure SubR (q r : Rc) : Prop where
  x0 : r.x ≤ q.x
  y0 : r.y ≤ q.y
  x1 : q.x + q.w ≤ r.x + r.w
  y1 : q.y + q.h ≤ r.y + r.h
structure Axl (s : Sg.Seg) : Prop where
  x : s.a.x ≤ s.b.x
  y : s.a.y ≤ s.b.y
  ax : s.a.x = s.b.x ∨ s.a.y = s.b.y
/-! ### in a rectangle that is cut -/
section
variable {w h kerf : Int} {r : Rc} {n : Nd} (hr : InR w h r) (hk : 0 ≤ kerf) (hl : leafI n = false) (hp : posB r n = true)
include hr hk hl hp
end
/-! ### the tree -/
def Fr (t : List Nd) (k j : Nat) : Prop := j = 0 ∨ ∃ p, p < k ∧ Ch t p j
section
variable {t : List Nd} {w h kerf : Int} (hj : joinB t = true) (hr : rectB t w h kerf = true) (w0 : 0 ≤ w) (h0 : 0 ≤ h) (k0 : 0 ≤ kerf)
include hj hr w0 h0 k0
end
/-! ### how they meet -/
structure In60 (s : Sg.Seg) : Prop where
  a0 : 0 ≤ s.a.x
  a1 : 0 ≤ s.a.y
  b0 : s.b.x ≤ 2000
  b1 : s.b.y ≤ 2000
end St
end Go.Vm
namespace Go.Vm
set_option maxRecDepth 20000
set_option linter.unusedVariables false
set_option linter.unusedSimpArgs false
open Go Go.RowKit Go.Proofs
namespace St

structure SegOk (w h : Int) (s : Sg.Seg) : Prop where
  a0 : 0 ≤ s.a.x
  a1 : 0 ≤ s.a.y
  b0 : s.b.x ≤ w
  b1 : s.b.y ≤ h
end St
end Go.Vm
