/-
  Layer 38: best values as the least superadditive function (plain).
  Layer 38: laws Grows and Parts.
-/
import Derived.Test.YtfoblfchkgapoaaGuiQ
namespace Go.Vm
set_option maxRecDepth 20000
set_option linter.unusedVariables false
set_option linter.unusedSimpArgs false
open Go Go.RowKit Go.Proofs
namespace St

structure Sup (ks : List Knd) (kerf W H : Int) (F : Int → Int → Int) : Prop where
  nn : ∀ w h, w ≤ W → h ≤ H → 0 ≤ F w h
  kd : ∀ k ∈ ks, ∀ w h, w ≤ W → h ≤ H → k.w ≤ w → k.h ≤ h → k.v ≤ F w h
  cw : ∀ w h x, 1 ≤ x → x < w → w ≤ W → 1 ≤ h → h ≤ H → F x h + F (w - x - kerf) h ≤ F w h
  ch : ∀ w h y, 1 ≤ y → y < h → h ≤ H → 1 ≤ w → w ≤ W → F w y + F w (h - y - kerf) ≤ F w h
structure Att (ks : List Knd) (kerf W H : Int) (V : Int → Int → Int) : Prop where
  out : ∀ w h, w < 1 ∨ h < 1 → V w h = 0
  att : ∀ w h, 1 ≤ w → w ≤ W → 1 ≤ h → h ≤ H → V w h = 0 ∨ (∃ k ∈ ks, k.w ≤ w ∧ k.h ≤ h ∧ V w h = k.v) ∨ (∃ x, 1 ≤ x ∧ x < w ∧ V w h = V x h + V (w - x - kerf) h) ∨ (∃ y, 1 ≤ y ∧ y < h ∧ V w h = V w y + V w (h - y - kerf))
theorem Sup.sub {ks : List Knd} {kerf W H W' H' : Int} {F : Int → Int → Int} (S : Sup ks kerf W H F) (hw : W' ≤ W) (hh : H' ≤ H) : Sup ks kerf W' H' F :=
  ⟨fun w h a b => S.nn w h (by omega) (by omega), fun k hk w h a b => S.kd k hk w h (by omega) (by omega), fun w h x a b c d e => S.cw w h x a b (by omega) d (by omega), fun w h y a b c d e => S.ch w h y a b (by omega) d (by omega)⟩
theorem Att.sub {ks : List Knd} {kerf W H W' H' : Int} {F : Int → Int → Int} (S : Att ks kerf W H F) (hw : W' ≤ W) (hh : H' ≤ H) : Att ks kerf W' H' F :=
  ⟨S.out, fun w h a b c d => S.att w h a (by omega) c (by omega)⟩
theorem Att.least {ks : List Knd} {kerf W H : Int} {V F : Int → Int → Int} (k0 : 0 ≤ kerf) (A : Att ks kerf W H V) (S : Sup ks kerf W H F) : ∀ (n : Nat) (w h : Int), w ≤ W → h ≤ H → w + h ≤ n → V w h ≤ F w h := by
  intro n
  induction n with
  | zero =>
    intro w h a b c
    rw [A.out w h (by omega)]
    exact S.nn w h a b
  | succ n ih =>
    intro w h a b c
    by_cases o : w < 1 ∨ h < 1
    · rw [A.out w h o]
      exact S.nn w h a b
    rcases A.att w h (by omega) a (by omega) b with e | ⟨k, hk, k1, k2, e⟩ | ⟨x, x0, x1, e⟩ | ⟨y, y0, y1, e⟩
    · rw [e]; exact S.nn w h a b
    · rw [e]; exact S.kd k hk w h a b k1 k2
    · rw [e]
      have u1 := ih x h (by omega) b (by omega)
      have u2 := ih (w - x - kerf) h (by omega) b (by omega)
      have := S.cw w h x x0 x1 a (by omega) b
      omega
    · rw [e]
      have u1 := ih w y a (by omega) (by omega)
      have u2 := ih w (h - y - kerf) a (by omega) (by omega)
      have := S.ch w h y y0 y1 b (by omega) a
      omega
theorem Att.le {ks : List Knd} {kerf W H : Int} {V F : Int → Int → Int} (k0 : 0 ≤ kerf) (A : Att ks kerf W H V) (S : Sup ks kerf W H F) {w h : Int} (hw : w ≤ W) (hh : h ≤ H) : V w h ≤ F w h :=
  A.least k0 S (w + h).toNat w h hw hh (by omega)
/-! ### the table -/
section
variable {ks : List Knd} {kerf W H : Int} {T : List (List Pn)} (F : Fixd ks kerf W H T)
include F
theorem Fixd.att : Att ks kerf W H (valI T) := by
  refine ⟨fun w h o => by rw [valI, if_pos o], fun w h w0 w1 h0 h1 => ?_⟩
  obtain ⟨a, e⟩ := F.val w0 w1 h0 h1
  have hp := a.ok
  rw [e]
  generalize pnget (rwget T h.toNat) w.toNat = p at *
  cases hp with
  | none => exact .inl rfl
  | kind i hi b c d => exact .inr (.inl ⟨_, kget_mem hi, b, c, rfl⟩)
  | cw x x0 x1 q1 q2 => exact .inr (.inr (.inl ⟨x, x0, x1, rfl⟩))
  | ch y y0 y1 q1 q2 => exact .inr (.inr (.inr ⟨y, y0, y1, rfl⟩))
theorem Fixd.mono (k0 : 0 ≤ kerf) : ∀ (n : Nat) (a b w h : Int), a ≤ w → b ≤ h → w ≤ W → h ≤ H → a + b ≤ n → valI T a b ≤ valI T w h := by
  intro n
  induction n with
  | zero =>
    intro a b w h _ _ hw hh hn
    rw [show valI T a b = 0 by rw [valI, if_pos (by omega)]]
    exact F.nn hw hh
  | succ n ih =>
    intro a b w h ha hb hw hh hn
    by_cases o : a < 1 ∨ b < 1
    · rw [show valI T a b = 0 by rw [valI, if_pos o]]
      exact F.nn hw hh
    obtain ⟨p, e⟩ := F.val (w := a) (h := b) (by omega) (by omega) (by omega) (by omega)
    obtain ⟨q, e'⟩ := F.val (w := w) (h := h) (by omega) hw (by omega) hh
    have hp := p.ok
    rw [e, e']
    generalize pnget (rwget T b.toNat) a.toNat = p1 at *
    cases hp with
    | none => exact q.nn
    | kind i hi b c d => exact q.kd i hi (by omega) (by omega)
    | cw x x0 x1 q1 q2 =>
      have u1 := ih x b x h (Int.le_refl _) hb (by omega) hh (by omega)
      have u2 := ih (a - x - kerf) b (w - x - kerf) h (by omega) hb (by omega) hh (by omega)
      have := q.cw x x0 (by omega) (by omega) (by omega)
      show valI T x b + valI T (a - x - kerf) b ≤ _
      omega
    | ch y y0 y1 q1 q2 =>
      have u1 := ih a y w y ha (Int.le_refl _) hw (by omega) (by omega)
      have u2 := ih a (b - y - kerf) w (h - y - kerf) ha (by omega) hw (by omega) (by omega)
      have := q.ch y y0 (by omega) (by omega) (by omega)
      show valI T a y + valI T a (b - y - kerf) ≤ _
      omega
theorem Fixd.sup (hk : ∀ k ∈ ks, 1 ≤ k.w ∧ 1 ≤ k.h) (k0 : 0 ≤ kerf) : Sup ks kerf W H (valI T) := by
  have mono : ∀ {a b w h : Int}, a ≤ w → b ≤ h → w ≤ W → h ≤ H → valI T a b ≤ valI T w h := fun {a b w h} p q r s => F.mono k0 (a + b).toNat a b w h p q r s (by omega)
  refine ⟨fun w h a b => F.nn a b, fun k hkm w h a b c d => ?_, fun w h x x0 x1 w1 h0 h1 => ?_, fun w h y y0 y1 h1 w0 w1 => ?_⟩
  · have := hk k hkm
    obtain ⟨q, e⟩ := F.val (w := w) (h := h) (by omega) a (by omega) b
    rw [e]
    obtain ⟨i, hi, rfl⟩ := List.getElem_of_mem hkm
    have := q.kd i hi
    rw [show kget ks i = ks[i] by simp [kget, List.getD, hi]] at this
    exact this c d
  · obtain ⟨q, e⟩ := F.val (w := w) (h := h) (by omega) w1 h0 h1
    have n1 := F.nn (w := x) (h := h) (by omega) h1
    have n2 := F.nn (w := w - x - kerf) (h := h) (by omega) h1
    have m1 := mono (a := x) (b := h) (w := w) (h := h) (by omega) (Int.le_refl _) w1 h1
    have m2 := mono (a := w - x - kerf) (b := h) (w := w) (h := h) (by omega) (Int.le_refl _) w1 h1
    by_cases c1 : 0 < valI T x h
    · by_cases c2 : 0 < valI T (w - x - kerf) h
      · have := q.cw x x0 x1 c1 c2
        omega
      · omega
    · omega
  · obtain ⟨q, e⟩ := F.val (w := w) (h := h) w0 w1 (by omega) h1
    have n1 := F.nn (w := w) (h := y) w1 (by omega)
    have n2 := F.nn (w := w) (h := h - y - kerf) w1 (by omega)
    have m1 := mono (a := w) (b := y) (w := w) (h := h) (Int.le_refl _) (by omega) w1 h1
    have m2 := mono (a := w) (b := h - y - kerf) (w := w) (h := h) (Int.le_refl _) (by omega) w1 h1
    by_cases c1 : 0 < valI T w y
    · by_cases c2 : 0 < valI T w (h - y - kerf)
      · have := q.ch y y0 y1 c1 c2
        omega
      · omega
    · omega
end
theorem gfix (ks : List Knd) (kerf : Int) (k0 : 0 ≤ kerf) {w h : Int} (hw : 0 ≤ w) (hh : 0 ≤ h) : Fixd ks kerf w h (gtab ks w h kerf) := by
  have := tR_fix ks kerf k0 w.toNat h.toNat
  rw [show ((w.toNat : Nat) : Int) = w by omega, show ((h.toNat : Nat) : Int) = h by omega] at this
  exact this
section
variable {ks : List Knd} {kerf : Int} (hk : ∀ k ∈ ks, 1 ≤ k.w ∧ 1 ≤ k.h) (k0 : 0 ≤ kerf)
include hk k0
theorem gval_at {w h a b : Int} (hw : 0 ≤ w) (hh : 0 ≤ h) (ha : a ≤ w) (hb : b ≤ h) : gval ks a b kerf = valI (gtab ks w h kerf) a b := by
  by_cases o : a < 1 ∨ b < 1
  · rw [gval, valI, valI, if_pos o, if_pos o]
  have F1 := gfix ks kerf k0 hw hh
  have F2 := gfix ks kerf k0 (w := a) (h := b) (by omega) (by omega)
  have l1 := F2.att.le k0 ((F1.sup hk k0).sub ha hb) (Int.le_refl a) (Int.le_refl b)
  have l2 := (F1.att.sub ha hb).le k0 (F2.sup hk k0) (Int.le_refl a) (Int.le_refl b)
  exact Int.le_antisymm l1 l2
theorem gval_sup (W H : Int) : Sup ks kerf W H (fun a b => gval ks a b kerf) := by
  refine ⟨fun w h a b => ?_, fun k hkm w h a b c d => ?_, fun w h x x0 x1 w1 h0 h1 => ?_, fun w h y y0 y1 h1 w0 w1 => ?_⟩
  · show 0 ≤ gval ks w h kerf
    by_cases o : w < 1 ∨ h < 1
    · rw [gval, valI, if_pos o]; exact Int.le_refl _
    · exact (gfix ks kerf k0 (w := w) (h := h) (by omega) (by omega)).nn (Int.le_refl _) (Int.le_refl _)
  · have := hk k hkm
    exact ((gfix ks kerf k0 (w := w) (h := h) (by omega) (by omega)).sup hk k0).kd k hkm w h (Int.le_refl _) (Int.le_refl _) c d
  · have S := (gfix ks kerf k0 (w := w) (h := h) (by omega) (by omega)).sup hk k0
    have := S.cw w h x x0 x1 (Int.le_refl _) h0 (Int.le_refl _)
    show gval ks x h kerf + gval ks (w - x - kerf) h kerf ≤ gval ks w h kerf
    rw [gval_at hk k0 (w := w) (h := h) (by omega) (by omega) (a := x) (b := h) (by omega) (Int.le_refl _), gval_at hk k0 (w := w) (h := h) (by omega) (by omega) (a := w - x - kerf) (b := h) (by omega) (Int.le_refl _)]
    exact this
  · have S := (gfix ks kerf k0 (w := w) (h := h) (by omega) (by omega)).sup hk k0
    have := S.ch w h y y0 y1 (Int.le_refl _) w0 (Int.le_refl _)
    show gval ks w y kerf + gval ks w (h - y - kerf) kerf ≤ gval ks w h kerf
    rw [gval_at hk k0 (w := w) (h := h) (by omega) (by omega) (a := w) (b := y) (Int.le_refl _) (by omega), gval_at hk k0 (w := w) (h := h) (by omega) (by omega) (a := w) (b := h - y - kerf) (Int.le_refl _) (by omega)]
    exact this
theorem gval_nn (w h : Int) : 0 ≤ gval ks w h kerf := (gval_sup hk k0 w h).nn w h (Int.le_refl _) (Int.le_refl _)
omit hk in
theorem gval_least {W H : Int} {G : Int → Int → Int} (S : Sup ks kerf W H G) : gval ks W H kerf ≤ G W H := by
  by_cases o : W < 1 ∨ H < 1
  · rw [gval, valI, if_pos o]; exact S.nn W H (Int.le_refl _) (Int.le_refl _)
  · exact (gfix ks kerf k0 (w := W) (h := H) (by omega) (by omega)).att.le k0 S (Int.le_refl _) (Int.le_refl _)
end
/-! ### growing -/
/-! ### width and height exchanged -/
def trnK (ks : List Knd) : List Knd := ks.map fun k => ⟨k.h, k.w, k.v⟩
end St
end Go.Vm
namespace Go.Vm
set_option maxRecDepth 20000
set_option linter.unusedVariables false
set_option linter.unusedSimpArgs false
open Go Go.RowKit Go.Proofs
namespace St

def smallG (z : Pz) : Bool := decide (z.ks.length ≤ 6) && (decide (z.w ≤ 30) && (decide (z.h ≤ 30) && decide (z.kerf ≤ 60)))
theorem smallG_iff {z : Pz} : smallG z = true ↔ z.ks.length ≤ 6 ∧ z.w ≤ 30 ∧ z.h ≤ 30 ∧ z.kerf ≤ 60 := by
  simp [smallG, Bool.and_eq_true]
theorem gsmall_det (z : Pz) : Det Try.prog 29 [.agg (pzL z)] (tbool (smallG z)) := by
  refine det_of_awp TTok mixed Try.func29 rfl rfl [] (Nat.le_of_ble_eq_true rfl) ?_
  refine Split.mk (fun c1 => ?_) (fun c1 => ?_)
  · have e1 : z.ks.length ≤ 6 := by have := of_decide_eq_true c1; omega
    repeat' first | refine Split.isT c1 ?_ | refine Split.t ?_ | refine Split.f ?_ | fail
    refine Split.mk (fun c2 => ?_) (fun c2 => ?_)
    · repeat' first | refine Split.isT c1 ?_ | refine Split.isT c2 ?_ | refine Split.t ?_ | refine Split.f ?_ | fail
      refine Split.mk (fun c3 => ?_) (fun c3 => ?_)
      · repeat' first | refine Split.isT c1 ?_ | refine Split.isT c2 ?_ | refine Split.isT c3 ?_ | refine Split.t ?_ | refine Split.f ?_ | fail
        refine Fin.bool ?_
        rw [smallG, decide_eq_true e1, c2, c3]; rfl
      · repeat' first | refine Split.isT c1 ?_ | refine Split.isT c2 ?_ | refine Split.isF c3 ?_ | refine Split.t ?_ | refine Split.f ?_ | fail
        refine Fin.bool ?_
        rw [smallG, c3, Bool.false_and, Bool.and_false, Bool.and_false]
    · repeat' first | refine Split.isT c1 ?_ | refine Split.isF c2 ?_ | refine Split.t ?_ | refine Split.f ?_ | fail
      refine Fin.bool ?_
      rw [smallG, c2, Bool.false_and, Bool.and_false]
  · have e1 : ¬ z.ks.length ≤ 6 := by have := of_decide_eq_false c1; omega
    repeat' first | refine Split.isF c1 ?_ | refine Split.t ?_ | refine Split.f ?_ | fail
    refine Fin.bool ?_
    rw [smallG, decide_eq_false e1, Bool.false_and]
theorem gbestR_ok {ks : List Knd} {w h kerf : Int} (hz : (gbestR ks w h kerf).2.2 = 0) : Pb ks w h kerf ∧ gBadB ks w h kerf = false ∧ (gbestR ks w h kerf).1 = gval ks w h kerf := by
  unfold gbestR at hz ⊢
  cases hp : probB ks w h kerf with
  | false => rw [hp] at hz; simp at hz
  | true =>
    cases hm : gBadB ks w h kerf with
    | true => rw [hp, hm] at hz; simp at hz
    | false =>
      refine ⟨prob_iff.1 hp, rfl, ?_⟩
      simp
theorem Pb.posk {ks : List Knd} {w h kerf : Int} (p : Pb ks w h kerf) : ∀ k ∈ ks, 1 ≤ k.w ∧ 1 ≤ k.h := fun k hk => ⟨(p.ok k hk).w0, (p.ok k hk).h0⟩
/-! ### Grows -/
/-! ### Parts -/
end St
end Go.Vm
