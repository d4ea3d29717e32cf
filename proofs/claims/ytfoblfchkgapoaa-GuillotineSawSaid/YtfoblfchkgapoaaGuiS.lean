/-
  Layer 38: best values as the least superadditive function (plain).
  Layer 38: laws Grows and Parts.
-/
import Derived.Test.YtfoblfchkgapoaaGuiQ
namespace Go.Vm
set_option maxRecDepth 20000
set_option linter.unusedVariables false
set_option linter.unusedSimpArgs false
open Go Go.RowKit Go.Proofs
namespace St

/-- A function that is superadditive over cuts, and at least the kinds' values. -/
structure Sup (ks : List Knd) (kerf W H : Int) (F : Int → Int → Int) : Prop where
  nn : ∀ w h, w ≤ W → h ≤ H → 0 ≤ F w h
  kd : ∀ k ∈ ks, ∀ w h, w ≤ W → h ≤ H → k.w ≤ w → k.h ≤ h → k.v ≤ F w h
  cw : ∀ w h x, 1 ≤ x → x < w → w ≤ W → 1 ≤ h → h ≤ H → F x h + F (w - x - kerf) h ≤ F w h
  ch : ∀ w h y, 1 ≤ y → y < h → h ≤ H → 1 ≤ w → w ≤ W → F w y + F w (h - y - kerf) ≤ F w h
/-- A function whose values are those of patterns. -/
structure Att (ks : List Knd) (kerf W H : Int) (V : Int → Int → Int) : Prop where
  out : ∀ w h, w < 1 ∨ h < 1 → V w h = 0
  att : ∀ w h, 1 ≤ w → w ≤ W → 1 ≤ h → h ≤ H → V w h = 0 ∨ (∃ k ∈ ks, k.w ≤ w ∧ k.h ≤ h ∧ V w h = k.v) ∨ (∃ x, 1 ≤ x ∧ x < w ∧ V w h = V x h + V (w - x - kerf) h) ∨ (∃ y, 1 ≤ y ∧ y < h ∧ V w h = V w y + V w (h - y - kerf))
theorem Sup.sub {ks : List Knd} {kerf W H W' H' : Int} {F : Int → Int → Int} (S : Sup ks kerf W H F) (hw : W' ≤ W) (hh : H' ≤ H) : Sup ks kerf W' H' F :=
  ⟨fun w h a b => S.nn w h (by omega) (by omega), fun k hk w h a b => S.kd k hk w h (by omega) (by omega), fun w h x a b c d e => S.cw w h x a b (by omega) d (by omega), fun w h y a b c d e => S.ch w h y a b (by omega) d (by omega)⟩
theorem Att.sub {ks : List Knd} {kerf W H W' H' : Int} {F : Int → Int → Int} (S : Att ks kerf W H F) (hw : W' ≤ W) (hh : H' ≤ H) : Att ks kerf W' H' F :=
  ⟨S.out, fun w h a b c d => S.att w h a (by omega) c (by omega)⟩
theorem Att.least {ks : List Knd} {kerf W H : Int} {V F : Int → Int → Int} (k0 : 0 ≤ kerf) (A : Att ks kerf W H V) (S : Sup ks kerf W H F) : ∀ (n : Nat) (w h : Int), w ≤ W → h ≤ H → w + h ≤ n → V w h ≤ F w h := by
  intro n
  induction n with
  | zero =>
    intro w h a b c
    rw [A.out w h (by omega)]
    exact S.nn w h a b
  | succ n ih =>
    intro w h a b c
    by_cases o : w < 1 ∨ h < 1
    · rw [A.out w h o]
      exact S.nn w h a b
    rcases A.att w h (by omega) a (by omega) b with e | ⟨k, hk, k1, k2, e⟩ | ⟨x, x0, x1, e⟩ | ⟨y, y0, y1, e⟩
    · rw [e]; exact S.nn w h a b
    · rw [e]; exact S.kd k hk w h a b k1 k2
    · rw [e]
      have u1 := ih x h (by omega) b (by omega)
      have u2 := ih (w - x - kerf) h (by omega) b (by omega)
      have := S.cw w h x x0 x1 a (by omega) b
      omega
    · rw [e]
      have u1 := ih w y a (by omega) (by omega)
      have u2 := ih w (h - y - kerf) a (by omega) (by omega)
      have := S.ch w h y y0 y1 b (by omega) a
      omega
theorem Att.le {ks : List Knd} {kerf W H : Int} {V F : Int → Int → Int} (k0 : 0 ≤ kerf) (A : Att ks kerf W H V) (S : Sup ks kerf W H F) {w h : Int} (hw : w ≤ W) (hh : h ≤ H) : V w h ≤ F w h :=
  A.least k0 S (w + h).toNat w h hw hh (by omega)
/-! ### the table -/
section
variable {ks : List Knd} {kerf W H : Int} {T : List (List Pn)} (F : Fixd ks kerf W H T)
include F
theorem Fixd.att : Att ks kerf W H (valI T) := by
  refine ⟨fun w h o => by rw [valI, if_pos o], fun w h w0 w1 h0 h1 => ?_⟩
  obtain ⟨a, e⟩ := F.val w0 w1 h0 h1
  have hp := a.ok
  rw [e]
  generalize pnget (rwget T h.toNat) w.toNat = p at *
  cases hp with
  | none => exact .inl rfl
  | kind i hi b c d => exact .inr (.inl ⟨_, kget_mem hi, b, c, rfl⟩)
  | cw x x0 x1 q1 q2 => exact .inr (.inr (.inl ⟨x, x0, x1, rfl⟩))
  | ch y y0 y1 q1 q2 => exact .inr (.inr (.inr ⟨y, y0, y1, rfl⟩))
theorem Fixd.mono (k0 : 0 ≤ kerf) : ∀ (n : Nat) (a b w h : Int), a ≤ w → b ≤ h → w ≤ W → h ≤ H → a + b ≤ n → valI T a b ≤ valI T w h := by
  intro n
  induction n with
  | zero =>
    intro a b w h _ _ hw hh hn
    rw [show valI T a b = 0 by rw [valI, if_pos (by omega)]]
    exact F.nn hw hh
  | succ n ih =>
    intro a b w h ha hb hw hh hn
    by_cases o : a < 1 ∨ b < 1
    · rw [show valI T a b = 0 by rw [valI, if_pos o]]
      exact F.nn hw hh
    obtain ⟨p, e⟩ := F.val (w := a) (h := b) (by omega) (by omega) (by omega) (by omega)
    obtain ⟨q, e'⟩ := F.val (w := w) (h := h) (by omega) hw (by omega) hh
    have hp := p.ok
    rw [e, e']
    generalize pnget (rwget T b.toNat) a.toNat = p1 at *
    cases hp with
    | none => exact q.nn
    | kind i hi b c d => exact q.kd i hi (by omega) (by omega)
    | cw x x0 x1 q1 q2 =>
      have u1 := ih x b x h (Int.le_refl _) hb (by omega) hh (by omega)
      have u2 := ih (a - x - kerf) b (w - x - kerf) h (by omega) hb (by omega) hh (by omega)
      have := q.cw x x0 (by omega) (by omega) (by omega)
      show valI T x b + valI T (a - x - kerf) b ≤ _
      omega
    | ch y y0 y1 q1 q2 =>
      have u1 := ih a y w y ha (Int.le_refl _) hw (by omega) (by omega)
      have u2 := ih a (b - y - kerf) w (h - y - kerf) ha (by omega) hw (by omega) (by omega)
      have := q.ch y y0 (by omega) (by omega) (by omega)
      show valI T a y + valI T a (b - y - kerf) ≤ _
      omega
theorem Fixd.sup (hk : ∀ k ∈ ks, 1 ≤ k.w ∧ 1 ≤ k.h) (k0 : 0 ≤ kerf) : Sup ks kerf W H (valI T) := by
  have mono : ∀ {a b w h : Int}, a ≤ w → b ≤ h → w ≤ W → h ≤ H → valI T a b ≤ valI T w h := fun {a b w h} p q r s => F.mono k0 (a + b).toNat a b w h p q r s (by omega)
  refine ⟨fun w h a b => F.nn a b, fun k hkm w h a b c d => ?_, fun w h x x0 x1 w1 h0 h1 => ?_, fun w h y y0 y1 h1 w0 w1 => ?_⟩
  · have := hk k hkm
    obtain ⟨q, e⟩ := F.val (w := w) (h := h) (by omega) a (by omega) b
    rw [e]
    obtain ⟨i, hi, rfl⟩ := List.getElem_of_mem hkm
    have := q.kd i hi
    rw [show kget ks i = ks[i] by simp [kget, List.getD, hi]] at this
    exact this c d
  · obtain ⟨q, e⟩ := F.val (w := w) (h := h) (by omega) w1 h0 h1
    have n1 := F.nn (w := x) (h := h) (by omega) h1
    have n2 := F.nn (w := w - x - kerf) (h := h) (by omega) h1
    have m1 := mono (a := x) (b := h) (w := w) (h := h) (by omega) (Int.le_refl _) w1 h1
    have m2 := mono (a := w - x - kerf) (b := h) (w := w) (h := h) (by omega) (Int.le_refl _) w1 h1
    by_cases c1 : 0 < valI T x h
    · by_cases c2 : 0 < valI T (w - x - kerf) h
      · have := q.cw x x0 x1 c1 c2
        omega
      · omega
    · omega
  · obtain ⟨q, e⟩ := F.val (w := w) (h := h) w0 w1 (by omega) h1
    have n1 := F.nn (w := w) (h := y) w1 (by omega)
    have n2 := F.nn (w := w) (h := h - y - kerf) w1 (by omega)
    have m1 := mono (a := w) (b := y) (w := w) (h := h) (Int.le_refl _) (by omega) w1 h1
    have m2 := mono (a := w) (b := h - y - kerf) (w := w) (h := h) (Int.le_refl _) (by omega) w1 h1
    by_cases c1 : 0 < valI T w y
    · by_cases c2 : 0 < valI T w (h - y - kerf)
      · have := q.ch y y0 y1 c1 c2
        omega
      · omega
    · omega
end
theorem gfix (ks : List Knd) (kerf : Int) (k0 : 0 ≤ kerf) {w h : Int} (hw : 0 ≤ w) (hh : 0 ≤ h) : Fixd ks kerf w h (gtab ks w h kerf) := by
  have := tR_fix ks kerf k0 w.toNat h.toNat
  rw [show ((w.toNat : Nat) : Int) = w by omega, show ((h.toNat : Nat) : Int) = h by omega] at this
  exact this
section
variable {ks : List Knd} {kerf : Int} (hk : ∀ k ∈ ks, 1 ≤ k.w ∧ 1 ≤ k.h) (k0 : 0 ≤ kerf)
include hk k0
/-- The value of a smaller sheet, out of a greater one's table. -/
theorem gval_at {w h a b : Int} (hw : 0 ≤ w) (hh : 0 ≤ h) (ha : a ≤ w) (hb : b ≤ h) : gval ks a b kerf = valI (gtab ks w h kerf) a b := by
  by_cases o : a < 1 ∨ b < 1
  · rw [gval, valI, valI, if_pos o, if_pos o]
  have F1 := gfix ks kerf k0 hw hh
  have F2 := gfix ks kerf k0 (w := a) (h := b) (by omega) (by omega)
  have l1 := F2.att.le k0 ((F1.sup hk k0).sub ha hb) (Int.le_refl a) (Int.le_refl b)
  have l2 := (F1.att.sub ha hb).le k0 (F2.sup hk k0) (Int.le_refl a) (Int.le_refl b)
  exact Int.le_antisymm l1 l2
theorem gval_sup (W H : Int) : Sup ks kerf W H (fun a b => gval ks a b kerf) := by
  refine ⟨fun w h a b => ?_, fun k hkm w h a b c d => ?_, fun w h x x0 x1 w1 h0 h1 => ?_, fun w h y y0 y1 h1 w0 w1 => ?_⟩
  · show 0 ≤ gval ks w h kerf
    by_cases o : w < 1 ∨ h < 1
    · rw [gval, valI, if_pos o]; exact Int.le_refl _
    · exact (gfix ks kerf k0 (w := w) (h := h) (by omega) (by omega)).nn (Int.le_refl _) (Int.le_refl _)
  · have := hk k hkm
    exact ((gfix ks kerf k0 (w := w) (h := h) (by omega) (by omega)).sup hk k0).kd k hkm w h (Int.le_refl _) (Int.le_refl _) c d
  · have S := (gfix ks kerf k0 (w := w) (h := h) (by omega) (by omega)).sup hk k0
    have := S.cw w h x x0 x1 (Int.le_refl _) h0 (Int.le_refl _)
    show gval ks x h kerf + gval ks (w - x - kerf) h kerf ≤ gval ks w h kerf
    rw [gval_at hk k0 (w := w) (h := h) (by omega) (by omega) (a := x) (b := h) (by omega) (Int.le_refl _), gval_at hk k0 (w := w) (h := h) (by omega) (by omega) (a := w - x - kerf) (b := h) (by omega) (Int.le_refl _)]
    exact this
  · have S := (gfix ks kerf k0 (w := w) (h := h) (by omega) (by omega)).sup hk k0
    have := S.ch w h y y0 y1 (Int.le_refl _) w0 (Int.le_refl _)
    show gval ks w y kerf + gval ks w (h - y - kerf) kerf ≤ gval ks w h kerf
    rw [gval_at hk k0 (w := w) (h := h) (by omega) (by omega) (a := w) (b := y) (Int.le_refl _) (by omega), gval_at hk k0 (w := w) (h := h) (by omega) (by omega) (a := w) (b := h - y - kerf) (Int.le_refl _) (by omega)]
    exact this
theorem gval_nn (w h : Int) : 0 ≤ gval ks w h kerf := (gval_sup hk k0 w h).nn w h (Int.le_refl _) (Int.le_refl _)
omit hk in
theorem gval_least {W H : Int} {G : Int → Int → Int} (S : Sup ks kerf W H G) : gval ks W H kerf ≤ G W H := by
  by_cases o : W < 1 ∨ H < 1
  · rw [gval, valI, if_pos o]; exact S.nn W H (Int.le_refl _) (Int.le_refl _)
  · exact (gfix ks kerf k0 (w := W) (h := H) (by omega) (by omega)).att.le k0 S (Int.le_refl _) (Int.le_refl _)
theorem gval_mono {a b w h : Int} (ha : a ≤ w) (hb : b ≤ h) : gval ks a b kerf ≤ gval ks w h kerf := by
  by_cases o : a < 1 ∨ b < 1
  · rw [show gval ks a b kerf = 0 by rw [gval, valI, if_pos o]]
    exact gval_nn hk k0 w h
  · rw [gval_at hk k0 (w := w) (h := h) (by omega) (by omega) ha hb]
    exact (gfix ks kerf k0 (w := w) (h := h) (by omega) (by omega)).mono k0 (a + b).toNat a b w h ha hb (Int.le_refl _) (Int.le_refl _) (by omega)
end
/-! ### growing -/
theorem gval_kinds {ks : List Knd} {kerf : Int} {k : Knd} (hk : ∀ x ∈ k :: ks, 1 ≤ x.w ∧ 1 ≤ x.h) (k0 : 0 ≤ kerf) (w h : Int) : gval ks w h kerf ≤ gval (k :: ks) w h kerf := by
  have S := gval_sup hk k0 w h
  exact gval_least k0 (G := fun a b => gval (k :: ks) a b kerf) ⟨S.nn, fun x hx => S.kd x (by simp [hx]), S.cw, S.ch⟩
theorem gval_kerf {ks : List Knd} {kerf c : Int} (hk : ∀ x ∈ ks, 1 ≤ x.w ∧ 1 ≤ x.h) (c0 : 0 ≤ c) (hc : c ≤ kerf) (w h : Int) : gval ks w h kerf ≤ gval ks w h c := by
  have S := gval_sup hk c0 w h
  refine gval_least (by omega) (G := fun a b => gval ks a b c) ⟨S.nn, S.kd, fun w' h' x a b d e f => ?_, fun w' h' y a b d e f => ?_⟩
  · have := S.cw w' h' x a b d e f
    have m := gval_mono hk c0 (show w' - x - kerf ≤ w' - x - c by omega) (Int.le_refl h')
    show gval ks x h' c + gval ks (w' - x - kerf) h' c ≤ gval ks w' h' c
    have this' : gval ks x h' c + gval ks (w' - x - c) h' c ≤ gval ks w' h' c := this
    omega
  · have := S.ch w' h' y a b d e f
    have m := gval_mono hk c0 (Int.le_refl w') (show h' - y - kerf ≤ h' - y - c by omega)
    show gval ks w' y c + gval ks w' (h' - y - kerf) c ≤ gval ks w' h' c
    have this' : gval ks w' y c + gval ks w' (h' - y - c) c ≤ gval ks w' h' c := this
    omega
/-! ### width and height exchanged -/
def trnK (ks : List Knd) : List Knd := ks.map fun k => ⟨k.h, k.w, k.v⟩
theorem trnK_trnK (ks : List Knd) : trnK (trnK ks) = ks := by
  rw [trnK, trnK, List.map_map]
  exact List.map_id' _
theorem trnK_mem {ks : List Knd} {k : Knd} (h : k ∈ trnK ks) : ⟨k.h, k.w, k.v⟩ ∈ ks := by
  obtain ⟨x, hx, rfl⟩ := List.mem_map.1 h
  exact hx
theorem gval_trn_le {ks : List Knd} {kerf : Int} (hk : ∀ x ∈ ks, 1 ≤ x.w ∧ 1 ≤ x.h) (k0 : 0 ≤ kerf) (w h : Int) : gval ks w h kerf ≤ gval (trnK ks) h w kerf := by
  have hk' : ∀ x ∈ trnK ks, 1 ≤ x.w ∧ 1 ≤ x.h := fun x hx => by have := hk _ (trnK_mem hx); exact ⟨this.2, this.1⟩
  have S := gval_sup hk' k0 h w
  refine gval_least k0 (G := fun a b => gval (trnK ks) b a kerf) ⟨fun a b p q => S.nn b a q p, fun k hkm a b p q r s => ?_, fun a b x x0 x1 p q r => S.ch b a x x0 x1 p q r, fun a b y y0 y1 p q r => S.cw b a y y0 y1 p q r⟩
  exact S.kd ⟨k.h, k.w, k.v⟩ (List.mem_map.2 ⟨k, hkm, rfl⟩) b a q p s r
theorem gval_trn {ks : List Knd} {kerf : Int} (hk : ∀ x ∈ ks, 1 ≤ x.w ∧ 1 ≤ x.h) (k0 : 0 ≤ kerf) (w h : Int) : gval (trnK ks) h w kerf = gval ks w h kerf := by
  have hk' : ∀ x ∈ trnK ks, 1 ≤ x.w ∧ 1 ≤ x.h := fun x hx => by have := hk _ (trnK_mem hx); exact ⟨this.2, this.1⟩
  refine Int.le_antisymm ?_ (gval_trn_le hk k0 w h)
  have := gval_trn_le hk' k0 h w
  rw [trnK_trnK] at this
  exact this
end St
end Go.Vm
namespace Go.Vm
set_option maxRecDepth 20000
set_option linter.unusedVariables false
set_option linter.unusedSimpArgs false
open Go Go.RowKit Go.Proofs
namespace St

def smallG (z : Pz) : Bool := decide (z.ks.length ≤ 6) && (decide (z.w ≤ 30) && (decide (z.h ≤ 30) && decide (z.kerf ≤ 60)))
theorem smallG_iff {z : Pz} : smallG z = true ↔ z.ks.length ≤ 6 ∧ z.w ≤ 30 ∧ z.h ≤ 30 ∧ z.kerf ≤ 60 := by
  simp [smallG, Bool.and_eq_true]
theorem gsmall_det (z : Pz) : Det Try.prog 29 [.agg (pzL z)] (tbool (smallG z)) := by
  refine det_of_awp TTok mixed Try.func29 rfl rfl [] (Nat.le_of_ble_eq_true rfl) ?_
  refine Split.mk (fun c1 => ?_) (fun c1 => ?_)
  · have e1 : z.ks.length ≤ 6 := by have := of_decide_eq_true c1; omega
    repeat' first | refine Split.isT c1 ?_ | refine Split.t ?_ | refine Split.f ?_ | fail
    refine Split.mk (fun c2 => ?_) (fun c2 => ?_)
    · repeat' first | refine Split.isT c1 ?_ | refine Split.isT c2 ?_ | refine Split.t ?_ | refine Split.f ?_ | fail
      refine Split.mk (fun c3 => ?_) (fun c3 => ?_)
      · repeat' first | refine Split.isT c1 ?_ | refine Split.isT c2 ?_ | refine Split.isT c3 ?_ | refine Split.t ?_ | refine Split.f ?_ | fail
        refine Fin.bool ?_
        rw [smallG, decide_eq_true e1, c2, c3]; rfl
      · repeat' first | refine Split.isT c1 ?_ | refine Split.isT c2 ?_ | refine Split.isF c3 ?_ | refine Split.t ?_ | refine Split.f ?_ | fail
        refine Fin.bool ?_
        rw [smallG, c3, Bool.false_and, Bool.and_false, Bool.and_false]
    · repeat' first | refine Split.isT c1 ?_ | refine Split.isF c2 ?_ | refine Split.t ?_ | refine Split.f ?_ | fail
      refine Fin.bool ?_
      rw [smallG, c2, Bool.false_and, Bool.and_false]
  · have e1 : ¬ z.ks.length ≤ 6 := by have := of_decide_eq_false c1; omega
    repeat' first | refine Split.isF c1 ?_ | refine Split.t ?_ | refine Split.f ?_ | fail
    refine Fin.bool ?_
    rw [smallG, decide_eq_false e1, Bool.false_and]
theorem gbestR_ok {ks : List Knd} {w h kerf : Int} (hz : (gbestR ks w h kerf).2.2 = 0) : Pb ks w h kerf ∧ gBadB ks w h kerf = false ∧ (gbestR ks w h kerf).1 = gval ks w h kerf := by
  unfold gbestR at hz ⊢
  cases hp : probB ks w h kerf with
  | false => rw [hp] at hz; simp at hz
  | true =>
    cases hm : gBadB ks w h kerf with
    | true => rw [hp, hm] at hz; simp at hz
    | false =>
      refine ⟨prob_iff.1 hp, rfl, ?_⟩
      simp
theorem gbestR_err {ks : List Knd} {w h kerf : Int} (p : Pb ks w h kerf) : ((gbestR ks w h kerf).2.2 = 9 ∧ gBadB ks w h kerf = true ∧ (gbestR ks w h kerf).1 = 0) ∨ ((gbestR ks w h kerf).2.2 = 0 ∧ gBadB ks w h kerf = false ∧ (gbestR ks w h kerf).1 = gval ks w h kerf) := by
  unfold gbestR
  rw [prob_iff.2 p]
  cases hm : gBadB ks w h kerf with
  | true => left; simp
  | false => right; simp
theorem gval_ub {ks : List Knd} {w h kerf : Int} (p : Pb ks w h kerf) (hb : gBadB ks w h kerf = false) : 0 ≤ gval ks w h kerf ∧ gval ks w h kerf ≤ 1000000000000 := by
  rw [gBadB, Bool.or_eq_false_iff, Bool.or_eq_false_iff, decide_eq_false_iff_not, decide_eq_false_iff_not] at hb
  have w0 := p.w0; have h0 := p.h0
  have := tR_bd (W := w.toNat) (H := h.toNat) (fun k hk => (p.ok k hk).v1) p.k0 (by omega) (by omega) w h
  exact this
theorem gbad_mono {ks : List Knd} {w h w' h' kerf : Int} (p : Pb ks w h kerf) (w0 : 1 ≤ w') (h0 : 1 ≤ h') (hw : w' ≤ w) (hh : h' ≤ h) (hb : gBadB ks w h kerf = false) : gBadB ks w' h' kerf = false := by
  rw [gBadB, Bool.or_eq_false_iff, Bool.or_eq_false_iff, decide_eq_false_iff_not, decide_eq_false_iff_not] at hb ⊢
  refine ⟨by omega, by omega, ?_⟩
  obtain ⟨_, _, hm⟩ := hb
  unfold gmanyB at hm ⊢
  split
  · rfl
  · rename_i hne
    rw [if_neg hne, decide_eq_false_iff_not] at hm
    rw [decide_eq_false_iff_not]
    have k0 := p.k0
    have a0 : 1 ≤ lowL Knd.w ks 2000 := lowL_ge _ 1 _ _ (fun k hk => (p.ok k hk).w0) (by decide)
    have b0 : 1 ≤ lowL Knd.h ks 2000 := lowL_ge _ 1 _ _ (fun k hk => (p.ok k hk).h0) (by decide)
    have D0 : 1 * 1 ≤ (lowL Knd.w ks 2000 + kerf) * (lowL Knd.h ks 2000 + kerf) := Int.mul_le_mul (by omega) (by omega) (by decide) (by omega)
    have mono : (w' + kerf) * (h' + kerf) ≤ (w + kerf) * (h + kerf) := Int.mul_le_mul (by omega) (by omega) (by omega) (by omega)
    have := Int.ediv_le_ediv (show 0 < (lowL Knd.w ks 2000 + kerf) * (lowL Knd.h ks 2000 + kerf) by omega) mono
    omega
theorem Pb.posk {ks : List Knd} {w h kerf : Int} (p : Pb ks w h kerf) : ∀ k ∈ ks, 1 ≤ k.w ∧ 1 ≤ k.h := fun k hk => ⟨(p.ok k hk).w0, (p.ok k hk).h0⟩
/-! ### Grows -/
theorem lggrows_det (z : Pz) (k : Knd) (a b : Int) (hl : z.ks.length ≤ maxLen) (ha0 : 0 ≤ a) (ha1 : a ≤ 255) (hb0 : 0 ≤ b) (hb1 : b ≤ 255) : Det Try.prog 7 [.agg (pzL z), .agg (kL k), .agg [.v (.int .u8 a), .v (.int .u8 b)]] (tbool true) := by
  refine det_of_awp TTok mixed Try.func7 rfl rfl [27 + 6000000, 79 + 6000000] (Nat.le_of_ble_eq_true rfl) ?_
  refine CallW.mk' awake38_det ?_
  refine Split.f ?_
  refine CallW.bool (gsmall_det z) (fun b1 hb1' => ?_)
  refine Split.mk (fun c1 => ?_) (fun c1 => ?_)
  · repeat' first | refine Split.isT c1 ?_ | refine Split.t ?_ | refine Split.f ?_ | fail
    refine Need.mk (by kernel_rfl) ?_
    repeat' first | refine Split.isT c1 ?_ | refine Split.t ?_ | refine Split.f ?_ | fail
    exact Fin.rfl'
  have hsm := smallG_iff.1 (by rw [← hb1']; simpa using c1 : smallG z = true)
  repeat' first | refine Split.isF c1 ?_ | refine Split.t ?_ | refine Split.f ?_ | fail
  refine Need.mk (needApp (n := 1 + z.ks.length) (by omega) (by decide)) ?_
  repeat' first | refine Split.isF c1 ?_ | refine Split.t ?_ | refine Split.f ?_ | fail
  refine CallW.bool ((rproblem_det (k :: z.ks) z.w z.h z.kerf (by rw [List.length_cons]; omega)).le (.cons (cons_le k z.ks) (.cons (DLe.refl _) (.cons (DLe.refl _) (.cons (DLe.refl _) .nil))))) (fun b2 hb2 => ?_)
  repeat' first | refine Split.isF c1 ?_ | refine Split.t ?_ | refine Split.f ?_ | fail
  refine Need.mk (by kernel_rfl) ?_
  repeat' first | refine Split.isF c1 ?_ | refine Split.t ?_ | refine Split.f ?_ | fail
  refine Split.mk (fun c3 => ?_) (fun c3 => ?_)
  · exact Fin.rfl'
  have p : Pb (k :: z.ks) z.w z.h z.kerf := prob_iff.1 (by rw [← hb2]; simpa using c3)
  have p0 : Pb z.ks z.w z.h z.kerf := ⟨by have := p.len; rw [List.length_cons] at this; omega, fun x hx => p.ok x (by simp [hx]), p.w0, p.w1, p.h0, p.h1, p.k0, p.k1⟩
  have w0 := p.w0; have h0 := p.h0; have k0 := p.k0
  refine CallW.kds (kinds_det z.ks (by omega)) ?_
  refine CallW.best (gbest_det z.ks z.w z.h z.kerf hl) (fun v hv => ?_)
  refine Need.mk (by decide) ?_
  refine Need.mk ⟨_, rfl⟩ ?_
  refine Need.mk (by decide) ?_
  refine Need.mk (by decide) ?_
  refine Need.mk ⟨_, rfl⟩ ?_
  refine Need.mk (by decide) ?_
  have ea : IntKind.i64.wrap a = a := hw _ (by omega) (by omega)
  have eb : IntKind.i64.wrap b = b := hw _ (by omega) (by omega)
  have em1 : (IntKind.i64.wrap a).tmod 10 = a % 10 := by rw [ea, rem_w ha0]
  have em2 : (IntKind.i64.wrap b).tmod 10 = b % 10 := by rw [eb, rem_w hb0]
  have em3 : (IntKind.i64.wrap a).tmod 3 = a % 3 := by rw [ea, rem_w ha0]
  have ew : IntKind.i64.wrap (z.w + (IntKind.i64.wrap a).tmod 10) = z.w + a % 10 := by rw [em1]; exact hw _ (by omega) (by omega)
  have eh : IntKind.i64.wrap (z.h + (IntKind.i64.wrap b).tmod 10) = z.h + b % 10 := by rw [em2]; exact hw _ (by omega) (by omega)
  refine CallW.best ((gbest_det z.ks (z.w + a % 10) (z.h + b % 10) z.kerf hl).le (.cons (DLe.refl _) (.cons (DLe.of_eq (by rw [← ew])) (.cons (DLe.of_eq (by rw [← eh])) (.cons (DLe.refl _) .nil))))) (fun x hx => ?_)
  refine Need.mk (needApp (n := 1 + z.ks.length) (by omega) (by decide)) ?_
  refine CallW.best ((gbest_det (k :: z.ks) z.w z.h z.kerf (by rw [List.length_cons]; simp only [maxLen]; omega)).le (.cons (cons_le k z.ks) (.cons (DLe.refl _) (.cons (DLe.refl _) (.cons (DLe.refl _) .nil))))) (fun y hy => ?_)
  refine Need.mk (by kernel_rfl) ?_
  refine Need.mk (by decide) ?_
  refine Need.mk ⟨_, rfl⟩ ?_
  refine Need.mk (by decide) ?_
  have ek : IntKind.i64.wrap (z.kerf - (if (IntKind.i64.wrap a).tmod 3 < z.kerf then (IntKind.i64.wrap a).tmod 3 else z.kerf)) = z.kerf - minI z.kerf (a % 3) := by
    rw [em3, minI]
    split <;> exact hw _ (by omega) (by omega)
  refine CallW.best ((gbest_det z.ks z.w z.h (z.kerf - minI z.kerf (a % 3)) hl).le (.cons (DLe.refl _) (.cons (DLe.refl _) (.cons (DLe.refl _) (.cons (DLe.of_eq (by rw [← ek])) .nil))))) (fun u hu => ?_)
  have hmin := minI_spec z.kerf (a % 3)
  rcases gbestR_err p0 with ⟨he, _⟩ | ⟨he, _, hv0⟩
  · rw [← hv] at he
    have e1 : (v.2.2 != 0) = true := by rw [he]; rfl
    refine Split.isT e1 ?_
    refine Fin.bool ?_
    rw [he]; rfl
  rw [← hv] at he hv0
  have e1 : (v.2.2 != 0) = false := by rw [he]; rfl
  refine Split.isF e1 ?_
  have gx : x.2.2 = 0 → x.1 ≥ v.1 := fun h => by
    rw [hx] at h ⊢
    obtain ⟨q1, _, q3⟩ := gbestR_ok h
    rw [q3, hv0]
    exact gval_mono p0.posk k0 (by omega) (by omega)
  have gy : y.2.2 = 0 → y.1 ≥ v.1 := fun h => by
    rw [hy] at h ⊢
    obtain ⟨q1, _, q3⟩ := gbestR_ok h
    rw [q3, hv0]
    exact gval_kinds p.posk k0 _ _
  have gu : u.2.2 = 0 → u.1 ≥ v.1 := fun h => by
    rw [hu] at h ⊢
    obtain ⟨q1, _, q3⟩ := gbestR_ok h
    rw [q3, hv0]
    exact gval_kerf p0.posk (by omega) (by omega) _ _
  clear hx hy hu hv
  obtain ⟨x1, x2, x3⟩ := x
  obtain ⟨y1, y2, y3⟩ := y
  obtain ⟨u1, u2, u3⟩ := u
  obtain ⟨v1, v2, v3⟩ := v
  replace gx : x3 = 0 → x1 ≥ v1 := gx
  replace gy : y3 = 0 → y1 ≥ v1 := gy
  replace gu : u3 = 0 → u1 ≥ v1 := gu
  show Split (x3 != 0) _
  refine Split.mk (fun d1 => ?_) (fun d1 => ?_)
  all_goals
    have d1' : x3 = 0 → decide (x1 ≥ v1) = true := fun h => decide_eq_true (gx h)
    first | replace d1' := d1' (by simpa using d1) | skip
    repeat' first | refine Split.isT d1 ?_ | refine Split.isF d1 ?_ | refine Split.isT d1' ?_ | refine Split.t ?_ | refine Split.f ?_ | fail
    refine Split.mk (fun d2 => ?_) (fun d2 => ?_)
    all_goals
      have d2' : y3 = 0 → decide (y1 ≥ v1) = true := fun h => decide_eq_true (gy h)
      first | replace d2' := d2' (by simpa using d2) | skip
      repeat' first | refine Split.isT d2 ?_ | refine Split.isF d2 ?_ | refine Split.isT d2' ?_ | refine Split.t ?_ | refine Split.f ?_ | fail
      refine Split.mk (fun d3 => ?_) (fun d3 => ?_)
      all_goals
        have d3' : u3 = 0 → decide (u1 ≥ v1) = true := fun h => decide_eq_true (gu h)
        first | replace d3' := d3' (by simpa using d3) | skip
        repeat' first | refine Split.isT d3 ?_ | refine Split.isF d3 ?_ | refine Split.isT d3' ?_ | refine Split.t ?_ | refine Split.f ?_ | fail
        refine Fin.bool ?_
        first | rfl | assumption
theorem lggrows_all : ∀ dvs, TypL Try.prog Try.f7.params.toList dvs → Det Try.prog 7 dvs (tbool true) := by
  intro dvs h
  obtain ⟨v0, r0, rfl, h0, q0⟩ := TypL.inv_cons (t := 24) (ts := [43, 44]) h
  obtain ⟨v1, r1, rfl, h1, q1⟩ := TypL.inv_cons (t := 43) (ts := [44]) q0
  obtain ⟨v2, r2, rfl, h2, q2⟩ := TypL.inv_cons (t := 44) (ts := []) q1
  obtain rfl := TypL.inv_nil q2
  obtain ⟨z, hz, _, _, _, hle⟩ := pzIn h0
  obtain ⟨k, rfl⟩ := kndIn h1
  obtain ⟨a, b, rfl, a0, a1, b0, b1⟩ := arrIn h2
  exact Det.le (.cons hle (.cons (DLe.refl _) (.cons (DLe.refl _) .nil))) (lggrows_det z k a b hz a0 a1 b0 b1)
/-! ### Parts -/
theorem lowL_trn_w (ks : List Knd) (a : Int) : lowL Knd.w (trnK ks) a = lowL Knd.h ks a := by
  unfold lowL trnK
  rw [List.foldl_map]
theorem lowL_trn_h (ks : List Knd) (a : Int) : lowL Knd.h (trnK ks) a = lowL Knd.w ks a := by
  unfold lowL trnK
  rw [List.foldl_map]
theorem trn_pb {ks : List Knd} {w h kerf : Int} (p : Pb ks w h kerf) : Pb (trnK ks) h w kerf := by
  refine ⟨by rw [trnK, List.length_map]; exact p.len, fun k hk => ?_, p.h0, p.h1, p.w0, p.w1, p.k0, p.k1⟩
  have := p.ok _ (trnK_mem hk)
  exact ⟨this.h0, this.h1, this.w0, this.w1, this.v0, this.v1⟩
theorem gbad_trn (ks : List Knd) (w h kerf : Int) : gBadB (trnK ks) h w kerf = gBadB ks w h kerf := by
  have e : gmanyB (trnK ks) h w kerf = gmanyB ks w h kerf := by
    unfold gmanyB
    have : trnK ks = [] ↔ ks = [] := by unfold trnK; exact List.map_eq_nil_iff
    by_cases c : ks = []
    · rw [if_pos c, if_pos (this.2 c)]
    · rw [if_neg c, if_neg (fun q => c (this.1 q)), lowL_trn_w, lowL_trn_h, Int.mul_comm (h + kerf), Int.mul_comm (lowL Knd.h ks 2000 + kerf)]
  rw [gBadB, gBadB, e]
  cases decide (w > 200) <;> cases decide (h > 200) <;> rfl
theorem lgparts_det (z : Pz) (a : Int) (hl : z.ks.length ≤ maxLen) (ha0 : 0 ≤ a) (ha1 : a ≤ 255) : Det Try.prog 8 [.agg (pzL z), .one (.v (.int .u8 a))] (tbool true) := by
  refine det_of_awp TTok mixed Try.func8 rfl rfl [] (Nat.le_of_ble_eq_true rfl) ?_
  refine CallW.mk' awake38_det ?_
  refine Split.f ?_
  refine CallW.bool (gsmall_det z) (fun b1 hb1' => ?_)
  refine Split.mk (fun c1 => ?_) (fun c1 => ?_)
  · repeat' first | refine Split.isT c1 ?_ | refine Split.t ?_ | refine Split.f ?_ | fail
    exact Fin.rfl'
  have hsm := smallG_iff.1 (by rw [← hb1']; simpa using c1 : smallG z = true)
  repeat' first | refine Split.isF c1 ?_ | refine Split.t ?_ | refine Split.f ?_ | fail
  refine CallW.bool (rproblem_det z.ks z.w z.h z.kerf (by omega)) (fun b2 hb2 => ?_)
  repeat' first | refine Split.isF c1 ?_ | refine Split.t ?_ | refine Split.f ?_ | fail
  refine Split.mk (fun c3 => ?_) (fun c3 => ?_)
  · exact Fin.rfl'
  have p : Pb z.ks z.w z.h z.kerf := prob_iff.1 (by rw [← hb2]; simpa using c3)
  have w0 := p.w0; have h0 := p.h0; have h1 := p.h1; have kf0 := p.k0; have k1 := p.k1
  refine CallW.kds (kinds_det z.ks (by omega)) ?_
  refine Loop.by (α := Nat) (fun k => [(1, .d (.one (.v (.int .u8 a)))), (2, .ptr 2 0), (5, .d (.one (kS z.ks))), (6, .hdl 58 0), (43, .d (.one (kS z.ks))), (44, tint z.ks.length), (45, tint k)])
    (fun k => [(2, .box (pzL z)), (58, .bld 0 (trnK (z.ks.take k)).length 3 46 (lG kL k0 (trnK (z.ks.take k))))]) (fun k => k ≤ z.ks.length) (fun k => z.ks.length - k)
    (Adj.nil 6 58 3 46 (lG kL k0 []) rfl rfl
      (Adj.at 0 (Nat.zero_le _) (.cons (.box (LLe.refl _)) (.cons (.bld (fun _ h => absurd h (Nat.not_lt_zero _))) .nil)) (.cons .same (.cons (.box rfl rfl) (.cons .same (.cons (.hdl rfl rfl) (.cons .same (.cons .same (.cons .same .nil))))))))) (fun k hk => ?_)
  refine Split.mk (fun c4 => ?_) (fun c4 => ?_)
  · have hlt : k < z.ks.length := by have := of_decide_eq_true c4; omega
    have et : trnK (z.ks.take (k + 1)) = trnK (z.ks.take k) ++ [⟨(kget z.ks k).h, (kget z.ks k).w, (kget z.ks k).v⟩] := by
      rw [take_snoc z.ks k0 k hlt, trnK, trnK, List.map_append]; rfl
    have hkl : (trnK (z.ks.take k)).length = k := by rw [trnK, List.length_map, List.length_take]; omega
    refine Need.mk (by omega) ?_
    refine Need.mk (needApp (n := (trnK (z.ks.take k)).length + 1) (by omega) (by decide)) ?_
    refine Adj.back (x := k) (k + 1) (by omega) (by omega) (.cons (.box (LLe.refl _)) (.cons (.bldN (by rw [et, List.length_append]; rfl) (fun i hi j hj => ?_)) .nil))
      (.cons .same (.cons (.box rfl rfl) (.cons .same (.cons (.hdl rfl rfl) (.cons .same (.cons .same (.cons (SlotLe.int (hS k (by omega))) .nil)))))))
    rw [et]
    exact lG_snoc kL k0 _ ⟨(kget z.ks k).h, (kget z.ks k).w, (kget z.ks k).v⟩ 3 _ i j _ rfl rfl hi hj
  have he : k = z.ks.length := by have := of_decide_eq_false c4; omega
  subst he
  rw [List.take_length]
  have htl : (trnK z.ks).length = z.ks.length := by rw [trnK, List.length_map]
  refine CallW.best (gbest_det z.ks z.w z.h z.kerf hl) (fun v hv => ?_)
  refine CallW.best ((gbest_det (trnK z.ks) z.h z.w z.kerf (by omega)).le (.cons (DLe.refl _) (.cons (DLe.refl _) (.cons (DLe.refl _) (.cons (DLe.refl _) .nil))))) (fun u hu => ?_)
  have pt := trn_pb p
  have huv : u.1 = v.1 ∧ u.2.2 = v.2.2 := by
    rw [hu, hv]
    have eb := gbad_trn z.ks z.w z.h z.kerf
    rcases gbestR_err p with ⟨a1, a2, a3⟩ | ⟨a1, a2, a3⟩
    · rcases gbestR_err pt with ⟨b1, b2, b3⟩ | ⟨b1, b2, b3⟩
      · rw [a1, a3, b1, b3]; exact ⟨rfl, rfl⟩
      · rw [eb, a2] at b2; cases b2
    · rcases gbestR_err pt with ⟨b1, b2, b3⟩ | ⟨b1, b2, b3⟩
      · rw [eb, a2] at b2; cases b2
      · rw [a1, a3, b1, b3]; exact ⟨gval_trn p.posk kf0 _ _, rfl⟩
  clear hu
  obtain ⟨u1, u2, u3⟩ := u
  have g1 : (v.1 != u1) = false := by rw [show u1 = v.1 from huv.1]; exact bne_self_eq_false _
  have g2 : (v.2.2 != u3) = false := by rw [show u3 = v.2.2 from huv.2]; exact bne_self_eq_false _
  refine Split.isF g1 ?_
  repeat' first | refine Split.isF g1 ?_ | refine Split.t ?_ | refine Split.f ?_ | fail
  refine Split.isF g2 ?_
  refine Need.mk ⟨_, rfl⟩ ?_
  refine Need.mk (by omega) ?_
  have ea : IntKind.i64.wrap a = a := hw _ (by omega) (by omega)
  have hr0 := Int.emod_nonneg a (show z.w ≠ 0 by omega)
  have hr1 := Int.emod_lt_of_pos a (show 0 < z.w by omega)
  have elo : IntKind.i64.wrap (1 + (IntKind.i64.wrap a).tmod z.w) = 1 + a % z.w := by rw [ea, rem_w ha0]; exact hw _ (by omega) (by omega)
  have ehi : IntKind.i64.wrap (IntKind.i64.wrap (z.w - IntKind.i64.wrap (1 + (IntKind.i64.wrap a).tmod z.w)) - z.kerf) = z.w - (1 + a % z.w) - z.kerf := by
    rw [elo, hw (z.w - (1 + a % z.w)) (by omega) (by omega)]; exact hw _ (by omega) (by omega)
  generalize a % z.w = m at *
  show Split (decide (IntKind.i64.wrap (IntKind.i64.wrap (z.w - IntKind.i64.wrap (1 + (IntKind.i64.wrap a).tmod z.w)) - z.kerf) < 1)) _
  refine Split.mk (fun c4 => ?_) (fun c4 => ?_)
  · repeat' first | refine Split.isT c4 ?_ | refine Split.t ?_ | refine Split.f ?_ | fail
    exact Fin.rfl'
  have c4' : 1 ≤ z.w - (1 + m) - z.kerf := by have := of_decide_eq_false c4; rw [ehi] at this; omega
  repeat' first | refine Split.isF c4 ?_ | refine Split.t ?_ | refine Split.f ?_ | fail
  show Split (v.2.2 != 0) _
  rcases gbestR_err p with ⟨he, _⟩ | ⟨he, hm, hv0⟩
  · rw [← hv] at he
    have e1 : (v.2.2 != 0) = true := by rw [he]; rfl
    refine Split.isT e1 ?_
    exact Fin.rfl'
  rw [← hv] at he hv0
  have e1 : (v.2.2 != 0) = false := by rw [he]; rfl
  refine Split.isF e1 ?_
  refine CallW.best ((gbest_det z.ks (1 + m) z.h z.kerf hl).le (.cons (DLe.refl _) (.cons (DLe.of_eq (by rw [← elo])) (.cons (DLe.refl _) (.cons (DLe.refl _) .nil))))) (fun x hx => ?_)
  refine CallW.best ((gbest_det z.ks (z.w - (1 + m) - z.kerf) z.h z.kerf hl).le (.cons (DLe.refl _) (.cons (DLe.of_eq (by rw [← ehi])) (.cons (DLe.refl _) (.cons (DLe.refl _) .nil))))) (fun y hy => ?_)
  have p1 : Pb z.ks (1 + m) z.h z.kerf := ⟨p.len, p.ok, by omega, by omega, p.h0, p.h1, p.k0, p.k1⟩
  have p2 : Pb z.ks (z.w - (1 + m) - z.kerf) z.h z.kerf := ⟨p.len, p.ok, by omega, by omega, p.h0, p.h1, p.k0, p.k1⟩
  have m1 := gbad_mono p p1.w0 p1.h0 (by omega) (Int.le_refl _) hm
  have m2 := gbad_mono p p2.w0 p2.h0 (by omega) (Int.le_refl _) hm
  have hx0 : x.2.2 = 0 ∧ x.1 = gval z.ks (1 + m) z.h z.kerf := by
    rw [hx]
    rcases gbestR_err p1 with ⟨_, b2, _⟩ | ⟨b1, _, b3⟩
    · rw [m1] at b2; cases b2
    · exact ⟨b1, b3⟩
  have hy0 : y.2.2 = 0 ∧ y.1 = gval z.ks (z.w - (1 + m) - z.kerf) z.h z.kerf := by
    rw [hy]
    rcases gbestR_err p2 with ⟨_, b2, _⟩ | ⟨b1, _, b3⟩
    · rw [m2] at b2; cases b2
    · exact ⟨b1, b3⟩
  have key := (gval_sup p.posk kf0 z.w z.h).cw z.w z.h (1 + m) (by omega) (by omega) (Int.le_refl _) h0 (Int.le_refl _)
  have q1 := gval_ub p1 m1
  have q2 := gval_ub p2 m2
  replace key : gval z.ks (1 + m) z.h z.kerf + gval z.ks (z.w - (1 + m) - z.kerf) z.h z.kerf ≤ gval z.ks z.w z.h z.kerf := key
  rw [← hx0.2] at key q1
  rw [← hy0.2] at key q2
  rw [← hv0] at key
  have f1 : (x.2.2 == 0) = true := by rw [hx0.1]; rfl
  have f2 : (y.2.2 == 0) = true := by rw [hy0.1]; rfl
  have f3 : decide (IntKind.i64.wrap (x.1 + y.1) ≤ v.1) = true := decide_eq_true (by rw [wid (by omega) (by omega)]; exact key)
  repeat' first | refine Split.isT f1 ?_ | refine Split.isT f2 ?_ | refine Split.t ?_ | refine Split.f ?_ | fail
  refine Fin.bool ?_
  first | exact f3 | rfl
theorem lgparts_all : ∀ dvs, TypL Try.prog Try.f8.params.toList dvs → Det Try.prog 8 dvs (tbool true) := by
  intro dvs h
  obtain ⟨v0, r0, rfl, h0, q0⟩ := TypL.inv_cons (t := 24) (ts := [5]) h
  obtain ⟨v1, r1, rfl, h1, q1⟩ := TypL.inv_cons (t := 5) (ts := []) q0
  obtain rfl := TypL.inv_nil q1
  obtain ⟨z, hz, _, _, _, hle⟩ := pzIn h0
  obtain ⟨a, rfl, a0, a1⟩ := u8In h1
  exact Det.le (.cons hle (.cons (DLe.refl _) .nil)) (lgparts_det z a hz a0 a1)
end St
end Go.Vm
