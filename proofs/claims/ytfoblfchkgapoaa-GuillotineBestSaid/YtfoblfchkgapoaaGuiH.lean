/-
  Layer 38: the table of plans.
  Layer 38: what the table of plans holds (plain).
  Layer 38: contracts of problem and many; the solver's object while a row is made; how long a tree is.
-/
import Derived.Test.YtfoblfchkgapoaaGuiE
namespace Go.Vm
set_option maxRecDepth 20000
set_option linter.unusedVariables false
set_option linter.unusedSimpArgs false
open Go Go.RowKit Go.Proofs
namespace St

def rF (ks : List Knd) (kerf : Int) (W : Nat) (rows : List (List Pn)) (y : Nat) : Nat → List Pn
  | 0 => List.replicate (W + 1) pn0
  | n + 1 => (rF ks kerf W rows y n).set (n + 1) (solP (rows ++ [rF ks kerf W rows y n]) ks kerf ((n + 1 : Nat) : Int) y)
def tR (ks : List Knd) (kerf : Int) (W : Nat) : Nat → List (List Pn)
  | 0 => []
  | y + 1 => tR ks kerf W y ++ [rF ks kerf W (tR ks kerf W y) y (if y = 0 then 0 else W)]
theorem rF_len (ks : List Knd) (kerf : Int) (W : Nat) (rows : List (List Pn)) (y : Nat) : ∀ n, (rF ks kerf W rows y n).length = W + 1
  | 0 => by simp [rF]
  | n + 1 => by rw [rF, List.length_set, rF_len ks kerf W rows y n]
theorem tR_len (ks : List Knd) (kerf : Int) (W : Nat) : ∀ y, (tR ks kerf W y).length = y
  | 0 => rfl
  | y + 1 => by rw [tR, List.length_append, tR_len ks kerf W y]; rfl
theorem tR_row (ks : List Knd) (kerf : Int) (W : Nat) : ∀ y i, i < y → (rwget (tR ks kerf W y) i).length = W + 1
  | 0, i, h => absurd h (Nat.not_lt_zero _)
  | y + 1, i, h => by
    rw [tR, rwget]
    rcases Nat.lt_succ_iff_lt_or_eq.1 h with h | rfl
    · rw [getD_app_l _ _ _ _ (by rw [tR_len]; exact h)]
      exact tR_row ks kerf W y i h
    · rw [getD_app_r _ _ _ _ (by rw [tR_len]; exact Nat.le_refl _), tR_len, Nat.sub_self]
      exact rF_len ks kerf W _ _ _
end St
end Go.Vm
namespace Go.Vm
set_option maxRecDepth 20000
set_option linter.unusedVariables false
set_option linter.unusedSimpArgs false
open Go Go.RowKit Go.Proofs
namespace St

/-! ### entries stay -/
theorem rF_step (ks : List Knd) (kerf : Int) (W : Nat) (rows : List (List Pn)) (y n : Nat) : rF ks kerf W rows y (n + 1) = (rF ks kerf W rows y n).set (n + 1) (solP (rows ++ [rF ks kerf W rows y n]) ks kerf ((n + 1 : Nat) : Int) y) := rfl
theorem pnget_set_ne (l : List Pn) (i j : Nat) (p : Pn) (h : i ≠ j) : pnget (l.set i p) j = pnget l j := by
  simp [pnget, List.getD, List.getElem?_set_ne h]
theorem pnget_set (l : List Pn) (i : Nat) (p : Pn) (h : i < l.length) : pnget (l.set i p) i = p := by
  simp [pnget, List.getD, h]
theorem rF_le (ks : List Knd) (kerf : Int) (W : Nat) (rows : List (List Pn)) (y : Nat) {x n : Nat} (hx : x ≤ n) : ∀ m, n ≤ m → pnget (rF ks kerf W rows y m) x = pnget (rF ks kerf W rows y n) x := by
  intro m hm
  induction m with
  | zero => obtain rfl : n = 0 := by omega
            rfl
  | succ m ih =>
    rcases Nat.lt_or_ge n (m + 1) with h | h
    · rw [rF_step, pnget_set_ne _ _ _ _ (by omega), ih (by omega)]
    · obtain rfl : n = m + 1 := by omega
      rfl
theorem rF_gt (ks : List Knd) (kerf : Int) (W : Nat) (rows : List (List Pn)) (y : Nat) {x : Nat} : ∀ n, n < x → pnget (rF ks kerf W rows y n) x = pn0
  | 0, _ => by
    show (List.replicate (W + 1) pn0).getD x pn0 = pn0
    simp [List.getD, List.getElem?_replicate]
    split <;> rfl
  | n + 1, h => by rw [rF_step, pnget_set_ne _ _ _ _ (by omega), rF_gt ks kerf W rows y n (by omega)]
theorem rF_at (ks : List Knd) (kerf : Int) (W : Nat) (rows : List (List Pn)) (y n : Nat) (h : n + 1 ≤ W) : pnget (rF ks kerf W rows y (n + 1)) (n + 1) = solP (rows ++ [rF ks kerf W rows y n]) ks kerf ((n + 1 : Nat) : Int) y := by
  rw [rF_step, pnget_set _ _ _ (by rw [rF_len]; omega)]
theorem tR_step (ks : List Knd) (kerf : Int) (W y : Nat) : tR ks kerf W (y + 1) = tR ks kerf W y ++ [rF ks kerf W (tR ks kerf W y) y (if y = 0 then 0 else W)] := rfl
theorem tR_le (ks : List Knd) (kerf : Int) (W : Nat) {i y : Nat} (hi : i < y) : ∀ m, y ≤ m → rwget (tR ks kerf W m) i = rwget (tR ks kerf W y) i := by
  intro m hm
  induction m with
  | zero => exact absurd hm (by omega)
  | succ m ih =>
    rcases Nat.lt_or_ge y (m + 1) with h | h
    · rw [tR_step, rwget, getD_app_l _ _ _ _ (by rw [tR_len]; omega)]
      exact ih (by omega)
    · obtain rfl : y = m + 1 := by omega
      rfl
theorem tR_at (ks : List Knd) (kerf : Int) (W y : Nat) : rwget (tR ks kerf W (y + 1)) y = rF ks kerf W (tR ks kerf W y) y (if y = 0 then 0 else W) := by
  have := tR_len ks kerf W y
  rw [tR_step, rwget, getD_app_r _ _ _ _ (by omega), this, Nat.sub_self]; rfl
theorem rwget_app_l {r : List (List Pn)} {x : List Pn} {i : Nat} (h : i < r.length) : rwget (r ++ [x]) i = rwget r i := getD_app_l _ _ _ _ h
theorem rwget_app {r : List (List Pn)} {x : List Pn} {i : Nat} (h : i = r.length) : rwget (r ++ [x]) i = x := by
  subst h; exact getD_snoc _ _ _
theorem rwget_out {r : List (List Pn)} {i : Nat} (h : r.length ≤ i) : rwget r i = [] := by simp [rwget, List.getD, h]
/-! ### agreement -/
theorem solX_congr {r r' : List (List Pn)} {kerf w h : Int} (k0 : 0 ≤ kerf) (q : ∀ a, a < w → valI r a h = valI r' a h) (p : Pn) : ∀ n : Nat, (n : Int) < w → solX r kerf w h p n = solX r' kerf w h p n
  | 0, _ => rfl
  | n + 1, hn => by
    rw [solX, solX, solX_congr k0 q p n (by omega), q _ (by omega), q _ (by omega)]
theorem solY_congr {r r' : List (List Pn)} {kerf w h : Int} (k0 : 0 ≤ kerf) (q : ∀ b, b < h → valI r w b = valI r' w b) (p : Pn) : ∀ n : Nat, (n : Int) < h → solY r kerf w h p n = solY r' kerf w h p n
  | 0, _ => rfl
  | n + 1, hn => by
    rw [solY, solY, solY_congr k0 q p n (by omega), q _ (by omega), q _ (by omega)]
theorem solP_congr {r r' : List (List Pn)} {ks : List Knd} {kerf w h : Int} (k0 : 0 ≤ kerf) (w0 : 1 ≤ w) (h0 : 1 ≤ h) (q1 : ∀ a, a < w → valI r a h = valI r' a h) (q2 : ∀ b, b < h → valI r w b = valI r' w b) : solP r ks kerf w h = solP r' ks kerf w h := by
  rw [solP, solP, solX_congr k0 q1 _ _ (by omega), solY_congr k0 q2 _ _ (by omega)]
/-! ### a plan -/
inductive GPlan (rows : List (List Pn)) (ks : List Knd) (kerf w h : Int) : Pn → Prop where
  | none : GPlan rows ks kerf w h pn0
  | kind (i : Nat) (hi : i < ks.length) (hw : (kget ks i).w ≤ w) (hh : (kget ks i).h ≤ h) (hv : 0 < (kget ks i).v) : GPlan rows ks kerf w h ⟨(kget ks i).v, ((i + 1 : Nat) : Int), 0, false⟩
  | cw (x : Int) (x0 : 1 ≤ x) (x1 : x < w) (ha : 0 < valI rows x h) (hb : 0 < valI rows (w - x - kerf) h) : GPlan rows ks kerf w h ⟨valI rows x h + valI rows (w - x - kerf) h, 0, x, true⟩
  | ch (y : Int) (y0 : 1 ≤ y) (y1 : y < h) (ha : 0 < valI rows w y) (hb : 0 < valI rows w (h - y - kerf)) : GPlan rows ks kerf w h ⟨valI rows w y + valI rows w (h - y - kerf), 0, y, false⟩
theorem solK_ok (rows : List (List Pn)) (ks : List Knd) (kerf w h : Int) : ∀ n, n ≤ ks.length → GPlan rows ks kerf w h (solK ks w h n) ∧ 0 ≤ (solK ks w h n).v ∧ ∀ i, i < n → (kget ks i).w ≤ w → (kget ks i).h ≤ h → (kget ks i).v ≤ (solK ks w h n).v
  | 0, _ => ⟨.none, Int.le_refl _, fun i hi => absurd hi (Nat.not_lt_zero _)⟩
  | n + 1, hn => by
    obtain ⟨i1, i2, i3⟩ := solK_ok rows ks kerf w h n (by omega)
    have e : solK ks w h (n + 1) = if (kget ks n).w ≤ w ∧ (kget ks n).h ≤ h ∧ (kget ks n).v > (solK ks w h n).v then ⟨(kget ks n).v, ((n + 1 : Nat) : Int), 0, false⟩ else solK ks w h n := rfl
    by_cases c : (kget ks n).w ≤ w ∧ (kget ks n).h ≤ h ∧ (kget ks n).v > (solK ks w h n).v
    · rw [if_pos c] at e
      rw [e]
      refine ⟨.kind n (by omega) c.1 c.2.1 (by omega), by show 0 ≤ (kget ks n).v; omega, fun i hi a b => ?_⟩
      show (kget ks i).v ≤ (kget ks n).v
      rcases Nat.lt_succ_iff_lt_or_eq.1 hi with hi | rfl
      · have := i3 i hi a b; omega
      · omega
    · rw [if_neg c] at e
      rw [e]
      refine ⟨i1, i2, fun i hi a b => ?_⟩
      rcases Nat.lt_succ_iff_lt_or_eq.1 hi with hi | rfl
      · exact i3 i hi a b
      · omega
theorem tryP_v (p : Pn) (a b x : Int) (d : Bool) : p.v ≤ (tryP p a b x d).v ∧ (0 < a → 0 < b → a + b ≤ (tryP p a b x d).v) := by
  unfold tryP
  split
  · rename_i c
    exact ⟨by show p.v ≤ a + b; omega, fun _ _ => Int.le_refl _⟩
  · rename_i c
    exact ⟨Int.le_refl _, fun _ _ => by omega⟩
theorem solX_ok {rows : List (List Pn)} {ks : List Knd} {kerf w h : Int} {p : Pn} (hp : GPlan rows ks kerf w h p) : ∀ n : Nat, (n : Int) < w → GPlan rows ks kerf w h (solX rows kerf w h p n) ∧ p.v ≤ (solX rows kerf w h p n).v ∧ ∀ i : Int, 1 ≤ i → i ≤ n → 0 < valI rows i h → 0 < valI rows (w - i - kerf) h → valI rows i h + valI rows (w - i - kerf) h ≤ (solX rows kerf w h p n).v
  | 0, _ => ⟨hp, Int.le_refl _, fun i a b => by omega⟩
  | n + 1, hn => by
    obtain ⟨i1, i2, i3⟩ := solX_ok hp n (by omega)
    obtain ⟨t1, t2⟩ := tryP_v (solX rows kerf w h p n) (valI rows ((n + 1 : Nat) : Int) h) (valI rows (w - ((n + 1 : Nat) : Int) - kerf) h) ((n + 1 : Nat) : Int) true
    rw [solX]
    refine ⟨?_, by omega, fun i a b c d => ?_⟩
    · unfold tryP
      split
      · rename_i c
        exact .cw _ (by omega) (by omega) c.1 c.2.1
      · exact i1
    · by_cases e : i = ((n + 1 : Nat) : Int)
      · subst e; exact t2 c d
      · have := i3 i a (by omega) c d
        omega
theorem solY_ok {rows : List (List Pn)} {ks : List Knd} {kerf w h : Int} {p : Pn} (hp : GPlan rows ks kerf w h p) : ∀ n : Nat, (n : Int) < h → GPlan rows ks kerf w h (solY rows kerf w h p n) ∧ p.v ≤ (solY rows kerf w h p n).v ∧ ∀ i : Int, 1 ≤ i → i ≤ n → 0 < valI rows w i → 0 < valI rows w (h - i - kerf) → valI rows w i + valI rows w (h - i - kerf) ≤ (solY rows kerf w h p n).v
  | 0, _ => ⟨hp, Int.le_refl _, fun i a b => by omega⟩
  | n + 1, hn => by
    obtain ⟨i1, i2, i3⟩ := solY_ok hp n (by omega)
    obtain ⟨t1, t2⟩ := tryP_v (solY rows kerf w h p n) (valI rows w ((n + 1 : Nat) : Int)) (valI rows w (h - ((n + 1 : Nat) : Int) - kerf)) ((n + 1 : Nat) : Int) false
    rw [solY]
    refine ⟨?_, by omega, fun i a b c d => ?_⟩
    · unfold tryP
      split
      · rename_i c
        exact .ch _ (by omega) (by omega) c.1 c.2.1
      · exact i1
    · by_cases e : i = ((n + 1 : Nat) : Int)
      · subst e; exact t2 c d
      · have := i3 i a (by omega) c d
        omega
structure SolOk (rows : List (List Pn)) (ks : List Knd) (kerf w h : Int) (p : Pn) : Prop where
  ok : GPlan rows ks kerf w h p
  nn : 0 ≤ p.v
  kd : ∀ i, i < ks.length → (kget ks i).w ≤ w → (kget ks i).h ≤ h → (kget ks i).v ≤ p.v
  cw : ∀ x, 1 ≤ x → x < w → 0 < valI rows x h → 0 < valI rows (w - x - kerf) h → valI rows x h + valI rows (w - x - kerf) h ≤ p.v
  ch : ∀ y, 1 ≤ y → y < h → 0 < valI rows w y → 0 < valI rows w (h - y - kerf) → valI rows w y + valI rows w (h - y - kerf) ≤ p.v
theorem solP_ok (rows : List (List Pn)) (ks : List Knd) (kerf w h : Int) (w0 : 1 ≤ w) (h0 : 1 ≤ h) : SolOk rows ks kerf w h (solP rows ks kerf w h) := by
  obtain ⟨a1, a2, a3⟩ := solK_ok rows ks kerf w h ks.length (Nat.le_refl _)
  obtain ⟨b1, b2, b3⟩ := solX_ok a1 (w - 1).toNat (by omega)
  obtain ⟨c1, c2, c3⟩ := solY_ok b1 (h - 1).toNat (by omega)
  refine ⟨c1, ?_, fun i hi p q => ?_, fun x x0 x1 p q => ?_, fun y y0 y1 p q => c3 y y0 (by omega) p q⟩
  · show 0 ≤ (solY _ _ _ _ _ _).v; omega
  · have := a3 i hi p q
    show _ ≤ (solY _ _ _ _ _ _).v; omega
  · have := b3 x x0 (by omega) p q
    show _ ≤ (solY _ _ _ _ _ _).v; omega
/-! ### the whole table -/
structure Fixd (ks : List Knd) (kerf : Int) (W H : Int) (T : List (List Pn)) : Prop where
  fix : ∀ w h, 1 ≤ w → w ≤ W → 1 ≤ h → h ≤ H → pnget (rwget T h.toNat) w.toNat = solP T ks kerf w h
theorem mid_val (ks : List Knd) (kerf : Int) (W H y n : Nat) (hy : y ≤ H) (hn : n ≤ W) (hy0 : y ≠ 0) (a b : Int) : valI (tR ks kerf W y ++ [rF ks kerf W (tR ks kerf W y) y n]) a b = if b < y ∨ (b = y ∧ a ≤ n) then valI (tR ks kerf W (H + 1)) a b else 0 := by
  by_cases hab : a < 1 ∨ b < 1
  · have e : ∀ r, valI r a b = 0 := fun r => by rw [valI, if_pos hab]
    rw [e, e, ite_self]
  have ab : ∀ r, valI r a b = (pnget (rwget r b.toNat) a.toNat).v := fun r => by rw [valI, if_neg hab]
  rw [ab, ab]
  have hl := tR_len ks kerf W y
  by_cases c1 : b < y
  · rw [if_pos (.inl c1), rwget_app_l (by rw [hl]; omega), tR_le ks kerf W (y := y) (by omega) (H + 1) (by omega)]
  by_cases c2 : b = y
  · subst c2
    have hrow : rwget (tR ks kerf W (H + 1)) y = rF ks kerf W (tR ks kerf W y) y W := by
      rw [tR_le ks kerf W (y := y + 1) (by omega) (H + 1) (by omega), tR_at, if_neg hy0]
    rw [Int.toNat_natCast, rwget_app hl.symm]
    by_cases c3 : a ≤ n
    · rw [if_pos (.inr ⟨rfl, c3⟩), hrow, rF_le ks kerf W _ y (x := a.toNat) (n := n) (by omega) W hn]
    · rw [if_neg (by omega), rF_gt ks kerf W _ y n (by omega)]
  · rw [if_neg (by omega), rwget_out (by rw [List.length_append, hl]; show y + 1 ≤ _; omega)]; rfl
theorem tR_fix (ks : List Knd) (kerf : Int) (k0 : 0 ≤ kerf) (W H : Nat) : Fixd ks kerf W H (tR ks kerf W (H + 1)) := by
  refine ⟨fun w h w0 w1 h0 h1 => ?_⟩
  obtain ⟨y, rfl⟩ : ∃ y : Nat, h = y := ⟨h.toNat, by omega⟩
  obtain ⟨n, rfl⟩ : ∃ n : Nat, w = ((n + 1 : Nat) : Int) := ⟨w.toNat - 1, by omega⟩
  have hy0 : y ≠ 0 := by omega
  rw [Int.toNat_natCast, Int.toNat_natCast, tR_le ks kerf W (y := y + 1) (by omega) (H + 1) (by omega), tR_at, if_neg hy0, rF_le ks kerf W _ y (x := n + 1) (n := n + 1) (Nat.le_refl _) W (by omega), rF_at ks kerf W _ y n (by omega)]
  refine solP_congr k0 w0 h0 (fun a ha => ?_) (fun b hb => ?_)
  · rw [mid_val ks kerf W H y n (by omega) (by omega) hy0, if_pos (.inr ⟨rfl, by omega⟩)]
  · rw [mid_val ks kerf W H y n (by omega) (by omega) hy0, if_pos (.inl hb)]
section
variable {ks : List Knd} {kerf W H : Int} {T : List (List Pn)} (F : Fixd ks kerf W H T)
include F
theorem Fixd.val {w h : Int} (w0 : 1 ≤ w) (w1 : w ≤ W) (h0 : 1 ≤ h) (h1 : h ≤ H) : SolOk T ks kerf w h (pnget (rwget T h.toNat) w.toNat) ∧ valI T w h = (pnget (rwget T h.toNat) w.toNat).v := by
  constructor
  · rw [F.fix w h w0 w1 h0 h1]
    exact solP_ok T ks kerf w h w0 h0
  · rw [valI, if_neg (by omega)]
theorem Fixd.nn {w h : Int} (w1 : w ≤ W) (h1 : h ≤ H) : 0 ≤ valI T w h := by
  by_cases c : w < 1 ∨ h < 1
  · rw [valI, if_pos c]; exact Int.le_refl _
  · obtain ⟨a, e⟩ := F.val (w := w) (h := h) (by omega) w1 (by omega) h1
    rw [e]; exact a.nn
theorem Fixd.ub (hk : ∀ k ∈ ks, k.v ≤ 1000000) (k0 : 0 ≤ kerf) : ∀ (n : Nat) (w h : Int), 1 ≤ w → w ≤ W → 1 ≤ h → h ≤ H → w + h ≤ n → valI T w h ≤ w * h * 1000000 := by
  intro n
  induction n with
  | zero => intro w h _ _ _ _ _; omega
  | succ n ih =>
    intro w h w0 w1 h0 h1 hn
    obtain ⟨a, e⟩ := F.val w0 w1 h0 h1
    have pos : ∀ a b : Int, 0 < valI T a b → 1 ≤ a ∧ 1 ≤ b := fun a b q => by
      by_cases c : a < 1 ∨ b < 1
      · rw [valI, if_pos c] at q; omega
      · omega
    have hp := a.ok
    rw [e]
    generalize pnget (rwget T h.toNat) w.toNat = p at *
    have wh : 1 ≤ w * h := by have := Int.mul_le_mul w0 h0 (by decide) (by omega); omega
    cases hp with
    | none => show (0 : Int) ≤ _; omega
    | kind i hi b c d =>
      have := hk _ (kget_mem hi)
      show (kget ks i).v ≤ _; omega
    | cw x x0 x1 q1 q2 =>
      have p2 := pos _ _ q2
      have u1 := ih x h x0 (by omega) h0 h1 (by omega)
      have u2 := ih (w - x - kerf) h p2.1 (by omega) h0 h1 (by omega)
      show valI T x h + valI T (w - x - kerf) h ≤ _
      have e1 : (w - x - kerf) * h = w * h - x * h - kerf * h := by rw [Int.sub_mul, Int.sub_mul]
      have e2 : 0 ≤ kerf * h := Int.mul_nonneg k0 (by omega)
      rw [e1] at u2
      omega
    | ch y y0 y1 q1 q2 =>
      have p2 := pos _ _ q2
      have u1 := ih w y w0 w1 y0 (by omega) (by omega)
      have u2 := ih w (h - y - kerf) w0 w1 p2.2 (by omega) (by omega)
      show valI T w y + valI T w (h - y - kerf) ≤ _
      have e1 : w * (h - y - kerf) = w * h - w * y - w * kerf := by rw [Int.mul_sub, Int.mul_sub]
      have e2 : 0 ≤ w * kerf := Int.mul_nonneg (by omega) k0
      rw [e1] at u2
      omega
end
end St
end Go.Vm
namespace Go.Vm
set_option maxRecDepth 20000
set_option linter.unusedVariables false
set_option linter.unusedSimpArgs false
open Go Go.RowKit Go.Proofs
namespace St

theorem gwaste_det : Det Try.prog 84 [] (.d (.one (ndS [leafN (-1)]))) := by
  refine det_of_awp TTok mixed Try.func84 rfl rfl [] (Nat.le_of_ble_eq_true rfl) ?_
  refine Fin.one (SLe.slN rfl (fun i hi j hj => SLe.of_eq ?_))
  obtain rfl : i = 0 := by omega
  match j, hj with
  | 0, _ => rfl
  | 1, _ => rfl
  | 2, _ => rfl
  | 3, _ => rfl
  | 4, _ => rfl
theorem validB_waste (ks : List Knd) (w h kerf : Int) : validB [leafN (-1)] ks w h kerf = probB ks w h kerf := by
  have e1 : joinB [leafN (-1)] = true := by decide
  have e2 : rectB [leafN (-1)] w h kerf = true := rfl
  have e3 : kindB [leafN (-1)] ks w h kerf = true := rfl
  rw [validB, e1, e2, e3, Bool.and_true, Bool.and_true, Bool.and_true]
theorem gproblem_det (ks : List Knd) (w h kerf : Int) (hk : ks.length ≤ maxLen) : Det Try.prog 60 [.one (kS ks), .one (i64 w), .one (i64 h), .one (i64 kerf)] (tbool (probB ks w h kerf)) := by
  refine det_of_awp TTok mixed Try.func60 rfl rfl [] (Nat.le_of_ble_eq_true rfl) ?_
  refine CallW.nds gwaste_det ?_
  refine CallW.bool (valid_det [leafN (-1)] ks w h kerf (by decide) hk) (fun b hb => ?_)
  refine Fin.bool ?_
  rw [hb, validB_waste]
def gmanyB (l : List Knd) (w h kerf : Int) : Bool := if l = [] then false else decide ((w + kerf) * (h + kerf) / ((lowL Knd.w l 2000 + kerf) * (lowL Knd.h l 2000 + kerf)) > 600)
theorem gmany_w {w h kerf a b : Int} (hw0 : 1 ≤ w) (hw1 : w ≤ 2000) (hh0 : 1 ≤ h) (hh1 : h ≤ 2000) (hk0 : 0 ≤ kerf) (hk1 : kerf ≤ 50) (ha0 : 1 ≤ a) (ha1 : a ≤ 2000) (hb0 : 1 ≤ b) (hb1 : b ≤ 2000) :
    IntKind.i64.wrap ((IntKind.i64.wrap (IntKind.i64.wrap (w + kerf) * IntKind.i64.wrap (h + kerf))).tdiv (IntKind.i64.wrap (IntKind.i64.wrap (a + kerf) * IntKind.i64.wrap (b + kerf)))) = (w + kerf) * (h + kerf) / ((a + kerf) * (b + kerf)) ∧ IntKind.i64.wrap (IntKind.i64.wrap (a + kerf) * IntKind.i64.wrap (b + kerf)) ≠ 0 := by
  have c5 : (w + kerf) * (h + kerf) ≤ 2050 * 2050 := Int.mul_le_mul (by omega) (by omega) (by omega) (by decide)
  have c6 : 0 ≤ (w + kerf) * (h + kerf) := Int.mul_nonneg (by omega) (by omega)
  have d5 : (a + kerf) * (b + kerf) ≤ 2050 * 2050 := Int.mul_le_mul (by omega) (by omega) (by omega) (by decide)
  have d6 : 1 * 1 ≤ (a + kerf) * (b + kerf) := Int.mul_le_mul (by omega) (by omega) (by decide) (by omega)
  rw [hw (w + kerf) (by omega) (by omega), hw (h + kerf) (by omega) (by omega), hw (a + kerf) (by omega) (by omega), hw (b + kerf) (by omega) (by omega), hw ((w + kerf) * (h + kerf)) (by omega) (by omega), hw ((a + kerf) * (b + kerf)) (by omega) (by omega)]
  exact ⟨quo_w c6 (by omega) (by omega), by omega⟩
theorem gmany_det (l : List Knd) (w h kerf : Int) (p : Pb l w h kerf) : Det Try.prog 61 [.one (kS l), .one (i64 w), .one (i64 h), .one (i64 kerf)] (tbool (gmanyB l w h kerf)) := by
  refine det_of_awp TTok mixed Try.func61 rfl rfl [] (Nat.le_of_ble_eq_true rfl) ?_
  have hl := p.len
  refine Split.mk (fun h1 => ?_) (fun h1 => ?_)
  · refine Fin.bool ?_
    have : l = [] := List.eq_nil_of_length_eq_zero (by simpa using h1)
    rw [gmanyB, if_pos this]
  have hne : l ≠ [] := fun e => by rw [e] at h1; simp at h1
  have h0 : 0 < l.length := List.length_pos_iff.2 hne
  refine Need.mk (by omega) ?_
  refine Need.mk (by omega) ?_
  refine Need.mk (by kernel_rfl) ?_
  refine Loop.by (α := Nat) (fun k => [(1, tint w), (2, tint h), (3, tint kerf), (9, tint (lowL Knd.w (l.take k) (kget l 0).w)), (10, tint (lowL Knd.h (l.take k) (kget l 0).h)), (24, .d (.one (kS l))), (25, tint l.length), (26, tint k)]) (fun _ => []) (fun k => k ≤ l.length) (fun k => l.length - k)
    (Adj.at 0 (Nat.zero_le _) .nil (.cons .same (.cons .same (.cons .same (.cons .same (.cons .same (.cons .same (.cons .same (.cons .same .nil))))))))) (fun k hk => ?_)
  refine Split.mk (fun h => ?_) (fun h => ?_)
  · have hlt : k < l.length := by have := of_decide_eq_true h; omega
    refine Need.mk (by omega) ?_
    refine Need.mk (by kernel_rfl) ?_
    refine Adj.back (x := k) (k + 1) (by omega) (by omega) .nil (.cons .same (.cons .same (.cons .same (.cons (SlotLe.int (lowL_take Knd.w l _ k hlt).symm) (.cons (SlotLe.int (lowL_take Knd.h l _ k hlt).symm) (.cons .same (.cons .same (.cons (SlotLe.int (hS k (by omega))) .nil))))))))
  · have he : k = l.length := by have := of_decide_eq_false h; omega
    subst he
    rw [List.take_length] at *
    have k0 := p.at' h0
    have a0 : 1 ≤ lowL Knd.w l (kget l 0).w := lowL_ge _ 1 _ _ (fun k hk => (p.ok k hk).w0) k0.w0
    have a1 := Int.le_trans (lowL_le Knd.w l (kget l 0).w) k0.w1
    have b0 : 1 ≤ lowL Knd.h l (kget l 0).h := lowL_ge _ 1 _ _ (fun k hk => (p.ok k hk).h0) k0.h0
    have b1 := Int.le_trans (lowL_le Knd.h l (kget l 0).h) k0.h1
    obtain ⟨e, ne⟩ := gmany_w p.w0 p.w1 p.h0 p.h1 p.k0 p.k1 a0 a1 b0 b1
    refine Need.mk ne ?_
    refine Fin.bool ?_
    rw [e, gmanyB, if_neg hne, lowL_head _ _ hne (fun k hk => (p.ok k hk).w1), lowL_head _ _ hne (fun k hk => (p.ok k hk).h1)]
/-! ### the solver's object -/
def slH (ks : List Knd) (kerf : Int) (rows : List (List Pn)) (y : Nat) (c x : CV) : List CV := .s (kS ks) :: .s (i64 kerf) :: (rwL rows 201 ++ [x]).set y c
theorem slH_def (ks : List Knd) (kerf : Int) (rows : List (List Pn)) (y : Nat) (c x : CV) : slH ks kerf rows y c x = (slL ks kerf rows x).set (2 + y) c := by rw [Nat.add_comm]; rfl
theorem slH_at (ks : List Knd) (kerf : Int) (rows : List (List Pn)) {y : Nat} (hy : y < 201) (c x : CV) : (slH ks kerf rows y c x)[2 + y]? = some c := by
  rw [slH_def, List.getElem?_set_self (by rw [slL_len]; omega)]
theorem slH_ne (ks : List Knd) (kerf : Int) (rows : List (List Pn)) {y i : Nat} (hy : i ≠ 2 + y) (c x : CV) : (slH ks kerf rows y c x)[i]? = (slL ks kerf rows x)[i]? := by
  rw [slH_def, List.getElem?_set_ne (Ne.symm hy)]
theorem slH_len (ks : List Knd) (kerf : Int) (rows : List (List Pn)) (y : Nat) (c x : CV) : (slH ks kerf rows y c x).length = 204 := by
  rw [slH_def, List.length_set, slL_len]
theorem cvs_set {m m' : Id → Mem} {l l' : List CV} (h : CVsLe m m' l l') {c c' : CV} (hc : CVLe m m' c c') (i : Nat) : CVsLe m m' (l.set i c) (l'.set i c') := by
  induction h generalizing i with
  | nil => exact .nil
  | cons a b ih =>
    cases i with
    | zero => exact .cons hc b
    | succ i => exact .cons a (ih i)
theorem slH_le {m m' : Id → Mem} (ks : List Knd) (kerf : Int) (rows : List (List Pn)) (y : Nat) {c c' x x' : CV} (h : CVLe m m' x x') (hc : CVLe m m' c c') : CVsLe m m' (slH ks kerf rows y c x) (slH ks kerf rows y c' x') := by
  rw [slH_def, slH_def]
  exact cvs_set (slL_le ks kerf rows h) hc _
theorem Frz.refl (r : Id) (g : Nat) (c0 : SV) : ∀ l : List CV, Frz r g c0 l l
  | [] => .nil
  | _ :: l => .same (Frz.refl r g c0 l)
theorem Frz.set (r : Id) (g : Nat) (c0 : SV) : ∀ (l : List CV) (i : Nat), Frz r g c0 (l.set i (.hdl r g)) (l.set i (.s c0))
  | [], _ => .nil
  | _ :: l, 0 => .shut (Frz.refl r g c0 l)
  | _ :: l, i + 1 => .same (Frz.set r g c0 l i)
theorem slL_snoc (ks : List Knd) (kerf : Int) (rows : List (List Pn)) (row : List Pn) (hr : rows.length < 201) (x : CV) : slH ks kerf rows rows.length (.s (pnS row)) x = slL ks kerf (rows ++ [row]) x := by
  have e : (rwL rows 201).set rows.length (.s (pnS row)) = rwL (rows ++ [row]) 201 := by
    refine List.ext_getElem? (fun i => ?_)
    by_cases hi : i < 201
    · have g : ∀ rs : List (List Pn), (rwL rs 201)[i]? = some (.s (pnS (rwget rs i))) := fun rs => by simp [rwL, hi]
      rw [g]
      by_cases e : rows.length = i
      · subst e
        rw [List.getElem?_set_self (by rw [rwL_len]; omega), rwget_app rfl]
      · rw [List.getElem?_set_ne e, g]
        by_cases c : i < rows.length
        · rw [rwget_app_l c]
        · rw [rwget_out (by omega), rwget_out (by rw [List.length_append]; show rows.length + 1 ≤ i; omega)]
    · rw [List.getElem?_eq_none (by rw [List.length_set, rwL_len]; omega), List.getElem?_eq_none (by rw [rwL_len]; omega)]
  rw [slH]
  rw [List.set_append_left _ _ (by rw [rwL_len]; exact hr), e]; rfl
theorem slH_lend {m : Id → Mem} {o d r : Id} {g n gr : Nat} {e er : TypeId} {get : Nat → Nat → SV} (ks : List Knd) (kerf : Int) (rows : List (List Pn)) (row : List Pn) {y : Nat} (hy : rows.length = y) (hr : y < 201) (ho : m o = .obj (slH ks kerf rows y (.hdl r gr) (.hdl d g)))
    (hd : m d = .bld g n 5 e get) (hrw : m r = .bld gr row.length 4 er (lG pnL pn0 row)) : Lend m [o.key, d.key, r.key] (.ptr o 0) (slA ks kerf (rows ++ [row]) (.sl n 5 get)) := by
  subst hy
  refine .obj (by simp) ho (by rw [slH_len]; exact Nat.le_refl _) (fun j hj => ?_)
  rw [Nat.zero_add]
  match j, hj with
  | 0, _ =>
    rw [List.getD, slH_ne _ _ _ (by omega)]
    exact .s _
  | 1, _ =>
    rw [List.getD, slH_ne _ _ _ (by omega)]
    exact .s _
  | q + 2, hj =>
    by_cases h : q < 201
    · have e2 := slC_row ks kerf (rows ++ [row]) (.sl n 5 get) q h
      rw [Nat.add_comm] at e2
      rw [List.getD, e2, Nat.add_comm q 2]
      by_cases hq : q = rows.length
      · subst hq
        rw [slH_at _ _ _ h, rwget_app rfl]
        exact .bld (by simp) hrw
      · rw [slH_ne _ _ _ (by omega), slL_row _ _ _ _ _ h]
        have : rwget (rows ++ [row]) q = rwget rows q := by
          by_cases c : q < rows.length
          · rw [rwget_app_l c]
          · rw [rwget_out (r := rows) (by omega), rwget_out (by rw [List.length_append]; show rows.length + 1 ≤ q; omega)]
        rw [this]
        exact .s _
    · obtain rfl : q = 201 := by omega
      rw [List.getD, slH_ne _ _ _ (by omega), slL_t]
      exact .bld (by simp) hd
theorem slL_nils {m m' : Id → Mem} (ks : List Knd) (kerf : Int) {x y : CV} (h : CVLe m m' x y) (cs : List CV) (hc : cs = .s (kS ks) :: .s (i64 kerf) :: (((List.range 201).map fun _ => CV.s (.v (.slice none 0 0))) ++ [x])) : CVsLe m m' cs (slL ks kerf [] y) := by
  subst hc
  have key : ∀ l : List Nat, CVsLe m m' ((l.map fun _ => CV.s (.v (.slice none 0 0))) ++ [x]) ((l.map fun i => CV.s (pnS (rwget [] i))) ++ [y]) := fun l => by
    induction l with
    | nil => exact .cons h .nil
    | cons a l ih => exact .cons (.s (SLe.nil 4 _)) ih
  exact .cons (.s (SLe.refl _)) (.cons (.s (SLe.refl _)) (key _))
/-! ### a tree's length -/
theorem pc_len (ks : List Knd) (kind w h : Int) (b : Nat) : (pcT ks kind w h b).length ≤ 5 := by
  have h0 : ∀ b, (pcT0 ks kind h b).length ≤ 3 := fun b => by
    unfold pcT0
    split
    · simp [cutT]
    · simp
  unfold pcT
  split
  · have := h0 (b + 1)
    rw [cutT, List.length_cons, List.length_append]
    simp only [List.length_singleton]
    omega
  · have := h0 b; omega
section
variable {ks : List Knd} {kerf W H : Int} {T : List (List Pn)} (F : Fixd ks kerf W H T)
theorem val_pos {T : List (List Pn)} {a b : Int} (q : valI T a b ≠ 0) : 1 ≤ a ∧ 1 ≤ b := by
  by_cases c : a < 1 ∨ b < 1
  · rw [valI, if_pos c] at q; exact absurd rfl q
  · omega
include F
theorem Fixd.dens (k0 : 0 ≤ kerf) (D : Int) (hk : ∀ k ∈ ks, 1 ≤ k.w ∧ 1 ≤ k.h ∧ D ≤ (k.w + kerf) * (k.h + kerf)) : ∀ (n : Nat) (w h : Int), w ≤ W → h ≤ H → w + h ≤ n → valI T w h ≠ 0 → D ≤ (w + kerf) * (h + kerf) := by
  intro n
  induction n with
  | zero => intro w h _ _ hn hv; have := val_pos hv; omega
  | succ n ih =>
    intro w h w1 h1 hn hv
    obtain ⟨w0, h0⟩ := val_pos hv
    obtain ⟨a, e⟩ := F.val w0 w1 h0 h1
    have hp := a.ok
    rw [e] at hv
    generalize pnget (rwget T h.toNat) w.toNat = p at *
    cases hp with
    | none => exact absurd rfl hv
    | kind i hi b c d =>
      obtain ⟨p1, p2, p3⟩ := hk _ (kget_mem hi)
      have := Int.mul_le_mul (show (kget ks i).w + kerf ≤ w + kerf by omega) (show (kget ks i).h + kerf ≤ h + kerf by omega) (by omega) (by omega)
      omega
    | cw x x0 x1 q1 q2 =>
      have := ih x h (by omega) h1 (by omega) (by omega)
      have := Int.mul_le_mul_of_nonneg_right (show x + kerf ≤ w + kerf by omega) (show 0 ≤ h + kerf by omega)
      omega
    | ch y y0 y1 q1 q2 =>
      have := ih w y w1 (by omega) (by omega) (by omega)
      have := Int.mul_le_mul_of_nonneg_left (show y + kerf ≤ h + kerf by omega) (show 0 ≤ w + kerf by omega)
      omega
theorem Fixd.mk_len (k0 : 0 ≤ kerf) (D : Int) (hD : 0 < D) (hk : ∀ k ∈ ks, 1 ≤ k.w ∧ 1 ≤ k.h ∧ D ≤ (k.w + kerf) * (k.h + kerf)) : ∀ (n : Nat) (w h : Int) (b : Nat), w ≤ W → h ≤ H → valI T w h ≠ 0 → ((mkT ks kerf T n w h b).length : Int) + 1 ≤ 6 * ((w + kerf) * (h + kerf) / D) := by
  intro n
  induction n with
  | zero =>
    intro w h b w1 h1 hv
    have hd := F.dens k0 D hk (w + h).toNat w h w1 h1 (by omega) hv
    have : 1 ≤ (w + kerf) * (h + kerf) / D := by rw [Int.le_ediv_iff_mul_le hD]; omega
    show ((1 : Nat) : Int) + 1 ≤ _
    omega
  | succ n ih =>
    intro w h b w1 h1 hv
    have hd := F.dens k0 D hk (w + h).toNat w h w1 h1 (by omega) hv
    have h6 : 1 ≤ (w + kerf) * (h + kerf) / D := by rw [Int.le_ediv_iff_mul_le hD]; omega
    obtain ⟨w0, h0⟩ := val_pos hv
    obtain ⟨a, e⟩ := F.val w0 w1 h0 h1
    have hp := a.ok
    have hm : mkT ks kerf T (n + 1) w h b = if valI T w h = 0 then [leafN (-1)] else
      if (pnget (rwget T h.toNat) w.toNat).k > 0 then pcT ks ((pnget (rwget T h.toNat) w.toNat).k - 1) w h b
      else if (pnget (rwget T h.toNat) w.toNat).d = true then cutT true (pnget (rwget T h.toNat) w.toNat).a (mkT ks kerf T n (pnget (rwget T h.toNat) w.toNat).a h) (mkT ks kerf T n (w - (pnget (rwget T h.toNat) w.toNat).a - kerf) h) b
      else cutT false (pnget (rwget T h.toNat) w.toNat).a (mkT ks kerf T n w (pnget (rwget T h.toNat) w.toNat).a) (mkT ks kerf T n w (h - (pnget (rwget T h.toNat) w.toNat).a - kerf)) b := rfl
    rw [if_neg hv] at hm
    rw [hm]
    rw [e] at hv
    generalize pnget (rwget T h.toNat) w.toNat = p at *
    have split : ∀ x y z : Int, x + y ≤ z → x / D + y / D ≤ z / D := fun x y z q => by
      rw [Int.le_ediv_iff_mul_le hD, Int.add_mul]
      have := Int.ediv_mul_le x (show D ≠ 0 by omega)
      have := Int.ediv_mul_le y (show D ≠ 0 by omega)
      omega
    cases hp with
    | none => exact absurd rfl hv
    | kind i hi b' c d =>
      rw [if_pos (show ((i + 1 : Nat) : Int) > 0 by omega)]
      have := pc_len ks (((i + 1 : Nat) : Int) - 1) w h b
      dsimp only
      omega
    | cw x x0 x1 q1 q2 =>
      rw [if_neg (show ¬ (0 : Int) > 0 by decide), if_pos rfl]
      have l1 := ih x h (b + 1) (by omega) h1 (by omega)
      have l2 := ih (w - x - kerf) h (b + 1 + (mkT ks kerf T n x h (b + 1)).length) (by omega) h1 (by omega)
      have hs := split ((x + kerf) * (h + kerf)) ((w - x - kerf + kerf) * (h + kerf)) ((w + kerf) * (h + kerf)) (by rw [← Int.add_mul, show x + kerf + (w - x - kerf + kerf) = w + kerf by omega]; exact Int.le_refl _)
      dsimp only
      rw [cutT, List.length_cons, List.length_append]
      omega
    | ch y y0 y1 q1 q2 =>
      rw [if_neg (show ¬ (0 : Int) > 0 by decide), if_neg (by simp)]
      have l1 := ih w y (b + 1) w1 (by omega) (by omega)
      have l2 := ih w (h - y - kerf) (b + 1 + (mkT ks kerf T n w y (b + 1)).length) w1 (by omega) (by omega)
      have hs := split ((w + kerf) * (y + kerf)) ((w + kerf) * (h - y - kerf + kerf)) ((w + kerf) * (h + kerf)) (by rw [← Int.mul_add, show y + kerf + (h - y - kerf + kerf) = h + kerf by omega]; exact Int.le_refl _)
      dsimp only
      rw [cutT, List.length_cons, List.length_append]
      omega
end
end St
end Go.Vm
