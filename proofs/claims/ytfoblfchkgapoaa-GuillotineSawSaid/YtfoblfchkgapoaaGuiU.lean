/-
  Layer 38: law Stages.
-/
import Derived.Test.YtfoblfchkgapoaaGuiT
namespace Go.Vm
set_option maxRecDepth 20000
set_option linter.unusedVariables false
set_option linter.unusedSimpArgs false
open Go Go.RowKit Go.Proofs
namespace St

/-- A valid tree is worth no more than the best one. -/
theorem tree_gval {t : List Nd} {ks : List Knd} {w h kerf : Int} (hv : validB t ks w h kerf = true) : valS t ks t.length ≤ gval ks w h kerf := by
  have hp := hv
  simp only [validB, Bool.and_eq_true] at hp
  have p := prob_iff.1 hp.1
  have kf := p.k0
  have S := gval_sup p.posk kf
  have G0 := gval_nn p.posk kf
  have mx : ∀ a b : Int, gval ks (maxI 0 a) b kerf = gval ks a b kerf := fun a b => by
    rcases maxI_spec a with ⟨e, c⟩ | ⟨e, c⟩
    · rw [e, gval_zero (.inl (by omega)), gval_zero (.inl (by omega))]
    · rw [e]
  have my : ∀ a b : Int, gval ks a (maxI 0 b) kerf = gval ks a b kerf := fun a b => by
    rcases maxI_spec b with ⟨e, c⟩ | ⟨e, c⟩
    · rw [e, gval_zero (.inr (by omega)), gval_zero (.inr (by omega))]
    · rw [e]
  refine val_pot hv (fun r => gval ks r.w r.h kerf) (gval_zero (.inl (by decide))) (fun r _ => G0 _ _) (fun r n hr hl hq => ?_) (fun k hk r _ h1 h2 => ?_)
  · rw [posB, if_neg (by rw [hl]; simp), inB_iff] at hq
    unfold cutA cutB
    cases hv : n.v with
    | true =>
      rw [hv] at hq
      simp only [if_true] at hq ⊢
      rw [mx]
      by_cases o : r.h < 1
      · rw [gval_zero (.inr o), gval_zero (.inr o), gval_zero (.inr o)]; omega
      · exact (S r.w r.h).cw r.w r.h n.a (by omega) (by omega) (Int.le_refl _) (by omega) (Int.le_refl _)
    | false =>
      rw [hv] at hq
      simp only [Bool.false_eq_true, if_false] at hq ⊢
      rw [my]
      by_cases o : r.w < 1
      · rw [gval_zero (.inl o), gval_zero (.inl o), gval_zero (.inl o)]; omega
      · exact (S r.w r.h).ch r.w r.h n.a (by omega) (by omega) (Int.le_refl _) (by omega) (Int.le_refl _)
  · have := p.posk k hk
    exact (S r.w r.h).kd k hk r.w r.h (Int.le_refl _) (Int.le_refl _) (by omega) (by omega)
/-! ### the bound -/
theorem bndF_mono (ks : List Knd) (w h kerf : Int) (n : Nat) : bndF ks w h kerf n ≤ bndF ks w h kerf (n + 1) ∧ ((kget ks n).w ≤ w → (kget ks n).h ≤ h → bterm w h kerf (kget ks n) ≤ bndF ks w h kerf (n + 1)) := by
  rw [show bndF ks w h kerf (n + 1) = if (kget ks n).w ≤ w ∧ (kget ks n).h ≤ h then (if bterm w h kerf (kget ks n) > bndF ks w h kerf n then bterm w h kerf (kget ks n) else bndF ks w h kerf n) else bndF ks w h kerf n from rfl]
  split
  · split <;> omega
  · rename_i c
    exact ⟨Int.le_refl _, fun a b => absurd ⟨a, b⟩ c⟩
/-- The greatest density. -/
theorem dens_ex (ks : List Knd) (w h kerf : Int) (k0 : 0 ≤ kerf) (w0 : 1 ≤ w) (h0 : 1 ≤ h) (hk : ∀ k ∈ ks, 1 ≤ k.w ∧ 1 ≤ k.h ∧ 0 ≤ k.v) : ∀ n, n ≤ ks.length → ∃ p q : Int, 0 ≤ p ∧ 1 ≤ q ∧ (∀ i, i < n → (kget ks i).w ≤ w → (kget ks i).h ≤ h → (kget ks i).v * q ≤ p * (((kget ks i).w + kerf) * ((kget ks i).h + kerf))) ∧ (w + kerf) * (h + kerf) * p / q ≤ bndF ks w h kerf n
  | 0, _ => ⟨0, 1, Int.le_refl _, Int.le_refl _, fun i hi => absurd hi (Nat.not_lt_zero _), by rw [Int.mul_zero]; exact Int.le_refl _⟩
  | n + 1, hn => by
    obtain ⟨p, q, p0, q0, hd, hb⟩ := dens_ex ks w h kerf k0 w0 h0 hk n (by omega)
    obtain ⟨b1, b2⟩ := bndF_mono ks w h kerf n
    have Dpos : ∀ i, i < ks.length → 1 ≤ ((kget ks i).w + kerf) * ((kget ks i).h + kerf) := fun i hi => by
      obtain ⟨a, b, _⟩ := hk _ (kget_mem hi)
      have : 1 * 1 ≤ ((kget ks i).w + kerf) * ((kget ks i).h + kerf) := Int.mul_le_mul (by omega) (by omega) (by decide) (by omega)
      omega
    by_cases fit : (kget ks n).w ≤ w ∧ (kget ks n).h ≤ h
    · by_cases c : (kget ks n).v * q ≤ p * (((kget ks n).w + kerf) * ((kget ks n).h + kerf))
      · refine ⟨p, q, p0, q0, fun i hi a b => ?_, by omega⟩
        rcases Nat.lt_succ_iff_lt_or_eq.1 hi with hi | rfl
        · exact hd i hi a b
        · exact c
      · refine ⟨(kget ks n).v, ((kget ks n).w + kerf) * ((kget ks n).h + kerf), (hk _ (kget_mem (by omega))).2.2, Dpos n (by omega), fun i hi a b => ?_, ?_⟩
        · rcases Nat.lt_succ_iff_lt_or_eq.1 hi with hi | rfl
          · have e := hd i hi a b
            have D1 := Dpos i (by omega)
            have D2 := Dpos n (by omega)
            generalize ((kget ks i).w + kerf) * ((kget ks i).h + kerf) = Di at *
            generalize ((kget ks n).w + kerf) * ((kget ks n).h + kerf) = D at *
            refine Classical.byContradiction fun hc => ?_
            have hc' : (kget ks n).v * Di < (kget ks i).v * D := by omega
            have s1 : (kget ks n).v * Di * q < (kget ks i).v * D * q := Int.mul_lt_mul_of_pos_right hc' (by omega)
            have s2 : (kget ks i).v * q * D ≤ p * Di * D := Int.mul_le_mul_of_nonneg_right e (by omega)
            have s3 : p * D * Di < (kget ks n).v * q * Di := Int.mul_lt_mul_of_pos_right (by omega) (by omega)
            have r1 : (kget ks i).v * D * q = (kget ks i).v * q * D := Int.mul_right_comm _ _ _
            have r2 : p * D * Di = p * Di * D := Int.mul_right_comm _ _ _
            have r3 : (kget ks n).v * q * Di = (kget ks n).v * Di * q := Int.mul_right_comm _ _ _
            omega
          · exact Int.le_refl _
        · exact b2 fit.1 fit.2
    · refine ⟨p, q, p0, q0, fun i hi a b => ?_, by omega⟩
      rcases Nat.lt_succ_iff_lt_or_eq.1 hi with hi | rfl
      · exact hd i hi a b
      · exact absurd ⟨a, b⟩ fit
theorem gval_bound {ks : List Knd} {w h kerf : Int} (p : Pb ks w h kerf) : gval ks w h kerf ≤ bndF ks w h kerf ks.length := by
  have k0 := p.k0; have w0 := p.w0; have h0 := p.h0
  obtain ⟨P, Q, P0, Q0, hd, hb⟩ := dens_ex ks w h kerf k0 w0 h0 (fun k hk => ⟨(p.ok k hk).w0, (p.ok k hk).h0, (p.ok k hk).v0⟩) ks.length (Nat.le_refl _)
  refine Int.le_trans ?_ hb
  have Qp : 0 < Q := by omega
  have sum : ∀ x y z : Int, x + y ≤ z → x / Q + y / Q ≤ z / Q := fun x y z c => by
    rw [Int.le_ediv_iff_mul_le Qp, Int.add_mul]
    have := Int.ediv_mul_le x (show Q ≠ 0 by omega)
    have := Int.ediv_mul_le y (show Q ≠ 0 by omega)
    omega
  have nn : ∀ a b : Int, 0 ≤ a + kerf → 0 ≤ b + kerf → 0 ≤ (a + kerf) * (b + kerf) * P / Q := fun a b x y => Int.ediv_nonneg (Int.mul_nonneg (Int.mul_nonneg x y) P0) (by omega)
  have mono : ∀ a b c d : Int, 0 ≤ a + kerf → 0 ≤ b + kerf → a ≤ c → b ≤ d → (a + kerf) * (b + kerf) * P / Q ≤ (c + kerf) * (d + kerf) * P / Q := fun a b c d x y z v => Int.ediv_le_ediv Qp (Int.mul_le_mul_of_nonneg_right (Int.mul_le_mul (by omega) (by omega) y (by omega)) P0)
  have key := gval_least (ks := ks) (kerf := kerf) k0 (W := w) (H := h) (G := fun a b => if a < 1 ∨ b < 1 then 0 else (a + kerf) * (b + kerf) * P / Q) ⟨fun a b _ _ => ?_, fun k hk a b hw hh c d => ?_, fun a b x x0 x1 hw h0 hh => ?_, fun a b y y0 y1 hh w0 hw => ?_⟩
  · rwa [if_neg (by omega)] at key
  · show 0 ≤ (if a < 1 ∨ b < 1 then (0 : Int) else (a + kerf) * (b + kerf) * P / Q)
    split
    · exact Int.le_refl _
    · exact nn a b (by omega) (by omega)
  · have o := p.ok k hk
    have a0 := o.w0; have b0 := o.h0
    show k.v ≤ (if _ then _ else _)
    rw [if_neg (by omega), Int.le_ediv_iff_mul_le Qp]
    obtain ⟨i, hi, rfl⟩ := List.getElem_of_mem hk
    have e : kget ks i = ks[i] := by simp [kget, List.getD, hi]
    have := hd i hi (by rw [e]; omega) (by rw [e]; omega)
    rw [e] at this
    refine Int.le_trans this ?_
    rw [Int.mul_comm]
    exact Int.mul_le_mul_of_nonneg_right (Int.mul_le_mul (by omega) (by omega) (by omega) (by omega)) P0
  · show (if _ then _ else _) + (if _ then _ else _) ≤ (if _ then _ else _)
    rw [if_neg (by omega), if_neg (show ¬ (a < 1 ∨ b < 1) by omega)]
    split
    · have := mono x b a b (by omega) (by omega) (by omega) (Int.le_refl _)
      omega
    · refine sum _ _ _ ?_
      rw [← Int.add_mul, ← Int.add_mul, show x + kerf + (a - x - kerf + kerf) = a + kerf by omega]
      exact Int.le_refl _
  · show (if _ then _ else _) + (if _ then _ else _) ≤ (if _ then _ else _)
    rw [if_neg (by omega), if_neg (show ¬ (a < 1 ∨ b < 1) by omega)]
    split
    · have := mono a y a b (by omega) (by omega) (Int.le_refl _) (by omega)
      omega
    · refine sum _ _ _ ?_
      rw [← Int.add_mul, ← Int.mul_add, show y + kerf + (b - y - kerf + kerf) = b + kerf by omega]
      exact Int.le_refl _
theorem rbestR_ok {ks : List Knd} {w h kerf : Int} (hz : (rbestR ks w h kerf).2 = 0) : Pb ks w h kerf ∧ manyB ks w h kerf = false ∧ (rbestR ks w h kerf).1 = bestV ks w h kerf := by
  unfold rbestR at hz ⊢
  cases hp : probB ks w h kerf with
  | false => rw [hp] at hz; simp at hz
  | true =>
    cases hm : manyB ks w h kerf with
    | true => rw [hp, hm] at hz; simp at hz
    | false =>
      refine ⟨prob_iff.1 hp, rfl, ?_⟩
      simp
theorem lgstages_det (z : Pz) (t : List Nd) (hl : z.ks.length ≤ maxLen) (hlt : t.length ≤ maxLen) : Det Try.prog 13 [.agg (pzL z), .one (ndS t)] (tbool true) := by
  refine det_of_awp TTok mixed Try.func13 rfl rfl [] (Nat.le_of_ble_eq_true rfl) ?_
  refine CallW.mk' awake38_det ?_
  refine Split.f ?_
  refine CallW.bool (few_det z.ks z.w z.h) (fun b1 hb1 => ?_)
  refine Split.mk (fun c1 => ?_) (fun c1 => ?_)
  · repeat' first | refine Split.isT c1 ?_ | refine Split.t ?_ | refine Split.f ?_ | fail
    exact Fin.rfl'
  have hfew : fewB z.ks z.w z.h = true := by rw [← hb1]; simpa using c1
  simp only [fewB, Bool.and_eq_true, decide_eq_true_eq] at hfew
  obtain ⟨f1, f2, f3⟩ := hfew
  repeat' first | refine Split.isF c1 ?_ | refine Split.t ?_ | refine Split.f ?_ | fail
  refine Split.mk (fun c2 => ?_) (fun c2 => ?_)
  · repeat' first | refine Split.isT c2 ?_ | refine Split.isF c1 ?_ | refine Split.t ?_ | refine Split.f ?_ | fail
    exact Fin.rfl'
  repeat' first | refine Split.isF c2 ?_ | refine Split.isF c1 ?_ | refine Split.t ?_ | refine Split.f ?_ | fail
  refine Split.mk (fun c3 => ?_) (fun c3 => ?_)
  · exact Fin.rfl'
  have htl : t.length ≤ 300 := by have := of_decide_eq_false c3; omega
  refine CallW.kds (kinds_det z.ks (by omega)) ?_
  refine CallW.best (gbest_det z.ks z.w z.h z.kerf hl) (fun v hv => ?_)
  refine CallW.twoI (rbest_det z.ks z.w z.h z.kerf (by omega)) (fun x hx => ?_)
  refine CallW.twoI (bound_det z.ks z.w z.h z.kerf hl) (fun y hy => ?_)
  show Split (v.2.2 != 0) _
  refine Split.mk (fun d1 => ?_) (fun d1 => ?_)
  · repeat' first | refine Split.isT d1 ?_ | refine Split.t ?_ | refine Split.f ?_ | fail
    exact Fin.rfl'
  repeat' first | refine Split.isF d1 ?_ | refine Split.t ?_ | refine Split.f ?_ | fail
  show Split (x.2 != 0) _
  refine Split.mk (fun d2 => ?_) (fun d2 => ?_)
  · exact Fin.rfl'
  have v0 : v.2.2 = 0 := by simpa using d1
  have x0 : x.2 = 0 := by simpa using d2
  rw [hv] at v0
  obtain ⟨p, hb, ev⟩ := gbestR_ok v0
  rw [hx] at x0
  obtain ⟨_, hm, ex⟩ := rbestR_ok x0
  have hy2 : y = (bndF z.ks z.w z.h z.kerf z.ks.length, 0) := by rw [hy, bndR, if_neg (by rw [prob_iff.2 p]; simp)]
  have k1 : x.1 ≤ v.1 := by
    rw [hx, hv, ex, ev]
    obtain ⟨t1, t2, _⟩ := bestT_valid p (by omega) hm
    rw [← t2]
    exact tree_gval t1
  have k2 : v.1 ≤ y.1 := by rw [hv, ev, hy2]; exact gval_bound p
  have k3 : validB t z.ks z.w z.h z.kerf = true → valS t z.ks t.length ≤ v.1 := fun q => by rw [hv, ev]; exact tree_gval q
  have y0 : y.2 = 0 := by rw [hy2]
  clear hx hy hv hy2 ex ev x0 v0
  obtain ⟨x1, x2⟩ := x
  obtain ⟨y1, y2⟩ := y
  obtain ⟨v1, v2, v3⟩ := v
  replace k1 : x1 ≤ v1 := k1
  replace k2 : v1 ≤ y1 := k2
  replace k3 : validB t z.ks z.w z.h z.kerf = true → valS t z.ks t.length ≤ v1 := k3
  replace y0 : y2 = 0 := y0
  subst y0
  have e1 : decide (x1 ≤ v1) = true := decide_eq_true k1
  have e2 : decide (v1 ≤ y1) = true := decide_eq_true k2
  repeat' first | refine Split.isT e1 ?_ | refine Split.isT e2 ?_ | refine Split.t ?_ | refine Split.f ?_ | fail
  refine CallW.bool (rvalid_det t z.ks z.w z.h z.kerf (by omega) (by omega)) (fun b hb => ?_)
  repeat' first | refine Split.isT e1 ?_ | refine Split.isT e2 ?_ | refine Split.t ?_ | refine Split.f ?_ | fail
  refine Split.mk (fun c4 => ?_) (fun c4 => ?_)
  · repeat' first | refine Split.isT c4 ?_ | refine Split.isT e1 ?_ | refine Split.isT e2 ?_ | refine Split.t ?_ | refine Split.f ?_ | fail
    exact Fin.rfl'
  have e3 : decide (valS t z.ks t.length ≤ v1) = true := decide_eq_true (k3 (by rw [← hb]; simpa using c4))
  repeat' first | refine Split.isF c4 ?_ | refine Split.t ?_ | refine Split.f ?_ | fail
  refine CallW.int (rvalue_det t z.ks (by omega) (by omega)) (fun m hm' => ?_)
  rw [← hm'] at e3
  repeat' first | refine Split.isF c4 ?_ | refine Split.isT e3 ?_ | refine Split.isT e1 ?_ | refine Split.isT e2 ?_ | refine Split.t ?_ | refine Split.f ?_ | fail
  exact Fin.bool e3
theorem lgstages_all : ∀ dvs, TypL Try.prog Try.f13.params.toList dvs → Det Try.prog 13 dvs (tbool true) := by
  intro dvs h
  obtain ⟨v0, r0, rfl, h0, q0⟩ := TypL.inv_cons (t := 24) (ts := [37]) h
  obtain ⟨v1, r1, rfl, h1, q1⟩ := TypL.inv_cons (t := 37) (ts := []) q0
  obtain rfl := TypL.inv_nil q1
  obtain ⟨z, hz, _, _, _, hle⟩ := pzIn h0
  obtain ⟨l, hl, hle2⟩ := ndsIn h1
  exact Det.le (.cons hle (.cons hle2 .nil)) (lgstages_det z l hz hl)
end St
end Go.Vm
