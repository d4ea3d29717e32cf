/-
  Layer 38: contract of piece.
  Layer 38: contract of make.
-/
import Derived.Test.YtfoblfchkgapoaaGuiC
namespace Go.Vm
set_option maxRecDepth 20000
set_option linter.unusedVariables false
set_option linter.unusedSimpArgs false
open Go Go.RowKit Go.Proofs
namespace St

def pcT0 (ks : List Knd) (kind h : Int) (b : Nat) : List Nd := if (kget ks kind.toNat).h < h then cutT false (kget ks kind.toNat).h (fun _ => [leafN kind]) (fun _ => [leafN (-1)]) b else [leafN kind]
def pcT (ks : List Knd) (kind w h : Int) (b : Nat) : List Nd := if (kget ks kind.toNat).w < w then cutT true (kget ks kind.toNat).w (pcT0 ks kind h) (fun _ => [leafN (-1)]) b else pcT0 ks kind h b
section
variable (ks : List Knd) (kerf : Int) (rows : List (List Pn))
abbrev eH (kind : Int) : List Mem := [.obj [.ptr (.n 2000) 0], .box [i64 kind]]
abbrev eV (kind h : Int) (k : Knd) : List Mem := [.obj [.ptr (.n 2000) 0], .box [i64 kind], .box [i64 h], .box (kL k)]
theorem piece3_detM (kind : Int) (L : List Nd) (hL : L.length + 1 ≤ 100000000) : DetM Try.prog 107 [.ptr (.n 2002) 0, .ptr (.n 2003) 0] (mkS ks kerf rows 1 L ++ eH kind) (.tup []) (mkS ks kerf rows 3 (L ++ [leafN kind]) ++ eH kind) .none := by
  refine detM_of_awp TTok mixed Try.func107 rfl rfl [86 + 2000000] (Nat.le_of_ble_eq_true rfl) (Nat.le_of_ble_eq_true rfl) (sigM_of rfl) ?_
  refine CallM.mk' [2000, 2001] (gleaf_detM ks kerf rows L kind (by omega)) ⟨.cons (.obj (slL_fit ks kerf rows (.hdl rfl rfl))) (.cons (.bld (fun _ _ _ _ => SLe.refl _)) .nil), .cons (.ptr rfl) (.cons (.d (DLe.refl _)) .nil), rfl, rfl, fun h => absurd rfl h⟩ ?_
  exact EndM.mk ⟨.n 0, .none, .cons (.obj (slL_end ks kerf rows (.hdl rfl rfl rfl))) (.cons (.bldN rfl (fun h => absurd h (by decide)) (fun i hi j hj => SLe.refl _)) (.cons (.obj (.cons (.ptr rfl) .nil)) (.cons (.box (LLe.refl _)) (.nil _)))), .inl rfl⟩
theorem piece4_detM (kind : Int) (L : List Nd) (hL : L.length + 1 ≤ 100000000) : DetM Try.prog 108 [.ptr (.n 2002) 0] (mkS ks kerf rows 1 L ++ eH kind) (.tup []) (mkS ks kerf rows 3 (L ++ [leafN (-1)]) ++ eH kind) .none := by
  refine detM_of_awp TTok mixed Try.func108 rfl rfl [86 + 2000000] (Nat.le_of_ble_eq_true rfl) (Nat.le_of_ble_eq_true rfl) (sigM_of rfl) ?_
  refine CallM.mk' [2000, 2001] (gleaf_detM ks kerf rows L (-1) (by omega)) ⟨.cons (.obj (slL_fit ks kerf rows (.hdl rfl rfl))) (.cons (.bld (fun _ _ _ _ => SLe.refl _)) .nil), .cons (.ptr rfl) (.cons (.d (DLe.refl _)) .nil), rfl, rfl, fun h => absurd rfl h⟩ ?_
  exact EndM.mk ⟨.n 0, .none, .cons (.obj (slL_end ks kerf rows (.hdl rfl rfl rfl))) (.cons (.bldN rfl (fun h => absurd h (by decide)) (fun i hi j hj => SLe.refl _)) (.cons (.obj (.cons (.ptr rfl) .nil)) (.cons (.box (LLe.refl _)) (.nil _)))), .inl rfl⟩
theorem piece2_detM (kind h : Int) (k : Knd) (L : List Nd) (hL : L.length + 1 ≤ 100000000) : DetM Try.prog 106 [.ptr (.n 2002) 0] (mkS ks kerf rows 1 L ++ eV kind h k) (.tup []) (mkS ks kerf rows 3 (L ++ [leafN (-1)]) ++ eV kind h k) .none := by
  refine detM_of_awp TTok mixed Try.func106 rfl rfl [86 + 2000000] (Nat.le_of_ble_eq_true rfl) (Nat.le_of_ble_eq_true rfl) (sigM_of rfl) ?_
  refine CallM.mk' [2000, 2001] (gleaf_detM ks kerf rows L (-1) (by omega)) ⟨.cons (.obj (slL_fit ks kerf rows (.hdl rfl rfl))) (.cons (.bld (fun _ _ _ _ => SLe.refl _)) .nil), .cons (.ptr rfl) (.cons (.d (DLe.refl _)) .nil), rfl, rfl, fun h => absurd rfl h⟩ ?_
  exact EndM.mk ⟨.n 0, .none, .cons (.obj (slL_end ks kerf rows (.hdl rfl rfl rfl))) (.cons (.bldN rfl (fun h => absurd h (by decide)) (fun i hi j hj => SLe.refl _)) (.cons (.obj (.cons (.ptr rfl) .nil)) (.cons (.box (LLe.refl _)) (.cons (.box (LLe.refl _)) (.cons (.box (LLe.refl _)) (.nil _)))))), .inl rfl⟩
theorem piece_detM (kind h : Int) (h0 : 0 ≤ kind) (h1 : kind < ks.length) : ∀ (n : Nat) (w : Int) (L : List Nd), ((kget ks kind.toNat).w < w → n = 1) → n ≤ 1 → L.length + (pcT ks kind w h L.length).length ≤ 100000000 →
    DetM Try.prog 87 [.ptr (.n 2000) 0, tint kind, tint w, tint h] (mkS ks kerf rows 1 L) (.tup []) (mkS ks kerf rows 3 (L ++ pcT ks kind w h L.length)) .none := by
  intro n
  induction n with
  | zero =>
    intro w L hn _ hL
    have hw' : ¬ (kget ks kind.toNat).w < w := fun q => by have := hn q; omega
    have hp : pcT ks kind w h L.length = pcT0 ks kind h L.length := by rw [pcT, if_neg hw']
    rw [hp] at hL ⊢
    refine detM_of_awp TTok mixed Try.func87 rfl rfl [12 + 3000000, 86 + 2000000, 88 + 2000000] (Nat.le_of_ble_eq_true rfl) (Nat.le_of_ble_eq_true rfl) (sigM_of rfl) ?_
    refine ⟨⟨.s (kS ks), rfl, rfl, rfl, ?_⟩⟩
    refine Need.mk (⟨h0, h1⟩ : 0 ≤ kind ∧ kind < (ks.length : Int)) ?_
    refine Need.mk (by kernel_rfl) ?_
    have f1 : decide ((kget ks kind.toNat).w < w) = false := decide_eq_false hw'
    refine Split.isF f1 ?_
    show Split (decide ((kget ks kind.toNat).h < h)) _
    have hp0 : pcT0 ks kind h L.length = if (kget ks kind.toNat).h < h then cutT false (kget ks kind.toNat).h (fun _ => [leafN kind]) (fun _ => [leafN (-1)]) L.length else [leafN kind] := rfl
    refine Split.mk (fun c2 => ?_) (fun c2 => ?_)
    · rw [if_pos (of_decide_eq_true c2)] at hp0
      rw [hp0] at hL ⊢
      refine CallM.mk' [2000, 2001, 4, 5] (gcutPieceH_detM ks kerf rows kind false (kget ks kind.toNat).h (fun _ => [leafN kind]) (fun _ => [leafN (-1)]) (fun L hL => piece3_detM ks kerf rows kind L hL) (fun L hL => piece4_detM ks kerf rows kind L hL) L hL)
        ⟨.cons (.obj (slL_fit ks kerf rows (.hdl rfl rfl))) (.cons (.bld (fun _ _ _ _ => SLe.refl _)) (.cons (.obj (.cons (.ptr rfl) .nil)) (.cons (.box (LLe.refl _)) .nil))), .cons (.ptr rfl) (.cons (.d (DLe.refl _)) (.cons (.d (DLe.refl _)) (.cons (.clo (.cons (.ptr rfl) (.cons (.ptr rfl) .nil))) (.cons (.clo (.cons (.ptr rfl) .nil)) .nil)))), rfl, rfl, fun h => absurd rfl h⟩ ?_
      exact EndM.mk ⟨.n 0, .none, .cons (.obj (slL_end ks kerf rows (.hdl rfl rfl rfl))) (.cons (.bldN rfl (fun h => absurd h (by decide)) (fun i hi j hj => SLe.refl _)) (.nil _)), .inl rfl⟩
    · rw [if_neg (of_decide_eq_false c2)] at hp0
      rw [hp0] at hL ⊢
      refine CallM.mk' [2000, 2001] (gleaf_detM ks kerf rows L kind (by omega)) ⟨.cons (.obj (slL_fit ks kerf rows (.hdl rfl rfl))) (.cons (.bld (fun _ _ _ _ => SLe.refl _)) .nil), .cons (.ptr rfl) (.cons (.d (DLe.refl _)) .nil), rfl, rfl, fun h => absurd rfl h⟩ ?_
      exact EndM.mk ⟨.n 0, .none, .cons (.obj (slL_end ks kerf rows (.hdl rfl rfl rfl))) (.cons (.bldN rfl (fun h => absurd h (by decide)) (fun i hi j hj => SLe.refl _)) (.nil _)), .inl rfl⟩
  | succ n ih =>
    intro w L _ hn1 hL
    obtain rfl : n = 0 := by omega
    by_cases hw' : (kget ks kind.toNat).w < w
    · have hp : pcT ks kind w h L.length = cutT true (kget ks kind.toNat).w (pcT0 ks kind h) (fun _ => [leafN (-1)]) L.length := by rw [pcT, if_pos hw']
      rw [hp] at hL ⊢
      have p1 : ∀ L : List Nd, L.length + (pcT0 ks kind h L.length).length ≤ 100000000 → DetM Try.prog 105 [.ptr (.n 2002) 0, .ptr (.n 2003) 0, .ptr (.n 2005) 0, .ptr (.n 2004) 0] (mkS ks kerf rows 1 L ++ eV kind h (kget ks kind.toNat)) (.tup []) (mkS ks kerf rows 3 (L ++ pcT0 ks kind h L.length) ++ eV kind h (kget ks kind.toNat)) .none := fun L hL => by
        have hq : pcT ks kind (kget ks kind.toNat).w h L.length = pcT0 ks kind h L.length := by rw [pcT, if_neg (Int.lt_irrefl _)]
        have := ih (kget ks kind.toNat).w L (fun q => absurd q (Int.lt_irrefl _)) (by omega) (by rw [hq]; exact hL)
        rw [hq] at this
        refine detM_of_awp TTok mixed Try.func105 rfl rfl [87 + 2000000] (Nat.le_of_ble_eq_true rfl) (Nat.le_of_ble_eq_true rfl) (sigM_of rfl) ?_
        refine CallM.mk' [2000, 2001] this ⟨.cons (.obj (slL_fit ks kerf rows (.hdl rfl rfl))) (.cons (.bld (fun _ _ _ _ => SLe.refl _)) .nil), .cons (.ptr rfl) (.cons (.d (DLe.refl _)) (.cons (.d (DLe.refl _)) (.cons (.d (DLe.refl _)) .nil))), rfl, rfl, fun h => absurd rfl h⟩ ?_
        exact EndM.mk ⟨.n 0, .none, .cons (.obj (slL_end ks kerf rows (.hdl rfl rfl rfl))) (.cons (.bldN rfl (fun h => absurd h (by decide)) (fun i hi j hj => SLe.refl _)) (.cons (.obj (.cons (.ptr rfl) .nil)) (.cons (.box (LLe.refl _)) (.cons (.box (LLe.refl _)) (.cons (.box (LLe.refl _)) (.nil _)))))), .inl rfl⟩
      refine detM_of_awp TTok mixed Try.func87 rfl rfl [12 + 3000000, 86 + 2000000, 88 + 2000000] (Nat.le_of_ble_eq_true rfl) (Nat.le_of_ble_eq_true rfl) (sigM_of rfl) ?_
      refine ⟨⟨.s (kS ks), rfl, rfl, rfl, ?_⟩⟩
      refine Need.mk (⟨h0, h1⟩ : 0 ≤ kind ∧ kind < (ks.length : Int)) ?_
      refine Need.mk (by kernel_rfl) ?_
      have f1 : decide ((kget ks kind.toNat).w < w) = true := decide_eq_true hw'
      refine Split.isT f1 ?_
      refine CallM.mk' [2000, 2001, 4, 5, 7, 8] (gcutPieceV_detM ks kerf rows kind h (kget ks kind.toNat) true (kget ks kind.toNat).w (pcT0 ks kind h) (fun _ => [leafN (-1)]) p1 (fun L hL => piece2_detM ks kerf rows kind h (kget ks kind.toNat) L hL) L hL)
        ⟨.cons (.obj (slL_fit ks kerf rows (.hdl rfl rfl))) (.cons (.bld (fun _ _ _ _ => SLe.refl _)) (.cons (.obj (.cons (.ptr rfl) .nil)) (.cons (.box (LLe.refl _)) (.cons (.box (LLe.refl _)) (.cons (.box (LLe.of_eq rfl)) .nil))))), .cons (.ptr rfl) (.cons (.d (DLe.refl _)) (.cons (.d (DLe.refl _)) (.cons (.clo (.cons (.ptr rfl) (.cons (.ptr rfl) (.cons (.ptr rfl) (.cons (.ptr rfl) .nil))))) (.cons (.clo (.cons (.ptr rfl) .nil)) .nil)))), rfl, rfl, fun h => absurd rfl h⟩ ?_
      exact EndM.mk ⟨.n 0, .none, .cons (.obj (slL_end ks kerf rows (.hdl rfl rfl rfl))) (.cons (.bldN rfl (fun h => absurd h (by decide)) (fun i hi j hj => SLe.refl _)) (.nil _)), .inl rfl⟩
    · exact ih w L (fun q => absurd q hw') (by omega) hL
end
end St
end Go.Vm
namespace Go.Vm
set_option maxRecDepth 20000
set_option linter.unusedVariables false
set_option linter.unusedSimpArgs false
open Go Go.RowKit Go.Proofs
namespace St

def mkT (ks : List Knd) (kerf : Int) (rows : List (List Pn)) : Nat → Int → Int → Nat → List Nd
  | 0, _, _, _ => [leafN (-1)]
  | n + 1, w, h, b => if valI rows w h = 0 then [leafN (-1)] else
      if (pnget (rwget rows h.toNat) w.toNat).k > 0 then pcT ks ((pnget (rwget rows h.toNat) w.toNat).k - 1) w h b
      else if (pnget (rwget rows h.toNat) w.toNat).d = true then cutT true (pnget (rwget rows h.toNat) w.toNat).a (mkT ks kerf rows n (pnget (rwget rows h.toNat) w.toNat).a h) (mkT ks kerf rows n (w - (pnget (rwget rows h.toNat) w.toNat).a - kerf) h) b
      else cutT false (pnget (rwget rows h.toNat) w.toNat).a (mkT ks kerf rows n w (pnget (rwget rows h.toNat) w.toNat).a) (mkT ks kerf rows n w (h - (pnget (rwget rows h.toNat) w.toNat).a - kerf)) b
structure RwOk (ks : List Knd) (rows : List (List Pn)) (W H : Int) : Prop where
  h2 : H ≤ 200
  w2 : W ≤ 200
  len : ∀ h, 1 ≤ h → h ≤ H → W < (rwget rows h.toNat).length
  k : ∀ w h, 1 ≤ w → w ≤ W → 1 ≤ h → h ≤ H → (pnget (rwget rows h.toNat) w.toNat).k ≤ ks.length
  a : ∀ w h, 1 ≤ w → w ≤ W → 1 ≤ h → h ≤ H → valI rows w h ≠ 0 → ¬ (pnget (rwget rows h.toNat) w.toNat).k > 0 → 1 ≤ (pnget (rwget rows h.toNat) w.toNat).a ∧ (pnget (rwget rows h.toNat) w.toNat).a < (if (pnget (rwget rows h.toNat) w.toNat).d = true then w else h)
section
variable (ks : List Knd) (kerf : Int) (rows : List (List Pn))
abbrev eM (w h : Int) (p : Pn) : List Mem := [.obj [.ptr (.n 2000) 0], .box [i64 w], .box [i64 h], .box (pnL p)]
theorem make_detM (W H : Int) (hks : ks.length ≤ 1000) (k0 : 0 ≤ kerf) (k1 : kerf ≤ 50) (R : RwOk ks rows W H) : ∀ (n : Nat) (w h : Int) (L : List Nd), w ≤ W → h ≤ H → -1000 ≤ w → -1000 ≤ h → w + h < n → 1 ≤ n → L.length + (mkT ks kerf rows n w h L.length).length ≤ 100000000 →
    DetM Try.prog 63 [.ptr (.n 2000) 0, tint w, tint h] (mkS ks kerf rows 1 L) (.tup []) (mkS ks kerf rows 3 (L ++ mkT ks kerf rows n w h L.length)) .none := by
  intro n
  induction n with
  | zero => intro w h L _ _ _ _ _ hn; exact absurd hn (by omega)
  | succ n ih =>
    intro w h L hw1 hh1 hw0 hh0 hn _ hL
    have RW := R.w2
    have RH := R.h2
    have hmk : mkT ks kerf rows (n + 1) w h L.length = if valI rows w h = 0 then [leafN (-1)] else
      if (pnget (rwget rows h.toNat) w.toNat).k > 0 then pcT ks ((pnget (rwget rows h.toNat) w.toNat).k - 1) w h L.length
      else if (pnget (rwget rows h.toNat) w.toNat).d = true then cutT true (pnget (rwget rows h.toNat) w.toNat).a (mkT ks kerf rows n (pnget (rwget rows h.toNat) w.toNat).a h) (mkT ks kerf rows n (w - (pnget (rwget rows h.toNat) w.toNat).a - kerf) h) L.length
      else cutT false (pnget (rwget rows h.toNat) w.toNat).a (mkT ks kerf rows n w (pnget (rwget rows h.toNat) w.toNat).a) (mkT ks kerf rows n w (h - (pnget (rwget rows h.toNat) w.toNat).a - kerf)) L.length := rfl
    refine detM_of_awp TTok mixed Try.func63 rfl rfl [19 + 3000000, 86 + 2000000, 87 + 2000000, 88 + 2000000] (Nat.le_of_ble_eq_true rfl) (Nat.le_of_ble_eq_true rfl) (sigM_of rfl) ?_
    refine ⟨⟨_, _, sl_lend ks kerf rows rfl rfl, ?_⟩⟩
    refine CallW.int (gvalue_det ks kerf rows _ w h (fun a b => ⟨by omega, by have := R.len h b hh1; omega⟩)) (fun v hv => ?_)
    rw [← hv] at hmk
    refine Split.mk (fun c1 => ?_) (fun c1 => ?_)
    · rw [if_pos (eq_of_beq c1)] at hmk
      rw [hmk] at hL ⊢
      refine CallM.mk' [2000, 2001] (gleaf_detM ks kerf rows L (-1) (by omega)) ⟨.cons (.obj (slL_fit ks kerf rows (.hdl rfl rfl))) (.cons (.bld (fun _ _ _ _ => SLe.refl _)) .nil), .cons (.ptr rfl) (.cons (.d (DLe.refl _)) .nil), rfl, rfl, fun h => absurd rfl h⟩ ?_
      exact EndM.mk ⟨.n 0, .none, .cons (.obj (slL_end ks kerf rows (.hdl rfl rfl rfl))) (.cons (.bldN rfl (fun h => absurd h (by decide)) (fun i hi j hj => SLe.refl _)) (.nil _)), .inl rfl⟩
    have c1' : ¬ v = 0 := ne_of_beq_false c1
    rw [if_neg c1'] at hmk
    have hwh : 1 ≤ w ∧ 1 ≤ h := by
      rw [valI] at hv
      by_cases q : w < 1 ∨ h < 1
      · rw [if_pos q] at hv; exact absurd hv c1'
      · omega
    have hlen := R.len h hwh.2 hh1
    have hk := R.k w h hwh.1 hw1 hwh.2 hh1
    have ha := R.a w h hwh.1 hw1 hwh.2 hh1 (by rw [← hv]; exact c1')
    refine Need.mk (by omega) ?_
    refine ⟨⟨.s (pnS (rwget rows h.toNat)), ?_, rfl, rfl, ?_⟩⟩
    · have := slL_row ks kerf rows (.hdl (.n 2001) 1) h.toNat (by omega)
      show (slL ks kerf rows (.hdl (.n 2001) 1))[2 + (h.toNat * 1 + 0)]? = _
      rw [Nat.mul_one, Nat.add_zero]
      exact this
    refine Need.mk (by omega) ?_
    refine Need.mk (by kernel_rfl) ?_
    generalize hP : pnget (rwget rows h.toNat) w.toNat = P at *
    have hP' : (rwget rows h.toNat).getD w.toNat pn0 = P := hP
    show Split (decide (((rwget rows h.toNat).getD w.toNat pn0).k > 0)) _
    refine Split.mk (fun c2 => ?_) (fun c2 => ?_)
    · have c2' : P.k > 0 := by rw [← hP']; exact of_decide_eq_true c2
      rw [if_pos c2'] at hmk
      rw [hmk] at hL ⊢
      refine CallM.mk' [2000, 2001] (piece_detM ks kerf rows (P.k - 1) h (by omega) (by omega) 1 w L (fun _ => rfl) (Nat.le_refl _) hL) ⟨.cons (.obj (slL_fit ks kerf rows (.hdl rfl rfl))) (.cons (.bld (fun _ _ _ _ => SLe.refl _)) .nil), .cons (.ptr rfl) (.cons (.d (DLe.of_eq (by rw [hP', hw _ (by omega) (by omega)]))) (.cons (.d (DLe.refl _)) (.cons (.d (DLe.refl _)) .nil))), rfl, rfl, fun h => absurd rfl h⟩ ?_
      exact EndM.mk ⟨.n 0, .none, .cons (.obj (slL_end ks kerf rows (.hdl rfl rfl rfl))) (.cons (.bldN rfl (fun h => absurd h (by decide)) (fun i hi j hj => SLe.refl _)) (.nil _)), .inl rfl⟩
    have c2' : ¬ P.k > 0 := by rw [← hP']; exact of_decide_eq_false c2
    rw [if_neg c2'] at hmk
    obtain ⟨a0, a1⟩ := ha c2'
    show Split ((rwget rows h.toNat).getD w.toNat pn0).d _
    refine Split.mk (fun c3 => ?_) (fun c3 => ?_)
    · have c3' : P.d = true := by rw [← hP']; exact c3
      rw [if_pos c3'] at hmk a1
      rw [hmk] at hL ⊢
      have p1 : ∀ L : List Nd, L.length + (mkT ks kerf rows n P.a h L.length).length ≤ 100000000 → DetM Try.prog 89 [.ptr (.n 2002) 0, .ptr (.n 2005) 0, .ptr (.n 2004) 0] (mkS ks kerf rows 1 L ++ eM w h P) (.tup []) (mkS ks kerf rows 3 (L ++ mkT ks kerf rows n P.a h L.length) ++ eM w h P) .none := fun L hL => by
        have := ih P.a h L (by omega) hh1 (by omega) hh0 (by omega) (by omega) hL
        refine detM_of_awp TTok mixed Try.func89 rfl rfl [63 + 2000000] (Nat.le_of_ble_eq_true rfl) (Nat.le_of_ble_eq_true rfl) (sigM_of rfl) ?_
        refine CallM.mk' [2000, 2001] this ⟨.cons (.obj (slL_fit ks kerf rows (.hdl rfl rfl))) (.cons (.bld (fun _ _ _ _ => SLe.refl _)) .nil), .cons (.ptr rfl) (.cons (.d (DLe.refl _)) (.cons (.d (DLe.refl _)) .nil)), rfl, rfl, fun h => absurd rfl h⟩ ?_
        exact EndM.mk ⟨.n 0, .none, .cons (.obj (slL_end ks kerf rows (.hdl rfl rfl rfl))) (.cons (.bldN rfl (fun h => absurd h (by decide)) (fun i hi j hj => SLe.refl _)) (.cons (.obj (.cons (.ptr rfl) .nil)) (.cons (.box (LLe.refl _)) (.cons (.box (LLe.refl _)) (.cons (.box (LLe.refl _)) (.nil _)))))), .inl rfl⟩
      have p2 : ∀ L : List Nd, L.length + (mkT ks kerf rows n (w - P.a - kerf) h L.length).length ≤ 100000000 → DetM Try.prog 90 [.ptr (.n 2002) 0, .ptr (.n 2003) 0, .ptr (.n 2005) 0, .ptr (.n 2004) 0] (mkS ks kerf rows 1 L ++ eM w h P) (.tup []) (mkS ks kerf rows 3 (L ++ mkT ks kerf rows n (w - P.a - kerf) h L.length) ++ eM w h P) .none := fun L hL => by
        have := ih (w - P.a - kerf) h L (by omega) hh1 (by omega) hh0 (by omega) (by omega) hL
        have e : IntKind.i64.wrap (IntKind.i64.wrap (w - P.a) - kerf) = w - P.a - kerf := by rw [hw (w - P.a) (by omega) (by omega), hw _ (by omega) (by omega)]
        refine detM_of_awp TTok mixed Try.func90 rfl rfl [12 + 3000000, 63 + 2000000] (Nat.le_of_ble_eq_true rfl) (Nat.le_of_ble_eq_true rfl) (sigM_of rfl) ?_
        refine ⟨⟨.s (i64 kerf), rfl, rfl, rfl, ?_⟩⟩
        refine CallM.mk' [2000, 2001] this ⟨.cons (.obj (slL_fit ks kerf rows (.hdl rfl rfl))) (.cons (.bld (fun _ _ _ _ => SLe.refl _)) .nil), .cons (.ptr rfl) (.cons (.d (DLe.of_eq (by rw [← e]))) (.cons (.d (DLe.refl _)) .nil)), rfl, rfl, fun h => absurd rfl h⟩ ?_
        refine Need.mk (by kernel_rfl) ?_
        exact EndM.mk ⟨.n 0, .none, .cons (.obj (slL_end ks kerf rows (.hdl rfl rfl rfl))) (.cons (.bldN rfl (fun h => absurd h (by decide)) (fun i hi j hj => SLe.refl _)) (.cons (.obj (.cons (.ptr rfl) .nil)) (.cons (.box (LLe.refl _)) (.cons (.box (LLe.refl _)) (.cons (.box (LLe.refl _)) (.nil _)))))), .inl rfl⟩
      refine CallM.mk' [2000, 2001, 3, 4, 5, 6] (gcutMakeV_detM ks kerf rows w h P true P.a (mkT ks kerf rows n P.a h) (mkT ks kerf rows n (w - P.a - kerf) h) p1 p2 L hL)
        ⟨.cons (.obj (slL_fit ks kerf rows (.hdl rfl rfl))) (.cons (.bld (fun _ _ _ _ => SLe.refl _)) (.cons (.obj (.cons (.ptr rfl) .nil)) (.cons (.box (LLe.refl _)) (.cons (.box (LLe.refl _)) (.cons (.box (LLe.of_eq (by rw [← hP']))) .nil))))), .cons (.ptr rfl) (.cons (.d (DLe.refl _)) (.cons (.d (DLe.of_eq (by rw [← hP']))) (.cons (.clo (.cons (.ptr rfl) (.cons (.ptr rfl) (.cons (.ptr rfl) .nil)))) (.cons (.clo (.cons (.ptr rfl) (.cons (.ptr rfl) (.cons (.ptr rfl) (.cons (.ptr rfl) .nil))))) .nil)))), rfl, rfl, fun h => absurd rfl h⟩ ?_
      exact EndM.mk ⟨.n 0, .none, .cons (.obj (slL_end ks kerf rows (.hdl rfl rfl rfl))) (.cons (.bldN rfl (fun h => absurd h (by decide)) (fun i hi j hj => SLe.refl _)) (.nil _)), .inl rfl⟩
    · have c3' : P.d = false := by rw [← hP']; exact c3
      rw [if_neg (by rw [c3']; simp)] at hmk a1
      rw [hmk] at hL ⊢
      have p1 : ∀ L : List Nd, L.length + (mkT ks kerf rows n w P.a L.length).length ≤ 100000000 → DetM Try.prog 91 [.ptr (.n 2002) 0, .ptr (.n 2003) 0, .ptr (.n 2005) 0] (mkS ks kerf rows 1 L ++ eM w h P) (.tup []) (mkS ks kerf rows 3 (L ++ mkT ks kerf rows n w P.a L.length) ++ eM w h P) .none := fun L hL => by
        have := ih w P.a L hw1 (by omega) hw0 (by omega) (by omega) (by omega) hL
        refine detM_of_awp TTok mixed Try.func91 rfl rfl [63 + 2000000] (Nat.le_of_ble_eq_true rfl) (Nat.le_of_ble_eq_true rfl) (sigM_of rfl) ?_
        refine CallM.mk' [2000, 2001] this ⟨.cons (.obj (slL_fit ks kerf rows (.hdl rfl rfl))) (.cons (.bld (fun _ _ _ _ => SLe.refl _)) .nil), .cons (.ptr rfl) (.cons (.d (DLe.refl _)) (.cons (.d (DLe.refl _)) .nil)), rfl, rfl, fun h => absurd rfl h⟩ ?_
        exact EndM.mk ⟨.n 0, .none, .cons (.obj (slL_end ks kerf rows (.hdl rfl rfl rfl))) (.cons (.bldN rfl (fun h => absurd h (by decide)) (fun i hi j hj => SLe.refl _)) (.cons (.obj (.cons (.ptr rfl) .nil)) (.cons (.box (LLe.refl _)) (.cons (.box (LLe.refl _)) (.cons (.box (LLe.refl _)) (.nil _)))))), .inl rfl⟩
      have p2 : ∀ L : List Nd, L.length + (mkT ks kerf rows n w (h - P.a - kerf) L.length).length ≤ 100000000 → DetM Try.prog 92 [.ptr (.n 2002) 0, .ptr (.n 2003) 0, .ptr (.n 2004) 0, .ptr (.n 2005) 0] (mkS ks kerf rows 1 L ++ eM w h P) (.tup []) (mkS ks kerf rows 3 (L ++ mkT ks kerf rows n w (h - P.a - kerf) L.length) ++ eM w h P) .none := fun L hL => by
        have := ih w (h - P.a - kerf) L hw1 (by omega) hw0 (by omega) (by omega) (by omega) hL
        have e : IntKind.i64.wrap (IntKind.i64.wrap (h - P.a) - kerf) = h - P.a - kerf := by rw [hw (h - P.a) (by omega) (by omega), hw _ (by omega) (by omega)]
        refine detM_of_awp TTok mixed Try.func92 rfl rfl [13 + 3000000, 63 + 2000000] (Nat.le_of_ble_eq_true rfl) (Nat.le_of_ble_eq_true rfl) (sigM_of rfl) ?_
        refine ⟨⟨.s (i64 kerf), rfl, rfl, rfl, ?_⟩⟩
        refine CallM.mk' [2000, 2001] this ⟨.cons (.obj (slL_fit ks kerf rows (.hdl rfl rfl))) (.cons (.bld (fun _ _ _ _ => SLe.refl _)) .nil), .cons (.ptr rfl) (.cons (.d (DLe.refl _)) (.cons (.d (DLe.of_eq (by rw [← e]))) .nil)), rfl, rfl, fun h => absurd rfl h⟩ ?_
        refine Need.mk (by kernel_rfl) ?_
        exact EndM.mk ⟨.n 0, .none, .cons (.obj (slL_end ks kerf rows (.hdl rfl rfl rfl))) (.cons (.bldN rfl (fun h => absurd h (by decide)) (fun i hi j hj => SLe.refl _)) (.cons (.obj (.cons (.ptr rfl) .nil)) (.cons (.box (LLe.refl _)) (.cons (.box (LLe.refl _)) (.cons (.box (LLe.refl _)) (.nil _)))))), .inl rfl⟩
      refine CallM.mk' [2000, 2001, 3, 4, 5, 6] (gcutMakeH_detM ks kerf rows w h P false P.a (mkT ks kerf rows n w P.a) (mkT ks kerf rows n w (h - P.a - kerf)) p1 p2 L hL)
        ⟨.cons (.obj (slL_fit ks kerf rows (.hdl rfl rfl))) (.cons (.bld (fun _ _ _ _ => SLe.refl _)) (.cons (.obj (.cons (.ptr rfl) .nil)) (.cons (.box (LLe.refl _)) (.cons (.box (LLe.refl _)) (.cons (.box (LLe.of_eq (by rw [← hP']))) .nil))))), .cons (.ptr rfl) (.cons (.d (DLe.refl _)) (.cons (.d (DLe.of_eq (by rw [← hP']))) (.cons (.clo (.cons (.ptr rfl) (.cons (.ptr rfl) (.cons (.ptr rfl) .nil)))) (.cons (.clo (.cons (.ptr rfl) (.cons (.ptr rfl) (.cons (.ptr rfl) (.cons (.ptr rfl) .nil))))) .nil)))), rfl, rfl, fun h => absurd rfl h⟩ ?_
      exact EndM.mk ⟨.n 0, .none, .cons (.obj (slL_end ks kerf rows (.hdl rfl rfl rfl))) (.cons (.bldN rfl (fun h => absurd h (by decide)) (fun i hi j hj => SLe.refl _)) (.nil _)), .inl rfl⟩
end
end St
end Go.Vm
