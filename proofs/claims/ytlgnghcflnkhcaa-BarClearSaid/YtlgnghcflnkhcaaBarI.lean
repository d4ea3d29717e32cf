/-
  Layer 26: the plain law of a row, and the law BarApart.
-/
import Derived.Test.YtlgnghcflnkhcaaBarH
namespace Go.Vm
open Go Go.RowKit Go.Proofs

theorem wid {n : Int} (h1 : -9223372036854775808 ≤ n) (h2 : n < 9223372036854775808) : IntKind.i64.wrap n = n := w64_id ⟨h1, h2⟩
theorem wid' {n : Int} (h1 : -9223372036854775808 ≤ n) (h2 : n < 9223372036854775808) : w64 n = n := w64_id ⟨h1, h2⟩

structure VP (p : BP) : Prop where
  l1 : 1 ≤ p.len
  l2 : p.len ≤ 2000
  a1 : -200 ≤ p.left
  a2 : p.left ≤ 200
  b1 : -200 ≤ p.right
  b2 : p.right ≤ 200
  t1 : 1 ≤ p.len + p.left + p.right
  t2 : p.len + p.left + p.right ≤ 2000
  tt : topI p = p.len + p.left + p.right
theorem VP.of {p : BP} (h : validP p = true) : VP p := by
  simp only [validP, withinI, Bool.and_eq_true, decide_eq_true_eq] at h
  obtain ⟨⟨⟨⟨h1, h2⟩, h3, h4⟩, h5, h6⟩, h7, h8⟩ := h
  have e : topI p = p.len + p.left + p.right := by
    unfold topI
    simp (disch := omega) only [wid']
  rw [e] at h7 h8
  exact ⟨by omega, by omega, by omega, by omega, by omega, by omega, by omega, by omega, e⟩
theorem VP.valid {p : BP} (h : VP p) : validP p = true := by
  obtain ⟨h1, h2, h3, h4, h5, h6, h7, h8, h9⟩ := h
  simp only [validP, withinI, Bool.and_eq_true, decide_eq_true_eq, h9]
  omega
/-- A valid row. -/
structure VR (n : Nat) (R : Nat → BP) (kerf : Int) : Prop where
  n40 : n ≤ 40
  k0 : 0 ≤ kerf
  k1 : kerf ≤ 100
  vp : ∀ i, i < n → VP (R i)
theorem VR.of {n : Nat} {R : Nat → BP} {kerf : Int} (h : smallB n R kerf = true) : VR n R kerf := by
  simp only [smallB, Bool.and_eq_true, decide_eq_true_eq] at h
  refine ⟨by omega, by omega, by omega, fun i hi => VP.of ?_⟩
  have := okFrom_at h.1.1.1 i hi
  rwa [Nat.zero_add] at this

theorem maxI_0 (y : Int) : 0 ≤ maxI 0 y ∧ y ≤ maxI 0 y ∧ (maxI 0 y = 0 ∨ maxI 0 y = y) := by
  unfold maxI
  split <;> omega
theorem place_b {n : Nat} {R : Nat → BP} {kerf : Int} (h : VR n R kerf) : ∀ i, i < n → 0 ≤ placeI R kerf i ∧ placeI R kerf i ≤ 200 + 2500 * i
  | 0, hi => by
    obtain ⟨h1, h2, h3, h4, h5, h6, h7, h8, h9⟩ := h.vp 0 hi
    simp only [placeI]
    have := maxI_0 (R 0).left
    omega
  | i + 1, hi => by
    have ih := place_b h i (by omega)
    obtain ⟨h1, h2, h3, h4, h5, h6, h7, h8, h9⟩ := h.vp i (by omega)
    obtain ⟨g1, g2, g3, g4, g5, g6, g7, g8, g9⟩ := h.vp (i + 1) hi
    obtain ⟨k1, k2, k3, _⟩ := h
    simp only [placeI, gapI]
    have hm := maxI_0 ((R i).right + (R (i + 1)).left)
    simp (disch := omega) only [wid']
    omega
theorem place_s {n : Nat} {R : Nat → BP} {kerf : Int} (h : VR n R kerf) (i : Nat) (hi : i + 1 < n) : placeI R kerf (i + 1) = placeI R kerf i + (R i).len + kerf + maxI 0 ((R i).right + (R (i + 1)).left) := by
  have ih := place_b h i (by omega)
  obtain ⟨h1, h2, h3, h4, h5, h6, h7, h8, h9⟩ := h.vp i (by omega)
  obtain ⟨g1, g2, g3, g4, g5, g6, g7, g8, g9⟩ := h.vp (i + 1) hi
  obtain ⟨k1, k2, k3, _⟩ := h
  simp only [placeI, gapI]
  have hm := maxI_0 ((R i).right + (R (i + 1)).left)
  simp (disch := omega) only [wid']
  omega
theorem length_e {m : Nat} {R : Nat → BP} {kerf : Int} (h : VR (m + 1) R kerf) : lengthI (m + 1) R kerf = placeI R kerf m + (R m).len + maxI 0 (R m).right := by
  have ih := place_b h m (by omega)
  obtain ⟨h1, h2, h3, h4, h5, h6, h7, h8, h9⟩ := h.vp m (by omega)
  obtain ⟨k1, k2, k3, _⟩ := h
  have hm := maxI_0 (R m).right
  simp only [lengthI, extHi, if_neg (Nat.succ_ne_zero m), Nat.add_sub_cancel]
  simp (disch := omega) only [wid']
/-- Both ends of the parts go up. -/
theorem ends_up {n : Nat} {R : Nat → BP} {kerf : Int} (h : VR n R kerf) (i : Nat) : ∀ d, i + d < n → placeI R kerf i + (R i).len ≤ placeI R kerf (i + d) + (R (i + d)).len ∧
    placeI R kerf i + (R i).len + (R i).right ≤ placeI R kerf (i + d) + (R (i + d)).len + (R (i + d)).right
  | 0, _ => ⟨Int.le_refl _, Int.le_refl _⟩
  | d + 1, hd => by
    have ih := ends_up h i d (by omega)
    have e := place_s h (i + d) (by omega)
    rw [show i + (d + 1) = i + d + 1 by omega]
    obtain ⟨h1, h2, h3, h4, h5, h6, h7, h8, h9⟩ := h.vp (i + d) (by omega)
    obtain ⟨g1, g2, g3, g4, g5, g6, g7, g8, g9⟩ := h.vp (i + d + 1) (by omega)
    obtain ⟨k1, k2, k3, _⟩ := h
    have hm := maxI_0 ((R (i + d)).right + (R (i + d + 1)).left)
    omega
theorem left_0 {n : Nat} {R : Nat → BP} {kerf : Int} (h : VR n R kerf) : ∀ i, i < n → 0 ≤ placeI R kerf i - (R i).left
  | 0, hi => by
    have := maxI_0 (R 0).left
    simp only [placeI]
    omega
  | i + 1, hi => by
    have e := place_s h i hi
    have ih := left_0 h i (by omega)
    obtain ⟨h1, h2, h3, h4, h5, h6, h7, h8, h9⟩ := h.vp i (by omega)
    obtain ⟨k1, k2, k3, _⟩ := h
    have hm := maxI_0 ((R i).right + (R (i + 1)).left)
    omega
theorem in_length {n : Nat} {R : Nat → BP} {kerf : Int} (h : VR n R kerf) (i : Nat) (hi : i < n) : placeI R kerf i + (R i).len ≤ lengthI n R kerf ∧ placeI R kerf i + (R i).len + (R i).right ≤ lengthI n R kerf ∧ 0 ≤ lengthI n R kerf ∧ lengthI n R kerf ≤ 110000 := by
  obtain ⟨m, rfl⟩ : ∃ m, n = m + 1 := ⟨n - 1, by omega⟩
  have e := length_e h
  have hb := place_b h m (by omega)
  have hm := maxI_0 (R m).right
  have hu := ends_up h i (m - i) (by omega)
  rw [show i + (m - i) = m by omega] at hu
  obtain ⟨h1, h2, h3, h4, h5, h6, h7, h8, h9⟩ := h.vp m (by omega)
  obtain ⟨k1, k2, k3, _⟩ := h
  omega
theorem length_b {n : Nat} {R : Nat → BP} {kerf : Int} (h : VR n R kerf) : 0 ≤ lengthI n R kerf ∧ lengthI n R kerf ≤ 110000 := by
  cases n with
  | zero => simp [lengthI]
  | succ m => exact (in_length h m (by omega)).2.2
/-- What the parts cover, doubled. -/
def coverP (R : Nat → BP) : Nat → Int
  | 0 => 0
  | k + 1 => coverP R k + ((R k).len + ((R k).len + (R k).left + (R k).right))
theorem cover_b {n : Nat} {R : Nat → BP} {kerf : Int} (h : VR n R kerf) : ∀ k, k ≤ n → 0 ≤ coverP R k ∧ coverP R k ≤ 4000 * k
  | 0, _ => by simp [coverP]
  | k + 1, hk => by
    have ih := cover_b h k (by omega)
    obtain ⟨h1, h2, h3, h4, h5, h6, h7, h8, h9⟩ := h.vp k (by omega)
    simp only [coverP]
    omega
theorem cover_le {n : Nat} {R : Nat → BP} {kerf : Int} (h : VR n R kerf) : ∀ k, k < n → coverP R (k + 1) ≤ 2 * placeI R kerf k + 2 * (R k).len + (R k).right
  | 0, hk => by
    have := maxI_0 (R 0).left
    simp only [coverP, placeI]
    omega
  | k + 1, hk => by
    have ih := cover_le h k (by omega)
    have e := place_s h k hk
    obtain ⟨k1, k2, k3, _⟩ := h
    have hm := maxI_0 ((R k).right + (R (k + 1)).left)
    have e2 : coverP R (k + 1 + 1) = coverP R (k + 1) + ((R (k + 1)).len + ((R (k + 1)).len + (R (k + 1)).left + (R (k + 1)).right)) := rfl
    omega
theorem scrap_e {n : Nat} {R : Nat → BP} {kerf : Int} (h : VR n R kerf) : ∀ k, k ≤ n → scrapI n R kerf k = 2 * lengthI n R kerf - coverP R k
  | 0, _ => by
    have := length_b h
    simp only [scrapI, coverP]
    simp (disch := omega) only [wid']
    omega
  | k + 1, hk => by
    have hl := length_b h
    have hc := cover_b h k (by omega)
    have e := scrap_e h k (by omega)
    have hn := h.n40
    obtain ⟨h1, h2, h3, h4, h5, h6, h7, h8, h9⟩ := h.vp k (by omega)
    simp only [scrapI, coverP, e, h9]
    simp (disch := omega) only [wid']
    omega
theorem scrap_0 {n : Nat} {R : Nat → BP} {kerf : Int} (h : VR n R kerf) : 0 ≤ scrapI n R kerf n := by
  rw [scrap_e h n (Nat.le_refl _)]
  cases n with
  | zero => simp [lengthI, coverP]
  | succ m =>
    have hc := cover_le h m (by omega)
    have hi := in_length h m (by omega)
    omega

abbrev intsErr (n : Nat) (X : Nat → Int) (e : Int) : TV := .tup [.one (intS (if e = 0 then n else 0) X), .one (i64 e)]
theorem places2_det (n : Nat) (R : Nat → BP) (kerf : Int) (hn : n ≤ maxLen) : Det Try.prog 25 [.one (rowS n R), .one (i64 kerf)] (intsErr n (placeI R kerf) (errI n R kerf)) := by
  refine det_of_awp TTok mixed Try.func25 rfl rfl [] (Nat.le_of_ble_eq_true rfl) ?_
  refine CallW.int (check_det n R kerf hn) (fun e he => ?_)
  rw [← he]
  refine Split.mk (fun h => ?_) (fun h => ?_)
  · have : e ≠ 0 := by simpa using h
    rw [intsErr, if_neg this]
    exact Fin.tup (.cons (DLe.one (SLe.nil _ _)) (.cons (DLe.refl _) .nil))
  · have h0 : e = 0 := by simpa using h
    subst h0
    refine CallW.mk' (places_det n R kerf (Nat.le_trans (errI_le he.symm) (by decide))) ?_
    exact Fin.rfl'
theorem places0_det {n : Nat} {R : Nat → BP} {kerf : Int} (hn : n ≤ maxLen) (h : errI n R kerf = 0) : Det Try.prog 25 [.one (rowS n R), .one (i64 kerf)] (.tup [.one (intS n (placeI R kerf)), .one (i64 0)]) := (places2_det n R kerf hn).eq (by rw [h]; rfl)

theorem lapart_det (n : Nat) (R : Nat → BP) (kerf : Int) (hn : n ≤ maxLen) : Det Try.prog 5 [.one (rowS n R), .one (i64 kerf)] (tbool true) := by
  refine det_of_awp TTok mixed Try.func5 rfl rfl [] (Nat.le_of_ble_eq_true rfl) ?_
  refine CallW.mk' awake_det ?_
  repeat refine Split.f ?_
  refine CallW.bool (small_det n R kerf hn) (fun b hb => ?_)
  repeat refine Split.f ?_
  refine Split.mk (fun h => ?_) (fun h => ?_)
  · repeat' first | refine CallW.mk' awake_det ?_ | refine Fin.bool ?_
    all_goals rfl
  have hs : smallB n R kerf = true := by rw [← hb]; simpa using h
  have V := VR.of hs
  have he : errI n R kerf = 0 := small_err hs V.k0 V.k1
  have hs0 := scrap_0 V
  refine CallW.mk' (places0_det hn he) ?_
  refine CallW.tup0 (length_det n R kerf hn) he (fun L hL => ?_)
  refine CallW.tup0 (scrap_det n R kerf hn) he (fun s hS => ?_)
  rw [← hS] at hs0
  repeat' first | refine Split.f ?_ | refine Split.isF (by first | (simp; omega) | simp) ?_
  refine Loop.by (α := Nat) (fun k => [(0, .d (.one (rowS n R))), (1, tint kerf), (5, .d (.one (intS n (placeI R kerf)))), (7, tint L), (64, .d (.one (rowS n R))), (65, tint n), (66, tint k)]) (fun _ => []) (fun k => k ≤ n) (fun k => n - k)
    (Adj.at 0 (Nat.zero_le _) .nil (.cons .same (.cons .same (.cons .same (.cons .same (.cons .same (.cons .same (.cons .same .nil)))))))) (fun k hk => ?_)
  refine Split.mk (fun h3 => ?_) (fun h3 => ?_)
  · have hlt : k < n := by have := of_decide_eq_true h3; omega
    have hn40 := V.n40
    have hw64 : IntKind.i64.wrap ((k : Int) + 1) = ((k + 1 : Nat) : Int) := (w64_id ⟨by omega, by omega⟩).trans (by omega)
    obtain ⟨h1, h2, h3, h4, h5, h6, h7, h8, h9⟩ := V.vp k hlt
    have hl0 := left_0 V k hlt
    have hin := in_length V k hlt
    have hpb := place_b V k hlt
    rw [← hL] at hin
    cases k with
    | zero =>
      have hp0 : placeI R kerf 0 = maxI 0 (R 0).left := rfl
      have hm0 := maxI_0 (R 0).left
      repeat' first | refine Split.t ?_ | refine Split.f ?_ | refine Need.mk (by kernel_rfl) ?_ | refine Need.mk (by omega) ?_ | refine Split.isF (by simp (disch := omega) only [wid, Int.toNat_natCast, Int.toNat_zero, bne_eq_false_iff_eq, decide_eq_false_iff_not]; omega) ?_
      exact Adj.back (x := 0) 1 hlt (by omega) .nil (.cons .same (.cons .same (.cons .same (.cons .same (.cons .same (.cons .same (.cons (SlotLe.int hw64) .nil)))))))
    | succ m =>
      have hw : IntKind.i64.wrap (((m + 1 : Nat) : Int) - 1) = (m : Int) := (w64_id ⟨by omega, by omega⟩).trans (by omega)
      have hps := place_s V m hlt
      have hpm := place_b V m (by omega)
      obtain ⟨g1, g2, g3, g4, g5, g6, g7, g8, g9⟩ := V.vp m (by omega)
      have hm0 := maxI_0 ((R m).right + (R (m + 1)).left)
      have hk0 := V.k0
      have hk1 := V.k1
      repeat' first | refine Split.t ?_ | refine Split.f ?_ | refine Need.mk (by kernel_rfl) ?_ | refine Need.mk (by omega) ?_ | refine Need.mk (by rw [hw]; omega) ?_ | refine Split.isF (by first | (simp; done) | (simp; omega)) ?_ | refine Split.isT (by first | (simp; done) | (simp; omega)) ?_ | refine Split.isF (by (try simp only [hw, Int.toNat_natCast]); simp (disch := omega) only [wid, bne_eq_false_iff_eq, decide_eq_false_iff_not]; omega) ?_
      exact Adj.back (x := m + 1) (m + 2) hlt (by omega) .nil (.cons .same (.cons .same (.cons .same (.cons .same (.cons .same (.cons .same (.cons (SlotLe.int hw64) .nil)))))))
  · exact Fin.bool rfl
theorem lapart_all : ∀ dvs, TypL Try.prog Try.f5.params.toList dvs → Det Try.prog 5 dvs (tbool true) := by
  intro dvs h
  obtain ⟨v0, r0, rfl, h0, q0⟩ := TypL.inv_cons (t := 22) (ts := [3]) h
  obtain ⟨v1, r1, rfl, h1, q1⟩ := TypL.inv_cons q0
  obtain rfl := TypL.inv_nil q1
  obtain ⟨n, R, hn, hl⟩ := row_of h0
  obtain ⟨kerf, rfl, _⟩ := TypD.i64 (by kernel_rfl) rfl h1
  exact Det.le (.cons hl (.cons (DLe.refl _) .nil)) (lapart_det n R kerf hn)
end Go.Vm
