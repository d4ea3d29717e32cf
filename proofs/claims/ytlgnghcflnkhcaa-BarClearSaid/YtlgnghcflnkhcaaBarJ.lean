/-
  Layer 26: a row that is turned around, or mirrored, and the law BarTurns.
-/
import Derived.Test.YtlgnghcflnkhcaaBarI
namespace Go.Vm
open Go Go.RowKit Go.Proofs

def sumI (f : Nat → Int) : Nat → Int
  | 0 => 0
  | n + 1 => sumI f n + f n
theorem sumI_congr {f g : Nat → Int} : ∀ {n : Nat}, (∀ i, i < n → f i = g i) → sumI f n = sumI g n
  | 0, _ => rfl
  | n + 1, h => by
    simp only [sumI]
    rw [sumI_congr (n := n) (fun i hi => h i (by omega)), h n (by omega)]
theorem sumI_add (f g : Nat → Int) : ∀ n : Nat, sumI (fun i => f i + g i) n = sumI f n + sumI g n
  | 0 => rfl
  | n + 1 => by
    simp only [sumI, sumI_add f g n]
    omega
theorem sumI_head (f : Nat → Int) : ∀ n : Nat, sumI f (n + 1) = f 0 + sumI (fun i => f (i + 1)) n
  | 0 => by simp [sumI]
  | n + 1 => by
    rw [sumI, sumI_head f n]
    simp only [sumI]
    omega
theorem sumI_rev (f : Nat → Int) : ∀ n : Nat, sumI (fun i => f (n - 1 - i)) n = sumI f n
  | 0 => rfl
  | n + 1 => by
    rw [sumI_head, sumI, ← sumI_rev f n]
    have : sumI (fun i => f (n + 1 - 1 - (i + 1))) n = sumI (fun i => f (n - 1 - i)) n := sumI_congr fun i hi => by congr 1; omega
    rw [this, show n + 1 - 1 - 0 = n by omega]
    omega

theorem turned_VP {p : BP} (h : VP p) : VP (turnedP p) ∧ (turnedP p).len = p.len + p.left + p.right ∧ (turnedP p).left = -p.right ∧ (turnedP p).right = -p.left := by
  obtain ⟨h1, h2, h3, h4, h5, h6, h7, h8, h9⟩ := h
  have e1 : (turnedP p).len = p.len + p.left + p.right := h9
  have e2 : (turnedP p).left = -p.right := by
    show ng p.right = _
    simp only [ng]
    simp (disch := omega) only [wid']
    omega
  have e3 : (turnedP p).right = -p.left := by
    show ng p.left = _
    simp only [ng]
    simp (disch := omega) only [wid']
    omega
  refine ⟨⟨by omega, by omega, by omega, by omega, by omega, by omega, by omega, by omega, ?_⟩, e1, e2, e3⟩
  unfold topI
  rw [e1, e2, e3]
  simp (disch := omega) only [wid']
theorem turned_two {p : BP} (h : VP p) : (turnedP (turnedP p)).len = p.len ∧ (turnedP (turnedP p)).left = p.left ∧ (turnedP (turnedP p)).right = p.right := by
  obtain ⟨h1, h2, h3, h4⟩ := turned_VP h
  obtain ⟨_, g2, g3, g4⟩ := turned_VP h1
  omega
theorem flipped_VP {p : BP} (h : VP p) : VP (flippedP p) := by
  obtain ⟨h1, h2, h3, h4, h5, h6, h7, h8, h9⟩ := h
  refine ⟨h1, h2, h5, h6, h3, h4, ?_, ?_, ?_⟩
  · show 1 ≤ p.len + p.right + p.left; omega
  · show p.len + p.right + p.left ≤ 2000; omega
  · show w64 (w64 (p.len + p.right) + p.left) = p.len + p.right + p.left
    simp (disch := omega) only [wid']

theorem place_sum {n : Nat} {R : Nat → BP} {kerf : Int} (h : VR n R kerf) : ∀ i, i < n → placeI R kerf i = maxI 0 (R 0).left + sumI (fun j => (R j).len) i + sumI (fun j => kerf + maxI 0 ((R j).right + (R (j + 1)).left)) i
  | 0, _ => by simp [placeI, sumI]
  | i + 1, hi => by
    rw [place_s h i hi, place_sum h i (by omega)]
    simp only [sumI]
    omega
theorem length_sum {m : Nat} {R : Nat → BP} {kerf : Int} (h : VR (m + 1) R kerf) : lengthI (m + 1) R kerf = maxI 0 (R 0).left + sumI (fun j => (R j).len) (m + 1) + sumI (fun j => kerf + maxI 0 ((R j).right + (R (j + 1)).left)) m + maxI 0 (R m).right := by
  rw [length_e h, place_sum h m (by omega)]
  simp only [sumI]
  omega
theorem cover_sum (R : Nat → BP) : ∀ k, coverP R k = sumI (fun j => (R j).len + ((R j).len + (R j).left + (R j).right)) k
  | 0 => rfl
  | k + 1 => by simp only [coverP, sumI, cover_sum R k]
theorem cut_sum {n : Nat} {R : Nat → BP} {kerf : Int} (h : VR n R kerf) : ∀ k, k < n → cutI R (k + 1) = 2 + sumI (fun j => if (R j).right = -(R (j + 1)).left then 1 else 2) k ∧ cutI R (k + 1) ≤ 2 + 2 * k ∧ 0 ≤ cutI R (k + 1)
  | 0, _ => by simp [cutI, sumI]
  | k + 1, hk => by
    obtain ⟨ih, h1, h2⟩ := cut_sum h k (by omega)
    have hn := h.n40
    obtain ⟨g1, g2, g3, g4, g5, g6, g7, g8, g9⟩ := h.vp (k + 1) hk
    have e : cutI R (k + 1 + 1) = if (R k).right = ng (R (k + 1)).left then w64 (cutI R (k + 1) + 1) else w64 (w64 (cutI R (k + 1) + 1) + 1) := by
      rw [cutI, if_neg (by omega), Nat.add_sub_cancel]
    have en : ng (R (k + 1)).left = -(R (k + 1)).left := by
      simp only [ng]
      simp (disch := omega) only [wid']
      omega
    rw [e, en]
    simp (disch := omega) only [wid', sumI]
    split <;> omega

theorem max_neg (x : Int) : maxI 0 (-x) = maxI 0 x - x := by
  unfold maxI
  split <;> split <;> omega

/-- A row turned around. -/
def turnR (n : Nat) (R : Nat → BP) (i : Nat) : BP := turnedP (R (n - 1 - i))
def flipR (n : Nat) (R : Nat → BP) (i : Nat) : BP := flippedP (R (n - 1 - i))
theorem turnR_VR {n : Nat} {R : Nat → BP} {kerf : Int} (h : VR n R kerf) : VR n (turnR n R) kerf := ⟨h.n40, h.k0, h.k1, fun i hi => (turned_VP (h.vp (n - 1 - i) (by omega))).1⟩
theorem flipR_VR {n : Nat} {R : Nat → BP} {kerf : Int} (h : VR n R kerf) : VR n (flipR n R) kerf := ⟨h.n40, h.k0, h.k1, fun i hi => flipped_VP (h.vp (n - 1 - i) (by omega))⟩
theorem VR.err {n : Nat} {R : Nat → BP} {kerf : Int} (h : VR n R kerf) : errI n R kerf = 0 := by
  have hb : badB R n = false := by
    simp only [badB, anyB, decide_eq_false_iff_not]
    intro hh
    obtain ⟨k, hk, hv⟩ := (firstAt_nonneg _ n 0).1 hh
    have := (h.vp k hk).valid
    rw [Nat.zero_add] at hv
    rw [this] at hv
    cases hv
  have h1 := h.k0
  have h2 := h.k1
  have h3 := h.n40
  unfold errI
  rw [if_neg (by rw [hb]; simp; omega), if_neg (by omega)]
theorem VR.kerf0 {n : Nat} {R : Nat → BP} {kerf : Int} (h : VR n R kerf) : VR n R 0 := ⟨h.n40, by omega, by omega, h.vp⟩

/-- Two rows with the same length, cuts and scrap. -/
structure Alike (n : Nat) (R T : Nat → BP) (kerf : Int) : Prop where
  len : lengthI n R kerf = lengthI n T kerf
  cut : cutI R n = cutI T n
  scrap : scrapI n R kerf n = scrapI n T kerf n

theorem turn_alike {n : Nat} {R : Nat → BP} {kerf : Int} (h : VR n R kerf) : Alike n R (turnR n R) kerf := by
  cases n with
  | zero => exact ⟨rfl, rfl, rfl⟩
  | succ m =>
    have hT := turnR_VR h
    have hv : ∀ i, i < m + 1 → (turnR (m + 1) R i).len = (R (m - i)).len + (R (m - i)).left + (R (m - i)).right ∧ (turnR (m + 1) R i).left = -(R (m - i)).right ∧ (turnR (m + 1) R i).right = -(R (m - i)).left := fun i hi => by
      have := turned_VP (h.vp (m - i) (by omega))
      exact ⟨this.2.1, this.2.2.1, this.2.2.2⟩
    have e1 : sumI (fun j => (turnR (m + 1) R j).len) (m + 1) = sumI (fun j => (R j).len) (m + 1) + (sumI (fun j => (R j).left) (m + 1) + sumI (fun j => (R j).right) (m + 1)) := by
      rw [← sumI_add, ← sumI_add, ← sumI_rev (fun j => (R j).len + ((R j).left + (R j).right))]
      refine sumI_congr fun i hi => ?_
      rw [(hv i hi).1, show m + 1 - 1 - i = m - i by omega]
      omega
    have e2 : sumI (fun j => kerf + maxI 0 ((turnR (m + 1) R j).right + (turnR (m + 1) R (j + 1)).left)) m + (sumI (fun j => (R j).right) m + sumI (fun j => (R (j + 1)).left) m) = sumI (fun j => kerf + maxI 0 ((R j).right + (R (j + 1)).left)) m := by
      rw [← sumI_add]
      rw [← sumI_rev (fun i => (R i).right + (R (i + 1)).left), ← sumI_rev (fun j => kerf + maxI 0 ((R j).right + (R (j + 1)).left)), ← sumI_add]
      refine sumI_congr fun i hi => ?_
      have a := hv i (by omega)
      have b := hv (i + 1) (by omega)
      rw [a.2.2, b.2.1, show m - 1 - i + 1 = m - i by omega, show m - (i + 1) = m - 1 - i by omega]
      have := max_neg ((R (m - 1 - i)).right + (R (m - i)).left)
      rw [show -(R (m - i)).left + -(R (m - 1 - i)).right = -((R (m - 1 - i)).right + (R (m - i)).left) by omega, this]
      omega
    have el : lengthI (m + 1) R kerf = lengthI (m + 1) (turnR (m + 1) R) kerf := by
      rw [length_sum h, length_sum hT, e1, (hv 0 (by omega)).2.1, (hv m (by omega)).2.2, max_neg, max_neg, Nat.sub_self, Nat.sub_zero]
      have h1 : sumI (fun j => (R j).left) (m + 1) = (R 0).left + sumI (fun j => (R (j + 1)).left) m := sumI_head (fun j => (R j).left) m
      have h2 : sumI (fun j => (R j).right) (m + 1) = sumI (fun j => (R j).right) m + (R m).right := rfl
      omega
    refine ⟨el, ?_, ?_⟩
    · rw [(cut_sum h m (by omega)).1, (cut_sum hT m (by omega)).1]
      congr 1
      rw [← sumI_rev (fun j => if (R j).right = -(R (j + 1)).left then 1 else 2)]
      refine sumI_congr fun i hi => ?_
      have a := hv i (by omega)
      have b := hv (i + 1) (by omega)
      rw [a.2.2, b.2.1, show m - 1 - i + 1 = m - i by omega, show m - (i + 1) = m - 1 - i by omega]
      by_cases hc : (R (m - 1 - i)).right = -(R (m - i)).left
      · rw [if_pos hc, if_pos (by omega)]
      · rw [if_neg hc, if_neg (by omega)]
    · rw [scrap_e h _ (Nat.le_refl _), scrap_e hT _ (Nat.le_refl _), el, cover_sum, cover_sum]
      congr 1
      rw [← sumI_rev (fun j => (R j).len + ((R j).len + (R j).left + (R j).right))]
      refine sumI_congr fun i hi => ?_
      have a := hv i (by omega)
      rw [a.1, a.2.1, a.2.2, show m + 1 - 1 - i = m - i by omega]
      omega
theorem flip_alike {n : Nat} {R : Nat → BP} {kerf : Int} (h : VR n R kerf) : Alike n R (flipR n R) kerf := by
  cases n with
  | zero => exact ⟨rfl, rfl, rfl⟩
  | succ m =>
    have hT := flipR_VR h
    have hv : ∀ i, (flipR (m + 1) R i).len = (R (m - i)).len ∧ (flipR (m + 1) R i).left = (R (m - i)).right ∧ (flipR (m + 1) R i).right = (R (m - i)).left := fun i => ⟨rfl, rfl, rfl⟩
    have el : lengthI (m + 1) R kerf = lengthI (m + 1) (flipR (m + 1) R) kerf := by
      rw [length_sum h, length_sum hT, (hv 0).2.1, (hv m).2.2, Nat.sub_self, Nat.sub_zero]
      have e1 : sumI (fun j => (flipR (m + 1) R j).len) (m + 1) = sumI (fun j => (R j).len) (m + 1) := by
        rw [← sumI_rev (fun j => (R j).len)]
        rfl
      have e2 : sumI (fun j => kerf + maxI 0 ((flipR (m + 1) R j).right + (flipR (m + 1) R (j + 1)).left)) m = sumI (fun j => kerf + maxI 0 ((R j).right + (R (j + 1)).left)) m := by
        rw [← sumI_rev (fun j => kerf + maxI 0 ((R j).right + (R (j + 1)).left))]
        refine sumI_congr fun i hi => ?_
        rw [(hv i).2.2, (hv (i + 1)).2.1, show m - 1 - i + 1 = m - i by omega, show m - (i + 1) = m - 1 - i by omega, Int.add_comm (R (m - i)).left]
      omega
    refine ⟨el, ?_, ?_⟩
    · rw [(cut_sum h m (by omega)).1, (cut_sum hT m (by omega)).1]
      congr 1
      rw [← sumI_rev (fun j => if (R j).right = -(R (j + 1)).left then 1 else 2)]
      refine sumI_congr fun i hi => ?_
      rw [(hv i).2.2, (hv (i + 1)).2.1, show m - 1 - i + 1 = m - i by omega, show m - (i + 1) = m - 1 - i by omega]
      by_cases hc : (R (m - 1 - i)).right = -(R (m - i)).left
      · rw [if_pos hc, if_pos (by omega)]
      · rw [if_neg hc, if_neg (by omega)]
    · rw [scrap_e h _ (Nat.le_refl _), scrap_e hT _ (Nat.le_refl _), el, cover_sum, cover_sum]
      congr 1
      rw [← sumI_rev (fun j => (R j).len + ((R j).len + (R j).left + (R j).right))]
      refine sumI_congr fun i hi => ?_
      rw [(hv i).1, (hv i).2.1, (hv i).2.2, show m + 1 - 1 - i = m - i by omega]
      omega

theorem cutsT_eq {n : Nat} {R : Nat → BP} (h : VR n R 0) : cutsT n R = intErr (if n = 0 then 0 else cutI R n) 0 := by
  unfold cutsT
  rw [h.err]
theorem alike_det (n : Nat) (R T : Nat → BP) (kerf : Int) (hn : n ≤ maxLen) (hR : VR n R kerf) (hT : VR n T kerf) (h : Alike n R T kerf) : Det Try.prog 26 [.one (rowS n R), .one (rowS n T), .one (i64 kerf)] (tbool true) := by
  refine det_of_awp TTok mixed Try.func26 rfl rfl [] (Nat.le_of_ble_eq_true rfl) ?_
  refine CallW.tup0 (length_det n R kerf hn) hR.err (fun a ha => ?_)
  refine CallW.tup0 (length_det n T kerf hn) hT.err (fun b hb => ?_)
  refine CallW.tup0 (cuts_det n R hn) hR.kerf0.err (fun c hc => ?_)
  refine CallW.tup0 (cuts_det n T hn) hT.kerf0.err (fun d hd => ?_)
  refine CallW.tup0 (scrap_det n R kerf hn) hR.err (fun s hs => ?_)
  refine CallW.tup0 (scrap_det n T kerf hn) hT.err (fun t ht => ?_)
  obtain rfl : a = b := by rw [ha, hb, h.len]
  obtain rfl : c = d := by rw [hc, hd, h.cut]
  obtain rfl : s = t := by rw [hs, ht, h.scrap]
  repeat' first | refine Split.t ?_ | refine Split.isT (beq_self_eq_true _) ?_ | refine Fin.bool ?_
  all_goals exact beq_self_eq_true _

theorem lturns_det (n : Nat) (R : Nat → BP) (kerf : Int) (hn : n ≤ maxLen) : Det Try.prog 6 [.one (rowS n R), .one (i64 kerf)] (tbool true) := by
  refine det_of_awp TTok mixed Try.func6 rfl rfl [] (Nat.le_of_ble_eq_true rfl) ?_
  refine CallW.mk' awake_det ?_
  repeat refine Split.f ?_
  refine CallW.bool (small_det n R kerf hn) (fun b hb => ?_)
  repeat refine Split.f ?_
  refine Split.mk (fun h => ?_) (fun h => ?_)
  · repeat' first | refine CallW.mk' awake_det ?_ | refine Fin.bool ?_
    all_goals rfl
  have hs : smallB n R kerf = true := by rw [← hb]; simpa using h
  have V := VR.of hs
  have hn40 := V.n40
  have h0 : IntKind.i64.wrap ((n : Int) - 1) = (n : Int) - 1 - ((0 : Nat) : Int) := (w64_id ⟨by omega, by omega⟩).trans (by omega)
  refine Loop.by (α := Nat) (fun k => [(0, .d (.one (rowS n R))), (1, tint kerf), (7, tint ((n : Int) - 1 - (k : Int))), (5, .hdl 58 0), (6, .hdl 62 0)])
    (fun k => [(58, .bld 0 k 5 30 fun i j => match j with | 0 => .v (.string (turnR n R i).nm) | 1 => .v (.string (turnR n R i).gr) | 2 => i64 (turnR n R i).len | 3 => i64 (turnR n R i).left | _ => i64 (turnR n R i).right),
      (62, .bld 0 k 5 30 fun i j => match j with | 0 => .v (.string (flipR n R i).nm) | 1 => .v (.string (flipR n R i).gr) | 2 => i64 (flipR n R i).len | 3 => i64 (flipR n R i).left | _ => i64 (flipR n R i).right)]) (fun k => k ≤ n) (fun k => n - k)
    (Adj.nil 5 58 5 30 (fun i j => .v Go.undef) rfl rfl (Adj.nil 6 62 5 30 (fun i j => .v Go.undef) rfl rfl
      (Adj.at 0 (Nat.zero_le _) (.cons (.bld (fun _ h => absurd h (Nat.not_lt_zero _))) (.cons (.bld (fun _ h => absurd h (Nat.not_lt_zero _))) .nil)) (.cons .same (.cons .same (.cons (SlotLe.int h0) (.cons (.hdl rfl rfl) (.cons (.hdl rfl rfl) .nil)))))))) (fun k hk => ?_)
  refine Split.mk (fun h3 => ?_) (fun h3 => ?_)
  · have hlt : k < n := by have := of_decide_eq_true h3; omega
    have V1 := V.vp (n - 1 - k) (by omega)
    have ek : ((n : Int) - 1 - (k : Int)).toNat = n - 1 - k := by omega
    refine Need.mk (by omega) ?_
    rw [ek]
    have T1 := turned_VP V1
    have T2 := turned_two V1
    have F1 := flipped_VP V1
    have hvt := T1.1.valid
    have hvf := F1.valid
    have hw64 : IntKind.i64.wrap ((n : Int) - 1 - (k : Int) - 1) = (n : Int) - 1 - ((k + 1 : Nat) : Int) := (w64_id ⟨by omega, by omega⟩).trans (by omega)
    refine CallW.mk' (turned_det (R (n - 1 - k))) ?_
    refine CallW.mk' (flipped_det (R (n - 1 - k))) ?_
    refine Need.mk (by kernel_rfl) ?_
    refine CallW.mk' (hvt ▸ validp_det (turnedP (R (n - 1 - k)))) ?_
    repeat' first | refine Split.f ?_ | refine CallW.mk' (hvf ▸ validp_det (flippedP (R (n - 1 - k)))) ?_ | refine CallW.mk' (turned_det (turnedP (R (n - 1 - k)))) ?_ | refine EqW.tt (eq30 _ _ _ _ _ _ _ _ _ _) (decide_eq_true ⟨rfl, rfl, T2.1, T2.2.1, T2.2.2⟩) ?_ | refine CallW.mk' (flipped_det (flippedP (R (n - 1 - k)))) ?_ | refine EqW.tt (eq30 _ _ _ _ _ _ _ _ _ _) (decide_eq_true ⟨rfl, rfl, rfl, rfl, rfl⟩) ?_ | refine Need.mk (by kernel_rfl) ?_ | refine Need.mk ⟨show (k + 1) * 56 ≤ 140737488355328 by omega, by simp only [maxLen]; omega⟩ ?_
    refine Adj.back (x := k) (k + 1) hlt (by omega) (.cons (.bld (fun i hi j hj => SLe.app hi (fun _ => SLe.refl _) (fun h => ?_))) (.cons (.bld (fun i hi j hj => SLe.app hi (fun _ => SLe.refl _) (fun h => ?_))) .nil)) (.cons .same (.cons .same (.cons (SlotLe.int hw64) (.cons (.hdl rfl rfl) (.cons (.hdl rfl rfl) .nil)))))
    · subst h
      rw [Nat.sub_self]
      rcases j with _ | _ | _ | _ | _ | j <;> first | exact SLe.refl _ | omega
    · subst h
      rw [Nat.sub_self]
      rcases j with _ | _ | _ | _ | _ | j <;> first | exact SLe.refl _ | omega
  · have e : k = n := by have := of_decide_eq_false h3; omega
    subst e
    repeat' first | refine CallW.mk' (alike_det k R (turnR k R) kerf hn V (turnR_VR V) (turn_alike V)) ?_ | refine CallW.mk' (alike_det k R (flipR k R) kerf hn V (flipR_VR V) (flip_alike V)) ?_ | refine Split.t ?_ | refine Fin.bool ?_
    rfl
theorem lturns_all : ∀ dvs, TypL Try.prog Try.f6.params.toList dvs → Det Try.prog 6 dvs (tbool true) := by
  intro dvs h
  obtain ⟨v0, r0, rfl, h0, q0⟩ := TypL.inv_cons (t := 22) (ts := [3]) h
  obtain ⟨v1, r1, rfl, h1, q1⟩ := TypL.inv_cons q0
  obtain rfl := TypL.inv_nil q1
  obtain ⟨n, R, hn, hl⟩ := row_of h0
  obtain ⟨kerf, rfl, _⟩ := TypD.i64 (by kernel_rfl) rfl h1
  exact Det.le (.cons hl (.cons (DLe.refl _) .nil)) (lturns_det n R kerf hn)
end Go.Vm
