/-
  Layer 38: law Shrinks.
-/
import Derived.Test.YtfoblfchkgapoaaGuiS
namespace Go.Vm
set_option maxRecDepth 20000
set_option linter.unusedVariables false
set_option linter.unusedSimpArgs false
open Go Go.RowKit Go.Proofs
namespace St

section
variable (sizes : List Int) (K : Nat)
theorem rch_step {c : Nat} (h : rchR sizes K (c + 1) = true) : ∃ s ∈ sizes, s + K ≤ ((c + 1 : Nat) : Int) ∧ (rchL sizes K c).getD (((c + 1 : Nat) : Int) - s - K).toNat false = true := by
  rw [rchR_succ, List.any_eq_true] at h
  obtain ⟨s, hs, e⟩ := h
  rw [rchS, Bool.and_eq_true, decide_eq_true_eq] at e
  exact ⟨s, hs, e.1, e.2⟩
theorem rch_add1 (hs : ∀ s ∈ sizes, 1 ≤ s) {s : Int} (h : s ∈ sizes) {a b : Nat} (e : (b : Int) = s + K + a) (ha : rchR sizes K a = true) : rchR sizes K b = true := by
  have := hs s h
  obtain ⟨c, rfl⟩ : ∃ c, b = c + 1 := ⟨b - 1, by omega⟩
  rw [rchR_succ, List.any_eq_true]
  refine ⟨s, h, ?_⟩
  rw [rchS, decide_eq_true (by omega), Bool.true_and, show (((c + 1 : Nat) : Int) - s - (K : Int)).toNat = a by omega, rch_get sizes K c (by omega)]
  exact ha
theorem rch_add (hs : ∀ s ∈ sizes, 1 ≤ s) {b : Nat} (hb : rchR sizes K b = true) : ∀ (n a : Nat), a ≤ n → rchR sizes K a = true → rchR sizes K (a + b) = true := by
  intro n
  induction n with
  | zero =>
    intro a ha _
    obtain rfl : a = 0 := by omega
    rw [Nat.zero_add]; exact hb
  | succ n ih =>
    intro a ha hr
    cases a with
    | zero => rw [Nat.zero_add]; exact hb
    | succ c =>
      obtain ⟨s, h1, h2, h3⟩ := rch_step sizes K hr
      have s1 := hs s h1
      obtain ⟨a', ha'⟩ : ∃ a' : Nat, ((c + 1 : Nat) : Int) - s - K = a' := ⟨(((c + 1 : Nat) : Int) - s - K).toNat, by omega⟩
      rw [ha', Int.toNat_natCast, rch_get sizes K c (by omega)] at h3
      exact rch_add1 sizes K hs h1 (a := a' + b) (by omega) (ih a' (by omega) h3)
/-- The greatest normal length up to n. -/
def nmL (n : Nat) : Int := iget (rnL sizes K n) ((rnL sizes K n).length - 1)
theorem nmL_succ (hs : ∀ s ∈ sizes, 1 ≤ s) (n : Nat) : nmL sizes K (n + 1) = if rchR sizes K (K + (n + 1)) = true then ((n + 1 : Nat) : Int) else nmL sizes K n := by
  have e := (rn_eq sizes hs K (n + 1)).2 ((n + 1 : Nat) : Int)
  have e0 := (rn_eq sizes hs K n).2 ((n + 1 : Nat) : Int)
  rw [decide_eq_true (by omega), Bool.true_and, Int.toNat_natCast] at e
  rw [decide_eq_false (by omega), Bool.false_and] at e0
  have hl := rnL_len sizes (K : Int) n
  rw [nmL, ← e]
  have er : rnL sizes K (n + 1) = if sizes.any (rnF K (rnL sizes K n) ((n + 1 : Nat) : Int)) = true then rnL sizes K n ++ [((n + 1 : Nat) : Int)] else rnL sizes K n := rfl
  split at er
  · have : ((rnL sizes K (n + 1)).tail.any fun x => x == ((n + 1 : Nat) : Int)) = true := by
      rw [er, tail_app hl.1, List.any_append]; simp
    rw [this, if_pos rfl, er, List.length_append, List.length_singleton, Nat.add_sub_cancel]
    exact getD_snoc _ _ _
  · have : ((rnL sizes K (n + 1)).tail.any fun x => x == ((n + 1 : Nat) : Int)) = false := by rw [er]; exact e0
    rw [this, if_neg (by simp), er]; rfl
theorem nmL_spec (hs : ∀ s ∈ sizes, 1 ≤ s) : ∀ n : Nat, 0 ≤ nmL sizes K n ∧ nmL sizes K n ≤ n ∧ (nmL sizes K n = 0 ∨ rchR sizes K (K + (nmL sizes K n).toNat) = true) ∧ ∀ m : Nat, 1 ≤ m → m ≤ n → rchR sizes K (K + m) = true → (m : Int) ≤ nmL sizes K n
  | 0 => ⟨Int.le_refl _, Int.le_refl _, .inl rfl, fun m a b => by omega⟩
  | n + 1 => by
    obtain ⟨i1, i2, i3, i4⟩ := nmL_spec hs n
    rw [nmL_succ sizes K hs n]
    split
    · rename_i h
      exact ⟨by omega, Int.le_refl _, .inr (by rw [Int.toNat_natCast]; exact h), fun m a b _ => by omega⟩
    · rename_i h
      refine ⟨i1, by omega, i3, fun m a b c => ?_⟩
      rcases Nat.lt_or_ge m (n + 1) with q | q
      · exact i4 m a (by omega) c
      · obtain rfl : m = n + 1 := by omega
        exact absurd c h
def nm (a : Int) : Int := if a < 0 then 0 else nmL sizes K a.toNat
theorem nm_nn (hs : ∀ s ∈ sizes, 1 ≤ s) (a : Int) : 0 ≤ nm sizes K a := by
  unfold nm
  split
  · exact Int.le_refl _
  · exact (nmL_spec sizes K hs _).1
theorem nm_le (hs : ∀ s ∈ sizes, 1 ≤ s) {a : Int} (h : 0 ≤ a) : nm sizes K a ≤ a := by
  rw [nm, if_neg (by omega)]
  have := (nmL_spec sizes K hs a.toNat).2.1
  omega
theorem nm_max (hs : ∀ s ∈ sizes, 1 ≤ s) {a : Int} {m : Nat} (m1 : 1 ≤ m) (h : (m : Int) ≤ a) (hr : rchR sizes K (K + m) = true) : (m : Int) ≤ nm sizes K a := by
  rw [nm, if_neg (by omega)]
  exact (nmL_spec sizes K hs a.toNat).2.2.2 m m1 (by omega) hr
theorem nm_rch (hs : ∀ s ∈ sizes, 1 ≤ s) (a : Int) : nm sizes K a = 0 ∨ rchR sizes K (K + (nm sizes K a).toNat) = true := by
  unfold nm
  split
  · exact .inl rfl
  · exact (nmL_spec sizes K hs _).2.2.1
theorem nm_mono (hs : ∀ s ∈ sizes, 1 ≤ s) {a b : Int} (h : a ≤ b) : nm sizes K a ≤ nm sizes K b := by
  have n1 := nm_nn sizes K hs a
  have n2 := nm_nn sizes K hs b
  rcases nm_rch sizes K hs a with e | e
  · omega
  · by_cases z : nm sizes K a = 0
    · omega
    by_cases a0 : a < 0
    · rw [nm, if_pos a0] at z; exact absurd rfl z
    have := nm_le sizes K hs (a := a) (by omega)
    have := nm_max sizes K hs (a := b) (m := (nm sizes K a).toNat) (by omega) (by omega) e
    omega
theorem nm_size (hs : ∀ s ∈ sizes, 1 ≤ s) {s a : Int} (h : s ∈ sizes) (ha : s ≤ a) : s ≤ nm sizes K a := by
  have := hs s h
  have hr : rchR sizes K (K + s.toNat) = true := rch_add1 sizes K hs h (a := 0) (by omega) (rchR_zero sizes K)
  have := nm_max sizes K hs (a := a) (m := s.toNat) (by omega) (by omega) hr
  omega
theorem nm_sum (hs : ∀ s ∈ sizes, 1 ≤ s) {a b w : Int} (hw : a + K + b ≤ w) (ha : 1 ≤ nm sizes K a) (hb : 1 ≤ nm sizes K b) : nm sizes K a + K + nm sizes K b ≤ nm sizes K w := by
  have a0 : ¬ a < 0 := fun q => by rw [nm, if_pos q] at ha; omega
  have b0 : ¬ b < 0 := fun q => by rw [nm, if_pos q] at hb; omega
  have la := nm_le sizes K hs (a := a) (by omega)
  have lb := nm_le sizes K hs (a := b) (by omega)
  have ra : rchR sizes K (K + (nm sizes K a).toNat) = true := by
    rcases nm_rch sizes K hs a with e | e
    · omega
    · exact e
  have rb : rchR sizes K (K + (nm sizes K b).toNat) = true := by
    rcases nm_rch sizes K hs b with e | e
    · omega
    · exact e
  have r := rch_add sizes K hs rb _ _ (Nat.le_refl _) ra
  have := nm_max sizes K hs (a := w) (m := (nm sizes K a).toNat + K + (nm sizes K b).toNat) (by omega) (by omega) (by rw [show K + ((nm sizes K a).toNat + K + (nm sizes K b).toNat) = K + (nm sizes K a).toNat + (K + (nm sizes K b).toNat) by omega]; exact r)
  omega
end
theorem gval_zero {ks : List Knd} {kerf w h : Int} (o : w < 1 ∨ h < 1) : gval ks w h kerf = 0 := by rw [gval, valI, if_pos o]
theorem gval_shrink {ks : List Knd} {K : Nat} (hk : ∀ k ∈ ks, 1 ≤ k.w ∧ 1 ≤ k.h) {W H : Int} (W0 : 0 ≤ W) (H0 : 0 ≤ H) : gval ks (nm (ks.map Knd.w) K W) (nm (ks.map Knd.h) K H) K = gval ks W H K := by
  have k0 : (0 : Int) ≤ K := by omega
  have hw : ∀ s ∈ ks.map Knd.w, 1 ≤ s := fun s hs => by obtain ⟨k, hk', rfl⟩ := List.mem_map.1 hs; exact (hk k hk').1
  have hh : ∀ s ∈ ks.map Knd.h, 1 ≤ s := fun s hs => by obtain ⟨k, hk', rfl⟩ := List.mem_map.1 hs; exact (hk k hk').2
  refine Int.le_antisymm (gval_mono hk k0 (nm_le _ K hw W0) (nm_le _ K hh H0)) ?_
  have S := fun W H => gval_sup hk k0 W H
  have G0 := gval_nn hk k0
  refine gval_least k0 (G := fun a b => gval ks (nm (ks.map Knd.w) K a) (nm (ks.map Knd.h) K b) K) ⟨fun w h _ _ => G0 _ _, fun k hkm w h _ _ a b => ?_, fun w h x x0 x1 _ h0 _ => ?_, fun w h y y0 y1 _ w0 _ => ?_⟩
  · exact (S _ _).kd k hkm _ _ (Int.le_refl _) (Int.le_refl _) (nm_size _ K hw (List.mem_map.2 ⟨k, hkm, rfl⟩) a) (nm_size _ K hh (List.mem_map.2 ⟨k, hkm, rfl⟩) b)
  · have m1 := nm_mono (ks.map Knd.w) K hw (a := x) (b := w) (by omega)
    have m2 := nm_mono (ks.map Knd.w) K hw (a := w - x - K) (b := w) (by omega)
    have n1 := nm_nn (ks.map Knd.w) K hw x
    have n2 := nm_nn (ks.map Knd.w) K hw (w - x - K)
    show gval ks (nm (ks.map Knd.w) K x) (nm (ks.map Knd.h) K h) K + gval ks (nm (ks.map Knd.w) K (w - x - K)) (nm (ks.map Knd.h) K h) K ≤ gval ks (nm (ks.map Knd.w) K w) (nm (ks.map Knd.h) K h) K
    have nsum := nm_sum (ks.map Knd.w) K hw (a := x) (b := w - x - K) (w := w) (by omega)
    generalize nm (ks.map Knd.h) K h = b
    generalize nm (ks.map Knd.w) K x = p at *
    generalize nm (ks.map Knd.w) K (w - x - K) = q at *
    generalize nm (ks.map Knd.w) K w = r at *
    have mp := gval_mono hk k0 m1 (Int.le_refl b)
    have mq := gval_mono hk k0 m2 (Int.le_refl b)
    by_cases b0 : b < 1
    · rw [gval_zero (.inr b0), gval_zero (.inr b0), gval_zero (.inr b0)]; omega
    by_cases p0 : p < 1
    · rw [gval_zero (.inl p0)]; omega
    by_cases q0 : q < 1
    · rw [gval_zero (w := q) (.inl q0)]; omega
    have nsum := nsum (by omega) (by omega)
    have c := (S (p + K + q) b).cw (p + K + q) b p (by omega) (by omega) (Int.le_refl _) (by omega) (Int.le_refl _)
    replace c : gval ks p b K + gval ks (p + K + q - p - K) b K ≤ gval ks (p + K + q) b K := c
    rw [show p + (K : Int) + q - p - K = q by omega] at c
    have := gval_mono hk k0 nsum (Int.le_refl b)
    omega
  · have m1 := nm_mono (ks.map Knd.h) K hh (a := y) (b := h) (by omega)
    have m2 := nm_mono (ks.map Knd.h) K hh (a := h - y - K) (b := h) (by omega)
    have n1 := nm_nn (ks.map Knd.h) K hh y
    have n2 := nm_nn (ks.map Knd.h) K hh (h - y - K)
    show gval ks (nm (ks.map Knd.w) K w) (nm (ks.map Knd.h) K y) K + gval ks (nm (ks.map Knd.w) K w) (nm (ks.map Knd.h) K (h - y - K)) K ≤ gval ks (nm (ks.map Knd.w) K w) (nm (ks.map Knd.h) K h) K
    have nsum := nm_sum (ks.map Knd.h) K hh (a := y) (b := h - y - K) (w := h) (by omega)
    generalize nm (ks.map Knd.w) K w = b
    generalize nm (ks.map Knd.h) K y = p at *
    generalize nm (ks.map Knd.h) K (h - y - K) = q at *
    generalize nm (ks.map Knd.h) K h = r at *
    have mp := gval_mono hk k0 (Int.le_refl b) m1
    have mq := gval_mono hk k0 (Int.le_refl b) m2
    by_cases b0 : b < 1
    · rw [gval_zero (.inl b0), gval_zero (.inl b0), gval_zero (.inl b0)]; omega
    by_cases p0 : p < 1
    · rw [gval_zero (.inr p0)]; omega
    by_cases q0 : q < 1
    · rw [gval_zero (h := q) (.inr q0)]; omega
    have nsum := nsum (by omega) (by omega)
    have c := (S b (p + K + q)).ch b (p + K + q) p (by omega) (by omega) (Int.le_refl _) (by omega) (Int.le_refl _)
    replace c : gval ks b p K + gval ks b (p + K + q - p - K) K ≤ gval ks b (p + K + q) K := c
    rw [show p + (K : Int) + q - p - K = q by omega] at c
    have := gval_mono hk k0 (Int.le_refl b) nsum
    omega
/-- What Normal returns for a problem's sizes. -/
theorem nrm_ok {sizes : List Int} {side : Int} {K : Nat} (hl : sizes.length ≤ 20) (hs : ∀ s ∈ sizes, 1 ≤ s ∧ s ≤ 2000) (s0 : 1 ≤ side) (s1 : side ≤ 2000) (k1 : K ≤ 50) : (nrmR sizes side K).2 = 0 ∧ 1 ≤ (nrmR sizes side K).1.length ∧ (nrmR sizes side K).1.length ≤ 3000 ∧ iget (nrmR sizes side K).1 ((nrmR sizes side K).1.length - 1) = nm sizes K side := by
  have hb : nrmBad sizes side K = false := by
    have e : sizes.any wrongS = false := any_false (fun s q => by
      have := hs s q
      simp only [wrongS, Bool.or_eq_false_iff, decide_eq_false_iff_not]; omega)
    rw [nrmBad, e, decide_eq_false (by omega), decide_eq_false (show ¬ (K : Int) < 0 by omega), decide_eq_false (show ¬ (K : Int) > 50 by omega)]
    simp only [wrongS, Bool.false_or, Bool.or_false, Bool.or_eq_false_iff, decide_eq_false_iff_not]; omega
  rw [nrm_eq, rnR, if_neg (by rw [hb]; simp)]
  have := rnL_len sizes (K : Int) side.toNat
  refine ⟨rfl, this.1, by show (rnL sizes K side.toNat).length ≤ 3000; omega, ?_⟩
  rw [nm, if_neg (by omega)]; rfl
theorem lgshrinks_det (z : Pz) (hl : z.ks.length ≤ maxLen) : Det Try.prog 10 [.agg (pzL z)] (tbool true) := by
  refine det_of_awp TTok mixed Try.func10 rfl rfl [] (Nat.le_of_ble_eq_true rfl) ?_
  refine CallW.mk' awake38_det ?_
  refine Split.f ?_
  refine CallW.bool (gsmall_det z) (fun b1 hb1' => ?_)
  refine Split.mk (fun c1 => ?_) (fun c1 => ?_)
  · repeat' first | refine Split.isT c1 ?_ | refine Split.t ?_ | refine Split.f ?_ | fail
    exact Fin.rfl'
  have hsm := smallG_iff.1 (by rw [← hb1']; simpa using c1 : smallG z = true)
  repeat' first | refine Split.isF c1 ?_ | refine Split.t ?_ | refine Split.f ?_ | fail
  refine CallW.bool (rproblem_det z.ks z.w z.h z.kerf (by omega)) (fun b2 hb2 => ?_)
  repeat' first | refine Split.isF c1 ?_ | refine Split.t ?_ | refine Split.f ?_ | fail
  refine Split.mk (fun c3 => ?_) (fun c3 => ?_)
  · exact Fin.rfl'
  have p : Pb z.ks z.w z.h z.kerf := prob_iff.1 (by rw [← hb2]; simpa using c3)
  have w0 := p.w0; have w1 := p.w1; have h0 := p.h0; have h1 := p.h1; have kf0 := p.k0; have kf1 := p.k1
  refine CallW.kds (kinds_det z.ks (by omega)) ?_
  refine Loop.by (α := Nat) (fun k => [(1, .ptr 1 0), (3, .d (.one (kS z.ks))), (4, .hdl 50 0), (5, .hdl 55 0), (40, .d (.one (kS z.ks))), (41, tint z.ks.length), (42, tint k)])
    (fun k => [(1, .box (pzL z)), (50, .bld 0 ((z.ks.take k).map Knd.w).length 1 3 (lG iL 0 ((z.ks.take k).map Knd.w))), (55, .bld 0 ((z.ks.take k).map Knd.h).length 1 3 (lG iL 0 ((z.ks.take k).map Knd.h)))]) (fun k => k ≤ z.ks.length) (fun k => z.ks.length - k)
    (Adj.nil 4 50 1 3 (lG iL 0 []) rfl rfl (Adj.nil 5 55 1 3 (lG iL 0 []) rfl rfl
      (Adj.at 0 (Nat.zero_le _) (.cons (.box (LLe.refl _)) (.cons (.bld (fun _ h => absurd h (Nat.not_lt_zero _))) (.cons (.bld (fun _ h => absurd h (Nat.not_lt_zero _))) .nil))) (.cons (.box rfl rfl) (.cons .same (.cons (.hdl rfl rfl) (.cons (.hdl rfl rfl) (.cons .same (.cons .same (.cons .same .nil)))))))))) (fun k hk => ?_)
  refine Split.mk (fun c4 => ?_) (fun c4 => ?_)
  · have hlt : k < z.ks.length := by have := of_decide_eq_true c4; omega
    have et : ∀ f : Knd → Int, (z.ks.take (k + 1)).map f = (z.ks.take k).map f ++ [f (kget z.ks k)] := fun f => by
      rw [take_snoc z.ks k0 k hlt, List.map_append]; rfl
    have hkl : ∀ f : Knd → Int, ((z.ks.take k).map f).length = k := fun f => by rw [List.length_map, List.length_take]; omega
    have hk1 := hkl Knd.w
    have hk2 := hkl Knd.h
    refine Need.mk (by omega) ?_
    refine Need.mk (needApp (n := ((z.ks.take k).map Knd.w).length + 1) (by omega) (by decide)) ?_
    refine Need.mk (needApp (n := ((z.ks.take k).map Knd.h).length + 1) (by omega) (by decide)) ?_
    refine Need.mk (by kernel_rfl) ?_
    refine Adj.back (x := k) (k + 1) (by omega) (by omega) (.cons (.box (LLe.refl _)) (.cons (.bldN (by rw [et, List.length_append]; rfl) (fun i hi j hj => ?_)) (.cons (.bldN (by rw [et, List.length_append]; rfl) (fun i hi j hj => ?_)) .nil)))
      (.cons (.box rfl rfl) (.cons .same (.cons (.hdl rfl rfl) (.cons (.hdl rfl rfl) (.cons .same (.cons .same (.cons (SlotLe.int (hS k (by omega))) .nil)))))))
    · rw [et]
      exact lG_snoc iL 0 _ (kget z.ks k).w 1 _ i j _ rfl rfl hi hj
    · rw [et]
      exact lG_snoc iL 0 _ (kget z.ks k).h 1 _ i j _ rfl rfl hi hj
  have he : k = z.ks.length := by have := of_decide_eq_false c4; omega
  subst he
  rw [List.take_length]
  obtain ⟨K, hK⟩ : ∃ K : Nat, z.kerf = K := ⟨z.kerf.toNat, by omega⟩
  have mw : (z.ks.map Knd.w).length = z.ks.length := List.length_map _
  have mh : (z.ks.map Knd.h).length = z.ks.length := List.length_map _
  have sw : ∀ s ∈ z.ks.map Knd.w, 1 ≤ s ∧ s ≤ 2000 := fun s hs => by obtain ⟨k, hk', rfl⟩ := List.mem_map.1 hs; exact ⟨(p.ok k hk').w0, (p.ok k hk').w1⟩
  have sh : ∀ s ∈ z.ks.map Knd.h, 1 ≤ s ∧ s ≤ 2000 := fun s hs => by obtain ⟨k, hk', rfl⟩ := List.mem_map.1 hs; exact ⟨(p.ok k hk').h0, (p.ok k hk').h1⟩
  obtain ⟨a1, a2, a3, a4⟩ := nrm_ok (K := K) (by omega) sw w0 w1 (by omega)
  obtain ⟨b1, b2, b3, b4⟩ := nrm_ok (K := K) (by omega) sh h0 h1 (by omega)
  have shr := gval_shrink (K := K) p.posk (W := z.w) (H := z.h) (by omega) (by omega)
  have nw := nm_nn (z.ks.map Knd.w) K (fun s q => (sw s q).1) z.w
  have nh := nm_nn (z.ks.map Knd.h) K (fun s q => (sh s q).1) z.h
  have nw1 := nm_le (z.ks.map Knd.w) K (fun s q => (sw s q).1) (a := z.w) (by omega)
  have nh1 := nm_le (z.ks.map Knd.h) K (fun s q => (sh s q).1) (a := z.h) (by omega)
  rw [← hK] at a1 a2 a3 a4 b1 b2 b3 b4 shr
  rw [← a4, ← b4] at shr
  rw [← a4] at nw nw1
  rw [← b4] at nh nh1
  refine CallW.nrm (normal_det (z.ks.map Knd.w) z.w z.kerf (by omega)) (fun x hx => ?_)
  refine CallW.nrm (normal_det (z.ks.map Knd.h) z.h z.kerf (by omega)) (fun y hy => ?_)
  rw [← hx] at a1 a2 a3 shr nw nw1
  rw [← hy] at b1 b2 b3 shr nh nh1
  clear a4 b4 hx hy
  obtain ⟨lx, ex⟩ := x
  obtain ⟨ly, ey⟩ := y
  replace a1 : ex = 0 := a1
  replace a2 : 1 ≤ lx.length := a2
  replace a3 : lx.length ≤ 3000 := a3
  replace b1 : ey = 0 := b1
  replace b2 : 1 ≤ ly.length := b2
  replace b3 : ly.length ≤ 3000 := b3
  replace shr : gval z.ks (iget lx (lx.length - 1)) (iget ly (ly.length - 1)) z.kerf = gval z.ks z.w z.h z.kerf := shr
  replace nw : 0 ≤ iget lx (lx.length - 1) := nw
  replace nh : 0 ≤ iget ly (ly.length - 1) := nh
  replace nw1 : iget lx (lx.length - 1) ≤ z.w := nw1
  replace nh1 : iget ly (ly.length - 1) ≤ z.h := nh1
  subst a1 b1
  refine CallW.best (gbest_det z.ks z.w z.h z.kerf hl) (fun v hv => ?_)
  repeat' first | refine Split.t ?_ | refine Split.f ?_ | fail
  have f1 : ((lx.length : Int) == 0) = false := by simp; intro e; rw [e] at a2; simp at a2
  have f2 : ((ly.length : Int) == 0) = false := by simp; intro e; rw [e] at b2; simp at b2
  repeat' first | refine Split.isF f1 ?_ | refine Split.t ?_ | refine Split.f ?_ | fail
  refine Split.isF f2 ?_
  show Split (v.2.2 != 0) _
  rcases gbestR_err p with ⟨he, _⟩ | ⟨he, hm, hv0⟩
  · rw [← hv] at he
    have e1 : (v.2.2 != 0) = true := by rw [he]; rfl
    refine Split.isT e1 ?_
    refine Fin.bool ?_
    rw [he]; rfl
  rw [← hv] at he hv0
  have e1 : (v.2.2 != 0) = false := by rw [he]; rfl
  refine Split.isF e1 ?_
  have i1 : IntKind.i64.wrap ((lx.length : Int) - 1) = ((lx.length - 1 : Nat) : Int) := by rw [hw _ (by omega) (by omega)]; omega
  have i2 : IntKind.i64.wrap ((ly.length : Int) - 1) = ((ly.length - 1 : Nat) : Int) := by rw [hw _ (by omega) (by omega)]; omega
  refine Need.mk (by rw [i1]; show 0 ≤ ((lx.length - 1 : Nat) : Int) ∧ ((lx.length - 1 : Nat) : Int) < (lx.length : Int); omega) ?_
  refine Need.mk (by rw [i2]; show 0 ≤ ((ly.length - 1 : Nat) : Int) ∧ ((ly.length - 1 : Nat) : Int) < (ly.length : Int); omega) ?_
  refine Need.mk (by kernel_rfl) ?_
  have g1 : lx.getD (IntKind.i64.wrap ((lx.length : Int) - 1)).toNat 0 = iget lx (lx.length - 1) := by rw [i1, Int.toNat_natCast]
  have g2 : ly.getD (IntKind.i64.wrap ((ly.length : Int) - 1)).toNat 0 = iget ly (ly.length - 1) := by rw [i2, Int.toNat_natCast]
  show Split (lx.getD (IntKind.i64.wrap ((lx.length : Int) - 1)).toNat 0 == 0) _
  rw [← g1] at nw nw1 shr
  rw [← g2] at nh nh1 shr
  generalize lx.getD (IntKind.i64.wrap ((lx.length : Int) - 1)).toNat 0 = a at *
  generalize ly.getD (IntKind.i64.wrap ((ly.length : Int) - 1)).toNat 0 = b at *
  have zero : a = 0 ∨ b = 0 → Fin (tbool (v.1 == 0)) (tbool true) := fun o => by
    refine Fin.bool ?_
    rw [hv0, ← shr, gval_zero (by omega)]; rfl
  refine Split.mk (fun d1 => ?_) (fun d1 => ?_)
  · repeat' first | refine Split.isT d1 ?_ | refine Split.t ?_ | refine Split.f ?_ | fail
    exact zero (.inl (eq_of_beq d1))
  repeat' first | refine Split.isF d1 ?_ | refine Split.t ?_ | refine Split.f ?_ | fail
  refine Split.mk (fun d2 => ?_) (fun d2 => ?_)
  · exact zero (.inr (eq_of_beq d2))
  have d1' := ne_of_beq_false d1
  have d2' := ne_of_beq_false d2
  refine CallW.best (gbest_det z.ks a b z.kerf hl) (fun u hu => ?_)
  have p1 : Pb z.ks a b z.kerf := ⟨p.len, p.ok, by omega, by omega, by omega, by omega, p.k0, p.k1⟩
  have m1 := gbad_mono p p1.w0 p1.h0 nw1 nh1 hm
  have hu0 : u.2.2 = 0 ∧ u.1 = v.1 := by
    rw [hu, hv0]
    rcases gbestR_err p1 with ⟨_, b2, _⟩ | ⟨b1, _, b3⟩
    · rw [m1] at b2; cases b2
    · exact ⟨b1, b3.trans shr⟩
  have g1 : (u.2.2 == 0) = true := by rw [hu0.1]; rfl
  have g2 : (u.1 == v.1) = true := by rw [hu0.2]; simp
  refine Split.isT g1 ?_
  repeat' first | refine Split.isT g1 ?_ | refine Split.t ?_ | refine Split.f ?_ | fail
  refine Fin.bool ?_
  exact g2
theorem lgshrinks_all : ∀ dvs, TypL Try.prog Try.f10.params.toList dvs → Det Try.prog 10 dvs (tbool true) := by
  intro dvs h
  obtain ⟨v0, r0, rfl, h0, q0⟩ := TypL.inv_cons (t := 24) (ts := []) h
  obtain rfl := TypL.inv_nil q0
  obtain ⟨z, hz, _, _, _, hle⟩ := pzIn h0
  exact Det.le (.cons hle .nil) (lgshrinks_det z hz)
end St
end Go.Vm
