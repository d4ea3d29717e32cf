/-
  Layer 11: contracts of what the program's chain calls: flat, middle.
-/
import Derived.Test.YtlckiecpelchlaaArcD
namespace Go.Vm
set_option maxRecDepth 20000
set_option linter.unusedVariables false
set_option linter.unusedSimpArgs false
open Go Go.RowKit Go.Proofs
namespace Sg

theorem adLe {n : Nat} {cell cell' : Nat → SV} (h : ∀ j, j < n → SLe (cell j) (cell' j)) : DLe (.one (.ad n cell)) (.one (.ad n cell')) := DLe.one (fun S w x r => by
  obtain ⟨b, off, xs, rfl, r2, r3, r4⟩ := Rd.inv_ad r
  exact .ad xs r2 r3 (fun j hj => h j hj _ _ _ (r4 j hj)))
def dotW (a b : V2) : Int := w64 (w64 (a.x * b.x) + w64 (a.y * b.y))
theorem vdot_det (a b : V2) : Det Try.prog 57 [vD a, vD b] (tint (dotW a b)) := by
  refine det_of_awp TTok mixed Try.func57 rfl rfl [] (Nat.le_of_ble_eq_true rfl) ?_
  exact Fin.rfl'
theorem rdot_det (a b : V2) : Det Try.prog 30 [vD a, vD b] (tint (dotW a b)) := by
  refine det_of_awp TTok mixed Try.func30 rfl rfl [] (Nat.le_of_ble_eq_true rfl) ?_
  exact Fin.rfl'
theorem padd_det (a b : V2) : Det Try.prog 53 [vD a, vD b] (.d (vD (⟨w64 (a.x + b.x), w64 (a.y + b.y)⟩ : V2))) := by
  refine det_of_awp TTok mixed Try.func53 rfl rfl [] (Nat.le_of_ble_eq_true rfl) ?_
  exact Fin.rfl'
theorem radd_det (a b : V2) : Det Try.prog 34 [vD a, vD b] (.d (vD (⟨w64 (a.x + b.x), w64 (a.y + b.y)⟩ : V2))) := by
  refine det_of_awp TTok mixed Try.func34 rfl rfl [] (Nat.le_of_ble_eq_true rfl) ?_
  exact Fin.rfl'
theorem mul_bd {a b m n : Int} (h1 : -m ≤ a) (h2 : a ≤ m) (h3 : -n ≤ b) (h4 : b ≤ n) (hm : 0 ≤ m) (hn : 0 ≤ n) : -(m * n) ≤ a * b ∧ a * b ≤ m * n := by
  have t1 := Int.mul_nonneg (show 0 ≤ m - a by omega) (show 0 ≤ n + b by omega)
  have t2 := Int.mul_nonneg (show 0 ≤ m + a by omega) (show 0 ≤ n - b by omega)
  have t3 := Int.mul_nonneg (show 0 ≤ m - a by omega) (show 0 ≤ n - b by omega)
  have t4 := Int.mul_nonneg (show 0 ≤ m + a by omega) (show 0 ≤ n + b by omega)
  constructor <;> grind
theorem dotW_eq {a b : V2} (ha : In 8000 a) (hb : In 8000 b) : dotW a b = dotP a b ∧ -128000000 ≤ dotP a b ∧ dotP a b ≤ 128000000 := by
  obtain ⟨h1, h2⟩ := mul_bd ha.x0 ha.x1 hb.x0 hb.x1 (by decide) (by decide)
  obtain ⟨h3, h4⟩ := mul_bd ha.y0 ha.y1 hb.y0 hb.y1 (by decide) (by decide)
  unfold dotW dotP
  rw [wid' (n := a.x * b.x) (by omega) (by omega), wid' (n := a.y * b.y) (by omega) (by omega), wid' (by omega) (by omega)]
  exact ⟨rfl, by omega, by omega⟩
theorem crW_eq {a b : V2} (ha : In 8000 a) (hb : In 8000 b) : crossW a b = crossP a b ∧ -128000000 ≤ crossP a b ∧ crossP a b ≤ 128000000 := by
  obtain ⟨h1, h2⟩ := mul_bd ha.x0 ha.x1 hb.y0 hb.y1 (by decide) (by decide)
  obtain ⟨h3, h4⟩ := mul_bd ha.y0 ha.y1 hb.x0 hb.x1 (by decide) (by decide)
  unfold crossW crossP
  rw [wid' (n := a.x * b.y) (by omega) (by omega), wid' (n := a.y * b.x) (by omega) (by omega), wid' (by omega) (by omega)]
  exact ⟨rfl, by omega, by omega⟩
theorem sbW_eq {a b : V2} (ha : In 8000 a) (hb : In 8000 b) : subW a b = difP a b := by
  have := ha.x0; have := ha.x1; have := ha.y0; have := ha.y1; have := hb.x0; have := hb.x1; have := hb.y0; have := hb.y1
  unfold subW difP
  rw [wid' (n := a.x - b.x) (by omega) (by omega), wid' (n := a.y - b.y) (by omega) (by omega)]
theorem sumW_eq {a b : V2} (ha : In 8000 a) (hb : In 8000 b) : (⟨w64 (a.x + b.x), w64 (a.y + b.y)⟩ : V2) = sumP a b := by
  have := ha.x0; have := ha.x1; have := ha.y0; have := ha.y1; have := hb.x0; have := hb.x1; have := hb.y0; have := hb.y1
  unfold sumP
  rw [wid' (n := a.x + b.x) (by omega) (by omega), wid' (n := a.y + b.y) (by omega) (by omega)]
theorem nr_in {r : Int} {p : V2} (h1 : r ≤ 4000000) (h : Nr r p) : In 2000 p := by
  obtain ⟨a, b, c, d⟩ := nr_bound h1 (x := p.x) (y := p.y) h
  exact ⟨a, b, c, d⟩
theorem In.wide {m m' : Int} {v : V2} (h : In m v) (hm : m ≤ m') : In m' v := ⟨by have := h.x0; omega, by have := h.x1; omega, by have := h.y0; omega, by have := h.y1; omega⟩
theorem Good.dif {r : Int} {p q : V2} (h : Good r p q) : 0 < dotP (difP p q) (difP p q) := by
  have c := h.cr
  refine Int.not_le.1 fun w => ?_
  have z1 := sq_nonneg (p.x - q.x)
  have z2 := sq_nonneg (p.y - q.y)
  simp only [dotP, difP] at w
  have e1 : p.x - q.x = 0 := by
    have : (p.x - q.x) * (p.x - q.x) = 0 := by omega
    exact (Int.mul_eq_zero.1 this).elim id id
  have e2 : p.y - q.y = 0 := by
    have : (p.y - q.y) * (p.y - q.y) = 0 := by omega
    exact (Int.mul_eq_zero.1 this).elim id id
  have e3 : p.x = q.x := by omega
  have e4 : p.y = q.y := by omega
  simp only [crossP] at c
  rw [e3, e4] at c
  grind
theorem difP_in {p q : V2} (hp : In 2000 p) (hq : In 2000 q) : In 4000 (difP p q) := by
  have := hp.x0; have := hp.x1; have := hp.y0; have := hp.y1; have := hq.x0; have := hq.x1; have := hq.y0; have := hq.y1
  exact ⟨by simp only [difP]; omega, by simp only [difP]; omega, by simp only [difP]; omega, by simp only [difP]; omega⟩
theorem sumP_in {p q : V2} (hp : In 2000 p) (hq : In 2000 q) : In 4000 (sumP p q) := by
  have := hp.x0; have := hp.x1; have := hp.y0; have := hp.y1; have := hq.x0; have := hq.x1; have := hq.y0; have := hq.y1
  exact ⟨by simp only [sumP]; omega, by simp only [sumP]; omega, by simp only [sumP]; omega, by simp only [sumP]; omega⟩
/-- What the program's flat and the reference's close reckon. -/
theorem chord_w {r : Int} {p q : V2} (h : Good r p q) : IntKind.i64.wrap ((IntKind.i64.wrap (IntKind.i64.wrap (65536 * crossP p q) * crossP p q)).tdiv (dotP (difP p q) (difP p q))) = 65536 * crossP p q * crossP p q / dotP (difP p q) (difP p q) ∧ R64 (65536 * crossP p q * crossP p q / dotP (difP p q) (difP p q)) := by
  have hp := nr_in h.r1 h.np
  have hq := nr_in h.r1 h.nq
  have hc := h.cr
  have hd := h.dif
  obtain ⟨h1, h2⟩ := mul_bd hp.x0 hp.x1 hq.y0 hq.y1 (by decide) (by decide)
  obtain ⟨h3, h4⟩ := mul_bd hp.y0 hp.y1 hq.x0 hq.x1 (by decide) (by decide)
  have hb : crossP p q ≤ 8000000 := by simp only [crossP]; omega
  generalize crossP p q = c at *
  generalize dotP (difP p q) (difP p q) = D at *
  have hcc : 65536 * c * c ≤ 65536 * 8000000 * 8000000 := Int.mul_le_mul (by omega) hb (by omega) (by decide)
  have hc0 : 0 ≤ 65536 * c * c := Int.mul_nonneg (by omega) (by omega)
  rw [wid (n := 65536 * c) (by omega) (by omega), wid (n := 65536 * c * c) (by omega) (by omega), quo_w hc0 (by omega) hd]
  have a := Int.ediv_nonneg hc0 (Int.le_of_lt hd)
  have b := Int.ediv_le_self D hc0
  exact ⟨rfl, by omega, by omega⟩
theorem flat_det (r t : Int) (p q : V2) (h : Good r p q) (cell : Nat → SV) (h0 : cell 0 = i64 (isq (65536 * r) + 1 - 256 * t)) : Det Try.prog 74 [vD p, vD q, .one (.ad 1 cell)] (tbool (flatB r t p q)) := by
  refine Det.le (args' := [vD p, vD q, .one (.ad 1 fun _ => i64 (isq (65536 * r) + 1 - 256 * t))]) (.cons (DLe.refl _) (.cons (DLe.refl _) (.cons (adLe (fun j hj => ?_)) .nil))) ?_
  · obtain rfl : j = 0 := by omega
    exact SLe.of_eq h0
  have hp := nr_in h.r1 h.np
  have hq := nr_in h.r1 h.nq
  refine det_of_awp TTok mixed Try.func74 rfl rfl [] (Nat.le_of_ble_eq_true rfl) ?_
  refine CallW.mk' ((vsub_det p q).eq (by rw [sbW_eq (hp.wide (by decide)) (hq.wide (by decide))])) ?_
  refine CallW.mk' ((vcross_det p q).eq (by rw [(crW_eq (hp.wide (by decide)) (hq.wide (by decide))).1])) ?_
  refine Need.mk (by kernel_rfl) ?_
  have hdd := difP_in hp hq
  refine CallW.mk' ((vdot_det (difP p q) (difP p q)).eq (by rw [(dotW_eq (hdd.wide (by decide)) (hdd.wide (by decide))).1])) ?_
  have hd := h.dif
  refine Need.mk (by omega) ?_
  obtain ⟨e1, e2⟩ := chord_w h
  refine CallW.int (root_det _ (by rw [e1]; exact e2)) (fun n hn => ?_)
  rw [e1] at hn
  refine Need.mk (by kernel_rfl) ?_
  refine Fin.bool ?_
  rw [flatB, ← hn]
theorem sign_det' (n x : Int) : Det Try.prog 78 [.one (i64 n), .one (i64 x)] (tint (if x < 0 then ng n else n)) := by
  refine det_of_awp TTok mixed Try.func78 rfl rfl [] (Nat.le_of_ble_eq_true rfl) ?_
  refine Split.mk (fun h => ?_) (fun h => ?_)
  · refine Fin.int ?_
    rw [if_pos (of_decide_eq_true h)]
  · refine Fin.int ?_
    rw [if_neg (of_decide_eq_false h)]
theorem half_w {r x all : Int} (hr0 : 0 < r) (hr1 : r ≤ 4000000) (h1 : -4000 ≤ x) (h2 : x ≤ 4000) (hall : 0 < all) :
    IntKind.i64.wrap ((IntKind.i64.wrap (IntKind.i64.wrap (IntKind.i64.wrap (4 * x) * x) * r)).tdiv all) = 4 * x * x * r / all ∧ R64 (4 * x * x * r / all) ∧ 0 ≤ isq (4 * x * x * r / all) ∧ isq (4 * x * x * r / all) ≤ 3037000499 := by
  have hxx := mul_bd h1 h2 h1 h2 (by decide) (by decide)
  have hx0 := sq_nonneg x
  have e : 4 * x * x = 4 * (x * x) := by grind
  have e2 : 4 * x * x * r = 4 * (x * x * r) := by grind
  have hb : x * x * r ≤ 4000 * 4000 * 4000000 := Int.mul_le_mul hxx.2 hr1 (by omega) (by decide)
  have hb0 : 0 ≤ x * x * r := Int.mul_nonneg hx0 (by omega)
  rw [wid (n := 4 * x) (by omega) (by omega), wid (n := 4 * x * x) (by omega) (by omega), wid (n := 4 * x * x * r) (by omega) (by omega), quo_w (by omega) (by omega) hall]
  have a := Int.ediv_nonneg (show 0 ≤ 4 * x * x * r by omega) (Int.le_of_lt hall)
  have b := Int.ediv_le_self all (show 0 ≤ 4 * x * x * r by omega)
  obtain ⟨k0, k1, k2⟩ := isq_spec (n := 4 * x * x * r / all) a (by omega)
  exact ⟨rfl, ⟨by omega, by omega⟩, k0, isq_le k0 k1 (by omega)⟩
theorem part_det (r x : Int) (u : V2) (hr0 : 0 < r) (hr1 : r ≤ 4000000) (h1 : -4000 ≤ x) (h2 : x ≤ 4000) (hu : In 4000 u) (hall : 0 < dotP u u) (c1 c2 : Nat → SV) (e1 : c1 0 = i64 r) (e2 : c2 0 = i64 u.x) (e3 : c2 1 = i64 u.y) :
    Det Try.prog 77 [.one (i64 x), .one (.ad 1 c1), .one (.ad 2 c2)] (tint (halfA x (dotP u u) r)) := by
  refine Det.le (args' := [.one (i64 x), .one (.ad 1 fun _ => i64 r), .one (.ad 2 fun j => (vL u).getD j (.v Go.undef))]) (.cons (DLe.refl _) (.cons (adLe (fun j hj => ?_)) (.cons (adLe (fun j hj => ?_)) .nil))) ?_
  · obtain rfl : j = 0 := by omega
    exact SLe.of_eq e1
  · match j, hj with
    | 0, _ => exact SLe.of_eq e2
    | 1, _ => exact SLe.of_eq e3
  refine det_of_awp TTok mixed Try.func77 rfl rfl [] (Nat.le_of_ble_eq_true rfl) ?_
  refine CallW.mk' ((vdot_det u u).eq (by rw [(dotW_eq (hu.wide (by decide)) (hu.wide (by decide))).1])) ?_
  refine Need.mk (by omega) ?_
  obtain ⟨a1, a2, a3, a4⟩ := half_w (x := x) hr0 hr1 h1 h2 hall
  refine CallW.int (root_det _ (by rw [a1]; exact a2)) (fun n hn => ?_)
  rw [a1] at hn
  refine Need.mk (by decide) ?_
  have b1 : IntKind.i64.wrap (n + 1) = n + 1 := wid (by omega) (by omega)
  have b2 : IntKind.i64.wrap ((IntKind.i64.wrap (n + 1)).tdiv 2) = (n + 1) / 2 := by rw [b1]; exact quo_w (by omega) (by omega) (by decide)
  refine CallW.int (sign_det' (IntKind.i64.wrap ((IntKind.i64.wrap (n + 1)).tdiv 2)) x) (fun m hm => ?_)
  refine Need.mk (by kernel_rfl) ?_
  refine Fin.int ?_
  rw [hm, b2, halfA, ← hn]
  split
  · rw [ng, wid' (by omega) (by omega)]; omega
  · rfl
theorem middle_det (r : Int) (p q : V2) (h : Good r p q) (cell : Nat → SV) (h0 : cell 0 = i64 r) : Det Try.prog 76 [vD p, vD q, .one (.ad 1 cell)] (.d (vD (midV r p q))) := by
  refine Det.le (args' := [vD p, vD q, .one (.ad 1 fun _ => i64 r)]) (.cons (DLe.refl _) (.cons (DLe.refl _) (.cons (adLe (fun j hj => ?_)) .nil))) ?_
  · obtain rfl : j = 0 := by omega
    exact SLe.of_eq h0
  have hp := nr_in h.r1 h.np
  have hq := nr_in h.r1 h.nq
  have hs := sumP_in hp hq
  have hs0 : 0 < dotP (sumP p q) (sumP p q) := good_sum h
  refine det_of_awp TTok mixed Try.func76 rfl rfl [] (Nat.le_of_ble_eq_true rfl) ?_
  refine CallW.mk' ((padd_det p q).eq (by rw [sumW_eq (hp.wide (by decide)) (hq.wide (by decide))])) ?_
  refine CallW.int (part_det r (sumP p q).x (sumP p q) h.r0 h.r1 hs.x0 hs.x1 hs hs0 _ _ rfl rfl rfl) (fun a ha => ?_)
  refine CallW.int (part_det r (sumP p q).y (sumP p q) h.r0 h.r1 hs.y0 hs.y1 hs hs0 _ _ rfl rfl rfl) (fun b hb => ?_)
  refine Need.mk (by kernel_rfl) ?_
  refine Fin.agg ?_
  rw [ha, hb]
  exact LLe.of_eq rfl
end Sg
end Go.Vm
