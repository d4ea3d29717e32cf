/-
  Layer 8: the law RingConvex.
-/
import Derived.Test.YtgmlblmkcbcgaaaRingA
import Derived.Test.YtgmlblmkcbcgaaaRingO
namespace Go.Vm
set_option maxRecDepth 20000
set_option linter.unusedVariables false
set_option linter.unusedSimpArgs false
open Go Go.RowKit Go.Proofs
namespace Sg

def midP (a b : V2) : P3 := if (a.x + b.x).tmod 2 = 0 ∧ (a.y + b.y).tmod 2 = 0 then ⟨(a.x + b.x).tdiv 2, (a.y + b.y).tdiv 2, 1⟩ else ⟨a.x + b.x, a.y + b.y, 2⟩
theorem mid_two (a b : V2) : 1 ≤ (midP a b).d ∧ 2 * (midP a b).x = (midP a b).d * (a.x + b.x) ∧ 2 * (midP a b).y = (midP a b).d * (a.y + b.y) := by
  unfold midP
  split
  · rename_i h
    have e1 := Int.mul_tdiv_add_tmod (a.x + b.x) 2
    have e2 := Int.mul_tdiv_add_tmod (a.y + b.y) 2
    refine ⟨Int.le_refl _, ?_, ?_⟩
    · show 2 * (a.x + b.x).tdiv 2 = 1 * (a.x + b.x); omega
    · show 2 * (a.y + b.y).tdiv 2 = 1 * (a.y + b.y); omega
  · exact ⟨(by decide : (1 : Int) ≤ 2), rfl, rfl⟩
theorem gcd_two {x y : Int} (h : ¬ (x.tmod 2 = 0 ∧ y.tmod 2 = 0)) : Int.gcd (Int.gcd x y) 2 = 1 := by
  have hd : Int.gcd (Int.gcd x y) 2 ∣ 2 := by
    have := Int.gcd_dvd_right (a := (Int.gcd x y : Int)) (b := 2)
    exact Int.natCast_dvd_natCast.1 this
  have hle := Nat.le_of_dvd (by decide) hd
  have h0 : Int.gcd (Int.gcd x y) 2 ≠ 0 := fun e => by rw [e] at hd; simp at hd
  refine Classical.byContradiction fun hne => ?_
  have e : Int.gcd (Int.gcd x y) 2 = 2 := by omega
  have hg : (2 : Int) ∣ (Int.gcd x y : Int) := by
    have := Int.gcd_dvd_left (a := (Int.gcd x y : Int)) (b := 2)
    rw [e] at this
    exact this
  have hx := Int.dvd_trans hg (Int.gcd_dvd_left (a := x) (b := y))
  have hy := Int.dvd_trans hg (Int.gcd_dvd_right (a := x) (b := y))
  exact h ⟨Int.tmod_eq_zero_of_dvd hx, Int.tmod_eq_zero_of_dvd hy⟩
theorem mid_valid {a b : V2} (ha : In 2000 a) (hb : In 2000 b) : validP (midP a b) = true := by
  have a0 := ha.x0
  have a1 := ha.x1
  have a2 := ha.y0
  have a3 := ha.y1
  have b0 := hb.x0
  have b1 := hb.x1
  have b2 := hb.y0
  have b3 := hb.y1
  have m := mid_two a b
  unfold validP
  rw [Bool.and_eq_true, decide_eq_true_eq, boundB_iff]
  unfold midP at *
  split at m
  · rename_i h
    rw [if_pos h]
    refine ⟨?_, ?_⟩
    · simp only at m ⊢
      omega
    · show Int.gcd _ 1 = 1
      exact Int.gcd_one_right _
  · rename_i h
    rw [if_neg h]
    refine ⟨?_, gcd_two h⟩
    simp only
    omega
theorem mid_where {l : List V2} (hr : RingOk l) (hl : LeftP l) {i k : Nat} (hi : i < l.length) (hk : k < l.length) : whereR l (midP (gt l i) (gt l k)) ≠ 0 := by
  have m := mid_two (gt l i) (gt l k)
  rw [whereR, if_pos ⟨ring_ok.2 hr, mid_valid (near_in hr.near i) (near_in hr.near k)⟩]
  exact mid_in hr hl hi hk (m := 2) (by decide) m.1 m.2.1 m.2.2 rfl
/-- Whether the ring turns right at one of its first k vertices. -/
def rightK (l : List V2) (k : Nat) : Bool := !allB k fun i => !decide (turnW (gt l i) (gt l ((i + 1) % l.length)) (gt l ((i + 2) % l.length)) < 0)
def outJ (l : List V2) (i k : Nat) : Bool := !allB k fun j => !decide (whereR l (midP (gt l i) (gt l j)) = 0)
def outK (l : List V2) (k : Nat) : Bool := !allB k fun i => !outJ l i l.length
theorem allB_succ (k : Nat) (f : Nat → Bool) : allB (k + 1) f = (allB k f && f k) := by
  rw [Bool.eq_iff_iff, allB_iff, Bool.and_eq_true, allB_iff]
  constructor
  · intro h; exact ⟨fun i hi => h i (by omega), h k (by omega)⟩
  · intro h i hi
    by_cases e : i = k
    · subst e; exact h.2
    · exact h.1 i (by omega)
theorem right_iff {l : List V2} (hr : RingOk l) : rightK l l.length = true ↔ ¬ LeftP l := by
  have h3 := hr.three
  have tw : ∀ i, i < l.length → turnW (gt l i) (gt l ((i + 1) % l.length)) (gt l ((i + 2) % l.length)) = sgnI (trP (lst l ((i + 1) % l.length)) (gt l ((i + 1) % l.length)) (nxt l ((i + 1) % l.length))) := fun i hi => by
    rw [turn_eq hr.near, turn_tr]
    have e1 : lst l ((i + 1) % l.length) = gt l i := by
      unfold lst
      congr 1
      rw [md1 hi]
      split
      · rename_i h; rw [Nat.zero_add, Nat.mod_eq_of_lt (by omega)]; omega
      · rw [show i + 1 + l.length - 1 = i + l.length by omega, Nat.add_mod_right, Nat.mod_eq_of_lt hi]
    have e2 : nxt l ((i + 1) % l.length) = gt l ((i + 2) % l.length) := by
      unfold nxt
      congr 1
      rw [Nat.mod_add_mod]
    rw [e1, e2]
  have neg : ∀ x : Int, sgnI x < 0 ↔ x < 0 := fun x => by unfold sgnI; split <;> (try split) <;> omega
  unfold rightK
  rw [Bool.not_eq_true', ← Bool.not_eq_true, allB_iff]
  constructor
  · intro h hl
    refine h fun i hi => ?_
    have := hl _ (Nat.mod_lt (i + 1) (show 0 < l.length by omega))
    rw [tw i hi, Bool.not_eq_true', decide_eq_false_iff_not, neg]
    omega
  · intro h hall
    refine h fun i hi => ?_
    have hp := hr.pre.turns i hi
    have hj : (i + l.length - 1) % l.length < l.length := Nat.mod_lt _ (by omega)
    have hh := hall ((i + l.length - 1) % l.length) hj
    have e : ((i + l.length - 1) % l.length + 1) % l.length = i := by
      rw [Nat.mod_add_mod, show i + l.length - 1 + 1 = i + l.length by omega, Nat.add_mod_right, Nat.mod_eq_of_lt hi]
    rw [tw _ hj, e, Bool.not_eq_true', decide_eq_false_iff_not, neg] at hh
    omega
theorem out_none {l : List V2} (hr : RingOk l) (hl : LeftP l) : outK l l.length = false := by
  unfold outK
  rw [Bool.not_eq_false', allB_iff]
  intro i hi
  rw [Bool.not_eq_true']
  unfold outJ
  rw [Bool.not_eq_false', allB_iff]
  intro k hk
  rw [Bool.not_eq_true', decide_eq_false_iff_not]
  exact mid_where hr hl hi hk
theorem convex_right {l : List V2} (hr : RingOk l) : convexR l = !rightK l l.length := by
  have h := right_iff hr
  have h2 := left_iff hr.near
  unfold convexR
  rw [ring_ok.2 hr, Bool.and_true]
  cases e1 : rightK l l.length
  · have : LeftP l := Classical.byContradiction fun q => by rw [h.2 q] at e1; cases e1
    rw [h2.2 this]; rfl
  · have : ¬ LeftP l := h.1 e1
    cases e2 : leftB l
    · rfl
    · exact absurd (h2.1 e2) this
theorem rightK_succ (l : List V2) (i : Nat) : rightK l (i + 1) = (rightK l i || decide (turnW (gt l i) (gt l ((i + 1) % l.length)) (gt l ((i + 2) % l.length)) < 0)) := by
  unfold rightK
  rw [allB_succ]
  simp
theorem outJ_succ (l : List V2) (i k : Nat) : outJ l i (k + 1) = (outJ l i k || decide (whereR l (midP (gt l i) (gt l k)) = 0)) := by
  unfold outJ
  rw [allB_succ]
  simp
theorem outK_succ (l : List V2) (i : Nat) : outK l (i + 1) = (outK l i || outJ l i l.length) := by
  unfold outK
  rw [allB_succ]
  simp
theorem middle_det {a b : V2} (ha : In 2000 a) (hb : In 2000 b) : Det Try.prog 41 [vD a, vD b] (.d (pD (midP a b))) := by
  have a0 := ha.x0
  have a1 := ha.x1
  have a2 := ha.y0
  have a3 := ha.y1
  have b0 := hb.x0
  have b1 := hb.x1
  have b2 := hb.y0
  have b3 := hb.y1
  have wx : IntKind.i64.wrap (a.x + b.x) = a.x + b.x := wid (by omega) (by omega)
  have wy : IntKind.i64.wrap (a.y + b.y) = a.y + b.y := wid (by omega) (by omega)
  have e1 := Int.mul_tdiv_add_tmod (a.x + b.x) 2
  have e2 := Int.mul_tdiv_add_tmod (a.y + b.y) 2
  refine det_of_awp TTok mixed Try.func41 rfl rfl [] (Nat.le_of_ble_eq_true rfl) ?_
  refine Need.mk (by kernel_rfl) ?_
  refine Need.mk (by decide) ?_
  refine Split.mk (fun c1 => ?_) (fun c1 => ?_)
  · have d1 : (a.x + b.x).tmod 2 = 0 := by
      have : ((IntKind.i64.wrap (a.x + b.x)).tmod 2 == 0) = true := c1
      rw [wx] at this; simpa using this
    repeat' first | refine Split.isT c1 ?_ | refine Split.t ?_ | refine Need.mk (by decide) ?_ | fail
    refine Split.mk (fun c2 => ?_) (fun c2 => ?_)
    · have d2 : (a.y + b.y).tmod 2 = 0 := by
        have : ((IntKind.i64.wrap (a.y + b.y)).tmod 2 == 0) = true := c2
        rw [wy] at this; simpa using this
      repeat' first | refine Split.isT c2 ?_ | refine Split.isT c1 ?_ | refine Split.t ?_ | refine Need.mk (by decide) ?_ | fail
      refine Fin.eq ?_
      show TV.d (.agg [i64 (IntKind.i64.wrap ((IntKind.i64.wrap (a.x + b.x)).tdiv 2)), i64 (IntKind.i64.wrap ((IntKind.i64.wrap (a.y + b.y)).tdiv 2)), i64 1]) = _
      rw [wx, wy, wid (n := (a.x + b.x).tdiv 2) (by omega) (by omega), wid (n := (a.y + b.y).tdiv 2) (by omega) (by omega), midP, if_pos ⟨d1, d2⟩]
    · have d2 : ¬ (a.y + b.y).tmod 2 = 0 := by
        have : ((IntKind.i64.wrap (a.y + b.y)).tmod 2 == 0) = false := c2
        rw [wy] at this; simpa using this
      repeat' first | refine Split.isF c2 ?_ | refine Split.isT c1 ?_ | refine Split.f ?_ | fail
      refine Fin.eq ?_
      show TV.d (.agg [i64 (IntKind.i64.wrap (a.x + b.x)), i64 (IntKind.i64.wrap (a.y + b.y)), i64 2]) = _
      rw [wx, wy, midP, if_neg (fun h => d2 h.2)]
  · have d1 : ¬ (a.x + b.x).tmod 2 = 0 := by
      have : ((IntKind.i64.wrap (a.x + b.x)).tmod 2 == 0) = false := c1
      rw [wx] at this; simpa using this
    repeat' first | refine Split.isF c1 ?_ | refine Split.f ?_ | fail
    refine Fin.eq ?_
    show TV.d (.agg [i64 (IntKind.i64.wrap (a.x + b.x)), i64 (IntKind.i64.wrap (a.y + b.y)), i64 2]) = _
    rw [wx, wy, midP, if_neg (fun h => d1 h.1)]
theorem lconvex_det (l : List V2) (hl : l.length ≤ maxLen) : Det Try.prog 9 [.one (vlS l)] (tbool true) := by
  refine det_of_awp TTok mixed Try.func9 rfl rfl [] (Nat.le_of_ble_eq_true rfl) ?_
  refine CallW.mk' awake8_det ?_
  refine Split.f ?_
  refine CallW.bool (few_det l hl) (fun b hb => ?_)
  refine Split.mk (fun h => ?_) (fun h => ?_)
  · repeat' first | refine Split.t ?_ | refine Split.f ?_ | refine Split.isT h ?_ | fail
    exact Fin.rfl'
  have h6 : l.length ≤ 60 := by
    have : b = true := by simpa using h
    exact of_decide_eq_true (by rw [← hb, this])
  repeat' first | refine Split.t ?_ | refine Split.f ?_ | refine Split.isF h ?_ | fail
  refine CallW.bool (valid_det' l (by omega)) (fun c hc => ?_)
  repeat' first | refine Split.t ?_ | refine Split.f ?_ | refine Split.isF h ?_ | fail
  refine Split.mk (fun h1 => ?_) (fun h1 => ?_)
  · repeat' first | refine Split.t ?_ | refine Split.f ?_ | refine Split.isF h ?_ | refine Split.isT h1 ?_ | fail
    exact Fin.rfl'
  have hr : RingOk l := ring_ok.1 (by rw [← hc]; simpa using h1)
  have h3 := hr.three
  repeat' first | refine Split.t ?_ | refine Split.f ?_ | refine Split.isF h ?_ | refine Split.isF h1 ?_ | fail
  refine Loop.by (α := Nat) (fun i => [(0, .d (.one (vlS l))), (3, tbool (outK l i)), (4, tbool (rightK l i)), (5, tint l.length), (6, tint i)]) (fun _ => []) (fun i => i ≤ l.length) (fun i => l.length - i)
    (Adj.at 0 (Nat.zero_le _) .nil (.cons .same (.cons (SlotLe.bool rfl) (.cons (SlotLe.bool rfl) (.cons .same (.cons .same .nil)))))) (fun i hi => ?_)
  refine Split.mk (fun c1 => ?_) (fun c1 => ?_)
  · have hlt : i < l.length := by have := of_decide_eq_true c1; omega
    have hw64 : IntKind.i64.wrap ((i : Int) + 1) = ((i + 1 : Nat) : Int) := by rw [hw _ (by omega) (by omega)]; omega
    have f1 := natw i 1 (by omega) (by omega)
    have f2 := natw i 2 (by omega) (by omega)
    have g1 := tmodB (i + 1) l.length (by omega)
    have g2 := tmodB (i + 2) l.length (by omega)
    have hsucc := rightK_succ l i
    have inner : ∀ (x : Bool), x = rightK l (i + 1) → True := fun _ _ => trivial
    refine Split.mk (fun c2 => ?pa) (fun c2 => ?pb)
    case' pa =>
      replace c2 : rightK l i = true := c2
      have hR : true = rightK l (i + 1) := by rw [hsucc, c2]; rfl
      repeat' first | refine Split.isT c2 ?_ | refine Split.t ?_ | refine Need.mk (by kernel_rfl) ?_ | fail
    case' pb =>
      replace c2 : rightK l i = false := c2
      repeat' first | refine Split.isF c2 ?_ | refine Split.f ?_ | fail
      refine Need.mk (by omega) ?_
      repeat' first | refine Split.isF c2 ?_ | refine Split.f ?_ | fail
      refine Need.mk (by omega) ?_
      repeat' first | refine Split.isF c2 ?_ | refine Split.f ?_ | fail
      refine Need.mk (by rw [show (1 : Int) = (1 : Nat) from rfl, f1]; exact g1) ?_
      repeat' first | refine Split.isF c2 ?_ | refine Split.f ?_ | fail
      refine Need.mk (by omega) ?_
      repeat' first | refine Split.isF c2 ?_ | refine Split.f ?_ | fail
      refine Need.mk (by rw [show (2 : Int) = (2 : Nat) from rfl, f2]; exact g2) ?_
      repeat' first | refine Split.isF c2 ?_ | refine Split.f ?_ | fail
      refine CallW.int (turn_det (gt l i) (gt l (Int.toNat ((IntKind.i64.wrap ((i : Int) + (1 : Nat))).tmod l.length))) (gt l (Int.toNat ((IntKind.i64.wrap ((i : Int) + (2 : Nat))).tmod l.length)))) (fun t ht => ?_)
      rw [f1, f2, tmodN, tmodN] at ht
      have hR : decide (t < 0) = rightK l (i + 1) := by rw [hsucc, c2, Bool.false_or, ht]
      repeat' first | refine Split.isF c2 ?_ | refine Split.f ?_ | refine Need.mk (by kernel_rfl) ?_ | fail
    all_goals
      refine Loop.by (α := Nat) (fun k => [(0, .d (.one (vlS l))), (3, tbool (outK l i || outJ l i k)), (4, tbool (rightK l (i + 1))), (5, tint l.length), (6, tint i), (7, tint k)]) (fun _ => []) (fun k => k ≤ l.length) (fun k => l.length - k)
        (Adj.at 0 (Nat.zero_le _) .nil (.cons .same (.cons (SlotLe.bool (by simp [outJ, allB])) (.cons (SlotLe.bool hR) (.cons .same (.cons .same (.cons .same .nil))))))) (fun k hk => ?_)
      refine Split.mk (fun c3 => ?_) (fun c3 => ?_)
      · have hlk : k < l.length := by have := of_decide_eq_true c3; omega
        have hk64 : IntKind.i64.wrap ((k : Int) + 1) = ((k + 1 : Nat) : Int) := by rw [hw _ (by omega) (by omega)]; omega
        have hs2 := outJ_succ l i k
        refine Split.mk (fun c4 => ?_) (fun c4 => ?_)
        · replace c4 : (outK l i || outJ l i k) = true := c4
          repeat' first | refine Split.isT c4 ?_ | refine Split.t ?_ | refine Need.mk (by kernel_rfl) ?_ | fail
          exact Adj.back (x := k) (k + 1) (by omega) (by omega) .nil (.cons .same (.cons (SlotLe.bool (by rw [hs2, ← Bool.or_assoc, c4]; rfl)) (.cons .same (.cons .same (.cons .same (.cons (SlotLe.int hk64) .nil))))))
        · replace c4 : (outK l i || outJ l i k) = false := c4
          repeat' first | refine Split.isF c4 ?_ | refine Split.f ?_ | fail
          refine Need.mk (by omega) ?_
          repeat' first | refine Split.isF c4 ?_ | refine Split.f ?_ | fail
          refine Need.mk (by omega) ?_
          repeat' first | refine Split.isF c4 ?_ | refine Split.f ?_ | fail
          refine CallW.mk' (middle_det (near_in hr.near i) (near_in hr.near k)) ?_
          repeat' first | refine Split.isF c4 ?_ | refine Split.f ?_ | fail
          refine CallW.int (where_det l (midP (gt l i) (gt l k)) (by omega)) (fun x hx => ?_)
          repeat' first | refine Split.isF c4 ?_ | refine Split.f ?_ | refine Need.mk (by kernel_rfl) ?_ | fail
          exact Adj.back (x := k) (k + 1) (by omega) (by omega) .nil (.cons .same (.cons (SlotLe.bool (by rw [hs2, ← Bool.or_assoc, c4, Bool.false_or, ← hx]; rfl)) (.cons .same (.cons .same (.cons .same (.cons (SlotLe.int hk64) .nil))))))
      · obtain rfl : k = l.length := by have := of_decide_eq_false c3; omega
        exact Adj.back (x := i) (i + 1) (by omega) (by omega) .nil (.cons .same (.cons (SlotLe.bool (outK_succ l i).symm) (.cons .same (.cons .same (.cons (SlotLe.int hw64) .nil)))))
  · obtain rfl : i = l.length := by have := of_decide_eq_false c1; omega
    refine CallW.bool (convex_det l (by omega)) (fun d hd => ?_)
    rw [convex_right hr] at hd
    have hro : rightK l l.length = false → outK l l.length = false := fun e => out_none hr (Classical.byContradiction fun q => by rw [(right_iff hr).2 q] at e; cases e)
    generalize rightK l l.length = r at hd hro ⊢
    generalize outK l l.length = o at hro ⊢
    cases r with
    | true =>
      have hd' : d = false := hd
      subst hd'
      repeat' first | refine Split.t ?_ | refine Split.f ?_ | refine Need.mk (by kernel_rfl) ?_ | refine Fin.bool ?_ | fail
      all_goals rfl
    | false =>
      have hd' : d = true := hd
      have ho : o = false := hro rfl
      subst hd' ho
      repeat' first | refine Split.t ?_ | refine Split.f ?_ | refine Need.mk (by kernel_rfl) ?_ | refine Fin.bool ?_ | fail
      all_goals rfl
theorem lconvex_all : ∀ dvs, TypL Try.prog Try.f9.params.toList dvs → Det Try.prog 9 dvs (tbool true) := by
  intro dvs h
  obtain ⟨v0, r0, rfl, h0, q0⟩ := TypL.inv_cons (t := 23) (ts := []) h
  obtain rfl := TypL.inv_nil q0
  obtain ⟨l, hl, hle⟩ := ring_of h0
  exact Det.le (.cons hle .nil) (lconvex_det l hl)
end Sg
end Go.Vm
