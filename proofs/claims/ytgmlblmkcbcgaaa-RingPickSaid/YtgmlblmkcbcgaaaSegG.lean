/-
  Layer 7: numbers stay small; contracts of the program's lines and meet.
-/
import Derived.Test.YtgmlblmkcbcgaaaSegF
namespace Go.Vm
set_option maxRecDepth 20000
set_option linter.unusedVariables false
set_option linter.unusedSimpArgs false
namespace Sg
open Go Go.RowKit Go.Proofs

def subP (a b : V2) : V2 := ⟨a.x - b.x, a.y - b.y⟩
def crossP (a b : V2) : Int := a.x * b.y - a.y * b.x
structure In (m : Int) (v : V2) : Prop where
  x0 : -m ≤ v.x
  x1 : v.x ≤ m
  y0 : -m ≤ v.y
  y1 : v.y ≤ m
theorem In.of {v : V2} {m : Int} (h0 : 0 ≤ m) (h1 : m ≤ 4611686018427387904) (h : withinV v m = true) : In m v := by
  have := (withinV_iff h0 h1).1 h
  exact ⟨by omega, by omega, by omega, by omega⟩
theorem In.within {v : V2} {m : Int} (h0 : 0 ≤ m) (h1 : m ≤ 4611686018427387904) (h : In m v) : withinV v m = true := (withinV_iff h0 h1).2 ⟨h.x0, h.x1, h.y0, h.y1⟩
theorem valid_in {s : Seg} (h : validS s = true) : In 4000 s.a ∧ In 4000 s.b := by
  simp only [validS, Bool.and_eq_true] at h
  exact ⟨In.of (by decide) (by decide) h.1, In.of (by decide) (by decide) h.2⟩
theorem in_valid {s : Seg} (h : In 4000 s.a) (k : In 4000 s.b) : validS s = true := by
  simp only [validS, Bool.and_eq_true]
  exact ⟨h.within (by decide) (by decide), k.within (by decide) (by decide)⟩
theorem mul_abs {x y X Y : Int} (hx : -X ≤ x ∧ x ≤ X) (hy : -Y ≤ y ∧ y ≤ Y) : -(X * Y) ≤ x * y ∧ x * y ≤ X * Y := by
  have h1 : (x * y).natAbs ≤ X.natAbs * Y.natAbs := by
    rw [Int.natAbs_mul]
    exact Nat.mul_le_mul (by omega) (by omega)
  have h2 : ((X.natAbs * Y.natAbs : Nat) : Int) = X * Y := by
    rw [Int.natCast_mul, Int.natAbs_of_nonneg (by omega), Int.natAbs_of_nonneg (by omega)]
  omega
theorem subW_eq {m : Int} {a b : V2} (hm : m ≤ 1000000000) (ha : In m a) (hb : In m b) : subW a b = subP a b ∧ In (2 * m) (subP a b) := by
  obtain ⟨a1, a2, a3, a4⟩ := ha
  obtain ⟨b1, b2, b3, b4⟩ := hb
  refine ⟨?_, ⟨?_, ?_, ?_, ?_⟩⟩
  · unfold subW subP
    simp (disch := omega) only [wid']
  all_goals (simp only [subP]; omega)
theorem crossW_eq {m : Int} {a b : V2} (h0 : 0 ≤ m) (hm : m ≤ 1000000000) (ha : In m a) (hb : In m b) : crossW a b = crossP a b ∧ -(2 * (m * m)) ≤ crossP a b ∧ crossP a b ≤ 2 * (m * m) := by
  obtain ⟨a1, a2, a3, a4⟩ := ha
  obtain ⟨b1, b2, b3, b4⟩ := hb
  have k1 := mul_abs (x := a.x) (y := b.y) (X := m) (Y := m) ⟨a1, a2⟩ ⟨b3, b4⟩
  have k2 := mul_abs (x := a.y) (y := b.x) (X := m) (Y := m) ⟨a3, a4⟩ ⟨b1, b2⟩
  have k3 : m * m ≤ 1000000000 * 1000000000 := Int.mul_le_mul hm hm h0 (by omega)
  refine ⟨?_, ?_⟩
  · unfold crossW crossP
    simp (disch := omega) only [wid']
  · unfold crossP
    omega
def turnP (a b c : V2) : Int := sgnI (crossP (subP b a) (subP c a))
theorem turnW_eq {m : Int} {a b c : V2} (h0 : 0 ≤ m) (hm : m ≤ 100000000) (ha : In m a) (hb : In m b) (hc : In m c) : turnW a b c = turnP a b c := by
  unfold turnW turnP
  obtain ⟨e1, i1⟩ := subW_eq (by omega) hb ha
  obtain ⟨e2, i2⟩ := subW_eq (by omega) hc ha
  rw [e1, e2, (crossW_eq (by omega) (by omega) i1 i2).1]

/-! ### points in lowest terms -/
def low (x y d : Int) : P3 := ⟨x.tdiv (Int.gcd (Int.gcd x y) d), y.tdiv (Int.gcd (Int.gcd x y) d), d.tdiv (Int.gcd (Int.gcd x y) d)⟩
def lowP (x y d : Int) : P3 := if d < 0 then low (-x) (-y) (-d) else low x y d
theorem gcd_pos {g d : Int} (h : d ≠ 0) : ((Int.gcd g d : Nat) : Int) ≠ 0 := by
  have : Int.gcd g d ≠ 0 := fun h' => h (Int.gcd_eq_zero_iff.1 h').2
  omega
theorem tdiv_big {x g : Int} (hx : Big x) : Big (x.tdiv g) := by
  have h : (x.tdiv g).natAbs ≤ x.natAbs := by
    rw [Int.natAbs_tdiv]
    exact Nat.div_le_self _ _
  obtain ⟨h1, h2⟩ := hx
  constructor <;> omega
theorem big_w {x : Int} (h : Big x) : w64 x = x := wid' (by have := h.1; omega) (by have := h.2; omega)
abbrev Small (n : Int) : Prop := -1000000000000000 ≤ n ∧ n ≤ 1000000000000000
theorem small_big {n : Int} (h : Small n) : Big n := ⟨by omega, by omega⟩
theorem gcd_small {a b : Int} (ha : Small a) (hb : Small b) : Small (Int.gcd a b : Nat) := by
  have := gcd_le_of 1000000000000000 ha hb (by omega)
  constructor <;> omega
/-! ### what two segments have in common -/
structure Com where
  kind : Int
  p : P3
  s : Seg
abbrev comL (c : Com) : List SV := [i64 c.kind, i64 c.p.x, i64 c.p.y, i64 c.p.d, i64 c.s.a.x, i64 c.s.a.y, i64 c.s.b.x, i64 c.s.b.y]
abbrev comD (c : Com) : DV := .agg (comL c)
abbrev p0 : P3 := ⟨0, 0, 0⟩
abbrev v0 : V2 := ⟨0, 0⟩
abbrev s0 : Seg := ⟨v0, v0⟩
abbrev noneC : Com := ⟨0, p0, s0⟩
abbrev singleC (p : V2) : Com := ⟨1, ptOf p, s0⟩
theorem single_det (p : V2) : Det Try.prog 109 [vD p] (.d (comD (singleC p))) := by
  refine det_of_awp TTok mixed Try.func109 rfl rfl [] (Nat.le_of_ble_eq_true rfl) ?_
  refine CallW.mk' (pointof_det p) ?_
  repeat' first | refine Need.mk (by kernel_rfl) ?_ | fail
  exact Fin.rfl'

/-- What the lines of two segments say: a and b of d, the places of the common point on both. -/
def outB (a b d : Int) : Prop := a < 0 ∨ a > d ∨ b < 0 ∨ b > d
instance (a b d : Int) : Decidable (outB a b d) := by unfold outB; exact inferInstance
def endB (a b d : Int) : Prop := a = 0 ∨ a = d ∨ b = 0 ∨ b = d
instance (a b d : Int) : Decidable (endB a b d) := by unfold endB; exact inferInstance
def lineC (s : Seg) (u : V2) (a b d : Int) : Com := if outB a b d then noneC else ⟨if endB a b d then 1 else 2, low (s.a.x * d + a * u.x) (s.a.y * d + a * u.y) d, s0⟩
def linesC (s t : Seg) : Com :=
  let u := subP s.b s.a
  let v := subP t.b t.a
  let g := subP t.a s.a
  if crossP u v < 0 then lineC s u (-crossP g v) (-crossP g u) (-crossP u v) else lineC s u (crossP g v) (crossP g u) (crossP u v)

theorem lines_det (s t : Seg) (hs : validS s = true) (ht : validS t = true) (hd : crossP (subP s.b s.a) (subP t.b t.a) ≠ 0) :
    Det Try.prog 107 [sD s, sD t, .one (i64 (crossP (subP s.b s.a) (subP t.b t.a)))] (.d (comD (linesC s t))) := by
  obtain ⟨sa, sb⟩ := valid_in hs
  obtain ⟨ta, tb⟩ := valid_in ht
  obtain ⟨eu, iu⟩ := subW_eq (by decide) sb sa
  obtain ⟨ev, iv⟩ := subW_eq (by decide) tb ta
  obtain ⟨eg, ig⟩ := subW_eq (by decide) ta sa
  obtain ⟨ea, ba1, ba2⟩ := crossW_eq (by decide) (by decide) ig iv
  obtain ⟨eb, bb1, bb2⟩ := crossW_eq (by decide) (by decide) ig iu
  obtain ⟨ed, bd1, bd2⟩ := crossW_eq (by decide) (by decide) iu iv
  have nrm : ∀ D A B : Int, linesC s t = lineC s (subP s.b s.a) A B D → 0 < D → D ≤ 128000000 → -128000000 ≤ A → A ≤ 128000000 →
      ¬ outB A B D → (Small (s.a.x * D + A * (subP s.b s.a).x) ∧ Small (s.a.y * D + A * (subP s.b s.a).y) ∧ w64 (w64 (s.a.x * D) + w64 (A * (subP s.b s.a).x)) = s.a.x * D + A * (subP s.b s.a).x ∧ w64 (w64 (s.a.y * D) + w64 (A * (subP s.b s.a).y)) = s.a.y * D + A * (subP s.b s.a).y) := fun D A B _ h1 h2 h3 h4 _ => by
    have k1 := mul_abs (x := s.a.x) (y := D) (X := 4000) (Y := 128000000) ⟨sa.x0, sa.x1⟩ ⟨by omega, h2⟩
    have k2 := mul_abs (x := s.a.y) (y := D) (X := 4000) (Y := 128000000) ⟨sa.y0, sa.y1⟩ ⟨by omega, h2⟩
    have k3 := mul_abs (x := A) (y := (subP s.b s.a).x) (X := 128000000) (Y := 8000) ⟨h3, h4⟩ ⟨iu.x0, iu.x1⟩
    have k4 := mul_abs (x := A) (y := (subP s.b s.a).y) (X := 128000000) (Y := 8000) ⟨h3, h4⟩ ⟨iu.y0, iu.y1⟩
    refine ⟨⟨by omega, by omega⟩, ⟨by omega, by omega⟩, ?_, ?_⟩
    · simp (disch := omega) only [wid']
    · simp (disch := omega) only [wid']
  have hcross : crossP (subP s.b s.a) (subP t.b t.a) = crossP (subP s.b s.a) (subP t.b t.a) := rfl
  generalize hD : crossP (subP s.b s.a) (subP t.b t.a) = d at *
  refine det_of_awp TTok mixed Try.func107 rfl rfl [] (Nat.le_of_ble_eq_true rfl) ?_
  refine CallW.v (eu ▸ vsub_det s.b s.a) (fun u hu => ?_)
  refine CallW.v (ev ▸ vsub_det t.b t.a) (fun v hv => ?_)
  refine Need.mk (by kernel_rfl) ?_
  refine CallW.v (eg ▸ vsub_det t.a s.a) (fun g0 hg0 => ?_)
  simp only [← hu] at iu eb bb1 bb2 nrm
  simp only [← hv] at iv ea ba1 ba2
  simp only [← hg0] at ea ba1 ba2 eb bb1 bb2
  refine CallW.int (ea ▸ vcross_det g0 v) (fun a ha => ?_)
  refine CallW.int (eb ▸ vcross_det g0 u) (fun b hb => ?_)
  refine Need.mk (by kernel_rfl) ?_
  rw [← ha] at ba1 ba2
  rw [← hb] at bb1 bb2
  have hlc : linesC s t = if d < 0 then lineC s u (-a) (-b) (-d) else lineC s u a b d := by
    rw [ha, hb, ← hD, hg0, hv, hu]
    rfl
  have hna : IntKind.i64.wrap (0 - a) = -a := (wid (by omega) (by omega)).trans (by omega)
  have hnb : IntKind.i64.wrap (0 - b) = -b := (wid (by omega) (by omega)).trans (by omega)
  have hnd : IntKind.i64.wrap (0 - d) = -d := (wid (by omega) (by omega)).trans (by omega)
  have hra : a = a := rfl
  have hrb : b = b := rfl
  have hrd : d = d := rfl
  refine Split.mk (fun h => ?_) (fun h => ?_)
  · replace h := of_decide_eq_true (show decide (d < 0) = true from h)
    have hline : linesC s t = lineC s u (-a) (-b) (-d) := by rw [hlc, if_pos h]
    have hout : outB (-a) (-b) (-d) → linesC s t = noneC := fun h => by rw [hline, lineC, if_pos h]
    refine Split.mk (fun k1 => ?_) (fun k1 => ?_)
    · replace k1 := of_decide_eq_true k1
      repeat' first | refine Split.t ?_ | refine Need.mk (by kernel_rfl) ?_ | fail
      rw [hout (.inl (hna ▸ k1))]
      exact Fin.rfl'
    replace k1 := of_decide_eq_false k1
    repeat' first | refine Split.f ?_ | fail
    refine Split.mk (fun k2 => ?_) (fun k2 => ?_)
    · replace k2 := of_decide_eq_true k2
      repeat' first | refine Split.t ?_ | refine Need.mk (by kernel_rfl) ?_ | fail
      rw [hout (.inr (.inl (hna ▸ hnd ▸ k2)))]
      exact Fin.rfl'
    replace k2 := of_decide_eq_false k2
    repeat' first | refine Split.f ?_ | fail
    refine Split.mk (fun k3 => ?_) (fun k3 => ?_)
    · replace k3 := of_decide_eq_true k3
      repeat' first | refine Split.t ?_ | refine Need.mk (by kernel_rfl) ?_ | fail
      rw [hout (.inr (.inr (.inl (hnb ▸ k3))))]
      exact Fin.rfl'
    replace k3 := of_decide_eq_false k3
    repeat' first | refine Split.f ?_ | fail
    refine Split.mk (fun k4 => ?_) (fun k4 => ?_)
    · replace k4 := of_decide_eq_true k4
      repeat' first | refine Split.t ?_ | refine Need.mk (by kernel_rfl) ?_ | fail
      rw [hout (.inr (.inr (.inr (hnb ▸ hnd ▸ k4))))]
      exact Fin.rfl'
    replace k4 := of_decide_eq_false k4
    rw [hna] at k1 k2
    rw [hnd] at k2 k4
    rw [hnb] at k3 k4
    have hno : ¬ outB (-a) (-b) (-d) := by unfold outB; omega
    obtain ⟨n1, n2, n3, n4⟩ := nrm (-d) (-a) (-b) hline (by omega) (by omega) (by omega) (by omega) hno
    have res : linesC s t = ⟨if endB (-a) (-b) (-d) then 1 else 2, low (s.a.x * (-d) + (-a) * u.x) (s.a.y * (-d) + (-a) * u.y) (-d), s0⟩ := by rw [hline, lineC, if_neg hno]
    rw [← hna, ← hnd] at n3 n4
    rw [← hna, ← hnd] at n1 n2
    have m1 : Small (w64 (w64 (s.a.x * (IntKind.i64.wrap (0 - d))) + w64 ((IntKind.i64.wrap (0 - a)) * u.x))) := by rw [n3]; exact n1
    have m2 : Small (w64 (w64 (s.a.y * (IntKind.i64.wrap (0 - d))) + w64 ((IntKind.i64.wrap (0 - a)) * u.y))) := by rw [n4]; exact n2
    have m3 : Small (IntKind.i64.wrap (0 - d)) := by rw [hnd]; constructor <;> omega
    refine Need.mk (by kernel_rfl) ?_
    refine CallW.int (gcd_det _ _ (small_big m1) (small_big m2)) (fun g1 hg1 => ?_)
    have m4 : Small g1 := by rw [hg1]; exact gcd_small m1 m2
    refine CallW.int (gcd_det g1 (IntKind.i64.wrap (0 - d)) (small_big m4) (small_big m3)) (fun g hg => ?_)
    have hgne : g ≠ 0 := by rw [hg]; exact gcd_pos (by rw [hnd]; omega)
    refine Need.mk hgne ?_
    refine Need.mk hgne ?_
    refine Need.mk hgne ?_
    refine Need.mk (by kernel_rfl) ?_
    have hg1' : g1 = (Int.gcd (w64 (w64 (s.a.x * (IntKind.i64.wrap (0 - d))) + w64 ((IntKind.i64.wrap (0 - a)) * u.x))) (w64 (w64 (s.a.y * (IntKind.i64.wrap (0 - d))) + w64 ((IntKind.i64.wrap (0 - a)) * u.y))) : Nat) := hg1
    rw [n3, n4] at hg1'
    have low_e : (⟨w64 ((w64 (w64 (s.a.x * (IntKind.i64.wrap (0 - d))) + w64 ((IntKind.i64.wrap (0 - a)) * u.x))).tdiv g), w64 ((w64 (w64 (s.a.y * (IntKind.i64.wrap (0 - d))) + w64 ((IntKind.i64.wrap (0 - a)) * u.y))).tdiv g), w64 ((IntKind.i64.wrap (0 - d)).tdiv g)⟩ : P3) = low (s.a.x * (-d) + (-a) * u.x) (s.a.y * (-d) + (-a) * u.y) (-d) := by
      rw [big_w (tdiv_big (small_big m1)), big_w (tdiv_big (small_big m2)), big_w (tdiv_big (small_big m3)), hg, hg1', n3, n4, hna, hnd]
      rfl
    have leaf : ∀ k : Int, k = (if endB (-a) (-b) (-d) then 1 else 2) → Fin (.d (comD ⟨k, ⟨w64 ((w64 (w64 (s.a.x * (IntKind.i64.wrap (0 - d))) + w64 ((IntKind.i64.wrap (0 - a)) * u.x))).tdiv g), w64 ((w64 (w64 (s.a.y * (IntKind.i64.wrap (0 - d))) + w64 ((IntKind.i64.wrap (0 - a)) * u.y))).tdiv g), w64 ((IntKind.i64.wrap (0 - d)).tdiv g)⟩, s0⟩)) (.d (comD (linesC s t))) := fun k hk => by
      rw [res, low_e, hk]
      exact Fin.rfl'
    refine Split.mk (fun j1 => ?_) (fun j1 => ?_)
    · have j1' : (IntKind.i64.wrap (0 - a)) = 0 := by simpa using j1
      repeat' first | refine Split.t ?_ | refine Need.mk (by kernel_rfl) ?_ | fail
      exact leaf 1 (by rw [if_pos (.inl (hna ▸ j1'))])
    have j1' : (IntKind.i64.wrap (0 - a)) ≠ 0 := by simpa using j1
    repeat' first | refine Split.f ?_ | fail
    refine Split.mk (fun j2 => ?_) (fun j2 => ?_)
    · have j2' : (IntKind.i64.wrap (0 - a)) = (IntKind.i64.wrap (0 - d)) := by simpa using j2
      repeat' first | refine Split.t ?_ | refine Need.mk (by kernel_rfl) ?_ | fail
      exact leaf 1 (by rw [if_pos (.inr (.inl (hna ▸ hnd ▸ j2')))])
    have j2' : (IntKind.i64.wrap (0 - a)) ≠ (IntKind.i64.wrap (0 - d)) := by simpa using j2
    repeat' first | refine Split.f ?_ | fail
    refine Split.mk (fun j3 => ?_) (fun j3 => ?_)
    · have j3' : (IntKind.i64.wrap (0 - b)) = 0 := by simpa using j3
      repeat' first | refine Split.t ?_ | refine Need.mk (by kernel_rfl) ?_ | fail
      exact leaf 1 (by rw [if_pos (.inr (.inr (.inl (hnb ▸ j3'))))])
    have j3' : (IntKind.i64.wrap (0 - b)) ≠ 0 := by simpa using j3
    repeat' first | refine Split.f ?_ | fail
    refine Split.mk (fun j4 => ?_) (fun j4 => ?_)
    · have j4' : (IntKind.i64.wrap (0 - b)) = (IntKind.i64.wrap (0 - d)) := by simpa using j4
      repeat' first | refine Split.t ?_ | refine Need.mk (by kernel_rfl) ?_ | fail
      exact leaf 1 (by rw [if_pos (.inr (.inr (.inr (hnb ▸ hnd ▸ j4'))))])
    have j4' : (IntKind.i64.wrap (0 - b)) ≠ (IntKind.i64.wrap (0 - d)) := by simpa using j4
    refine leaf 2 ?_
    rw [if_neg]
    rw [hna] at j1' j2'
    rw [hnb] at j3' j4'
    rw [hnd] at j2' j4'
    unfold endB
    omega
  · replace h := of_decide_eq_false (show decide (d < 0) = false from h)
    have hline : linesC s t = lineC s u a b d := by rw [hlc, if_neg h]
    have hout : outB a b d → linesC s t = noneC := fun h => by rw [hline, lineC, if_pos h]
    refine Split.mk (fun k1 => ?_) (fun k1 => ?_)
    · replace k1 := of_decide_eq_true k1
      repeat' first | refine Split.t ?_ | refine Need.mk (by kernel_rfl) ?_ | fail
      rw [hout (.inl (k1))]
      exact Fin.rfl'
    replace k1 := of_decide_eq_false k1
    repeat' first | refine Split.f ?_ | fail
    refine Split.mk (fun k2 => ?_) (fun k2 => ?_)
    · replace k2 := of_decide_eq_true k2
      repeat' first | refine Split.t ?_ | refine Need.mk (by kernel_rfl) ?_ | fail
      rw [hout (.inr (.inl (k2)))]
      exact Fin.rfl'
    replace k2 := of_decide_eq_false k2
    repeat' first | refine Split.f ?_ | fail
    refine Split.mk (fun k3 => ?_) (fun k3 => ?_)
    · replace k3 := of_decide_eq_true k3
      repeat' first | refine Split.t ?_ | refine Need.mk (by kernel_rfl) ?_ | fail
      rw [hout (.inr (.inr (.inl (k3))))]
      exact Fin.rfl'
    replace k3 := of_decide_eq_false k3
    repeat' first | refine Split.f ?_ | fail
    refine Split.mk (fun k4 => ?_) (fun k4 => ?_)
    · replace k4 := of_decide_eq_true k4
      repeat' first | refine Split.t ?_ | refine Need.mk (by kernel_rfl) ?_ | fail
      rw [hout (.inr (.inr (.inr (k4))))]
      exact Fin.rfl'
    replace k4 := of_decide_eq_false k4
    have hno : ¬ outB a b d := by unfold outB; omega
    obtain ⟨n1, n2, n3, n4⟩ := nrm d a b hline (by omega) (by omega) (by omega) (by omega) hno
    have res : linesC s t = ⟨if endB a b d then 1 else 2, low (s.a.x * d + a * u.x) (s.a.y * d + a * u.y) d, s0⟩ := by rw [hline, lineC, if_neg hno]
    have m1 : Small (w64 (w64 (s.a.x * d) + w64 (a * u.x))) := by rw [n3]; exact n1
    have m2 : Small (w64 (w64 (s.a.y * d) + w64 (a * u.y))) := by rw [n4]; exact n2
    have m3 : Small d := by constructor <;> omega
    refine Need.mk (by kernel_rfl) ?_
    refine CallW.int (gcd_det _ _ (small_big m1) (small_big m2)) (fun g1 hg1 => ?_)
    have m4 : Small g1 := by rw [hg1]; exact gcd_small m1 m2
    refine CallW.int (gcd_det g1 d (small_big m4) (small_big m3)) (fun g hg => ?_)
    have hgne : g ≠ 0 := by rw [hg]; exact gcd_pos (by omega)
    refine Need.mk hgne ?_
    refine Need.mk hgne ?_
    refine Need.mk hgne ?_
    refine Need.mk (by kernel_rfl) ?_
    have hg1' : g1 = (Int.gcd (w64 (w64 (s.a.x * d) + w64 (a * u.x))) (w64 (w64 (s.a.y * d) + w64 (a * u.y))) : Nat) := hg1
    rw [n3, n4] at hg1'
    have low_e : (⟨w64 ((w64 (w64 (s.a.x * d) + w64 (a * u.x))).tdiv g), w64 ((w64 (w64 (s.a.y * d) + w64 (a * u.y))).tdiv g), w64 (d.tdiv g)⟩ : P3) = low (s.a.x * d + a * u.x) (s.a.y * d + a * u.y) d := by
      rw [big_w (tdiv_big (small_big m1)), big_w (tdiv_big (small_big m2)), big_w (tdiv_big (small_big m3)), hg, hg1', n3, n4]
      rfl
    have leaf : ∀ k : Int, k = (if endB a b d then 1 else 2) → Fin (.d (comD ⟨k, ⟨w64 ((w64 (w64 (s.a.x * d) + w64 (a * u.x))).tdiv g), w64 ((w64 (w64 (s.a.y * d) + w64 (a * u.y))).tdiv g), w64 (d.tdiv g)⟩, s0⟩)) (.d (comD (linesC s t))) := fun k hk => by
      rw [res, low_e, hk]
      exact Fin.rfl'
    refine Split.mk (fun j1 => ?_) (fun j1 => ?_)
    · have j1' : a = 0 := by simpa using j1
      repeat' first | refine Split.t ?_ | refine Need.mk (by kernel_rfl) ?_ | fail
      exact leaf 1 (by rw [if_pos (.inl (j1'))])
    have j1' : a ≠ 0 := by simpa using j1
    repeat' first | refine Split.f ?_ | fail
    refine Split.mk (fun j2 => ?_) (fun j2 => ?_)
    · have j2' : a = d := by simpa using j2
      repeat' first | refine Split.t ?_ | refine Need.mk (by kernel_rfl) ?_ | fail
      exact leaf 1 (by rw [if_pos (.inr (.inl (j2')))])
    have j2' : a ≠ d := by simpa using j2
    repeat' first | refine Split.f ?_ | fail
    refine Split.mk (fun j3 => ?_) (fun j3 => ?_)
    · have j3' : b = 0 := by simpa using j3
      repeat' first | refine Split.t ?_ | refine Need.mk (by kernel_rfl) ?_ | fail
      exact leaf 1 (by rw [if_pos (.inr (.inr (.inl (j3'))))])
    have j3' : b ≠ 0 := by simpa using j3
    repeat' first | refine Split.f ?_ | fail
    refine Split.mk (fun j4 => ?_) (fun j4 => ?_)
    · have j4' : b = d := by simpa using j4
      repeat' first | refine Split.t ?_ | refine Need.mk (by kernel_rfl) ?_ | fail
      exact leaf 1 (by rw [if_pos (.inr (.inr (.inr (j4'))))])
    have j4' : b ≠ d := by simpa using j4
    refine leaf 2 ?_
    rw [if_neg]
    unfold endB
    omega
end Sg
end Go.Vm
