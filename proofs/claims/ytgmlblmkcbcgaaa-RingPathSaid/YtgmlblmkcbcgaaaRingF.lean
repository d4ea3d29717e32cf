/-
  Layer 8: contracts of Where and WherePoint.
-/
import Derived.Test.YtgmlblmkcbcgaaaRingE
namespace Go.Vm
set_option maxRecDepth 20000
set_option linter.unusedVariables false
set_option linter.unusedSimpArgs false
open Go Go.RowKit Go.Proofs
namespace Sg

def toV (p : P3) (v : V2) : V2 := ⟨p.x - v.x * p.d, p.y - v.y * p.d⟩
def sdP (e : Seg) (p : P3) : Int := crossP (subP e.b e.a) (toV p e.a)
def onP (e : Seg) (p : P3) : Bool := decide (sdP e p = 0) && decide (minI (toV p e.a).x (toV p e.b).x ≤ 0) && decide (0 ≤ maxI (toV p e.a).x (toV p e.b).x) && decide (minI (toV p e.a).y (toV p e.b).y ≤ 0) && decide (0 ≤ maxI (toV p e.a).y (toV p e.b).y)
def crsP (e : Seg) (p : P3) : Bool := (!(decide (0 ≤ (toV p e.a).y) == decide (0 ≤ (toV p e.b).y))) && (decide (0 ≤ (toV p e.a).y) == decide (0 < sdP e p))
def parK (l : List V2) (p : P3) : Nat → Bool
  | 0 => false
  | k + 1 => xor (parK l p k) (crsP (edge l k) p)
def onAny (l : List V2) (p : P3) : Bool := !allB l.length fun i => !onP (edge l i) p
def wherePl (l : List V2) (p : P3) : Int := if onAny l p = true then 1 else if parK l p l.length = true then 2 else 0
def whereR (l : List V2) (p : P3) : Int := if validR l = true ∧ validP p = true then wherePl l p else 0

/-- Points and vertices are not too far for the words. -/
structure Far (p : P3) : Prop where
  d0 : 1 ≤ p.d
  d1 : p.d ≤ 134217728
  x0 : -(4000 * p.d) ≤ p.x
  x1 : p.x ≤ 4000 * p.d
  y0 : -(4000 * p.d) ≤ p.y
  y1 : p.y ≤ 4000 * p.d
theorem far_of {p : P3} (h : validP p = true) : Far p := by
  simp only [validP, Bool.and_eq_true] at h
  obtain ⟨h1, h2, h3, h4, h5, h6⟩ := boundB_iff.1 h.1
  exact ⟨h1, h2, h3, h4, h5, h6⟩
theorem mul_d {x d : Int} (h : -2000 ≤ x ∧ x ≤ 2000) (hd : 1 ≤ d ∧ d ≤ 134217728) : -(2000 * d) ≤ x * d ∧ x * d ≤ 2000 * d :=
  ⟨by rw [show -(2000 * d) = (-2000) * d by omega]; exact Int.mul_le_mul_of_nonneg_right h.1 (by omega), Int.mul_le_mul_of_nonneg_right h.2 (by omega)⟩
structure Near (v : V2) : Prop where
  x0 : -805306368000 ≤ v.x
  x1 : v.x ≤ 805306368000
  y0 : -805306368000 ≤ v.y
  y1 : v.y ≤ 805306368000
theorem toV_near {p : P3} {v : V2} (hp : Far p) (hv : In 2000 v) : Near (toV p v) := by
  obtain ⟨a1, a2⟩ := mul_d ⟨hv.x0, hv.x1⟩ ⟨hp.d0, hp.d1⟩
  obtain ⟨b1, b2⟩ := mul_d ⟨hv.y0, hv.y1⟩ ⟨hp.d0, hp.d1⟩
  obtain ⟨d0, d1, x0, x1, y0, y1⟩ := hp
  constructor <;> simp only [toV] <;> omega
def toW (p : P3) (v : V2) : V2 := ⟨w64 (p.x - w64 (v.x * p.d)), w64 (p.y - w64 (v.y * p.d))⟩
theorem toW_eq {p : P3} {v : V2} (hp : Far p) (hv : In 2000 v) : toW p v = toV p v := by
  obtain ⟨a1, a2⟩ := mul_d ⟨hv.x0, hv.x1⟩ ⟨hp.d0, hp.d1⟩
  obtain ⟨b1, b2⟩ := mul_d ⟨hv.y0, hv.y1⟩ ⟨hp.d0, hp.d1⟩
  have h := toV_near hp hv
  have hd := hp.d1
  have e1 : w64 (v.x * p.d) = v.x * p.d := wid' (by omega) (by omega)
  have e2 : w64 (v.y * p.d) = v.y * p.d := wid' (by omega) (by omega)
  unfold toW
  rw [e1, e2]
  have k1 := h.x0; have k2 := h.x1; have k3 := h.y0; have k4 := h.y1
  simp only [toV] at k1 k2 k3 k4
  rw [wid' (by omega) (by omega), wid' (by omega) (by omega)]
  rfl
theorem sdW_eq {u v : V2} (hu : In 4000 u) (hv : Near v) : crossW u v = crossP u v := by
  obtain ⟨x0, x1, y0, y1⟩ := hv
  have m1 := mul_abs ⟨hu.x0, hu.x1⟩ (show -805306368000 ≤ v.y ∧ v.y ≤ 805306368000 from ⟨y0, y1⟩)
  have m2 := mul_abs ⟨hu.y0, hu.y1⟩ (show -805306368000 ≤ v.x ∧ v.x ≤ 805306368000 from ⟨x0, x1⟩)
  unfold crossW crossP
  rw [wid' (n := u.x * v.y) (by omega) (by omega), wid' (n := u.y * v.x) (by omega) (by omega), wid' (by omega) (by omega)]
theorem to_det (p : P3) (v : V2) (cell : Nat → SV) (h0 : cell 0 = i64 p.x) (h1 : cell 1 = i64 p.y) (h2 : cell 2 = i64 p.d) : Det Try.prog 64 [vD v, .one (.ad 3 cell)] (.d (vD (toW p v))) := by
  have hle : DsLe [vD v, .one (.ad 3 cell)] [vD v, .one (.ad 3 fun j => (pL p).getD j (.v Go.undef))] := by
    refine .cons (DLe.refl _) (.cons (DLe.one (fun S w x r => ?_)) .nil)
    obtain ⟨b, off, xs, rfl, r2, r3, r4⟩ := Rd.inv_ad r
    refine .ad xs r2 r3 (fun j hj => ?_)
    have := r4 j hj
    match j, hj with
    | 0, _ => rw [h0] at this; exact this
    | 1, _ => rw [h1] at this; exact this
    | 2, _ => rw [h2] at this; exact this
  refine Det.le hle ?_
  refine det_of_awp TTok mixed Try.func64 rfl rfl [] (Nat.le_of_ble_eq_true rfl) ?_
  exact Fin.rfl'

theorem SlotLe.bool {m m' : Id → Mem} {b b' : Bool} (h : b = b') : SlotLe m m' (tbool b) (tbool b') := h ▸ SlotLe.same
theorem where_det (l : List V2) (p : P3) (hl : l.length ≤ 10000) : Det Try.prog 27 [.one (vlS l), pD p] (tint (whereR l p)) := by
  refine det_of_awp TTok mixed Try.func27 rfl rfl [] (Nat.le_of_ble_eq_true rfl) ?_
  refine CallW.bool (valid_det' l hl) (fun b hb => ?_)
  refine Split.mk (fun h => ?_) (fun h => ?_)
  · have hv : validR l = false := by rw [← hb]; simpa using h
    repeat' first | refine Split.t ?_ | refine Split.f ?_ | fail
    refine Fin.int ?_
    simp [whereR, hv]
  have hv : validR l = true := by rw [← hb]; simpa using h
  repeat' first | refine Split.t ?_ | refine Split.f ?_ | fail
  refine CallW.bool (validp_det p) (fun c hc => ?_)
  repeat' first | refine Split.t ?_ | refine Split.f ?_ | fail
  refine Split.mk (fun h => ?_) (fun h => ?_)
  · have hp : validP p = false := by rw [← hc]; simpa using h
    refine Fin.int ?_
    simp [whereR, hp]
  have hp : validP p = true := by rw [← hc]; simpa using h
  have hwr : whereR l p = wherePl l p := by simp [whereR, hv, hp]
  rw [hwr]
  have hh := hv
  simp only [validR, headB, Bool.and_eq_true, decide_eq_true_eq] at hh
  obtain ⟨⟨⟨⟨⟨h3, h40⟩, hn⟩, h0⟩, hs⟩, ha⟩ := hh
  have hge : ¬ l.length < 2 := by omega
  have hel := edges_len hge
  have hfar := far_of hp
  refine CallW.mk' (edges_det l hl) ?_
  refine Loop.by (α := Nat) (fun k => [(5, .d (.one (.fn 64 1 fun j => [SV.ad 3 fun j => (pL p).getD j (.v Go.undef)].getD j (.v Go.undef)))), (6, tbool (parK l p k)), (23, .d (.one (slS (edgesL l)))), (24, tint (edgesL l).length), (25, tint k)]) (fun _ => []) (fun k => k ≤ l.length ∧ ∀ i, i < k → onP (edge l i) p = false) (fun k => l.length - k)
    (Adj.at 0 ⟨Nat.zero_le _, fun _ h => absurd h (Nat.not_lt_zero _)⟩ .nil (.cons .same (.cons .same (.cons .same (.cons .same (.cons .same .nil)))))) (fun k hk => ?_)
  obtain ⟨hk, hall⟩ := hk
  refine Split.mk (fun h => ?_) (fun h => ?_)
  · have hlt : k < l.length := by have := of_decide_eq_true h; omega
    refine Need.mk (by omega) ?_
    refine CallW.v (to_det p (sGet (edgesL l) k).a _ rfl rfl rfl) (fun a ha => ?_)
    refine CallW.v (to_det p (sGet (edgesL l) k).b _ rfl rfl rfl) (fun b hb => ?_)
    refine Need.mk (by kernel_rfl) ?_
    refine CallW.v (vsub_det (sGet (edgesL l) k).b (sGet (edgesL l) k).a) (fun u hu => ?_)
    refine CallW.int (vcross_det u a) (fun sd hsd => ?_)
    refine Need.mk (by kernel_rfl) ?_
    rw [edges_at hge k hlt] at ha hb hu
    have ia : In 2000 (edge l k).a := near_in hn _
    have ib : In 2000 (edge l k).b := near_in hn _
    rw [toW_eq hfar ia] at ha
    rw [toW_eq hfar ib] at hb
    obtain ⟨eu, iu⟩ := subW_eq (by decide) ib ia
    rw [eu] at hu
    rw [hu, ha, sdW_eq iu (toV_near hfar ia)] at hsd
    have hon : onP (edge l k) p = (decide (sd = 0) && decide (minI a.x b.x ≤ 0) && decide (0 ≤ maxI a.x b.x) && decide (minI a.y b.y ≤ 0) && decide (0 ≤ maxI a.y b.y)) := by rw [hsd, ha, hb]; rfl
    have hcr : crsP (edge l k) p = ((!(decide (0 ≤ a.y) == decide (0 ≤ b.y))) && (decide (0 ≤ a.y) == decide (0 < sd))) := by rw [hsd, ha, hb]; rfl
    have back : ∀ (t : Nat → TV) (m : Id → Mem), KeepS t m (memsOf []) [(5, .d (.one (.fn 64 1 fun j => [SV.ad 3 fun j => (pL p).getD j (.v Go.undef)].getD j (.v Go.undef)))), (6, tbool (parK l p (k + 1))), (23, .d (.one (slS (edgesL l)))), (24, tint (edgesL l).length), (25, tint (IntKind.i64.wrap ((k : Int) + 1)))] → onP (edge l k) p = false →
        Adj t m (fun t3 m3 => ∃ y, Kept (fun k => [(5, .d (.one (.fn 64 1 fun j => [SV.ad 3 fun j => (pL p).getD j (.v Go.undef)].getD j (.v Go.undef)))), (6, tbool (parK l p k)), (23, .d (.one (slS (edgesL l)))), (24, tint (edgesL l).length), (25, tint k)]) (fun _ => []) (fun k => k ≤ l.length ∧ ∀ i, i < k → onP (edge l i) p = false) y t3 m3 ∧ l.length - y < l.length - k) := by
      intro t m hks hf
      rw [show IntKind.i64.wrap ((k : Int) + 1) = ((k + 1 : Nat) : Int) from natw k 1 (by omega) (by omega)] at hks
      exact Adj.back (rank := fun k => l.length - k) (k + 1) ⟨by omega, fun j hj => by
        rcases Nat.lt_succ_iff_lt_or_eq.1 hj with hj | rfl
        · exact hall j hj
        · exact hf⟩ (by omega) .nil hks
    refine Split.mk (fun c1 => ?_) (fun c1 => ?_)
    rotate_left
    have hf : onP (edge l k) p = false := by rw [hon, show decide (sd = 0) = false from c1]; rfl
    rotate_right
    replace c1 : decide (sd = 0) = true := c1
    focus (repeat' first | refine Split.t ?_ | fail)
    refine Split.mk (fun c2 => ?_) (fun c2 => ?_)
    rotate_left
    have hf : onP (edge l k) p = false := by rw [hon, c1, show decide (minI a.x b.x ≤ 0) = false from c2]; rfl
    rotate_right
    replace c2 : decide (minI a.x b.x ≤ 0) = true := c2
    focus (repeat' first | refine Split.t ?_ | fail)
    refine Split.mk (fun c3 => ?_) (fun c3 => ?_)
    rotate_left
    have hf : onP (edge l k) p = false := by rw [hon, c1, c2, show decide (0 ≤ maxI a.x b.x) = false from c3]; rfl
    rotate_right
    replace c3 : decide (0 ≤ maxI a.x b.x) = true := c3
    focus (repeat' first | refine Split.t ?_ | fail)
    refine Split.mk (fun c4 => ?_) (fun c4 => ?_)
    rotate_left
    have hf : onP (edge l k) p = false := by rw [hon, c1, c2, c3, show decide (minI a.y b.y ≤ 0) = false from c4]; rfl
    rotate_right
    replace c4 : decide (minI a.y b.y ≤ 0) = true := c4
    focus (repeat' first | refine Split.t ?_ | fail)
    refine Split.mk (fun c5 => ?_) (fun c5 => ?_)
    rotate_left
    have hf : onP (edge l k) p = false := by rw [hon, c1, c2, c3, c4, show decide (0 ≤ maxI a.y b.y) = false from c5]; rfl
    rotate_right
    replace c5 : decide (0 ≤ maxI a.y b.y) = true := c5
    · have ht : onP (edge l k) p = true := by rw [hon, c1, c2, c3, c4, c5]; rfl
      refine Fin.int ?_
      have : onAny l p = true := by rw [onAny, allB_false k hlt (by rw [ht]; rfl)]; rfl
      rw [wherePl, if_pos this]
    all_goals repeat' first | refine Split.t ?_ | refine Split.f ?_ | fail
    all_goals refine Need.mk rfl ?_
    all_goals
      refine Split.mk (fun g1 => ?_) (fun g1 => ?_)
      · repeat' first | refine Split.t ?_ | fail
        refine Need.mk rfl ?_
        repeat' first | refine Split.t ?_ | fail
        refine Split.mk (fun g2 => ?_) (fun g2 => ?_)
        · have hc : crsP (edge l k) p = true := by rw [hcr, show (!(decide (0 ≤ a.y) == decide (0 ≤ b.y))) = true from g1, show (decide (0 ≤ a.y) == decide (0 < sd)) = true from g2]; rfl
          exact back _ _ (.cons .same (.cons (SlotLe.bool (by rw [parK, hc, Bool.xor_true])) (.cons .same (.cons .same (.cons .same .nil))))) hf
        · have hc : crsP (edge l k) p = false := by rw [hcr, show (!(decide (0 ≤ a.y) == decide (0 ≤ b.y))) = true from g1, show (decide (0 ≤ a.y) == decide (0 < sd)) = false from g2]; rfl
          exact back _ _ (.cons .same (.cons (SlotLe.bool (by rw [parK, hc, Bool.xor_false])) (.cons .same (.cons .same (.cons .same .nil))))) hf
      · have hc : crsP (edge l k) p = false := by rw [hcr, show (!(decide (0 ≤ a.y) == decide (0 ≤ b.y))) = false from g1]; rfl
        repeat' first | refine Split.t ?_ | refine Split.f ?_ | fail
        exact back _ _ (.cons .same (.cons (SlotLe.bool (by rw [parK, hc, Bool.xor_false])) (.cons .same (.cons .same (.cons .same .nil))))) hf
  · have he : k = l.length := by have := of_decide_eq_false h; omega
    subst he
    have hna : onAny l p = false := by
      rw [onAny, allB_iff.2 (fun i hi => by rw [hall i hi]; rfl)]; rfl
    refine Split.mk (fun h => ?_) (fun h => ?_)
    · refine Fin.int ?_
      rw [wherePl, hna, if_neg (by simp), if_pos h]
    · refine Fin.int ?_
      rw [wherePl, hna, if_neg (by simp), if_neg (by rw [h]; simp)]
end Sg
end Go.Vm
