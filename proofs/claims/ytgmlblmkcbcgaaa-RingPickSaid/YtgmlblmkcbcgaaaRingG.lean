/-
  Layer 8: contracts of Where and WherePoint.
  Layer 8: contracts of the reference's Where and WherePoint: they are the program's.
-/
import Derived.Test.YtgmlblmkcbcgaaaRingE
namespace Go.Vm
set_option maxRecDepth 20000
set_option linter.unusedVariables false
set_option linter.unusedSimpArgs false
open Go Go.RowKit Go.Proofs
namespace Sg

def toV (p : P3) (v : V2) : V2 := ⟨p.x - v.x * p.d, p.y - v.y * p.d⟩
def sdP (e : Seg) (p : P3) : Int := crossP (subP e.b e.a) (toV p e.a)
def onP (e : Seg) (p : P3) : Bool := decide (sdP e p = 0) && decide (minI (toV p e.a).x (toV p e.b).x ≤ 0) && decide (0 ≤ maxI (toV p e.a).x (toV p e.b).x) && decide (minI (toV p e.a).y (toV p e.b).y ≤ 0) && decide (0 ≤ maxI (toV p e.a).y (toV p e.b).y)
def crsP (e : Seg) (p : P3) : Bool := (!(decide (0 ≤ (toV p e.a).y) == decide (0 ≤ (toV p e.b).y))) && (decide (0 ≤ (toV p e.a).y) == decide (0 < sdP e p))
def parK (l : List V2) (p : P3) : Nat → Bool
  | 0 => false
  | k + 1 => xor (parK l p k) (crsP (edge l k) p)
def onAny (l : List V2) (p : P3) : Bool := !allB l.length fun i => !onP (edge l i) p
def wherePl (l : List V2) (p : P3) : Int := if onAny l p = true then 1 else if parK l p l.length = true then 2 else 0
def whereR (l : List V2) (p : P3) : Int := if validR l = true ∧ validP p = true then wherePl l p else 0

/-- Points and vertices are not too far for the words. -/
structure Far (p : P3) : Prop where
  d0 : 1 ≤ p.d
  d1 : p.d ≤ 134217728
  x0 : -(4000 * p.d) ≤ p.x
  x1 : p.x ≤ 4000 * p.d
  y0 : -(4000 * p.d) ≤ p.y
  y1 : p.y ≤ 4000 * p.d
theorem far_of {p : P3} (h : validP p = true) : Far p := by
  simp only [validP, Bool.and_eq_true] at h
  obtain ⟨h1, h2, h3, h4, h5, h6⟩ := boundB_iff.1 h.1
  exact ⟨h1, h2, h3, h4, h5, h6⟩
theorem mul_d {x d : Int} (h : -2000 ≤ x ∧ x ≤ 2000) (hd : 1 ≤ d ∧ d ≤ 134217728) : -(2000 * d) ≤ x * d ∧ x * d ≤ 2000 * d :=
  ⟨by rw [show -(2000 * d) = (-2000) * d by omega]; exact Int.mul_le_mul_of_nonneg_right h.1 (by omega), Int.mul_le_mul_of_nonneg_right h.2 (by omega)⟩
structure Near (v : V2) : Prop where
  x0 : -805306368000 ≤ v.x
  x1 : v.x ≤ 805306368000
  y0 : -805306368000 ≤ v.y
  y1 : v.y ≤ 805306368000
theorem toV_near {p : P3} {v : V2} (hp : Far p) (hv : In 2000 v) : Near (toV p v) := by
  obtain ⟨a1, a2⟩ := mul_d ⟨hv.x0, hv.x1⟩ ⟨hp.d0, hp.d1⟩
  obtain ⟨b1, b2⟩ := mul_d ⟨hv.y0, hv.y1⟩ ⟨hp.d0, hp.d1⟩
  obtain ⟨d0, d1, x0, x1, y0, y1⟩ := hp
  constructor <;> simp only [toV] <;> omega
def toW (p : P3) (v : V2) : V2 := ⟨w64 (p.x - w64 (v.x * p.d)), w64 (p.y - w64 (v.y * p.d))⟩
theorem toW_eq {p : P3} {v : V2} (hp : Far p) (hv : In 2000 v) : toW p v = toV p v := by
  obtain ⟨a1, a2⟩ := mul_d ⟨hv.x0, hv.x1⟩ ⟨hp.d0, hp.d1⟩
  obtain ⟨b1, b2⟩ := mul_d ⟨hv.y0, hv.y1⟩ ⟨hp.d0, hp.d1⟩
  have h := toV_near hp hv
  have hd := hp.d1
  have e1 : w64 (v.x * p.d) = v.x * p.d := wid' (by omega) (by omega)
  have e2 : w64 (v.y * p.d) = v.y * p.d := wid' (by omega) (by omega)
  unfold toW
  rw [e1, e2]
  have k1 := h.x0; have k2 := h.x1; have k3 := h.y0; have k4 := h.y1
  simp only [toV] at k1 k2 k3 k4
  rw [wid' (by omega) (by omega), wid' (by omega) (by omega)]
  rfl
theorem sdW_eq {u v : V2} (hu : In 4000 u) (hv : Near v) : crossW u v = crossP u v := by
  obtain ⟨x0, x1, y0, y1⟩ := hv
  have m1 := mul_abs ⟨hu.x0, hu.x1⟩ (show -805306368000 ≤ v.y ∧ v.y ≤ 805306368000 from ⟨y0, y1⟩)
  have m2 := mul_abs ⟨hu.y0, hu.y1⟩ (show -805306368000 ≤ v.x ∧ v.x ≤ 805306368000 from ⟨x0, x1⟩)
  unfold crossW crossP
  rw [wid' (n := u.x * v.y) (by omega) (by omega), wid' (n := u.y * v.x) (by omega) (by omega), wid' (by omega) (by omega)]
theorem to_det (p : P3) (v : V2) (cell : Nat → SV) (h0 : cell 0 = i64 p.x) (h1 : cell 1 = i64 p.y) (h2 : cell 2 = i64 p.d) : Det Try.prog 64 [vD v, .one (.ad 3 cell)] (.d (vD (toW p v))) := by
  have hle : DsLe [vD v, .one (.ad 3 cell)] [vD v, .one (.ad 3 fun j => (pL p).getD j (.v Go.undef))] := by
    refine .cons (DLe.refl _) (.cons (DLe.one (fun S w x r => ?_)) .nil)
    obtain ⟨b, off, xs, rfl, r2, r3, r4⟩ := Rd.inv_ad r
    refine .ad xs r2 r3 (fun j hj => ?_)
    have := r4 j hj
    match j, hj with
    | 0, _ => rw [h0] at this; exact this
    | 1, _ => rw [h1] at this; exact this
    | 2, _ => rw [h2] at this; exact this
  refine Det.le hle ?_
  refine det_of_awp TTok mixed Try.func64 rfl rfl [] (Nat.le_of_ble_eq_true rfl) ?_
  exact Fin.rfl'

theorem SlotLe.bool {m m' : Id → Mem} {b b' : Bool} (h : b = b') : SlotLe m m' (tbool b) (tbool b') := h ▸ SlotLe.same
theorem where_det (l : List V2) (p : P3) (hl : l.length ≤ 40000) : Det Try.prog 27 [.one (vlS l), pD p] (tint (whereR l p)) := by
  refine det_of_awp TTok mixed Try.func27 rfl rfl [] (Nat.le_of_ble_eq_true rfl) ?_
  refine CallW.bool (valid_det' l hl) (fun b hb => ?_)
  refine Split.mk (fun h => ?_) (fun h => ?_)
  · have hv : validR l = false := by rw [← hb]; simpa using h
    repeat' first | refine Split.t ?_ | refine Split.f ?_ | fail
    refine Fin.int ?_
    simp [whereR, hv]
  have hv : validR l = true := by rw [← hb]; simpa using h
  repeat' first | refine Split.t ?_ | refine Split.f ?_ | fail
  refine CallW.bool (validp_det p) (fun c hc => ?_)
  repeat' first | refine Split.t ?_ | refine Split.f ?_ | fail
  refine Split.mk (fun h => ?_) (fun h => ?_)
  · have hp : validP p = false := by rw [← hc]; simpa using h
    refine Fin.int ?_
    simp [whereR, hp]
  have hp : validP p = true := by rw [← hc]; simpa using h
  have hwr : whereR l p = wherePl l p := by simp [whereR, hv, hp]
  rw [hwr]
  have hh := hv
  simp only [validR, headB, Bool.and_eq_true, decide_eq_true_eq] at hh
  obtain ⟨⟨⟨⟨⟨h3, h40⟩, hn⟩, h0⟩, hs⟩, ha⟩ := hh
  have hge : ¬ l.length < 2 := by omega
  have hel := edges_len hge
  have hfar := far_of hp
  refine CallW.mk' (edges_det l hl) ?_
  refine Loop.by (α := Nat) (fun k => [(5, .d (.one (.fn 64 1 fun j => [SV.ad 3 fun j => (pL p).getD j (.v Go.undef)].getD j (.v Go.undef)))), (6, tbool (parK l p k)), (23, .d (.one (slS (edgesL l)))), (24, tint (edgesL l).length), (25, tint k)]) (fun _ => []) (fun k => k ≤ l.length ∧ ∀ i, i < k → onP (edge l i) p = false) (fun k => l.length - k)
    (Adj.at 0 ⟨Nat.zero_le _, fun _ h => absurd h (Nat.not_lt_zero _)⟩ .nil (.cons .same (.cons .same (.cons .same (.cons .same (.cons .same .nil)))))) (fun k hk => ?_)
  obtain ⟨hk, hall⟩ := hk
  refine Split.mk (fun h => ?_) (fun h => ?_)
  · have hlt : k < l.length := by have := of_decide_eq_true h; omega
    refine Need.mk (by omega) ?_
    refine CallW.v (to_det p (sGet (edgesL l) k).a _ rfl rfl rfl) (fun a ha => ?_)
    refine CallW.v (to_det p (sGet (edgesL l) k).b _ rfl rfl rfl) (fun b hb => ?_)
    refine Need.mk (by kernel_rfl) ?_
    refine CallW.v (vsub_det (sGet (edgesL l) k).b (sGet (edgesL l) k).a) (fun u hu => ?_)
    refine CallW.int (vcross_det u a) (fun sd hsd => ?_)
    refine Need.mk (by kernel_rfl) ?_
    rw [edges_at hge k hlt] at ha hb hu
    have ia : In 2000 (edge l k).a := near_in hn _
    have ib : In 2000 (edge l k).b := near_in hn _
    rw [toW_eq hfar ia] at ha
    rw [toW_eq hfar ib] at hb
    obtain ⟨eu, iu⟩ := subW_eq (by decide) ib ia
    rw [eu] at hu
    rw [hu, ha, sdW_eq iu (toV_near hfar ia)] at hsd
    have hon : onP (edge l k) p = (decide (sd = 0) && decide (minI a.x b.x ≤ 0) && decide (0 ≤ maxI a.x b.x) && decide (minI a.y b.y ≤ 0) && decide (0 ≤ maxI a.y b.y)) := by rw [hsd, ha, hb]; rfl
    have hcr : crsP (edge l k) p = ((!(decide (0 ≤ a.y) == decide (0 ≤ b.y))) && (decide (0 ≤ a.y) == decide (0 < sd))) := by rw [hsd, ha, hb]; rfl
    have back : ∀ (t : Nat → TV) (m : Id → Mem), KeepS t m (memsOf []) [(5, .d (.one (.fn 64 1 fun j => [SV.ad 3 fun j => (pL p).getD j (.v Go.undef)].getD j (.v Go.undef)))), (6, tbool (parK l p (k + 1))), (23, .d (.one (slS (edgesL l)))), (24, tint (edgesL l).length), (25, tint (IntKind.i64.wrap ((k : Int) + 1)))] → onP (edge l k) p = false →
        Adj t m (fun t3 m3 => ∃ y, Kept (fun k => [(5, .d (.one (.fn 64 1 fun j => [SV.ad 3 fun j => (pL p).getD j (.v Go.undef)].getD j (.v Go.undef)))), (6, tbool (parK l p k)), (23, .d (.one (slS (edgesL l)))), (24, tint (edgesL l).length), (25, tint k)]) (fun _ => []) (fun k => k ≤ l.length ∧ ∀ i, i < k → onP (edge l i) p = false) y t3 m3 ∧ l.length - y < l.length - k) := by
      intro t m hks hf
      rw [show IntKind.i64.wrap ((k : Int) + 1) = ((k + 1 : Nat) : Int) from natw k 1 (by omega) (by omega)] at hks
      exact Adj.back (rank := fun k => l.length - k) (k + 1) ⟨by omega, fun j hj => by
        rcases Nat.lt_succ_iff_lt_or_eq.1 hj with hj | rfl
        · exact hall j hj
        · exact hf⟩ (by omega) .nil hks
    refine Split.mk (fun c1 => ?_) (fun c1 => ?_)
    rotate_left
    have hf : onP (edge l k) p = false := by rw [hon, show decide (sd = 0) = false from c1]; rfl
    rotate_right
    replace c1 : decide (sd = 0) = true := c1
    focus (repeat' first | refine Split.t ?_ | fail)
    refine Split.mk (fun c2 => ?_) (fun c2 => ?_)
    rotate_left
    have hf : onP (edge l k) p = false := by rw [hon, c1, show decide (minI a.x b.x ≤ 0) = false from c2]; rfl
    rotate_right
    replace c2 : decide (minI a.x b.x ≤ 0) = true := c2
    focus (repeat' first | refine Split.t ?_ | fail)
    refine Split.mk (fun c3 => ?_) (fun c3 => ?_)
    rotate_left
    have hf : onP (edge l k) p = false := by rw [hon, c1, c2, show decide (0 ≤ maxI a.x b.x) = false from c3]; rfl
    rotate_right
    replace c3 : decide (0 ≤ maxI a.x b.x) = true := c3
    focus (repeat' first | refine Split.t ?_ | fail)
    refine Split.mk (fun c4 => ?_) (fun c4 => ?_)
    rotate_left
    have hf : onP (edge l k) p = false := by rw [hon, c1, c2, c3, show decide (minI a.y b.y ≤ 0) = false from c4]; rfl
    rotate_right
    replace c4 : decide (minI a.y b.y ≤ 0) = true := c4
    focus (repeat' first | refine Split.t ?_ | fail)
    refine Split.mk (fun c5 => ?_) (fun c5 => ?_)
    rotate_left
    have hf : onP (edge l k) p = false := by rw [hon, c1, c2, c3, c4, show decide (0 ≤ maxI a.y b.y) = false from c5]; rfl
    rotate_right
    replace c5 : decide (0 ≤ maxI a.y b.y) = true := c5
    · have ht : onP (edge l k) p = true := by rw [hon, c1, c2, c3, c4, c5]; rfl
      refine Fin.int ?_
      have : onAny l p = true := by rw [onAny, allB_false k hlt (by rw [ht]; rfl)]; rfl
      rw [wherePl, if_pos this]
    all_goals repeat' first | refine Split.t ?_ | refine Split.f ?_ | fail
    all_goals refine Need.mk rfl ?_
    all_goals
      refine Split.mk (fun g1 => ?_) (fun g1 => ?_)
      · repeat' first | refine Split.t ?_ | fail
        refine Need.mk rfl ?_
        repeat' first | refine Split.t ?_ | fail
        refine Split.mk (fun g2 => ?_) (fun g2 => ?_)
        · have hc : crsP (edge l k) p = true := by rw [hcr, show (!(decide (0 ≤ a.y) == decide (0 ≤ b.y))) = true from g1, show (decide (0 ≤ a.y) == decide (0 < sd)) = true from g2]; rfl
          exact back _ _ (.cons .same (.cons (SlotLe.bool (by rw [parK, hc, Bool.xor_true])) (.cons .same (.cons .same (.cons .same .nil))))) hf
        · have hc : crsP (edge l k) p = false := by rw [hcr, show (!(decide (0 ≤ a.y) == decide (0 ≤ b.y))) = true from g1, show (decide (0 ≤ a.y) == decide (0 < sd)) = false from g2]; rfl
          exact back _ _ (.cons .same (.cons (SlotLe.bool (by rw [parK, hc, Bool.xor_false])) (.cons .same (.cons .same (.cons .same .nil))))) hf
      · have hc : crsP (edge l k) p = false := by rw [hcr, show (!(decide (0 ≤ a.y) == decide (0 ≤ b.y))) = false from g1]; rfl
        repeat' first | refine Split.t ?_ | refine Split.f ?_ | fail
        exact back _ _ (.cons .same (.cons (SlotLe.bool (by rw [parK, hc, Bool.xor_false])) (.cons .same (.cons .same (.cons .same .nil))))) hf
  · have he : k = l.length := by have := of_decide_eq_false h; omega
    subst he
    have hna : onAny l p = false := by
      rw [onAny, allB_iff.2 (fun i hi => by rw [hall i hi]; rfl)]; rfl
    refine Split.mk (fun h => ?_) (fun h => ?_)
    · refine Fin.int ?_
      rw [wherePl, hna, if_neg (by simp), if_pos h]
    · refine Fin.int ?_
      rw [wherePl, hna, if_neg (by simp), if_neg (by rw [h]; simp)]
end Sg
end Go.Vm
namespace Go.Vm
set_option maxRecDepth 20000
set_option linter.unusedVariables false
set_option linter.unusedSimpArgs false
open Go Go.RowKit Go.Proofs
namespace Sg

def whereV (l : List V2) (v : V2) : Int := if withinV v 4000 = true then whereR l (ptOf v) else 0
theorem whereV_det (l : List V2) (v : V2) (hl : l.length ≤ 40000) : Det Try.prog 26 [.one (vlS l), vD v] (tint (whereV l v)) := by
  refine det_of_awp TTok mixed Try.func26 rfl rfl [] (Nat.le_of_ble_eq_true rfl) ?_
  refine CallW.bool (vwithin_det v 4000) (fun b hb => ?_)
  refine Split.mk (fun h => ?_) (fun h => ?_)
  · refine Fin.int ?_
    have : withinV v 4000 = false := by rw [← hb]; simpa using h
    simp [whereV, this]
  · have : withinV v 4000 = true := by rw [← hb]; simpa using h
    refine CallW.mk' (pointof_det v) ?_
    refine CallW.int (where_det l (ptOf v) hl) (fun n hn => ?_)
    refine Fin.int ?_
    simp [whereV, this, hn]

theorem rside3_det (a b : V2) (p : P3) (hp : Far p) (ia : In 2000 a) (ib : In 2000 b) : Det Try.prog 69 [vD a, vD b, pD p] (tint (sgnI (sdP ⟨a, b⟩ p))) := by
  refine det_of_awp TTok mixed Try.func69 rfl rfl [] (Nat.le_of_ble_eq_true rfl) ?_
  refine CallW.v (sub_det b a) (fun u hu => ?_)
  refine CallW.int (sign_det (crossW u (toW p a))) (fun n hn => ?_)
  refine Fin.int ?_
  obtain ⟨eu, iu⟩ := subW_eq (by decide) ib ia
  rw [hn, hu, eu, toW_eq hp ia, sdW_eq iu (toV_near hp ia)]
  rfl

def inP (e : Seg) (p : P3) : Bool := decide (p.x ≥ minI e.a.x e.b.x * p.d) && decide (p.x ≤ maxI e.a.x e.b.x * p.d) && decide (p.y ≥ minI e.a.y e.b.y * p.d) && decide (p.y ≤ maxI e.a.y e.b.y * p.d)
theorem minI_b {a b : Int} (ha : -2000 ≤ a ∧ a ≤ 2000) (hb : -2000 ≤ b ∧ b ≤ 2000) : -2000 ≤ minI a b ∧ minI a b ≤ 2000 := by unfold minI; split <;> omega
theorem maxI_b {a b : Int} (ha : -2000 ≤ a ∧ a ≤ 2000) (hb : -2000 ≤ b ∧ b ≤ 2000) : -2000 ≤ maxI a b ∧ maxI a b ≤ 2000 := by unfold maxI; split <;> omega
theorem box_side {a b d x : Int} (hd : 1 ≤ d) : (decide (minI (x - a * d) (x - b * d) ≤ 0) = decide (x ≤ maxI a b * d)) ∧ (decide (0 ≤ maxI (x - a * d) (x - b * d)) = decide (x ≥ minI a b * d)) := by
  have hle : a ≤ b → a * d ≤ b * d := fun h => Int.mul_le_mul_of_nonneg_right h (by omega)
  have hge : b ≤ a → b * d ≤ a * d := fun h => Int.mul_le_mul_of_nonneg_right h (by omega)
  constructor
  · rw [decide_eq_decide]
    unfold minI maxI
    split <;> split <;> constructor <;> intro h <;> first | omega | (have := hle (by omega); omega) | (have := hge (by omega); omega)
  · rw [decide_eq_decide]
    unfold minI maxI
    split <;> split <;> constructor <;> intro h <;> first | omega | (have := hle (by omega); omega) | (have := hge (by omega); omega)
theorem onP_in (e : Seg) (p : P3) (hp : Far p) : onP e p = (inP e p && decide (sdP e p = 0)) := by
  obtain ⟨x1, x2⟩ := box_side (a := e.a.x) (b := e.b.x) (x := p.x) hp.d0
  obtain ⟨y1, y2⟩ := box_side (a := e.a.y) (b := e.b.y) (x := p.y) hp.d0
  have e1 : onP e p = (decide (sdP e p = 0) && decide (minI (p.x - e.a.x * p.d) (p.x - e.b.x * p.d) ≤ 0) && decide (0 ≤ maxI (p.x - e.a.x * p.d) (p.x - e.b.x * p.d)) && decide (minI (p.y - e.a.y * p.d) (p.y - e.b.y * p.d) ≤ 0) && decide (0 ≤ maxI (p.y - e.a.y * p.d) (p.y - e.b.y * p.d))) := rfl
  rw [e1, x1, x2, y1, y2]
  unfold inP
  generalize decide (sdP e p = 0) = q1
  generalize decide (p.x ≤ _) = q2
  generalize decide (p.x ≥ _) = q3
  generalize decide (p.y ≤ _) = q4
  generalize decide (p.y ≥ _) = q5
  revert q1 q2 q3 q4 q5
  decide
theorem wmul {x d : Int} (h : -2000 ≤ x ∧ x ≤ 2000) (hd : 1 ≤ d ∧ d ≤ 134217728) : w64 (x * d) = x * d := by
  obtain ⟨a1, a2⟩ := mul_d h hd
  exact wid' (by omega) (by omega)
theorem ron3_det (e : Seg) (p : P3) (hp : Far p) (ia : In 2000 e.a) (ib : In 2000 e.b) : Det Try.prog 68 [sD e, pD p] (tbool (onP e p)) := by
  rw [onP_in e p hp]
  refine det_of_awp TTok mixed Try.func68 rfl rfl [] (Nat.le_of_ble_eq_true rfl) ?_
  have w1 := wmul (minI_b ⟨ia.x0, ia.x1⟩ ⟨ib.x0, ib.x1⟩) ⟨hp.d0, hp.d1⟩
  have w2 := wmul (maxI_b ⟨ia.x0, ia.x1⟩ ⟨ib.x0, ib.x1⟩) ⟨hp.d0, hp.d1⟩
  have w3 := wmul (minI_b ⟨ia.y0, ia.y1⟩ ⟨ib.y0, ib.y1⟩) ⟨hp.d0, hp.d1⟩
  have w4 := wmul (maxI_b ⟨ia.y0, ia.y1⟩ ⟨ib.y0, ib.y1⟩) ⟨hp.d0, hp.d1⟩
  have hin : inP e p = (decide (p.x ≥ w64 (minI e.a.x e.b.x * p.d)) && decide (p.x ≤ w64 (maxI e.a.x e.b.x * p.d)) && decide (p.y ≥ w64 (minI e.a.y e.b.y * p.d)) && decide (p.y ≤ w64 (maxI e.a.y e.b.y * p.d))) := by
    rw [w1, w2, w3, w4]; rfl
  refine Split.mk (fun c1 => ?_) (fun c1 => ?_)
  rotate_left
  have hf : inP e p = false := by rw [hin, show decide (p.x ≥ w64 (minI e.a.x e.b.x * p.d)) = false from c1]; rfl
  rotate_right
  replace c1 : decide (p.x ≥ w64 (minI e.a.x e.b.x * p.d)) = true := c1
  focus (repeat' first | refine Split.t ?_ | fail)
  refine Split.mk (fun c2 => ?_) (fun c2 => ?_)
  rotate_left
  have hf : inP e p = false := by rw [hin, c1, show decide (p.x ≤ w64 (maxI e.a.x e.b.x * p.d)) = false from c2]; rfl
  rotate_right
  replace c2 : decide (p.x ≤ w64 (maxI e.a.x e.b.x * p.d)) = true := c2
  focus (repeat' first | refine Split.t ?_ | fail)
  refine Split.mk (fun c3 => ?_) (fun c3 => ?_)
  rotate_left
  have hf : inP e p = false := by rw [hin, c1, c2, show decide (p.y ≥ w64 (minI e.a.y e.b.y * p.d)) = false from c3]; rfl
  rotate_right
  replace c3 : decide (p.y ≥ w64 (minI e.a.y e.b.y * p.d)) = true := c3
  focus (repeat' first | refine Split.t ?_ | fail)
  refine Split.mk (fun c4 => ?_) (fun c4 => ?_)
  rotate_left
  have hf : inP e p = false := by rw [hin, c1, c2, c3, show decide (p.y ≤ w64 (maxI e.a.y e.b.y * p.d)) = false from c4]; rfl
  rotate_right
  · replace c4 : decide (p.y ≤ w64 (maxI e.a.y e.b.y * p.d)) = true := c4
    have ht : inP e p = true := by rw [hin, c1, c2, c3, c4]; rfl
    repeat' first | refine Split.t ?_ | fail
    refine CallW.int (rside3_det e.a e.b p hp ia ib) (fun n hn => ?_)
    repeat' first | refine Split.t ?_ | fail
    refine Fin.bool ?_
    rw [ht, hn, Bool.true_and]
    show (sgnI (sdP e p) == 0) = decide (sdP e p = 0)
    rw [Bool.eq_iff_iff]
    simp [sgn_zero]
  all_goals
    repeat' first | refine Split.t ?_ | refine Split.f ?_ | fail
    refine Fin.bool ?_
    rw [hf, Bool.false_and]

def rcrs (e : Seg) (p : P3) : Bool := (decide (e.a.y * p.d ≤ p.y) && decide (e.b.y * p.d > p.y) && decide (0 < sdP e p)) || (decide (e.b.y * p.d ≤ p.y) && decide (e.a.y * p.d > p.y) && decide (sdP e p < 0))
theorem cross_to (e : Seg) (p : P3) : crossP (toV p e.a) (toV p e.b) = p.d * sdP e p := by
  simp only [sdP, crossP, toV, subP]
  grind
theorem mul_nn {a b : Int} (ha : 0 ≤ a) (hb : 0 ≤ b) : 0 ≤ a * b := Int.mul_nonneg ha hb
theorem rcrs_eq {e : Seg} {p : P3} (hp : Far p) (h : onP e p = false) : rcrs e p = crsP e p := by
  have hc := cross_to e p
  simp only [crossP] at hc
  unfold crsP rcrs
  have ea : (toV p e.a).y = p.y - e.a.y * p.d := rfl
  have eb : (toV p e.b).y = p.y - e.b.y * p.d := rfl
  by_cases h0 : sdP e p = 0
  · -- a level that the edge passes would have the point on it
    have hno : ¬ (0 ≤ (toV p e.a).y ∧ (toV p e.b).y < 0) ∧ ¬ (0 ≤ (toV p e.b).y ∧ (toV p e.a).y < 0) := by
      have hf : ¬ (minI (toV p e.a).x (toV p e.b).x ≤ 0 ∧ 0 ≤ maxI (toV p e.a).x (toV p e.b).x ∧ minI (toV p e.a).y (toV p e.b).y ≤ 0 ∧ 0 ≤ maxI (toV p e.a).y (toV p e.b).y) := by
        intro ⟨k1, k2, k3, k4⟩
        have : onP e p = true := by simp [onP, h0, k1, k2, k3, k4]
        rw [h] at this; cases this
      rw [h0, Int.mul_zero] at hc
      generalize (toV p e.a).x = ax at *
      generalize (toV p e.a).y = ay at *
      generalize (toV p e.b).x = bx at *
      generalize (toV p e.b).y = bY at *
      have key : ∀ u v w z : Int, 0 ≤ v → z < 0 → u * z = v * w → ¬ (0 < u ∧ 0 < w) ∧ ¬ (u < 0 ∧ w < 0) := by
        intro u v w z hv hz he
        refine ⟨fun ⟨h1, h2⟩ => ?_, fun ⟨h1, h2⟩ => ?_⟩
        · have := Int.mul_neg_of_pos_of_neg h1 hz
          have := Int.mul_nonneg hv (Int.le_of_lt h2)
          omega
        · have := Int.mul_pos_of_neg_of_neg h1 hz
          have := Int.mul_nonpos_of_nonneg_of_nonpos hv (Int.le_of_lt h2)
          omega
      constructor
      · rintro ⟨h1, h2⟩
        obtain ⟨q1, q2⟩ := key ax ay bx bY h1 h2 (by rw [Int.mul_comm ay bx] ; have := hc; rw [Int.mul_comm ay bx] at this; omega)
        refine hf ⟨?_, ?_, ?_, ?_⟩ <;> simp only [minI, maxI] <;> split <;> omega
      · rintro ⟨h1, h2⟩
        obtain ⟨q1, q2⟩ := key bx bY ax ay h1 h2 (by rw [Int.mul_comm bY ax, Int.mul_comm bx ay]; omega)
        refine hf ⟨?_, ?_, ?_, ?_⟩ <;> simp only [minI, maxI] <;> split <;> omega
    rw [ea, eb] at hno ⊢
    rw [h0]
    generalize e.a.y * p.d = A at *
    generalize e.b.y * p.d = B at *
    have e1 : decide (0 ≤ p.y - A) = decide (A ≤ p.y) := decide_eq_decide.2 ⟨fun h => by omega, fun h => by omega⟩
    have e2 : decide (0 ≤ p.y - B) = decide (A ≤ p.y) := decide_eq_decide.2 ⟨fun h => by omega, fun h => by omega⟩
    have e3 : decide (B > p.y) = !decide (A ≤ p.y) := by rw [← decide_not]; exact decide_eq_decide.2 ⟨fun h => by omega, fun h => by omega⟩
    have e4 : decide (A > p.y) = !decide (A ≤ p.y) := by rw [← decide_not]; exact decide_eq_decide.2 ⟨fun h => by omega, fun h => by omega⟩
    have e5 : decide (B ≤ p.y) = decide (A ≤ p.y) := decide_eq_decide.2 ⟨fun h => by omega, fun h => by omega⟩
    rw [e1, e2, e3, e4, e5]
    generalize decide (A ≤ p.y) = q
    revert q
    decide
  · rw [ea, eb]
    generalize e.a.y * p.d = A at *
    generalize e.b.y * p.d = B at *
    have e1 : decide (0 ≤ p.y - A) = decide (A ≤ p.y) := decide_eq_decide.2 ⟨fun h => by omega, fun h => by omega⟩
    have e2 : decide (0 ≤ p.y - B) = decide (B ≤ p.y) := decide_eq_decide.2 ⟨fun h => by omega, fun h => by omega⟩
    have e3 : decide (B > p.y) = !decide (B ≤ p.y) := by rw [← decide_not]; exact decide_eq_decide.2 ⟨fun h => by omega, fun h => by omega⟩
    have e4 : decide (A > p.y) = !decide (A ≤ p.y) := by rw [← decide_not]; exact decide_eq_decide.2 ⟨fun h => by omega, fun h => by omega⟩
    have e5 : decide (sdP e p < 0) = !decide (0 < sdP e p) := by rw [← decide_not]; exact decide_eq_decide.2 ⟨fun h => by omega, fun h => by omega⟩
    rw [e1, e2, e3, e4, e5]
    generalize decide (A ≤ p.y) = q
    generalize decide (B ≤ p.y) = r
    generalize decide (0 < sdP e p) = t
    revert q r t
    decide

theorem sgn_b (x : Int) : decide (sgnI x > 0) = decide (0 < x) ∧ decide (sgnI x < 0) = decide (x < 0) := by
  constructor <;> rw [decide_eq_decide] <;> unfold sgnI <;> split <;> (try split) <;> omega
theorem rwhere_det (l : List V2) (p : P3) (hl : l.length ≤ 40000) : Det Try.prog 28 [.one (vlS l), pD p] (tint (whereR l p)) := by
  refine det_of_awp TTok mixed Try.func28 rfl rfl [] (Nat.le_of_ble_eq_true rfl) ?_
  refine CallW.bool (rvalid_det8 l hl) (fun b hb => ?_)
  refine Split.mk (fun h => ?_) (fun h => ?_)
  · have hv : validR l = false := by rw [← hb]; simpa using h
    repeat' first | refine Split.t ?_ | refine Split.f ?_ | fail
    refine Fin.int ?_
    simp [whereR, hv]
  have hv : validR l = true := by rw [← hb]; simpa using h
  repeat' first | refine Split.t ?_ | refine Split.f ?_ | fail
  refine CallW.bool (rvalidp_det p) (fun c hc => ?_)
  repeat' first | refine Split.t ?_ | refine Split.f ?_ | fail
  refine Split.mk (fun h => ?_) (fun h => ?_)
  · have hp : validP p = false := by rw [← hc]; simpa using h
    refine Fin.int ?_
    simp [whereR, hp]
  have hp : validP p = true := by rw [← hc]; simpa using h
  have hwr : whereR l p = wherePl l p := by simp [whereR, hv, hp]
  rw [hwr]
  have hh := hv
  simp only [validR, headB, Bool.and_eq_true, decide_eq_true_eq] at hh
  obtain ⟨⟨⟨⟨⟨h3, h40⟩, hn⟩, h0⟩, hs⟩, ha⟩ := hh
  have hge : ¬ l.length < 2 := by omega
  have hel := edges_len hge
  have hfar := far_of hp
  refine CallW.mk' (redges_det l hl) ?_
  refine Loop.by (α := Nat) (fun k => [(3, .ptr 3 0), (5, .d (.one (slS (edgesL l)))), (6, tbool (parK l p k)), (7, tint k)]) (fun _ => [(3, .box (pL p))]) (fun k => k ≤ l.length ∧ ∀ i, i < k → onP (edge l i) p = false) (fun k => l.length - k)
    (Adj.at 0 ⟨Nat.zero_le _, fun _ h => absurd h (Nat.not_lt_zero _)⟩ (.cons (.box (LLe.of_eq rfl)) .nil) (.cons (.box rfl rfl) (.cons .same (.cons .same (.cons .same .nil))))) (fun k hk => ?_)
  obtain ⟨hk, hall⟩ := hk
  refine Split.mk (fun h => ?_) (fun h => ?_)
  · have hlt : k < l.length := by have := of_decide_eq_true h; omega
    have ia : In 2000 (sGet (edgesL l) k).a := by rw [edges_at hge k hlt]; exact near_in hn _
    have ib : In 2000 (sGet (edgesL l) k).b := by rw [edges_at hge k hlt]; exact near_in hn _
    refine Need.mk (by omega) ?_
    refine CallW.bool (ron3_det (sGet (edgesL l) k) p hfar ia ib) (fun o ho => ?_)
    refine Need.mk (by kernel_rfl) ?_
    refine Split.mk (fun h1 => ?_) (fun h1 => ?_)
    · have ht : onP (edge l k) p = true := by rw [← edges_at hge k hlt, ← ho, h1]
      refine Fin.int ?_
      have : onAny l p = true := by rw [onAny, allB_false k hlt (by rw [ht]; rfl)]; rfl
      rw [wherePl, if_pos this]
    have hf : onP (edge l k) p = false := by rw [← edges_at hge k hlt, ← ho, h1]
    have hcr : crsP (sGet (edgesL l) k) p = ((decide (w64 ((sGet (edgesL l) k).a.y * p.d) ≤ p.y) && decide (w64 ((sGet (edgesL l) k).b.y * p.d) > p.y) && decide (0 < sdP (sGet (edgesL l) k) p)) || (decide (w64 ((sGet (edgesL l) k).b.y * p.d) ≤ p.y) && decide (w64 ((sGet (edgesL l) k).a.y * p.d) > p.y) && decide (sdP (sGet (edgesL l) k) p < 0))) := by
      rw [← rcrs_eq hfar (by rw [edges_at hge k hlt]; exact hf), wmul ⟨ia.y0, ia.y1⟩ ⟨hfar.d0, hfar.d1⟩, wmul ⟨ib.y0, ib.y1⟩ ⟨hfar.d0, hfar.d1⟩]; rfl
    have hpar : parK l p (k + 1) = xor (parK l p k) (crsP (sGet (edgesL l) k) p) := by rw [edges_at hge k hlt]; rfl
    refine Need.mk (by omega) ?_
    refine Need.mk (by omega) ?_
    refine Need.mk (by kernel_rfl) ?_
    have back : ∀ (t : Nat → TV) (m : Id → Mem), KeepM m (memsOf [(3, .box (pL p))]) [(3, .box (pL p))] → KeepS t m (memsOf [(3, .box (pL p))]) [(3, .ptr 3 0), (5, .d (.one (slS (edgesL l)))), (6, tbool (parK l p (k + 1))), (7, tint (IntKind.i64.wrap ((k : Int) + 1)))] →
        Adj t m (fun t3 m3 => ∃ y, Kept (fun k => [(3, .ptr 3 0), (5, .d (.one (slS (edgesL l)))), (6, tbool (parK l p k)), (7, tint k)]) (fun _ => [(3, .box (pL p))]) (fun k => k ≤ l.length ∧ ∀ i, i < k → onP (edge l i) p = false) y t3 m3 ∧ l.length - y < l.length - k) := by
      intro t m hm hks
      rw [show IntKind.i64.wrap ((k : Int) + 1) = ((k + 1 : Nat) : Int) from natw k 1 (by omega) (by omega)] at hks
      exact Adj.back (rank := fun k => l.length - k) (k + 1) ⟨by omega, fun j hj => by
        rcases Nat.lt_succ_iff_lt_or_eq.1 hj with hj | rfl
        · exact hall j hj
        · exact hf⟩ (by omega) hm hks
    obtain ⟨sg1, sg2⟩ := sgn_b (sdP (sGet (edgesL l) k) p)
    refine Split.mk (fun u1 => ?_) (fun u1 => ?_)
    all_goals repeat' first | refine Split.t ?_ | refine Split.f ?_ | fail
    all_goals refine Split.mk (fun d1 => ?_) (fun d1 => ?_)
    all_goals repeat' first | refine Split.t ?_ | refine Split.f ?_ | fail
    all_goals refine Need.mk (by kernel_rfl) ?_
    · have hB : decide (w64 ((sGet (edgesL l) k).b.y * p.d) > p.y) = false := by
        have := of_decide_eq_true (show decide (w64 ((sGet (edgesL l) k).b.y * p.d) ≤ p.y) = true from d1)
        exact decide_eq_false (by omega)
      have hA : decide (w64 ((sGet (edgesL l) k).a.y * p.d) > p.y) = false := by
        have := of_decide_eq_true (show decide (w64 ((sGet (edgesL l) k).a.y * p.d) ≤ p.y) = true from u1)
        exact decide_eq_false (by omega)
      refine Split.isF hB ?_
      repeat' first | refine Split.t ?_ | refine Split.f ?_ | fail
      refine Split.isF hA ?_
      repeat' first | refine Split.t ?_ | refine Split.f ?_ | fail
      exact back _ _ (.cons (.box (LLe.of_eq rfl)) .nil) (.cons (.box rfl rfl) (.cons .same (.cons (SlotLe.bool (by rw [hpar, hcr, hA, hB]; simp)) (.cons .same .nil))))
    · have hB0 : decide (w64 ((sGet (edgesL l) k).b.y * p.d) ≤ p.y) = false := d1
      have hA0 : decide (w64 ((sGet (edgesL l) k).a.y * p.d) ≤ p.y) = true := u1
      have hB : decide (w64 ((sGet (edgesL l) k).b.y * p.d) > p.y) = true := by
        have := of_decide_eq_false hB0
        exact decide_eq_true (by omega)
      refine Split.isT hB ?_
      repeat' first | refine Split.t ?_ | refine Split.f ?_ | fail
      refine CallW.int (rside3_det (sGet (edgesL l) k).a (sGet (edgesL l) k).b p hfar ia ib) (fun n hn => ?_)
      repeat' first | refine Split.t ?_ | refine Split.f ?_ | fail
      have hcr' : crsP (sGet (edgesL l) k) p = decide (n > 0) := by rw [hcr, hA0, hB, hB0, hn, sg1]; simp
      refine Split.mk (fun g => ?_) (fun g => ?_)
      · repeat' first | refine Split.t ?_ | refine Split.f ?_ | fail
        exact back _ _ (.cons (.box (LLe.of_eq rfl)) .nil) (.cons (.box rfl rfl) (.cons .same (.cons (SlotLe.bool (by rw [hpar, hcr', g, Bool.xor_true])) (.cons .same .nil))))
      · repeat' first | refine Split.t ?_ | refine Split.f ?_ | fail
        exact back _ _ (.cons (.box (LLe.of_eq rfl)) .nil) (.cons (.box rfl rfl) (.cons .same (.cons (SlotLe.bool (by rw [hpar, hcr', g, Bool.xor_false])) (.cons .same .nil))))
    · have hB0 : decide (w64 ((sGet (edgesL l) k).b.y * p.d) ≤ p.y) = true := d1
      have hA0 : decide (w64 ((sGet (edgesL l) k).a.y * p.d) ≤ p.y) = false := u1
      have hA : decide (w64 ((sGet (edgesL l) k).a.y * p.d) > p.y) = true := by
        have := of_decide_eq_false hA0
        exact decide_eq_true (by omega)
      repeat' first | refine Split.t ?_ | refine Split.f ?_ | fail
      refine Split.isT hA ?_
      repeat' first | refine Split.t ?_ | refine Split.f ?_ | fail
      refine CallW.int (rside3_det (sGet (edgesL l) k).a (sGet (edgesL l) k).b p hfar ia ib) (fun n hn => ?_)
      repeat' first | refine Split.t ?_ | refine Split.f ?_ | fail
      have hcr' : crsP (sGet (edgesL l) k) p = decide (n < 0) := by rw [hcr, hA0, hA, hB0, hn, sg2]; simp
      refine Split.mk (fun g => ?_) (fun g => ?_)
      · exact back _ _ (.cons (.box (LLe.of_eq rfl)) .nil) (.cons (.box rfl rfl) (.cons .same (.cons (SlotLe.bool (by rw [hpar, hcr', g, Bool.xor_true])) (.cons .same .nil))))
      · exact back _ _ (.cons (.box (LLe.of_eq rfl)) .nil) (.cons (.box rfl rfl) (.cons .same (.cons (SlotLe.bool (by rw [hpar, hcr', g, Bool.xor_false])) (.cons .same .nil))))
    · have hB0 : decide (w64 ((sGet (edgesL l) k).b.y * p.d) ≤ p.y) = false := d1
      have hA0 : decide (w64 ((sGet (edgesL l) k).a.y * p.d) ≤ p.y) = false := u1
      repeat' first | refine Split.t ?_ | refine Split.f ?_ | fail
      exact back _ _ (.cons (.box (LLe.of_eq rfl)) .nil) (.cons (.box rfl rfl) (.cons .same (.cons (SlotLe.bool (by rw [hpar, hcr, hA0, hB0]; simp)) (.cons .same .nil))))
  · have he : k = l.length := by have := of_decide_eq_false h; omega
    subst he
    have hna : onAny l p = false := by
      rw [onAny, allB_iff.2 (fun i hi => by rw [hall i hi]; rfl)]; rfl
    refine Split.mk (fun h => ?_) (fun h => ?_)
    · refine Fin.int ?_
      rw [wherePl, hna, if_neg (by simp), if_pos h]
    · refine Fin.int ?_
      rw [wherePl, hna, if_neg (by simp), if_neg (by rw [h]; simp)]
theorem validP_pt {v : V2} (h : validP (ptOf v) = true) : withinV v 4000 = true := by
  have := far_of h
  have h1 := this.x0; have h2 := this.x1; have h3 := this.y0; have h4 := this.y1
  exact In.within (by decide) (by decide) ⟨by simp only [ptOf] at h1; omega, by simp only [ptOf] at h2; omega, by simp only [ptOf] at h3; omega, by simp only [ptOf] at h4; omega⟩
theorem rwhereV_det (l : List V2) (v : V2) (hl : l.length ≤ 40000) : Det Try.prog 23 [.one (vlS l), vD v] (tint (whereV l v)) := by
  refine det_of_awp TTok mixed Try.func23 rfl rfl [] (Nat.le_of_ble_eq_true rfl) ?_
  refine CallW.bool (within_det v 8000) (fun b hb => ?_)
  have hno : withinV v 4000 = false → whereR l (ptOf v) = 0 := by
    intro h
    have : validP (ptOf v) = false := by
      cases hq : validP (ptOf v) with
      | false => rfl
      | true => rw [validP_pt hq] at h; cases h
    simp [whereR, this]
  refine Split.mk (fun h => ?_) (fun h => ?_)
  · refine Fin.int ?_
    have h8 : withinV v 8000 = false := by rw [← hb]; simpa using h
    have : withinV v 4000 = false := by
      cases hq : withinV v 4000 with
      | false => rfl
      | true => rw [In.within (by decide) (by decide) ((In.of (by decide) (by decide) hq).up (by decide))] at h8; cases h8
    simp [whereV, this]
  · refine CallW.mk' (rpointof_det v) ?_
    refine CallW.int (rwhere_det l (ptOf v) hl) (fun n hn => ?_)
    refine Fin.int ?_
    unfold whereV
    cases hq : withinV v 4000 with
    | true => simp [hn]
    | false => simp [hn, hno hq]
end Sg
end Go.Vm
