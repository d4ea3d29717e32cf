/-
  The least box of a list of vectors, and the map of a box.
-/
import Derived.Test.YtocdjailjmmhaaaSymD
namespace Go.Vm
open Go Go.RowKit Go.Proofs

/-- A slice of vectors. -/
abbrev vsl (n : Nat) (X Y : Nat → Int) : SV := .sl n 2 fun i j => match j with
  | 0 => i64 (X i)
  | _ => i64 (Y i)
def minN (X : Nat → Int) : Nat → Int
  | 0 => X 0
  | k + 1 => minI (minN X k) (X k)
def maxN (X : Nat → Int) : Nat → Int
  | 0 => X 0
  | k + 1 => maxI (maxN X k) (X k)
abbrev boxL (a b c d : Int) : List SV := [i64 a, i64 b, i64 c, i64 d]
abbrev boxOfT (n : Nat) (X Y : Nat → Int) : TV := .tup [.agg (boxL (minN X n) (minN Y n) (maxN X n) (maxN Y n)), .one (.v (.bool true))]

theorem boxof_det (n : Nat) (X Y : Nat → Int) (hn : n ≤ maxLen) (h0 : 0 < n) : Det Try.prog 31 [.one (vsl n X Y)] (boxOfT n X Y) := by
  have hm : (n : Int) < 9223372036854775808 := by simp only [maxLen] at hn; omega
  refine det_of_awp TTok mixed Try.func31 rfl rfl [] (Nat.le_of_ble_eq_true rfl) ?_
  refine Split.isF (by simp; omega) ?_
  repeat' first | refine Need.mk (by kernel_rfl) ?_ | refine Need.mk (by omega) ?_
  refine Loop.by (α := Nat) (fun k => [(0, .d (.one (vsl n X Y))), (2, .ptr 2 0), (4, .ptr 4 0), (18, tint n), (19, tint k)]) (fun k => [(2, .box (boxL 0 0 0 0)), (4, .box (boxL (minN X k) (minN Y k) (maxN X k) (maxN Y k)))]) (fun k => k ≤ n) (fun k => n - k)
    (Adj.at 0 (Nat.zero_le _) (.cons (.box (LLe.of_eq rfl)) (.cons (.box (LLe.of_eq rfl)) .nil)) (.cons .same (.cons (.box rfl rfl) (.cons (.box rfl rfl) (.cons .same (.cons .same .nil)))))) (fun k hk => ?_)
  refine Split.mk (fun h3 => ?_) (fun h3 => ?_)
  · have hlt : k < n := by have := of_decide_eq_true h3; omega
    have hw64 : IntKind.i64.wrap ((k : Int) + 1) = ((k + 1 : Nat) : Int) := (w64_id ⟨by omega, by omega⟩).trans (by omega)
    repeat' first | refine Need.mk (by kernel_rfl) ?_ | refine Need.mk (by omega) ?_
    refine Adj.back (x := k) (k + 1) hlt (by omega) (.cons (.box (LLe.of_eq rfl)) (.cons (.box (LLe.of_eq ?_)) .nil)) (.cons .same (.cons (.box rfl rfl) (.cons (.box rfl rfl) (.cons .same (.cons (SlotLe.int hw64) .nil)))))
    rfl
  · have e : k = n := by have := of_decide_eq_false h3; omega
    subst e
    exact Fin.rfl'
theorem rboxof_det (n : Nat) (X Y : Nat → Int) (hn : n ≤ maxLen) (h0 : 0 < n) : Det Try.prog 32 [.one (vsl n X Y)] (boxOfT n X Y) := by
  have hm : (n : Int) < 9223372036854775808 := by simp only [maxLen] at hn; omega
  refine det_of_awp TTok mixed Try.func32 rfl rfl [] (Nat.le_of_ble_eq_true rfl) ?_
  refine Split.isF (by simp; omega) ?_
  repeat' first | refine Need.mk (by kernel_rfl) ?_ | refine Need.mk (by omega) ?_
  refine Loop.by (α := Nat) (fun k => [(0, .d (.one (vsl n X Y))), (2, .ptr 2 0), (4, .ptr 4 0), (5, tint k)]) (fun k => [(2, .box (boxL 0 0 0 0)), (4, .box (boxL (minN X k) (minN Y k) (maxN X k) (maxN Y k)))]) (fun k => k ≤ n) (fun k => n - k)
    (Adj.at 0 (Nat.zero_le _) (.cons (.box (LLe.of_eq rfl)) (.cons (.box (LLe.of_eq rfl)) .nil)) (.cons .same (.cons (.box rfl rfl) (.cons (.box rfl rfl) (.cons .same .nil))))) (fun k hk => ?_)
  refine Split.mk (fun h3 => ?_) (fun h3 => ?_)
  · have hlt : k < n := by have := of_decide_eq_true h3; omega
    have hw64 : IntKind.i64.wrap ((k : Int) + 1) = ((k + 1 : Nat) : Int) := (w64_id ⟨by omega, by omega⟩).trans (by omega)
    repeat' first | refine Need.mk (by kernel_rfl) ?_ | refine Need.mk (by omega) ?_
    refine Adj.back (x := k) (k + 1) hlt (by omega) (.cons (.box (LLe.of_eq rfl)) (.cons (.box (LLe.of_eq ?_)) .nil)) (.cons .same (.cons (.box rfl rfl) (.cons (.box rfl rfl) (.cons (SlotLe.int hw64) .nil))))
    rfl
  · have e : k = n := by have := of_decide_eq_false h3; omega
    subst e
    exact Fin.rfl'

def boxS (t a b c d : Int) : List SV := bif validB t then boxL (minI (vx t a b) (vx t c d)) (minI (vy t a b) (vy t c d)) (maxI (vx t a b) (vx t c d)) (maxI (vy t a b) (vy t c d)) else boxL a b c d
abbrev of4 (p q r s : Int) : Nat → Int := fun i => match i with
  | 0 => p
  | 1 => q
  | 2 => r
  | _ => s
abbrev of2 (p q : Int) : Nat → Int := fun i => match i with
  | 0 => p
  | _ => q
theorem min4 (p q r s : Int) : minN (of4 p q r s) 4 = minI (minI (minI p q) r) s := by
  show minI (minI (minI (minI p p) q) r) s = _
  rw [show minI p p = p by simp [minI]]
theorem max4 (p q r s : Int) : maxN (of4 p q r s) 4 = maxI (maxI (maxI p q) r) s := by
  show maxI (maxI (maxI (maxI p p) q) r) s = _
  rw [show maxI p p = p by simp [maxI]]
theorem min2 (p q : Int) : minN (of2 p q) 2 = minI p q := by
  show minI (minI p p) q = _
  rw [show minI p p = p by simp [minI]]
theorem max2 (p q : Int) : maxN (of2 p q) 2 = maxI p q := by
  show maxI (maxI p p) q = _
  rw [show maxI p p = p by simp [maxI]]
theorem min_a (p q : Int) : minI (minI (minI p q) p) q = minI p q := by
  simp only [minI]
  repeat' split
  all_goals omega
theorem min_b (p q : Int) : minI (minI (minI p q) q) p = minI p q := by
  simp only [minI]
  repeat' split
  all_goals omega
theorem max_a (p q : Int) : maxI (maxI (maxI p q) p) q = maxI p q := by
  simp only [maxI]
  repeat' split
  all_goals omega
theorem max_b (p q : Int) : maxI (maxI (maxI p q) q) p = maxI p q := by
  simp only [maxI]
  repeat' split
  all_goals omega

theorem sbox_det (t a b c d : Int) (ha : R64 a) (hb : R64 b) (hc : R64 c) (hd : R64 d) : Det Try.prog 23 [.one (i64 t), .agg (boxL a b c d)] (.d (.agg (boxS t a b c d))) := by
  refine det_of_awp TTok mixed Try.func23 rfl rfl [] (Nat.le_of_ble_eq_true rfl) ?_
  refine CallW.bool (valid_det _) (fun b0 hb0 => ?_)
  refine Split.mk (fun k => ?_) (fun k => ?_)
  · refine Fin.eq ?_
    have : validB t = false := by rw [← hb0]; simpa using k
    simp only [boxS, this, cond_false]
    rfl
  · refine CallW.two (vec_det _ _ _ (by assumption) (by assumption)) (fun p0 q0 hp0 hq0 => ?_)
    refine CallW.two (vec_det _ _ _ (by assumption) (by assumption)) (fun p1 q1 hp1 hq1 => ?_)
    refine CallW.two (vec_det _ _ _ (by assumption) (by assumption)) (fun p2 q2 hp2 hq2 => ?_)
    refine CallW.two (vec_det _ _ _ (by assumption) (by assumption)) (fun p3 q3 hp3 hq3 => ?_)
    refine CallW.le (boxof_det 4 (of4 p0 p1 p2 p3) (of4 q0 q1 q2 q3) (by decide) (by decide)) (.cons (DLe.one (SLe.sl ?_)) .nil) ?_
    · intro i hi j hj
      replace hi : i < 4 := hi
      replace hj : j < 2 := hj
      rcases i with _ | _ | _ | _ | i <;> rcases j with _ | _ | j <;> first | exact SLe.refl _ | omega
    refine Need.mk (by kernel_rfl) ?_
    refine Fin.eq ?_
    have hv : validB t = true := by rw [← hb0]; simpa using k
    show TV.d (.agg (boxL (minN (of4 p0 p1 p2 p3) 4) (minN (of4 q0 q1 q2 q3) 4) (maxN (of4 p0 p1 p2 p3) 4) (maxN (of4 q0 q1 q2 q3) 4))) = _
    rw [min4, min4, max4, max4, hp0, hp1, hp2, hp3, hq0, hq1, hq2, hq3]
    simp only [boxS, hv, cond_true]
    rcases valid_cases hv with rfl | rfl | rfl | rfl | rfl | rfl | rfl | rfl <;> simp only [vx, vy, min_a, min_b, max_a, max_b]
theorem rsbox_det (t a b c d : Int) (ha : R64 a) (hb : R64 b) (hc : R64 c) (hd : R64 d) : Det Try.prog 24 [.one (i64 t), .agg (boxL a b c d)] (.d (.agg (boxS t a b c d))) := by
  refine det_of_awp TTok mixed Try.func24 rfl rfl [] (Nat.le_of_ble_eq_true rfl) ?_
  refine CallW.bool (rvalid_det _) (fun b0 hb0 => ?_)
  refine Split.mk (fun k => ?_) (fun k => ?_)
  · refine Fin.eq ?_
    have : validB t = false := by rw [← hb0]; simpa using k
    simp only [boxS, this, cond_false]
    rfl
  · refine CallW.two (rvec_det _ _ _ (by assumption) (by assumption)) (fun p0 q0 hp0 hq0 => ?_)
    refine CallW.two (rvec_det _ _ _ (by assumption) (by assumption)) (fun p1 q1 hp1 hq1 => ?_)
    refine CallW.le (rboxof_det 2 (of2 p0 p1) (of2 q0 q1) (by decide) (by decide)) (.cons (DLe.one (SLe.sl ?_)) .nil) ?_
    · intro i hi j hj
      replace hi : i < 2 := hi
      replace hj : j < 2 := hj
      rcases i with _ | _ | i <;> rcases j with _ | _ | j <;> first | exact SLe.refl _ | omega
    refine Need.mk (by kernel_rfl) ?_
    refine Fin.eq ?_
    have hv : validB t = true := by rw [← hb0]; simpa using k
    show TV.d (.agg (boxL (minN (of2 p0 p1) 2) (minN (of2 q0 q1) 2) (maxN (of2 p0 p1) 2) (maxN (of2 q0 q1) 2))) = _
    rw [min2, min2, max2, max2, hp0, hp1, hq0, hq1]
    simp only [boxS, hv, cond_true]

/-- Four letters for a box. -/
theorem CallW.box {P : Program} {f : FuncId} {args : List DV} {K : TV → Prop} {t a b c d : Int} (h : Det P f args (.d (.agg (boxS t a b c d)))) (kk : ∀ p q r s, boxS t a b c d = boxL p q r s → K (.d (.agg (boxL p q r s)))) : CallW P f args K := by
  have : ∃ p q r s, boxS t a b c d = boxL p q r s := by
    unfold boxS
    cases validB t
    · exact ⟨_, _, _, _, rfl⟩
    · exact ⟨_, _, _, _, rfl⟩
  obtain ⟨p, q, r, s, e⟩ := this
  rw [e] at h
  exact ⟨_, h, kk p q r s e⟩
theorem lvec_det (t g a b c d : Int) (ha : R64 a) (hb : R64 b) (hc : R64 c) (hd : R64 d) : Det Try.prog 6 [.one (i64 t), .one (i64 g), .agg (boxL a b c d)] (tbool true) := by
  refine det_of_awp TTok mixed Try.func6 rfl rfl [] (Nat.le_of_ble_eq_true rfl) ?_
  refine CallW.mk' awake_det ?_
  repeat' first | refine Split.t ?_ | refine Split.f ?_
  refine CallW.bool (valid_det _) (fun _ _ => ?_)
  refine CallW.bool (rvalid_det _) (fun _ _ => ?_)
  refine Need.mk rfl ?_
  refine Split.isT (by subst_vars; exact beq_self_eq_true _) ?_
  repeat' first | refine Split.t ?_ | refine CallW.two (vec_det _ _ _ (by assumption) (by assumption)) (fun _ _ _ _ => ?_) | refine CallW.two (rvec_det _ _ _ (by assumption) (by assumption)) (fun _ _ _ _ => ?_) | refine EqW.b (eq23 _ _ _ _) (fun _ _ => ?_) | refine Split.isT (by subst_vars; exact decide_eq_true rfl) ?_
  refine CallW.box (sbox_det _ _ _ _ _ (by assumption) (by assumption) (by assumption) (by assumption)) (fun p q r s he => ?_)
  repeat' first | refine Split.t ?_
  refine CallW.box (rsbox_det _ _ _ _ _ (by assumption) (by assumption) (by assumption) (by assumption)) (fun p2 q2 r2 s2 he2 => ?_)
  rw [he] at he2
  cases he2
  repeat' first | refine EqW.b (eq38 _ _ _ _ _ _ _ _) (fun _ _ => ?_) | refine Split.t ?_ | refine Split.isT (by subst_vars; exact decide_eq_true rfl) ?_ | refine Split.isT (by subst_vars; exact beq_self_eq_true _) ?_ | refine CallW.bool (odd_det _) (fun _ _ => ?_) | refine CallW.bool (rodd_det _) (fun _ _ => ?_) | refine CallW.bool (mir_det _) (fun _ _ => ?_) | refine CallW.bool (rmir_det _) (fun _ _ => ?_) | refine CallW.int (grain_det _ _) (fun _ _ => ?_) | refine CallW.int (rgrain_det _ _) (fun _ _ => ?_) | refine Need.mk (by kernel_rfl) ?_ | refine Fin.bool ?_
  all_goals
    subst_vars
    exact beq_self_eq_true _
theorem lvec_all : ∀ dvs, TypL Try.prog Try.f6.params.toList dvs → Det Try.prog 6 dvs (tbool true) := by
  intro dvs h
  obtain ⟨v0, r0, rfl, h0, q0⟩ := TypL.inv_cons (t := 3) (ts := [3, 38]) h
  obtain ⟨v1, r1, rfl, h1, q1⟩ := TypL.inv_cons q0
  obtain ⟨v2, r2, rfl, h2, q2⟩ := TypL.inv_cons q1
  obtain rfl := TypL.inv_nil q2
  obtain ⟨t, rfl, _⟩ := TypD.i64 (by kernel_rfl) rfl h0
  obtain ⟨g, rfl, _⟩ := TypD.i64 (by kernel_rfl) rfl h1
  obtain ⟨cs2, rfl, k2⟩ := TypD.agg (by kernel_rfl) h2
  obtain ⟨a, b, c, d, rfl, ha, hb, hc, hd⟩ := typ38 k2
  exact lvec_det t g a b c d ha hb hc hd
end Go.Vm
