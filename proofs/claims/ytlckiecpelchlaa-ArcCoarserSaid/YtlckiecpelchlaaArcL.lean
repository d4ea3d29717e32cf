/-
  Layer 11: the contracts of both Circle, of the examples, and of ArcFlatten, ArcCircle and ArcRoot.
-/
import Derived.Test.YtlckiecpelchlaaArcK
namespace Go.Vm
set_option maxRecDepth 20000
set_option linter.unusedVariables false
set_option linter.unusedSimpArgs false
open Go Go.RowKit Go.Proofs
namespace Sg

theorem CallW.ringC {P : Program} {f : FuncId} {args : List DV} {K : TV → Prop} {l : List V2} {e : Int} (h : Det P f args (ringE l e)) (kk : ∀ m n, m = l → n = e → K (ringE m n)) : CallW P f args K := ⟨_, h, kk l e rfl rfl⟩
def circA (c : V2) (radius : Int) : Arc := ⟨⟨w64 (c.x + radius), c.y⟩, ⟨w64 (c.x + radius), c.y⟩, c, false⟩
def circR (c : V2) (radius t : Int) : List V2 × Int := if radius < 1 ∨ radius > 2000 then ([], 1) else if (flatR (circA c radius) t).2 ≠ 0 then ([], (flatR (circA c radius) t).2) else cleanR (flatR (circA c radius) t).1
theorem flat_len4 (a : Arc) (t : Int) : (flatR a t).1.length ≤ 40000 := by
  unfold flatR
  split
  · exact Nat.zero_le _
  split
  · exact Nat.zero_le _
  · rename_i h _
    exact listA_len4 t (by simpa using h)
theorem flat_lenM (a : Arc) (t : Int) : (flatR a t).1.length ≤ maxLen := by
  have := flat_len4 a t
  simp only [maxLen]
  omega
theorem clean_len (l : List V2) : (cleanR l).1.length ≤ 200 := by
  unfold cleanR
  split
  · exact Nat.zero_le _
  split
  · exact Nat.zero_le _
  split
  · exact Nat.zero_le _
  · rename_i h
    have hv : validR (upR (cleanL l)) = true := by simpa using h
    simp only [validR, headB, Bool.and_eq_true, decide_eq_true_eq] at hv
    have e : (beginL (upR (cleanL l))).length = (upR (cleanL l)).length := by
      unfold beginL
      simp [rotL]
      try omega
    rw [e]
    omega
theorem circle_det (c : V2) (radius t : Int) : Det Try.prog 26 [vD c, .one (i64 radius), .one (i64 t)] (ringE (circR c radius t).1 (circR c radius t).2) := by
  refine det_of_awp TTok mixed Try.func26 rfl rfl [] (Nat.le_of_ble_eq_true rfl) ?_
  refine Split.mk (fun h1 => ?_) (fun h1 => ?_)
  · repeat' first | refine Split.t ?_ | refine Split.f ?_ | fail
    have h1 := of_decide_eq_true h1
    refine Fin.ringN ?_ ?_ <;> simp [circR, h1]
  repeat' first | refine Split.t ?_ | refine Split.f ?_ | fail
  have h1 := of_decide_eq_false h1
  refine Split.mk (fun h2 => ?_) (fun h2 => ?_)
  · repeat' first | refine Split.t ?_ | refine Split.f ?_ | fail
    have h2 := of_decide_eq_true h2
    refine Fin.ringN ?_ ?_ <;> simp [circR, h2]
  repeat' first | refine Split.t ?_ | refine Split.f ?_ | fail
  have h2 := of_decide_eq_false h2
  have e1 : circR c radius t = if (flatR (circA c radius) t).2 ≠ 0 then ([], (flatR (circA c radius) t).2) else cleanR (flatR (circA c radius) t).1 := by rw [circR, if_neg (by omega)]
  rw [e1]
  refine CallW.bool (vwithin_det c 2000) (fun b hb => ?_)
  repeat' first | refine Split.t ?_ | refine Split.f ?_ | fail
  refine Split.mk (fun h => ?_) (fun h => ?_)
  · have hc : withinV c 2000 = false := by rw [← hb]; simpa using h
    have hv : validA (circA c radius) = false := by simp [validA, circA, hc]
    have : flatR (circA c radius) t = ([], 1) := by rw [flatR, if_pos hv]
    rw [this]
    exact Fin.ringN rfl rfl
  refine CallW.ringC (flat_detR (circA c radius) t) (fun m n hm hn => ?_)
  rw [← hm, ← hn]
  refine Split.mk (fun h => ?_) (fun h => ?_)
  · rw [if_pos (by simpa using h)]
    exact Fin.ringN rfl rfl
  · rw [if_neg (by simpa using h)]
    refine CallW.mk' (clean_det m (by rw [hm]; exact flat_lenM _ _)) ?_
    exact Fin.rfl'
theorem rcircle_det (c : V2) (radius t : Int) : Det Try.prog 27 [vD c, .one (i64 radius), .one (i64 t)] (ringE (circR c radius t).1 (circR c radius t).2) := by
  refine det_of_awp TTok mixed Try.func27 rfl rfl [] (Nat.le_of_ble_eq_true rfl) ?_
  refine Split.mk (fun h1 => ?_) (fun h1 => ?_)
  · repeat' first | refine Split.t ?_ | refine Split.f ?_ | fail
    have h1 := of_decide_eq_true h1
    refine Fin.ringN ?_ ?_ <;> simp [circR, h1]
  repeat' first | refine Split.t ?_ | refine Split.f ?_ | fail
  have h1 := of_decide_eq_false h1
  refine Split.mk (fun h2 => ?_) (fun h2 => ?_)
  · repeat' first | refine Split.t ?_ | refine Split.f ?_ | fail
    have h2 := of_decide_eq_true h2
    refine Fin.ringN ?_ ?_ <;> simp [circR, h2]
  have h2 := of_decide_eq_false h2
  have e1 : circR c radius t = if (flatR (circA c radius) t).2 ≠ 0 then ([], (flatR (circA c radius) t).2) else cleanR (flatR (circA c radius) t).1 := by rw [circR, if_neg (by omega)]
  rw [e1]
  refine CallW.ringC (rflat_detR (circA c radius) t) (fun m n hm hn => ?_)
  rw [← hm, ← hn]
  refine Split.mk (fun h => ?_) (fun h => ?_)
  · rw [if_pos (by simpa using h)]
    exact Fin.ringN rfl rfl
  · rw [if_neg (by simpa using h)]
    refine CallW.mk' (rclean_det m (by rw [hm]; exact flat_lenM _ _)) ?_
    exact Fin.rfl'
/-! ### the examples -/
abbrev ex1 : Arc := ⟨⟨5, 0⟩, ⟨0, 5⟩, ⟨0, 0⟩, false⟩
abbrev ex2 : Arc := ⟨⟨1, 0⟩, ⟨1, 0⟩, ⟨0, 0⟩, false⟩
theorem good_ex {r : Int} {p q : V2} (h : decide (0 < r ∧ r ≤ 4000000 ∧ (dotP p p - (absZ p.x + absZ p.y) < r ∧ r ≤ dotP p p + (absZ p.x + absZ p.y)) ∧ (dotP q q - (absZ q.x + absZ q.y) < r ∧ r ≤ dotP q q + (absZ q.x + absZ q.y)) ∧ 0 < crossP p q ∧ 0 ≤ dotP p q) = true) : Good r p q := by
  obtain ⟨a, b, ⟨c, d⟩, ⟨e, f⟩, g, i⟩ := of_decide_eq_true h
  exact ⟨a, b, ⟨c, d⟩, ⟨e, f⟩, g, i⟩
theorem btw_flat {r t : Int} {p q : V2} (h : Good r p q) (hf : flatB r t p q = true) : btw r t p q = [] := by rw [btw_eq t h, if_pos hf]
theorem ex1_flat : flatR ex1 1 = ([⟨5, 0⟩, ⟨4, 4⟩, ⟨0, 5⟩], 0) := by
  have hv : validA ex1 = true := by kernel_rfl
  have e1 : sqA ex1 = 25 := by kernel_rfl
  have e2 : uA ex1 = ⟨5, 0⟩ := by kernel_rfl
  have e3 : vA ex1 = ⟨0, 5⟩ := by kernel_rfl
  rw [flatR, if_neg (by rw [hv]; simp), if_neg (by omega), listA, if_neg (by simp), e1, e2, e3]
  have f1 : farB ⟨5, 0⟩ ⟨0, 5⟩ = false := by kernel_rfl
  have g0 : Good 25 ⟨5, 0⟩ ⟨0, 5⟩ := good_ex (by kernel_rfl)
  have g1 : Good 25 ⟨5, 0⟩ ⟨4, 4⟩ := good_ex (by kernel_rfl)
  have g2 : Good 25 ⟨4, 4⟩ ⟨0, 5⟩ := good_ex (by kernel_rfl)
  have m : midV 25 ⟨5, 0⟩ ⟨0, 5⟩ = ⟨4, 4⟩ := by kernel_rfl
  have a0 : flatB 25 1 ⟨5, 0⟩ ⟨0, 5⟩ = false := by kernel_rfl
  have a1 : flatB 25 1 ⟨5, 0⟩ ⟨4, 4⟩ = true := by kernel_rfl
  have a2 : flatB 25 1 ⟨4, 4⟩ ⟨0, 5⟩ = true := by kernel_rfl
  rw [chainL, chnF_near f1, btw_eq 1 g0, if_neg (by rw [a0]; simp), m, if_neg (by simp), btw_flat g1 a1, btw_flat g2 a2]
  rfl
theorem ex2_flat : flatR ex2 1 = ([⟨1, 0⟩, ⟨0, 1⟩, ⟨-1, 0⟩, ⟨0, -1⟩, ⟨1, 0⟩], 0) := by
  have hv : validA ex2 = true := by kernel_rfl
  have e1 : sqA ex2 = 1 := by kernel_rfl
  have e2 : uA ex2 = ⟨1, 0⟩ := by kernel_rfl
  have e3 : vA ex2 = ⟨1, 0⟩ := by kernel_rfl
  rw [flatR, if_neg (by rw [hv]; simp), if_neg (by omega), listA, if_neg (by simp), e1, e2, e3]
  have f1 : farB ⟨1, 0⟩ ⟨1, 0⟩ = true := by kernel_rfl
  have f2 : farB ⟨0, 1⟩ ⟨1, 0⟩ = true := by kernel_rfl
  have f3 : farB ⟨-1, 0⟩ ⟨1, 0⟩ = true := by kernel_rfl
  have r1 : rotV ⟨1, 0⟩ = ⟨0, 1⟩ := by kernel_rfl
  have r2 : rotV ⟨0, 1⟩ = ⟨-1, 0⟩ := by kernel_rfl
  have r3 : rotV ⟨-1, 0⟩ = ⟨0, -1⟩ := by kernel_rfl
  have b1 : btw 1 1 ⟨1, 0⟩ ⟨0, 1⟩ = [] := btw_flat (good_ex (by kernel_rfl)) (by kernel_rfl)
  have b2 : btw 1 1 ⟨0, 1⟩ ⟨-1, 0⟩ = [] := btw_flat (good_ex (by kernel_rfl)) (by kernel_rfl)
  have b3 : btw 1 1 ⟨-1, 0⟩ ⟨0, -1⟩ = [] := btw_flat (good_ex (by kernel_rfl)) (by kernel_rfl)
  have b4 : btw 1 1 ⟨0, -1⟩ ⟨1, 0⟩ = [] := btw_flat (good_ex (by kernel_rfl)) (by kernel_rfl)
  rw [chainL, chnF, if_pos f1, r1, chnF, if_pos f2, r2, chnF, if_pos f3, r3, chnF, b1, b2, b3, b4]
  rfl
theorem ex2_circ : circR ⟨0, 0⟩ 1 1 = ([⟨0, -1⟩, ⟨1, 0⟩, ⟨0, 1⟩, ⟨-1, 0⟩], 0) := by
  have e : circA ⟨0, 0⟩ 1 = ex2 := by kernel_rfl
  rw [circR, if_neg (by omega), e, ex2_flat, if_neg (by simp)]
  have : decide (cleanR [⟨1, 0⟩, ⟨0, 1⟩, ⟨-1, 0⟩, ⟨0, -1⟩, ⟨1, 0⟩] = ([⟨0, -1⟩, ⟨1, 0⟩, ⟨0, 1⟩, ⟨-1, 0⟩], 0)) = true := by kernel_rfl
  exact of_decide_eq_true this
theorem SLe.litA {l : List V2} {n : Nat} {get : Nat → Nat → SV} (hn : n = l.length) (h : ∀ i, i < n → get i 0 = vG l i 0 ∧ get i 1 = vG l i 1) : SLe (.sl n 2 get) (vlS l) :=
  SLe.slN hn (fun i hi j hj => SLe.of_eq (by
    match j, hj with
    | 0, _ => exact (h i hi).1
    | 1, _ => exact (h i hi).2))
theorem awake11_det : Det Try.prog 20 [] (tbool true) := by
  have h1 := flat_detR ex1 1
  rw [ex1_flat] at h1
  have h2 := circle_det ⟨0, 0⟩ 1 1
  rw [ex2_circ] at h2
  refine det_of_awp TTok mixed Try.func20 rfl rfl [] (Nat.le_of_ble_eq_true rfl) ?_
  refine CallW.mk' h1 ?_
  refine CallW.mk' h2 ?_
  repeat' first | refine Split.t ?_ | fail
  refine CallW.mk' (((rsame6_det [⟨5, 0⟩, ⟨4, 4⟩, ⟨0, 5⟩] [⟨5, 0⟩, ⟨4, 4⟩, ⟨0, 5⟩] (by decide)).eq (by rw [decide_eq_true rfl])).le (.cons (DLe.refl _) (.cons (DLe.one (SLe.litA rfl (fun i hi => ?_))) .nil))) ?_
  · match i, hi with
    | 0, _ => exact ⟨rfl, rfl⟩
    | 1, _ => exact ⟨rfl, rfl⟩
    | 2, _ => exact ⟨rfl, rfl⟩
  repeat' first | refine Split.t ?_ | fail
  refine CallW.mk' (((rsame6_det [⟨0, -1⟩, ⟨1, 0⟩, ⟨0, 1⟩, ⟨-1, 0⟩] [⟨0, -1⟩, ⟨1, 0⟩, ⟨0, 1⟩, ⟨-1, 0⟩] (by decide)).eq (by rw [decide_eq_true rfl])).le (.cons (DLe.refl _) (.cons (DLe.one (SLe.litA rfl (fun i hi => ?_))) .nil))) ?_
  · match i, hi with
    | 0, _ => exact ⟨rfl, rfl⟩
    | 1, _ => exact ⟨rfl, rfl⟩
    | 2, _ => exact ⟨rfl, rfl⟩
    | 3, _ => exact ⟨rfl, rfl⟩
  repeat' first | refine Split.t ?_ | fail
  exact Fin.rfl'
/-! ### the laws -/
theorem arcIn {v : DV} (h : TypD Try.prog 45 v) : ∃ a : Arc, v = arcD a := by
  obtain ⟨cs, rfl, k⟩ := TypD.agg (by kernel_rfl) h
  obtain ⟨a0, a1, a2, a3, a4, a5, a6, rfl, _⟩ := typ45 k
  exact ⟨⟨⟨a0, a1⟩, ⟨a2, a3⟩, ⟨a4, a5⟩, a6⟩, rfl⟩
theorem vecInA {v : DV} (h : TypD Try.prog 43 v) : ∃ p : V2, v = vD p ∧ R64 p.x ∧ R64 p.y := by
  obtain ⟨cs, rfl, k⟩ := TypD.agg (by kernel_rfl) h
  obtain ⟨a0, a1, rfl, h0, h1⟩ := typ43 k
  exact ⟨⟨a0, a1⟩, rfl, h0, h1⟩
theorem larcflatten_det (a : Arc) (t : Int) : Det Try.prog 4 [arcD a, .one (i64 t)] (tbool true) := by
  refine det_of_awp TTok mixed Try.func4 rfl rfl [] (Nat.le_of_ble_eq_true rfl) ?_
  refine CallW.mk' awake11_det ?_
  refine Split.f ?_
  refine CallW.ringC (flat_detR a t) (fun m n hm hn => ?_)
  refine CallW.ringC (rflat_detR a t) (fun m' n' hm' hn' => ?_)
  obtain rfl : m = m' := hm.trans hm'.symm
  obtain rfl : n = n' := hn.trans hn'.symm
  have en : (n == n) = true := by simp
  repeat' first | refine Split.isT en ?_ | refine Split.t ?_ | fail
  refine CallW.mk' ((rsame6_det m m (by rw [hm]; exact flat_len4 _ _)).eq (by rw [decide_eq_true rfl])) ?_
  repeat' first | refine Split.t ?_ | fail
  refine CallW.bool (valida_det a) (fun b hb => ?_)
  repeat' first | refine Split.t ?_ | fail
  refine CallW.bool (rvalida_det a) (fun b' hb' => ?_)
  obtain rfl : b = b' := hb.trans hb'.symm
  repeat' first | refine Split.t ?_ | fail
  refine Need.mk (by kernel_rfl) ?_
  repeat' first | refine Split.t ?_ | fail
  refine Need.mk (by kernel_rfl) ?_
  refine Fin.bool ?_
  simp
theorem larcflatten_all : ∀ dvs, TypL Try.prog Try.f4.params.toList dvs → Det Try.prog 4 dvs (tbool true) := by
  intro dvs h
  obtain ⟨v0, r0, rfl, h0, q0⟩ := TypL.inv_cons (t := 45) (ts := [3]) h
  obtain ⟨v1, r1, rfl, h1, q1⟩ := TypL.inv_cons (t := 3) (ts := []) q0
  obtain rfl := TypL.inv_nil q1
  obtain ⟨a, rfl⟩ := arcIn h0
  obtain ⟨t, rfl, _⟩ := TypD.i64 (by kernel_rfl) rfl h1
  exact larcflatten_det a t
theorem larccircle_det (c : V2) (radius t : Int) : Det Try.prog 5 [vD c, .one (i64 radius), .one (i64 t)] (tbool true) := by
  refine det_of_awp TTok mixed Try.func5 rfl rfl [] (Nat.le_of_ble_eq_true rfl) ?_
  refine CallW.mk' awake11_det ?_
  refine Split.f ?_
  refine CallW.ringC (circle_det c radius t) (fun m n hm hn => ?_)
  refine CallW.ringC (rcircle_det c radius t) (fun m' n' hm' hn' => ?_)
  obtain rfl : m = m' := hm.trans hm'.symm
  obtain rfl : n = n' := hn.trans hn'.symm
  have hl : m.length ≤ 40000 := by
    rw [hm]
    unfold circR
    split
    · exact Nat.zero_le _
    split
    · exact Nat.zero_le _
    · exact Nat.le_trans (clean_len _) (by decide)
  have en : (n == n) = true := by simp
  repeat' first | refine Split.isT en ?_ | refine Split.t ?_ | fail
  refine CallW.mk' ((rsame6_det m m hl).eq (by rw [decide_eq_true rfl])) ?_
  repeat' first | refine Split.t ?_ | fail
  exact Fin.rfl'
theorem larccircle_all : ∀ dvs, TypL Try.prog Try.f5.params.toList dvs → Det Try.prog 5 dvs (tbool true) := by
  intro dvs h
  obtain ⟨v0, r0, rfl, h0, q0⟩ := TypL.inv_cons (t := 43) (ts := [3, 3]) h
  obtain ⟨v1, r1, rfl, h1, q1⟩ := TypL.inv_cons (t := 3) (ts := [3]) q0
  obtain ⟨v2, r2, rfl, h2, q2⟩ := TypL.inv_cons (t := 3) (ts := []) q1
  obtain rfl := TypL.inv_nil q2
  obtain ⟨c, rfl, _⟩ := vecInA h0
  obtain ⟨r, rfl, _⟩ := TypD.i64 (by kernel_rfl) rfl h1
  obtain ⟨t, rfl, _⟩ := TypD.i64 (by kernel_rfl) rfl h2
  exact larccircle_det c r t
theorem larcroot_det (n : Int) (hn : R64 n) : Det Try.prog 6 [.one (i64 n)] (tbool true) := by
  refine det_of_awp TTok mixed Try.func6 rfl rfl [] (Nat.le_of_ble_eq_true rfl) ?_
  refine CallW.mk' awake11_det ?_
  refine Split.f ?_
  refine CallW.int (root_det n hn) (fun r hr => ?_)
  refine Split.mk (fun h => ?_) (fun h => ?_)
  · refine Fin.bool ?_
    have h := of_decide_eq_true h
    rw [hr, isq, if_pos h]; rfl
  have h := of_decide_eq_false h
  obtain ⟨k0, k1, k2⟩ := isq_spec (n := n) (by omega) hn.2
  have k3 := isq_le k0 k1 hn.2
  rw [← hr] at k0 k1 k2 k3
  have k4 : 1 ≤ r := by
    refine Int.not_lt.1 fun w => ?_
    have e : r = 0 := by omega
    rw [e] at k2
    omega
  have hsq : r * r ≤ 3037000499 * 3037000499 := Int.mul_le_mul k3 k3 k0 (by decide)
  have hsq0 : 0 ≤ r * r := Int.mul_nonneg k0 k0
  refine Split.isT (decide_eq_true k4) ?_
  repeat' first | refine Split.isT (decide_eq_true k4) ?_ | refine Split.isT (decide_eq_true k3) ?_ | refine Split.t ?_ | refine Split.f ?_ | fail
  have e1 : decide (IntKind.i64.wrap (r * r) ≤ n) = true := decide_eq_true (by rw [wid (by omega) (by omega)]; exact k1)
  repeat' first | refine Split.isT e1 ?_ | refine Split.t ?_ | refine Split.f ?_ | fail
  refine Split.mk (fun g => ?_) (fun g => ?_)
  · repeat' first | refine Split.isT g ?_ | refine Split.t ?_ | refine Split.f ?_ | fail
    refine Fin.bool ?_
    first | exact g | rfl
  · have g' : r ≠ 3037000499 := by simpa using g
    have hs : (r + 1) * (r + 1) ≤ 3037000499 * 3037000499 := Int.mul_le_mul (by omega) (by omega) (by omega) (by decide)
    have e2 : decide (IntKind.i64.wrap (IntKind.i64.wrap (r + 1) * IntKind.i64.wrap (r + 1)) > n) = true := decide_eq_true (by
      rw [wid (n := r + 1) (by omega) (by omega), wid (by omega) (by omega)]; omega)
    repeat' first | refine Split.isF g ?_ | refine Split.isT e2 ?_ | refine Split.t ?_ | refine Split.f ?_ | fail
    refine Fin.bool ?_
    first | exact e2 | rfl
theorem larcroot_all : ∀ dvs, TypL Try.prog Try.f6.params.toList dvs → Det Try.prog 6 dvs (tbool true) := by
  intro dvs h
  obtain ⟨v0, r0, rfl, h0, q0⟩ := TypL.inv_cons (t := 3) (ts := []) h
  obtain rfl := TypL.inv_nil q0
  obtain ⟨r, rfl, hr⟩ := TypD.i64 (by kernel_rfl) rfl h0
  exact larcroot_det r hr
end Sg
end Go.Vm
