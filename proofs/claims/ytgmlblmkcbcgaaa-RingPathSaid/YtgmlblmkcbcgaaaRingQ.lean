/-
  Layer 8: the contract of RingStart.
-/
import Derived.Test.YtgmlblmkcbcgaaaRingP
namespace Go.Vm
set_option maxRecDepth 20000
set_option linter.unusedVariables false
set_option linter.unusedSimpArgs false
open Go Go.RowKit Go.Proofs
namespace Sg

theorem turned_sl {l : List V2} {k K : Nat} (hK : K = k) (hk : k ≤ l.length) : DLe (.one (.sl (0 + (l.length - K) + (K - 0)) 2 (fun i j => bif i.blt (0 + (l.length - K)) then (bif i.blt 0 then (.v Go.undef) else vG l (K + (i - 0)) j) else vG l (0 + (i - (0 + (l.length - K)))) j))) (.one (vlS (rotL l k))) := by
  subst hK
  refine DLe.one (SLe.slN (by rw [rotL_len]; omega) (fun i hi j hj => SLe.of_eq ?_))
  simp only [Nat.zero_add, Nat.sub_zero] at hi ⊢
  have hil : i < l.length := by omega
  by_cases hc : i < l.length - K
  · rw [blt_t hc, cond_true, blt_f (Nat.not_lt_zero _), cond_false]
    refine vG_eq ?_ j
    rw [rotL_at _ _ _ hk hil, if_pos hc]
  · rw [blt_f hc, cond_false]
    refine vG_eq ?_ j
    rw [rotL_at _ _ _ hk hil, if_neg hc]
theorem lstart_det (l : List V2) (a : Nat) (p : V2) (ha : a ≤ 255) (hl : l.length ≤ maxLen) : Det Try.prog 10 [.one (vlS l), .one (.v (.int .u8 a)), vD p] (tbool true) := by
  refine det_of_awp TTok mixed Try.func10 rfl rfl [8] (Nat.le_of_ble_eq_true rfl) ?_
  refine CallW.mk' awake8_det ?_
  refine Split.f ?_
  refine CallW.bool (few_det l hl) (fun b hb => ?_)
  refine Split.mk (fun h => ?_) (fun h => ?_)
  · repeat' first | refine Split.t ?_ | refine Split.f ?_ | refine Split.isT h ?_ | fail
    exact Fin.rfl'
  have h6 : l.length ≤ 60 := by
    have : b = true := by simpa using h
    exact of_decide_eq_true (by rw [← hb, this])
  repeat' first | refine Split.t ?_ | refine Split.f ?_ | refine Split.isF h ?_ | fail
  refine CallW.bool (valid_det' l (by omega)) (fun c hc => ?_)
  repeat' first | refine Split.t ?_ | refine Split.f ?_ | refine Split.isF h ?_ | fail
  refine Split.mk (fun h => ?_) (fun h => ?_)
  · exact Fin.rfl'
  have hr : RingOk l := ring_ok.1 (by rw [← hc]; simpa using h)
  have h3 := hr.three
  have e1 : IntKind.i64.wrap (a : Int) = a := Sg.hw _ (by omega) (by omega)
  have hb := tmodB a l.length (by omega)
  have hK : ((IntKind.i64.wrap (a : Int)).tmod l.length).toNat = a % l.length := by rw [e1, tmodN]
  have hq : (IntKind.i64.wrap (a : Int)).tmod l.length = (a : Int).tmod l.length := by rw [e1]
  refine Need.mk ⟨_, rfl⟩ ?_
  refine Need.mk (by omega) ?_
  refine Need.mk (by rw [e1]; omega) ?_
  refine Need.mk (needApp (by omega) (by decide)) ?_
  refine Need.mk (by rw [e1]; omega) ?_
  refine Need.mk (needApp (by omega) (by decide)) ?_
  refine Need.mk (by kernel_rfl) ?_
  have hk : a % l.length ≤ l.length := Nat.le_of_lt (Nat.mod_lt _ (by omega))
  have hR := rot_rotL l (a % l.length) hk
  have hr' := hR.ok hr
  have hv' := ring_ok.2 hr'
  have hl' : (rotL l (a % l.length)).length ≤ 10000 := by rw [rotL_len]; omega
  refine Cut.mk (Adj.freeze 8 30 _ _ 2 32 _ rfl rfl (Adj.keep [(0, .d (.one (vlS l))), (5, .ptr 5 0), (8, .d (.one (vlS (rotL l (a % l.length)))))] [(5, .box (vL p))] (.cons (.box (LLe.of_eq rfl)) .nil) (.cons .same (.cons (.box rfl rfl) (.cons (.data (turned_sl hK hk)) .nil))) ?_))
  refine CallW.mk' (canon_det l (by omega)) ?_
  have ea : area2R (rotL l (a % l.length)) = area2R l := by
    unfold area2R
    rw [if_pos (ring_ok.2 hr), if_pos hv', area_eq hr'.near hl', area_eq hr.near (by omega), hR.area]
  have ew : whereV (rotL l (a % l.length)) p = whereV l p := hR.whereV p
  have ecn : canonR l = beginL l := by rw [canonR, if_pos (ring_ok.2 hr)]
  have ecn' : canonR (rotL l (a % l.length)) = beginL l := by rw [canonR, if_pos hv', begin_of_rot hR hr]
  have hbl : (beginL l).length ≤ 10000 := by rw [beginL, rotL_len]; omega
  refine CallW.mk' ((valid_det' _ hl').eq (by rw [hv'])) ?_
  repeat' first | refine Split.t ?_ | refine Split.f ?_ | fail
  refine CallW.int ((area2_det _ hl').eq (by rw [ea])) (fun n hn => ?_)
  repeat' first | refine Split.t ?_ | refine Split.f ?_ | fail
  refine CallW.int (area2_det l (by omega)) (fun m hm => ?_)
  obtain rfl : n = m := hn.trans hm.symm
  have en : (n != n) = false := by simp
  repeat' first | refine Split.t ?_ | refine Split.f ?_ | refine Split.isF en ?_ | fail
  refine CallW.mk' ((canon_det _ hl').eq (by rw [ecn'])) ?_
  rw [ecn]
  repeat' first | refine Split.t ?_ | refine Split.f ?_ | refine Split.isF en ?_ | fail
  refine CallW.mk' ((same_det _ _ hbl).eq (by rw [decide_eq_true rfl])) ?_
  repeat' first | refine Split.t ?_ | refine Split.f ?_ | refine Split.isF en ?_ | fail
  refine CallW.int ((whereV_det _ p hl').eq (by rw [ew])) (fun x hx => ?_)
  repeat' first | refine Split.t ?_ | refine Split.f ?_ | refine Split.isF en ?_ | fail
  refine CallW.int (whereV_det l p (by omega)) (fun y hy => ?_)
  obtain rfl : x = y := hx.trans hy.symm
  have ex : (x != x) = false := by simp
  repeat' first | refine Split.t ?_ | refine Split.f ?_ | refine Split.isF en ?_ | refine Split.isF ex ?_ | fail
  refine CallW.mk' (reverse_det l (by omega)) ?_
  repeat' first | refine Split.t ?_ | refine Split.f ?_ | refine Split.isF en ?_ | refine Split.isF ex ?_ | fail
  refine CallW.mk' ((valid_det' l.reverse (by rw [List.length_reverse]; omega)).eq (by rw [rev_bad hr])) ?_
  repeat' first | refine Split.t ?_ | refine Split.f ?_ | refine Split.isF en ?_ | refine Split.isF ex ?_ | fail
  refine Need.mk (by kernel_rfl) ?_
  repeat' first | refine Split.t ?_ | refine Split.f ?_ | refine Split.isF en ?_ | refine Split.isF ex ?_ | fail
  generalize ht : rotL l (a % l.length) = u at *
  have hu : u.length = l.length := hR.len
  have hw1 : IntKind.i64.wrap ((u.length : Int) - 1) = ((u.length - 1 : Nat) : Int) := by rw [hu, Sg.hw _ (by omega) (by omega)]; omega
  refine Need.mk (needApp (by omega) (by decide)) ?_
  refine Need.mk (by rw [hw1]; omega) ?_
  refine Need.mk (needApp (by omega) (by decide)) ?_
  refine Need.mk (by kernel_rfl) ?_
  refine CallW.mk' (reverse_det u hl') ?_
  refine CallW.ring ((clean_det u.reverse (by rw [List.length_reverse, hu]; exact hl)).eq (by rw [clean_rev hr', begin_of_rot hR hr])) (fun e he => ?_)
  refine CallW.ring (((clean_det (u ++ [gt u (u.length - 1)]) (by simp only [List.length_append, hu, List.length_singleton, maxLen]; omega)).eq (by rw [clean_repeat hr', begin_of_rot hR hr])).le (.cons (DLe.one (SLe.slN ?_ ?_)) .nil)) (fun f hf => ?_)
  rotate_left
  rotate_left
  · subst he hf
    repeat' first | refine Split.t ?_ | refine Split.f ?_ | fail
    refine CallW.mk' ((same_det _ _ hbl).eq (by rw [decide_eq_true rfl])) ?_
    repeat' first | refine Split.t ?_ | refine Split.f ?_ | fail
    refine CallW.mk' ((same_det _ _ hbl).eq (by rw [decide_eq_true rfl])) ?_
    repeat' first | refine Split.t ?_ | refine Split.f ?_ | fail
    exact Fin.rfl'
  · simp
  · intro i hi j hj
    have hg1 : ∀ i, i < u.length → gt (u ++ [gt u (u.length - 1)]) i = gt u i := fun i hi => by simp [gt, List.getD, List.getElem?_append_left hi]
    have hg2 : gt (u ++ [gt u (u.length - 1)]) u.length = gt u (u.length - 1) := by simp [gt, List.getD]
    rw [Nat.zero_add] at hi ⊢
    by_cases hc : i < u.length
    · rw [blt_t hc, cond_true]
      show SLe (bif Nat.blt i 0 then SV.v Go.undef else vG u (i - 0) j) _
      rw [blt_f (Nat.not_lt_zero _), cond_false, Nat.sub_zero]
      exact SLe.of_eq (vG_eq (hg1 i hc).symm j)
    · have e : i = u.length := by omega
      subst e
      rw [blt_f hc, cond_false]
      show SLe (List.getD [i64 (gt u (IntKind.i64.wrap ((u.length : Int) - 1)).toNat).x, i64 (gt u (IntKind.i64.wrap ((u.length : Int) - 1)).toNat).y] ((u.length - u.length) * 2 + j) (.v Go.undef)) _
      rw [Nat.sub_self, hw1, Int.toNat_natCast]
      have hj' : j < 2 := hj
      refine SLe.of_eq ?_
      match j, hj' with
      | 0, _ => show i64 (gt u (u.length - 1)).x = i64 (gt (u ++ [gt u (u.length - 1)]) u.length).x; rw [hg2]
      | 1, _ => show i64 (gt u (u.length - 1)).y = i64 (gt (u ++ [gt u (u.length - 1)]) u.length).y; rw [hg2]
theorem lstart_all : ∀ dvs, TypL Try.prog Try.f10.params.toList dvs → Det Try.prog 10 dvs (tbool true) := by
  intro dvs h
  obtain ⟨v0, r0, rfl, h0, q0⟩ := TypL.inv_cons (t := 23) (ts := [5, 32]) h
  obtain ⟨v1, r1, rfl, h1, q1⟩ := TypL.inv_cons (t := 5) (ts := [32]) q0
  obtain ⟨v2, r2, rfl, h2, q2⟩ := TypL.inv_cons (t := 32) (ts := []) q1
  obtain rfl := TypL.inv_nil q2
  obtain ⟨l, hl, hle⟩ := ring_of h0
  obtain ⟨a, rfl, ha⟩ := TypD.int (k := .u8) (by kernel_rfl) rfl h1
  obtain ⟨p, rfl, _⟩ := vecIn h2
  have h3 : 0 ≤ a ∧ a ≤ 255 := by
    simp [InK, Lit.wf, IntKind.min, IntKind.max, IntKind.bits, IntKind.signed] at ha
    omega
  obtain ⟨n, rfl⟩ := Int.eq_ofNat_of_zero_le h3.1
  exact Det.le (.cons hle (.cons (DLe.refl _) (.cons (DLe.refl _) .nil))) (lstart_det l n p (by omega) hl)
end Sg
end Go.Vm
