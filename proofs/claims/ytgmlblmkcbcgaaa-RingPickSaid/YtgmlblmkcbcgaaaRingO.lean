/-
  Layer 8: the contracts of RingClean, RingWhere and RingMove.
  Layer 8: the contracts of RingWhere and RingMove.
-/
import Derived.Test.YtgmlblmkcbcgaaaRingM
namespace Go.Vm
set_option maxRecDepth 20000
set_option linter.unusedVariables false
set_option linter.unusedSimpArgs false
open Go Go.RowKit Go.Proofs
namespace Sg

theorem CallW.ring {P : Program} {f : FuncId} {args : List DV} {K : TV → Prop} {l : List V2} {e : Int} (h : Det P f args (ringE l e)) (kk : ∀ n, n = e → K (ringE l n)) : CallW P f args K := ⟨_, h, kk e rfl⟩
theorem lclean_det (l : List V2) (hl : l.length ≤ maxLen) : Det Try.prog 6 [.one (vlS l)] (tbool true) := by
  refine det_of_awp TTok mixed Try.func6 rfl rfl [] (Nat.le_of_ble_eq_true rfl) ?_
  refine CallW.mk' awake8_det ?_
  refine Split.f ?_
  refine Split.mk (fun h => ?_) (fun h => ?_)
  · exact Fin.rfl'
  have h6 : l.length ≤ 60 := by have := of_decide_eq_false h; omega
  have hlen : (cleanR l).1.length ≤ 40000 := by
    by_cases h0 : (cleanR l).2 = 0
    · have := (clean_twice h0).1.len; omega
    · rw [clean_bad h0]; decide
  refine CallW.ring (clean_det l hl) (fun e he => ?_)
  refine CallW.ring (rclean_det l hl) (fun f hf => ?_)
  refine CallW.mk' ((rsame_det _ _ hlen).eq (by rw [decide_eq_true rfl])) ?_
  obtain rfl : e = f := he.trans hf.symm
  have en : (e != e) = false := by simp
  repeat' first | refine Split.t ?_ | refine Split.f ?_ | refine Split.isF en ?_ | fail
  refine Split.mk (fun h => ?_) (fun h => ?_)
  · have h0 : (cleanR l).2 ≠ 0 := by rw [← he]; simpa using h
    refine Fin.bool ?_
    rw [clean_bad h0]; rfl
  · have h0 : (cleanR l).2 = 0 := by rw [← he]; simpa using h
    obtain ⟨c1, c2, c3⟩ := clean_twice h0
    have hcl : Det Try.prog 33 [.one (vlS (cleanR l).1)] (ringE (cleanR l).1 0) := by
      have := clean_det (cleanR l).1 (by have := c1.len; simp only [maxLen]; omega)
      rw [c2] at this
      exact this
    refine CallW.mk' hcl ?_
    repeat' first | refine Split.t ?_ | fail
    refine CallW.mk' ((same_det _ _ hlen).eq (by rw [decide_eq_true rfl])) ?_
    repeat' first | refine Split.t ?_ | fail
    refine CallW.mk' ((valid_det' _ hlen).eq (by rw [ring_ok.2 c1])) ?_
    repeat' first | refine Split.t ?_ | fail
    refine CallW.mk' (canon_det _ hlen) ?_
    rw [canon_clean h0]
    repeat' first | refine Split.t ?_ | fail
    refine CallW.mk' ((same_det _ _ hlen).eq (by rw [decide_eq_true rfl])) ?_
    repeat' first | refine Split.t ?_ | fail
    exact Fin.rfl'
/-- A list of vectors as it comes in. -/
theorem list_of {n : Nat} {get : Nat → Nat → SV} (hr : ∀ i, i < n → Typ Try.prog 32 (cells 2 (get i))) : ∃ l : List V2, l.length = n ∧ DLe (.one (.sl n 2 get)) (.one (vlS l)) := by
  have hp : ∀ i, ∃ p : V2, i < n → cells 2 (get i) = vL p := fun i => by
    by_cases hi : i < n
    · obtain ⟨a0, a1, e, _⟩ := typ32 (hr i hi)
      exact ⟨⟨a0, a1⟩, fun _ => e⟩
    · exact ⟨⟨0, 0⟩, fun h => absurd h hi⟩
  obtain ⟨R, hR⟩ := Classical.axiomOfChoice hp
  refine ⟨(List.range n).map R, by simp, DLe.one (SLe.slN (by simp) (fun i hi j hj => ?_))⟩
  have e : [get i 0, get i 1] = vL (R i) := hR i hi
  simp only [List.cons.injEq] at e
  obtain ⟨e0, e1, _⟩ := e
  have hg : ((List.range n).map R).getD i ⟨0, 0⟩ = R i := by simp [List.getD, hi]
  match j, hj with
  | 0, _ => exact SLe.of_eq (by rw [e0]; show _ = vG _ i 0; rw [← hg]; rfl)
  | 1, _ => exact SLe.of_eq (by rw [e1]; show _ = vG _ i 1; rw [← hg]; rfl)
theorem veclist_of {v : DV} (h : TypD Try.prog 22 v) : ∃ l : List V2, l.length ≤ maxLen ∧ DLe v (.one (vlS l)) := by
  obtain ⟨c, rfl, h1⟩ := TypD.one (by kernel_rfl) h
  obtain ⟨n, get, e, hn, hr⟩ := Typ.inv_slc (P := Try.prog) (e := 32) rfl h1
  cases e
  obtain ⟨l, h2, h3⟩ := list_of hr
  exact ⟨l, by rw [h2]; exact hn, h3⟩
theorem ring_of {v : DV} (h : TypD Try.prog 23 v) : ∃ l : List V2, l.length ≤ maxLen ∧ DLe v (.one (vlS l)) := by
  obtain ⟨c, rfl, h1⟩ := TypD.one (by kernel_rfl) h
  obtain ⟨n, get, e, hn, hr⟩ := Typ.inv_slc (P := Try.prog) (e := 32) rfl h1
  cases e
  obtain ⟨l, h2, h3⟩ := list_of hr
  exact ⟨l, by rw [h2]; exact hn, h3⟩
theorem lclean_all : ∀ dvs, TypL Try.prog Try.f6.params.toList dvs → Det Try.prog 6 dvs (tbool true) := by
  intro dvs h
  obtain ⟨v0, r0, rfl, h0, q0⟩ := TypL.inv_cons (t := 22) (ts := []) h
  obtain rfl := TypL.inv_nil q0
  obtain ⟨l, hl, hle⟩ := veclist_of h0
  exact Det.le (.cons hle .nil) (lclean_det l hl)
end Sg
end Go.Vm
namespace Go.Vm
set_option maxRecDepth 20000
set_option linter.unusedVariables false
set_option linter.unusedSimpArgs false
open Go Go.RowKit Go.Proofs
namespace Sg

theorem mov_moved {l : List V2} {v : V2} (hn : nearR l = true) (hv : withinV v 4000 = true) : Moved l (movL l v) v := by
  have iv := In.of (by decide) (by decide) hv
  refine ⟨movL_len l v, fun i hi => ?_⟩
  show (movL l v).getD i ⟨0, 0⟩ = _
  rw [movL_at l v i hi, addW_eq ((near_in hn i).up (by decide)) (iv.up (by decide))]
theorem mov_ok {l : List V2} {v : V2} (h : (movR l v).2 = 0) : RingOk l ∧ withinV v 4000 = true ∧ nearR (movL l v) = true ∧ (movR l v).1 = movL l v := by
  unfold movR at h ⊢
  by_cases h1 : validR l = false
  · rw [if_pos h1] at h; cases h
  rw [if_neg h1] at h ⊢
  by_cases h2 : withinV v 4000 = false
  · rw [if_pos h2] at h; cases h
  rw [if_neg h2] at h ⊢
  by_cases h3 : nearR (movL l v) = false
  · rw [if_pos h3] at h; cases h
  rw [if_neg h3]
  exact ⟨ring_ok.1 (by simpa using h1), by simpa using h2, by simpa using h3, rfl⟩
theorem mov_len (l : List V2) (v : V2) : (movR l v).1.length ≤ l.length := by
  unfold movR
  split
  · exact Nat.zero_le _
  split
  · exact Nat.zero_le _
  split
  · exact Nat.zero_le _
  · exact Nat.le_of_eq (movL_len l v)
theorem lmove_det (l : List V2) (v p : V2) (hl : l.length ≤ maxLen) : Det Try.prog 11 [.one (vlS l), vD v, vD p] (tbool true) := by
  refine det_of_awp TTok mixed Try.func11 rfl rfl [] (Nat.le_of_ble_eq_true rfl) ?_
  refine CallW.mk' awake8_det ?_
  repeat' first | refine Split.t ?_ | refine Split.f ?_ | fail
  refine CallW.bool (few_det l hl) (fun b hb => ?_)
  repeat' first | refine Split.t ?_ | refine Split.f ?_ | fail
  refine Split.mk (fun h => ?_) (fun h => ?_)
  · exact Fin.rfl'
  have h6 : l.length ≤ 60 := by
    have : b = true := by simpa using h
    exact of_decide_eq_true (by rw [← hb, this])
  have hlen : (movR l v).1.length ≤ 40000 := Nat.le_trans (mov_len l v) (by omega)
  refine CallW.ring (move_det l v (by omega)) (fun e he => ?_)
  refine CallW.ring (rmove_det l v (by omega)) (fun f hf => ?_)
  refine CallW.mk' ((rsame_det _ _ hlen).eq (by rw [decide_eq_true rfl])) ?_
  repeat' first | refine Split.t ?_ | refine Split.f ?_ | fail
  obtain rfl : e = f := he.trans hf.symm
  have en : (e != e) = false := by simp
  repeat' first | refine Split.t ?_ | refine Split.f ?_ | refine Split.isF en ?_ | fail
  refine Split.mk (fun h => ?_) (fun h => ?_)
  · repeat' first | refine Split.t ?_ | refine Split.f ?_ | fail
    exact Fin.rfl'
  have h0 : (movR l v).2 = 0 := by rw [← he]; simpa using h
  obtain ⟨hr, hv, hn, hm⟩ := mov_ok h0
  repeat' first | refine Split.t ?_ | refine Split.f ?_ | fail
  refine CallW.bool (within_det p 1000) (fun c hc => ?_)
  repeat' first | refine Split.t ?_ | refine Split.f ?_ | fail
  refine Split.mk (fun h => ?_) (fun h => ?_)
  · exact Fin.rfl'
  have hp : withinV p 1000 = true := by rw [← hc]; simpa using h
  have M := mov_moved hr.near hv
  have hr' := M.ok hr hn
  rw [hm]
  have hl' : (movL l v).length ≤ 40000 := by rw [movL_len]; omega
  have ea : area2R (movL l v) = area2R l := by
    unfold area2R
    rw [if_pos (ring_ok.2 hr), if_pos (ring_ok.2 hr'), area_eq hn hl', area_eq hr.near (by omega), M.area]
  have ew : whereV (movL l v) (addW p v) = whereV l p := by
    have ip := In.of (by decide) (by decide) hp
    have iv := In.of (by decide) (by decide) hv
    rw [whereV_eq hr, whereV_eq hr', addW_eq (ip.up (by decide)) (iv.up (by decide)), M.where]
  have ec : convexR (movL l v) = convexR l := by
    unfold convexR
    rw [M.left hr.near hn, ring_ok.2 hr, ring_ok.2 hr']
  refine CallW.int ((area2_det _ hl').eq (by rw [ea])) (fun n hn => ?_)
  repeat' first | refine Split.t ?_ | refine Split.f ?_ | fail
  refine CallW.int (area2_det l (by omega)) (fun m hm => ?_)
  repeat' first | refine Split.t ?_ | refine Split.f ?_ | fail
  obtain rfl : n = m := hn.trans hm.symm
  have en : (n == n) = true := by simp
  refine Split.isT en ?_
  repeat' first | refine Split.t ?_ | refine Split.f ?_ | fail
  refine CallW.mk' (add_det p v) ?_
  repeat' first | refine Split.t ?_ | refine Split.f ?_ | fail
  refine CallW.int ((whereV_det _ (addW p v) hl').eq (by rw [ew])) (fun x hx => ?_)
  repeat' first | refine Split.t ?_ | refine Split.f ?_ | fail
  refine CallW.int (whereV_det l p (by omega)) (fun y hy => ?_)
  repeat' first | refine Split.t ?_ | refine Split.f ?_ | fail
  obtain rfl : x = y := hx.trans hy.symm
  have ex : (x == x) = true := by simp
  refine Split.isT ex ?_
  repeat' first | refine Split.t ?_ | fail
  refine CallW.bool ((convex_det _ hl').eq (by rw [ec])) (fun x hx => ?_)
  repeat' first | refine Split.t ?_ | refine Split.f ?_ | fail
  refine CallW.bool (convex_det l (by omega)) (fun y hy => ?_)
  repeat' first | refine Split.t ?_ | refine Split.f ?_ | fail
  obtain rfl : x = y := hx.trans hy.symm
  refine Need.mk rfl ?_
  repeat' first | refine Split.t ?_ | fail
  refine Need.mk (by kernel_rfl) ?_
  refine Fin.bool ?_
  simp

def onK (l : List V2) (p : V2) (k : Nat) : Bool := !allB k fun i => !onB (edge l i) p
theorem onK_succ (l : List V2) (p : V2) (k : Nat) : onK l p (k + 1) = (onK l p k || onB (edge l k) p) := by
  unfold onK allB
  rw [List.range_succ, List.all_append]
  simp
theorem on_one {l : List V2} {p : V2} (hr : RingOk l) (hp : In 4000 p) : (onK l p l.length == decide (whereV l p = 1)) = true := by
  have e : onK l p l.length = onAny l (ptOf p) := by
    unfold onK onAny
    rw [allB_congr (fun i hi => by rw [onB_onP (edge_valid hr.near i) hp (near_in hr.near _) (near_in hr.near _)])]
  rw [e, whereV_eq hr, wherePl]
  cases onAny l (ptOf p) with
  | true => rfl
  | false =>
    cases parK l (ptOf p) l.length <;> rfl
theorem lwhere_det (l : List V2) (p : V2) (q : P3) (hl : l.length ≤ maxLen) : Det Try.prog 5 [.one (vlS l), vD p, pD q] (tbool true) := by
  refine det_of_awp TTok mixed Try.func5 rfl rfl [] (Nat.le_of_ble_eq_true rfl) ?_
  refine CallW.mk' awake8_det ?_
  repeat' first | refine Split.t ?_ | refine Split.f ?_ | fail
  refine CallW.bool (few_det l hl) (fun b hb => ?_)
  repeat' first | refine Split.t ?_ | refine Split.f ?_ | fail
  refine Split.mk (fun h => ?_) (fun h => ?_)
  · exact Fin.rfl'
  have h6 : l.length ≤ 60 := by
    have : b = true := by simpa using h
    exact of_decide_eq_true (by rw [← hb, this])
  refine CallW.int (whereV_det l p (by omega)) (fun w hw => ?_)
  repeat' first | refine Split.t ?_ | refine Split.f ?_ | fail
  refine CallW.int (rwhereV_det l p (by omega)) (fun w' hw' => ?_)
  repeat' first | refine Split.t ?_ | refine Split.f ?_ | fail
  obtain rfl : w = w' := hw.trans hw'.symm
  have en : (w != w) = false := by simp
  refine Split.isF en ?_
  repeat' first | refine Split.t ?_ | refine Split.f ?_ | fail
  refine CallW.int (where_det l q (by omega)) (fun x hx => ?_)
  repeat' first | refine Split.t ?_ | refine Split.f ?_ | fail
  refine CallW.int (rwhere_det l q (by omega)) (fun x' hx' => ?_)
  repeat' first | refine Split.t ?_ | refine Split.f ?_ | fail
  obtain rfl : x = x' := hx.trans hx'.symm
  have ex : (x != x) = false := by simp
  repeat' first | refine Split.t ?_ | refine Split.f ?_ | refine Split.isF en ?_ | refine Split.isF ex ?_ | fail
  refine Need.mk (by kernel_rfl) ?_
  refine Split.isF ex ?_
  refine CallW.bool (valid_det' l (by omega)) (fun c hc => ?_)
  repeat' first | refine Split.t ?_ | refine Split.f ?_ | fail
  refine Split.mk (fun h => ?_) (fun h => ?_)
  · repeat' first | refine Split.t ?_ | refine Split.f ?_ | refine Split.isT h ?_ | fail
    exact Fin.rfl'
  have hr : RingOk l := ring_ok.1 (by rw [← hc]; simpa using h)
  repeat' first | refine Split.t ?_ | refine Split.f ?_ | refine Split.isF h ?_ | fail
  refine CallW.bool (within_det p 4000) (fun d hd => ?_)
  repeat' first | refine Split.t ?_ | refine Split.f ?_ | refine Split.isF h ?_ | fail
  refine Split.mk (fun h => ?_) (fun h => ?_)
  · exact Fin.rfl'
  have hp : In 4000 p := In.of (by decide) (by decide) (by rw [← hd]; simpa using h)
  have hge : ¬ l.length < 2 := by have := hr.three; omega
  have hEl := edges_len hge
  refine CallW.mk' (edges_det l (by omega)) ?_
  repeat' first | refine Split.t ?_ | refine Split.f ?_ | fail
  refine Loop.by (α := Nat) (fun k => [(0, .d (.one (vlS l))), (4, .ptr 4 0), (5, .ptr 5 0), (7, tint w), (9, .d (.one (slS (edgesL l)))), (8, tbool (onK l p k)), (10, tint k)]) (fun _ => [(4, .box (vL p)), (5, .box (pL q))]) (fun k => k ≤ l.length) (fun k => l.length - k)
    (Adj.at 0 (Nat.zero_le _) (.cons (.box (LLe.of_eq rfl)) (.cons (.box (LLe.of_eq rfl)) .nil)) (.cons .same (.cons (.box rfl rfl) (.cons (.box rfl rfl) (.cons .same (.cons .same (.cons .same (.cons .same .nil)))))))) (fun k hk => ?_)
  refine Split.mk (fun h => ?_) (fun h => ?_)
  · have hlt : k < l.length := by have := of_decide_eq_true h; omega
    refine Split.mk (fun h1 => ?_) (fun h1 => ?_)
    · repeat' first | refine Split.t ?_ | refine Split.f ?_ | refine Split.isT h1 ?_ | fail
      refine Need.mk (by kernel_rfl) ?_
      refine Adj.back (x := k) (k + 1) (by omega) (by omega) (.cons (.box (LLe.of_eq rfl)) (.cons (.box (LLe.of_eq rfl)) .nil)) (.cons .same (.cons (.box rfl rfl) (.cons (.box rfl rfl) (.cons .same (.cons .same (.cons (SlotLe.bool ?_) (.cons (SlotLe.int ?_) .nil)))))))
      · rw [onK_succ, show onK l p k = true from h1]; rfl
      · rw [Sg.hw _ (by omega) (by omega)]; omega
    · repeat' first | refine Split.t ?_ | refine Split.f ?_ | refine Split.isF h1 ?_ | fail
      refine Need.mk (by omega) ?_
      repeat' first | refine Split.t ?_ | refine Split.f ?_ | refine Split.isF h1 ?_ | fail
      refine CallW.le (ron_det (edge l k) p) (.cons (DLe.of_eq (congrArg sD (edges_at hge k hlt))) (.cons (DLe.refl _) .nil)) ?_
      repeat' first | refine Split.t ?_ | refine Split.f ?_ | refine Split.isF h1 ?_ | fail
      refine Need.mk (by kernel_rfl) ?_
      refine Adj.back (x := k) (k + 1) (by omega) (by omega) (.cons (.box (LLe.of_eq rfl)) (.cons (.box (LLe.of_eq rfl)) .nil)) (.cons .same (.cons (.box rfl rfl) (.cons (.box rfl rfl) (.cons .same (.cons .same (.cons (SlotLe.bool ?_) (.cons (SlotLe.int ?_) .nil)))))))
      · rw [onK_succ, show onK l p k = false from h1]; rfl
      · rw [Sg.hw _ (by omega) (by omega)]; omega
  · have he : k = l.length := by have := of_decide_eq_false h; omega
    subst he
    have hon := on_one hr hp
    rw [← hw] at hon
    generalize onK l p l.length = o at *
    have hon' : (o == (w == 1)) = true := hon
    refine Need.mk rfl ?_
    repeat' first | refine Split.t ?_ | refine Split.f ?_ | refine Split.isT hon' ?_ | fail
    refine CallW.mk' (rpointof_det p) ?_
    repeat' first | refine Split.t ?_ | refine Split.f ?_ | refine Split.isT hon' ?_ | fail
    repeat' first | refine Split.t ?_ | refine Split.f ?_ | fail
    refine CallW.int ((where_det l (ptOf p) (by omega)).eq (by rw [show whereR l (ptOf p) = whereV l p by rw [whereV, if_pos (hp.within (by decide) (by decide))]])) (fun z hz => ?_)
    repeat' first | refine Split.t ?_ | refine Split.f ?_ | refine Split.isT hon' ?_ | fail
    refine Fin.bool ?_
    rw [hz, hw]; simp
theorem vecIn {v : DV} (h : TypD Try.prog 32 v) : ∃ p : V2, v = vD p ∧ R64 p.x ∧ R64 p.y := by
  obtain ⟨cs, rfl, k⟩ := TypD.agg (by kernel_rfl) h
  obtain ⟨a0, a1, rfl, h0, h1⟩ := typ32 k
  exact ⟨⟨a0, a1⟩, rfl, h0, h1⟩
theorem pointIn {v : DV} (h : TypD Try.prog 41 v) : ∃ p : P3, v = pD p ∧ R64 p.x ∧ R64 p.y ∧ R64 p.d := by
  obtain ⟨cs, rfl, k⟩ := TypD.agg (by kernel_rfl) h
  obtain ⟨a0, a1, a2, rfl, h0, h1, h2⟩ := typ41 k
  exact ⟨⟨a0, a1, a2⟩, rfl, h0, h1, h2⟩
theorem segIn {v : DV} (h : TypD Try.prog 47 v) : ∃ s : Seg, v = sD s ∧ R64 s.a.x ∧ R64 s.a.y ∧ R64 s.b.x ∧ R64 s.b.y := by
  obtain ⟨cs, rfl, k⟩ := TypD.agg (by kernel_rfl) h
  obtain ⟨a0, a1, a2, a3, rfl, h0, h1, h2, h3⟩ := typ47 k
  exact ⟨⟨⟨a0, a1⟩, ⟨a2, a3⟩⟩, rfl, h0, h1, h2, h3⟩
theorem lmove_all : ∀ dvs, TypL Try.prog Try.f11.params.toList dvs → Det Try.prog 11 dvs (tbool true) := by
  intro dvs h
  obtain ⟨v0, r0, rfl, h0, q0⟩ := TypL.inv_cons (t := 23) (ts := [32, 32]) h
  obtain ⟨v1, r1, rfl, h1, q1⟩ := TypL.inv_cons (t := 32) (ts := [32]) q0
  obtain ⟨v2, r2, rfl, h2, q2⟩ := TypL.inv_cons (t := 32) (ts := []) q1
  obtain rfl := TypL.inv_nil q2
  obtain ⟨l, hl, hle⟩ := ring_of h0
  obtain ⟨v, rfl, _⟩ := vecIn h1
  obtain ⟨p, rfl, _⟩ := vecIn h2
  exact Det.le (.cons hle (.cons (DLe.refl _) (.cons (DLe.refl _) .nil))) (lmove_det l v p hl)
theorem lwhere_all : ∀ dvs, TypL Try.prog Try.f5.params.toList dvs → Det Try.prog 5 dvs (tbool true) := by
  intro dvs h
  obtain ⟨v0, r0, rfl, h0, q0⟩ := TypL.inv_cons (t := 23) (ts := [32, 41]) h
  obtain ⟨v1, r1, rfl, h1, q1⟩ := TypL.inv_cons (t := 32) (ts := [41]) q0
  obtain ⟨v2, r2, rfl, h2, q2⟩ := TypL.inv_cons (t := 41) (ts := []) q1
  obtain rfl := TypL.inv_nil q2
  obtain ⟨l, hl, hle⟩ := ring_of h0
  obtain ⟨p, rfl, _⟩ := vecIn h1
  obtain ⟨q, rfl, _⟩ := pointIn h2
  exact Det.le (.cons hle (.cons (DLe.refl _) (.cons (DLe.refl _) .nil))) (lwhere_det l p q hl)
end Sg
end Go.Vm
