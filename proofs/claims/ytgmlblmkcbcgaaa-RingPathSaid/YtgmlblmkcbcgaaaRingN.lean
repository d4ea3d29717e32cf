/-
  Layer 8: the contracts of RingClean, RingWhere and RingMove.
-/
import Derived.Test.YtgmlblmkcbcgaaaRingM
namespace Go.Vm
set_option maxRecDepth 20000
set_option linter.unusedVariables false
set_option linter.unusedSimpArgs false
open Go Go.RowKit Go.Proofs
namespace Sg

theorem CallW.ring {P : Program} {f : FuncId} {args : List DV} {K : TV → Prop} {l : List V2} {e : Int} (h : Det P f args (ringE l e)) (kk : ∀ n, n = e → K (ringE l n)) : CallW P f args K := ⟨_, h, kk e rfl⟩
theorem lclean_det (l : List V2) (hl : l.length ≤ maxLen) : Det Try.prog 6 [.one (vlS l)] (tbool true) := by
  refine det_of_awp TTok mixed Try.func6 rfl rfl [] (Nat.le_of_ble_eq_true rfl) ?_
  refine CallW.mk' awake8_det ?_
  refine Split.f ?_
  refine Split.mk (fun h => ?_) (fun h => ?_)
  · exact Fin.rfl'
  have h6 : l.length ≤ 60 := by have := of_decide_eq_false h; omega
  have hlen : (cleanR l).1.length ≤ 10000 := by
    by_cases h0 : (cleanR l).2 = 0
    · have := (clean_twice h0).1.len; omega
    · rw [clean_bad h0]; decide
  refine CallW.ring (clean_det l hl) (fun e he => ?_)
  refine CallW.ring (rclean_det l hl) (fun f hf => ?_)
  refine CallW.mk' ((rsame_det _ _ hlen).eq (by rw [decide_eq_true rfl])) ?_
  obtain rfl : e = f := he.trans hf.symm
  have en : (e != e) = false := by simp
  repeat' first | refine Split.t ?_ | refine Split.f ?_ | refine Split.isF en ?_ | fail
  refine Split.mk (fun h => ?_) (fun h => ?_)
  · have h0 : (cleanR l).2 ≠ 0 := by rw [← he]; simpa using h
    refine Fin.bool ?_
    rw [clean_bad h0]; rfl
  · have h0 : (cleanR l).2 = 0 := by rw [← he]; simpa using h
    obtain ⟨c1, c2, c3⟩ := clean_twice h0
    have hcl : Det Try.prog 33 [.one (vlS (cleanR l).1)] (ringE (cleanR l).1 0) := by
      have := clean_det (cleanR l).1 (by have := c1.len; simp only [maxLen]; omega)
      rw [c2] at this
      exact this
    refine CallW.mk' hcl ?_
    repeat' first | refine Split.t ?_ | fail
    refine CallW.mk' ((same_det _ _ hlen).eq (by rw [decide_eq_true rfl])) ?_
    repeat' first | refine Split.t ?_ | fail
    refine CallW.mk' ((valid_det' _ hlen).eq (by rw [ring_ok.2 c1])) ?_
    repeat' first | refine Split.t ?_ | fail
    refine CallW.mk' (canon_det _ hlen) ?_
    rw [canon_clean h0]
    repeat' first | refine Split.t ?_ | fail
    refine CallW.mk' ((same_det _ _ hlen).eq (by rw [decide_eq_true rfl])) ?_
    repeat' first | refine Split.t ?_ | fail
    exact Fin.rfl'
/-- A list of vectors as it comes in. -/
theorem list_of {n : Nat} {get : Nat → Nat → SV} (hr : ∀ i, i < n → Typ Try.prog 32 (cells 2 (get i))) : ∃ l : List V2, l.length = n ∧ DLe (.one (.sl n 2 get)) (.one (vlS l)) := by
  have hp : ∀ i, ∃ p : V2, i < n → cells 2 (get i) = vL p := fun i => by
    by_cases hi : i < n
    · obtain ⟨a0, a1, e, _⟩ := typ32 (hr i hi)
      exact ⟨⟨a0, a1⟩, fun _ => e⟩
    · exact ⟨⟨0, 0⟩, fun h => absurd h hi⟩
  obtain ⟨R, hR⟩ := Classical.axiomOfChoice hp
  refine ⟨(List.range n).map R, by simp, DLe.one (SLe.slN (by simp) (fun i hi j hj => ?_))⟩
  have e : [get i 0, get i 1] = vL (R i) := hR i hi
  simp only [List.cons.injEq] at e
  obtain ⟨e0, e1, _⟩ := e
  have hg : ((List.range n).map R).getD i ⟨0, 0⟩ = R i := by simp [List.getD, hi]
  match j, hj with
  | 0, _ => exact SLe.of_eq (by rw [e0]; show _ = vG _ i 0; rw [← hg]; rfl)
  | 1, _ => exact SLe.of_eq (by rw [e1]; show _ = vG _ i 1; rw [← hg]; rfl)
theorem veclist_of {v : DV} (h : TypD Try.prog 22 v) : ∃ l : List V2, l.length ≤ maxLen ∧ DLe v (.one (vlS l)) := by
  obtain ⟨c, rfl, h1⟩ := TypD.one (by kernel_rfl) h
  obtain ⟨n, get, e, hn, hr⟩ := Typ.inv_slc (P := Try.prog) (e := 32) rfl h1
  cases e
  obtain ⟨l, h2, h3⟩ := list_of hr
  exact ⟨l, by rw [h2]; exact hn, h3⟩
theorem ring_of {v : DV} (h : TypD Try.prog 23 v) : ∃ l : List V2, l.length ≤ maxLen ∧ DLe v (.one (vlS l)) := by
  obtain ⟨c, rfl, h1⟩ := TypD.one (by kernel_rfl) h
  obtain ⟨n, get, e, hn, hr⟩ := Typ.inv_slc (P := Try.prog) (e := 32) rfl h1
  cases e
  obtain ⟨l, h2, h3⟩ := list_of hr
  exact ⟨l, by rw [h2]; exact hn, h3⟩
theorem lclean_all : ∀ dvs, TypL Try.prog Try.f6.params.toList dvs → Det Try.prog 6 dvs (tbool true) := by
  intro dvs h
  obtain ⟨v0, r0, rfl, h0, q0⟩ := TypL.inv_cons (t := 22) (ts := []) h
  obtain rfl := TypL.inv_nil q0
  obtain ⟨l, hl, hle⟩ := veclist_of h0
  exact Det.le (.cons hle .nil) (lclean_det l hl)
end Sg
end Go.Vm
