/-
  Layer 8: the contracts of RingClean, RingWhere and RingMove.
  Layer 8: the contracts of RingWhere and RingMove.
-/
import Derived.Test.YtamlpihmfedkkaaRingM
namespace Go.Vm
set_option maxRecDepth 20000
set_option linter.unusedVariables false
set_option linter.unusedSimpArgs false
open Go Go.RowKit Go.Proofs
namespace Sg

theorem CallW.ring {P : Program} {f : FuncId} {args : List DV} {K : TV → Prop} {l : List V2} {e : Int} (h : Det P f args (ringE l e)) (kk : ∀ n, n = e → K (ringE l n)) : CallW P f args K := ⟨_, h, kk e rfl⟩
/-- A list of vectors as it comes in. -/
theorem list_of {n : Nat} {get : Nat → Nat → SV} (hr : ∀ i, i < n → Typ Try.prog 35 (cells 2 (get i))) : ∃ l : List V2, l.length = n ∧ DLe (.one (.sl n 2 get)) (.one (vlS l)) := by
  have hp : ∀ i, ∃ p : V2, i < n → cells 2 (get i) = vL p := fun i => by
    by_cases hi : i < n
    · obtain ⟨a0, a1, e, _⟩ := typ35 (hr i hi)
      exact ⟨⟨a0, a1⟩, fun _ => e⟩
    · exact ⟨⟨0, 0⟩, fun h => absurd h hi⟩
  obtain ⟨R, hR⟩ := Classical.axiomOfChoice hp
  refine ⟨(List.range n).map R, by simp, DLe.one (SLe.slN (by simp) (fun i hi j hj => ?_))⟩
  have e : [get i 0, get i 1] = vL (R i) := hR i hi
  simp only [List.cons.injEq] at e
  obtain ⟨e0, e1, _⟩ := e
  have hg : ((List.range n).map R).getD i ⟨0, 0⟩ = R i := by simp [List.getD, hi]
  match j, hj with
  | 0, _ => exact SLe.of_eq (by rw [e0]; show _ = vG _ i 0; rw [← hg]; rfl)
  | 1, _ => exact SLe.of_eq (by rw [e1]; show _ = vG _ i 1; rw [← hg]; rfl)
theorem veclist_of {v : DV} (h : TypD Try.prog 45 v) : ∃ l : List V2, l.length ≤ maxLen ∧ DLe v (.one (vlS l)) := by
  obtain ⟨c, rfl, h1⟩ := TypD.one (by kernel_rfl) h
  obtain ⟨n, get, e, hn, hr⟩ := Typ.inv_slc (P := Try.prog) (e := 35) rfl h1
  cases e
  obtain ⟨l, h2, h3⟩ := list_of hr
  exact ⟨l, by rw [h2]; exact hn, h3⟩
theorem ring_of {v : DV} (h : TypD Try.prog 46 v) : ∃ l : List V2, l.length ≤ maxLen ∧ DLe v (.one (vlS l)) := by
  obtain ⟨c, rfl, h1⟩ := TypD.one (by kernel_rfl) h
  obtain ⟨n, get, e, hn, hr⟩ := Typ.inv_slc (P := Try.prog) (e := 35) rfl h1
  cases e
  obtain ⟨l, h2, h3⟩ := list_of hr
  exact ⟨l, by rw [h2]; exact hn, h3⟩
end Sg
end Go.Vm
namespace Go.Vm
set_option maxRecDepth 20000
set_option linter.unusedVariables false
set_option linter.unusedSimpArgs false
open Go Go.RowKit Go.Proofs
namespace Sg

theorem mov_moved {l : List V2} {v : V2} (hn : nearR l = true) (hv : withinV v 4000 = true) : Moved l (movL l v) v := by
  have iv := In.of (by decide) (by decide) hv
  refine ⟨movL_len l v, fun i hi => ?_⟩
  show (movL l v).getD i ⟨0, 0⟩ = _
  rw [movL_at l v i hi, addW_eq ((near_in hn i).up (by decide)) (iv.up (by decide))]
theorem mov_ok {l : List V2} {v : V2} (h : (movR l v).2 = 0) : RingOk l ∧ withinV v 4000 = true ∧ nearR (movL l v) = true ∧ (movR l v).1 = movL l v := by
  unfold movR at h ⊢
  by_cases h1 : validR l = false
  · rw [if_pos h1] at h; cases h
  rw [if_neg h1] at h ⊢
  by_cases h2 : withinV v 4000 = false
  · rw [if_pos h2] at h; cases h
  rw [if_neg h2] at h ⊢
  by_cases h3 : nearR (movL l v) = false
  · rw [if_pos h3] at h; cases h
  rw [if_neg h3]
  exact ⟨ring_ok.1 (by simpa using h1), by simpa using h2, by simpa using h3, rfl⟩
theorem mov_len (l : List V2) (v : V2) : (movR l v).1.length ≤ l.length := by
  unfold movR
  split
  · exact Nat.zero_le _
  split
  · exact Nat.zero_le _
  split
  · exact Nat.zero_le _
  · exact Nat.le_of_eq (movL_len l v)
def onK (l : List V2) (p : V2) (k : Nat) : Bool := !allB k fun i => !onB (edge l i) p
theorem onK_succ (l : List V2) (p : V2) (k : Nat) : onK l p (k + 1) = (onK l p k || onB (edge l k) p) := by
  unfold onK allB
  rw [List.range_succ, List.all_append]
  simp
theorem on_one {l : List V2} {p : V2} (hr : RingOk l) (hp : In 4000 p) : (onK l p l.length == decide (whereV l p = 1)) = true := by
  have e : onK l p l.length = onAny l (ptOf p) := by
    unfold onK onAny
    rw [allB_congr (fun i hi => by rw [onB_onP (edge_valid hr.near i) hp (near_in hr.near _) (near_in hr.near _)])]
  rw [e, whereV_eq hr, wherePl]
  cases onAny l (ptOf p) with
  | true => rfl
  | false =>
    cases parK l (ptOf p) l.length <;> rfl
theorem vecIn {v : DV} (h : TypD Try.prog 35 v) : ∃ p : V2, v = vD p ∧ R64 p.x ∧ R64 p.y := by
  obtain ⟨cs, rfl, k⟩ := TypD.agg (by kernel_rfl) h
  obtain ⟨a0, a1, rfl, h0, h1⟩ := typ35 k
  exact ⟨⟨a0, a1⟩, rfl, h0, h1⟩
theorem pointIn {v : DV} (h : TypD Try.prog 88 v) : ∃ p : P3, v = pD p ∧ R64 p.x ∧ R64 p.y ∧ R64 p.d := by
  obtain ⟨cs, rfl, k⟩ := TypD.agg (by kernel_rfl) h
  obtain ⟨a0, a1, a2, rfl, h0, h1, h2⟩ := typ88 k
  exact ⟨⟨a0, a1, a2⟩, rfl, h0, h1, h2⟩
theorem segIn {v : DV} (h : TypD Try.prog 79 v) : ∃ s : Seg, v = sD s ∧ R64 s.a.x ∧ R64 s.a.y ∧ R64 s.b.x ∧ R64 s.b.y := by
  obtain ⟨cs, rfl, k⟩ := TypD.agg (by kernel_rfl) h
  obtain ⟨a0, a1, a2, a3, rfl, h0, h1, h2, h3⟩ := typ79 k
  exact ⟨⟨⟨a0, a1⟩, ⟨a2, a3⟩⟩, rfl, h0, h1, h2, h3⟩
end Sg
end Go.Vm
