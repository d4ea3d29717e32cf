/-
  Layer 7: contracts of the program's meet, Meet, At and Share.
-/
import Derived.Test.YtgmlblmkcbcgaaaSegG
namespace Go.Vm
set_option maxRecDepth 20000
set_option linter.unusedVariables false
set_option linter.unusedSimpArgs false
namespace Sg
open Go Go.RowKit Go.Proofs

def loV (s : Seg) : V2 := if lessB s.b s.a = true then s.b else s.a
def hiV (s : Seg) : V2 := if lessB s.b s.a = true then s.a else s.b
def maxV (a b : V2) : V2 := if lessB a b = true then b else a
def minV (a b : V2) : V2 := if lessB b a = true then b else a
def overC (s t : Seg) : Com :=
  if cmpV (maxV (loV s) (loV t)) (minV (hiV s) (hiV t)) = 0 then singleC (maxV (loV s) (loV t))
  else if cmpV (maxV (loV s) (loV t)) (minV (hiV s) (hiV t)) = -1 then ⟨3, p0, ⟨maxV (loV s) (loV t), minV (hiV s) (hiV t)⟩⟩ else noneC
def flatC (s t : Seg) : Com :=
  if s.a = s.b ∧ onB t s.a = true then singleC s.a
  else if t.a = t.b ∧ onB s t.a = true then singleC t.a
  else if s.a = s.b ∨ t.a = t.b ∨ turnW s.a s.b t.a ≠ 0 then noneC
  else overC s t
def meetC (s t : Seg) : Com :=
  if validS s = false ∨ validS t = false then noneC
  else if crossP (subP s.b s.a) (subP t.b t.a) ≠ 0 then linesC s t
  else flatC s t

theorem meet_det (s t : Seg) : Det Try.prog 100 [sD s, sD t] (.d (comD (meetC s t))) := by
  refine det_of_awp TTok mixed Try.func100 rfl rfl [] (Nat.le_of_ble_eq_true rfl) ?_
  refine CallW.bool (valid_det s) (fun va hva => ?_)
  refine Split.mk (fun h => ?_) (fun h => ?_)
  · rw [show meetC s t = noneC by rw [meetC, if_pos (.inl (by rw [← hva]; simpa using h))]]
    repeat' first | refine Split.t ?_ | refine Need.mk (by kernel_rfl) ?_ | fail
    exact Fin.rfl'
  repeat' first | refine Split.f ?_ | fail
  refine CallW.bool (valid_det t) (fun vb hvb => ?_)
  repeat' first | refine Split.f ?_ | fail
  refine Split.mk (fun h2 => ?_) (fun h2 => ?_)
  · rw [show meetC s t = noneC by rw [meetC, if_pos (.inr (by rw [← hvb]; simpa using h2))]]
    exact Fin.rfl'
  have hs : validS s = true := by rw [← hva]; simpa using h
  have ht : validS t = true := by rw [← hvb]; simpa using h2
  have hv : ¬ (validS s = false ∨ validS t = false) := by simp [hs, ht]
  obtain ⟨sa, sb⟩ := valid_in hs
  obtain ⟨ta, tb⟩ := valid_in ht
  obtain ⟨eu, iu⟩ := subW_eq (by decide) sb sa
  obtain ⟨ev, iv⟩ := subW_eq (by decide) tb ta
  obtain ⟨ed, _⟩ := crossW_eq (by decide) (by decide) iu iv
  refine CallW.mk' (eu ▸ vsub_det s.b s.a) ?_
  refine CallW.mk' (ev ▸ vsub_det t.b t.a) ?_
  refine CallW.int (ed ▸ vcross_det (subP s.b s.a) (subP t.b t.a)) (fun d hd => ?_)
  refine Need.mk (by kernel_rfl) ?_
  refine Split.mk (fun h3 => ?_) (fun h3 => ?_)
  · have h3' : d ≠ 0 := by simpa using h3
    subst hd
    rw [show meetC s t = linesC s t by rw [meetC, if_neg hv, if_pos h3']]
    refine CallW.mk' (lines_det s t hs ht h3') ?_
    exact Fin.rfl'
  have h3' : d = 0 := by simpa using h3
  rw [show meetC s t = flatC s t by rw [meetC, if_neg hv, if_neg (by rw [← hd, h3']; simp)]]
  refine EqW.v s.a s.b (fun e1 he1 => ?_)
  -- behind the two single points
  have ten : (¬ (s.a = s.b ∧ onB t s.a = true)) → (¬ (t.a = t.b ∧ onB s t.a = true)) → flatC s t = if s.a = s.b ∨ t.a = t.b ∨ turnW s.a s.b t.a ≠ 0 then noneC else overC s t := fun h k => by rw [flatC, if_neg h, if_neg k]
  refine Split.mk (fun k1 => ?_) (fun k1 => ?_)
  · have j1 : s.a = s.b := he1.1 k1
    subst k1
    repeat' first | refine Split.t ?_ | fail
    refine CallW.bool (on_det t s.a) (fun q1 hq1 => ?_)
    repeat' first | refine Split.t ?_ | fail
    refine Split.mk (fun k2 => ?_) (fun k2 => ?_)
    · rw [show flatC s t = singleC s.a by rw [flatC, if_pos ⟨j1, by rw [← hq1, k2]⟩]]
      refine CallW.mk' (single_det s.a) ?_
      exact Fin.rfl'
    have n1 : ¬ (s.a = s.b ∧ onB t s.a = true) := fun h => by rw [← hq1, k2] at h; exact absurd h.2 (by decide)
    refine EqW.v t.a t.b (fun e2 he2 => ?_)
    refine Split.mk (fun k3 => ?_) (fun k3 => ?_)
    · have j2 : t.a = t.b := he2.1 k3
      subst k3
      repeat' first | refine Split.t ?_ | fail
      refine CallW.bool (on_det s t.a) (fun q2 hq2 => ?_)
      repeat' first | refine Split.t ?_ | fail
      refine Split.mk (fun k4 => ?_) (fun k4 => ?_)
      · rw [show flatC s t = singleC t.a by rw [flatC, if_neg n1, if_pos ⟨j2, by rw [← hq2, k4]⟩]]
        refine CallW.mk' (single_det t.a) ?_
        exact Fin.rfl'
      have n2 : ¬ (t.a = t.b ∧ onB s t.a = true) := fun h => by rw [← hq2, k4] at h; exact absurd h.2 (by decide)
      rw [show flatC s t = noneC by rw [ten n1 n2, if_pos (.inl j1)]]
      refine EqW.v s.a s.b (fun e3 he3 => ?_)
      obtain rfl : e3 = true := he3.2 j1
      repeat' first | refine Split.t ?_ | fail
      exact Fin.rfl'
    · have j2 : ¬ t.a = t.b := fun h => by rw [he2.2 h] at k3; cases k3
      subst k3
      have n2 : ¬ (t.a = t.b ∧ onB s t.a = true) := fun h => j2 h.1
      rw [show flatC s t = noneC by rw [ten n1 n2, if_pos (.inl j1)]]
      repeat' first | refine Split.f ?_ | fail
      refine EqW.v s.a s.b (fun e3 he3 => ?_)
      obtain rfl : e3 = true := he3.2 j1
      repeat' first | refine Split.t ?_ | fail
      exact Fin.rfl'
  have j1 : ¬ s.a = s.b := fun h => by rw [he1.2 h] at k1; cases k1
  subst k1
  have n1 : ¬ (s.a = s.b ∧ onB t s.a = true) := fun h => j1 h.1
  repeat' first | refine Split.f ?_ | fail
  refine EqW.v t.a t.b (fun e2 he2 => ?_)
  refine Split.mk (fun k3 => ?_) (fun k3 => ?_)
  · have j2 : t.a = t.b := he2.1 k3
    subst k3
    repeat' first | refine Split.t ?_ | fail
    refine CallW.bool (on_det s t.a) (fun q2 hq2 => ?_)
    repeat' first | refine Split.t ?_ | fail
    refine Split.mk (fun k4 => ?_) (fun k4 => ?_)
    · rw [show flatC s t = singleC t.a by rw [flatC, if_neg n1, if_pos ⟨j2, by rw [← hq2, k4]⟩]]
      refine CallW.mk' (single_det t.a) ?_
      exact Fin.rfl'
    have n2 : ¬ (t.a = t.b ∧ onB s t.a = true) := fun h => by rw [← hq2, k4] at h; exact absurd h.2 (by decide)
    rw [show flatC s t = noneC by rw [ten n1 n2, if_pos (.inr (.inl j2))]]
    refine EqW.v s.a s.b (fun e3 he3 => ?_)
    obtain rfl : e3 = false := by rw [Bool.eq_false_iff]; exact fun h => j1 (he3.1 h)
    repeat' first | refine Split.f ?_ | fail
    refine EqW.v t.a t.b (fun e4 he4 => ?_)
    obtain rfl : e4 = true := he4.2 j2
    repeat' first | refine Split.t ?_ | refine Split.f ?_ | fail
    exact Fin.rfl'
  have j2 : ¬ t.a = t.b := fun h => by rw [he2.2 h] at k3; cases k3
  subst k3
  have n2 : ¬ (t.a = t.b ∧ onB s t.a = true) := fun h => j2 h.1
  repeat' first | refine Split.f ?_ | fail
  refine EqW.v s.a s.b (fun e3 he3 => ?_)
  obtain rfl : e3 = false := by rw [Bool.eq_false_iff]; exact fun h => j1 (he3.1 h)
  repeat' first | refine Split.f ?_ | fail
  refine EqW.v t.a t.b (fun e4 he4 => ?_)
  obtain rfl : e4 = false := by rw [Bool.eq_false_iff]; exact fun h => j2 (he4.1 h)
  repeat' first | refine Split.f ?_ | fail
  refine CallW.int (vturn_det s.a s.b t.a) (fun w hw => ?_)
  repeat' first | refine Split.f ?_ | fail
  refine Split.mk (fun k5 => ?_) (fun k5 => ?_)
  · have k5' : w ≠ 0 := by simpa using k5
    rw [show flatC s t = noneC by rw [ten n1 n2, if_pos (.inr (.inr (by rw [← hw]; exact k5')))]]
    exact Fin.rfl'
  have k5' : w = 0 := by simpa using k5
  rw [show flatC s t = overC s t by rw [ten n1 n2, if_neg (by rw [← hw]; simp [j1, j2, k5'])]]
  -- the ends in order
  refine Loop.by (α := Nat) (fun k => [(2, .ptr 2 0), (3, .ptr 3 0), (4, .ptr 4 0), (6, .ptr 6 0), (7, tint (2 * k : Nat))])
    (fun k => [(2, .box (sL s)), (3, .box (sL t)), (4, .box (comL noneC)), (6, .box (match k with
      | 0 => vL s.a ++ vL s.b ++ vL t.a ++ vL t.b
      | 1 => vL (loV s) ++ vL (hiV s) ++ vL t.a ++ vL t.b
      | _ => vL (loV s) ++ vL (hiV s) ++ vL (loV t) ++ vL (hiV t)))]) (fun k => k ≤ 2) (fun k => 2 - k)
    (Adj.at 0 (Nat.zero_le _) (.cons (.box (LLe.refl _)) (.cons (.box (LLe.refl _)) (.cons (.box (LLe.of_eq rfl)) (.cons (.box (LLe.of_eq rfl)) .nil)))) (.cons (.box rfl rfl) (.cons (.box rfl rfl) (.cons (.box rfl rfl) (.cons (.box rfl rfl) (.cons .same .nil)))))) (fun k hk => ?_)
  rcases k with _ | _ | k
  · refine Split.t ?_
    repeat' first | refine Need.mk (by decide) ?_ | fail
    refine CallW.bool (vless_det s.b s.a) (fun q hq => ?_)
    refine Need.mk (by kernel_rfl) ?_
    refine Split.mk (fun m1 => ?_) (fun m1 => ?_)
    · repeat' first | refine Need.mk (by decide) ?_ | refine Need.mk (by kernel_rfl) ?_ | fail
      have e1 : loV s = s.b := by rw [loV, if_pos (by rw [← hq, m1])]
      have e2 : hiV s = s.a := by rw [hiV, if_pos (by rw [← hq, m1])]
      refine Adj.back (x := 0) 1 (by decide) (by decide) (.cons (.box (LLe.refl _)) (.cons (.box (LLe.refl _)) (.cons (.box (LLe.of_eq rfl)) (.cons (.box (LLe.of_eq ?_)) .nil)))) (.cons (.box rfl rfl) (.cons (.box rfl rfl) (.cons (.box rfl rfl) (.cons (.box rfl rfl) (.cons (SlotLe.int (by decide)) .nil)))))
      rw [e1, e2]
      rfl
    · have e1 : loV s = s.a := by rw [loV, if_neg (by rw [← hq, m1]; decide)]
      have e2 : hiV s = s.b := by rw [hiV, if_neg (by rw [← hq, m1]; decide)]
      refine Adj.back (x := 0) 1 (by decide) (by decide) (.cons (.box (LLe.refl _)) (.cons (.box (LLe.refl _)) (.cons (.box (LLe.of_eq rfl)) (.cons (.box (LLe.of_eq ?_)) .nil)))) (.cons (.box rfl rfl) (.cons (.box rfl rfl) (.cons (.box rfl rfl) (.cons (.box rfl rfl) (.cons (SlotLe.int (by decide)) .nil)))))
      rw [e1, e2]
      rfl
  · refine Split.t ?_
    repeat' first | refine Need.mk (by decide) ?_ | fail
    refine CallW.bool (vless_det t.b t.a) (fun q hq => ?_)
    refine Need.mk (by kernel_rfl) ?_
    refine Split.mk (fun m1 => ?_) (fun m1 => ?_)
    · repeat' first | refine Need.mk (by decide) ?_ | refine Need.mk (by kernel_rfl) ?_ | fail
      have e1 : loV t = t.b := by rw [loV, if_pos (by rw [← hq, m1])]
      have e2 : hiV t = t.a := by rw [hiV, if_pos (by rw [← hq, m1])]
      refine Adj.back (x := 1) 2 (by decide) (by decide) (.cons (.box (LLe.refl _)) (.cons (.box (LLe.refl _)) (.cons (.box (LLe.of_eq rfl)) (.cons (.box (LLe.of_eq ?_)) .nil)))) (.cons (.box rfl rfl) (.cons (.box rfl rfl) (.cons (.box rfl rfl) (.cons (.box rfl rfl) (.cons (SlotLe.int (by decide)) .nil)))))
      show _ = vL (loV s) ++ vL (hiV s) ++ vL (loV t) ++ vL (hiV t)
      rw [e1, e2]
      rfl
    · have e1 : loV t = t.a := by rw [loV, if_neg (by rw [← hq, m1]; decide)]
      have e2 : hiV t = t.b := by rw [hiV, if_neg (by rw [← hq, m1]; decide)]
      refine Adj.back (x := 1) 2 (by decide) (by decide) (.cons (.box (LLe.refl _)) (.cons (.box (LLe.refl _)) (.cons (.box (LLe.of_eq rfl)) (.cons (.box (LLe.of_eq ?_)) .nil)))) (.cons (.box rfl rfl) (.cons (.box rfl rfl) (.cons (.box rfl rfl) (.cons (.box rfl rfl) (.cons (SlotLe.int (by decide)) .nil)))))
      show _ = vL (loV s) ++ vL (hiV s) ++ vL (loV t) ++ vL (hiV t)
      rw [e1, e2]
      rfl
  · obtain rfl : k = 0 := by omega
    refine Split.isF (by decide) ?_
    repeat' first | refine Need.mk (by decide) ?_ | refine Need.mk (by kernel_rfl) ?_ | fail
    have last : ∀ lo hi : V2, lo = maxV (loV s) (loV t) → hi = minV (hiV s) (hiV t) → overC s t = if cmpV lo hi = 0 then singleC lo else if cmpV lo hi = -1 then ⟨3, p0, ⟨lo, hi⟩⟩ else noneC := fun lo hi h k => by subst h k; rfl
    refine CallW.bool (vless_det (loV s) (loV t)) (fun q1 hq1 => ?_)
    refine Split.mk (fun y1 => ?_) (fun y1 => ?_)
    · have e1 : loV t = maxV (loV s) (loV t) := by rw [maxV, if_pos (by rw [← hq1, y1])]
      repeat' first | refine Need.mk (by decide) ?_ | refine Need.mk (by kernel_rfl) ?_ | fail
      refine CallW.bool (vless_det (hiV t) (hiV s)) (fun q2 hq2 => ?_)
      refine Split.mk (fun y2 => ?_) (fun y2 => ?_)
      · have e2 : hiV t = minV (hiV s) (hiV t) := by rw [minV, if_pos (by rw [← hq2, y2])]
        repeat' first | refine Need.mk (by decide) ?_ | refine Need.mk (by kernel_rfl) ?_ | fail
        refine CallW.int (vcmp_det (loV t) (hiV t)) (fun c hc => ?_)
        have hl := last (loV t) (hiV t) e1 e2
        rw [← hc] at hl
        rw [hl]
        refine Split.mk (fun x1 => ?_) (fun x1 => ?_)
        · have x1' : c = 0 := by simpa using x1
          rw [if_pos x1']
          refine CallW.mk' (single_det (loV t)) ?_
          exact Fin.rfl'
        have x1' : c ≠ 0 := by simpa using x1
        rw [if_neg x1']
        refine Split.mk (fun x2 => ?_) (fun x2 => ?_)
        · have x2' : c = -1 := by simpa using x2
          rw [if_pos x2']
          repeat' first | refine Need.mk (by kernel_rfl) ?_ | fail
          exact Fin.rfl'
        have x2' : c ≠ -1 := by simpa using x2
        rw [if_neg x2']
        repeat' first | refine Need.mk (by kernel_rfl) ?_ | fail
        exact Fin.rfl'
      · have e2 : hiV s = minV (hiV s) (hiV t) := by rw [minV, if_neg (by rw [← hq2, y2]; decide)]
        repeat' first | refine Need.mk (by decide) ?_ | refine Need.mk (by kernel_rfl) ?_ | fail
        refine CallW.int (vcmp_det (loV t) (hiV s)) (fun c hc => ?_)
        have hl := last (loV t) (hiV s) e1 e2
        rw [← hc] at hl
        rw [hl]
        refine Split.mk (fun x1 => ?_) (fun x1 => ?_)
        · have x1' : c = 0 := by simpa using x1
          rw [if_pos x1']
          refine CallW.mk' (single_det (loV t)) ?_
          exact Fin.rfl'
        have x1' : c ≠ 0 := by simpa using x1
        rw [if_neg x1']
        refine Split.mk (fun x2 => ?_) (fun x2 => ?_)
        · have x2' : c = -1 := by simpa using x2
          rw [if_pos x2']
          repeat' first | refine Need.mk (by kernel_rfl) ?_ | fail
          exact Fin.rfl'
        have x2' : c ≠ -1 := by simpa using x2
        rw [if_neg x2']
        repeat' first | refine Need.mk (by kernel_rfl) ?_ | fail
        exact Fin.rfl'
    · have e1 : loV s = maxV (loV s) (loV t) := by rw [maxV, if_neg (by rw [← hq1, y1]; decide)]
      repeat' first | refine Need.mk (by decide) ?_ | refine Need.mk (by kernel_rfl) ?_ | fail
      refine CallW.bool (vless_det (hiV t) (hiV s)) (fun q2 hq2 => ?_)
      refine Split.mk (fun y2 => ?_) (fun y2 => ?_)
      · have e2 : hiV t = minV (hiV s) (hiV t) := by rw [minV, if_pos (by rw [← hq2, y2])]
        repeat' first | refine Need.mk (by decide) ?_ | refine Need.mk (by kernel_rfl) ?_ | fail
        refine CallW.int (vcmp_det (loV s) (hiV t)) (fun c hc => ?_)
        have hl := last (loV s) (hiV t) e1 e2
        rw [← hc] at hl
        rw [hl]
        refine Split.mk (fun x1 => ?_) (fun x1 => ?_)
        · have x1' : c = 0 := by simpa using x1
          rw [if_pos x1']
          refine CallW.mk' (single_det (loV s)) ?_
          exact Fin.rfl'
        have x1' : c ≠ 0 := by simpa using x1
        rw [if_neg x1']
        refine Split.mk (fun x2 => ?_) (fun x2 => ?_)
        · have x2' : c = -1 := by simpa using x2
          rw [if_pos x2']
          repeat' first | refine Need.mk (by kernel_rfl) ?_ | fail
          exact Fin.rfl'
        have x2' : c ≠ -1 := by simpa using x2
        rw [if_neg x2']
        repeat' first | refine Need.mk (by kernel_rfl) ?_ | fail
        exact Fin.rfl'
      · have e2 : hiV s = minV (hiV s) (hiV t) := by rw [minV, if_neg (by rw [← hq2, y2]; decide)]
        repeat' first | refine Need.mk (by decide) ?_ | refine Need.mk (by kernel_rfl) ?_ | fail
        refine CallW.int (vcmp_det (loV s) (hiV s)) (fun c hc => ?_)
        have hl := last (loV s) (hiV s) e1 e2
        rw [← hc] at hl
        rw [hl]
        refine Split.mk (fun x1 => ?_) (fun x1 => ?_)
        · have x1' : c = 0 := by simpa using x1
          rw [if_pos x1']
          refine CallW.mk' (single_det (loV s)) ?_
          exact Fin.rfl'
        have x1' : c ≠ 0 := by simpa using x1
        rw [if_neg x1']
        refine Split.mk (fun x2 => ?_) (fun x2 => ?_)
        · have x2' : c = -1 := by simpa using x2
          rw [if_pos x2']
          repeat' first | refine Need.mk (by kernel_rfl) ?_ | fail
          exact Fin.rfl'
        have x2' : c ≠ -1 := by simpa using x2
        rw [if_neg x2']
        repeat' first | refine Need.mk (by kernel_rfl) ?_ | fail
        exact Fin.rfl'

theorem vmeet_det (s t : Seg) : Det Try.prog 75 [sD s, sD t] (tint (meetC s t).kind) := by
  refine det_of_awp TTok mixed Try.func75 rfl rfl [] (Nat.le_of_ble_eq_true rfl) ?_
  refine CallW.mk' (meet_det s t) ?_
  repeat' first | refine Need.mk (by kernel_rfl) ?_ | fail
  exact Fin.rfl'
abbrev ptOk (p : P3) (b : Bool) : TV := .tup [pD p, .one (.v (.bool b))]
abbrev segOk (s : Seg) (b : Bool) : TV := .tup [sD s, .one (.v (.bool b))]
def atB (c : Com) : Bool := decide (c.kind = 1) || decide (c.kind = 2)
theorem CallW.com {P : Program} {f : FuncId} {args : List DV} {K : TV → Prop} {e : Com} (h : Det P f args (.d (comD e))) (kk : ∀ c, c = e → K (.d (comD c))) : CallW P f args K := ⟨_, h, kk e rfl⟩
end Sg
end Go.Vm
