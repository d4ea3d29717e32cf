/-
  Layer 7: Meet, At and Share agree; the laws SegMeet and SegCross.
-/
import Derived.Test.YtgmlblmkcbcgaaaSegM
namespace Go.Vm
set_option maxRecDepth 20000
set_option linter.unusedVariables false
set_option linter.unusedSimpArgs false
namespace Sg
open Go Go.RowKit Go.Proofs

theorem less_max {e a b : V2} : lessB e (maxV a b) = false ↔ lessB e a = false ∧ lessB e b = false := by
  unfold maxV
  cases h : lessB a b with
  | true =>
    simp only [if_true]
    rw [less_iff] at h
    simp only [Bool.eq_false_iff, Ne, less_iff]
    omega
  | false =>
    simp only [Bool.false_eq_true, if_false]
    rw [Bool.eq_false_iff, Ne, less_iff] at h
    simp only [Bool.eq_false_iff, Ne, less_iff]
    omega
theorem less_min {e a b : V2} : lessB (minV a b) e = false ↔ lessB a e = false ∧ lessB b e = false := by
  unfold minV
  cases h : lessB b a with
  | true =>
    simp only [if_true]
    rw [less_iff] at h
    simp only [Bool.eq_false_iff, Ne, less_iff]
    omega
  | false =>
    simp only [Bool.false_eq_true, if_false]
    rw [Bool.eq_false_iff, Ne, less_iff] at h
    simp only [Bool.eq_false_iff, Ne, less_iff]
    omega
theorem max_or (a b : V2) : maxV a b = a ∨ maxV a b = b := by
  unfold maxV
  split
  · exact .inr rfl
  · exact .inl rfl
theorem min_or (a b : V2) : minV a b = a ∨ minV a b = b := by
  unfold minV
  split
  · exact .inr rfl
  · exact .inl rfl
theorem eq_of_less {a b : V2} (h : lessB a b = false) (k : lessB b a = false) : a = b := by
  rcases less_tri a b with l | l | l
  · rw [h] at l; cases l
  · exact l
  · rw [k] at l; cases l
section
variable {s t : Seg}
theorem over_agree (hs : validS s = true) (ht : validS t = true) (hd : dirC s t = 0) (ns : s.a ≠ s.b) (nt : t.a ≠ t.b) (hc : sideP s t.a = 0) :
    (overC s t).kind = rmeetI s t ∧ (overC s t).p = ratP s t ∧ (overC s t).s = rshareS s t := by
  have hc2 : sideP s t.b = 0 := by have := side_diff s t; omega
  have hvu : crossP (subP t.b t.a) (subP s.b s.a) = 0 := by
    have : crossP (subP t.b t.a) (subP s.b s.a) = -dirC s t := by simp only [dirC, crossP]; grind
    omega
  have k1 : sideP t s.a = 0 := by
    have := cross_par hvu (w := subP t.a s.a) hc (sub_ne ns)
    have e : sideP t s.a = -crossP (subP t.b t.a) (subP t.a s.a) := by simp only [sideP, crossP, subP]; grind
    omega
  have k2 : sideP t s.b = 0 := by
    have e : sideP t s.b = sideP t s.a + crossP (subP t.b t.a) (subP s.b s.a) := by simp only [sideP, crossP, subP]; grind
    omega
  have z1 : sideP s s.a = 0 := by simp only [sideP, crossP, subP]; grind
  have z2 : sideP s s.b = 0 := by simp only [sideP, crossP, subP]; grind
  have z3 : sideP t t.a = 0 := by simp only [sideP, crossP, subP]; grind
  have z4 : sideP t t.b = 0 := by simp only [sideP, crossP, subP]; grind
  have both : ∀ e, (e = s.a ∨ e = s.b ∨ e = t.a ∨ e = t.b) → (onB s e = true ∧ onB t e = true ↔ lessB e (maxV (loV s) (loV t)) = false ∧ lessB (minV (hiV s) (hiV t)) e = false) := fun e he => by
    have h1 : sideP s e = 0 := by rcases he with rfl | rfl | rfl | rfl <;> assumption
    have h2 : sideP t e = 0 := by rcases he with rfl | rfl | rfl | rfl <;> assumption
    rw [on_between hs ns h1, on_between ht nt h2, less_max, less_min]
    exact ⟨fun ⟨⟨a, b⟩, c, d⟩ => ⟨⟨a, c⟩, b, d⟩, fun ⟨⟨a, c⟩, b, d⟩ => ⟨⟨a, b⟩, c, d⟩⟩
  have mlo : maxV (loV s) (loV t) = s.a ∨ maxV (loV s) (loV t) = s.b ∨ maxV (loV s) (loV t) = t.a ∨ maxV (loV s) (loV t) = t.b := by
    rcases max_or (loV s) (loV t) with e | e <;> rw [e]
    · rcases lo_hi s with ⟨f, _⟩ | ⟨f, _⟩ <;> rw [f] <;> simp
    · rcases lo_hi t with ⟨f, _⟩ | ⟨f, _⟩ <;> rw [f] <;> simp
  have mhi : minV (hiV s) (hiV t) = s.a ∨ minV (hiV s) (hiV t) = s.b ∨ minV (hiV s) (hiV t) = t.a ∨ minV (hiV s) (hiV t) = t.b := by
    rcases min_or (hiV s) (hiV t) with e | e <;> rw [e]
    · rcases lo_hi s with ⟨_, f, _⟩ | ⟨_, f, _⟩ <;> rw [f] <;> simp
    · rcases lo_hi t with ⟨_, f, _⟩ | ⟨_, f, _⟩ <;> rw [f] <;> simp
  unfold overC
  generalize maxV (loV s) (loV t) = lo at *
  generalize minV (hiV s) (hiV t) = hi at *
  have mem : ∀ e, e ∈ (endsL s t).filter (bothB s t) ↔ (e = s.a ∨ e = s.b ∨ e = t.a ∨ e = t.b) ∧ lessB e lo = false ∧ lessB hi e = false := fun e => by
    rw [mem_common]
    exact ⟨fun h => ⟨h.1, (both e h.1).1 h.2⟩, fun h => ⟨h.1, (both e h.1).2 h.2⟩⟩
  rcases less_tri lo hi with k | k | k
  · have hcm : cmpV lo hi = -1 := by rw [cmpV, if_pos k]
    obtain ⟨l1, l2, l3⟩ := sort_two (l := (endsL s t).filter (bothB s t)) ((mem lo).2 ⟨mlo, less_irr _, less_asymm k⟩) ((mem hi).2 ⟨mhi, less_asymm k, less_irr _⟩) k (fun e he => ((mem e).1 he).2)
    obtain ⟨r1, r2, r3⟩ := agree_two hs ht l1 l2 l3
    rw [hcm, r1, r2, r3]
    exact ⟨rfl, rfl, rfl⟩
  · subst k
    have hcm : cmpV lo lo = 0 := by rw [cmpV, less_irr, if_neg (by decide), if_pos rfl]
    have l1 : commonL s t = [lo] := sort_one fun e => by
      rw [mem]
      exact ⟨fun h => eq_of_less h.2.1 h.2.2, fun h => by rw [h]; exact ⟨mlo, less_irr _, less_irr _⟩⟩
    obtain ⟨r1, r2, r3⟩ := agree_one hs ht l1
    rw [hcm, r1, r2, r3]
    exact ⟨rfl, rfl, rfl⟩
  · have hne : lo ≠ hi := fun e => by rw [e, less_irr] at k; cases k
    have hcm : cmpV lo hi = 1 := by rw [cmpV, less_asymm k, if_neg (by decide), if_neg hne]
    have l1 : commonL s t = [] := sort_none fun e he => by
      obtain ⟨_, h1, h2⟩ := (mem e).1 he
      rcases less_tri e lo with l | l | l
      · rw [h1] at l; cases l
      · rw [l, k] at h2; cases h2
      · rw [less_trans k l] at h2; cases h2
    obtain ⟨r1, r2, r3⟩ := agree_none hs ht hd l1
    rw [hcm, r1, r2, r3]
    exact ⟨rfl, rfl, rfl⟩
theorem flat_agree (hs : validS s = true) (ht : validS t = true) (hd : dirC s t = 0) : (flatC s t).kind = rmeetI s t ∧ (flatC s t).p = ratP s t ∧ (flatC s t).s = rshareS s t := by
  have oa := on_a hs
  have oc := on_a ht
  by_cases h1 : s.a = s.b ∧ onB t s.a = true
  · have hf : flatC s t = singleC s.a := by rw [flatC, if_pos h1]
    have l1 : commonL s t = [s.a] := sort_one fun e => by
      rw [mem_common, on_point hs h1.1]
      exact ⟨fun h => h.2.1, fun h => by rw [h]; exact ⟨.inl rfl, rfl, h1.2⟩⟩
    obtain ⟨r1, r2, r3⟩ := agree_one hs ht l1
    rw [hf, r1, r2, r3]
    exact ⟨rfl, rfl, rfl⟩
  by_cases h2 : t.a = t.b ∧ onB s t.a = true
  · have hf : flatC s t = singleC t.a := by rw [flatC, if_neg h1, if_pos h2]
    have l1 : commonL s t = [t.a] := sort_one fun e => by
      rw [mem_common, on_point ht h2.1]
      exact ⟨fun h => h.2.2, fun h => by rw [h]; exact ⟨.inr (.inr (.inl rfl)), h2.2, rfl⟩⟩
    obtain ⟨r1, r2, r3⟩ := agree_one hs ht l1
    rw [hf, r1, r2, r3]
    exact ⟨rfl, rfl, rfl⟩
  by_cases h3 : s.a = s.b ∨ t.a = t.b ∨ turnW s.a s.b t.a ≠ 0
  · have hf : flatC s t = noneC := by rw [flatC, if_neg h1, if_neg h2, if_pos h3]
    have l1 : commonL s t = [] := sort_none fun e he => by
      obtain ⟨he, k1, k2⟩ := mem_common.1 he
      by_cases hsd : s.a = s.b
      · rw [on_point hs hsd] at k1
        subst k1
        exact h1 ⟨hsd, k2⟩
      · by_cases htd : t.a = t.b
        · rw [on_point ht htd] at k2
          subst k2
          exact h2 ⟨htd, k1⟩
        · have h4 : turnW s.a s.b t.a ≠ 0 := by
            rcases h3 with h | h | h
            · exact absurd h hsd
            · exact absurd h htd
            · exact h
          rw [turn_side hs (valid_in ht).1, Ne, sgn_zero] at h4
          have m1 := (on_iff hs).1 k1
          have m2 := (on_iff ht).1 k2
          have := cross_par (u := subP s.b s.a) (v := subP t.b t.a) (w := subP e t.a) hd m2.2 (sub_ne htd)
          have e1 : sideP s t.a = sideP s e - crossP (subP s.b s.a) (subP e t.a) := by simp only [sideP, crossP, subP]; grind
          omega
    obtain ⟨r1, r2, r3⟩ := agree_none hs ht hd l1
    rw [hf, r1, r2, r3]
    exact ⟨rfl, rfl, rfl⟩
  · have hf : flatC s t = overC s t := by rw [flatC, if_neg h1, if_neg h2, if_neg h3]
    have n1 : s.a ≠ s.b := fun h => h3 (.inl h)
    have n2 : t.a ≠ t.b := fun h => h3 (.inr (.inl h))
    have n3 : sideP s t.a = 0 := by
      refine Classical.byContradiction fun h => h3 (.inr (.inr ?_))
      rw [turn_side hs (valid_in ht).1, Ne, sgn_zero]
      exact h
    rw [hf]
    exact over_agree hs ht hd n1 n2 n3
end
/-- THE PROGRAM's AND THE REFERENCE's ANSWERS AGREE. -/
theorem meet_agree (s t : Seg) : (meetC s t).kind = rmeetI s t ∧ (meetC s t).p = ratP s t ∧ (meetC s t).s = rshareS s t := by
  by_cases hv : validS s = false ∨ validS t = false
  · have hm : meetC s t = noneC := by rw [meetC, if_pos hv]
    have h0 : rmeetI s t = 0 := by rw [rmeetI, if_pos hv]
    rw [hm]
    exact ⟨h0.symm, by rw [ratP, h0]; rfl, by rw [rshareS, h0]; rfl⟩
  have hs : validS s = true := by
    cases h : validS s with
    | true => rfl
    | false => exact absurd (.inl h) hv
  have ht : validS t = true := by
    cases h : validS t with
    | true => rfl
    | false => exact absurd (.inr h) hv
  by_cases hd : dirC s t = 0
  · have hm : meetC s t = flatC s t := by rw [meetC, if_neg hv, if_neg (by simpa using hd)]
    rw [hm]
    exact flat_agree hs ht hd
  · have hm : meetC s t = linesC s t := by rw [meetC, if_neg hv, if_pos hd]
    rw [hm]
    have sZ : ∀ A B D, (lineC s (subP s.b s.a) A B D).s = s0 := fun A B D => by unfold lineC; split <;> rfl
    rcases Int.lt_or_gt_of_ne hd with hn | hp
    · have hl : linesC s t = lineC s (subP s.b s.a) (-crossP (subP t.a s.a) (subP t.b t.a)) (-crossP (subP t.a s.a) (subP s.b s.a)) (-dirC s t) := by rw [linesC, if_pos hn]
      obtain ⟨g1, g2, g3, g4, g5⟩ := lines_agree (lines_neg hn) hs ht
      rw [hl]
      refine ⟨g1, ?_, by rw [sZ, rshareS, if_neg g5]⟩
      unfold ratP
      by_cases k1 : rmeetI s t = 1
      · rw [if_pos k1]; exact g2 k1
      · rw [if_neg k1]
        by_cases k2 : rmeetI s t = 2
        · rw [if_pos k2, g3 k2, lowP, if_pos hn]
          congr 1 <;> grind
        · rw [if_neg k2]
          refine g4 ?_
          unfold rmeetI at k1 k2 g5 ⊢
          split
          · rfl
          · rename_i hh
            rw [if_neg hh] at k1 k2 g5
            split
            · rename_i h3; rw [if_pos h3] at g5; exact absurd rfl g5
            · rename_i h3
              rw [if_neg h3] at k1 k2
              split
              · rename_i h4; rw [if_pos h4] at k1; exact absurd rfl k1
              · rename_i h4
                rw [if_neg h4] at k2
                split
                · rename_i h5; rw [if_pos h5] at k2; exact absurd rfl k2
                · rfl
    · have hl : linesC s t = lineC s (subP s.b s.a) (crossP (subP t.a s.a) (subP t.b t.a)) (crossP (subP t.a s.a) (subP s.b s.a)) (dirC s t) := by rw [linesC, if_neg (by simp only [dirC] at hp; omega)]
      obtain ⟨g1, g2, g3, g4, g5⟩ := lines_agree (lines_pos hp) hs ht
      rw [hl]
      refine ⟨g1, ?_, by rw [sZ, rshareS, if_neg g5]⟩
      unfold ratP
      by_cases k1 : rmeetI s t = 1
      · rw [if_pos k1]; exact g2 k1
      · rw [if_neg k1]
        by_cases k2 : rmeetI s t = 2
        · rw [if_pos k2, g3 k2, lowP, if_neg (by omega)]
          congr 1 <;> grind
        · rw [if_neg k2]
          refine g4 ?_
          unfold rmeetI at k1 k2 g5 ⊢
          split
          · rfl
          · rename_i hh
            rw [if_neg hh] at k1 k2 g5
            split
            · rename_i h3; rw [if_pos h3] at g5; exact absurd rfl g5
            · rename_i h3
              rw [if_neg h3] at k1 k2
              split
              · rename_i h4; rw [if_pos h4] at k1; exact absurd rfl k1
              · rename_i h4
                rw [if_neg h4] at k2
                split
                · rename_i h5; rw [if_pos h5] at k2; exact absurd rfl k2
                · rfl

end Sg
end Go.Vm
