/-
  Layer 7: the points that lie on both of two parallel segments, and the law SegCommon.
-/
import Derived.Test.YtbhjhbmdgdnbeaaSegR
namespace Go.Vm
namespace Sg
open Go Go.RowKit Go.Proofs

/-- What is said of the answer: a valid point, or a segment on both; the integer points on both are just those of the answer. -/
structure Spec (s t : Seg) (c : Com) : Prop where
  val : atB c = true → validP c.p = true
  seg : c.kind = 3 → (onB s c.s.a = true ∧ onB s c.s.b = true) ∧ (onB t c.s.a = true ∧ onB t c.s.b = true) ∧ lessB c.s.a c.s.b = true
  pts : ∀ p, onB s p = true ∧ onB t p = true ↔ (atB c = true ∧ c.p = ptOf p) ∨ (c.kind = 3 ∧ onB c.s p = true)
theorem ptOf_inj {p q : V2} : ptOf p = ptOf q ↔ p = q := by
  constructor
  · intro h
    simp only [ptOf, P3.mk.injEq] at h
    exact V2.ext h.1 h.2.1
  · intro h; rw [h]
section
variable {s t : Seg}
theorem spec_single {q : V2} (hq : In 4000 q) (h : ∀ p, onB s p = true ∧ onB t p = true ↔ p = q) : Spec s t (singleC q) := by
  refine ⟨fun _ => ptOf_valid hq, fun h => absurd (show (1 : Int) = 3 from h) (by decide), fun p => ?_⟩
  rw [h p]
  constructor
  · rintro rfl; exact .inl ⟨rfl, rfl⟩
  · rintro (⟨_, h⟩ | ⟨h, _⟩)
    · exact (ptOf_inj.1 h).symm
    · exact absurd (show (1 : Int) = 3 from h) (by decide)
theorem spec_none (h : ∀ p, ¬ (onB s p = true ∧ onB t p = true)) : Spec s t noneC := by
  refine ⟨fun h => absurd h (by decide), fun h => absurd h (by decide), fun p => ?_⟩
  constructor
  · exact fun k => absurd k (h p)
  · rintro (⟨h, _⟩ | ⟨h, _⟩)
    · exact absurd h (by decide)
    · exact absurd h (by decide)
theorem over_spec (hs : validS s = true) (ht : validS t = true) (hd : dirC s t = 0) (ns : s.a ≠ s.b) (nt : t.a ≠ t.b) (hc : sideP s t.a = 0) : Spec s t (overC s t) := by
  obtain ⟨sa, sb⟩ := valid_in hs
  obtain ⟨ta, tb⟩ := valid_in ht
  have hvu : crossP (subP t.b t.a) (subP s.b s.a) = 0 := by
    have : crossP (subP t.b t.a) (subP s.b s.a) = -dirC s t := by simp only [dirC, crossP]; grind
    omega
  -- on the one line: on the other
  have line : ∀ p, sideP s p = 0 → sideP t p = 0 := fun p hp => by
    have e0 : crossP (subP s.b s.a) (subP p t.a) = 0 := by
      have : crossP (subP s.b s.a) (subP p t.a) = sideP s p - sideP s t.a := by simp only [sideP, crossP, subP]; grind
      omega
    exact cross_par hvu e0 (sub_ne ns)
  have both : ∀ p, onB s p = true ∧ onB t p = true ↔ sideP s p = 0 ∧ lessB p (maxV (loV s) (loV t)) = false ∧ lessB (minV (hiV s) (hiV t)) p = false := fun p => by
    constructor
    · rintro ⟨h1, h2⟩
      have z1 := ((on_iff hs).1 h1).2
      have z2 := line p z1
      have b1 := (on_between hs ns z1).1 h1
      have b2 := (on_between ht nt z2).1 h2
      exact ⟨z1, less_max.2 ⟨b1.1, b2.1⟩, less_min.2 ⟨b1.2, b2.2⟩⟩
    · rintro ⟨z1, h1, h2⟩
      have z2 := line p z1
      have k1 := less_max.1 h1
      have k2 := less_min.1 h2
      exact ⟨(on_between hs ns z1).2 ⟨k1.1, k2.1⟩, (on_between ht nt z2).2 ⟨k1.2, k2.2⟩⟩
  have z1 : sideP s s.a = 0 := by simp only [sideP, crossP, subP]; grind
  have z2 : sideP s s.b = 0 := by simp only [sideP, crossP, subP]; grind
  have z3 : sideP s t.b = 0 := by have := side_diff s t; omega
  have los : (loV s = s.a ∨ loV s = s.b) ∧ (hiV s = s.a ∨ hiV s = s.b) := by rcases lo_hi s with ⟨e1, e2, _⟩ | ⟨e1, e2, _⟩ <;> simp [e1, e2]
  have lot : (loV t = t.a ∨ loV t = t.b) ∧ (hiV t = t.a ∨ hiV t = t.b) := by rcases lo_hi t with ⟨e1, e2, _⟩ | ⟨e1, e2, _⟩ <;> simp [e1, e2]
  have plo : sideP s (maxV (loV s) (loV t)) = 0 ∧ In 4000 (maxV (loV s) (loV t)) := by
    rcases max_or (loV s) (loV t) with e | e <;> rw [e]
    · rcases los.1 with f | f <;> rw [f] <;> exact ⟨by assumption, by assumption⟩
    · rcases lot.1 with f | f <;> rw [f] <;> exact ⟨by assumption, by assumption⟩
  have phi : sideP s (minV (hiV s) (hiV t)) = 0 ∧ In 4000 (minV (hiV s) (hiV t)) := by
    rcases min_or (hiV s) (hiV t) with e | e <;> rw [e]
    · rcases los.2 with f | f <;> rw [f] <;> exact ⟨by assumption, by assumption⟩
    · rcases lot.2 with f | f <;> rw [f] <;> exact ⟨by assumption, by assumption⟩
  unfold overC
  generalize maxV (loV s) (loV t) = lo at *
  generalize minV (hiV s) (hiV t) = hi at *
  rcases less_tri lo hi with k | k | k
  · have hcm : cmpV lo hi = -1 := by rw [cmpV, if_pos k]
    rw [hcm, if_neg (by decide), if_pos rfl]
    have hne : lo ≠ hi := fun e => by rw [e, less_irr] at k; cases k
    have hvl : validS ⟨lo, hi⟩ = true := in_valid plo.2 phi.2
    have elo : loV ⟨lo, hi⟩ = lo := by rw [loV, if_neg (by show ¬ lessB hi lo = true; rw [less_asymm k]; decide)]
    have ehi : hiV ⟨lo, hi⟩ = hi := by rw [hiV, if_neg (by show ¬ lessB hi lo = true; rw [less_asymm k]; decide)]
    have on1 := (both lo).2 ⟨plo.1, less_irr _, less_asymm k⟩
    have on2 := (both hi).2 ⟨phi.1, less_asymm k, less_irr _⟩
    have uw : crossP (subP s.b s.a) (subP hi lo) = 0 := by
      have : crossP (subP s.b s.a) (subP hi lo) = sideP s hi - sideP s lo := by simp only [sideP, crossP, subP]; grind
      omega
    have wu : crossP (subP hi lo) (subP s.b s.a) = 0 := by
      have : crossP (subP hi lo) (subP s.b s.a) = -crossP (subP s.b s.a) (subP hi lo) := by simp only [crossP]; grind
      omega
    have side : ∀ p, sideP ⟨lo, hi⟩ p = 0 ↔ sideP s p = 0 := fun p => by
      have e1 : crossP (subP s.b s.a) (subP p lo) = sideP s p - sideP s lo := by simp only [sideP, crossP, subP]; grind
      constructor
      · intro h
        have := cross_par uw (w := subP p lo) h (sub_ne hne)
        omega
      · intro h
        exact cross_par wu (w := subP p lo) (by omega) (sub_ne ns)
    refine ⟨fun h => absurd (show (decide ((3 : Int) = 1) || decide ((3 : Int) = 2)) = true from h) (by decide), fun _ => ⟨⟨on1.1, on2.1⟩, ⟨on1.2, on2.2⟩, k⟩, fun p => ?_⟩
    rw [both p]
    constructor
    · rintro ⟨h0, h1, h2⟩
      refine .inr ⟨rfl, ?_⟩
      rw [on_between hvl hne ((side p).2 h0), elo, ehi]
      exact ⟨h1, h2⟩
    · rintro (⟨h, _⟩ | ⟨_, h⟩)
      · exact absurd (show (decide ((3 : Int) = 1) || decide ((3 : Int) = 2)) = true from h) (by decide)
      · have h0 := (on_iff hvl).1 h
        have := (on_between hvl hne h0.2).1 h
        rw [elo, ehi] at this
        exact ⟨(side p).1 h0.2, this⟩
  · subst k
    have hcm : cmpV lo lo = 0 := by rw [cmpV, less_irr, if_neg (by decide), if_pos rfl]
    rw [hcm, if_pos rfl]
    refine spec_single plo.2 fun p => ?_
    rw [both p]
    exact ⟨fun h => eq_of_less h.2.1 h.2.2, fun h => by rw [h]; exact ⟨plo.1, less_irr _, less_irr _⟩⟩
  · have hne : lo ≠ hi := fun e => by rw [e, less_irr] at k; cases k
    have hcm : cmpV lo hi = 1 := by rw [cmpV, less_asymm k, if_neg (by decide), if_neg hne]
    rw [hcm, if_neg (by decide), if_neg (by decide)]
    refine spec_none fun p hp => ?_
    obtain ⟨_, h1, h2⟩ := (both p).1 hp
    rcases less_tri p lo with l | l | l
    · rw [h1] at l; cases l
    · rw [l, k] at h2; cases h2
    · rw [less_trans k l] at h2; cases h2
theorem flat_spec (hs : validS s = true) (ht : validS t = true) (hd : dirC s t = 0) : Spec s t (flatC s t) := by
  obtain ⟨sa, _⟩ := valid_in hs
  obtain ⟨ta, _⟩ := valid_in ht
  by_cases h1 : s.a = s.b ∧ onB t s.a = true
  · rw [flatC, if_pos h1]
    refine spec_single sa fun p => ?_
    rw [on_point hs h1.1]
    exact ⟨fun h => h.1, fun h => by rw [h]; exact ⟨rfl, h1.2⟩⟩
  by_cases h2 : t.a = t.b ∧ onB s t.a = true
  · rw [flatC, if_neg h1, if_pos h2]
    refine spec_single ta fun p => ?_
    rw [on_point ht h2.1]
    exact ⟨fun h => h.2, fun h => by rw [h]; exact ⟨h2.2, rfl⟩⟩
  by_cases h3 : s.a = s.b ∨ t.a = t.b ∨ turnW s.a s.b t.a ≠ 0
  · rw [flatC, if_neg h1, if_neg h2, if_pos h3]
    refine spec_none fun e he => ?_
    obtain ⟨k1, k2⟩ := he
    by_cases hsd : s.a = s.b
    · rw [on_point hs hsd] at k1
      subst k1
      exact h1 ⟨hsd, k2⟩
    · by_cases htd : t.a = t.b
      · rw [on_point ht htd] at k2
        subst k2
        exact h2 ⟨htd, k1⟩
      · have h4 : turnW s.a s.b t.a ≠ 0 := by
          rcases h3 with h | h | h
          · exact absurd h hsd
          · exact absurd h htd
          · exact h
        rw [turn_side hs ta, Ne, sgn_zero] at h4
        have m1 := (on_iff hs).1 k1
        have m2 := (on_iff ht).1 k2
        have := cross_par (u := subP s.b s.a) (v := subP t.b t.a) (w := subP e t.a) hd m2.2 (sub_ne htd)
        have e1 : sideP s t.a = sideP s e - crossP (subP s.b s.a) (subP e t.a) := by simp only [sideP, crossP, subP]; grind
        omega
  · rw [flatC, if_neg h1, if_neg h2, if_neg h3]
    have n3 : sideP s t.a = 0 := by
      refine Classical.byContradiction fun h => h3 (.inr (.inr ?_))
      rw [turn_side hs ta, Ne, sgn_zero]
      exact h
    exact over_spec hs ht hd (fun h => h3 (.inl h)) (fun h => h3 (.inr (.inl h))) n3
end
theorem meet_spec {s t : Seg} (hs : validS s = true) (ht : validS t = true) : Spec s t (meetC s t) := by
  have hv : ¬ (validS s = false ∨ validS t = false) := by simp [hs, ht]
  by_cases hd : dirC s t = 0
  · rw [meetC, if_neg hv, if_neg (by simpa using hd)]
    exact flat_spec hs ht hd
  · have hm : meetC s t = linesC s t := by rw [meetC, if_neg hv, if_pos hd]
    rw [hm]
    obtain ⟨sa, sb⟩ := valid_in hs
    obtain ⟨ta, tb⟩ := valid_in ht
    obtain ⟨_, iu⟩ := subW_eq (by decide) sb sa
    obtain ⟨_, iv⟩ := subW_eq (by decide) tb ta
    obtain ⟨_, bd1, bd2⟩ := crossW_eq (by decide) (by decide) iu iv
    have fin : ∀ {A B D : Int}, Lines s t A B D → D ≤ 134217728 → linesC s t = lineC s (subP s.b s.a) A B D → Spec s t (linesC s t) := fun L hD e => by
      obtain ⟨f1, f2, f3⟩ := L.spec hs ht hD e
      refine ⟨f1, fun h => absurd h f2, fun p => ?_⟩
      rw [f3 p]
      exact ⟨.inl, fun h => h.elim id (fun h => absurd h.1 f2)⟩
    rcases Int.lt_or_gt_of_ne hd with hn | hp
    · exact fin (lines_neg hn) (by simp only [dirC]; omega) (by rw [linesC, if_pos hn])
    · exact fin (lines_pos hp) (by simp only [dirC]; omega) (by rw [linesC, if_neg (by simp only [dirC] at hp; omega)])
end Sg
end Go.Vm
