/-
  Layer 7: Meet, At and Share agree; the laws SegMeet and SegCross.
  Layer 8: contracts of the library's functions on slices of vectors.
  Layer 8: contracts of next, last, area, near, Edges, and the reference's likes.
  Layer 8: contracts of Edges and Valid.
  Layer 8: the contract of the reference's Valid.
  Layer 8: the reference's Valid and the program's are one.
  Layer 8: contracts of Where and WherePoint.
  Layer 8: contracts of the reference's Where and WherePoint: they are the program's.
  Layer 8: contracts of Convex, Area2, Same, Few, Reverse, Move of both.
  Layer 8: contracts of Canonical and Begin.
  Layer 8: contracts of Clean.
  Layer 7: what two segments have in common does not depend on their order, and is moved with them (plain numbers).
  Layer 8: the statements' first look at the examples.
  Layer 8, the plain laws: what a ring's validity, area and sides say, whatever vertex it begins with.
  Layer 8, the plain laws: cleaned rings, points outside of the box, moved rings.
  A row whose handle lies in a cell of another object is shut.
  Cells of an object said anew: a nil slice becomes a slice of the call's own; a row whose handle lies in an object's cell is shut.
  Layer 12, shapes without holes: Valid, Rings, Edges.
  Go's library: the number of bits of a small number.
  Layer 12, shapes without holes: WherePoint, Where, Canonical; sorting nothing.
-/
import Derived.Test.YtobmlkopbmakcaaGreatSegM
import Derived.Test.YtobmlkopbmakcaaGreatVmV
import Derived.WalkKit
import Derived.OwnWalkIn
namespace Go.Vm
set_option maxRecDepth 20000
set_option linter.unusedVariables false
set_option linter.unusedSimpArgs false
namespace Sg
open Go Go.RowKit Go.Proofs

theorem less_max {e a b : V2} : lessB e (maxV a b) = false ↔ lessB e a = false ∧ lessB e b = false := by
  unfold maxV
  cases h : lessB a b with
  | true =>
    simp only [if_true]
    rw [less_iff] at h
    simp only [Bool.eq_false_iff, Ne, less_iff]
    omega
  | false =>
    simp only [Bool.false_eq_true, if_false]
    rw [Bool.eq_false_iff, Ne, less_iff] at h
    simp only [Bool.eq_false_iff, Ne, less_iff]
    omega
theorem less_min {e a b : V2} : lessB (minV a b) e = false ↔ lessB a e = false ∧ lessB b e = false := by
  unfold minV
  cases h : lessB b a with
  | true =>
    simp only [if_true]
    rw [less_iff] at h
    simp only [Bool.eq_false_iff, Ne, less_iff]
    omega
  | false =>
    simp only [Bool.false_eq_true, if_false]
    rw [Bool.eq_false_iff, Ne, less_iff] at h
    simp only [Bool.eq_false_iff, Ne, less_iff]
    omega
theorem max_or (a b : V2) : maxV a b = a ∨ maxV a b = b := by
  unfold maxV
  split
  · exact .inr rfl
  · exact .inl rfl
theorem min_or (a b : V2) : minV a b = a ∨ minV a b = b := by
  unfold minV
  split
  · exact .inr rfl
  · exact .inl rfl
theorem eq_of_less {a b : V2} (h : lessB a b = false) (k : lessB b a = false) : a = b := by
  rcases less_tri a b with l | l | l
  · rw [h] at l; cases l
  · exact l
  · rw [k] at l; cases l
section
variable {s t : Seg}
theorem over_agree (hs : validS s = true) (ht : validS t = true) (hd : dirC s t = 0) (ns : s.a ≠ s.b) (nt : t.a ≠ t.b) (hc : sideP s t.a = 0) :
    (overC s t).kind = rmeetI s t ∧ (overC s t).p = ratP s t ∧ (overC s t).s = rshareS s t := by
  have hc2 : sideP s t.b = 0 := by have := side_diff s t; omega
  have hvu : crossP (subP t.b t.a) (subP s.b s.a) = 0 := by
    have : crossP (subP t.b t.a) (subP s.b s.a) = -dirC s t := by simp only [dirC, crossP]; grind
    omega
  have k1 : sideP t s.a = 0 := by
    have := cross_par hvu (w := subP t.a s.a) hc (sub_ne ns)
    have e : sideP t s.a = -crossP (subP t.b t.a) (subP t.a s.a) := by simp only [sideP, crossP, subP]; grind
    omega
  have k2 : sideP t s.b = 0 := by
    have e : sideP t s.b = sideP t s.a + crossP (subP t.b t.a) (subP s.b s.a) := by simp only [sideP, crossP, subP]; grind
    omega
  have z1 : sideP s s.a = 0 := by simp only [sideP, crossP, subP]; grind
  have z2 : sideP s s.b = 0 := by simp only [sideP, crossP, subP]; grind
  have z3 : sideP t t.a = 0 := by simp only [sideP, crossP, subP]; grind
  have z4 : sideP t t.b = 0 := by simp only [sideP, crossP, subP]; grind
  have both : ∀ e, (e = s.a ∨ e = s.b ∨ e = t.a ∨ e = t.b) → (onB s e = true ∧ onB t e = true ↔ lessB e (maxV (loV s) (loV t)) = false ∧ lessB (minV (hiV s) (hiV t)) e = false) := fun e he => by
    have h1 : sideP s e = 0 := by rcases he with rfl | rfl | rfl | rfl <;> assumption
    have h2 : sideP t e = 0 := by rcases he with rfl | rfl | rfl | rfl <;> assumption
    rw [on_between hs ns h1, on_between ht nt h2, less_max, less_min]
    exact ⟨fun ⟨⟨a, b⟩, c, d⟩ => ⟨⟨a, c⟩, b, d⟩, fun ⟨⟨a, c⟩, b, d⟩ => ⟨⟨a, b⟩, c, d⟩⟩
  have mlo : maxV (loV s) (loV t) = s.a ∨ maxV (loV s) (loV t) = s.b ∨ maxV (loV s) (loV t) = t.a ∨ maxV (loV s) (loV t) = t.b := by
    rcases max_or (loV s) (loV t) with e | e <;> rw [e]
    · rcases lo_hi s with ⟨f, _⟩ | ⟨f, _⟩ <;> rw [f] <;> simp
    · rcases lo_hi t with ⟨f, _⟩ | ⟨f, _⟩ <;> rw [f] <;> simp
  have mhi : minV (hiV s) (hiV t) = s.a ∨ minV (hiV s) (hiV t) = s.b ∨ minV (hiV s) (hiV t) = t.a ∨ minV (hiV s) (hiV t) = t.b := by
    rcases min_or (hiV s) (hiV t) with e | e <;> rw [e]
    · rcases lo_hi s with ⟨_, f, _⟩ | ⟨_, f, _⟩ <;> rw [f] <;> simp
    · rcases lo_hi t with ⟨_, f, _⟩ | ⟨_, f, _⟩ <;> rw [f] <;> simp
  unfold overC
  generalize maxV (loV s) (loV t) = lo at *
  generalize minV (hiV s) (hiV t) = hi at *
  have mem : ∀ e, e ∈ (endsL s t).filter (bothB s t) ↔ (e = s.a ∨ e = s.b ∨ e = t.a ∨ e = t.b) ∧ lessB e lo = false ∧ lessB hi e = false := fun e => by
    rw [mem_common]
    exact ⟨fun h => ⟨h.1, (both e h.1).1 h.2⟩, fun h => ⟨h.1, (both e h.1).2 h.2⟩⟩
  rcases less_tri lo hi with k | k | k
  · have hcm : cmpV lo hi = -1 := by rw [cmpV, if_pos k]
    obtain ⟨l1, l2, l3⟩ := sort_two (l := (endsL s t).filter (bothB s t)) ((mem lo).2 ⟨mlo, less_irr _, less_asymm k⟩) ((mem hi).2 ⟨mhi, less_asymm k, less_irr _⟩) k (fun e he => ((mem e).1 he).2)
    obtain ⟨r1, r2, r3⟩ := agree_two hs ht l1 l2 l3
    rw [hcm, r1, r2, r3]
    exact ⟨rfl, rfl, rfl⟩
  · subst k
    have hcm : cmpV lo lo = 0 := by rw [cmpV, less_irr, if_neg (by decide), if_pos rfl]
    have l1 : commonL s t = [lo] := sort_one fun e => by
      rw [mem]
      exact ⟨fun h => eq_of_less h.2.1 h.2.2, fun h => by rw [h]; exact ⟨mlo, less_irr _, less_irr _⟩⟩
    obtain ⟨r1, r2, r3⟩ := agree_one hs ht l1
    rw [hcm, r1, r2, r3]
    exact ⟨rfl, rfl, rfl⟩
  · have hne : lo ≠ hi := fun e => by rw [e, less_irr] at k; cases k
    have hcm : cmpV lo hi = 1 := by rw [cmpV, less_asymm k, if_neg (by decide), if_neg hne]
    have l1 : commonL s t = [] := sort_none fun e he => by
      obtain ⟨_, h1, h2⟩ := (mem e).1 he
      rcases less_tri e lo with l | l | l
      · rw [h1] at l; cases l
      · rw [l, k] at h2; cases h2
      · rw [less_trans k l] at h2; cases h2
    obtain ⟨r1, r2, r3⟩ := agree_none hs ht hd l1
    rw [hcm, r1, r2, r3]
    exact ⟨rfl, rfl, rfl⟩
theorem flat_agree (hs : validS s = true) (ht : validS t = true) (hd : dirC s t = 0) : (flatC s t).kind = rmeetI s t ∧ (flatC s t).p = ratP s t ∧ (flatC s t).s = rshareS s t := by
  have oa := on_a hs
  have oc := on_a ht
  by_cases h1 : s.a = s.b ∧ onB t s.a = true
  · have hf : flatC s t = singleC s.a := by rw [flatC, if_pos h1]
    have l1 : commonL s t = [s.a] := sort_one fun e => by
      rw [mem_common, on_point hs h1.1]
      exact ⟨fun h => h.2.1, fun h => by rw [h]; exact ⟨.inl rfl, rfl, h1.2⟩⟩
    obtain ⟨r1, r2, r3⟩ := agree_one hs ht l1
    rw [hf, r1, r2, r3]
    exact ⟨rfl, rfl, rfl⟩
  by_cases h2 : t.a = t.b ∧ onB s t.a = true
  · have hf : flatC s t = singleC t.a := by rw [flatC, if_neg h1, if_pos h2]
    have l1 : commonL s t = [t.a] := sort_one fun e => by
      rw [mem_common, on_point ht h2.1]
      exact ⟨fun h => h.2.2, fun h => by rw [h]; exact ⟨.inr (.inr (.inl rfl)), h2.2, rfl⟩⟩
    obtain ⟨r1, r2, r3⟩ := agree_one hs ht l1
    rw [hf, r1, r2, r3]
    exact ⟨rfl, rfl, rfl⟩
  by_cases h3 : s.a = s.b ∨ t.a = t.b ∨ turnW s.a s.b t.a ≠ 0
  · have hf : flatC s t = noneC := by rw [flatC, if_neg h1, if_neg h2, if_pos h3]
    have l1 : commonL s t = [] := sort_none fun e he => by
      obtain ⟨he, k1, k2⟩ := mem_common.1 he
      by_cases hsd : s.a = s.b
      · rw [on_point hs hsd] at k1
        subst k1
        exact h1 ⟨hsd, k2⟩
      · by_cases htd : t.a = t.b
        · rw [on_point ht htd] at k2
          subst k2
          exact h2 ⟨htd, k1⟩
        · have h4 : turnW s.a s.b t.a ≠ 0 := by
            rcases h3 with h | h | h
            · exact absurd h hsd
            · exact absurd h htd
            · exact h
          rw [turn_side hs (valid_in ht).1, Ne, sgn_zero] at h4
          have m1 := (on_iff hs).1 k1
          have m2 := (on_iff ht).1 k2
          have := cross_par (u := subP s.b s.a) (v := subP t.b t.a) (w := subP e t.a) hd m2.2 (sub_ne htd)
          have e1 : sideP s t.a = sideP s e - crossP (subP s.b s.a) (subP e t.a) := by simp only [sideP, crossP, subP]; grind
          omega
    obtain ⟨r1, r2, r3⟩ := agree_none hs ht hd l1
    rw [hf, r1, r2, r3]
    exact ⟨rfl, rfl, rfl⟩
  · have hf : flatC s t = overC s t := by rw [flatC, if_neg h1, if_neg h2, if_neg h3]
    have n1 : s.a ≠ s.b := fun h => h3 (.inl h)
    have n2 : t.a ≠ t.b := fun h => h3 (.inr (.inl h))
    have n3 : sideP s t.a = 0 := by
      refine Classical.byContradiction fun h => h3 (.inr (.inr ?_))
      rw [turn_side hs (valid_in ht).1, Ne, sgn_zero]
      exact h
    rw [hf]
    exact over_agree hs ht hd n1 n2 n3
end
theorem meet_agree (s t : Seg) : (meetC s t).kind = rmeetI s t ∧ (meetC s t).p = ratP s t ∧ (meetC s t).s = rshareS s t := by
  by_cases hv : validS s = false ∨ validS t = false
  · have hm : meetC s t = noneC := by rw [meetC, if_pos hv]
    have h0 : rmeetI s t = 0 := by rw [rmeetI, if_pos hv]
    rw [hm]
    exact ⟨h0.symm, by rw [ratP, h0]; rfl, by rw [rshareS, h0]; rfl⟩
  have hs : validS s = true := by
    cases h : validS s with
    | true => rfl
    | false => exact absurd (.inl h) hv
  have ht : validS t = true := by
    cases h : validS t with
    | true => rfl
    | false => exact absurd (.inr h) hv
  by_cases hd : dirC s t = 0
  · have hm : meetC s t = flatC s t := by rw [meetC, if_neg hv, if_neg (by simpa using hd)]
    rw [hm]
    exact flat_agree hs ht hd
  · have hm : meetC s t = linesC s t := by rw [meetC, if_neg hv, if_pos hd]
    rw [hm]
    have sZ : ∀ A B D, (lineC s (subP s.b s.a) A B D).s = s0 := fun A B D => by unfold lineC; split <;> rfl
    rcases Int.lt_or_gt_of_ne hd with hn | hp
    · have hl : linesC s t = lineC s (subP s.b s.a) (-crossP (subP t.a s.a) (subP t.b t.a)) (-crossP (subP t.a s.a) (subP s.b s.a)) (-dirC s t) := by rw [linesC, if_pos hn]
      obtain ⟨g1, g2, g3, g4, g5⟩ := lines_agree (lines_neg hn) hs ht
      rw [hl]
      refine ⟨g1, ?_, by rw [sZ, rshareS, if_neg g5]⟩
      unfold ratP
      by_cases k1 : rmeetI s t = 1
      · rw [if_pos k1]; exact g2 k1
      · rw [if_neg k1]
        by_cases k2 : rmeetI s t = 2
        · rw [if_pos k2, g3 k2, lowP, if_pos hn]
          congr 1 <;> grind
        · rw [if_neg k2]
          refine g4 ?_
          unfold rmeetI at k1 k2 g5 ⊢
          split
          · rfl
          · rename_i hh
            rw [if_neg hh] at k1 k2 g5
            split
            · rename_i h3; rw [if_pos h3] at g5; exact absurd rfl g5
            · rename_i h3
              rw [if_neg h3] at k1 k2
              split
              · rename_i h4; rw [if_pos h4] at k1; exact absurd rfl k1
              · rename_i h4
                rw [if_neg h4] at k2
                split
                · rename_i h5; rw [if_pos h5] at k2; exact absurd rfl k2
                · rfl
    · have hl : linesC s t = lineC s (subP s.b s.a) (crossP (subP t.a s.a) (subP t.b t.a)) (crossP (subP t.a s.a) (subP s.b s.a)) (dirC s t) := by rw [linesC, if_neg (by simp only [dirC] at hp; omega)]
      obtain ⟨g1, g2, g3, g4, g5⟩ := lines_agree (lines_pos hp) hs ht
      rw [hl]
      refine ⟨g1, ?_, by rw [sZ, rshareS, if_neg g5]⟩
      unfold ratP
      by_cases k1 : rmeetI s t = 1
      · rw [if_pos k1]; exact g2 k1
      · rw [if_neg k1]
        by_cases k2 : rmeetI s t = 2
        · rw [if_pos k2, g3 k2, lowP, if_neg (by omega)]
          congr 1 <;> grind
        · rw [if_neg k2]
          refine g4 ?_
          unfold rmeetI at k1 k2 g5 ⊢
          split
          · rfl
          · rename_i hh
            rw [if_neg hh] at k1 k2 g5
            split
            · rename_i h3; rw [if_pos h3] at g5; exact absurd rfl g5
            · rename_i h3
              rw [if_neg h3] at k1 k2
              split
              · rename_i h4; rw [if_pos h4] at k1; exact absurd rfl k1
              · rename_i h4
                rw [if_neg h4] at k2
                split
                · rename_i h5; rw [if_pos h5] at k2; exact absurd rfl k2
                · rfl

end Sg
end Go.Vm
namespace Go.Vm
set_option maxRecDepth 20000
set_option linter.unusedVariables false
set_option linter.unusedSimpArgs false
open Go Go.RowKit Go.Proofs
namespace Sg

/-! ### Reverse -/
def revL (l : List V2) (k : Nat) : List V2 := (List.range l.length).map fun p => if p < k ∨ l.length - k ≤ p then l.getD (l.length - 1 - p) ⟨0, 0⟩ else l.getD p ⟨0, 0⟩
/-! ### Clone -/
/-! ### Delete -/
end Sg
end Go.Vm
namespace Go.Vm
set_option maxRecDepth 20000
set_option linter.unusedVariables false
set_option linter.unusedSimpArgs false
open Go Go.RowKit Go.Proofs
namespace Sg

abbrev gt (l : List V2) (i : Nat) : V2 := l.getD i ⟨0, 0⟩
def nxt (l : List V2) (i : Nat) : V2 := gt l ((i + 1) % l.length)
def nx2 (l : List V2) (i : Nat) : V2 := gt l ((i + 2) % l.length)
def lst (l : List V2) (i : Nat) : V2 := gt l ((i + l.length - 1) % l.length)
def areaK (l : List V2) : Nat → Int
  | 0 => 0
  | k + 1 => w64 (areaK l k + crossW (gt l k) (nxt l k))
def areaW (l : List V2) : Int := areaK l l.length
def nearR (l : List V2) : Bool := l.all (withinV · 2000)
def edge (l : List V2) (i : Nat) : Seg := ⟨gt l i, nxt l i⟩
def edgesL (l : List V2) : List Seg := if l.length < 2 then [] else (List.range l.length).map (edge l)
abbrev sGet (l : List Seg) (i : Nat) : Seg := l.getD i ⟨⟨0, 0⟩, ⟨0, 0⟩⟩
abbrev sG (l : List Seg) : Nat → Nat → SV := fun i j => match j with
  | 0 => i64 (sGet l i).a.x
  | 1 => i64 (sGet l i).a.y
  | 2 => i64 (sGet l i).b.x
  | _ => i64 (sGet l i).b.y
abbrev slS (l : List Seg) : SV := .sl l.length 4 (sG l)
theorem hw (n : Int) (h1 : -1000000 ≤ n) (h2 : n ≤ 1000000) : IntKind.i64.wrap n = n := wid (by omega) (by omega)
theorem tmodN (a n : Nat) : ((a : Int).tmod n).toNat = a % n := by
  rw [← Int.ofNat_tmod]; exact Int.toNat_natCast _
theorem tmodB (a n : Nat) (h : 0 < n) : 0 ≤ (a : Int).tmod n ∧ (a : Int).tmod n < n := by
  rw [← Int.ofNat_tmod]
  have := Nat.mod_lt a h
  omega
theorem natw (a b : Nat) (h : a ≤ 100000) (hb : b ≤ 100000) : IntKind.i64.wrap ((a : Int) + b) = ((a + b : Nat) : Int) := by rw [hw _ (by omega) (by omega)]; omega

theorem next_det (l : List V2) (i : Nat) (hi : i < l.length) (hl : l.length ≤ 40000) : Det Tryz.prog 113 [.one (vlS l), .one (i64 i)] (.d (vD (nxt l i))) := by
  refine det_of_awp TTok mixed Tryz.func113 rfl rfl [] (Nat.le_of_ble_eq_true rfl) ?_
  have e := natw i 1 (by omega) (by omega)
  have hb := tmodB (i + 1) l.length (by omega)
  refine Need.mk (by omega) ?_
  refine Need.mk (by rw [show (1 : Int) = (1 : Nat) from rfl, e]; exact hb) ?_
  refine Fin.eq ?_
  show TV.d (vD (gt l (Int.toNat ((IntKind.i64.wrap ((i : Int) + (1 : Nat))).tmod l.length)))) = _
  rw [e, tmodN]; rfl
theorem last_det (l : List V2) (i : Nat) (hi : i < l.length) (hl : l.length ≤ 40000) : Det Tryz.prog 112 [.one (vlS l), .one (i64 i)] (.d (vD (lst l i))) := by
  refine det_of_awp TTok mixed Tryz.func112 rfl rfl [] (Nat.le_of_ble_eq_true rfl) ?_
  have e : IntKind.i64.wrap (IntKind.i64.wrap ((i : Int) + l.length) - 1) = ((i + l.length - 1 : Nat) : Int) := by
    rw [hw ((i : Int) + l.length) (by omega) (by omega), hw _ (by omega) (by omega)]; omega
  have hb := tmodB (i + l.length - 1) l.length (by omega)
  refine Need.mk (by omega) ?_
  refine Need.mk (by rw [e]; exact hb) ?_
  refine Fin.eq ?_
  show TV.d (vD (gt l (Int.toNat ((IntKind.i64.wrap (IntKind.i64.wrap ((i : Int) + l.length) - 1)).tmod l.length)))) = _
  rw [e, tmodN]; rfl

theorem area_det (l : List V2) (hl : l.length ≤ 40000) : Det Tryz.prog 111 [.one (vlS l)] (tint (areaW l)) := by
  refine det_of_awp TTok mixed Tryz.func111 rfl rfl [] (Nat.le_of_ble_eq_true rfl) ?_
  refine Loop.by (α := Nat) (fun k => [(0, .d (.one (vlS l))), (6, .d (.one (vlS l))), (7, tint l.length), (8, tint k), (3, tint (areaK l k))]) (fun _ => []) (fun k => k ≤ l.length) (fun k => l.length - k)
    (Adj.at 0 (Nat.zero_le _) .nil (.cons .same (.cons .same (.cons .same (.cons .same (.cons .same .nil)))))) (fun k hk => ?_)
  refine Split.mk (fun h => ?_) (fun h => ?_)
  · have hlt : k < l.length := by simpa using h
    refine Need.mk (by omega) ?_
    refine CallW.v (next_det l k hlt hl) (fun v hv => ?_)
    refine CallW.int (vcross_det (gt l k) v) (fun c hc => ?_)
    refine Need.mk (by kernel_rfl) ?_
    refine Adj.back (x := k) (k + 1) (by omega) (by omega) .nil (.cons .same (.cons .same (.cons .same (.cons (SlotLe.int ?_) (.cons (SlotLe.int ?_) .nil)))))
    · rw [hw _ (by omega) (by omega)]; omega
    · rw [hc, hv]; rfl
  · have hge : k = l.length := by
      have : ¬ k < l.length := by simpa using h
      omega
    refine Fin.int ?_
    rw [hge]; rfl
theorem near_false {l : List V2} {k : Nat} (hk : k < l.length) (h : withinV (gt l k) 2000 = false) : nearR l = false := by
  cases hn : nearR l with
  | false => rfl
  | true =>
    have := List.all_eq_true.1 hn (gt l k) (by simp [gt, List.getD, hk])
    rw [h] at this; cases this
theorem near_true {l : List V2} (h : ∀ i, i < l.length → withinV (gt l i) 2000 = true) : nearR l = true := by
  refine List.all_eq_true.2 (fun v hv => ?_)
  obtain ⟨i, hi⟩ := List.getElem?_of_mem hv
  have hlt := (List.getElem?_eq_some_iff.1 hi).1
  have := h i hlt
  simpa [gt, List.getD, hi] using this
theorem nearlam_det (v : V2) : Det Tryz.prog 129 [vD v] (tbool (!withinV v 2000)) := by
  refine det_of_awp TTok mixed Tryz.func129 rfl rfl [] (Nat.le_of_ble_eq_true rfl) ?_
  refine CallW.bool (vwithin_det v 2000) (fun b hb => ?_)
  refine Fin.bool (by rw [hb])
theorem nearidx_det (l : List V2) (hl : l.length ≤ 40000) : Det Tryz.prog 194 [.one (vlS l), .one (.fn 129 0 fun _ => .v Go.undef)] (tint (if nearR l = true then -1 else ((l.findIdx fun v => !withinV v 2000) : Nat))) := by
  refine det_of_awp TTok mixed Tryz.func194 rfl rfl [] (Nat.le_of_ble_eq_true rfl) ?_
  refine Loop.by (α := Nat) (fun k => [(0, .d (.one (vlS l))), (1, .d (.one (.fn 129 0 fun _ => .v Go.undef))), (7, tint l.length), (8, tint k)]) (fun _ => []) (fun k => k ≤ l.length ∧ ∀ i, i < k → withinV (gt l i) 2000 = true) (fun k => l.length - k)
    (Adj.at 0 ⟨Nat.zero_le _, fun _ h => absurd h (Nat.not_lt_zero _)⟩ .nil (.cons .same (.cons .same (.cons .same (.cons .same .nil))))) (fun k hk => ?_)
  obtain ⟨hk, hall⟩ := hk
  refine Split.mk (fun h => ?_) (fun h => ?_)
  · have hlt : k < l.length := by simpa using h
    refine Need.mk (by omega) ?_
    refine CallW.bool (nearlam_det (gt l k)) (fun b hb => ?_)
    refine Split.mk (fun h1 => ?_) (fun h1 => ?_)
    · refine Fin.int ?_
      rw [h1] at hb
      have hf : withinV (gt l k) 2000 = false := by simpa using hb.symm
      rw [if_neg (by rw [near_false hlt hf]; simp)]
      have : l.findIdx (fun v => !withinV v 2000) = k := by
        rw [List.findIdx_eq hlt]
        have e : l[k] = gt l k := by simp [gt, List.getD, hlt]
        refine ⟨by rw [e, hf]; rfl, fun j hj => ?_⟩
        have e : l[j] = gt l j := by simp [gt, List.getD, show j < l.length by omega]
        rw [e, hall j hj]; rfl
      rw [this]
    · refine Adj.back (x := k) (k + 1) ⟨by omega, fun i hi => ?_⟩ (by omega) .nil (.cons .same (.cons .same (.cons .same (.cons (SlotLe.int ?_) .nil))))
      · rcases Nat.lt_succ_iff_lt_or_eq.1 hi with hi | rfl
        · exact hall i hi
        · rw [h1] at hb; simpa using hb
      · rw [hw _ (by omega) (by omega)]; omega
  · have hge : k = l.length := by
      have : ¬ k < l.length := by simpa using h
      omega
    subst hge
    refine Fin.int ?_
    rw [if_pos (near_true hall)]
theorem nearcf_det (l : List V2) (hl : l.length ≤ 40000) : Det Tryz.prog 128 [.one (vlS l), .one (.fn 129 0 fun _ => .v Go.undef)] (tbool (!nearR l)) := by
  refine det_of_awp TTok mixed Tryz.func128 rfl rfl [] (Nat.le_of_ble_eq_true rfl) ?_
  refine CallW.int (nearidx_det l hl) (fun n hn => ?_)
  refine Fin.bool ?_
  subst hn
  cases nearR l with
  | true => simp
  | false => simp
theorem nearl_det (l : List V2) (hl : l.length ≤ 40000) : Det Tryz.prog 76 [.one (vlS l)] (tbool (nearR l)) := by
  refine det_of_awp TTok mixed Tryz.func76 rfl rfl [] (Nat.le_of_ble_eq_true rfl) ?_
  refine CallW.bool (nearcf_det l hl) (fun b hb => ?_)
  refine Fin.bool ?_
  rw [hb]; simp
end Sg
end Go.Vm
namespace Go.Vm
set_option maxRecDepth 20000
set_option linter.unusedVariables false
set_option linter.unusedSimpArgs false
open Go Go.RowKit Go.Proofs
namespace Sg

theorem edges_at {l : List V2} (h : ¬ l.length < 2) (i : Nat) (hi : i < l.length) : sGet (edgesL l) i = edge l i := by
  simp [edgesL, h, sGet, List.getD, hi]
theorem edges_len {l : List V2} (h : ¬ l.length < 2) : (edgesL l).length = l.length := by simp [edgesL, h]
theorem sG_app (E : List Seg) (s : Seg) (k i j : Nat) (hi : i < k + 1) (hj : j < 4) (hs : s = sGet E k) : SLe (bif Nat.blt i k then sG E i j else (sL s).getD ((i - k) * 4 + j) (.v Go.undef)) (sG E i j) := by
  refine SLe.bif (fun _ => SLe.refl _) (fun h => ?_)
  have e : i = k := by omega
  subst e
  subst hs
  rw [Nat.sub_self, Nat.zero_mul, Nat.zero_add]
  match j, hj with
  | 0, _ => exact SLe.refl _
  | 1, _ => exact SLe.refl _
  | 2, _ => exact SLe.refl _
  | 3, _ => exact SLe.refl _

theorem edges_det (l : List V2) (hl : l.length ≤ 40000) : Det Tryz.prog 114 [.one (vlS l)] (.d (.one (slS (edgesL l)))) := by
  refine det_of_awp TTok mixed Tryz.func114 rfl rfl [] (Nat.le_of_ble_eq_true rfl) ?_
  refine Split.mk (fun h => ?_) (fun h => ?_)
  · have hlt : l.length < 2 := by have := of_decide_eq_true h; omega
    refine Fin.one ?_
    rw [show edgesL l = [] by simp [edgesL, hlt]]
    exact SLe.nil _ _
  have hge : ¬ l.length < 2 := by have := of_decide_eq_false h; omega
  refine Loop.by (α := Nat) (fun k => [(0, .d (.one (vlS l))), (9, .d (.one (vlS l))), (10, tint l.length), (11, tint k), (3, .hdl 23 0)]) (fun k => [(23, .bld 0 k 4 163 (sG (edgesL l)))]) (fun k => k ≤ l.length) (fun k => l.length - k)
    (Adj.nil 3 23 4 163 (sG (edgesL l)) rfl rfl (Adj.at 0 (Nat.zero_le _) (.cons (.bld (fun _ h => absurd h (Nat.not_lt_zero _))) .nil) (.cons .same (.cons .same (.cons .same (.cons .same (.cons (.hdl rfl rfl) .nil))))))) (fun k hk => ?_)
  refine Split.mk (fun h => ?_) (fun h => ?_)
  · have hlt : k < l.length := by simpa using h
    refine Need.mk (by omega) ?_
    refine CallW.v (next_det l k hlt hl) (fun v hv => ?_)
    refine Need.mk (needApp (by omega) (by decide)) ?_
    refine Need.mk (by kernel_rfl) ?_
    refine Adj.back (x := k) (k + 1) (by omega) (by omega) (.cons (.bld (fun i hi j hj => sG_app (edgesL l) ⟨gt l k, v⟩ k i j hi hj ?_)) .nil) (.cons .same (.cons .same (.cons .same (.cons (SlotLe.int ?_) (.cons (.hdl rfl rfl) .nil)))))
    · rw [edges_at hge k hlt, hv]; rfl
    · rw [hw _ (by omega) (by omega)]; omega
  · have he : k = l.length := by
      have : ¬ k < l.length := by simpa using h
      omega
    refine Fin.one ?_
    refine SLe.slN (by rw [edges_len hge, he]) (fun i hi j hj => SLe.refl _)
/-! ### Valid -/
def allB (n : Nat) (f : Nat → Bool) : Bool := (List.range n).all f
theorem allB_iff {n : Nat} {f : Nat → Bool} : allB n f = true ↔ ∀ i, i < n → f i = true := by simp [allB]
theorem allB_false {n : Nat} {f : Nat → Bool} (i : Nat) (hi : i < n) (h : f i = false) : allB n f = false := by
  cases hc : allB n f with
  | false => rfl
  | true => rw [allB_iff.1 hc i hi] at h; cases h
def adjB (n i k : Nat) : Bool := decide (k = i + 1) || (decide (i = 0) && decide (k = n - 1))
def strictB (l : List V2) : Bool := allB l.length fun i => decide (turnW (lst l i) (gt l i) (nxt l i) ≠ 0)
def apartR (l : List V2) : Bool := allB l.length fun i => allB l.length fun k => decide (k ≤ i) || adjB l.length i k || decide ((meetC (edge l i) (edge l k)).kind = 0)
def headB (l : List V2) : Bool := decide (3 ≤ l.length) && decide (l.length ≤ 40) && nearR l
def validR (l : List V2) : Bool := headB l && decide (0 < areaW l) && strictB l && apartR l

def pairB (l : List V2) (i k : Nat) : Bool := decide (k ≤ i) || adjB l.length i k || decide ((meetC (edge l i) (edge l k)).kind = 0)

theorem valid_det' (l : List V2) (hl : l.length ≤ 40000) : Det Tryz.prog 60 [.one (vlS l)] (tbool (validR l)) := by
  refine det_of_awp TTok mixed Tryz.func60 rfl rfl [] (Nat.le_of_ble_eq_true rfl) ?_
  refine Split.mk (fun h => ?_) (fun h => ?_)
  · have h3 : l.length < 3 := by have := of_decide_eq_true h; omega
    repeat' first | refine Split.t ?_ | refine Split.f ?_ | fail
    refine Fin.bool ?_
    simp [validR, headB, show ¬ 3 ≤ l.length by omega]
  have h3 : 3 ≤ l.length := by have := of_decide_eq_false h; omega
  repeat' first | refine Split.t ?_ | refine Split.f ?_ | fail
  refine Split.mk (fun h => ?_) (fun h => ?_)
  · have h40 : ¬ l.length ≤ 40 := by have := of_decide_eq_true h; omega
    repeat' first | refine Split.t ?_ | refine Split.f ?_ | fail
    refine Fin.bool ?_
    simp [validR, headB, h40]
  have h40 : l.length ≤ 40 := by have := of_decide_eq_false h; omega
  repeat' first | refine Split.t ?_ | refine Split.f ?_ | fail
  refine CallW.bool (nearl_det l hl) (fun b hb => ?_)
  repeat' first | refine Split.t ?_ | refine Split.f ?_ | fail
  refine Split.mk (fun h => ?_) (fun h => ?_)
  · have hn : nearR l = false := by rw [← hb]; simpa using h
    repeat' first | refine Split.t ?_ | refine Split.f ?_ | fail
    refine Fin.bool ?_
    simp [validR, headB, hn]
  have hn : nearR l = true := by rw [← hb]; simpa using h
  repeat' first | refine Split.t ?_ | refine Split.f ?_ | fail
  refine CallW.int (area_det l hl) (fun a ha => ?_)
  repeat' first | refine Split.t ?_ | refine Split.f ?_ | fail
  refine Split.mk (fun h => ?_) (fun h => ?_)
  · have h0 : ¬ 0 < areaW l := by have := of_decide_eq_true h; omega
    refine Fin.bool ?_
    simp [validR, h0]
  have h0 : 0 < areaW l := by have := of_decide_eq_false h; omega
  have hv : validR l = (strictB l && apartR l) := by simp [validR, headB, h3, h40, hn, h0]
  rw [hv]
  refine Loop.by (α := Nat) (fun k => [(0, .d (.one (vlS l))), (3, tint l.length), (27, .d (.one (vlS l))), (28, tint l.length), (29, tint k)]) (fun _ => []) (fun k => k ≤ l.length ∧ ∀ i, i < k → turnW (lst l i) (gt l i) (nxt l i) ≠ 0) (fun k => l.length - k)
    (Adj.at 0 ⟨Nat.zero_le _, fun _ h => absurd h (Nat.not_lt_zero _)⟩ .nil (.cons .same (.cons .same (.cons .same (.cons .same (.cons .same .nil)))))) (fun k hk => ?_)
  obtain ⟨hk, hall⟩ := hk
  refine Split.mk (fun h => ?_) (fun h => ?_)
  · have hlt : k < l.length := by have := of_decide_eq_true h; omega
    refine Need.mk (by omega) ?_
    refine CallW.v (last_det l k hlt hl) (fun u hu => ?_)
    refine CallW.v (next_det l k hlt hl) (fun v hv => ?_)
    refine CallW.int (vturn_det u (gt l k) v) (fun c hc => ?_)
    refine Need.mk (by kernel_rfl) ?_
    refine Split.mk (fun h1 => ?_) (fun h1 => ?_)
    · refine Fin.bool ?_
      have hz : turnW (lst l k) (gt l k) (nxt l k) = 0 := by rw [← hu, ← hv, ← hc]; simpa using h1
      rw [strictB, allB_false k hlt (by rw [hz]; rfl), Bool.false_and]
    · refine Adj.back (x := k) (k + 1) ⟨by omega, fun i hi => ?_⟩ (by omega) .nil (.cons .same (.cons .same (.cons .same (.cons .same (.cons (SlotLe.int ?_) .nil)))))
      · rcases Nat.lt_succ_iff_lt_or_eq.1 hi with hi | rfl
        · exact hall i hi
        · rw [← hu, ← hv, ← hc]; simpa using h1
      · rw [hw _ (by omega) (by omega)]; omega
  have he : k = l.length := by have := of_decide_eq_false h; omega
  subst he
  have hs : strictB l = true := allB_iff.2 (fun i hi => by simpa using hall i hi)
  rw [hs, Bool.true_and]
  refine CallW.mk' (edges_det l hl) ?_
  have hge : ¬ l.length < 2 := by omega
  have hel := edges_len hge
  refine Loop.by (α := Nat) (fun k => [(3, tint l.length), (6, .d (.one (slS (edgesL l)))), (46, tint l.length), (47, tint k)]) (fun _ => []) (fun k => k ≤ l.length ∧ ∀ i, i < k → ∀ j, j < l.length → pairB l i j = true) (fun k => l.length - k)
    (Adj.at 0 ⟨Nat.zero_le _, fun _ h => absurd h (Nat.not_lt_zero _)⟩ .nil (.cons .same (.cons .same (.cons .same (.cons .same .nil))))) (fun k hk => ?_)
  obtain ⟨hk, hpk⟩ := hk
  refine Split.mk (fun h => ?_) (fun h => ?_)
  · have hlt : k < l.length := by have := of_decide_eq_true h; omega
    have e1 : IntKind.i64.wrap ((k : Int) + 1) = ((k + 1 : Nat) : Int) := natw k 1 (by omega) (by omega)
    refine Loop.by (α := Nat) (fun q => [(3, tint l.length), (6, .d (.one (slS (edgesL l)))), (46, tint l.length), (47, tint k), (7, tint k), (8, tint q)]) (fun _ => []) (fun q => k < q ∧ q ≤ l.length ∧ ∀ j, j < q → pairB l k j = true) (fun q => l.length - q)
      (Adj.at (k + 1) ⟨by omega, by omega, fun j hj => by simp [pairB, show j ≤ k by omega]⟩ .nil (.cons .same (.cons .same (.cons .same (.cons .same (.cons .same (.cons (SlotLe.int e1) .nil))))))) (fun q hq => ?_)
    obtain ⟨hkq, hq, hpq⟩ := hq
    refine Split.mk (fun h => ?_) (fun h => ?_)
    · have hql : q < l.length := by have := of_decide_eq_true h; omega
      have back : ∀ (t : Nat → TV) (m : Id → Mem), KeepS t m (memsOf []) [(3, tint l.length), (6, .d (.one (slS (edgesL l)))), (46, tint l.length), (47, tint k), (7, tint k), (8, tint (IntKind.i64.wrap ((q : Int) + 1)))] → pairB l k q = true →
          Adj t m (fun t3 m3 => ∃ y, Kept (fun q => [(3, tint l.length), (6, .d (.one (slS (edgesL l)))), (46, tint l.length), (47, tint k), (7, tint k), (8, tint ((q : Nat) : Int))]) (fun _ => []) (fun q => k < q ∧ q ≤ l.length ∧ ∀ j, j < q → pairB l k j = true) y t3 m3 ∧ l.length - y < l.length - q) := by
        intro t m hks hpb
        rw [show IntKind.i64.wrap ((q : Int) + 1) = ((q + 1 : Nat) : Int) from natw q 1 (by omega) (by omega)] at hks
        exact Adj.back (rank := fun q => l.length - q) (q + 1) ⟨by omega, by omega, fun j hj => by
          rcases Nat.lt_succ_iff_lt_or_eq.1 hj with hj | rfl
          · exact hpq j hj
          · exact hpb⟩ (by omega) .nil hks
      have hit : ∀ c, c = (meetC (sGet (edgesL l) k) (sGet (edgesL l) q)).kind → adjB l.length k q = false → pairB l k q = decide (c = 0) := by
        intro c hc ha
        rw [hc, edges_at hge k hlt, edges_at hge q hql]
        simp [pairB, ha, show ¬ q ≤ k by omega]
      have bad : pairB l k q = false → apartR l = false := fun h => allB_false k hlt (allB_false q hql h)
      refine Split.mk (fun h1 => ?_) (fun h1 => ?_)
      · have n1 : q ≠ k + 1 := by
          have : (q : Int) ≠ IntKind.i64.wrap ((k : Int) + 1) := by simpa using h1
          rw [e1] at this; omega
        repeat' first | refine Split.t ?_ | refine Split.f ?_ | fail
        refine Split.mk (fun h2 => ?_) (fun h2 => ?_)
        · have n2 : k ≠ 0 := by
            have : (k : Int) ≠ 0 := by simpa using h2
            omega
          repeat' first | refine Split.t ?_ | refine Split.f ?_ | fail
          refine Need.mk (by omega) ?_
          repeat' first | refine Split.t ?_ | refine Split.f ?_ | fail
          refine Need.mk (by omega) ?_
          repeat' first | refine Split.t ?_ | refine Split.f ?_ | fail
          refine CallW.int (vmeet_det (sGet (edgesL l) k) (sGet (edgesL l) q)) (fun c hc => ?_)
          repeat' first | refine Split.t ?_ | refine Split.f ?_ | fail
          refine Need.mk (by kernel_rfl) ?_
          have hp := hit c hc (by simp [adjB, n1, n2])
          refine Split.mk (fun h3 => ?_) (fun h3 => ?_)
          · have : c ≠ 0 := by simpa using h3
            refine Fin.bool ?_
            rw [bad (by rw [hp]; simpa using this)]
          · have : c = 0 := by simpa using h3
            exact back _ _ (.cons .same (.cons .same (.cons .same (.cons .same (.cons .same (.cons .same .nil)))))) (by rw [hp]; simpa using this)
        · have n2 : k = 0 := by
            have : (k : Int) = 0 := by simpa using h2
            omega
          have e3 : IntKind.i64.wrap ((l.length : Int) - 1) = ((l.length - 1 : Nat) : Int) := by rw [hw _ (by omega) (by omega)]; omega
          repeat' first | refine Split.t ?_ | refine Split.f ?_ | fail
          refine Split.mk (fun h4 => ?_) (fun h4 => ?_)
          · have n3 : q ≠ l.length - 1 := by
              have : (q : Int) ≠ IntKind.i64.wrap ((l.length : Int) - 1) := by simpa using h4
              rw [e3] at this; omega
            repeat' first | refine Split.t ?_ | refine Split.f ?_ | fail
            refine Need.mk (by omega) ?_
            repeat' first | refine Split.t ?_ | refine Split.f ?_ | fail
            refine Need.mk (by omega) ?_
            repeat' first | refine Split.t ?_ | refine Split.f ?_ | fail
            refine CallW.int (vmeet_det (sGet (edgesL l) k) (sGet (edgesL l) q)) (fun c hc => ?_)
            repeat' first | refine Split.t ?_ | refine Split.f ?_ | fail
            refine Need.mk (by kernel_rfl) ?_
            have hp := hit c hc (by simp [adjB, n1, n3])
            refine Split.mk (fun h3 => ?_) (fun h3 => ?_)
            · have : c ≠ 0 := by simpa using h3
              refine Fin.bool ?_
              rw [bad (by rw [hp]; simpa using this)]
            · have : c = 0 := by simpa using h3
              exact back _ _ (.cons .same (.cons .same (.cons .same (.cons .same (.cons .same (.cons .same .nil)))))) (by rw [hp]; simpa using this)
          · have n3 : q = l.length - 1 := by
              have : (q : Int) = IntKind.i64.wrap ((l.length : Int) - 1) := by simpa using h4
              rw [e3] at this; omega
            repeat' first | refine Split.t ?_ | refine Split.f ?_ | fail
            refine Need.mk (by kernel_rfl) ?_
            repeat' first | refine Split.t ?_ | refine Split.f ?_ | fail
            exact back _ _ (.cons .same (.cons .same (.cons .same (.cons .same (.cons .same (.cons .same .nil)))))) (by simp [pairB, adjB, n2, n3])
      · have n1 : q = k + 1 := by
          have : (q : Int) = IntKind.i64.wrap ((k : Int) + 1) := by simpa using h1
          rw [e1] at this; omega
        repeat' first | refine Split.t ?_ | refine Split.f ?_ | fail
        refine Need.mk (by kernel_rfl) ?_
        repeat' first | refine Split.t ?_ | refine Split.f ?_ | fail
        exact back _ _ (.cons .same (.cons .same (.cons .same (.cons .same (.cons .same (.cons .same .nil)))))) (by simp [pairB, adjB, n1])
    · have he : q = l.length := by have := of_decide_eq_false h; omega
      subst he
      refine Adj.back (x := k) (k + 1) ⟨by omega, fun i hi => ?_⟩ (by omega) .nil (.cons .same (.cons .same (.cons .same (.cons (SlotLe.int e1) .nil))))
      rcases Nat.lt_succ_iff_lt_or_eq.1 hi with hi | rfl
      · exact hpk i hi
      · exact hpq
  · have he : k = l.length := by have := of_decide_eq_false h; omega
    subst he
    refine Fin.bool ?_
    exact (allB_iff.2 (fun i hi => allB_iff.2 (fun j hj => hpk i hi j hj))).symm
end Sg
end Go.Vm
namespace Go.Vm
set_option maxRecDepth 20000
set_option linter.unusedVariables false
set_option linter.unusedSimpArgs false
open Go Go.RowKit Go.Proofs
namespace Sg

def rstrictB (l : List V2) : Bool := allB l.length fun i => decide (turnW (gt l i) (nxt l i) (nx2 l i) ≠ 0)
def rpairB (l : List V2) (i k : Nat) : Bool := decide (k ≤ i) || decide (rmeetI (edge l i) (edge l k) = if adjB l.length i k = true then 1 else 0)
def rapartR (l : List V2) : Bool := allB l.length fun i => allB l.length fun k => rpairB l i k
def rvalidR (l : List V2) : Bool := headB l && rstrictB l && rapartR l && decide (0 < areaW l)

end Sg
end Go.Vm
namespace Go.Vm
set_option maxRecDepth 20000
set_option linter.unusedVariables false
set_option linter.unusedSimpArgs false
open Go Go.RowKit Go.Proofs
namespace Sg

theorem near_in {l : List V2} (h : nearR l = true) (i : Nat) : In 2000 (gt l i) := by
  by_cases hi : i < l.length
  · have := List.all_eq_true.1 h (gt l i) (by simp [gt, List.getD, hi])
    exact In.of (by decide) (by decide) this
  · have : gt l i = ⟨0, 0⟩ := by simp [gt, List.getD, List.getElem?_eq_none (Nat.le_of_not_lt hi)]
    rw [this]
    exact ⟨by decide, by decide, by decide, by decide⟩
theorem turn_eq {l : List V2} (h : nearR l = true) (i j k : Nat) : turnW (gt l i) (gt l j) (gt l k) = turnP (gt l i) (gt l j) (gt l k) := turnW_eq (m := 2000) (by decide) (by decide) (near_in h i) (near_in h j) (near_in h k)

end Sg
end Go.Vm
namespace Go.Vm
set_option maxRecDepth 20000
set_option linter.unusedVariables false
set_option linter.unusedSimpArgs false
open Go Go.RowKit Go.Proofs
namespace Sg

def toV (p : P3) (v : V2) : V2 := ⟨p.x - v.x * p.d, p.y - v.y * p.d⟩
def sdP (e : Seg) (p : P3) : Int := crossP (subP e.b e.a) (toV p e.a)
def onP (e : Seg) (p : P3) : Bool := decide (sdP e p = 0) && decide (minI (toV p e.a).x (toV p e.b).x ≤ 0) && decide (0 ≤ maxI (toV p e.a).x (toV p e.b).x) && decide (minI (toV p e.a).y (toV p e.b).y ≤ 0) && decide (0 ≤ maxI (toV p e.a).y (toV p e.b).y)
def crsP (e : Seg) (p : P3) : Bool := (!(decide (0 ≤ (toV p e.a).y) == decide (0 ≤ (toV p e.b).y))) && (decide (0 ≤ (toV p e.a).y) == decide (0 < sdP e p))
def parK (l : List V2) (p : P3) : Nat → Bool
  | 0 => false
  | k + 1 => xor (parK l p k) (crsP (edge l k) p)
def onAny (l : List V2) (p : P3) : Bool := !allB l.length fun i => !onP (edge l i) p
def wherePl (l : List V2) (p : P3) : Int := if onAny l p = true then 1 else if parK l p l.length = true then 2 else 0
def whereR (l : List V2) (p : P3) : Int := if validR l = true ∧ validP p = true then wherePl l p else 0

structure Far (p : P3) : Prop where
  d0 : 1 ≤ p.d
  d1 : p.d ≤ 134217728
  x0 : -(4000 * p.d) ≤ p.x
  x1 : p.x ≤ 4000 * p.d
  y0 : -(4000 * p.d) ≤ p.y
  y1 : p.y ≤ 4000 * p.d
theorem far_of {p : P3} (h : validP p = true) : Far p := by
  simp only [validP, Bool.and_eq_true] at h
  obtain ⟨h1, h2, h3, h4, h5, h6⟩ := boundB_iff.1 h.1
  exact ⟨h1, h2, h3, h4, h5, h6⟩
theorem mul_d {x d : Int} (h : -2000 ≤ x ∧ x ≤ 2000) (hd : 1 ≤ d ∧ d ≤ 134217728) : -(2000 * d) ≤ x * d ∧ x * d ≤ 2000 * d :=
  ⟨by rw [show -(2000 * d) = (-2000) * d by omega]; exact Int.mul_le_mul_of_nonneg_right h.1 (by omega), Int.mul_le_mul_of_nonneg_right h.2 (by omega)⟩
structure Near (v : V2) : Prop where
  x0 : -805306368000 ≤ v.x
  x1 : v.x ≤ 805306368000
  y0 : -805306368000 ≤ v.y
  y1 : v.y ≤ 805306368000
theorem toV_near {p : P3} {v : V2} (hp : Far p) (hv : In 2000 v) : Near (toV p v) := by
  obtain ⟨a1, a2⟩ := mul_d ⟨hv.x0, hv.x1⟩ ⟨hp.d0, hp.d1⟩
  obtain ⟨b1, b2⟩ := mul_d ⟨hv.y0, hv.y1⟩ ⟨hp.d0, hp.d1⟩
  obtain ⟨d0, d1, x0, x1, y0, y1⟩ := hp
  constructor <;> simp only [toV] <;> omega
def toW (p : P3) (v : V2) : V2 := ⟨w64 (p.x - w64 (v.x * p.d)), w64 (p.y - w64 (v.y * p.d))⟩
theorem toW_eq {p : P3} {v : V2} (hp : Far p) (hv : In 2000 v) : toW p v = toV p v := by
  obtain ⟨a1, a2⟩ := mul_d ⟨hv.x0, hv.x1⟩ ⟨hp.d0, hp.d1⟩
  obtain ⟨b1, b2⟩ := mul_d ⟨hv.y0, hv.y1⟩ ⟨hp.d0, hp.d1⟩
  have h := toV_near hp hv
  have hd := hp.d1
  have e1 : w64 (v.x * p.d) = v.x * p.d := wid' (by omega) (by omega)
  have e2 : w64 (v.y * p.d) = v.y * p.d := wid' (by omega) (by omega)
  unfold toW
  rw [e1, e2]
  have k1 := h.x0; have k2 := h.x1; have k3 := h.y0; have k4 := h.y1
  simp only [toV] at k1 k2 k3 k4
  rw [wid' (by omega) (by omega), wid' (by omega) (by omega)]
  rfl
theorem sdW_eq {u v : V2} (hu : In 4000 u) (hv : Near v) : crossW u v = crossP u v := by
  obtain ⟨x0, x1, y0, y1⟩ := hv
  have m1 := mul_abs ⟨hu.x0, hu.x1⟩ (show -805306368000 ≤ v.y ∧ v.y ≤ 805306368000 from ⟨y0, y1⟩)
  have m2 := mul_abs ⟨hu.y0, hu.y1⟩ (show -805306368000 ≤ v.x ∧ v.x ≤ 805306368000 from ⟨x0, x1⟩)
  unfold crossW crossP
  rw [wid' (n := u.x * v.y) (by omega) (by omega), wid' (n := u.y * v.x) (by omega) (by omega), wid' (by omega) (by omega)]
theorem to_det (p : P3) (v : V2) (cell : Nat → SV) (h0 : cell 0 = i64 p.x) (h1 : cell 1 = i64 p.y) (h2 : cell 2 = i64 p.d) : Det Tryz.prog 222 [vD v, .one (.ad 3 cell)] (.d (vD (toW p v))) := by
  have hle : DsLe [vD v, .one (.ad 3 cell)] [vD v, .one (.ad 3 fun j => (pL p).getD j (.v Go.undef))] := by
    refine .cons (DLe.refl _) (.cons (DLe.one (fun S w x r => ?_)) .nil)
    obtain ⟨b, off, xs, rfl, r2, r3, r4⟩ := Rd.inv_ad r
    refine .ad xs r2 r3 (fun j hj => ?_)
    have := r4 j hj
    match j, hj with
    | 0, _ => rw [h0] at this; exact this
    | 1, _ => rw [h1] at this; exact this
    | 2, _ => rw [h2] at this; exact this
  refine Det.le hle ?_
  refine det_of_awp TTok mixed Tryz.func222 rfl rfl [] (Nat.le_of_ble_eq_true rfl) ?_
  exact Fin.rfl'

theorem SlotLe.bool {m m' : Id → Mem} {b b' : Bool} (h : b = b') : SlotLe m m' (tbool b) (tbool b') := h ▸ SlotLe.same
theorem where_det (l : List V2) (p : P3) (hl : l.length ≤ 40000) : Det Tryz.prog 184 [.one (vlS l), pD p] (tint (whereR l p)) := by
  refine det_of_awp TTok mixed Tryz.func184 rfl rfl [] (Nat.le_of_ble_eq_true rfl) ?_
  refine CallW.bool (valid_det' l hl) (fun b hb => ?_)
  refine Split.mk (fun h => ?_) (fun h => ?_)
  · have hv : validR l = false := by rw [← hb]; simpa using h
    repeat' first | refine Split.t ?_ | refine Split.f ?_ | fail
    refine Fin.int ?_
    simp [whereR, hv]
  have hv : validR l = true := by rw [← hb]; simpa using h
  repeat' first | refine Split.t ?_ | refine Split.f ?_ | fail
  refine CallW.bool (validp_det p) (fun c hc => ?_)
  repeat' first | refine Split.t ?_ | refine Split.f ?_ | fail
  refine Split.mk (fun h => ?_) (fun h => ?_)
  · have hp : validP p = false := by rw [← hc]; simpa using h
    refine Fin.int ?_
    simp [whereR, hp]
  have hp : validP p = true := by rw [← hc]; simpa using h
  have hwr : whereR l p = wherePl l p := by simp [whereR, hv, hp]
  rw [hwr]
  have hh := hv
  simp only [validR, headB, Bool.and_eq_true, decide_eq_true_eq] at hh
  obtain ⟨⟨⟨⟨⟨h3, h40⟩, hn⟩, h0⟩, hs⟩, ha⟩ := hh
  have hge : ¬ l.length < 2 := by omega
  have hel := edges_len hge
  have hfar := far_of hp
  refine CallW.mk' (edges_det l hl) ?_
  refine Loop.by (α := Nat) (fun k => [(5, .d (.one (.fn 222 1 fun j => [SV.ad 3 fun j => (pL p).getD j (.v Go.undef)].getD j (.v Go.undef)))), (6, tbool (parK l p k)), (23, .d (.one (slS (edgesL l)))), (24, tint (edgesL l).length), (25, tint k)]) (fun _ => []) (fun k => k ≤ l.length ∧ ∀ i, i < k → onP (edge l i) p = false) (fun k => l.length - k)
    (Adj.at 0 ⟨Nat.zero_le _, fun _ h => absurd h (Nat.not_lt_zero _)⟩ .nil (.cons .same (.cons .same (.cons .same (.cons .same (.cons .same .nil)))))) (fun k hk => ?_)
  obtain ⟨hk, hall⟩ := hk
  refine Split.mk (fun h => ?_) (fun h => ?_)
  · have hlt : k < l.length := by have := of_decide_eq_true h; omega
    refine Need.mk (by omega) ?_
    refine CallW.v (to_det p (sGet (edgesL l) k).a _ rfl rfl rfl) (fun a ha => ?_)
    refine CallW.v (to_det p (sGet (edgesL l) k).b _ rfl rfl rfl) (fun b hb => ?_)
    refine Need.mk (by kernel_rfl) ?_
    refine CallW.v (vsub_det (sGet (edgesL l) k).b (sGet (edgesL l) k).a) (fun u hu => ?_)
    refine CallW.int (vcross_det u a) (fun sd hsd => ?_)
    refine Need.mk (by kernel_rfl) ?_
    rw [edges_at hge k hlt] at ha hb hu
    have ia : In 2000 (edge l k).a := near_in hn _
    have ib : In 2000 (edge l k).b := near_in hn _
    rw [toW_eq hfar ia] at ha
    rw [toW_eq hfar ib] at hb
    obtain ⟨eu, iu⟩ := subW_eq (by decide) ib ia
    rw [eu] at hu
    rw [hu, ha, sdW_eq iu (toV_near hfar ia)] at hsd
    have hon : onP (edge l k) p = (decide (sd = 0) && decide (minI a.x b.x ≤ 0) && decide (0 ≤ maxI a.x b.x) && decide (minI a.y b.y ≤ 0) && decide (0 ≤ maxI a.y b.y)) := by rw [hsd, ha, hb]; rfl
    have hcr : crsP (edge l k) p = ((!(decide (0 ≤ a.y) == decide (0 ≤ b.y))) && (decide (0 ≤ a.y) == decide (0 < sd))) := by rw [hsd, ha, hb]; rfl
    have back : ∀ (t : Nat → TV) (m : Id → Mem), KeepS t m (memsOf []) [(5, .d (.one (.fn 222 1 fun j => [SV.ad 3 fun j => (pL p).getD j (.v Go.undef)].getD j (.v Go.undef)))), (6, tbool (parK l p (k + 1))), (23, .d (.one (slS (edgesL l)))), (24, tint (edgesL l).length), (25, tint (IntKind.i64.wrap ((k : Int) + 1)))] → onP (edge l k) p = false →
        Adj t m (fun t3 m3 => ∃ y, Kept (fun k => [(5, .d (.one (.fn 222 1 fun j => [SV.ad 3 fun j => (pL p).getD j (.v Go.undef)].getD j (.v Go.undef)))), (6, tbool (parK l p k)), (23, .d (.one (slS (edgesL l)))), (24, tint (edgesL l).length), (25, tint k)]) (fun _ => []) (fun k => k ≤ l.length ∧ ∀ i, i < k → onP (edge l i) p = false) y t3 m3 ∧ l.length - y < l.length - k) := by
      intro t m hks hf
      rw [show IntKind.i64.wrap ((k : Int) + 1) = ((k + 1 : Nat) : Int) from natw k 1 (by omega) (by omega)] at hks
      exact Adj.back (rank := fun k => l.length - k) (k + 1) ⟨by omega, fun j hj => by
        rcases Nat.lt_succ_iff_lt_or_eq.1 hj with hj | rfl
        · exact hall j hj
        · exact hf⟩ (by omega) .nil hks
    refine Split.mk (fun c1 => ?_) (fun c1 => ?_)
    rotate_left
    have hf : onP (edge l k) p = false := by rw [hon, show decide (sd = 0) = false from c1]; rfl
    rotate_right
    replace c1 : decide (sd = 0) = true := c1
    focus (repeat' first | refine Split.t ?_ | fail)
    refine Split.mk (fun c2 => ?_) (fun c2 => ?_)
    rotate_left
    have hf : onP (edge l k) p = false := by rw [hon, c1, show decide (minI a.x b.x ≤ 0) = false from c2]; rfl
    rotate_right
    replace c2 : decide (minI a.x b.x ≤ 0) = true := c2
    focus (repeat' first | refine Split.t ?_ | fail)
    refine Split.mk (fun c3 => ?_) (fun c3 => ?_)
    rotate_left
    have hf : onP (edge l k) p = false := by rw [hon, c1, c2, show decide (0 ≤ maxI a.x b.x) = false from c3]; rfl
    rotate_right
    replace c3 : decide (0 ≤ maxI a.x b.x) = true := c3
    focus (repeat' first | refine Split.t ?_ | fail)
    refine Split.mk (fun c4 => ?_) (fun c4 => ?_)
    rotate_left
    have hf : onP (edge l k) p = false := by rw [hon, c1, c2, c3, show decide (minI a.y b.y ≤ 0) = false from c4]; rfl
    rotate_right
    replace c4 : decide (minI a.y b.y ≤ 0) = true := c4
    focus (repeat' first | refine Split.t ?_ | fail)
    refine Split.mk (fun c5 => ?_) (fun c5 => ?_)
    rotate_left
    have hf : onP (edge l k) p = false := by rw [hon, c1, c2, c3, c4, show decide (0 ≤ maxI a.y b.y) = false from c5]; rfl
    rotate_right
    replace c5 : decide (0 ≤ maxI a.y b.y) = true := c5
    · have ht : onP (edge l k) p = true := by rw [hon, c1, c2, c3, c4, c5]; rfl
      refine Fin.int ?_
      have : onAny l p = true := by rw [onAny, allB_false k hlt (by rw [ht]; rfl)]; rfl
      rw [wherePl, if_pos this]
    all_goals repeat' first | refine Split.t ?_ | refine Split.f ?_ | fail
    all_goals refine Need.mk rfl ?_
    all_goals
      refine Split.mk (fun g1 => ?_) (fun g1 => ?_)
      · repeat' first | refine Split.t ?_ | fail
        refine Need.mk rfl ?_
        repeat' first | refine Split.t ?_ | fail
        refine Split.mk (fun g2 => ?_) (fun g2 => ?_)
        · have hc : crsP (edge l k) p = true := by rw [hcr, show (!(decide (0 ≤ a.y) == decide (0 ≤ b.y))) = true from g1, show (decide (0 ≤ a.y) == decide (0 < sd)) = true from g2]; rfl
          exact back _ _ (.cons .same (.cons (SlotLe.bool (by rw [parK, hc, Bool.xor_true])) (.cons .same (.cons .same (.cons .same .nil))))) hf
        · have hc : crsP (edge l k) p = false := by rw [hcr, show (!(decide (0 ≤ a.y) == decide (0 ≤ b.y))) = true from g1, show (decide (0 ≤ a.y) == decide (0 < sd)) = false from g2]; rfl
          exact back _ _ (.cons .same (.cons (SlotLe.bool (by rw [parK, hc, Bool.xor_false])) (.cons .same (.cons .same (.cons .same .nil))))) hf
      · have hc : crsP (edge l k) p = false := by rw [hcr, show (!(decide (0 ≤ a.y) == decide (0 ≤ b.y))) = false from g1]; rfl
        repeat' first | refine Split.t ?_ | refine Split.f ?_ | fail
        exact back _ _ (.cons .same (.cons (SlotLe.bool (by rw [parK, hc, Bool.xor_false])) (.cons .same (.cons .same (.cons .same .nil))))) hf
  · have he : k = l.length := by have := of_decide_eq_false h; omega
    subst he
    have hna : onAny l p = false := by
      rw [onAny, allB_iff.2 (fun i hi => by rw [hall i hi]; rfl)]; rfl
    refine Split.mk (fun h => ?_) (fun h => ?_)
    · refine Fin.int ?_
      rw [wherePl, hna, if_neg (by simp), if_pos h]
    · refine Fin.int ?_
      rw [wherePl, hna, if_neg (by simp), if_neg (by rw [h]; simp)]
end Sg
end Go.Vm
namespace Go.Vm
set_option maxRecDepth 20000
set_option linter.unusedVariables false
set_option linter.unusedSimpArgs false
open Go Go.RowKit Go.Proofs
namespace Sg

def whereV (l : List V2) (v : V2) : Int := if withinV v 4000 = true then whereR l (ptOf v) else 0
def inP (e : Seg) (p : P3) : Bool := decide (p.x ≥ minI e.a.x e.b.x * p.d) && decide (p.x ≤ maxI e.a.x e.b.x * p.d) && decide (p.y ≥ minI e.a.y e.b.y * p.d) && decide (p.y ≤ maxI e.a.y e.b.y * p.d)
def rcrs (e : Seg) (p : P3) : Bool := (decide (e.a.y * p.d ≤ p.y) && decide (e.b.y * p.d > p.y) && decide (0 < sdP e p)) || (decide (e.b.y * p.d ≤ p.y) && decide (e.a.y * p.d > p.y) && decide (sdP e p < 0))
end Sg
end Go.Vm
namespace Go.Vm
set_option maxRecDepth 20000
set_option linter.unusedVariables false
set_option linter.unusedSimpArgs false
open Go Go.RowKit Go.Proofs
namespace Sg

def leftB (l : List V2) : Bool := allB l.length fun i => decide (0 < turnW (lst l i) (gt l i) (nxt l i))
def convexR (l : List V2) : Bool := leftB l && validR l
def area2R (l : List V2) : Int := if validR l = true then areaW l else 0
/-! ### Same -/
/-! ### Reverse -/
/-! ### Move -/
def movL (l : List V2) (v : V2) : List V2 := l.map fun u => addW u v
abbrev ringE (l : List V2) (e : Int) : TV := .tup [.one (vlS l), .one (i64 e)]
def movR (l : List V2) (v : V2) : List V2 × Int := if validR l = false then ([], 11) else if withinV v 4000 = false then ([], 2) else if nearR (movL l v) = false then ([], 2) else (movL l v, 0)
end Sg
end Go.Vm
namespace Go.Vm
set_option maxRecDepth 20000
set_option linter.unusedVariables false
set_option linter.unusedSimpArgs false
open Go Go.RowKit Go.Proofs
namespace Sg

def lk (l : List V2) : Nat → Nat
  | 0 => 0
  | i + 1 => if lessB (gt l i) (gt l (lk l i)) = true then i else lk l i
def minIx (l : List V2) : Nat := lk l l.length
def rotL (l : List V2) (k : Nat) : List V2 := l.drop k ++ l.take k
def beginL (l : List V2) : List V2 := rotL l (minIx l)
theorem lk_lt (l : List V2) : ∀ i, 0 < i → lk l i < i
  | 0, h => absurd h (Nat.lt_irrefl _)
  | i + 1, _ => by
    simp only [lk]
    split
    · omega
    · rcases Nat.eq_zero_or_pos i with h | h
      · subst h; simp [lk]
      · have := lk_lt l i h; omega
theorem lk_min (l : List V2) : ∀ i, (∀ j, j < lk l i → lessB (gt l (lk l i)) (gt l j) = true) ∧ ∀ j, j < i → lessB (gt l j) (gt l (lk l i)) = false
  | 0 => ⟨fun j h => absurd h (Nat.not_lt_zero _), fun j h => absurd h (Nat.not_lt_zero _)⟩
  | i + 1 => by
    obtain ⟨h1, h2⟩ := lk_min l i
    simp only [lk]
    split
    · rename_i hl
      refine ⟨fun j hj => ?_, fun j hj => ?_⟩
      · rcases less_tri (gt l i) (gt l j) with h | h | h
        · exact h
        · have := h2 j hj
          rw [← h, hl] at this; cases this
        · have := h2 j hj
          rw [less_trans h hl] at this; cases this
      · rcases Nat.lt_succ_iff_lt_or_eq.1 hj with hj | rfl
        · cases hq : lessB (gt l j) (gt l i) with
          | false => rfl
          | true =>
            have := h2 j hj
            rw [less_trans hq hl] at this; cases this
        · exact less_irr _
    · rename_i hl
      refine ⟨h1, fun j hj => ?_⟩
      rcases Nat.lt_succ_iff_lt_or_eq.1 hj with hj | rfl
      · exact h2 j hj
      · simpa using hl
theorem rotL_len (l : List V2) (k : Nat) : (rotL l k).length = l.length := by simp [rotL]; omega
theorem rotL_at (l : List V2) (k i : Nat) (hk : k ≤ l.length) (hi : i < l.length) : (rotL l k).getD i ⟨0, 0⟩ = if i < l.length - k then gt l (k + i) else gt l (i - (l.length - k)) := by
  unfold rotL gt
  simp only [List.getD, List.getElem?_append, List.length_drop, List.getElem?_drop, List.getElem?_take]
  split
  · rfl
  · rw [if_pos (by omega)]

def canonR (l : List V2) : List V2 := if validR l = true then beginL l else []
/-! ### the program's way -/
theorem minf_det (l : List V2) (hl : l.length ≤ 40000) (h0 : 0 < l.length) : Det Tryz.prog 91 [.one (vlS l), .one (.fn 92 0 fun _ => .v Go.undef)] (.d (vD (gt l (minIx l)))) := by
  refine det_of_awp TTok mixed Tryz.func91 rfl rfl [] (Nat.le_of_ble_eq_true rfl) ?_
  refine Split.isF (decide_eq_false (by omega)) ?_
  refine Need.mk (by omega) ?_
  refine Loop.by (α := Nat) (fun k => [(0, .d (.one (vlS l))), (1, .d (.one (.fn 92 0 fun _ => .v Go.undef))), (4, .ptr 4 0), (5, .ptr 5 0), (6, tint k)]) (fun k => [(4, .box [i64 0, i64 0]), (5, .box (vL (gt l (lk l k))))]) (fun k => 1 ≤ k ∧ k ≤ l.length) (fun k => l.length - k)
    (Adj.at 1 ⟨Nat.le_refl _, h0⟩ (.cons (.box (LLe.of_eq rfl)) (.cons (.box (LLe.of_eq (by simp [lk]))) .nil)) (.cons .same (.cons .same (.cons (.box rfl rfl) (.cons (.box rfl rfl) (.cons .same .nil)))))) (fun k hk => ?_)
  obtain ⟨hk1, hk⟩ := hk
  refine Split.mk (fun h => ?_) (fun h => ?_)
  · have hlt : k < l.length := by have := of_decide_eq_true h; omega
    refine Need.mk (by omega) ?_
    refine CallW.int (vcmp_det (gt l k) (gt l (lk l k))) (fun c hc => ?_)
    refine Need.mk (by kernel_rfl) ?_
    refine Split.mk (fun h1 => ?_) (fun h1 => ?_)
    · have hls : lessB (gt l k) (gt l (lk l k)) = true := by rw [← cmpV_neg, ← hc]; exact h1
      refine Need.mk (by omega) ?_
      refine Adj.back (x := k) (k + 1) ⟨by omega, by omega⟩ (by omega) (.cons (.box (LLe.of_eq rfl)) (.cons (.box (LLe.of_eq ?_)) .nil)) (.cons .same (.cons .same (.cons (.box rfl rfl) (.cons (.box rfl rfl) (.cons (SlotLe.int ?_) .nil)))))
      · rw [lk, if_pos hls]; rfl
      · rw [hw _ (by omega) (by omega)]; omega
    · have hls : ¬ lessB (gt l k) (gt l (lk l k)) = true := by
        rw [← cmpV_neg, ← hc]
        intro e
        rw [show decide (c < 0) = false from h1] at e; cases e
      refine Adj.back (x := k) (k + 1) ⟨by omega, by omega⟩ (by omega) (.cons (.box (LLe.of_eq rfl)) (.cons (.box (LLe.of_eq ?_)) .nil)) (.cons .same (.cons .same (.cons (.box rfl rfl) (.cons (.box rfl rfl) (.cons (SlotLe.int ?_) .nil)))))
      · rw [lk, if_neg hls]
      · rw [hw _ (by omega) (by omega)]; omega
  · have he : k = l.length := by have := of_decide_eq_false h; omega
    subst he
    exact Fin.rfl'
theorem index_det (l : List V2) (hl : l.length ≤ 40000) (h0 : 0 < l.length) : Det Tryz.prog 90 [.one (vlS l), vD (gt l (minIx l))] (tint (minIx l)) := by
  refine det_of_awp TTok mixed Tryz.func90 rfl rfl [] (Nat.le_of_ble_eq_true rfl) ?_
  have hm : minIx l < l.length := lk_lt l _ h0
  refine Loop.by (α := Nat) (fun k => [(0, .d (.one (vlS l))), (3, .ptr 3 0), (7, tint l.length), (8, tint k)]) (fun _ => [(3, .box (vL (gt l (minIx l))))]) (fun k => k ≤ minIx l) (fun k => l.length - k)
    (Adj.at 0 (Nat.zero_le _) (.cons (.box (LLe.of_eq rfl)) .nil) (.cons .same (.cons (.box rfl rfl) (.cons .same (.cons .same .nil))))) (fun k hk => ?_)
  refine Split.isT (decide_eq_true (by omega)) ?_
  refine Need.mk (by omega) ?_
  refine EqW.v (gt l (minIx l)) (gt l k) (fun q hq => ?_)
  refine Need.mk (by kernel_rfl) ?_
  refine Split.mk (fun h1 => ?_) (fun h1 => ?_)
  · refine Fin.int ?_
    have e := hq.1 h1
    rcases Nat.lt_or_ge k (minIx l) with h | h
    · have := (lk_min l l.length).1 k h
      rw [show gt l (lk l l.length) = gt l k from e, less_irr] at this; cases this
    · omega
  · have hne : k ≠ minIx l := fun e => by
      have : q = true := hq.2 (by rw [e])
      rw [this] at h1; cases h1
    refine Adj.back (x := k) (k + 1) (by omega) (by omega) (.cons (.box (LLe.of_eq rfl)) .nil) (.cons .same (.cons (.box rfl rfl) (.cons .same (.cons (SlotLe.int ?_) .nil))))
    rw [hw _ (by omega) (by omega)]; omega
theorem grow_detM (n : Nat) (hn : n ≤ 40000) (h0 : 0 < n) : DetM Tryz.prog 216 [.d (.one (.v (.slice none 0 0))), tint n] [] (.hdl (.n 3000) 0) [] (.bld 0 0 2 50 (vG [])) := by
  refine detM_of_awp TTok mixed Tryz.func216 rfl rfl [] (Nat.le_of_ble_eq_true rfl) (Nat.le_of_ble_eq_true rfl) (sigM_of rfl) ?_
  refine Split.isF (decide_eq_false (by omega)) ?_
  have e : IntKind.i64.wrap ((n : Int) - IntKind.i64.wrap (0 - ((0 : Nat) : Int))) = n := by
    rw [show IntKind.i64.wrap (0 - ((0 : Nat) : Int)) = 0 from rfl, hw _ (by omega) (by omega)]; omega
  refine Split.isT (decide_eq_true (by rw [e]; omega)) ?_
  refine Need.mk (by decide) ?_
  refine Need.mk (by rw [e]; exact ⟨by omega, (show (n : Int) * 16 ≤ 140737488355328 by omega), by simp only [maxLen]; omega, by decide⟩) ?_
  refine Need.mk (by omega) ?_
  refine EitherW.r ⟨rfl, ?_⟩
  exact EndM.mk ⟨.n 22, .one (.hdl rfl rfl rfl), .nil _, .inr ⟨.bld (fun h => absurd h (by decide)) (fun i hi => absurd hi (Nat.not_lt_zero i)), rfl⟩⟩

theorem concat_det (a b : Nat) (g1 g2 g : Nat → Nat → SV) (h : a + b ≤ 40000) (h0 : 0 < a + b) (e0 : g 0 0 = .sl a 2 g1) (e1 : g 1 0 = .sl b 2 g2) :
    Det Tryz.prog 177 [.one (.sl 2 1 g)] (.d (.one (.sl (a + b) 2 fun i j => bif Nat.blt i a then g1 i j else g2 (i - a) j))) := by
  refine Det.le (args' := [.one (.sl 2 1 fun i _ => match i with | 0 => .sl a 2 g1 | _ => .sl b 2 g2)]) (.cons (DLe.one (SLe.sl (fun i hi j hj => SLe.of_eq ?_))) .nil) ?_
  · obtain rfl : j = 0 := by omega
    match i, hi with
    | 0, _ => exact e0
    | 1, _ => exact e1
  refine det_of_awp TTok mixed Tryz.func177 rfl rfl [216 + 2000000] (Nat.le_of_ble_eq_true rfl) ?_
  refine Loop.unroll 3 ?_
  refine Split.t ?_
  refine Need.mk (by decide) ?_
  have w1 : IntKind.i64.wrap (0 + (a : Int)) = a := by rw [hw _ (by omega) (by omega)]; omega
  have w2 : IntKind.i64.wrap (IntKind.i64.wrap (0 + (a : Int)) + (b : Int)) = ((a + b : Nat) : Int) := by rw [w1, hw _ (by omega) (by omega)]; omega
  refine Split.isF (decide_eq_false (by rw [w1]; omega)) ?_
  refine Split.t ?_
  refine Need.mk (by decide) ?_
  refine Split.isF (decide_eq_false (by rw [w2]; omega)) ?_
  refine Split.f ?_
  refine CallM.mk' [] (grow_detM (a + b) h h0) ⟨.nil, .cons (.d (DLe.refl _)) (.cons (.d (DLe.of_eq (by rw [w2]))) .nil), rfl, rfl, fun _ => rfl⟩ ?_
  refine Loop.unroll 3 ?_
  refine Split.t ?_
  refine Need.mk (by decide) ?_
  refine Need.mk (needApp (by omega) (by decide)) ?_
  refine Split.t ?_
  refine Need.mk (by decide) ?_
  refine Need.mk (needApp (by omega) (by decide)) ?_
  refine Split.f ?_
  refine Fin.one ?_
  refine SLe.slN (by omega) (fun i hi j hj => SLe.of_eq ?_)
  simp only [Nat.zero_add, Nat.sub_zero]
  by_cases hc : i < a
  · rw [blt_t hc, cond_true, cond_true, blt_f (Nat.not_lt_zero i), cond_false]
  · rw [blt_f hc, cond_false, cond_false]
theorem canon_det (l : List V2) (hl : l.length ≤ 40000) : Det Tryz.prog 198 [.one (vlS l)] (.d (.one (vlS (canonR l)))) := by
  refine det_of_awp TTok mixed Tryz.func198 rfl rfl [] (Nat.le_of_ble_eq_true rfl) ?_
  refine CallW.bool (valid_det' l hl) (fun b hb => ?_)
  refine Split.mk (fun h => ?_) (fun h => ?_)
  · refine Fin.one ?_
    rw [canonR, ← hb, if_neg (by simpa using h)]
    exact SLe.nil _ _
  have hv : validR l = true := by rw [← hb]; simpa using h
  have h0 : 0 < l.length := by
    simp only [validR, headB, Bool.and_eq_true, decide_eq_true_eq] at hv
    omega
  have hm : minIx l < l.length := lk_lt l _ h0
  refine CallW.v (minf_det l hl h0) (fun v hv => ?_)
  subst hv
  refine CallW.int (index_det l hl h0) (fun n hn => ?_)
  subst hn
  refine Need.mk (by omega) ?_
  refine Need.mk (by omega) ?_
  refine CallW.mk' (concat_det (l.length - minIx l) (minIx l - 0) _ _ _ (by omega) (by omega) rfl rfl) ?_
  refine Need.mk (by kernel_rfl) ?_
  refine Fin.one ?_
  rw [canonR, if_pos hv]
  refine SLe.slN (by simp only [beginL, rotL_len]; omega) (fun i hi j hj => SLe.of_eq ?_)
  have hil : i < l.length := by omega
  by_cases hc : i < l.length - minIx l
  · rw [blt_t hc, cond_true]
    refine vG_eq ?_ j
    rw [beginL, rotL_at _ _ _ (by omega) hil, if_pos hc]
    rfl
  · rw [blt_f hc, cond_false]
    refine vG_eq ?_ j
    rw [beginL, rotL_at _ _ _ (by omega) hil, if_neg hc, Nat.zero_add]
end Sg
end Go.Vm
namespace Go.Vm
set_option maxRecDepth 20000
set_option linter.unusedVariables false
set_option linter.unusedSimpArgs false
open Go Go.RowKit Go.Proofs
namespace Sg

def extraB (l : List V2) (i : Nat) : Bool := decide (gt l i = nxt l i) || decide (turnW (lst l i) (gt l i) (nxt l i) = 0)
def ex (l : List V2) : Option Nat := (List.range l.length).find? (extraB l)
def exI (l : List V2) : Int := match ex l with | none => -1 | some i => (i : Int)
/-! ### Clean -/
def clF : Nat → List V2 → List V2
  | 0, l => l
  | f + 1, l => match ex l with
    | none => l
    | some i => clF f (l.eraseIdx i)
def cleanL (l : List V2) : List V2 := clF l.length l
def upR (l : List V2) : List V2 := if areaW l < 0 then l.reverse else l
def cleanR (l : List V2) : List V2 × Int := if 200 < l.length then ([], 9) else if nearR l = false then ([], 2) else if validR (upR (cleanL l)) = false then ([], 11) else (beginL (upR (cleanL l)), 0)
end Sg
end Go.Vm
namespace Go.Vm
set_option maxRecDepth 20000
set_option linter.unusedVariables false
set_option linter.unusedSimpArgs false
namespace Sg
open Go Go.RowKit Go.Proofs

theorem asc_unique : ∀ {l m : List V2}, Asc l → Asc m → (∀ e, e ∈ l ↔ e ∈ m) → l = m
  | [], [], _, _, _ => rfl
  | [], y :: m, _, _, h => absurd ((h y).2 (by simp)) (by simp)
  | x :: l, [], _, _, h => absurd ((h x).1 (by simp)) (by simp)
  | x :: l, y :: m, hl, hm, h => by
    have exy : x = y := by
      have h1 := (h x).1 (by simp)
      have h2 := (h y).2 (by simp)
      rcases List.mem_cons.1 h1 with h1 | h1
      · exact h1
      · rcases List.mem_cons.1 h2 with h2 | h2
        · exact h2.symm
        · have a := hm.1 x h1
          have b := hl.1 y h2
          rw [less_asymm a] at b
          cases b
    subst exy
    congr 1
    refine asc_unique hl.2 hm.2 fun e => ?_
    constructor
    · intro he
      rcases List.mem_cons.1 ((h e).1 (List.mem_cons_of_mem _ he)) with k | k
      · subst k
        have := hl.1 e he
        rw [less_irr] at this
        cases this
      · exact k
    · intro he
      rcases List.mem_cons.1 ((h e).2 (List.mem_cons_of_mem _ he)) with k | k
      · subst k
        have := hm.1 e he
        rw [less_irr] at this
        cases this
      · exact k
theorem sort_congr {l m : List V2} (h : ∀ e, e ∈ l ↔ e ∈ m) : sortV l = sortV m := by
  obtain ⟨a1, a2⟩ := sort_facts l
  obtain ⟨b1, b2⟩ := sort_facts m
  exact asc_unique a1 b1 fun e => (a2 e).trans ((h e).trans (b2 e).symm)

def turnS (s : Seg) : Seg := ⟨s.b, s.a⟩
abbrev Xn (s t : Seg) : Int := s.a.x * dirC s t + (subP s.b s.a).x * crossP (subP t.a s.a) (subP t.b t.a)
abbrev Yn (s t : Seg) : Int := s.a.y * dirC s t + (subP s.b s.a).y * crossP (subP t.a s.a) (subP t.b t.a)
structure Same (s t s' t' : Seg) : Prop where
  v : (validS s = false ∨ validS t = false) ↔ (validS s' = false ∨ validS t' = false)
  m : ∀ e, e ∈ (endsL s' t').filter (bothB s' t') ↔ e ∈ (endsL s t).filter (bothB s t)
  c : validS s = true → validS t = true → (crossB s' t' = true ↔ crossB s t = true)
  d : dirC s' t' = -dirC s t
  x : Xn s' t' = -Xn s t
  y : Yn s' t' = -Yn s t
theorem lowP_neg {x y d : Int} (h : d ≠ 0) : lowP (-x) (-y) (-d) = lowP x y d := by
  unfold lowP
  by_cases hd : d < 0
  · rw [if_neg (by omega), if_pos hd]
  · rw [if_pos (by omega), if_neg hd, Int.neg_neg, Int.neg_neg, Int.neg_neg]
theorem Same.agree {s t s' t' : Seg} (h : Same s t s' t') : rmeetI s' t' = rmeetI s t ∧ ratP s' t' = ratP s t ∧ rshareS s' t' = rshareS s t := by
  have hc : commonL s' t' = commonL s t := sort_congr h.m
  have hk : rmeetI s' t' = rmeetI s t := by
    by_cases hv : validS s = false ∨ validS t = false
    · rw [rmeetI, rmeetI, if_pos hv, if_pos (h.v.1 hv)]
    · rw [rmeetI, rmeetI, if_neg hv, if_neg (fun k => hv (h.v.2 k)), hc]
      have hs : validS s = true := by
        cases q : validS s with
        | true => rfl
        | false => exact absurd (.inl q) hv
      have ht : validS t = true := by
        cases q : validS t with
        | true => rfl
        | false => exact absurd (.inr q) hv
      have := h.c hs ht
      split
      · rfl
      · split
        · rfl
        · by_cases hb : crossB s t = true
          · rw [if_pos hb, if_pos (this.2 hb)]
          · rw [if_neg hb, if_neg (fun k => hb (this.1 k))]
  refine ⟨hk, ?_, ?_⟩
  · rw [ratP, ratP, hk, hc]
    split
    · rfl
    · split
      · rename_i h2
        obtain ⟨hs, ht, hb⟩ := rmeet_two h2
        have hd := cross_dir hs ht hb
        have e1 := h.x
        have e2 := h.y
        have e3 := h.d
        simp only [Xn, Yn] at e1 e2
        rw [e1, e2, e3, lowP_neg hd]
      · rfl
  · rw [rshareS, rshareS, hk, hc]
theorem same_swap (s t : Seg) : Same s t t s := by
  refine ⟨⟨fun h => h.symm, fun h => h.symm⟩, fun e => ?_, fun hs ht => ?_, ?_, ?_, ?_⟩
  · rw [mem_common, mem_common]
    constructor
    · rintro ⟨h1, h2, h3⟩
      refine ⟨?_, h3, h2⟩
      rcases h1 with h | h | h | h <;> simp [h]
    · rintro ⟨h1, h2, h3⟩
      refine ⟨?_, h3, h2⟩
      rcases h1 with h | h | h | h <;> simp [h]
  · simp only [crossB, Bool.and_eq_true]
    exact ⟨fun h => ⟨h.2, h.1⟩, fun h => ⟨h.2, h.1⟩⟩
  · simp only [dirC, crossP]; grind
  · simp only [Xn, dirC, crossP, subP]; grind
  · simp only [Yn, dirC, crossP, subP]; grind
/-! ### moved segments -/
def addP (a v : V2) : V2 := ⟨a.x + v.x, a.y + v.y⟩
def movS (s : Seg) (v : V2) : Seg := ⟨addP s.a v, addP s.b v⟩
abbrev shiftP (p : P3) (v : V2) : P3 := ⟨p.x + v.x * p.d, p.y + v.y * p.d, p.d⟩
end Sg
end Go.Vm
namespace Go.Vm
set_option maxRecDepth 20000
set_option linter.unusedVariables false
set_option linter.unusedSimpArgs false
open Go Go.RowKit Go.Proofs
namespace Sg

abbrev sq4 : List V2 := [⟨0, 0⟩, ⟨4, 0⟩, ⟨4, 4⟩, ⟨0, 4⟩]
abbrev pts5 : List V2 := [⟨4, 4⟩, ⟨4, 0⟩, ⟨2, 0⟩, ⟨0, 0⟩, ⟨0, 4⟩]
end Sg
end Go.Vm
namespace Go.Vm
set_option maxRecDepth 20000
set_option linter.unusedVariables false
set_option linter.unusedSimpArgs false
open Go Go.RowKit Go.Proofs
namespace Sg

/-! ### sums and parities over the edges -/
def sumN : Nat → (Nat → Int) → Int
  | 0, _ => 0
  | n + 1, f => sumN n f + f n
def parN : Nat → (Nat → Bool) → Bool
  | 0, _ => false
  | n + 1, f => xor (parN n f) (f n)
/-! ### what a valid ring is -/
def areaZ (l : List V2) : Int := sumN l.length fun i => crossP (gt l i) (nxt l i)
theorem areaK_eq {l : List V2} (hn : nearR l = true) : ∀ k, k ≤ 40000 → areaK l k = sumN k (fun i => crossP (gt l i) (nxt l i)) ∧ -(8000000 * (k : Int)) ≤ areaK l k ∧ areaK l k ≤ 8000000 * k
  | 0, _ => by simp [areaK, sumN]
  | k + 1, hk => by
    obtain ⟨h1, h2, h3⟩ := areaK_eq hn k (by omega)
    obtain ⟨e, b1, b2⟩ := crossW_eq (m := 2000) (by decide) (by decide) (near_in hn k) (near_in hn ((k + 1) % l.length))
    have e' : crossW (gt l k) (nxt l k) = crossP (gt l k) (nxt l k) := e
    replace b1 : -8000000 ≤ crossP (gt l k) (nxt l k) := b1
    replace b2 : crossP (gt l k) (nxt l k) ≤ 8000000 := b2
    simp only [areaK, sumN]
    rw [e', wid' (by omega) (by omega), h1]
    rw [h1] at h2 h3
    exact ⟨rfl, by omega, by omega⟩
theorem area_eq {l : List V2} (hn : nearR l = true) (hl : l.length ≤ 40000) : areaW l = areaZ l := (areaK_eq hn l.length hl).1
def apartP (l : List V2) : Prop := ∀ i, i < l.length → ∀ k, k < l.length → i ≠ k → k ≠ (i + 1) % l.length → i ≠ (k + 1) % l.length → rmeetI (edge l i) (edge l k) = 0
structure RingOk (l : List V2) : Prop where
  three : 3 ≤ l.length
  forty : l.length ≤ 40
  near : nearR l = true
  area : 0 < areaZ l
  turns : ∀ i, i < l.length → turnP (lst l i) (gt l i) (nxt l i) ≠ 0
  apart : apartP l
theorem adj_cyc {n i k : Nat} (hi : i < k) (hk : k < n) : adjB n i k = true ↔ (k = (i + 1) % n ∨ i = (k + 1) % n) := by
  simp only [adjB, Bool.or_eq_true, Bool.and_eq_true, decide_eq_true_eq]
  rw [Nat.mod_eq_of_lt (show i + 1 < n by omega)]
  constructor
  · rintro (h | ⟨h1, h2⟩)
    · exact .inl h
    · right; rw [h2, show n - 1 + 1 = n by omega, Nat.mod_self]; exact h1
  · rintro (h | h)
    · exact .inl h
    · by_cases h2 : k + 1 = n
      · rw [h2, Nat.mod_self] at h; exact .inr ⟨h, by omega⟩
      · rw [Nat.mod_eq_of_lt (by omega)] at h; omega
theorem swap_meet (s t : Seg) : rmeetI t s = rmeetI s t := (same_swap s t).agree.1
theorem ring_ok {l : List V2} : validR l = true ↔ RingOk l := by
  constructor
  · intro h
    simp only [validR, headB, Bool.and_eq_true, decide_eq_true_eq] at h
    obtain ⟨⟨⟨⟨⟨h3, h40⟩, hn⟩, h0⟩, hs⟩, ha⟩ := h
    refine ⟨h3, h40, hn, by rw [← area_eq hn (by omega)]; exact h0, fun i hi => ?_, fun i hi k hk h1 h2 h3 => ?_⟩
    · have := of_decide_eq_true (allB_iff.1 hs i hi)
      rwa [lst, nxt, turn_eq hn] at this
    · have hap : ∀ i k, i < k → k < l.length → adjB l.length i k = false → rmeetI (edge l i) (edge l k) = 0 := by
        intro i k hik hk had
        have := allB_iff.1 (allB_iff.1 ha i (by omega)) k hk
        simp only [had, Bool.or_eq_true, decide_eq_true_eq, Bool.false_eq_true, or_false] at this
        rw [← (meet_agree _ _).1]
        exact this.resolve_left (by omega)
      rcases Nat.lt_or_ge i k with hik | hik
      · refine hap i k hik hk ?_
        cases hq : adjB l.length i k with
        | false => rfl
        | true => rcases (adj_cyc hik hk).1 hq with h | h; exact absurd h h2; exact absurd h h3
      · have hik : k < i := by omega
        rw [swap_meet]
        refine hap k i hik hi ?_
        cases hq : adjB l.length k i with
        | false => rfl
        | true => rcases (adj_cyc hik hi).1 hq with h | h; exact absurd h h3; exact absurd h h2
  · rintro ⟨h3, h40, hn, h0, hs, ha⟩
    simp only [validR, headB, Bool.and_eq_true, decide_eq_true_eq]
    refine ⟨⟨⟨⟨⟨h3, h40⟩, hn⟩, by rw [area_eq hn (by omega)]; exact h0⟩, allB_iff.2 (fun i hi => ?_)⟩, allB_iff.2 (fun i hi => allB_iff.2 (fun k hk => ?_))⟩
    · have := hs i hi
      refine decide_eq_true ?_
      rwa [lst, nxt, turn_eq hn]
    · by_cases hik : k ≤ i
      · simp [hik]
      · cases hq : adjB l.length i k with
        | true => simp
        | false =>
          have hne : ¬ (k = (i + 1) % l.length ∨ i = (k + 1) % l.length) := fun h => by rw [(adj_cyc (by omega) hk).2 h] at hq; cases hq
          have := ha i hi k hk (by omega) (fun h => hne (.inl h)) (fun h => hne (.inr h))
          rw [← (meet_agree _ _).1] at this
          simp [this]

/-! ### another beginning -/
structure Rot (l l' : List V2) (k : Nat) : Prop where
  len : l'.length = l.length
  le : k ≤ l.length
  at_ : ∀ i, i < l.length → gt l' i = gt l ((k + i) % l.length)
section
variable {l l' : List V2} {k : Nat}
end
end Sg
end Go.Vm
namespace Go.Vm
set_option maxRecDepth 20000
set_option linter.unusedVariables false
set_option linter.unusedSimpArgs false
open Go Go.RowKit Go.Proofs
namespace Sg

/-! ### outside of the box -/
/-! ### moved rings -/
structure Moved (l l' : List V2) (v : V2) : Prop where
  len : l'.length = l.length
  at_ : ∀ i, i < l.length → gt l' i = addP (gt l i) v
section
variable {l l' : List V2} {v : V2}
end
end Sg
end Go.Vm
namespace Go.Vm
set_option linter.unusedVariables false
set_option linter.unusedSimpArgs false
open Go Go.RowKit
/-- Rows whose handles lie in the cells of an object: one of them is read from now on. -/
theorem Adj.freezeCell {t : Nat → TV} {m : Id → Mem} {J : (Nat → TV) → (Id → Mem) → Prop} (o r : Id) (g n : Nat) (e : TypeId) (get : Nat → Nat → CV) (gr nr kr : Nat) (er : TypeId) (getr : Nat → Nat → SV) (get' : Nat → Nat → SV)
    (hm : m o = .bldc g n 1 e get) (hr : m r = .bld gr nr kr er getr) (hc : ∀ i, i < n → get i 0 = .s (get' i 0) ∨ (get i 0 = .hdl r gr ∧ get' i 0 = .sl nr kr getr))
    (h : Adj t (upd (upd m r .dead) o (.bld g n 1 e get')) J) : Adj t m J := by
  obtain ⟨t', m', hwk, hJ⟩ := h
  have hne : o ≠ r := fun he => by rw [he, hr] at hm; cases hm
  refine ⟨t', m', fun E ρ a w hR => ?_, hJ⟩
  have hLr : ∀ b, L E m ρ w b → L E (upd m r .dead) ρ w b := fun b hb => ⟨hb.1, fun o' c' l q => by
    by_cases e2 : o' = r
    · subst e2; rw [upd_same] at l; exact l.elim
    · rw [upd_ne _ _ _ e2] at l; exact hb.2 o' c' l q⟩
  have key : ∀ x, HdlOk m ρ x r gr → Rd (L E (upd m r .dead) ρ w) w x (.sl nr kr getr) := by
    intro x hv
    have hl := (Lend.bld (m := m) (ks := [r.key]) (o := r) (by simp) hr).rd (E := E) (ρ := ρ) (fun _ _ => rfl) hR.toOwn _ hv
    have hby : (m r).bldy = some (gr, nr, kr) := by rw [hr]; rfl
    have h3 := ((hdlOk_bldy hby).1 hv).2.2 rfl
    have hmo := hR.mem r
    rw [hr] at hmo
    rcases hmo with ⟨hρ, hn0⟩ | ⟨bl, cap, arr, hρ, hblk, hsz, hnc, hcm, hel⟩
    · simp only [HdlAt, hρ] at h3
      rw [h3, hn0]
      exact Rd.nil kr getr
    · simp only [HdlAt, hρ] at h3
      rw [h3]
      obtain ⟨q1, q2⟩ := hR.lo r bl cap (mem_live_bld hr) hρ
      refine Rd.sl (fun i j => (arr[i * kr + j]?).getD Go.undef) ⟨.inr (q1.imp (fun q => q) (fun q1 => ⟨q1, q2⟩)), fun o'' c'' l'' r'' => ?_⟩ hnc hcm (fun i hi j hj => ?_) (fun i hi j hj => ?_)
      · by_cases e2 : o'' = r
        · subst e2; rw [upd_same] at l''; exact l''.elim
        · rw [upd_ne _ _ _ e2] at l''; exact e2 (hR.inj o'' r bl c'' cap l'' (mem_live_bld hr) r'' hρ)
      · obtain ⟨y, hy, _⟩ := hel i hi j hj
        simp [World.cell?, hblk, hy]
      · obtain ⟨y, hy, hr'⟩ := hel i hi j hj
        simp only [hy, Option.getD_some]
        exact hr'.mono (fun b hb => ⟨hLr b hb, rfl⟩)
  have k1 := hR.freeze1 r (by rw [hr]; simp)
  have ho1 : upd m r .dead o = .bldc g n 1 e get := by rw [upd_ne _ _ _ hne, hm]
  have hs : Shape (upd m r .dead o) (.bld g n 1 e get') := .bldy (q := (g, n, 1)) (by rw [ho1]; rfl) rfl
  have hs' : Shape (upd m r .dead o) (upd (upd m r .dead) o (.bld g n 1 e get') o) := by rw [upd_same]; exact hs
  have hρ : upd ρ o (ρ o) = ρ := upd_self ρ o
  have hρ' : upd ρ o (ρ o) o = ρ o := upd_same _ _ _
  have hmo := hR.mem o
  rw [hm] at hmo
  have hL2 : ∀ b, L E (upd m r .dead) ρ w b → L E (upd (upd m r .dead) o (.bld g n 1 e get')) (upd ρ o (ρ o)) w b := fun b hb => ⟨hb.1, fun o' c' l q => by
    rw [hρ] at q
    by_cases e2 : o' = o
    · subst e2; exact hb.2 o' c' (by rw [ho1]; trivial) q
    · rw [upd_ne _ _ _ e2] at l; exact hb.2 o' c' l q⟩
  have k2 := k1.one o (.bld g n 1 e get') (ρ o) (Bx.refl _ _ _) (fun b hb => ⟨hL2 b hb, rfl⟩) (fun _ _ _ _ _ _ => rfl)
    (fun _ b c hq => ⟨k1.lo o b c (by rw [ho1]; trivial) hq, fun o' c' ho' l q => ho' (k1.inj o' o b c' c l (by rw [ho1]; trivial) q hq)⟩)
    hs.ne (fun o' hq => hq.elim) (fun he => by rw [ho1] at he; cases he) (fun hg => by rw [← hs.gen]; exact hg) ?_ (fun _ => hs'.carry hρ') (fun x g i off _ => hs'.ep hρ' x g i off) (fun x g lo n _ => hs'.sub hρ' x g lo n)
  · rw [hρ] at k2
    exact hwk E ρ a w k2
  · rw [hρ] at hL2 ⊢
    rcases hmo with hq | ⟨b, cap, arr, h1, h2, h3, h4, h5, h6⟩
    · exact .inl hq
    · refine .inr ⟨b, cap, arr, h1, h2, h3, h4, h5, fun i hi j hj => ?_⟩
      obtain rfl : j = 0 := by omega
      obtain ⟨x, hx, hv⟩ := h6 i hi 0 hj
      refine ⟨x, hx, ?_⟩
      rcases hc i hi with q | ⟨q1, q2⟩
      · rw [q] at hv
        exact Rd.mono (fun b hb => ⟨hL2 b (hLr b hb), rfl⟩) hv
      · rw [q1] at hv
        rw [q2]
        exact Rd.mono (fun b hb => ⟨hL2 b hb, rfl⟩) (key x hv)
/-- An object all of whose cells are data again. -/
theorem Adj.uncell {t : Nat → TV} {m : Id → Mem} {J : (Nat → TV) → (Id → Mem) → Prop} (o : Id) (g n : Nat) (e : TypeId) (get : Nat → Nat → CV) (get' : Nat → Nat → SV)
    (hm : m o = .bldc g n 1 e get) (hc : ∀ i, i < n → get i 0 = .s (get' i 0)) (h : Adj t (upd m o (.bld g n 1 e get')) J) : Adj t m J := by
  obtain ⟨t', m', hwk, hJ⟩ := h
  refine ⟨t', m', fun E ρ a w hR => ?_, hJ⟩
  have hs : Shape (m o) (.bld g n 1 e get') := .bldy (q := (g, n, 1)) (by rw [hm]; rfl) rfl
  have hs' : Shape (m o) (upd m o (.bld g n 1 e get') o) := by rw [upd_same]; exact hs
  have hρ : upd ρ o (ρ o) = ρ := upd_self ρ o
  have hρ' : upd ρ o (ρ o) o = ρ o := upd_same _ _ _
  have hmo := hR.mem o
  rw [hm] at hmo
  have hL2 : ∀ b, L E m ρ w b → L E (upd m o (.bld g n 1 e get')) (upd ρ o (ρ o)) w b := fun b hb => ⟨hb.1, fun o' c' l q => by
    rw [hρ] at q
    by_cases e2 : o' = o
    · subst e2; exact hb.2 o' c' (by rw [hm]; trivial) q
    · rw [upd_ne _ _ _ e2] at l; exact hb.2 o' c' l q⟩
  have k2 := hR.one o (.bld g n 1 e get') (ρ o) (Bx.refl _ _ _) (fun b hb => ⟨hL2 b hb, rfl⟩) (fun _ _ _ _ _ _ => rfl)
    (fun _ b c hq => ⟨hR.lo o b c (by rw [hm]; trivial) hq, fun o' c' ho' l q => ho' (hR.inj o' o b c' c l (by rw [hm]; trivial) q hq)⟩)
    hs.ne (fun o' hq => hq.elim) (fun he => by rw [hm] at he; cases he) (fun hg => by rw [← hs.gen]; exact hg) ?_ (fun _ => hs'.carry hρ') (fun x g i off _ => hs'.ep hρ' x g i off) (fun x g lo n _ => hs'.sub hρ' x g lo n)
  · rw [hρ] at k2
    exact hwk E ρ a w k2
  · rw [hρ] at hL2 ⊢
    rcases hmo with hq | ⟨b, cap, arr, h1, h2, h3, h4, h5, h6⟩
    · exact .inl hq
    · refine .inr ⟨b, cap, arr, h1, h2, h3, h4, h5, fun i hi j hj => ?_⟩
      obtain rfl : j = 0 := by omega
      obtain ⟨x, hx, hv⟩ := h6 i hi 0 hj
      refine ⟨x, hx, ?_⟩
      rw [hc i hi] at hv
      exact Rd.mono (fun b hb => ⟨hL2 b hb, rfl⟩) hv
end Go.Vm
namespace Go.Vm
set_option linter.unusedVariables false
set_option linter.unusedSimpArgs false
open Go Go.RowKit
theorem Rel.recell {E : Env} {ρ : Id → Option (Nat × Nat)} {t : Nat → TV} {m : Id → Mem} {a : Act} {w : World} (h : Rel E ρ t m a w) (o : Id) (cs' : List CV) (hbx : (m o).boxy = true) (hl : (m o).live)
    (href : ∀ o', (∃ c ∈ cs', c.refs o') → m o' ≠ .none) (hmem : MemOk E m ρ w o (.obj cs')) : Rel E ρ t (upd m o (.obj cs')) a w := by
  have hs : Shape (m o) (.obj cs') := .boxy hbx rfl
  have hs' : Shape (m o) (upd m o (.obj cs') o) := by rw [upd_same]; exact hs
  have hρ : upd ρ o (ρ o) = ρ := upd_self ρ o
  have hρ' : upd ρ o (ρ o) o = ρ o := upd_same _ _ _
  have hL : ∀ b, L E m ρ w b → L E (upd m o (.obj cs')) (upd ρ o (ρ o)) w b ∧ w.heap[b]? = w.heap[b]? := fun b hb => ⟨⟨hb.1, fun o' c' l q => by
    rw [hρ] at q
    by_cases e2 : o' = o
    · subst e2; exact hb.2 o' c' hl q
    · rw [upd_ne _ _ _ e2] at l; exact hb.2 o' c' l q⟩, rfl⟩
  have hne : m o ≠ .none := fun e => by rw [e] at hl; exact hl
  have := h.one o (.obj cs') (ρ o) (Bx.refl _ _ _) hL (fun _ _ _ _ _ _ => rfl)
    (fun _ b c hq => ⟨h.lo o b c hl hq, fun o' c' ho' l q => ho' (h.inj o' o b c' c l hl q hq)⟩)
    hs.ne (fun o' hq => .inr (href o' hq)) (fun he => absurd he hne) (fun hg => by rw [← hs.gen]; exact hg) (by
      obtain ⟨b, c, xs, e, h1, h2, h3⟩ := hmem
      refine ⟨b, c, xs, e, by rw [hρ]; exact h1, h2, h3.mono hL (fun o' _ => ?_)⟩
      by_cases e2 : o' = o
      · subst e2; exact hs'.carry hρ'
      · exact Carry.same (upd_ne _ _ _ e2) (by rw [hρ])) (fun _ => hs'.carry hρ') (fun x g i off _ => hs'.ep hρ' x g i off) (fun x g lo n _ => hs'.sub hρ' x g lo n)
  rwa [hρ] at this
/-- A cell that holds no slice: an own slice without elements. -/
theorem Adj.nilCell {t : Nat → TV} {m : Id → Mem} {J : (Nat → TV) → (Id → Mem) → Prop} (o : Id) (i q k : Nat) (e : TypeId) (get : Nat → Nat → SV) (cs : List SV) (cs' : List CV) (hm : m o = .box cs) (hi : cs[i]? = some (.v (.slice none 0 0))) (hcs : cs' = (cs.map CV.s).set i (.hdl (.n q) 0)) (hq : m (.n q) = .none)
    (h : Adj t (upd (upd m (.n q) (.bld 0 0 k e get)) o (.obj cs')) J) (ho : q < 2000 := by decide) : Adj t m J := by
  obtain ⟨t', m', hwk, hJ⟩ := h
  have hne : o ≠ .n q := fun he => by rw [he, hq] at hm; cases hm
  refine ⟨t', m', fun E ρ a w hR => ?_, hJ⟩
  obtain ⟨k1, k2⟩ := hR.nilBld (.n q) 0 k e get ⟨by omega, .inl ⟨hq, E.hm1 q ho⟩⟩
  have hm1 : upd m (.n q) (.bld 0 0 k e get) o = .box cs := by rw [upd_ne _ _ _ hne, hm]
  refine hwk E _ a w (k1.recell o cs' (by rw [hm1]; rfl) (by rw [hm1]; trivial) ?_ ?_)
  · rintro o' ⟨c, hc, hr⟩
    subst hcs
    rcases List.mem_or_eq_of_mem_set hc with hc | rfl
    · obtain ⟨x, _, rfl⟩ := List.mem_map.1 hc; exact hr.elim
    · cases hr; rw [upd_same]; simp
  · have hmo := k1.mem o
    rw [hm1] at hmo
    obtain ⟨b, c, xs, e', h1, h2, h3⟩ := hmo
    refine ⟨b, c, xs, e', h1, h2, ?_⟩
    subst hcs
    generalize upd m (.n q) (.bld 0 0 k e get) = m1 at *
    generalize upd ρ (.n q) none = ρ1 at *
    clear h1 h2
    have key : ∀ (cs : List SV) (xs : List Value) (i : Nat), RdL (L E m1 ρ1 w) w xs cs → cs[i]? = some (.v (.slice none 0 0)) → CVL (L E m1 ρ1 w) m1 ρ1 w xs ((cs.map CV.s).set i (.hdl (.n q) 0)) := by
      intro cs
      induction cs with
      | nil => intro xs i _ hi; simp at hi
      | cons c cs ih =>
        intro xs i hx hi
        cases hx with
        | @cons x _ xs _ a b =>
          cases i with
          | zero =>
            simp only [List.getElem?_cons_zero, Option.some.injEq] at hi
            subst hi
            have hx0 := (Rd.inv_v a).1
            subst hx0
            have rest : ∀ (cs : List SV) (xs : List Value), RdL (L E m1 ρ1 w) w xs cs → CVL (L E m1 ρ1 w) m1 ρ1 w xs (cs.map CV.s) := by
              intro cs
              induction cs with
              | nil => intro xs h; cases h; exact .nil
              | cons c cs ih => intro xs h; cases h with | cons a b => exact .cons a (ih _ b)
            exact .cons k2 (rest _ _ b)
          | succ i => exact .cons a (ih xs i b (by simpa using hi))
    exact key cs xs i h3 hi
/-- Cells beside what they are when the row r is shut. -/
inductive Frz (r : Id) (g : Nat) (c0 : SV) : List CV → List CV → Prop where
  | nil : Frz r g c0 [] []
  | same {c : CV} {l l' : List CV} (h : Frz r g c0 l l') : Frz r g c0 (c :: l) (c :: l')
  | shut {l l' : List CV} (h : Frz r g c0 l l') : Frz r g c0 (.hdl r g :: l) (.s c0 :: l')
theorem Frz.mem {r : Id} {g : Nat} {c0 : SV} {l l' : List CV} (h : Frz r g c0 l l') : ∀ c ∈ l', c ∈ l ∨ c = .s c0 := by
  induction h with
  | nil => simp
  | same _ ih =>
    intro c hc
    rcases List.mem_cons.1 hc with rfl | hc
    · exact .inl (by simp)
    · exact (ih c hc).imp (fun h => by simp [h]) id
  | shut _ ih =>
    intro c hc
    rcases List.mem_cons.1 hc with rfl | hc
    · exact .inr rfl
    · exact (ih c hc).imp (fun h => by simp [h]) id
theorem Frz.rd {r : Id} {g : Nat} {c0 : SV} {S S' : Nat → Prop} {m m' : Id → Mem} {ρ : Id → Option (Nat × Nat)} {w : World} (key : ∀ x, HdlOk m ρ x r g → Rd S' w x c0) {l l' : List CV} (h : Frz r g c0 l l') : ∀ {xs : List Value}, CVL S m ρ w xs l → CVL S' m' ρ w xs l → CVL S' m' ρ w xs l' := by
  induction h with
  | nil => intro xs _ h; exact h
  | same _ ih => intro xs h1 h2; cases h1 with | cons a b => cases h2 with | cons c d => exact .cons c (ih b d)
  | shut _ ih => intro xs h1 h2; cases h1 with | cons a b => cases h2 with | cons c d => exact .cons (key _ a) (ih b d)
/-- A row whose handle lies in an object's cell is read from now on. -/
theorem Adj.freezeObj {t : Nat → TV} {m : Id → Mem} {J : (Nat → TV) → (Id → Mem) → Prop} (o r : Id) (cs cs' : List CV) (gr nr kr : Nat) (er : TypeId) (getr : Nat → Nat → SV)
    (hm : m o = .obj cs) (hr : m r = .bld gr nr kr er getr) (hc : Frz r gr (.sl nr kr getr) cs cs')
    (h : Adj t (upd (upd m r .dead) o (.obj cs')) J) : Adj t m J := by
  obtain ⟨t', m', hwk, hJ⟩ := h
  have hne : o ≠ r := fun he => by rw [he, hr] at hm; cases hm
  refine ⟨t', m', fun E ρ a w hR => ?_, hJ⟩
  have hLr : ∀ b, L E m ρ w b → L E (upd m r .dead) ρ w b := fun b hb => ⟨hb.1, fun o' c' l q => by
    by_cases e2 : o' = r
    · subst e2; rw [upd_same] at l; exact l.elim
    · rw [upd_ne _ _ _ e2] at l; exact hb.2 o' c' l q⟩
  have key : ∀ x, HdlOk m ρ x r gr → Rd (L E (upd m r .dead) ρ w) w x (.sl nr kr getr) := by
    intro x hv
    have hby : (m r).bldy = some (gr, nr, kr) := by rw [hr]; rfl
    have h3 := ((hdlOk_bldy hby).1 hv).2.2 rfl
    have hmo := hR.mem r
    rw [hr] at hmo
    rcases hmo with ⟨hρ, hn0⟩ | ⟨bl, cap, arr, hρ, hblk, hsz, hnc, hcm, hel⟩
    · simp only [HdlAt, hρ] at h3
      rw [h3, hn0]
      exact Rd.nil kr getr
    · simp only [HdlAt, hρ] at h3
      rw [h3]
      obtain ⟨q1, q2⟩ := hR.lo r bl cap (mem_live_bld hr) hρ
      refine Rd.sl (fun i j => (arr[i * kr + j]?).getD Go.undef) ⟨.inr (q1.imp (fun q => q) (fun q1 => ⟨q1, q2⟩)), fun o'' c'' l'' r'' => ?_⟩ hnc hcm (fun i hi j hj => ?_) (fun i hi j hj => ?_)
      · by_cases e2 : o'' = r
        · subst e2; rw [upd_same] at l''; exact l''.elim
        · rw [upd_ne _ _ _ e2] at l''; exact e2 (hR.inj o'' r bl c'' cap l'' (mem_live_bld hr) r'' hρ)
      · obtain ⟨y, hy, _⟩ := hel i hi j hj
        simp [World.cell?, hblk, hy]
      · obtain ⟨y, hy, hr'⟩ := hel i hi j hj
        simp only [hy, Option.getD_some]
        exact hr'.mono (fun b hb => ⟨hLr b hb, rfl⟩)
  have k1 := hR.freeze1 r (by rw [hr]; simp)
  have ho1 : upd m r .dead o = .obj cs := by rw [upd_ne _ _ _ hne, hm]
  refine hwk E ρ a w (k1.recell o cs' (by rw [ho1]; rfl) (by rw [ho1]; trivial) ?_ ?_)
  · rintro o' ⟨c, hc', hr'⟩
    rcases hc.mem c hc' with hc' | rfl
    · exact k1.cleanM o o' (by rw [ho1]; exact ⟨c, hc', hr'⟩)
    · exact hr'.elim
  · have h1 := hR.mem o
    have h2 := k1.mem o
    rw [hm] at h1
    rw [ho1] at h2
    obtain ⟨b, c, xs, e, a1, a2, a3⟩ := h1
    obtain ⟨b', c', xs', e', b1, b2, b3⟩ := h2
    rw [a1] at b1
    cases b1
    rw [a2] at b2
    have hxs : xs = xs' := by
      injection b2 with b2
      injection b2 with b2 _ _
      simpa using b2
    subst hxs
    exact ⟨b, c, xs, e, a1, a2, hc.rd key a3 b3⟩

/-! ### loops over iterators -/
theorem slotsOf_off {W : List Nat} : ∀ {ks : List (Nat × TV)}, ks.all (fun q => !(W.any (Nat.beq q.1))) = true → offW W (slotsOf ks)
  | [], _ => fun _ _ => rfl
  | (k, x) :: r, h => fun i hi => by
    simp only [List.all_cons, Bool.and_eq_true, Bool.not_eq_true'] at h
    have hne : i ≠ k := fun e => by rw [e, h.1] at hi; cases hi
    show upd (slotsOf r) k x i = .any
    rw [upd_ne _ _ _ hne]
    exact slotsOf_off h.2 i hi
/-- A LOOP OVER AN ITERATOR BY LISTS: what is kept when k rounds are over. -/
theorem RangeW.by {P : Program} {N : Nat} {f : Operand} {ps : Array Tmp} {sa bd : Code} {iha ihb : Post → (Nat → TV) → (Id → Mem) → Prop} {Q : Post} {t : Nat → TV} {m : Id → Mem} {g n : Nat} {cap : Nat → SV} {xs : List DV} {p : Nat}
    (ks : Nat → List (Nat × TV)) (ms : Nat → List (Id × Mem)) (inv : Nat → Prop) (hf : opd t f = .d (.one (.fn g n cap))) (hit : Iter P g (cells n cap) xs) (hps : ps = #[p]) (hp : p < N) (hrd : (roundC sa && roundC bd) = true)
    (hks : ∀ k, (ks k).all (fun q => !((p :: (wrC sa ++ wrC bd)).any (Nat.beq q.1))) = true) (h0m : KeepM m (memsOf (ms 0)) (ms 0)) (h0s : KeepS t m (memsOf (ms 0)) (ks 0)) (h0 : inv 0)
    (hround : ∀ k x, xs[k]? = some x → inv k → iha (fun e t1 m1 => match e with
      | .normal => ihb (fun e t2 m2 => match e with
        | .normal => Adj t2 m2 fun t3 m3 => t3 = slotsOf (ks (k + 1)) ∧ m3 = memsOf (ms (k + 1)) ∧ inv (k + 1)
        | .exit i => Adj t2 m2 fun t3 m3 => offW (p :: (wrC sa ++ wrC bd)) t3 ∧ Q (.exit i) t3 m3
        | .ret => Adj t2 m2 fun t3 m3 => offW (p :: (wrC sa ++ wrC bd)) t3 ∧ Q .ret t3 m3) t1 m1
      | _ => False) (upd (slotsOf (ks k)) p (.d x)) (memsOf (ms k)))
    (hend : inv xs.length → Q .normal (slotsOf (ks xs.length)) (memsOf (ms xs.length))) : RangeW P N f ps sa bd iha ihb Q t m :=
  ⟨g, n, cap, xs, p, fun k => slotsOf (ks k), fun k => memsOf (ms k), inv, hf, hit, hps, hp, hrd, fun k => slotsOf_off (hks k), wk_keep h0m h0s, h0, hround, hend⟩
theorem Adj.next {t : Nat → TV} {m : Id → Mem} {ks : List (Nat × TV)} {ms : List (Id × Mem)} {inv : Prop} (hm : KeepM m (memsOf ms) ms) (hk : KeepS t m (memsOf ms) ks) (h : inv) : Adj t m (fun t3 m3 => t3 = slotsOf ks ∧ m3 = memsOf ms ∧ inv) :=
  ⟨_, _, wk_keep hm hk, rfl, rfl, h⟩
theorem Adj.out {t : Nat → TV} {m : Id → Mem} {W : List Nat} {K : (Nat → TV) → (Id → Mem) → Prop} (ks : List (Nat × TV)) (ms : List (Id × Mem)) (hW : ks.all (fun q => !(W.any (Nat.beq q.1))) = true) (hm : KeepM m (memsOf ms) ms) (hk : KeepS t m (memsOf ms) ks) (h : K (slotsOf ks) (memsOf ms)) :
    Adj t m (fun t3 m3 => offW W t3 ∧ K t3 m3) := ⟨_, _, wk_keep hm hk, slotsOf_off hW, h⟩
end Go.Vm
namespace Go.Vm
set_option maxRecDepth 20000
set_option linter.unusedVariables false
set_option linter.unusedSimpArgs false
open Go Go.RowKit Go.Proofs
namespace Sg

abbrev shD (o : List V2) (h : List (List V2)) : DV := .agg [vlS o, hS h]
theorem SLe.fn {f n : Nat} {cap cap' : Nat → SV} (h : ∀ j, j < n → SLe (cap j) (cap' j)) : SLe (.fn f n cap) (.fn f n cap') := fun S w x r => by
  obtain ⟨xs, rfl, r2⟩ := Rd.inv_fn r
  exact .fn xs (fun j hj => h j hj _ _ _ (r2 j hj))
theorem SLe.ad {n : Nat} {cell cell' : Nat → SV} (h : ∀ j, j < n → SLe (cell j) (cell' j)) : SLe (.ad n cell) (.ad n cell') := fun S w x r => by
  obtain ⟨b, off, xs, rfl, r2, r3, r4⟩ := Rd.inv_ad r
  exact .ad xs r2 r3 (fun j hj => h j hj _ _ _ (r4 j hj))
theorem rings_det (o : List V2) (h : List (List V2)) : Det Tryz.prog 59 [shD o h] (.d (.one (.fn 110 1 fun _ => .ad 2 (shapeC o h)))) := by
  refine det_of_awp TTok mixed Tryz.func59 rfl rfl [] (Nat.le_of_ble_eq_true rfl) ?_
  refine Fin.one (SLe.fn (fun j hj => ?_))
  match j, hj with
  | 0, _ => exact SLe.ad (fun i hi => match i, hi with
    | 0, _ => SLe.refl _
    | 1, _ => SLe.refl _)
theorem one_at {x y : DV} {k : Nat} (h : [y][k]? = some x) : k = 0 ∧ x = y := by
  cases k with
  | zero => simp at h; exact ⟨rfl, h.symm⟩
  | succ k => simp at h
theorem svalid_det (o : List V2) (hl : o.length ≤ 40000) : Det Tryz.prog 25 [shD o []] (tbool (validR o)) := by
  refine det_of_awp TTok mixed Tryz.func25 rfl rfl [] (Nat.le_of_ble_eq_true rfl) ?_
  repeat' first | refine Split.t ?_ | refine Split.f ?_ | fail
  refine CallW.mk' (rings_det o []) ?_
  refine RangeW.by (fun _ => [(1, .ptr 1 0), (2, .ptr 2 0), (3, .ptr 3 0)]) (fun k => [(1, .box [vlS o, hS []]), (2, .box [.v (.bool false)]), (3, .box [i64 (o.length * k : Nat)])]) (fun k => k = 1 → validR o = true)
    rfl (rings_iter o []) rfl (by decide) (by kernel_rfl) (fun _ => rfl) (.cons (.box (LLe.refl _)) (.cons (.box (LLe.refl _)) (.cons (.box (LLe.refl _)) .nil))) (.cons (.box rfl rfl) (.cons (.box rfl rfl) (.cons (.box rfl rfl) .nil))) (fun h => by cases h) (fun k x hx _ => ?_) (fun hv => ?_)
  · obtain ⟨rfl, rfl⟩ := one_at hx
    refine CallW.bool (valid_det' o hl) (fun c hc => ?_)
    refine Split.mk (fun c1 => ?_) (fun c1 => ?_)
    · have hv : validR o = false := by rw [← hc]; simpa using c1
      repeat' first | refine Split.isT c1 ?_ | refine Split.t ?_ | refine Split.f ?_ | fail
      refine Adj.out [(2, .ptr 2 0)] [(2, .box [.v (.bool false)])] rfl (.cons (.box (LLe.refl _)) .nil) (.cons (.box rfl rfl) .nil) ?_
      exact Fin.bool hv.symm
    · have hv : validR o = true := by rw [← hc]; simpa using c1
      repeat' first | refine Split.isF c1 ?_ | refine Split.t ?_ | refine Split.f ?_ | fail
      refine Adj.next (.cons (.box (LLe.refl _)) (.cons (.box (LLe.refl _)) (.cons (.box (.cons (SLe.of_eq ?_) .nil)) .nil))) (.cons (.box rfl rfl) (.cons (.box rfl rfl) (.cons (.box rfl rfl) .nil))) (fun _ => hv)
      show i64 (IntKind.i64.wrap (((o.length * 0 : Nat) : Int) + o.length)) = i64 ((o.length * (0 + 1) : Nat) : Int)
      rw [wid (by omega) (by omega)]
      congr 3
  · replace hv := hv rfl
    have h40 := (ring_ok.1 hv).forty
    refine Split.mk (fun c1 => ?_) (fun c1 => ?_)
    · have := of_decide_eq_true c1
      simp only [List.map_nil, List.length_singleton] at this
      omega
    · refine Loop.unroll 1 ?_
      repeat' first | refine Split.t ?_ | refine Split.f ?_ | fail
      exact Fin.bool hv.symm
theorem RangeW.adj {P : Program} {N : Nat} {f : Operand} {ps : Array Tmp} {sa bd : Code} {iha ihb : Post → (Nat → TV) → (Id → Mem) → Prop} {Q : Post} {t : Nat → TV} {m : Id → Mem} {g n : Nat} {cap : Nat → SV} {xs : List DV} {p : Nat}
    (ks : Nat → List (Nat × TV)) (ms : Nat → List (Id × Mem)) (inv : Nat → Prop) (hf : opd t f = .d (.one (.fn g n cap))) (hit : Iter P g (cells n cap) xs) (hps : ps = #[p]) (hp : p < N) (hrd : (roundC sa && roundC bd) = true)
    (hks : ∀ k, (ks k).all (fun q => !((p :: (wrC sa ++ wrC bd)).any (Nat.beq q.1))) = true) (h0 : Adj t m (fun t3 m3 => t3 = slotsOf (ks 0) ∧ m3 = memsOf (ms 0) ∧ inv 0))
    (hround : ∀ k x, xs[k]? = some x → inv k → iha (fun e t1 m1 => match e with
      | .normal => ihb (fun e t2 m2 => match e with
        | .normal => Adj t2 m2 fun t3 m3 => t3 = slotsOf (ks (k + 1)) ∧ m3 = memsOf (ms (k + 1)) ∧ inv (k + 1)
        | .exit i => Adj t2 m2 fun t3 m3 => offW (p :: (wrC sa ++ wrC bd)) t3 ∧ Q (.exit i) t3 m3
        | .ret => Adj t2 m2 fun t3 m3 => offW (p :: (wrC sa ++ wrC bd)) t3 ∧ Q .ret t3 m3) t1 m1
      | _ => False) (upd (slotsOf (ks k)) p (.d x)) (memsOf (ms k)))
    (hend : inv xs.length → Q .normal (slotsOf (ks xs.length)) (memsOf (ms xs.length))) : RangeW P N f ps sa bd iha ihb Q t m := by
  obtain ⟨t', m', hwk, rfl, rfl, hi⟩ := h0
  exact ⟨g, n, cap, xs, p, fun k => slotsOf (ks k), fun k => memsOf (ms k), inv, hf, hit, hps, hp, hrd, fun k => slotsOf_off (hks k), hwk, hi, hround, hend⟩
theorem cloneR_det (l : List V2) (hl : l.length ≤ 40000) : Det Tryz.prog 93 [.one (vlS l)] (.d (.one (vlS l))) := by
  refine det_of_awp TTok mixed Tryz.func93 rfl rfl [] (Nat.le_of_ble_eq_true rfl) ?_
  refine NilW.mk ?_ (fun h0 => ?_)
  · refine Need.mk (needApp (by omega) (by decide)) ?_
    exact Fin.one (SLe.slN (Nat.zero_add _) (fun i hi j hj => SLe.of_eq (by rw [blt_f (Nat.not_lt_zero i)]; rfl)))
  · obtain rfl : l = [] := List.eq_nil_of_length_eq_zero h0
    exact Fin.one (SLe.nil _ _)
theorem srings_det (o : List V2) (hl : o.length ≤ 40000) : Det Tryz.prog 140 [shD o []] (.d (.one (hS [o]))) := by
  refine det_of_awp TTok mixed Tryz.func140 rfl rfl [] (Nat.le_of_ble_eq_true rfl) ?_
  refine CallW.mk' (rings_det o []) ?_
  refine RangeW.adj (fun _ => [(3, .ptr 3 0)]) (fun k => [(3, .obj [.hdl 500 0]), (500, .bld 0 k 1 42 fun _ _ => vlS o)]) (fun _ => True)
    rfl (rings_iter o []) rfl (by decide) (by kernel_rfl) (fun _ => rfl)
    (Adj.nilCell 3 0 500 1 42 (fun _ _ => vlS o) _ _ rfl rfl rfl rfl (Adj.next (.cons (.obj (.cons (.hdl (by intro q; cases q) rfl rfl) .nil)) (.cons (.bldN rfl (fun i hi _ _ => absurd hi (Nat.not_lt_zero _))) .nil)) (.cons (.ptr (by intro q; cases q)) .nil) trivial)) (fun k x hx _ => ?_) (fun _ => ?_)
  · obtain ⟨rfl, rfl⟩ := one_at hx
    refine CallW.mk' (cloneR_det o hl) ?_
    refine Need.mk (by decide) ?_
    refine Need.mk (by kernel_rfl) ?_
    refine Adj.next (.cons (.obj (.cons (.hdl (by intro q; cases q) rfl rfl) .nil)) (.cons (.bldN rfl (fun i hi j hj => ?_)) .nil)) (.cons (.ptr (by intro q; cases q)) .nil) trivial
    obtain rfl : i = 0 := by omega
    obtain rfl : j = 0 := by omega
    exact SLe.refl _
  · refine Fin.one (SLe.slN rfl (fun i hi j hj => ?_))
    obtain rfl : i = 0 := by have : i < 1 := hi; omega
    exact SLe.refl _
theorem sedges_det (o : List V2) (hl : o.length ≤ 40000) : Det Tryz.prog 130 [shD o []] (.d (.one (slS (edgesL o)))) := by
  refine det_of_awp TTok mixed Tryz.func130 rfl rfl [] (Nat.le_of_ble_eq_true rfl) ?_
  have hle : (edgesL o).length ≤ 40000 := by unfold edgesL; split <;> simp; omega
  refine CallW.mk' (rings_det o []) ?_
  refine RangeW.adj (fun _ => [(3, .ptr 3 0)]) (fun k => [(3, .obj [.hdl 500 0]), (500, .bld 0 (k * (edgesL o).length) 4 163 (sG (edgesL o)))]) (fun k => k ≤ 1)
    rfl (rings_iter o []) rfl (by decide) (by kernel_rfl) (fun _ => rfl)
    (Adj.nilCell 3 0 500 4 163 (sG (edgesL o)) _ _ rfl rfl rfl rfl (Adj.next (.cons (.obj (.cons (.hdl (by intro q; cases q) rfl rfl) .nil)) (.cons (.bldN (Nat.zero_mul _).symm (fun i hi _ _ => absurd hi (Nat.not_lt_zero _))) .nil)) (.cons (.ptr (by intro q; cases q)) .nil) (by omega))) (fun k x hx _ => ?_) (fun _ => ?_)
  · obtain ⟨rfl, rfl⟩ := one_at hx
    refine CallW.mk' (edges_det o hl) ?_
    refine Need.mk (needApp (by rw [Nat.zero_mul]; omega) (by decide)) ?_
    refine Need.mk (by kernel_rfl) ?_
    refine Adj.next (.cons (.obj (.cons (.hdl (by intro q; cases q) rfl rfl) .nil)) (.cons (.bldN (by omega) (fun i hi j hj => ?_)) .nil)) (.cons (.ptr (by intro q; cases q)) .nil) (by omega)
    refine SLe.of_eq ?_
    rw [Nat.zero_mul, blt_f (Nat.not_lt_zero i)]; rfl
  · exact Fin.one (SLe.slN (by simp) (fun i hi j hj => SLe.refl _))
end Sg
end Go.Vm
namespace Go.Vm
set_option maxRecDepth 20000
set_option linter.unusedVariables false
set_option linter.unusedSimpArgs false
open Go Go.RowKit Go.Proofs
namespace Sg

set_option maxRecDepth 100000 in
set_option maxHeartbeats 2000000 in
theorem len64_0 : Det Tryz.prog 160 [.one (.v (.int .u64 0))] (.d (.one (i64 0))) := by
  refine ⟨⟨_, Tryz.func160, rfl, rfl⟩, fun w S vs hS hvs => ?_⟩
  cases hvs with
  | cons h ht =>
    cases ht
    obtain ⟨rfl, _⟩ := Rd.inv_v (show Rd _ _ _ _ from h)
    refine calls_of_wp Tryz.func160 rfl ?_
    have nt : Tryz.f160.ntmps = 25 := by kernel_rfl
    simp only [nt, List.size_toArray, List.length_cons, List.length_nil, Nat.reduceAdd, Nat.reduceSub, Array.replicate_succ, Array.replicate_zero, List.push_toArray, List.append_toArray, List.nil_append, List.cons_append]
    go_wp2
    exact ⟨rfl, .int .i64 0, by kernel_rfl, _, rfl, Below.refl _ _, Rd.v rfl⟩
theorem len_0 : Det Tryz.prog 96 [.one (.v (.int .u64 0))] (.d (.one (i64 0))) := by
  refine det_of_awp TTok mixed Tryz.func96 rfl rfl [] (Nat.le_of_ble_eq_true rfl) ?_
  repeat' first | refine Split.t ?_ | refine Split.f ?_ | fail
  refine CallW.mk' len64_0 ?_
  exact Fin.rfl'
set_option maxRecDepth 100000 in
set_option maxHeartbeats 2000000 in
theorem len64_1 : Det Tryz.prog 160 [.one (.v (.int .u64 1))] (.d (.one (i64 1))) := by
  refine ⟨⟨_, Tryz.func160, rfl, rfl⟩, fun w S vs hS hvs => ?_⟩
  cases hvs with
  | cons h ht =>
    cases ht
    obtain ⟨rfl, _⟩ := Rd.inv_v (show Rd _ _ _ _ from h)
    refine calls_of_wp Tryz.func160 rfl ?_
    have nt : Tryz.f160.ntmps = 25 := by kernel_rfl
    simp only [nt, List.size_toArray, List.length_cons, List.length_nil, Nat.reduceAdd, Nat.reduceSub, Array.replicate_succ, Array.replicate_zero, List.push_toArray, List.append_toArray, List.nil_append, List.cons_append]
    go_wp2
    exact ⟨rfl, .int .i64 1, by kernel_rfl, _, rfl, Below.refl _ _, Rd.v rfl⟩
theorem len_1 : Det Tryz.prog 96 [.one (.v (.int .u64 1))] (.d (.one (i64 1))) := by
  refine det_of_awp TTok mixed Tryz.func96 rfl rfl [] (Nat.le_of_ble_eq_true rfl) ?_
  repeat' first | refine Split.t ?_ | refine Split.f ?_ | fail
  refine CallW.mk' len64_1 ?_
  exact Fin.rfl'
set_option maxRecDepth 100000 in
set_option maxHeartbeats 2000000 in
theorem len64_2 : Det Tryz.prog 160 [.one (.v (.int .u64 2))] (.d (.one (i64 2))) := by
  refine ⟨⟨_, Tryz.func160, rfl, rfl⟩, fun w S vs hS hvs => ?_⟩
  cases hvs with
  | cons h ht =>
    cases ht
    obtain ⟨rfl, _⟩ := Rd.inv_v (show Rd _ _ _ _ from h)
    refine calls_of_wp Tryz.func160 rfl ?_
    have nt : Tryz.f160.ntmps = 25 := by kernel_rfl
    simp only [nt, List.size_toArray, List.length_cons, List.length_nil, Nat.reduceAdd, Nat.reduceSub, Array.replicate_succ, Array.replicate_zero, List.push_toArray, List.append_toArray, List.nil_append, List.cons_append]
    go_wp2
    exact ⟨rfl, .int .i64 2, by kernel_rfl, _, rfl, Below.refl _ _, Rd.v rfl⟩
theorem len_2 : Det Tryz.prog 96 [.one (.v (.int .u64 2))] (.d (.one (i64 2))) := by
  refine det_of_awp TTok mixed Tryz.func96 rfl rfl [] (Nat.le_of_ble_eq_true rfl) ?_
  repeat' first | refine Split.t ?_ | refine Split.f ?_ | fail
  refine CallW.mk' len64_2 ?_
  exact Fin.rfl'
set_option maxRecDepth 100000 in
set_option maxHeartbeats 2000000 in
theorem len64_3 : Det Tryz.prog 160 [.one (.v (.int .u64 3))] (.d (.one (i64 2))) := by
  refine ⟨⟨_, Tryz.func160, rfl, rfl⟩, fun w S vs hS hvs => ?_⟩
  cases hvs with
  | cons h ht =>
    cases ht
    obtain ⟨rfl, _⟩ := Rd.inv_v (show Rd _ _ _ _ from h)
    refine calls_of_wp Tryz.func160 rfl ?_
    have nt : Tryz.f160.ntmps = 25 := by kernel_rfl
    simp only [nt, List.size_toArray, List.length_cons, List.length_nil, Nat.reduceAdd, Nat.reduceSub, Array.replicate_succ, Array.replicate_zero, List.push_toArray, List.append_toArray, List.nil_append, List.cons_append]
    go_wp2
    exact ⟨rfl, .int .i64 2, by kernel_rfl, _, rfl, Below.refl _ _, Rd.v rfl⟩
theorem len_3 : Det Tryz.prog 96 [.one (.v (.int .u64 3))] (.d (.one (i64 2))) := by
  refine det_of_awp TTok mixed Tryz.func96 rfl rfl [] (Nat.le_of_ble_eq_true rfl) ?_
  repeat' first | refine Split.t ?_ | refine Split.f ?_ | fail
  refine CallW.mk' len64_3 ?_
  exact Fin.rfl'
end Sg
end Go.Vm
namespace Go.Vm
set_option maxRecDepth 20000
set_option linter.unusedVariables false
set_option linter.unusedSimpArgs false
open Go Go.RowKit Go.Proofs
namespace Sg

theorem swhereP_det (o : List V2) (p : P3) (hl : o.length ≤ 40000) (hv : validR o = true) : Det Tryz.prog 195 [shD o [], pD p] (tint (whereR o p)) := by
  refine det_of_awp TTok mixed Tryz.func195 rfl rfl [] (Nat.le_of_ble_eq_true rfl) ?_
  refine CallW.mk' ((svalid_det o hl).eq (by rw [hv])) ?_
  refine Split.f ?_
  refine CallW.int (where_det o p hl) (fun t ht => ?_)
  refine Split.mk (fun c1 => ?_) (fun c1 => ?_)
  · exact Fin.int ht
  · refine Loop.unroll 1 ?_
    repeat' first | refine Split.t ?_ | refine Split.f ?_ | fail
    exact Fin.int ht
theorem ins0_det (f n : Nat) (cap : Nat → SV) : Det Tryz.prog 151 [.one (.v nilS), .one (i64 0), .one (i64 0), .one (.fn f n cap)] (.tup []) := by
  refine det_of_awp TTok mixed Tryz.func151 rfl rfl [] (Nat.le_of_ble_eq_true rfl) ?_
  refine Loop.unroll 1 ?_
  repeat' first | refine Split.t ?_ | refine Split.f ?_ | fail
  exact Fin.rfl'
theorem pdq0_det (f q : Nat) (cap : Nat → SV) (n : Int) : Det Tryz.prog 95 [.one (.v nilS), .one (i64 0), .one (i64 0), .one (i64 n), .one (.fn f q cap)] (.tup []) := by
  refine det_of_awp TTok mixed Tryz.func95 rfl rfl [] (Nat.le_of_ble_eq_true rfl) ?_
  refine Loop.unroll 1 ?_
  repeat' first | refine Split.t ?_ | refine Split.f ?_ | fail
  refine CallW.mk' (ins0_det f q cap) ?_
  exact Fin.rfl'
theorem sort0_det (f n : Nat) (cap : Nat → SV) : Det Tryz.prog 48 [.one (.v nilS), .one (.fn f n cap)] (.tup []) := by
  refine det_of_awp TTok mixed Tryz.func48 rfl rfl [] (Nat.le_of_ble_eq_true rfl) ?_
  repeat' first | refine Need.mk ⟨_, rfl⟩ ?_ | refine Need.mk (by decide) ?_ | fail
  refine CallW.mk' len_0 ?_
  refine CallW.mk' (pdq0_det f n cap 0) ?_
  exact Fin.rfl'
theorem scanon_det (o : List V2) (hl : o.length ≤ 40000) (hv : validR o = true) : Det Tryz.prog 141 [shD o []] (.d (shD (canonR o) [])) := by
  refine det_of_awp TTok mixed Tryz.func141 rfl rfl [] (Nat.le_of_ble_eq_true rfl) ?_
  refine CallW.mk' ((svalid_det o hl).eq (by rw [hv])) ?_
  refine Split.f ?_
  refine CallW.mk' (canon_det o hl) ?_
  refine Loop.unroll 1 ?_
  repeat' first | refine Split.t ?_ | refine Split.f ?_ | fail
  refine CallW.mk' (sort0_det _ _ _) ?_
  exact Fin.agg (.cons (SLe.refl _) (.cons (SLe.nil _ _) .nil))
end Sg
end Go.Vm
