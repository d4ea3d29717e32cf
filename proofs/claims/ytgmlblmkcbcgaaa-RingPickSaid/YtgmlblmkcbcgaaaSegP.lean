/-
  Layer 7: what two segments have in common does not depend on their order, and is moved with them (plain numbers).
-/
import Derived.Test.YtgmlblmkcbcgaaaSegN
namespace Go.Vm
set_option maxRecDepth 20000
set_option linter.unusedVariables false
set_option linter.unusedSimpArgs false
namespace Sg
open Go Go.RowKit Go.Proofs

theorem asc_unique : ∀ {l m : List V2}, Asc l → Asc m → (∀ e, e ∈ l ↔ e ∈ m) → l = m
  | [], [], _, _, _ => rfl
  | [], y :: m, _, _, h => absurd ((h y).2 (by simp)) (by simp)
  | x :: l, [], _, _, h => absurd ((h x).1 (by simp)) (by simp)
  | x :: l, y :: m, hl, hm, h => by
    have exy : x = y := by
      have h1 := (h x).1 (by simp)
      have h2 := (h y).2 (by simp)
      rcases List.mem_cons.1 h1 with h1 | h1
      · exact h1
      · rcases List.mem_cons.1 h2 with h2 | h2
        · exact h2.symm
        · have a := hm.1 x h1
          have b := hl.1 y h2
          rw [less_asymm a] at b
          cases b
    subst exy
    congr 1
    refine asc_unique hl.2 hm.2 fun e => ?_
    constructor
    · intro he
      rcases List.mem_cons.1 ((h e).1 (List.mem_cons_of_mem _ he)) with k | k
      · subst k
        have := hl.1 e he
        rw [less_irr] at this
        cases this
      · exact k
    · intro he
      rcases List.mem_cons.1 ((h e).2 (List.mem_cons_of_mem _ he)) with k | k
      · subst k
        have := hm.1 e he
        rw [less_irr] at this
        cases this
      · exact k
theorem sort_congr {l m : List V2} (h : ∀ e, e ∈ l ↔ e ∈ m) : sortV l = sortV m := by
  obtain ⟨a1, a2⟩ := sort_facts l
  obtain ⟨b1, b2⟩ := sort_facts m
  exact asc_unique a1 b1 fun e => (a2 e).trans ((h e).trans (b2 e).symm)

def turnS (s : Seg) : Seg := ⟨s.b, s.a⟩
abbrev Xn (s t : Seg) : Int := s.a.x * dirC s t + (subP s.b s.a).x * crossP (subP t.a s.a) (subP t.b t.a)
abbrev Yn (s t : Seg) : Int := s.a.y * dirC s t + (subP s.b s.a).y * crossP (subP t.a s.a) (subP t.b t.a)
theorem turn_valid (s : Seg) : validS (turnS s) = validS s := by
  simp only [validS, turnS]
  exact Bool.and_comm _ _
theorem turn_on (s : Seg) (e : V2) : onB (turnS s) e = onB s e := by
  cases hs : validS s with
  | false =>
    have := turn_valid s
    rw [hs] at this
    simp [onB, hs, this]
  | true =>
    have hs' := turn_valid s
    rw [hs] at hs'
    rw [Bool.eq_iff_iff, on_iff hs, on_iff hs', inBox_iff, inBox_iff]
    have e1 : sideP (turnS s) e = -sideP s e := by simp only [sideP, crossP, subP, turnS]; grind
    rw [e1]
    simp only [turnS]
    omega
/-- Two pairs of segments that are asked alike. -/
structure Same (s t s' t' : Seg) : Prop where
  v : (validS s = false ∨ validS t = false) ↔ (validS s' = false ∨ validS t' = false)
  m : ∀ e, e ∈ (endsL s' t').filter (bothB s' t') ↔ e ∈ (endsL s t).filter (bothB s t)
  c : validS s = true → validS t = true → (crossB s' t' = true ↔ crossB s t = true)
  d : dirC s' t' = -dirC s t
  x : Xn s' t' = -Xn s t
  y : Yn s' t' = -Yn s t
theorem lowP_neg {x y d : Int} (h : d ≠ 0) : lowP (-x) (-y) (-d) = lowP x y d := by
  unfold lowP
  by_cases hd : d < 0
  · rw [if_neg (by omega), if_pos hd]
  · rw [if_pos (by omega), if_neg hd, Int.neg_neg, Int.neg_neg, Int.neg_neg]
theorem Same.agree {s t s' t' : Seg} (h : Same s t s' t') : rmeetI s' t' = rmeetI s t ∧ ratP s' t' = ratP s t ∧ rshareS s' t' = rshareS s t := by
  have hc : commonL s' t' = commonL s t := sort_congr h.m
  have hk : rmeetI s' t' = rmeetI s t := by
    by_cases hv : validS s = false ∨ validS t = false
    · rw [rmeetI, rmeetI, if_pos hv, if_pos (h.v.1 hv)]
    · rw [rmeetI, rmeetI, if_neg hv, if_neg (fun k => hv (h.v.2 k)), hc]
      have hs : validS s = true := by
        cases q : validS s with
        | true => rfl
        | false => exact absurd (.inl q) hv
      have ht : validS t = true := by
        cases q : validS t with
        | true => rfl
        | false => exact absurd (.inr q) hv
      have := h.c hs ht
      split
      · rfl
      · split
        · rfl
        · by_cases hb : crossB s t = true
          · rw [if_pos hb, if_pos (this.2 hb)]
          · rw [if_neg hb, if_neg (fun k => hb (this.1 k))]
  refine ⟨hk, ?_, ?_⟩
  · rw [ratP, ratP, hk, hc]
    split
    · rfl
    · split
      · rename_i h2
        obtain ⟨hs, ht, hb⟩ := rmeet_two h2
        have hd := cross_dir hs ht hb
        have e1 := h.x
        have e2 := h.y
        have e3 := h.d
        simp only [Xn, Yn] at e1 e2
        rw [e1, e2, e3, lowP_neg hd]
      · rfl
  · rw [rshareS, rshareS, hk, hc]
theorem same_swap (s t : Seg) : Same s t t s := by
  refine ⟨⟨fun h => h.symm, fun h => h.symm⟩, fun e => ?_, fun hs ht => ?_, ?_, ?_, ?_⟩
  · rw [mem_common, mem_common]
    constructor
    · rintro ⟨h1, h2, h3⟩
      refine ⟨?_, h3, h2⟩
      rcases h1 with h | h | h | h <;> simp [h]
    · rintro ⟨h1, h2, h3⟩
      refine ⟨?_, h3, h2⟩
      rcases h1 with h | h | h | h <;> simp [h]
  · simp only [crossB, Bool.and_eq_true]
    exact ⟨fun h => ⟨h.2, h.1⟩, fun h => ⟨h.2, h.1⟩⟩
  · simp only [dirC, crossP]; grind
  · simp only [Xn, dirC, crossP, subP]; grind
  · simp only [Yn, dirC, crossP, subP]; grind
theorem same_turn1 (s t : Seg) : Same s t (turnS s) t := by
  refine ⟨by rw [turn_valid], fun e => ?_, fun hs ht => ?_, ?_, ?_, ?_⟩
  · rw [mem_common, mem_common, turn_on]
    constructor
    · rintro ⟨h1, h2, h3⟩
      refine ⟨?_, h2, h3⟩
      rcases h1 with h | h | h | h <;> simp [h, turnS]
    · rintro ⟨h1, h2, h3⟩
      refine ⟨?_, h2, h3⟩
      rcases h1 with h | h | h | h <;> simp [h, turnS]
  · obtain ⟨sa, sb⟩ := valid_in hs
    obtain ⟨ta, tb⟩ := valid_in ht
    have hs' : validS (turnS s) = true := by rw [turn_valid]; exact hs
    have e1 : ∀ e, sideP (turnS s) e = -sideP s e := fun e => by simp only [sideP, crossP, subP, turnS]; grind
    simp only [crossB, Bool.and_eq_true, decide_eq_true_eq, side_eq hs ta, side_eq hs tb, side_eq hs' ta, side_eq hs' tb, e1, sgn_mul]
    rw [show (turnS s).a = s.b from rfl, show (turnS s).b = s.a from rfl, Int.mul_comm (sideI t s.b)]
    omega
  · simp only [dirC, crossP, subP, turnS]; grind
  · simp only [Xn, dirC, crossP, subP, turnS]; grind
  · simp only [Yn, dirC, crossP, subP, turnS]; grind
theorem same_turn2 (s t : Seg) : Same s t s (turnS t) := by
  refine ⟨by rw [turn_valid], fun e => ?_, fun hs ht => ?_, ?_, ?_, ?_⟩
  · rw [mem_common, mem_common, turn_on]
    constructor
    · rintro ⟨h1, h2, h3⟩
      refine ⟨?_, h2, h3⟩
      rcases h1 with h | h | h | h <;> simp [h, turnS]
    · rintro ⟨h1, h2, h3⟩
      refine ⟨?_, h2, h3⟩
      rcases h1 with h | h | h | h <;> simp [h, turnS]
  · obtain ⟨sa, sb⟩ := valid_in hs
    obtain ⟨ta, tb⟩ := valid_in ht
    have ht' : validS (turnS t) = true := by rw [turn_valid]; exact ht
    have e1 : ∀ e, sideP (turnS t) e = -sideP t e := fun e => by simp only [sideP, crossP, subP, turnS]; grind
    simp only [crossB, Bool.and_eq_true, decide_eq_true_eq, side_eq ht sa, side_eq ht sb, side_eq ht' sa, side_eq ht' sb, e1, sgn_mul]
    rw [show (turnS t).a = t.b from rfl, show (turnS t).b = t.a from rfl, Int.mul_comm (sideI s t.b)]
    omega
  · simp only [dirC, crossP, subP, turnS]; grind
  · simp only [Xn, dirC, crossP, subP, turnS]; grind
  · simp only [Yn, dirC, crossP, subP, turnS]; grind

/-! ### moved segments -/
def addP (a v : V2) : V2 := ⟨a.x + v.x, a.y + v.y⟩
def movS (s : Seg) (v : V2) : Seg := ⟨addP s.a v, addP s.b v⟩
theorem add_inj {a b v : V2} : addP a v = addP b v ↔ a = b := by
  rw [V2.eq_iff, V2.eq_iff]
  simp only [addP]
  omega
theorem add_less (a b v : V2) : lessB (addP a v) (addP b v) = lessB a b := by
  rw [Bool.eq_iff_iff, less_iff, less_iff]
  simp only [addP]
  omega
theorem ins_map (v x : V2) : ∀ l : List V2, insV (l.map (addP · v)) (addP x v) = (insV l x).map (addP · v)
  | [] => rfl
  | y :: l => by
    simp only [List.map_cons, insV, add_less, add_inj, ins_map v x l]
    split
    · rfl
    · split <;> rfl
theorem sort_map (v : V2) (l : List V2) : sortV (l.map (addP · v)) = (sortV l).map (addP · v) := by
  have : ∀ (l o : List V2), (l.map (addP · v)).foldl insV (o.map (addP · v)) = (l.foldl insV o).map (addP · v) := by
    intro l
    induction l with
    | nil => intro o; rfl
    | cons x l ih =>
      intro o
      simp only [List.map_cons, List.foldl_cons]
      rw [ins_map, ih]
  exact this l []
theorem mov_on {s : Seg} {v : V2} (hs : validS s = true) (hs' : validS (movS s v) = true) (e : V2) : onB (movS s v) (addP e v) = onB s e := by
  rw [Bool.eq_iff_iff, on_iff hs, on_iff hs', inBox_iff, inBox_iff]
  have e1 : sideP (movS s v) (addP e v) = sideP s e := by simp only [sideP, crossP, subP, movS, addP]; grind
  rw [e1]
  simp only [movS, addP]
  omega
theorem mov_agree {s t : Seg} {v : V2} (hs : validS s = true) (ht : validS t = true) (hs' : validS (movS s v) = true) (ht' : validS (movS t v) = true) :
    rmeetI (movS s v) (movS t v) = rmeetI s t ∧ commonL (movS s v) (movS t v) = (commonL s t).map (addP · v) := by
  have hc : commonL (movS s v) (movS t v) = (commonL s t).map (addP · v) := by
    rw [commonL, commonL, ← sort_map]
    refine sort_congr fun e => ?_
    simp only [List.mem_map, mem_common]
    constructor
    · rintro ⟨h1, h2, h3⟩
      have key : ∀ e0, e = addP e0 v → (e0 = s.a ∨ e0 = s.b ∨ e0 = t.a ∨ e0 = t.b) → ∃ a, ((a = s.a ∨ a = s.b ∨ a = t.a ∨ a = t.b) ∧ onB s a = true ∧ onB t a = true) ∧ addP a v = e := fun e0 h4 h5 => by
        subst h4
        rw [mov_on hs hs'] at h2
        rw [mov_on ht ht'] at h3
        exact ⟨e0, ⟨h5, h2, h3⟩, rfl⟩
      rcases h1 with h | h | h | h
      · exact key s.a h (by simp)
      · exact key s.b h (by simp)
      · exact key t.a h (by simp)
      · exact key t.b h (by simp)
    · rintro ⟨a, ⟨h1, h2, h3⟩, rfl⟩
      rw [mov_on hs hs', mov_on ht ht']
      refine ⟨?_, h2, h3⟩
      simp only [movS, add_inj]
      exact h1
  refine ⟨?_, hc⟩
  obtain ⟨sa, sb⟩ := valid_in hs
  obtain ⟨ta, tb⟩ := valid_in ht
  obtain ⟨sa', sb'⟩ := valid_in hs'
  obtain ⟨ta', tb'⟩ := valid_in ht'
  have e1 : ∀ (s : Seg) (e : V2), sideP (movS s v) (addP e v) = sideP s e := fun s e => by simp only [sideP, crossP, subP, movS, addP]; grind
  have hx : crossB (movS s v) (movS t v) = crossB s t := by
    simp only [crossB, side_eq hs ta, side_eq hs tb, side_eq ht sa, side_eq ht sb, side_eq hs' ta', side_eq hs' tb', side_eq ht' sa', side_eq ht' sb']
    rw [show (movS t v).a = addP t.a v from rfl, show (movS t v).b = addP t.b v from rfl, show (movS s v).a = addP s.a v from rfl, show (movS s v).b = addP s.b v from rfl, e1, e1, e1, e1]
  have n1 : ¬ (validS (movS s v) = false ∨ validS (movS t v) = false) := by simp [hs', ht']
  have n2 : ¬ (validS s = false ∨ validS t = false) := by simp [hs, ht]
  rw [rmeetI, if_neg n1, hc, hx, List.length_map, rmeetI, if_neg n2]
theorem gcd_shift (x y v w d : Int) : Int.gcd (Int.gcd (x + v * d) (y + w * d) : Nat) d = Int.gcd (Int.gcd x y : Nat) d := by
  have key : ∀ (x y v w : Int), ((Int.gcd (Int.gcd x y : Nat) d : Nat) : Int) ∣ (Int.gcd (Int.gcd (x + v * d) (y + w * d) : Nat) d : Nat) := fun x y v w => by
    have h0 : ((Int.gcd (Int.gcd x y : Nat) d : Nat) : Int) ∣ d := Int.gcd_dvd_right ..
    have h1 : ((Int.gcd (Int.gcd x y : Nat) d : Nat) : Int) ∣ (Int.gcd x y : Nat) := Int.gcd_dvd_left ..
    have h2 : ((Int.gcd (Int.gcd x y : Nat) d : Nat) : Int) ∣ x := Int.dvd_trans h1 (Int.gcd_dvd_left ..)
    have h3 : ((Int.gcd (Int.gcd x y : Nat) d : Nat) : Int) ∣ y := Int.dvd_trans h1 (Int.gcd_dvd_right ..)
    exact Int.dvd_coe_gcd (Int.dvd_coe_gcd (Int.dvd_add h2 (Int.dvd_mul_of_dvd_right h0)) (Int.dvd_add h3 (Int.dvd_mul_of_dvd_right h0))) h0
  have a := key x y v w
  have b := key (x + v * d) (y + w * d) (-v) (-w)
  rw [show x + v * d + -v * d = x by grind, show y + w * d + -w * d = y by grind] at b
  exact (Nat.dvd_antisymm (Int.natCast_dvd_natCast.1 a) (Int.natCast_dvd_natCast.1 b)).symm
theorem low_shift (x y d v w : Int) (h : 0 < d) : low (x + v * d) (y + w * d) d = ⟨(low x y d).x + v * (low x y d).d, (low x y d).y + w * (low x y d).d, (low x y d).d⟩ := by
  unfold low
  rw [gcd_shift]
  have hg : ((Int.gcd (Int.gcd x y : Nat) d : Nat) : Int) ≠ 0 := gcd_pos (by omega)
  have h0 : ((Int.gcd (Int.gcd x y : Nat) d : Nat) : Int) ∣ d := Int.gcd_dvd_right ..
  have h1 : ((Int.gcd (Int.gcd x y : Nat) d : Nat) : Int) ∣ (Int.gcd x y : Nat) := Int.gcd_dvd_left ..
  have h2 : ((Int.gcd (Int.gcd x y : Nat) d : Nat) : Int) ∣ x := Int.dvd_trans h1 (Int.gcd_dvd_left ..)
  have h3 : ((Int.gcd (Int.gcd x y : Nat) d : Nat) : Int) ∣ y := Int.dvd_trans h1 (Int.gcd_dvd_right ..)
  generalize ((Int.gcd (Int.gcd x y : Nat) d : Nat) : Int) = g at *
  obtain ⟨a, rfl⟩ := h2
  obtain ⟨b, rfl⟩ := h3
  obtain ⟨c, rfl⟩ := h0
  have e1 : g * a + v * (g * c) = g * (a + v * c) := by grind
  have e2 : g * b + w * (g * c) = g * (b + w * c) := by grind
  rw [e1, e2]
  simp only [Int.mul_tdiv_cancel_left _ hg]
/-- The moved point. -/
abbrev shiftP (p : P3) (v : V2) : P3 := ⟨p.x + v.x * p.d, p.y + v.y * p.d, p.d⟩
theorem rat_mov {s t : Seg} {v : V2} (hs : validS s = true) (ht : validS t = true) (hs' : validS (movS s v) = true) (ht' : validS (movS t v) = true) :
    (ratB s t = true → ratP (movS s v) (movS t v) = shiftP (ratP s t) v) ∧ (rmeetI s t = 3 → rshareS (movS s v) (movS t v) = movS (rshareS s t) v) := by
  obtain ⟨hk, hc⟩ := mov_agree hs ht hs' ht'
  refine ⟨fun h => ?_, fun h => ?_⟩
  · simp only [ratB, Bool.or_eq_true, decide_eq_true_eq] at h
    rw [ratP, ratP, hk, hc]
    rcases h with h | h
    · rw [if_pos h, if_pos h]
      have hl := rmeet_len.1 h
      obtain ⟨p, hp⟩ := List.length_eq_one_iff.1 hl
      rw [hp]
      simp [shiftP, ptOf, addP]
    · rw [if_neg (by omega), if_pos h, if_neg (by omega), if_pos h]
      obtain ⟨_, _, hb⟩ := rmeet_two h
      have hd := cross_dir hs ht hb
      have e0 : dirC (movS s v) (movS t v) = dirC s t := by simp only [dirC, crossP, subP, movS, addP]; grind
      have e1 : Xn (movS s v) (movS t v) = Xn s t + v.x * dirC s t := by simp only [Xn, dirC, crossP, subP, movS, addP]; grind
      have e2 : Yn (movS s v) (movS t v) = Yn s t + v.y * dirC s t := by simp only [Yn, dirC, crossP, subP, movS, addP]; grind
      simp only [Xn, Yn] at e1 e2
      rw [e0] at e1 e2
      rw [e0, e1, e2]
      unfold lowP
      by_cases hn : dirC s t < 0
      · rw [if_pos hn, if_pos hn]
        refine Eq.trans ?_ (low_shift _ _ _ _ _ (by omega))
        congr 1 <;> grind
      · rw [if_neg hn, if_neg hn]
        exact low_shift _ _ _ _ _ (by omega)
  · rw [rshareS, rshareS, hk, hc, if_pos h, if_pos h]
    have hl := rmeet_len.2 h
    have g : ∀ i, i < (commonL s t).length → ((commonL s t).map (addP · v)).getD i v0 = addP ((commonL s t).getD i v0) v := fun i hi => by
      simp [List.getD, hi]
    rw [List.length_map, g 0 (by omega), g _ (by omega)]
    rfl
end Sg
end Go.Vm
