/-
  Layer 8, the plain laws: cleaned rings, points outside of the box, moved rings.
-/
import Derived.Test.YtgmlblmkcbcgaaaRingL
namespace Go.Vm
set_option maxRecDepth 20000
set_option linter.unusedVariables false
set_option linter.unusedSimpArgs false
open Go Go.RowKit Go.Proofs
namespace Sg

theorem RingOk.len {l : List V2} (h : RingOk l) : l.length ≤ 200 := by have := h.forty; omega
theorem gt_nxt_ne {l : List V2} (h : RingOk l) {i : Nat} (hi : i < l.length) : gt l i ≠ nxt l i := by
  intro e
  refine h.turns i hi ?_
  rw [← e]
  unfold turnP
  rw [show crossP (subP (gt l i) (lst l i)) (subP (gt l i) (lst l i)) = 0 by simp only [crossP]; rw [Int.mul_comm]; omega]
  rfl
theorem ring_ex {l : List V2} (h : RingOk l) : ex l = none := ex_none (fun i hi => by
  unfold extraB
  rw [decide_eq_false (gt_nxt_ne h hi), Bool.false_or]
  have := h.turns i hi
  rw [lst, nxt, ← turn_eq h.near] at this
  exact decide_eq_false this)
theorem min_first {l : List V2} (h : ∀ j, j < l.length → lessB (gt l j) (gt l 0) = false) : minIx l = 0 := by
  have : ∀ i, i ≤ l.length → lk l i = 0 := by
    intro i
    induction i with
    | zero => intro _; rfl
    | succ i ih =>
      intro hi
      simp only [lk]
      rw [ih (by omega), if_neg (by rw [h i (by omega)]; simp)]
  exact this _ (Nat.le_refl _)
theorem rotL_zero (l : List V2) : rotL l 0 = l := by simp [rotL]
theorem begin_rot (l : List V2) : Rot l (beginL l) (minIx l) := rot_rotL l _ (lk_le l _)
theorem begin_least {l : List V2} (h0 : 0 < l.length) : ∀ j, j < l.length → lessB (gt (beginL l) j) (gt (beginL l) 0) = false := by
  intro j hj
  have hr := begin_rot l
  rw [hr.at_ j hj, hr.at_ 0 h0, Nat.add_zero, Nat.mod_eq_of_lt (show minIx l < l.length from lk_lt l _ h0)]
  exact (lk_min l l.length).2 _ (Nat.mod_lt _ h0)
theorem begin_begin (l : List V2) : beginL (beginL l) = beginL l := by
  rcases Nat.eq_zero_or_pos l.length with h0 | h0
  · obtain rfl := List.eq_nil_of_length_eq_zero h0
    rfl
  · have : minIx (beginL l) = 0 := min_first (fun j hj => begin_least h0 j (by rw [← (begin_rot l).len]; exact hj))
    rw [show beginL (beginL l) = rotL (beginL l) (minIx (beginL l)) from rfl, this, rotL_zero]
theorem clean_ok {l : List V2} (h : RingOk l) : cleanR l = (beginL l, 0) := by
  have hc : cleanL l = l := cleanL_none (ring_ex h)
  have hup : upR l = l := by
    have := h.area
    rw [upR, area_eq h.near (by have := h.len; omega), if_neg (by omega)]
  have hl := h.len
  have hv := ring_ok.2 h
  simp [cleanR, hc, hup, h.near, hv, show ¬ 200 < l.length by omega]
theorem clean_twice {l : List V2} (h : (cleanR l).2 = 0) : RingOk (cleanR l).1 ∧ cleanR (cleanR l).1 = ((cleanR l).1, 0) ∧ beginL (cleanR l).1 = (cleanR l).1 := by
  unfold cleanR at h ⊢
  by_cases h1 : 200 < l.length
  · rw [if_pos h1] at h; cases h
  · rw [if_neg h1] at h ⊢
    by_cases h2 : nearR l = false
    · rw [if_pos h2] at h; cases h
    · rw [if_neg h2] at h ⊢
      by_cases h3 : validR (upR (cleanL l)) = false
      · rw [if_pos h3] at h; cases h
      · rw [if_neg h3]
        have hv : RingOk (upR (cleanL l)) := ring_ok.1 (by simpa using h3)
        have hb : RingOk (beginL (upR (cleanL l))) := (begin_rot _).ok hv
        refine ⟨hb, ?_, begin_begin _⟩
        show cleanR (beginL (upR (cleanL l))) = _
        rw [clean_ok hb, begin_begin]
theorem clean_bad {l : List V2} (h : (cleanR l).2 ≠ 0) : (cleanR l).1 = [] := by
  unfold cleanR at h ⊢
  by_cases h1 : 200 < l.length
  · rw [if_pos h1]
  · rw [if_neg h1] at h ⊢
    by_cases h2 : nearR l = false
    · rw [if_pos h2]
    · rw [if_neg h2] at h ⊢
      by_cases h3 : validR (upR (cleanL l)) = false
      · rw [if_pos h3]
      · rw [if_neg h3] at h; exact absurd rfl h
theorem canon_clean {l : List V2} (h : (cleanR l).2 = 0) : canonR (cleanR l).1 = (cleanR l).1 := by
  obtain ⟨h1, _, h3⟩ := clean_twice h
  rw [canonR, if_pos (ring_ok.2 h1), h3]

/-! ### outside of the box -/
theorem parN_step (u : Nat → Bool) {n : Nat} (hn : 0 < n) : parN n (fun i => xor (u i) (u ((i + 1) % n))) = false := by
  have h1 : ∀ m, parN m (fun i => xor (u i) (u ((i + 1) % n))) = xor (parN m u) (parN m fun i => u ((i + 1) % n)) := by
    intro m
    induction m with
    | zero => rfl
    | succ m ih =>
      simp only [parN]
      rw [ih]
      generalize parN m u = a
      generalize (parN m fun i => u ((i + 1) % n)) = b
      generalize u m = c
      generalize u ((m + 1) % n) = d
      revert a b c d
      decide
  rw [h1]
  have h2 : parN n (fun i => u ((i + 1) % n)) = parN n u := by
    rw [← parN_rot u (show 1 ≤ n from hn)]
    exact parN_congr (fun i _ => by rw [Nat.add_comm])
  rw [h2, Bool.xor_self]
theorem min_pos {a b : Int} (ha : 0 < a) (hb : 0 < b) : decide (minI a b ≤ 0) = false := decide_eq_false (by unfold minI; split <;> omega)
theorem max_neg {a b : Int} (ha : a < 0) (hb : b < 0) : decide (0 ≤ maxI a b) = false := decide_eq_false (by unfold maxI; split <;> omega)
theorem parN_false {n : Nat} {f : Nat → Bool} (h : ∀ i, i < n → f i = false) : parN n f = false := by
  rw [parN_congr (g := fun _ => false) h]
  clear h
  induction n with
  | zero => rfl
  | succ n ih => simp only [parN]; rw [ih]; rfl
theorem where_zero {l : List V2} {p : P3} (h1 : ∀ i, i < l.length → onP (edge l i) p = false) (h2 : parN l.length (fun i => crsP (edge l i) p) = false) : wherePl l p = 0 := by
  have e1 : onAny l p = false := by
    unfold onAny
    rw [allB_iff.2 (fun i hi => by rw [h1 i hi]; rfl)]; rfl
  rw [wherePl, e1, parK_eq, h2]
  simp
/-- A point past all vertices lies outside. -/
theorem where_out {l : List V2} {p : P3} (hd : 1 ≤ p.d) (h : (∀ i, (toV p (gt l i)).y < 0) ∨ (∀ i, 0 < (toV p (gt l i)).y) ∨ (∀ i, 0 < (toV p (gt l i)).x) ∨ (∀ i, (toV p (gt l i)).x < 0)) : wherePl l p = 0 := by
  have ea : ∀ i, toV p (edge l i).a = toV p (gt l i) := fun _ => rfl
  have eb : ∀ i, toV p (edge l i).b = toV p (gt l ((i + 1) % l.length)) := fun _ => rfl
  have hc : ∀ i, (toV p (gt l i)).x * (toV p (gt l ((i + 1) % l.length))).y - (toV p (gt l i)).y * (toV p (gt l ((i + 1) % l.length))).x = p.d * sdP (edge l i) p := fun i => cross_to (edge l i) p
  have sg : ∀ i, (0 < p.d * sdP (edge l i) p → 0 < sdP (edge l i) p) ∧ (p.d * sdP (edge l i) p < 0 → sdP (edge l i) p < 0) := by
    intro i
    refine ⟨fun h => ?_, fun h => ?_⟩
    · refine Int.not_le.1 (fun hn => ?_)
      have := Int.mul_nonpos_of_nonneg_of_nonpos (show 0 ≤ p.d by omega) hn
      omega
    · refine Int.not_le.1 (fun hn => ?_)
      have := Int.mul_nonneg (show 0 ≤ p.d by omega) hn
      omega
  rcases h with h | h | h | h
  · refine where_zero (fun i _ => ?_) (parN_false (fun i _ => ?_))
    · unfold onP
      rw [ea, eb, max_neg (h i) (h _), Bool.and_false]
    · unfold crsP
      rw [ea, eb, decide_eq_false (show ¬ 0 ≤ (toV p (gt l i)).y by have := h i; omega), decide_eq_false (show ¬ 0 ≤ (toV p (gt l ((i + 1) % l.length))).y by have := h ((i + 1) % l.length); omega)]
      rfl
  · refine where_zero (fun i _ => ?_) (parN_false (fun i _ => ?_))
    · unfold onP
      rw [ea, eb, min_pos (h i) (h _), Bool.and_false, Bool.false_and]
    · unfold crsP
      rw [ea, eb, decide_eq_true (show 0 ≤ (toV p (gt l i)).y by have := h i; omega), decide_eq_true (show 0 ≤ (toV p (gt l ((i + 1) % l.length))).y by have := h ((i + 1) % l.length); omega)]
      rfl
  · refine where_zero (fun i _ => ?_) (parN_false (fun i _ => ?_))
    · unfold onP
      rw [ea, eb, min_pos (h i) (h _), Bool.and_false, Bool.false_and, Bool.false_and, Bool.false_and]
    · have h1 := h i
      have h2 := h ((i + 1) % l.length)
      have h3 := hc i
      obtain ⟨s1, s2⟩ := sg i
      unfold crsP
      rw [ea, eb]
      generalize (toV p (gt l i)).x = ax at *
      generalize (toV p (gt l i)).y = ay at *
      generalize (toV p (gt l ((i + 1) % l.length))).x = bx at *
      generalize (toV p (gt l ((i + 1) % l.length))).y = bY at *
      by_cases k1 : 0 ≤ ay <;> by_cases k2 : 0 ≤ bY
      · rw [decide_eq_true k1, decide_eq_true k2]; rfl
      · have m1 := Int.mul_neg_of_pos_of_neg h1 (Int.not_le.1 k2)
        have m2 := Int.mul_nonneg k1 (Int.le_of_lt h2)
        have := s2 (by omega)
        rw [decide_eq_true k1, decide_eq_false k2, decide_eq_false (show ¬ 0 < sdP (edge l i) p by omega)]; rfl
      · have m1 := Int.mul_nonneg (Int.le_of_lt h1) k2
        have m2 := Int.mul_neg_of_neg_of_pos (Int.not_le.1 k1) h2
        have := s1 (by omega)
        rw [decide_eq_false k1, decide_eq_true k2, decide_eq_true this]; rfl
      · rw [decide_eq_false k1, decide_eq_false k2]; rfl
  · refine where_zero (fun i _ => ?_) ?_
    · unfold onP
      rw [ea, eb, max_neg (h i) (h _), Bool.and_false, Bool.false_and, Bool.false_and]
    · rcases Nat.eq_zero_or_pos l.length with h0 | h0
      · rw [h0]; rfl
      rw [← parN_step (fun i => decide (0 ≤ (toV p (gt l i)).y)) h0]
      refine parN_congr (fun i _ => ?_)
      have h1 := h i
      have h2 := h ((i + 1) % l.length)
      have h3 := hc i
      obtain ⟨s1, s2⟩ := sg i
      unfold crsP
      rw [ea, eb]
      generalize (toV p (gt l i)).x = ax at *
      generalize (toV p (gt l i)).y = ay at *
      generalize (toV p (gt l ((i + 1) % l.length))).x = bx at *
      generalize (toV p (gt l ((i + 1) % l.length))).y = bY at *
      by_cases k1 : 0 ≤ ay <;> by_cases k2 : 0 ≤ bY
      · rw [decide_eq_true k1, decide_eq_true k2]; rfl
      · have m1 := Int.mul_pos_of_neg_of_neg h1 (Int.not_le.1 k2)
        have m2 := Int.mul_nonpos_of_nonneg_of_nonpos k1 (Int.le_of_lt h2)
        have := s1 (by omega)
        rw [decide_eq_true k1, decide_eq_false k2, decide_eq_true this]; rfl
      · have m1 := Int.mul_nonpos_of_nonpos_of_nonneg (Int.le_of_lt h1) k2
        have m2 := Int.mul_pos_of_neg_of_neg (Int.not_le.1 k1) h2
        have := s2 (by omega)
        rw [decide_eq_false k1, decide_eq_true k2, decide_eq_false (show ¬ 0 < sdP (edge l i) p by omega)]; rfl
      · rw [decide_eq_false k1, decide_eq_false k2]; rfl

/-! ### moved rings -/
theorem addW_eq {a v : V2} (ha : In 1000000 a) (hv : In 1000000 v) : addW a v = addP a v := by
  obtain ⟨a0, a1, a2, a3⟩ := ha
  obtain ⟨v0, v1, v2, v3⟩ := hv
  unfold addW addP
  rw [wid' (by omega) (by omega), wid' (by omega) (by omega)]
structure Moved (l l' : List V2) (v : V2) : Prop where
  len : l'.length = l.length
  at_ : ∀ i, i < l.length → gt l' i = addP (gt l i) v
section
variable {l l' : List V2} {v : V2}
theorem Moved.nxt (h : Moved l l' v) {i : Nat} (hi : i < l.length) : nxt l' i = addP (nxt l i) v := by
  unfold Sg.nxt
  rw [h.len, h.at_ _ (Nat.mod_lt _ (by omega))]
theorem Moved.lst (h : Moved l l' v) {i : Nat} (hi : i < l.length) : lst l' i = addP (lst l i) v := by
  unfold Sg.lst
  rw [h.len, h.at_ _ (Nat.mod_lt _ (by omega))]
theorem Moved.edge (h : Moved l l' v) {i : Nat} (hi : i < l.length) : edge l' i = movS (edge l i) v := by
  unfold Sg.edge
  rw [h.at_ i hi, h.nxt hi]
  rfl
theorem turn_mov (a b c v : V2) : turnP (addP a v) (addP b v) (addP c v) = turnP a b c := by
  unfold turnP
  congr 1
  simp only [crossP, subP, addP]
  grind
/-- The sum over the edges of the cross product with a fixed vector is none. -/
theorem sum_tel (f : Nat → Int) {n : Nat} (hn : 0 < n) : sumN n (fun i => f ((i + 1) % n) - f i) = 0 := by
  have h1 : ∀ m, sumN m (fun i => f ((i + 1) % n) - f i) = sumN m (fun i => f ((i + 1) % n)) - sumN m f := by
    intro m
    induction m with
    | zero => rfl
    | succ m ih => simp only [sumN]; rw [ih]; omega
  rw [h1]
  have h2 : sumN n (fun i => f ((i + 1) % n)) = sumN n f := by
    rw [← sumN_rot f (show 1 ≤ n from hn)]
    exact sumN_congr (fun i _ => by rw [Nat.add_comm])
  omega
theorem sumN_sum {n : Nat} (f g : Nat → Int) : sumN n (fun i => f i + g i) = sumN n f + sumN n g := by
  induction n with
  | zero => rfl
  | succ n ih => simp only [sumN]; rw [ih]; omega
theorem Moved.area (h : Moved l l' v) : areaZ l' = areaZ l := by
  rcases Nat.eq_zero_or_pos l.length with h0 | h0
  · unfold areaZ; rw [h.len, h0]; rfl
  unfold areaZ
  rw [h.len]
  have e : sumN l.length (fun i => crossP (gt l' i) (Sg.nxt l' i)) = sumN l.length (fun i => crossP (gt l i) (Sg.nxt l i) + ((fun j => crossP v (gt l j)) ((i + 1) % l.length) - (fun j => crossP v (gt l j)) i)) := by
    refine sumN_congr (fun i hi => ?_)
    rw [h.at_ i hi, h.nxt hi]
    show crossP (addP (gt l i) v) (addP (Sg.nxt l i) v) = crossP (gt l i) (Sg.nxt l i) + (crossP v (Sg.nxt l i) - crossP v (gt l i))
    simp only [crossP, addP]
    grind
  rw [e, sumN_sum, sum_tel (fun j => crossP v (gt l j)) h0]
  omega
theorem Moved.ok (h : Moved l l' v) (hr : RingOk l) (hn : nearR l' = true) : RingOk l' := by
  refine ⟨by rw [h.len]; exact hr.three, by rw [h.len]; exact hr.forty, hn, by rw [h.area]; exact hr.area, fun i hi => ?_, fun i hi j hj h1 h2 h3 => ?_⟩
  · rw [h.len] at hi
    rw [h.at_ i hi, h.nxt hi, h.lst hi, turn_mov]
    exact hr.turns i hi
  · have v1 := edge_valid hn i
    have v2 := edge_valid hn j
    rw [h.len] at hi hj h2 h3
    rw [h.edge hi] at v1
    rw [h.edge hj] at v2
    rw [h.edge hi, h.edge hj, (mov_agree (edge_valid hr.near i) (edge_valid hr.near j) v1 v2).1]
    exact hr.apart i hi j hj h1 h2 h3
theorem Moved.left (h : Moved l l' v) (hn : nearR l = true) (hn' : nearR l' = true) : leftB l' = leftB l := by
  unfold leftB
  rw [h.len]
  refine allB_congr (fun i hi => ?_)
  have e1 : turnW (Sg.lst l' i) (gt l' i) (Sg.nxt l' i) = turnP (Sg.lst l' i) (gt l' i) (Sg.nxt l' i) := by rw [Sg.lst, Sg.nxt, turn_eq hn']
  have e2 : turnW (Sg.lst l i) (gt l i) (Sg.nxt l i) = turnP (Sg.lst l i) (gt l i) (Sg.nxt l i) := by rw [Sg.lst, Sg.nxt, turn_eq hn]
  rw [e1, e2, h.at_ i hi, h.nxt hi, h.lst hi, turn_mov]
theorem toV_mov (p a v : V2) : toV (ptOf (addP p v)) (addP a v) = toV (ptOf p) a := by
  unfold toV addP
  simp only [ptOf]
  congr 1 <;> omega
theorem mov_crs (e : Seg) (p v : V2) : onP (movS e v) (ptOf (addP p v)) = onP e (ptOf p) ∧ crsP (movS e v) (ptOf (addP p v)) = crsP e (ptOf p) := by
  have h1 : sdP (movS e v) (ptOf (addP p v)) = sdP e (ptOf p) := by
    unfold sdP
    rw [show (movS e v).a = addP e.a v from rfl, toV_mov, show (movS e v).b = addP e.b v from rfl]
    congr 1
    simp only [subP, addP]
    congr 1 <;> omega
  unfold onP crsP
  rw [h1, show (movS e v).a = addP e.a v from rfl, show (movS e v).b = addP e.b v from rfl, toV_mov, toV_mov]
  exact ⟨rfl, rfl⟩
theorem Moved.where (h : Moved l l' v) (p : V2) : wherePl l' (ptOf (addP p v)) = wherePl l (ptOf p) := by
  have e1 : onAny l' (ptOf (addP p v)) = onAny l (ptOf p) := by
    unfold onAny
    rw [h.len, allB_congr (fun i hi => by rw [h.edge hi, (mov_crs _ p v).1])]
  have e2 : parK l' (ptOf (addP p v)) l'.length = parK l (ptOf p) l.length := by
    rw [parK_eq, parK_eq, h.len]
    exact parN_congr (fun i hi => by rw [h.edge hi, (mov_crs _ p v).2])
  rw [wherePl, wherePl, e1, e2]
end
theorem ptOf_far {v : V2} (h : In 4000 v) : Far (ptOf v) := ⟨by simp [ptOf], by simp [ptOf], by have := h.x0; simp only [ptOf]; omega, by have := h.x1; simp only [ptOf]; omega, by have := h.y0; simp only [ptOf]; omega, by have := h.y1; simp only [ptOf]; omega⟩
theorem ptOf_ok {v : V2} (h : In 4000 v) : validP (ptOf v) = true := by
  obtain ⟨h1, h2, h3, h4, h5, h6⟩ := ptOf_far h
  unfold validP
  rw [boundB_iff.2 ⟨h1, h2, h3, h4, h5, h6⟩, Bool.true_and]
  exact decide_eq_true (by simp [ptOf])
/-- A whole point far from a valid ring lies outside. -/
theorem far_out {l : List V2} (hn : nearR l = true) {p : V2} (h : ¬ In 4000 p) : wherePl l (ptOf p) = 0 := by
  have hb := fun i => near_in hn i
  have hx : p.x < -4000 ∨ 4000 < p.x ∨ p.y < -4000 ∨ 4000 < p.y := by
    refine Classical.byContradiction (fun hc => h ⟨by omega, by omega, by omega, by omega⟩)
  refine where_out (by simp [ptOf]) ?_
  simp only [toV, ptOf]
  rcases hx with h | h | h | h
  · exact .inr (.inr (.inr (fun i => by have := (hb i).x0; omega)))
  · exact .inr (.inr (.inl (fun i => by have := (hb i).x1; omega)))
  · exact .inl (fun i => by have := (hb i).y0; omega)
  · exact .inr (.inl (fun i => by have := (hb i).y1; omega))
theorem whereV_eq {l : List V2} (hv : RingOk l) (p : V2) : whereV l p = wherePl l (ptOf p) := by
  unfold whereV whereR
  cases hw : withinV p 4000 with
  | true => rw [if_pos rfl, if_pos ⟨ring_ok.2 hv, ptOf_ok (In.of (by decide) (by decide) hw)⟩]
  | false =>
    rw [if_neg (by simp), far_out hv.near (fun hin => by rw [hin.within (by decide) (by decide)] at hw; cases hw)]
theorem onB_onP {e : Seg} {p : V2} (he : validS e = true) (hp : In 4000 p) (ia : In 2000 e.a) (ib : In 2000 e.b) : onB e p = onP e (ptOf p) := by
  have hs : sdP e (ptOf p) = sideP e p := by
    unfold sdP sideP
    congr 1
    simp only [toV, ptOf, subP]
    congr 1 <;> omega
  rw [Bool.eq_iff_iff, on_iff he, onP_in e (ptOf p) (ptOf_far hp), hs]
  simp only [Bool.and_eq_true, decide_eq_true_eq]
  have : inBoxB e p = inP e (ptOf p) := by
    unfold inBoxB inP
    simp only [ptOf, Int.mul_one]
  rw [this]
end Sg
end Go.Vm
