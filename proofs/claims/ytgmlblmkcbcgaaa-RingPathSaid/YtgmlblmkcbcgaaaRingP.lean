/-
  Layer 8, the plain laws: the opposite direction, distinct vertices, another first vertex, a repeated point.
-/
import Derived.Test.YtgmlblmkcbcgaaaRingO
namespace Go.Vm
set_option maxRecDepth 20000
set_option linter.unusedVariables false
set_option linter.unusedSimpArgs false
open Go Go.RowKit Go.Proofs
namespace Sg

/-- A point that two segments have as an end lies on both. -/
theorem end_meet {s t : Seg} (hs : validS s = true) (ht : validS t = true) {p : V2} (h1 : p = s.a ∨ p = s.b) (h2 : onB t p = true) : rmeetI s t ≠ 0 := by
  intro h0
  have on1 : onB s p = true := by
    rcases h1 with rfl | rfl
    · exact on_a hs
    · exact on_b hs
  have hm : p ∈ commonL s t := by
    unfold commonL
    rw [(sort_facts _).2]
    refine List.mem_filter.2 ⟨?_, by rw [bothB, on1, h2]; rfl⟩
    unfold endsL
    rcases h1 with rfl | rfl <;> simp
  have hpos := List.length_pos_of_mem hm
  unfold rmeetI at h0
  rw [if_neg (by rw [hs, ht]; simp)] at h0
  by_cases h3 : (commonL s t).length > 1
  · rw [if_pos h3] at h0; cases h0
  · rw [if_neg h3, if_pos (by omega)] at h0; cases h0
theorem dist_lt {l : List V2} (hr : RingOk l) {i j : Nat} (hi : i < l.length) (hj : j < l.length) (e : gt l i = gt l j) : i = j := by
  refine Classical.byContradiction (fun hne => ?_)
  by_cases h1 : j = (i + 1) % l.length
  · refine gt_nxt_ne hr hi ?_
    rw [nxt, ← h1]; exact e
  by_cases h2 : i = (j + 1) % l.length
  · refine gt_nxt_ne hr hj ?_
    rw [nxt, ← h2]; exact e.symm
  refine end_meet (edge_valid hr.near i) (edge_valid hr.near j) (p := gt l i) (.inl rfl) ?_ (hr.apart i hi j hj hne h1 h2)
  rw [e]
  exact on_a (edge_valid hr.near j)
theorem less_total {a b : V2} (h1 : lessB a b = false) (h2 : lessB b a = false) : a = b := by
  obtain ⟨ax, ay⟩ := a
  obtain ⟨bx, bY⟩ := b
  simp only [lessB, Bool.or_eq_false_iff, Bool.and_eq_false_iff, decide_eq_false_iff_not] at h1 h2
  congr 1 <;> omega
/-- The least vertex comes first, wherever the ring began. -/
theorem begin_of_rot {l l' : List V2} {k : Nat} (h : Rot l l' k) (hr : RingOk l) : beginL l' = beginL l := by
  have h0 : 0 < l.length := by have := hr.three; omega
  have m1 : minIx l < l.length := lk_lt l _ h0
  have m2 : minIx l' < l.length := by have := lk_lt l' l'.length (by rw [h.len]; exact h0); rw [← h.len]; exact this
  have b1 := begin_rot l
  have b2 := begin_rot l'
  have key : (k + minIx l') % l.length = minIx l := by
    refine dist_lt hr (Nat.mod_lt _ h0) m1 ?_
    refine less_total ?_ ?_
    · exact (lk_min l l.length).2 _ (Nat.mod_lt _ h0)
    · have hb := h.back
      have := (lk_min l' l'.length).2 ((l.length - k + minIx l) % l.length) (by rw [h.len]; exact Nat.mod_lt _ h0)
      rw [h.at_ _ (Nat.mod_lt _ h0)] at this
      have e1 : gt l' (lk l' l'.length) = gt l ((k + minIx l') % l.length) := h.at_ _ m2
      rw [e1, Nat.add_mod_mod, show k + (l.length - k + minIx l) = minIx l + l.length by have := h.le; omega, Nat.add_mod_right, Nat.mod_eq_of_lt m1] at this
      exact this
  refine list_ext (by rw [b2.len, b1.len, h.len]) (fun i hi => ?_)
  rw [b2.len, h.len] at hi
  rw [b1.at_ i hi, b2.at_ i (by rw [h.len]; exact hi), h.at_ _ (by rw [h.len]; exact Nat.mod_lt _ h0), h.len, Nat.add_mod_mod, ← Nat.add_assoc, ← Nat.mod_add_mod, key]

/-! ### The opposite direction -/
structure Rev (l l' : List V2) : Prop where
  len : l'.length = l.length
  at_ : ∀ i, i < l.length → gt l' i = gt l (l.length - 1 - i)
theorem rev_reverse (l : List V2) : Rev l l.reverse := by
  refine ⟨List.length_reverse, fun i hi => ?_⟩
  simp [gt, List.getD, List.getElem?_reverse hi]
section
variable {l l' : List V2}
theorem Rev.nxt (h : Rev l l') {i : Nat} (hi : i < l.length) : nxt l' i = lst l (l.length - 1 - i) := by
  unfold Sg.nxt Sg.lst
  rw [h.len, h.at_ _ (Nat.mod_lt _ (by omega))]
  congr 1
  by_cases e : i + 1 = l.length
  · rw [e, Nat.mod_self, show l.length - 1 - i + l.length - 1 = l.length - 1 by omega, Nat.mod_eq_of_lt (by omega)]; omega
  · rw [Nat.mod_eq_of_lt (show i + 1 < l.length by omega), show l.length - 1 - i + l.length - 1 = (l.length - 1 - (i + 1)) + l.length by omega, Nat.add_mod_right, Nat.mod_eq_of_lt (by omega)]
theorem Rev.lst (h : Rev l l') {i : Nat} (hi : i < l.length) : lst l' i = Sg.nxt l (l.length - 1 - i) := by
  unfold Sg.nxt Sg.lst
  rw [h.len, h.at_ _ (Nat.mod_lt _ (by omega))]
  congr 1
  by_cases e : i = 0
  · subst e
    rw [show 0 + l.length - 1 = l.length - 1 by omega, Nat.mod_eq_of_lt (show l.length - 1 < l.length by omega), show l.length - 1 - 0 + 1 = l.length by omega, Nat.mod_self]; omega
  · rw [show i + l.length - 1 = (i - 1) + l.length by omega, Nat.add_mod_right, Nat.mod_eq_of_lt (show i - 1 < l.length by omega), Nat.mod_eq_of_lt (by omega)]; omega
theorem sumN_rev (f : Nat → Int) : ∀ n, sumN n (fun i => f (n - 1 - i)) = sumN n f
  | 0 => rfl
  | n + 1 => by
    have e1 : sumN (n + 1) (fun i => f (n + 1 - 1 - i)) = sumN (1 + n) (fun i => f (n + 1 - 1 - i)) := by rw [Nat.add_comm]
    rw [e1, sumN_add]
    have e2 : sumN n (fun i => f (n + 1 - 1 - (1 + i))) = sumN n (fun i => f (n - 1 - i)) := sumN_congr (fun i hi => by congr 1; omega)
    rw [e2, sumN_rev f n]
    simp only [sumN]
    rw [show n + 1 - 1 - 0 = n by omega]
    omega
theorem Rev.area (h : Rev l l') : areaZ l' = -areaZ l := by
  rcases Nat.eq_zero_or_pos l.length with h0 | h0
  · unfold areaZ; rw [h.len, h0]; rfl
  unfold areaZ
  rw [h.len]
  have e : sumN l.length (fun i => crossP (gt l' i) (Sg.nxt l' i)) = sumN l.length (fun i => (fun j => crossP (gt l j) (Sg.lst l j)) (l.length - 1 - i)) :=
    sumN_congr (fun i hi => by rw [h.at_ i hi, h.nxt hi])
  rw [e, sumN_rev (fun j => crossP (gt l j) (Sg.lst l j)) l.length, ← sumN_rot (fun j => crossP (gt l j) (Sg.nxt l j)) (k := l.length - 1) (by omega)]
  have neg : ∀ n (f g : Nat → Int), (∀ i, i < n → f i = -g i) → sumN n f = -sumN n g := by
    intro n f g hfg
    induction n with
    | zero => rfl
    | succ n ih => simp only [sumN]; rw [ih (fun i hi => hfg i (by omega)), hfg n (by omega)]; omega
  refine neg _ _ _ (fun i hi => ?_)
  have e3 : Sg.lst l i = gt l ((l.length - 1 + i) % l.length) := by unfold Sg.lst; rw [show i + l.length - 1 = l.length - 1 + i by omega]
  have e4 : gt l i = Sg.nxt l ((l.length - 1 + i) % l.length) := by
    unfold Sg.nxt
    rw [Nat.mod_add_mod, show l.length - 1 + i + 1 = i + l.length by omega, Nat.add_mod_right, Nat.mod_eq_of_lt hi]
  rw [e3, ← e4]
  simp only [crossP]
  grind
theorem Rev.near (h : Rev l l') (hn : nearR l = true) : nearR l' = true := near_true (fun i hi => by
  rw [h.at_ i (by rw [← h.len]; exact hi)]
  exact (near_in hn _).within (by decide) (by decide))
theorem sgn_opp (x : Int) : sgnI (-x) = -sgnI x := by
  unfold sgnI
  by_cases h1 : x < 0
  · simp only [h1, show ¬ (-x) < 0 by omega, show -x > 0 by omega, show ¬ x > 0 by omega, if_true, if_false]; try omega
  · by_cases h2 : x > 0
    · simp only [h1, h2, show (-x) < 0 by omega, show ¬ -x > 0 by omega, if_true, if_false]; try omega
    · obtain rfl : x = 0 := by omega
      rfl
theorem turn_rev (a b c : V2) : turnP c b a = -turnP a b c := by
  unfold turnP
  rw [← sgn_opp]
  congr 1
  simp only [crossP, subP]
  grind
theorem turn_bb (a b : V2) : turnP a b b = 0 := by
  unfold turnP
  rw [show crossP (subP b a) (subP b a) = 0 by simp only [crossP]; rw [Int.mul_comm]; omega]
  rfl
theorem Rev.ex (h : Rev l l') (hr : RingOk l) : ex l' = none := ex_none (fun i hi => by
  rw [h.len] at hi
  unfold extraB
  have e : turnW (Sg.lst l' i) (gt l' i) (Sg.nxt l' i) = turnP (Sg.lst l' i) (gt l' i) (Sg.nxt l' i) := by rw [Sg.lst, Sg.nxt, turn_eq (h.near hr.near)]
  have ht := hr.turns (l.length - 1 - i) (by omega)
  have hd : turnP (Sg.lst l' i) (gt l' i) (Sg.nxt l' i) ≠ 0 := by
    rw [h.at_ i hi, h.nxt hi, h.lst hi, turn_rev]; omega
  rw [e, decide_eq_false hd, Bool.or_false]
  refine decide_eq_false (fun he => hd ?_)
  rw [← he]
  exact turn_bb _ _)
theorem rev_bad (hr : RingOk l) : validR l.reverse = false := by
  cases hc : validR l.reverse with
  | false => rfl
  | true =>
    have h1 := (ring_ok.1 hc).area
    have h2 := hr.area
    rw [(rev_reverse l).area] at h1
    omega
theorem clean_rev (hr : RingOk l) : cleanR l.reverse = (beginL l, 0) := by
  have h := rev_reverse l
  have hc : cleanL l.reverse = l.reverse := cleanL_none (h.ex hr)
  have hl := hr.len
  have ha := h.area
  have hp := hr.area
  have hn := h.near hr.near
  have hup : upR l.reverse = l := by
    rw [upR, area_eq hn (by rw [h.len]; omega), ha, if_pos (by omega), List.reverse_reverse]
  have hv := ring_ok.2 hr
  simp [cleanR, hc, hup, hn, hv, show ¬ 200 < l.length by omega]
theorem clean_repeat (hr : RingOk l) : cleanR (l ++ [gt l (l.length - 1)]) = (beginL l, 0) := by
  have h3 := hr.three
  have hf := hr.forty
  have hL : (l ++ [gt l (l.length - 1)]).length = l.length + 1 := by simp
  have at1 : ∀ i, i < l.length → gt (l ++ [gt l (l.length - 1)]) i = gt l i := fun i hi => by simp [gt, List.getD, List.getElem?_append_left hi]
  have at2 : gt (l ++ [gt l (l.length - 1)]) l.length = gt l (l.length - 1) := by simp [gt, List.getD]
  have hn : nearR (l ++ [gt l (l.length - 1)]) = true := near_true (fun i hi => by
    rw [hL] at hi
    by_cases e : i < l.length
    · rw [at1 i e]; exact (near_in hr.near _).within (by decide) (by decide)
    · rw [show i = l.length by omega, at2]; exact (near_in hr.near _).within (by decide) (by decide))
  have hnx : ∀ i, i < l.length - 1 → nxt (l ++ [gt l (l.length - 1)]) i = nxt l i := fun i hi => by
    unfold Sg.nxt
    rw [hL, Nat.mod_eq_of_lt (by omega), Nat.mod_eq_of_lt (by omega), at1 _ (by omega)]
  have hls : ∀ i, i < l.length - 1 → lst (l ++ [gt l (l.length - 1)]) i = lst l i := fun i hi => by
    unfold Sg.lst
    rw [hL]
    by_cases e : i = 0
    · subst e
      rw [show 0 + (l.length + 1) - 1 = l.length by omega, Nat.mod_eq_of_lt (by omega), at2, show 0 + l.length - 1 = l.length - 1 by omega, Nat.mod_eq_of_lt (by omega)]
    · rw [show i + (l.length + 1) - 1 = (i - 1) + (l.length + 1) by omega, Nat.add_mod_right, Nat.mod_eq_of_lt (by omega), at1 _ (by omega), show i + l.length - 1 = (i - 1) + l.length by omega, Nat.add_mod_right, Nat.mod_eq_of_lt (by omega)]
  have hex : Sg.ex (l ++ [gt l (l.length - 1)]) = some (l.length - 1) := by
    refine ex_some (by rw [hL]; omega) (extra_l ?_) (fun j hj => ?_)
    · rw [at1 _ (by omega)]
      unfold Sg.nxt
      rw [hL, show l.length - 1 + 1 = l.length by omega, Nat.mod_eq_of_lt (by omega), at2]
    · have e := ring_ex hr
      have := List.find?_eq_none.1 e j (List.mem_range.2 (by omega))
      unfold extraB at this ⊢
      rw [at1 j (by omega), hnx j hj, hls j hj]
      simpa using this
  have her : (l ++ [gt l (l.length - 1)]).eraseIdx (l.length - 1) = l := by
    refine list_ext (by rw [List.length_eraseIdx, hL]; split <;> omega) (fun i hi => ?_)
    rw [List.length_eraseIdx, hL] at hi
    have hi' : i < l.length := by split at hi <;> omega
    show ((l ++ [gt l (l.length - 1)]).eraseIdx (l.length - 1)).getD i ⟨0, 0⟩ = _
    rw [List.getD, List.getElem?_eraseIdx]
    by_cases e : i < l.length - 1
    · rw [if_pos e]; exact at1 i hi'
    · rw [if_neg e, show i + 1 = l.length by omega]
      rw [show i = l.length - 1 by omega]; exact at2
  have hc : cleanL (l ++ [gt l (l.length - 1)]) = l := by rw [cleanL_some hex, her, cleanL_none (ring_ex hr)]
  have hup : upR l = l := by
    have := hr.area
    rw [upR, area_eq hr.near (by omega), if_neg (by omega)]
  have hv := ring_ok.2 hr
  have h200 : ¬ 200 < (l ++ [gt l (l.length - 1)]).length := by rw [hL]; omega
  unfold cleanR
  rw [if_neg h200, if_neg (by rw [hn]; simp), hc, hup, if_neg (by rw [hv]; simp)]
end
end Sg
end Go.Vm
