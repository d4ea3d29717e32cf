/-
  Layer 8, the plain laws: the opposite direction, distinct vertices, another first vertex, a repeated point.
  Layer 8: the contract of RingStart.
-/
import Derived.Test.YtgmlblmkcbcgaaaRingO
namespace Go.Vm
set_option maxRecDepth 20000
set_option linter.unusedVariables false
set_option linter.unusedSimpArgs false
open Go Go.RowKit Go.Proofs
namespace Sg

/-- A point that two segments have as an end lies on both. -/
theorem end_meet {s t : Seg} (hs : validS s = true) (ht : validS t = true) {p : V2} (h1 : p = s.a ∨ p = s.b) (h2 : onB t p = true) : rmeetI s t ≠ 0 := by
  intro h0
  have on1 : onB s p = true := by
    rcases h1 with rfl | rfl
    · exact on_a hs
    · exact on_b hs
  have hm : p ∈ commonL s t := by
    unfold commonL
    rw [(sort_facts _).2]
    refine List.mem_filter.2 ⟨?_, by rw [bothB, on1, h2]; rfl⟩
    unfold endsL
    rcases h1 with rfl | rfl <;> simp
  have hpos := List.length_pos_of_mem hm
  unfold rmeetI at h0
  rw [if_neg (by rw [hs, ht]; simp)] at h0
  by_cases h3 : (commonL s t).length > 1
  · rw [if_pos h3] at h0; cases h0
  · rw [if_neg h3, if_pos (by omega)] at h0; cases h0
theorem dist_lt {l : List V2} (hr : RingOk l) {i j : Nat} (hi : i < l.length) (hj : j < l.length) (e : gt l i = gt l j) : i = j := by
  refine Classical.byContradiction (fun hne => ?_)
  by_cases h1 : j = (i + 1) % l.length
  · refine gt_nxt_ne hr hi ?_
    rw [nxt, ← h1]; exact e
  by_cases h2 : i = (j + 1) % l.length
  · refine gt_nxt_ne hr hj ?_
    rw [nxt, ← h2]; exact e.symm
  refine end_meet (edge_valid hr.near i) (edge_valid hr.near j) (p := gt l i) (.inl rfl) ?_ (hr.apart i hi j hj hne h1 h2)
  rw [e]
  exact on_a (edge_valid hr.near j)
theorem less_total {a b : V2} (h1 : lessB a b = false) (h2 : lessB b a = false) : a = b := by
  obtain ⟨ax, ay⟩ := a
  obtain ⟨bx, bY⟩ := b
  simp only [lessB, Bool.or_eq_false_iff, Bool.and_eq_false_iff, decide_eq_false_iff_not] at h1 h2
  congr 1 <;> omega
/-- The least vertex comes first, wherever the ring began. -/
theorem begin_of_rot {l l' : List V2} {k : Nat} (h : Rot l l' k) (hr : RingOk l) : beginL l' = beginL l := by
  have h0 : 0 < l.length := by have := hr.three; omega
  have m1 : minIx l < l.length := lk_lt l _ h0
  have m2 : minIx l' < l.length := by have := lk_lt l' l'.length (by rw [h.len]; exact h0); rw [← h.len]; exact this
  have b1 := begin_rot l
  have b2 := begin_rot l'
  have key : (k + minIx l') % l.length = minIx l := by
    refine dist_lt hr (Nat.mod_lt _ h0) m1 ?_
    refine less_total ?_ ?_
    · exact (lk_min l l.length).2 _ (Nat.mod_lt _ h0)
    · have hb := h.back
      have := (lk_min l' l'.length).2 ((l.length - k + minIx l) % l.length) (by rw [h.len]; exact Nat.mod_lt _ h0)
      rw [h.at_ _ (Nat.mod_lt _ h0)] at this
      have e1 : gt l' (lk l' l'.length) = gt l ((k + minIx l') % l.length) := h.at_ _ m2
      rw [e1, Nat.add_mod_mod, show k + (l.length - k + minIx l) = minIx l + l.length by have := h.le; omega, Nat.add_mod_right, Nat.mod_eq_of_lt m1] at this
      exact this
  refine list_ext (by rw [b2.len, b1.len, h.len]) (fun i hi => ?_)
  rw [b2.len, h.len] at hi
  rw [b1.at_ i hi, b2.at_ i (by rw [h.len]; exact hi), h.at_ _ (by rw [h.len]; exact Nat.mod_lt _ h0), h.len, Nat.add_mod_mod, ← Nat.add_assoc, ← Nat.mod_add_mod, key]

/-! ### The opposite direction -/
structure Rev (l l' : List V2) : Prop where
  len : l'.length = l.length
  at_ : ∀ i, i < l.length → gt l' i = gt l (l.length - 1 - i)
theorem rev_reverse (l : List V2) : Rev l l.reverse := by
  refine ⟨List.length_reverse, fun i hi => ?_⟩
  simp [gt, List.getD, List.getElem?_reverse hi]
section
variable {l l' : List V2}
theorem Rev.nxt (h : Rev l l') {i : Nat} (hi : i < l.length) : nxt l' i = lst l (l.length - 1 - i) := by
  unfold Sg.nxt Sg.lst
  rw [h.len, h.at_ _ (Nat.mod_lt _ (by omega))]
  congr 1
  by_cases e : i + 1 = l.length
  · rw [e, Nat.mod_self, show l.length - 1 - i + l.length - 1 = l.length - 1 by omega, Nat.mod_eq_of_lt (by omega)]; omega
  · rw [Nat.mod_eq_of_lt (show i + 1 < l.length by omega), show l.length - 1 - i + l.length - 1 = (l.length - 1 - (i + 1)) + l.length by omega, Nat.add_mod_right, Nat.mod_eq_of_lt (by omega)]
theorem Rev.lst (h : Rev l l') {i : Nat} (hi : i < l.length) : lst l' i = Sg.nxt l (l.length - 1 - i) := by
  unfold Sg.nxt Sg.lst
  rw [h.len, h.at_ _ (Nat.mod_lt _ (by omega))]
  congr 1
  by_cases e : i = 0
  · subst e
    rw [show 0 + l.length - 1 = l.length - 1 by omega, Nat.mod_eq_of_lt (show l.length - 1 < l.length by omega), show l.length - 1 - 0 + 1 = l.length by omega, Nat.mod_self]; omega
  · rw [show i + l.length - 1 = (i - 1) + l.length by omega, Nat.add_mod_right, Nat.mod_eq_of_lt (show i - 1 < l.length by omega), Nat.mod_eq_of_lt (by omega)]; omega
theorem sumN_rev (f : Nat → Int) : ∀ n, sumN n (fun i => f (n - 1 - i)) = sumN n f
  | 0 => rfl
  | n + 1 => by
    have e1 : sumN (n + 1) (fun i => f (n + 1 - 1 - i)) = sumN (1 + n) (fun i => f (n + 1 - 1 - i)) := by rw [Nat.add_comm]
    rw [e1, sumN_add]
    have e2 : sumN n (fun i => f (n + 1 - 1 - (1 + i))) = sumN n (fun i => f (n - 1 - i)) := sumN_congr (fun i hi => by congr 1; omega)
    rw [e2, sumN_rev f n]
    simp only [sumN]
    rw [show n + 1 - 1 - 0 = n by omega]
    omega
theorem Rev.area (h : Rev l l') : areaZ l' = -areaZ l := by
  rcases Nat.eq_zero_or_pos l.length with h0 | h0
  · unfold areaZ; rw [h.len, h0]; rfl
  unfold areaZ
  rw [h.len]
  have e : sumN l.length (fun i => crossP (gt l' i) (Sg.nxt l' i)) = sumN l.length (fun i => (fun j => crossP (gt l j) (Sg.lst l j)) (l.length - 1 - i)) :=
    sumN_congr (fun i hi => by rw [h.at_ i hi, h.nxt hi])
  rw [e, sumN_rev (fun j => crossP (gt l j) (Sg.lst l j)) l.length, ← sumN_rot (fun j => crossP (gt l j) (Sg.nxt l j)) (k := l.length - 1) (by omega)]
  have neg : ∀ n (f g : Nat → Int), (∀ i, i < n → f i = -g i) → sumN n f = -sumN n g := by
    intro n f g hfg
    induction n with
    | zero => rfl
    | succ n ih => simp only [sumN]; rw [ih (fun i hi => hfg i (by omega)), hfg n (by omega)]; omega
  refine neg _ _ _ (fun i hi => ?_)
  have e3 : Sg.lst l i = gt l ((l.length - 1 + i) % l.length) := by unfold Sg.lst; rw [show i + l.length - 1 = l.length - 1 + i by omega]
  have e4 : gt l i = Sg.nxt l ((l.length - 1 + i) % l.length) := by
    unfold Sg.nxt
    rw [Nat.mod_add_mod, show l.length - 1 + i + 1 = i + l.length by omega, Nat.add_mod_right, Nat.mod_eq_of_lt hi]
  rw [e3, ← e4]
  simp only [crossP]
  grind
theorem Rev.near (h : Rev l l') (hn : nearR l = true) : nearR l' = true := near_true (fun i hi => by
  rw [h.at_ i (by rw [← h.len]; exact hi)]
  exact (near_in hn _).within (by decide) (by decide))
theorem sgn_opp (x : Int) : sgnI (-x) = -sgnI x := by
  unfold sgnI
  by_cases h1 : x < 0
  · simp only [h1, show ¬ (-x) < 0 by omega, show -x > 0 by omega, show ¬ x > 0 by omega, if_true, if_false]; try omega
  · by_cases h2 : x > 0
    · simp only [h1, h2, show (-x) < 0 by omega, show ¬ -x > 0 by omega, if_true, if_false]; try omega
    · obtain rfl : x = 0 := by omega
      rfl
theorem turn_rev (a b c : V2) : turnP c b a = -turnP a b c := by
  unfold turnP
  rw [← sgn_opp]
  congr 1
  simp only [crossP, subP]
  grind
theorem turn_bb (a b : V2) : turnP a b b = 0 := by
  unfold turnP
  rw [show crossP (subP b a) (subP b a) = 0 by simp only [crossP]; rw [Int.mul_comm]; omega]
  rfl
theorem Rev.ex (h : Rev l l') (hr : RingOk l) : ex l' = none := ex_none (fun i hi => by
  rw [h.len] at hi
  unfold extraB
  have e : turnW (Sg.lst l' i) (gt l' i) (Sg.nxt l' i) = turnP (Sg.lst l' i) (gt l' i) (Sg.nxt l' i) := by rw [Sg.lst, Sg.nxt, turn_eq (h.near hr.near)]
  have ht := hr.turns (l.length - 1 - i) (by omega)
  have hd : turnP (Sg.lst l' i) (gt l' i) (Sg.nxt l' i) ≠ 0 := by
    rw [h.at_ i hi, h.nxt hi, h.lst hi, turn_rev]; omega
  rw [e, decide_eq_false hd, Bool.or_false]
  refine decide_eq_false (fun he => hd ?_)
  rw [← he]
  exact turn_bb _ _)
theorem rev_bad (hr : RingOk l) : validR l.reverse = false := by
  cases hc : validR l.reverse with
  | false => rfl
  | true =>
    have h1 := (ring_ok.1 hc).area
    have h2 := hr.area
    rw [(rev_reverse l).area] at h1
    omega
theorem clean_rev (hr : RingOk l) : cleanR l.reverse = (beginL l, 0) := by
  have h := rev_reverse l
  have hc : cleanL l.reverse = l.reverse := cleanL_none (h.ex hr)
  have hl := hr.len
  have ha := h.area
  have hp := hr.area
  have hn := h.near hr.near
  have hup : upR l.reverse = l := by
    rw [upR, area_eq hn (by rw [h.len]; omega), ha, if_pos (by omega), List.reverse_reverse]
  have hv := ring_ok.2 hr
  simp [cleanR, hc, hup, hn, hv, show ¬ 200 < l.length by omega]
theorem clean_repeat (hr : RingOk l) : cleanR (l ++ [gt l (l.length - 1)]) = (beginL l, 0) := by
  have h3 := hr.three
  have hf := hr.forty
  have hL : (l ++ [gt l (l.length - 1)]).length = l.length + 1 := by simp
  have at1 : ∀ i, i < l.length → gt (l ++ [gt l (l.length - 1)]) i = gt l i := fun i hi => by simp [gt, List.getD, List.getElem?_append_left hi]
  have at2 : gt (l ++ [gt l (l.length - 1)]) l.length = gt l (l.length - 1) := by simp [gt, List.getD]
  have hn : nearR (l ++ [gt l (l.length - 1)]) = true := near_true (fun i hi => by
    rw [hL] at hi
    by_cases e : i < l.length
    · rw [at1 i e]; exact (near_in hr.near _).within (by decide) (by decide)
    · rw [show i = l.length by omega, at2]; exact (near_in hr.near _).within (by decide) (by decide))
  have hnx : ∀ i, i < l.length - 1 → nxt (l ++ [gt l (l.length - 1)]) i = nxt l i := fun i hi => by
    unfold Sg.nxt
    rw [hL, Nat.mod_eq_of_lt (by omega), Nat.mod_eq_of_lt (by omega), at1 _ (by omega)]
  have hls : ∀ i, i < l.length - 1 → lst (l ++ [gt l (l.length - 1)]) i = lst l i := fun i hi => by
    unfold Sg.lst
    rw [hL]
    by_cases e : i = 0
    · subst e
      rw [show 0 + (l.length + 1) - 1 = l.length by omega, Nat.mod_eq_of_lt (by omega), at2, show 0 + l.length - 1 = l.length - 1 by omega, Nat.mod_eq_of_lt (by omega)]
    · rw [show i + (l.length + 1) - 1 = (i - 1) + (l.length + 1) by omega, Nat.add_mod_right, Nat.mod_eq_of_lt (by omega), at1 _ (by omega), show i + l.length - 1 = (i - 1) + l.length by omega, Nat.add_mod_right, Nat.mod_eq_of_lt (by omega)]
  have hex : Sg.ex (l ++ [gt l (l.length - 1)]) = some (l.length - 1) := by
    refine ex_some (by rw [hL]; omega) (extra_l ?_) (fun j hj => ?_)
    · rw [at1 _ (by omega)]
      unfold Sg.nxt
      rw [hL, show l.length - 1 + 1 = l.length by omega, Nat.mod_eq_of_lt (by omega), at2]
    · have e := ring_ex hr
      have := List.find?_eq_none.1 e j (List.mem_range.2 (by omega))
      unfold extraB at this ⊢
      rw [at1 j (by omega), hnx j hj, hls j hj]
      simpa using this
  have her : (l ++ [gt l (l.length - 1)]).eraseIdx (l.length - 1) = l := by
    refine list_ext (by rw [List.length_eraseIdx, hL]; split <;> omega) (fun i hi => ?_)
    rw [List.length_eraseIdx, hL] at hi
    have hi' : i < l.length := by split at hi <;> omega
    show ((l ++ [gt l (l.length - 1)]).eraseIdx (l.length - 1)).getD i ⟨0, 0⟩ = _
    rw [List.getD, List.getElem?_eraseIdx]
    by_cases e : i < l.length - 1
    · rw [if_pos e]; exact at1 i hi'
    · rw [if_neg e, show i + 1 = l.length by omega]
      rw [show i = l.length - 1 by omega]; exact at2
  have hc : cleanL (l ++ [gt l (l.length - 1)]) = l := by rw [cleanL_some hex, her, cleanL_none (ring_ex hr)]
  have hup : upR l = l := by
    have := hr.area
    rw [upR, area_eq hr.near (by omega), if_neg (by omega)]
  have hv := ring_ok.2 hr
  have h200 : ¬ 200 < (l ++ [gt l (l.length - 1)]).length := by rw [hL]; omega
  unfold cleanR
  rw [if_neg h200, if_neg (by rw [hn]; simp), hc, hup, if_neg (by rw [hv]; simp)]
end
end Sg
end Go.Vm
namespace Go.Vm
set_option maxRecDepth 20000
set_option linter.unusedVariables false
set_option linter.unusedSimpArgs false
open Go Go.RowKit Go.Proofs
namespace Sg

theorem turned_sl {l : List V2} {k K : Nat} (hK : K = k) (hk : k ≤ l.length) : DLe (.one (.sl (0 + (l.length - K) + (K - 0)) 2 (fun i j => bif i.blt (0 + (l.length - K)) then (bif i.blt 0 then (.v Go.undef) else vG l (K + (i - 0)) j) else vG l (0 + (i - (0 + (l.length - K)))) j))) (.one (vlS (rotL l k))) := by
  subst hK
  refine DLe.one (SLe.slN (by rw [rotL_len]; omega) (fun i hi j hj => SLe.of_eq ?_))
  simp only [Nat.zero_add, Nat.sub_zero] at hi ⊢
  have hil : i < l.length := by omega
  by_cases hc : i < l.length - K
  · rw [blt_t hc, cond_true, blt_f (Nat.not_lt_zero _), cond_false]
    refine vG_eq ?_ j
    rw [rotL_at _ _ _ hk hil, if_pos hc]
  · rw [blt_f hc, cond_false]
    refine vG_eq ?_ j
    rw [rotL_at _ _ _ hk hil, if_neg hc]
theorem lstart_det (l : List V2) (a : Nat) (p : V2) (ha : a ≤ 255) (hl : l.length ≤ maxLen) : Det Try.prog 10 [.one (vlS l), .one (.v (.int .u8 a)), vD p] (tbool true) := by
  refine det_of_awp TTok mixed Try.func10 rfl rfl [8] (Nat.le_of_ble_eq_true rfl) ?_
  refine CallW.mk' awake8_det ?_
  refine Split.f ?_
  refine CallW.bool (few_det l hl) (fun b hb => ?_)
  refine Split.mk (fun h => ?_) (fun h => ?_)
  · repeat' first | refine Split.t ?_ | refine Split.f ?_ | refine Split.isT h ?_ | fail
    exact Fin.rfl'
  have h6 : l.length ≤ 60 := by
    have : b = true := by simpa using h
    exact of_decide_eq_true (by rw [← hb, this])
  repeat' first | refine Split.t ?_ | refine Split.f ?_ | refine Split.isF h ?_ | fail
  refine CallW.bool (valid_det' l (by omega)) (fun c hc => ?_)
  repeat' first | refine Split.t ?_ | refine Split.f ?_ | refine Split.isF h ?_ | fail
  refine Split.mk (fun h => ?_) (fun h => ?_)
  · exact Fin.rfl'
  have hr : RingOk l := ring_ok.1 (by rw [← hc]; simpa using h)
  have h3 := hr.three
  have e1 : IntKind.i64.wrap (a : Int) = a := Sg.hw _ (by omega) (by omega)
  have hb := tmodB a l.length (by omega)
  have hK : ((IntKind.i64.wrap (a : Int)).tmod l.length).toNat = a % l.length := by rw [e1, tmodN]
  have hq : (IntKind.i64.wrap (a : Int)).tmod l.length = (a : Int).tmod l.length := by rw [e1]
  refine Need.mk ⟨_, rfl⟩ ?_
  refine Need.mk (by omega) ?_
  refine Need.mk (by rw [e1]; omega) ?_
  refine Need.mk (needApp (by omega) (by decide)) ?_
  refine Need.mk (by rw [e1]; omega) ?_
  refine Need.mk (needApp (by omega) (by decide)) ?_
  refine Need.mk (by kernel_rfl) ?_
  have hk : a % l.length ≤ l.length := Nat.le_of_lt (Nat.mod_lt _ (by omega))
  have hR := rot_rotL l (a % l.length) hk
  have hr' := hR.ok hr
  have hv' := ring_ok.2 hr'
  have hl' : (rotL l (a % l.length)).length ≤ 40000 := by rw [rotL_len]; omega
  refine Cut.mk (Adj.freeze 8 30 _ _ 2 32 _ rfl rfl (Adj.keep [(0, .d (.one (vlS l))), (5, .ptr 5 0), (8, .d (.one (vlS (rotL l (a % l.length)))))] [(5, .box (vL p))] (.cons (.box (LLe.of_eq rfl)) .nil) (.cons .same (.cons (.box rfl rfl) (.cons (.data (turned_sl hK hk)) .nil))) ?_))
  refine CallW.mk' (canon_det l (by omega)) ?_
  have ea : area2R (rotL l (a % l.length)) = area2R l := by
    unfold area2R
    rw [if_pos (ring_ok.2 hr), if_pos hv', area_eq hr'.near hl', area_eq hr.near (by omega), hR.area]
  have ew : whereV (rotL l (a % l.length)) p = whereV l p := hR.whereV p
  have ecn : canonR l = beginL l := by rw [canonR, if_pos (ring_ok.2 hr)]
  have ecn' : canonR (rotL l (a % l.length)) = beginL l := by rw [canonR, if_pos hv', begin_of_rot hR hr]
  have hbl : (beginL l).length ≤ 40000 := by rw [beginL, rotL_len]; omega
  refine CallW.mk' ((valid_det' _ hl').eq (by rw [hv'])) ?_
  repeat' first | refine Split.t ?_ | refine Split.f ?_ | fail
  refine CallW.int ((area2_det _ hl').eq (by rw [ea])) (fun n hn => ?_)
  repeat' first | refine Split.t ?_ | refine Split.f ?_ | fail
  refine CallW.int (area2_det l (by omega)) (fun m hm => ?_)
  obtain rfl : n = m := hn.trans hm.symm
  have en : (n != n) = false := by simp
  repeat' first | refine Split.t ?_ | refine Split.f ?_ | refine Split.isF en ?_ | fail
  refine CallW.mk' ((canon_det _ hl').eq (by rw [ecn'])) ?_
  rw [ecn]
  repeat' first | refine Split.t ?_ | refine Split.f ?_ | refine Split.isF en ?_ | fail
  refine CallW.mk' ((same_det _ _ hbl).eq (by rw [decide_eq_true rfl])) ?_
  repeat' first | refine Split.t ?_ | refine Split.f ?_ | refine Split.isF en ?_ | fail
  refine CallW.int ((whereV_det _ p hl').eq (by rw [ew])) (fun x hx => ?_)
  repeat' first | refine Split.t ?_ | refine Split.f ?_ | refine Split.isF en ?_ | fail
  refine CallW.int (whereV_det l p (by omega)) (fun y hy => ?_)
  obtain rfl : x = y := hx.trans hy.symm
  have ex : (x != x) = false := by simp
  repeat' first | refine Split.t ?_ | refine Split.f ?_ | refine Split.isF en ?_ | refine Split.isF ex ?_ | fail
  refine CallW.mk' (reverse_det l (by omega)) ?_
  repeat' first | refine Split.t ?_ | refine Split.f ?_ | refine Split.isF en ?_ | refine Split.isF ex ?_ | fail
  refine CallW.mk' ((valid_det' l.reverse (by rw [List.length_reverse]; omega)).eq (by rw [rev_bad hr])) ?_
  repeat' first | refine Split.t ?_ | refine Split.f ?_ | refine Split.isF en ?_ | refine Split.isF ex ?_ | fail
  refine Need.mk (by kernel_rfl) ?_
  repeat' first | refine Split.t ?_ | refine Split.f ?_ | refine Split.isF en ?_ | refine Split.isF ex ?_ | fail
  generalize ht : rotL l (a % l.length) = u at *
  have hu : u.length = l.length := hR.len
  have hw1 : IntKind.i64.wrap ((u.length : Int) - 1) = ((u.length - 1 : Nat) : Int) := by rw [hu, Sg.hw _ (by omega) (by omega)]; omega
  refine Need.mk (needApp (by omega) (by decide)) ?_
  refine Need.mk (by rw [hw1]; omega) ?_
  refine Need.mk (needApp (by omega) (by decide)) ?_
  refine Need.mk (by kernel_rfl) ?_
  refine CallW.mk' (reverse_det u hl') ?_
  refine CallW.ring ((clean_det u.reverse (by rw [List.length_reverse, hu]; exact hl)).eq (by rw [clean_rev hr', begin_of_rot hR hr])) (fun e he => ?_)
  refine CallW.ring (((clean_det (u ++ [gt u (u.length - 1)]) (by simp only [List.length_append, hu, List.length_singleton, maxLen]; omega)).eq (by rw [clean_repeat hr', begin_of_rot hR hr])).le (.cons (DLe.one (SLe.slN ?_ ?_)) .nil)) (fun f hf => ?_)
  rotate_left
  rotate_left
  · subst he hf
    repeat' first | refine Split.t ?_ | refine Split.f ?_ | fail
    refine CallW.mk' ((same_det _ _ hbl).eq (by rw [decide_eq_true rfl])) ?_
    repeat' first | refine Split.t ?_ | refine Split.f ?_ | fail
    refine CallW.mk' ((same_det _ _ hbl).eq (by rw [decide_eq_true rfl])) ?_
    repeat' first | refine Split.t ?_ | refine Split.f ?_ | fail
    exact Fin.rfl'
  · simp
  · intro i hi j hj
    have hg1 : ∀ i, i < u.length → gt (u ++ [gt u (u.length - 1)]) i = gt u i := fun i hi => by simp [gt, List.getD, List.getElem?_append_left hi]
    have hg2 : gt (u ++ [gt u (u.length - 1)]) u.length = gt u (u.length - 1) := by simp [gt, List.getD]
    rw [Nat.zero_add] at hi ⊢
    by_cases hc : i < u.length
    · rw [blt_t hc, cond_true]
      show SLe (bif Nat.blt i 0 then SV.v Go.undef else vG u (i - 0) j) _
      rw [blt_f (Nat.not_lt_zero _), cond_false, Nat.sub_zero]
      exact SLe.of_eq (vG_eq (hg1 i hc).symm j)
    · have e : i = u.length := by omega
      subst e
      rw [blt_f hc, cond_false]
      show SLe (List.getD [i64 (gt u (IntKind.i64.wrap ((u.length : Int) - 1)).toNat).x, i64 (gt u (IntKind.i64.wrap ((u.length : Int) - 1)).toNat).y] ((u.length - u.length) * 2 + j) (.v Go.undef)) _
      rw [Nat.sub_self, hw1, Int.toNat_natCast]
      have hj' : j < 2 := hj
      refine SLe.of_eq ?_
      match j, hj' with
      | 0, _ => show i64 (gt u (u.length - 1)).x = i64 (gt (u ++ [gt u (u.length - 1)]) u.length).x; rw [hg2]
      | 1, _ => show i64 (gt u (u.length - 1)).y = i64 (gt (u ++ [gt u (u.length - 1)]) u.length).y; rw [hg2]
theorem lstart_all : ∀ dvs, TypL Try.prog Try.f10.params.toList dvs → Det Try.prog 10 dvs (tbool true) := by
  intro dvs h
  obtain ⟨v0, r0, rfl, h0, q0⟩ := TypL.inv_cons (t := 23) (ts := [5, 32]) h
  obtain ⟨v1, r1, rfl, h1, q1⟩ := TypL.inv_cons (t := 5) (ts := [32]) q0
  obtain ⟨v2, r2, rfl, h2, q2⟩ := TypL.inv_cons (t := 32) (ts := []) q1
  obtain rfl := TypL.inv_nil q2
  obtain ⟨l, hl, hle⟩ := ring_of h0
  obtain ⟨a, rfl, ha⟩ := TypD.int (k := .u8) (by kernel_rfl) rfl h1
  obtain ⟨p, rfl, _⟩ := vecIn h2
  have h3 : 0 ≤ a ∧ a ≤ 255 := by
    simp [InK, Lit.wf, IntKind.min, IntKind.max, IntKind.bits, IntKind.signed] at ha
    omega
  obtain ⟨n, rfl⟩ := Int.eq_ofNat_of_zero_le h3.1
  exact Det.le (.cons hle (.cons (DLe.refl _) (.cons (DLe.refl _) .nil))) (lstart_det l n p (by omega) hl)
end Sg
end Go.Vm
