/-
  Layer 11: contracts of the reference's half, middle, close, between and chain.
-/
import Derived.Test.YtlckiecpelchlaaArcI
namespace Go.Vm
set_option maxRecDepth 20000
set_option linter.unusedVariables false
set_option linter.unusedSimpArgs false
open Go Go.RowKit Go.Proofs
namespace Sg

theorem rhalf_det (r x all : Int) (hr0 : 0 < r) (hr1 : r ≤ 4000000) (h1 : -4000 ≤ x) (h2 : x ≤ 4000) (hall : 0 < all) :
    Det Try.prog 115 [.one (i64 x), .one (i64 all), .one (i64 r)] (tint (halfA x all r)) := by
  refine det_of_awp TTok mixed Try.func115 rfl rfl [] (Nat.le_of_ble_eq_true rfl) ?_
  refine Need.mk (by omega) ?_
  obtain ⟨a1, a2, a3, a4⟩ := half_w (x := x) hr0 hr1 h1 h2 hall
  refine CallW.int (rroot_det _ (by rw [a1]; exact a2)) (fun n hn => ?_)
  rw [a1] at hn
  refine Need.mk (by decide) ?_
  have b1 : IntKind.i64.wrap (n + 1) = n + 1 := wid (by omega) (by omega)
  have b2 : IntKind.i64.wrap ((IntKind.i64.wrap (n + 1)).tdiv 2) = (n + 1) / 2 := by rw [b1]; exact quo_w (by omega) (by omega) (by decide)
  refine Split.mk (fun h => ?_) (fun h => ?_)
  · refine Fin.int ?_
    have h' : x < 0 := of_decide_eq_true h
    rw [halfA, if_pos h', ← hn, b2, wid (by omega) (by omega)]; omega
  · refine Fin.int ?_
    have h' : ¬ x < 0 := of_decide_eq_false h
    rw [halfA, if_neg h', ← hn, b2]
theorem rmiddle_det (r : Int) (p q : V2) (h : Good r p q) : Det Try.prog 99 [vD p, vD q, .one (i64 r)] (.d (vD (midV r p q))) := by
  have hp := nr_in h.r1 h.np
  have hq := nr_in h.r1 h.nq
  have hs := sumP_in hp hq
  have hs0 : 0 < dotP (sumP p q) (sumP p q) := good_sum h
  have hsq := (rsquare_det (sumP p q)).eq (by rw [(dotW_eq (hs.wide (by decide)) (hs.wide (by decide))).1])
  refine det_of_awp TTok mixed Try.func99 rfl rfl [] (Nat.le_of_ble_eq_true rfl) ?_
  refine CallW.mk' ((radd_det p q).eq (by rw [sumW_eq (hp.wide (by decide)) (hq.wide (by decide))])) ?_
  refine CallW.mk' hsq ?_
  refine CallW.int (rhalf_det r (sumP p q).x _ h.r0 h.r1 hs.x0 hs.x1 hs0) (fun a ha => ?_)
  refine CallW.mk' hsq ?_
  refine CallW.int (rhalf_det r (sumP p q).y _ h.r0 h.r1 hs.y0 hs.y1 hs0) (fun b hb => ?_)
  refine Need.mk (by kernel_rfl) ?_
  refine Fin.agg ?_
  rw [ha, hb]
  exact LLe.of_eq rfl
theorem rclose_det (r t : Int) (p q : V2) (h : Good r p q) (ht0 : 1 ≤ t) (ht1 : t ≤ 50) : Det Try.prog 98 [vD p, vD q, .one (i64 r), .one (i64 t)] (tbool (flatB r t p q)) := by
  have hp := nr_in h.r1 h.np
  have hq := nr_in h.r1 h.nq
  have hdd := difP_in hp hq
  have hd := h.dif
  have r0 := h.r0
  have r1 := h.r1
  obtain ⟨e1, e2⟩ := chord_w h
  refine det_of_awp TTok mixed Try.func98 rfl rfl [] (Nat.le_of_ble_eq_true rfl) ?_
  refine CallW.mk' ((cross_det p q).eq (by rw [(crW_eq (hp.wide (by decide)) (hq.wide (by decide))).1])) ?_
  refine CallW.mk' ((sub_det p q).eq (by rw [sbW_eq (hp.wide (by decide)) (hq.wide (by decide))])) ?_
  refine CallW.mk' ((rsquare_det (difP p q)).eq (by rw [(dotW_eq (hdd.wide (by decide)) (hdd.wide (by decide))).1])) ?_
  refine Need.mk (by omega) ?_
  refine CallW.int (rroot_det _ (by rw [e1]; exact e2)) (fun n hn => ?_)
  rw [e1] at hn
  have w1 : IntKind.i64.wrap (65536 * r) = 65536 * r := wid (by omega) (by omega)
  refine CallW.int (rroot_det (IntKind.i64.wrap (65536 * r)) (by rw [w1]; exact ⟨by omega, by omega⟩)) (fun s hs => ?_)
  rw [w1] at hs
  obtain ⟨s0, s1, _⟩ := isq_spec (n := 65536 * r) (by omega) (by omega)
  have s2 := isq_le s0 s1 (by omega)
  obtain ⟨n0, n1, _⟩ := isq_spec (n := 65536 * crossP p q * crossP p q / dotP (difP p q) (difP p q)) (Int.ediv_nonneg (by have := sq_nonneg (crossP p q); grind) (Int.le_of_lt hd)) (by have := e2.2; omega)
  have n2 := isq_le n0 n1 (by have := e2.2; omega)
  refine Fin.bool ?_
  rw [flatB, ← hn, ← hs, wid (n := 256 * t) (by omega) (by omega), wid (n := n + 256 * t) (by omega) (by omega), wid (n := s + 1) (by omega) (by omega)]
  rw [decide_eq_decide]
  omega
theorem vG_cat (A B : List V2) (i j n : Nat) {C : List V2} (hn : n = A.length) (hC : C = A ++ B) : SLe (bif Nat.blt i n then vG A i j else vG B (i - n) j) (vG C i j) := by
  subst hn; subst hC
  refine SLe.bif (fun h => SLe.of_eq (vG_eq ?_ j)) (fun h => SLe.of_eq (vG_eq ?_ j))
  · simp [List.getD, List.getElem?_append_left h]
  · simp [List.getD, List.getElem?_append_right h]
theorem vG_cat2 (A B : List V2) (m : V2) (i j : Nat) {n : Nat} (hn : n = A.length) (hi : i < n + 1 + B.length) (hj : j < 2) {C : List V2} (hC : C = A ++ m :: B) : SLe (bif Nat.blt i (n + 1) then (bif Nat.blt i n then vG A i j else (vL m).getD ((i - n) * 2 + j) (.v Go.undef)) else vG B (i - (n + 1)) j) (vG C i j) := by
  refine SLe.bif (fun h => ?_) (fun h => ?_)
  · refine SLe.trans (vG_snoc A n m i j hn.symm h hj) (SLe.of_eq (vG_eq ?_ j))
    subst hn; subst hC
    rw [show A ++ m :: B = (A ++ [m]) ++ B by simp]
    simp only [List.getD]
    rw [List.getElem?_append_left (l₂ := B) (by simp only [List.length_append, List.length_singleton]; exact h)]
  · refine SLe.of_eq (vG_eq ?_ j)
    subst hn; subst hC
    rw [show A ++ m :: B = (A ++ [m]) ++ B by simp]
    simp only [List.getD]
    rw [List.getElem?_append_right (l₂ := B) (by simp only [List.length_append, List.length_singleton]; exact h)]
    simp only [List.length_append, List.length_singleton]
theorem vG_cat3 (A B : List V2) (m : V2) (i j : Nat) {n : Nat} (hn : n = A.length) (hi : i < n + B.length + 1) (hj : j < 2) : SLe (bif Nat.blt i (n + B.length) then (bif Nat.blt i n then vG A i j else vG B (i - n) j) else (vL m).getD ((i - (n + B.length)) * 2 + j) (.v Go.undef)) (vG (A ++ B ++ [m]) i j) := by
  refine SLe.trans (SLe.bif (fun h => ?_) (fun h => ?_)) (vG_snoc (A ++ B) (n + B.length) m i j (by rw [List.length_append, hn]) hi hj)
  · rw [blt_t h, cond_true]
    exact vG_cat A B i j n hn rfl
  · rw [blt_f (by omega), cond_false]
    exact SLe.refl _
abbrev frM (L : List V2) : Mem := .bld 0 L.length 2 43 (vG L)
theorem rbetween_detM {r t : Int} (ht0 : 1 ≤ t) (ht1 : t ≤ 50) (n : Nat) : ∀ (p q : V2), Good r p q → mu p q < n →
    DetM Try.prog 80 [.d (vD p), .d (vD q), tint r, tint t] [] (.hdl (.n 3000) 0) [] (frM (btw r t p q)) := by
  induction n with
  | zero => intro p q _ h; exact absurd h (Nat.not_lt_zero _)
  | succ n ih =>
    intro p q hg hn
    have hE := btw_eq t hg
    refine detM_of_awp TTok mixed Try.func80 rfl rfl [0, 80 + 2000000] (Nat.le_of_ble_eq_true rfl) (Nat.le_of_ble_eq_true rfl) (sigM_of rfl) ?_
    refine CallW.bool (rclose_det r t p q hg ht0 ht1) (fun b hb => ?_)
    refine Cut.id ?_
    refine Split.mk (fun h => ?_) (fun h => ?_)
    · rw [if_pos (by rw [← hb, h])] at hE
      refine Cut.mk (Adj.nil 8 40 2 43 (vG []) rfl rfl (Adj.id ?_))
      exact EndM.mk ⟨.n 40, .one (.hdl rfl rfl rfl), .nil _, .inr ⟨.bldN (by rw [hE]; rfl) (fun h => absurd h (by decide)) (fun i hi => absurd hi (Nat.not_lt_zero i)), rfl⟩⟩
    have hb' : ¬ flatB r t p q = true := by rw [← hb, h]; simp
    rw [if_neg hb'] at hE
    refine CallW.v (rmiddle_det r p q hg) (fun m hm => ?_)
    rw [← hm] at hE
    refine EqW.v m p (fun c1 hc1 => ?_)
    refine Split.mk (fun h1 => ?_) (fun h1 => ?_)
    · repeat' first | refine Split.isT h1 ?_ | refine Split.t ?_ | refine Split.f ?_ | fail
      refine Cut.id ?_
      repeat' first | refine Split.isT h1 ?_ | refine Split.t ?_ | refine Split.f ?_ | fail
      rw [if_pos (.inl (hc1.1 h1))] at hE
      refine Cut.mk (Adj.nil 8 40 2 43 (vG []) rfl rfl (Adj.id ?_))
      exact EndM.mk ⟨.n 40, .one (.hdl rfl rfl rfl), .nil _, .inr ⟨.bldN (by rw [hE]; rfl) (fun h => absurd h (by decide)) (fun i hi => absurd hi (Nat.not_lt_zero i)), rfl⟩⟩
    have n1 : m ≠ p := fun w => by rw [hc1.2 w] at h1; cases h1
    repeat' first | refine Split.isF h1 ?_ | refine Split.t ?_ | refine Split.f ?_ | fail
    refine EqW.v m q (fun c2 hc2 => ?_)
    repeat' first | refine Split.isF h1 ?_ | refine Split.t ?_ | refine Split.f ?_ | fail
    refine Cut.id ?_
    refine Split.mk (fun h2 => ?_) (fun h2 => ?_)
    · rw [if_pos (.inr (hc2.1 h2))] at hE
      refine Cut.mk (Adj.nil 8 40 2 43 (vG []) rfl rfl (Adj.id ?_))
      exact EndM.mk ⟨.n 40, .one (.hdl rfl rfl rfl), .nil _, .inr ⟨.bldN (by rw [hE]; rfl) (fun h => absurd h (by decide)) (fun i hi => absurd hi (Nat.not_lt_zero i)), rfl⟩⟩
    have n2 : m ≠ q := fun w => by rw [hc2.2 w] at h2; cases h2
    rw [if_neg (fun w => w.elim n1 n2)] at hE
    obtain ⟨g1, g2⟩ := mid_good hg (by rw [← hm]; exact n1) (by rw [← hm]; exact n2)
    obtain ⟨m1, m2⟩ := mu_lt hg (by rw [← hm]; exact n1) (by rw [← hm]; exact n2)
    rw [← hm] at g1 g2 m1 m2
    have l1 := btw_le t g1
    have l2 := btw_le t g2
    refine CallM.mk' [] (ih p m g1 (by omega)) ⟨.nil, .cons (.d (DLe.refl _)) (.cons (.d (DLe.refl _)) (.cons (.d (DLe.refl _)) (.cons (.d (DLe.refl _)) .nil))), rfl, rfl, fun _ => rfl⟩ ?_
    refine Need.mk (needApp' (by omega) (by decide)) ?_
    refine CallM.mk' [] (ih m q g2 (by omega)) ⟨.nil, .cons (.d (DLe.refl _)) (.cons (.d (DLe.refl _)) (.cons (.d (DLe.refl _)) (.cons (.d (DLe.refl _)) .nil))), rfl, rfl, fun _ => rfl⟩ ?_
    refine Need.mk (needApp' (by omega) (by decide)) ?_
    refine Need.mk (by kernel_rfl) ?_
    refine Cut.id ?_
    rw [hE]
    refine EndM.mk ⟨.n 31, .one (.hdl rfl rfl rfl), .nil _, .inr ⟨.bldN (by simp only [List.length_append, List.length_cons]; omega) (fun h => absurd h (by decide)) (fun i hi j hj => ?_), rfl⟩⟩
    exact vG_cat2 _ _ m i j rfl (by omega) hj (by simp)
theorem far_k' {p q : V2} {k n : Nat} (h : Quarters p q k) (hk : k ≤ n) (hf : farB p q = true) : ∃ k' n', k = k' + 1 ∧ n = n' + 1 := far_k h hk hf
theorem rchain_detM (r t : Int) (p q : V2) (hp : OnC r p) (hq : OnC r q) (ht0 : 1 ≤ t) (ht1 : t ≤ 50) : DetM Try.prog 55 [.d (vD p), .d (vD q), .d (.one (i64 t))] [] (.hdl (.n 3000) 0) [] (frM (chainL r t p q)) := by
  refine detM_of_awp TTok mixed Try.func55 rfl rfl [80 + 2000000, 13 + 6000000] (Nat.le_of_ble_eq_true rfl) (Nat.le_of_ble_eq_true rfl) (sigM_of rfl) ?_
  have ip := nr_in hp.r1 hp.nr
  have iq := nr_in hq.r1 hq.nr
  have r0 := hp.r0
  have r1 := hp.r1
  refine CallW.mk' ((rsquare_det p).eq (by rw [(dotW_eq (ip.wide (by decide)) (ip.wide (by decide))).1, hp.on])) ?_
  refine Loop.by (α := Nat × V2 × List V2) (fun x => [(2, tint t), (3, .ptr 3 0), (4, .ptr 4 0), (7, tint r), (8, .hdl 13 0)]) (fun x => [(3, .box (vL x.2.1)), (4, .box (vL q)), (13, .bld 0 x.2.2.length 2 43 (vG x.2.2))])
    (fun x => x.1 ≤ 3 ∧ OnC r x.2.1 ∧ (∃ k, k ≤ x.1 ∧ Quarters x.2.1 q k) ∧ x.2.2 ++ chnF r t x.1 x.2.1 q = chainL r t p q ∧ x.2.2.length ≤ (3 - x.1) * 16008002 + 1) (fun x => x.1)
    (Adj.at (3, p, [p]) ⟨Nat.le_refl _, hp, ?_, rfl, by show 1 ≤ _; omega⟩ (.cons (.box (LLe.of_eq rfl)) (.cons (.box (LLe.of_eq rfl)) (.cons (.bldN rfl (fun i hi j hj => ?_)) .nil)))
      (.cons .same (.cons (.box rfl rfl) (.cons (.box rfl rfl) (.cons .same (.cons (.hdl rfl rfl) .nil)))))) (fun x hx => ?_)
  · obtain ⟨k, hk⟩ := quarters hp hq
    exact ⟨k, hk.le, hk⟩
  · obtain rfl : i = 0 := by have : i < 1 := hi; omega
    match j, hj with
    | 0, _ => exact SLe.of_eq rfl
    | 1, _ => exact SLe.of_eq rfl
  obtain ⟨n, u, L⟩ := x
  obtain ⟨x1, x2, ⟨k, x3, x4⟩, x5, x6⟩ := hx
  replace x1 : n ≤ 3 := x1
  replace x2 : OnC r u := x2
  replace x3 : k ≤ n := x3
  replace x4 : Quarters u q k := x4
  replace x5 : L ++ chnF r t n u q = chainL r t p q := x5
  replace x6 : L.length ≤ (3 - n) * 16008002 + 1 := x6
  have iu := nr_in x2.r1 x2.nr
  refine CallW.int (cross_det u q) (fun c hc => ?_)
  rw [(crW_eq (iu.wide (by decide)) (iq.wide (by decide))).1] at hc
  have bu := iu.y0
  have bu' := iu.y1
  refine Split.mk (fun h => ?pa) (fun h => ?pz)
  case' pa =>
    repeat' first | refine Split.isT h ?_ | refine Split.t ?_ | refine Split.f ?_ | fail
    have hf : farB u q = true := by
      have h' : c ≤ 0 := of_decide_eq_true h
      rw [farB, decide_eq_true (by omega)]; rfl
  case' pz =>
    have h' : ¬ c ≤ 0 := of_decide_eq_false h
    repeat' first | refine Split.isF h ?_ | refine Split.t ?_ | refine Split.f ?_ | fail
    refine CallW.int (rdot_det u q) (fun d hd => ?_)
    rw [(dotW_eq (iu.wide (by decide)) (iq.wide (by decide))).1] at hd
    repeat' first | refine Split.isF h ?_ | refine Split.t ?_ | refine Split.f ?_ | fail
    refine Split.mk (fun h2 => ?pb) (fun h2 => ?pe)
    case' pb =>
      have hf : farB u q = true := by
        have h' : d < 0 := of_decide_eq_true h2
        rw [farB, decide_eq_true (show dotP u q < 0 by omega), Bool.or_true]
    case pe =>
      have hf : farB u q = false := by
        have h3 : ¬ d < 0 := of_decide_eq_false h2
        rw [farB, decide_eq_false (show ¬ crossP u q ≤ 0 by omega), decide_eq_false (show ¬ dotP u q < 0 by omega)]; rfl
      have hg := good_end x2 hq hf
      have hlb := btw_le t hg
      refine CallM.mk' [] (rbetween_detM ht0 ht1 _ u q hg (Nat.lt_succ_self _)) ⟨.nil, .cons (.d (DLe.refl _)) (.cons (.d (DLe.refl _)) (.cons (.d (DLe.refl _)) (.cons (.d (DLe.refl _)) .nil))), rfl, rfl, fun _ => rfl⟩ ?_
      refine Need.mk (needApp' (n := L.length + (btw r t u q).length) (by omega) (by decide)) ?_
      refine Need.mk (needApp' (n := L.length + (btw r t u q).length + 1) (by omega) (by decide)) ?_
      refine Need.mk (by kernel_rfl) ?_
      have e : L ++ btw r t u q ++ [q] = chainL r t p q := by rw [← x5, chnF_near hf, List.append_assoc]
      rw [← e]
      refine EndM.mk ⟨.n 13, .one (.hdl rfl rfl rfl), .nil _, .inr ⟨.bldN (by simp only [List.length_append, List.length_singleton]) (fun h => absurd h (by decide)) (fun i hi j hj => ?_), rfl⟩⟩
      exact vG_cat3 L _ q i j rfl hi hj
  all_goals
    obtain ⟨k', n', rfl, rfl⟩ := far_k x4 x3 hf
    obtain ⟨_, hk'⟩ := x4.next
    have hg := good_quarter x2
    have hlb := btw_le t hg
    have hrot : [i64 (IntKind.i64.wrap (0 - u.y)), i64 u.x] = vL (rotV u) := by rw [neg_w (by omega) (by omega)]; rfl
    refine CallM.mk' [] (rbetween_detM ht0 ht1 _ u (rotV u) hg (Nat.lt_succ_self _)) ⟨.nil, .cons (.d (DLe.refl _)) (.cons (.d (DLe.of_eq (congrArg DV.agg hrot))) (.cons (.d (DLe.refl _)) (.cons (.d (DLe.refl _)) .nil))), rfl, rfl, fun _ => rfl⟩ ?_
    refine Need.mk (needApp' (n := L.length + (btw r t u (rotV u)).length) (by omega) (by decide)) ?_
    refine Need.mk (needApp' (n := L.length + (btw r t u (rotV u)).length + 1) (by omega) (by decide)) ?_
    refine Need.mk (by kernel_rfl) ?_
    have e : chnF r t (n' + 1) u q = btw r t u (rotV u) ++ rotV u :: chnF r t n' (rotV u) q := by rw [chnF, if_pos hf]
    refine Adj.back (x := (n' + 1, u, L)) (n', rotV u, L ++ btw r t u (rotV u) ++ [rotV u]) ⟨by show n' ≤ 3; omega, x2.rot, ⟨k', by show k' ≤ n'; omega, hk'⟩, by show L ++ btw r t u (rotV u) ++ [rotV u] ++ chnF r t n' (rotV u) q = _; rw [← x5, e]; simp, by show (L ++ btw r t u (rotV u) ++ [rotV u]).length ≤ (3 - n') * 16008002 + 1; simp only [List.length_append, List.length_singleton]; omega⟩ (by show n' < n' + 1; omega)
      (.cons (.box (LLe.of_eq hrot)) (.cons (.box (LLe.of_eq rfl)) (.cons (.bldN (by simp only [List.length_append]; rfl) (fun i hi j hj => ?_)) .nil))) (.cons .same (.cons (.box rfl rfl) (.cons (.box rfl rfl) (.cons .same (.cons (.hdl rfl rfl) .nil)))))
    have hvv := vG_cat3 L (btw r t u (rotV u)) (rotV u) i j rfl hi hj
    rw [← hrot] at hvv
    exact hvv
end Sg
end Go.Vm
