/-
  Layer 11, plain: a chain has at most 40000 points.
-/
import Derived.Test.YtlckiecpelchlaaArcJ
namespace Go.Vm
set_option maxRecDepth 20000
set_option linter.unusedVariables false
set_option linter.unusedSimpArgs false
open Go Go.RowKit Go.Proofs
namespace Sg

/-- In the upper half of the plane, or on the axis to the right. -/
def Up (v : V2) : Prop := 0 < v.y ∨ (v.y = 0 ∧ 0 < v.x)
def phi (v : V2) : Int := if 0 < v.x then v.y - v.x + 2000 else 6001 - v.x - v.y
theorem step_q1 {r x y x' y' : Int} (hu : Nr r ⟨x, y⟩) (hv : Nr r ⟨x', y'⟩) (hx : 0 ≤ x) (hy : 0 ≤ y) (hx' : 0 ≤ x') (hy' : 0 ≤ y') (hc : 0 < x * y' - y * x') : y - x < y' - x' := by
  have h1 : x' ≤ x := by
    refine Int.not_lt.1 fun w => ?_
    have h2 : y' ≤ y := Int.not_lt.1 fun w' => no_ne hx hy hu hv (by omega) (by omega)
    have a1 := Int.mul_nonneg hx (show 0 ≤ y - y' by omega)
    have a2 := Int.mul_nonneg hy (show 0 ≤ x' - x by omega)
    grind
  have h2 : y ≤ y' := by
    refine Int.not_lt.1 fun w => ?_
    have h3 : x' = x := by
      have : x ≤ x' := Int.not_lt.1 fun w' => no_ne hx' hy' hv hu (by omega) (by omega)
      omega
    subst h3
    have a1 := Int.mul_nonneg hx (show 0 ≤ y - y' by omega)
    grind
  have h3 : ¬ (x' = x ∧ y' = y) := by
    rintro ⟨rfl, rfl⟩
    grind
  omega
theorem step_phi {r : Int} {u v : V2} (g : Good r u v) (hu : Up u) (hv : Up v) : phi u < phi v := by
  obtain ⟨a1, a2, a3, a4⟩ := nr_bound g.r1 (x := u.x) (y := u.y) g.np
  obtain ⟨b1, b2, b3, b4⟩ := nr_bound g.r1 (x := v.x) (y := v.y) g.nq
  have hc := g.cr
  have np := g.np
  have nq := g.nq
  obtain ⟨x, y⟩ := u
  obtain ⟨x', y'⟩ := v
  simp only [crossP] at hc a1 a2 a3 a4 b1 b2 b3 b4
  simp only [Up] at hu hv
  unfold phi
  simp only
  by_cases h1 : 0 < x
  · rw [if_pos h1]
    by_cases h2 : 0 < x'
    · rw [if_pos h2]
      have := step_q1 np nq (by omega) (by omega) (by omega) (by omega) hc
      omega
    · rw [if_neg h2]
      omega
  · rw [if_neg h1]
    by_cases h2 : 0 < x'
    · have t1 := Int.mul_nonneg (show 0 ≤ -x by omega) (show 0 ≤ y' by omega)
      have t2 := Int.mul_nonneg (show 0 ≤ y by omega) (show 0 ≤ x' by omega)
      exfalso
      grind
    · rw [if_neg h2]
      have np' : Nr r ⟨y, -x⟩ := nr_swap (nr_flip np)
      have nq' : Nr r ⟨y', -x'⟩ := nr_swap (nr_flip nq)
      have := step_q1 np' nq' (by omega) (by omega) (by omega) (by omega) (by grind)
      omega
theorem phi_le {v : V2} (h : In 2000 v) (hv : Up v) : phi v ≤ 8001 ∧ 0 ≤ phi v := by
  have := h.x0; have := h.x1; have := h.y0; have := h.y1
  simp only [Up] at hv
  unfold phi
  split <;> omega
theorem stairs {r : Int} : ∀ (l : List V2) (a : V2), Nbs (Good r) (a :: l) → (∀ v ∈ a :: l, Up v ∧ In 2000 v) → ((a :: l).length : Int) ≤ 8002 - phi a
  | [], a, _, h => by
    obtain ⟨h1, h2⟩ := h a (by simp)
    have := (phi_le h2 h1).1
    simp only [List.length_singleton]
    omega
  | b :: l, a, hn, h => by
    have ih := stairs l b hn.2 (fun v hv => h v (List.mem_cons_of_mem _ hv))
    have g : Good r a b := hn.1
    have := step_phi g (h a (by simp)).1 (h b (by simp)).1
    rw [List.length_cons]
    omega
theorem nbs_mono {R R' : V2 → V2 → Prop} (hR : ∀ a b, R a b → R' a b) : ∀ {l : List V2}, Nbs R l → Nbs R' l
  | [], _ => trivial
  | [_], h => ⟨trivial, trivial⟩
  | a :: b :: l, h => ⟨hR a b h.1, nbs_mono hR (l := b :: l) h.2⟩
theorem nbs_rot {r : Int} : ∀ {l : List V2}, Nbs (Good r) l → Nbs (Good r) (l.map rotV)
  | [], _ => trivial
  | [_], h => ⟨trivial, trivial⟩
  | a :: b :: l, h => ⟨good_rot h.1, nbs_rot (l := b :: l) h.2⟩
theorem btw_cone {r t : Int} (n : Nat) : ∀ (p q : V2), Good r p q → mu p q < n → ∀ v ∈ btw r t p q, 0 < crossP p v ∧ 0 < crossP v q := by
  induction n with
  | zero => intro p q _ h; exact absurd h (Nat.not_lt_zero _)
  | succ n ih =>
    intro p q hg hn v hv
    rw [btw_eq t hg] at hv
    split at hv
    · cases hv
    split at hv
    · cases hv
    · rename_i h1 h2
      have h3 : midV r p q ≠ p := fun w => h2 (.inl w)
      have h4 : midV r p q ≠ q := fun w => h2 (.inr w)
      obtain ⟨g1, g2⟩ := mid_good hg h3 h4
      obtain ⟨m1, m2⟩ := mu_lt hg h3 h4
      have hc := hg.cr
      have c1 := g1.cr
      have c2 := g2.cr
      rcases List.mem_append.1 hv with hv | hv
      · obtain ⟨i1, i2⟩ := ih p _ g1 (by omega) v hv
        generalize midV r p q = m at *
        refine ⟨i1, ?_⟩
        have e : crossP p m * crossP v q = crossP v m * crossP p q + crossP p v * crossP m q := by simp only [crossP]; grind
        have t1 := Int.mul_pos i2 hc
        have t2 := Int.mul_pos i1 c2
        refine Int.not_le.1 fun w => ?_
        have := Int.mul_nonpos_of_nonneg_of_nonpos (Int.le_of_lt c1) w
        omega
      · rcases List.mem_cons.1 hv with rfl | hv
        · exact ⟨c1, c2⟩
        · obtain ⟨i1, i2⟩ := ih _ q g2 (by omega) v hv
          generalize midV r p q = m at *
          refine ⟨?_, i2⟩
          have e : crossP m q * crossP p v = crossP v q * crossP p m + crossP m v * crossP p q := by simp only [crossP]; grind
          have t1 := Int.mul_pos i2 c1
          have t2 := Int.mul_pos i1 hc
          refine Int.not_le.1 fun w => ?_
          have := Int.mul_nonpos_of_nonneg_of_nonpos (Int.le_of_lt c2) w
          omega
/-- What holds of a list from p to q: its neighbours, and that all lies between. -/
structure Fan (r : Int) (p q : V2) (l : List V2) : Prop where
  g : Good r p q
  nb : Nbs (Good r) l
  hd : ∃ m, l = p :: m
  mem : ∀ v ∈ l, v = p ∨ v = q ∨ (0 < crossP p v ∧ 0 < crossP v q)
  inn : ∀ v ∈ l, In 2000 v
theorem Fan.rot {r : Int} {p q : V2} {l : List V2} (h : Fan r p q l) : Fan r (rotV p) (rotV q) (l.map rotV) := by
  refine ⟨good_rot h.g, nbs_rot h.nb, ?_, fun v hv => ?_, fun v hv => ?_⟩
  · obtain ⟨m, rfl⟩ := h.hd
    exact ⟨m.map rotV, rfl⟩
  · obtain ⟨u, hu, rfl⟩ := List.mem_map.1 hv
    rcases h.mem u hu with rfl | rfl | ⟨a, b⟩
    · exact .inl rfl
    · exact .inr (.inl rfl)
    · exact .inr (.inr ⟨by rw [rot_cross]; exact a, by rw [rot_cross]; exact b⟩)
  · obtain ⟨u, hu, rfl⟩ := List.mem_map.1 hv
    have := h.inn u hu
    have h1 := this.x0; have h2 := this.x1; have h3 := this.y0; have h4 := this.y1
    exact ⟨by simp only [rotV]; omega, by simp only [rotV]; omega, by simp only [rotV]; omega, by simp only [rotV]; omega⟩
theorem Fan.len1 {r : Int} {p q : V2} {l : List V2} (h : Fan r p q l) (hx : 0 < p.x) (hy : 0 ≤ p.y) : l.length ≤ 8002 := by
  have hc := h.g.cr
  have hd := h.g.dt
  have up : Up p := by unfold Up; omega
  have hpp : 0 < p.x * p.x + p.y * p.y := by
    have := Int.mul_pos hx hx
    have := sq_nonneg p.y
    omega
  have uq : 0 < q.y := by
    have e : q.y * (p.x * p.x + p.y * p.y) = dotP p q * p.y + crossP p q * p.x := by simp only [dotP, crossP]; grind
    have t1 := Int.mul_nonneg hd hy
    have t2 := Int.mul_pos hc hx
    refine Int.not_le.1 fun w => ?_
    have := Int.mul_nonpos_of_nonpos_of_nonneg w (Int.le_of_lt hpp)
    omega
  obtain ⟨m, rfl⟩ := h.hd
  have := stairs m p h.nb (fun v hv => ⟨?_, h.inn v hv⟩)
  · have := (phi_le (h.inn p (by simp)) up).2
    omega
  · rcases h.mem v hv with rfl | rfl | ⟨a, b⟩
    · exact up
    · exact .inl uq
    · left
      have e : crossP p q * v.y = crossP v q * p.y + crossP p v * q.y := by simp only [crossP]; grind
      have t1 := Int.mul_nonneg (Int.le_of_lt b) hy
      have t2 := Int.mul_pos a uq
      refine Int.not_le.1 fun w => ?_
      have := Int.mul_nonpos_of_nonneg_of_nonpos (Int.le_of_lt hc) w
      omega
theorem Fan.len {r : Int} {p q : V2} {l : List V2} (h : Fan r p q l) : l.length ≤ 8002 := by
  have hne : ¬ (p.x = 0 ∧ p.y = 0) := fun w => by
    have := h.g.cr
    simp only [crossP, w.1, w.2] at this
    omega
  by_cases h1 : 0 < p.x ∧ 0 ≤ p.y
  · exact h.len1 h1.1 h1.2
  by_cases h2 : p.x ≤ 0 ∧ 0 < p.y
  · have := h.rot.rot.rot.len1 (by simp only [rotV]; omega) (by simp only [rotV]; omega)
    simpa using this
  by_cases h3 : p.x < 0 ∧ p.y ≤ 0
  · have := h.rot.rot.len1 (by simp only [rotV]; omega) (by simp only [rotV]; omega)
    simpa using this
  · have := h.rot.len1 (by simp only [rotV]; omega) (by simp only [rotV]; omega)
    simpa using this
theorem btw_le8 {r : Int} (t : Int) {p q : V2} (h : Good r p q) : (btw r t p q).length ≤ 8000 := by
  have hn := btw_nbs (t := t) _ p q h (Nat.lt_succ_self _)
  have f : Fan r p q (p :: btw r t p q ++ [q]) := by
    refine ⟨h, nbs_mono (fun a b hl => hl.good) hn, ⟨_, rfl⟩, fun v hv => ?_, fun v hv => nr_in h.r1 (nbs_near hn (by simp) v hv)⟩
    rcases List.mem_append.1 hv with hv | hv
    · rcases List.mem_cons.1 hv with rfl | hv
      · exact .inl rfl
      · exact .inr (.inr (btw_cone _ p q h (Nat.lt_succ_self _) v hv))
    · exact .inr (.inl (by simpa using hv))
  have := f.len
  simp at this
  omega
theorem chain_len4 {r : Int} (t : Int) {p q : V2} (hp : OnC r p) (hq : OnC r q) : (chainL r t p q).length ≤ 40000 := by
  have key : ∀ (k n : Nat) (p : V2), OnC r p → Quarters p q k → k ≤ n → (chnF r t n p q).length ≤ (k + 1) * 8001 := by
    intro k
    induction k with
    | zero =>
      intro n p hp h _
      have hf : farB p q = false := h.near
      rw [chnF_near hf, List.length_append, List.length_singleton]
      have := btw_le8 t (good_end hp hq hf)
      omega
    | succ k ih =>
      intro n p hp h hn
      obtain ⟨hf, h'⟩ := h.next
      cases n with
      | zero => omega
      | succ n =>
        rw [chnF, if_pos hf, List.length_append, List.length_cons]
        have := btw_le8 t (good_quarter hp)
        have := ih n (rotV p) hp.rot h' (by omega)
        omega
  obtain ⟨k, hk⟩ := quarters hp hq
  have h1 := hk.le
  have := key k 3 p hp hk h1
  have := Nat.mul_le_mul_right 8001 (show k + 1 ≤ 4 by omega)
  rw [chainL, List.length_cons]
  omega
theorem listA_len4 {a : Arc} (t : Int) (h : validA a = true) : (listA a t).length ≤ 40000 := by
  obtain ⟨_, hu, hv⟩ := valid_ok h
  unfold listA
  split
  · rw [List.length_reverse, List.length_map]; exact chain_len4 t hv hu
  · rw [List.length_map]; exact chain_len4 t hu hv
/-! ### the reference's Flatten -/
theorem rflat_detR (a : Arc) (t : Int) : Det Try.prog 22 [arcD a, .one (i64 t)] (ringE (flatR a t).1 (flatR a t).2) := by
  refine det_of_awp TTok mixed Try.func22 rfl rfl [55 + 2000000] (Nat.le_of_ble_eq_true rfl) ?_
  refine CallW.bool (rvalida_det a) (fun b hb => ?_)
  refine Split.mk (fun h => ?_) (fun h => ?_)
  · have hv : validA a = false := by rw [← hb]; simpa using h
    refine Fin.ringN ?_ ?_ <;> simp [flatR, hv]
  have hv : validA a = true := by rw [← hb]; simpa using h
  obtain ⟨ok, hu, hw'⟩ := valid_ok hv
  refine Split.mk (fun h1 => ?_) (fun h1 => ?_)
  · repeat' first | refine Split.t ?_ | refine Split.f ?_ | fail
    have h1 := of_decide_eq_true h1
    refine Fin.ringN ?_ ?_ <;> simp [flatR, hv, h1]
  have h1 := of_decide_eq_false h1
  repeat' first | refine Split.t ?_ | refine Split.f ?_ | fail
  refine Split.mk (fun h2 => ?_) (fun h2 => ?_)
  · have h2 := of_decide_eq_true h2
    refine Fin.ringN ?_ ?_ <;> simp [flatR, hv, h2]
  have h2 := of_decide_eq_false h2
  have ef : flatR a t = (listA a t, 0) := by rw [flatR, if_neg (by rw [hv]; simp), if_neg (by omega)]
  rw [ef]
  refine CallW.mk' ((sub_det a.f a.c).eq (by rw [ok.u.1])) ?_
  refine CallW.mk' ((sub_det a.t a.c).eq (by rw [ok.v.1])) ?_
  refine Need.mk (by kernel_rfl) ?_
  refine Split.mk (fun h => ?pa) (fun h => ?pb)
  case pa =>
    have eL : listA a t = ((chainL (sqA a) t (vA a) (uA a)).map (shV a.c)).reverse := by rw [listA, if_pos h]
    have hlen := chain_len4 t hw' hu
    refine CallM.mk' [] (rchain_detM (sqA a) t (vA a) (uA a) hw' hu (by omega) (by omega)) ⟨.nil, .cons (.d (DLe.refl _)) (.cons (.d (DLe.refl _)) (.cons (.d (DLe.refl _)) .nil)), rfl, rfl, fun _ => rfl⟩ ?_
    generalize chainL _ _ _ _ = l at *
    have hLl : (listA a t).length = l.length := by rw [eL]; simp
    refine Loop.by (α := Nat) (fun k => [(2, .ptr 2 0), (8, .hdl 54 0), (9, .hdl 37 0), (10, tint ((l.length : Int) - 1 - k))]) (fun k => [(2, .box (arcL a)), (37, frM l), (54, .bld 0 k 2 43 (vG (listA a t)))]) (fun k => k ≤ l.length) (fun k => l.length - k)
      (Adj.nil 8 54 2 43 (vG (listA a t)) rfl rfl (Adj.at 0 (Nat.zero_le _) (.cons (.box (LLe.of_eq rfl)) (.cons (.bld (fun _ _ _ _ => SLe.refl _)) (.cons (.bld (fun _ h => absurd h (Nat.not_lt_zero _))) .nil))) (.cons (.box rfl rfl) (.cons (.hdl rfl rfl) (.cons (.hdl rfl rfl) (.cons (SlotLe.int ?_) .nil)))))) (fun k hk => ?_)
    · rw [hw _ (by omega) (by omega)]; omega
    refine Split.mk (fun h => ?_) (fun h => ?_)
    · have hlt : k < l.length := by have := of_decide_eq_true h; omega
      have e1 : ((l.length : Int) - 1 - k).toNat = l.length - 1 - k := by omega
      refine Need.mk (by omega) ?_
      refine CallW.v (add_det (gt l ((l.length : Int) - 1 - k).toNat) a.c) (fun u hu => ?_)
      refine Need.mk (needApp (by omega) (by decide)) ?_
      refine Need.mk (by kernel_rfl) ?_
      refine Adj.back (x := k) (k + 1) (by omega) (by omega) (.cons (.box (LLe.of_eq rfl)) (.cons (.bld (fun _ _ _ _ => SLe.refl _)) (.cons (.bld (fun i hi j hj => vG_at (listA a t) u k i j hi hj ?_)) .nil))) (.cons (.box rfl rfl) (.cons (.hdl rfl rfl) (.cons (.hdl rfl rfl) (.cons (SlotLe.int ?_) .nil))))
      · rw [eL, getD_reverse _ _ (by rw [List.length_map]; exact hlt), hu, e1, List.length_map]
        simp only [List.getD, List.getElem?_map, gt, shV]
        rw [List.getElem?_eq_getElem (by omega)]
        rfl
      · rw [hw _ (by omega) (by omega)]; omega
    · have he : k = l.length := by have := of_decide_eq_false h; omega
      exact Fin.tup (.cons (DLe.one (SLe.slN (by rw [hLl, he]) (fun _ _ _ _ => SLe.refl _))) (.cons (DLe.refl _) .nil))
  case pb =>
    have eL : listA a t = (chainL (sqA a) t (uA a) (vA a)).map (shV a.c) := by rw [listA, if_neg (by rw [h]; simp)]
    have hlen := chain_len4 t hu hw'
    refine CallM.mk' [] (rchain_detM (sqA a) t (uA a) (vA a) hu hw' (by omega) (by omega)) ⟨.nil, .cons (.d (DLe.refl _)) (.cons (.d (DLe.refl _)) (.cons (.d (DLe.refl _)) .nil)), rfl, rfl, fun _ => rfl⟩ ?_
    generalize chainL _ _ _ _ = l at *
    have hLl : (listA a t).length = l.length := by rw [eL]; simp
    refine Loop.by (α := Nat) (fun k => [(2, .ptr 2 0), (8, .hdl 75 0), (11, .hdl 59 0), (12, tint k)]) (fun k => [(2, .box (arcL a)), (59, frM l), (75, .bld 0 k 2 43 (vG (listA a t)))]) (fun k => k ≤ l.length) (fun k => l.length - k)
      (Adj.nil 8 75 2 43 (vG (listA a t)) rfl rfl (Adj.at 0 (Nat.zero_le _) (.cons (.box (LLe.of_eq rfl)) (.cons (.bld (fun _ _ _ _ => SLe.refl _)) (.cons (.bld (fun _ h => absurd h (Nat.not_lt_zero _))) .nil))) (.cons (.box rfl rfl) (.cons (.hdl rfl rfl) (.cons (.hdl rfl rfl) (.cons .same .nil)))))) (fun k hk => ?_)
    refine Split.mk (fun h => ?_) (fun h => ?_)
    · have hlt : k < l.length := by have := of_decide_eq_true h; omega
      refine Need.mk (by omega) ?_
      refine CallW.v (add_det (gt l ((k : Int)).toNat) a.c) (fun u hu => ?_)
      refine Need.mk (needApp (by omega) (by decide)) ?_
      refine Need.mk (by kernel_rfl) ?_
      refine Adj.back (x := k) (k + 1) (by omega) (by omega) (.cons (.box (LLe.of_eq rfl)) (.cons (.bld (fun _ _ _ _ => SLe.refl _)) (.cons (.bld (fun i hi j hj => vG_at (listA a t) u k i j hi hj ?_)) .nil))) (.cons (.box rfl rfl) (.cons (.hdl rfl rfl) (.cons (.hdl rfl rfl) (.cons (SlotLe.int ?_) .nil))))
      · rw [eL, hu, show ((k : Int)).toNat = k by omega]
        simp only [List.getD, List.getElem?_map, gt, shV]
        rw [List.getElem?_eq_getElem (by omega)]
        rfl
      · rw [hw _ (by omega) (by omega)]; omega
    · have he : k = l.length := by have := of_decide_eq_false h; omega
      exact Fin.tup (.cons (DLe.one (SLe.slN (by rw [hLl, he]) (fun _ _ _ _ => SLe.refl _))) (.cons (DLe.refl _) .nil))
end Sg
end Go.Vm
