/-
  Layer 11: the contracts of ArcEnds, ArcTolerance and ArcOrder.
-/
import Derived.Test.YtlckiecpelchlaaArcL
namespace Go.Vm
set_option maxRecDepth 20000
set_option linter.unusedVariables false
set_option linter.unusedSimpArgs false
open Go Go.RowKit Go.Proofs
namespace Sg

theorem flat_cases (a : Arc) (t : Int) : (validA a = false ∧ flatR a t = ([], 1)) ∨ (validA a = true ∧ (t < 1 ∨ t > 50) ∧ flatR a t = ([], 2)) ∨ (validA a = true ∧ 1 ≤ t ∧ t ≤ 50 ∧ flatR a t = (listA a t, 0)) := by
  unfold flatR
  cases hv : validA a with
  | false => exact .inl ⟨rfl, by simp⟩
  | true =>
    by_cases h : t < 1 ∨ t > 50
    · exact .inr (.inl ⟨rfl, h, by simp [h]⟩)
    · exact .inr (.inr ⟨rfl, by omega, by omega, by simp [h]⟩)
theorem nbs_at {R : V2 → V2 → Prop} : ∀ {l : List V2} (_ : Nbs R l) (i : Nat) (_ : i + 1 < l.length), R (gt l i) (gt l (i + 1))
  | [], _, i, h => absurd h (Nat.not_lt_zero _)
  | [_], _, i, h => absurd h (by simp)
  | a :: b :: l, hn, 0, _ => hn.1
  | a :: b :: l, hn, i + 1, h => nbs_at (l := b :: l) hn.2 i (by simpa using h)
theorem gt_mem {l : List V2} {i : Nat} (h : i < l.length) : gt l i ∈ l := by
  unfold gt
  rw [List.getD, List.getElem?_eq_getElem h]
  exact List.getElem_mem h
theorem gt_map (f : V2 → V2) (l : List V2) (i : Nat) (h : i < l.length) : gt (l.map f) i = f (gt l i) := by
  unfold gt
  simp [List.getD, h]
theorem gt_rev (l : List V2) (i : Nat) (h : i < l.length) : gt l.reverse i = gt l (l.length - 1 - i) := by
  unfold gt
  exact getD_reverse _ _ h
/-- What a chain is: its points relative to the centre. -/
structure ArcLs (a : Arc) (t : Int) (L D : List V2) : Prop where
  len : D.length = L.length
  ge2 : 2 ≤ L.length
  le : L.length ≤ 40000
  at' : ∀ i, i < L.length → gt L i = addW (gt D i) a.c
  nr : ∀ i, i < L.length → Nr (sqA a) (gt D i)
  up : a.cw = false → ∀ i, i + 1 < L.length → Leaf (sqA a) t (gt D i) (gt D (i + 1))
  dn : a.cw = true → ∀ i, i + 1 < L.length → Leaf (sqA a) t (gt D (i + 1)) (gt D i)
  h0 : gt D 0 = uA a
  h1 : gt D (L.length - 1) = vA a
theorem chain_ends {r t : Int} (p q : V2) : 2 ≤ (chainL r t p q).length ∧ gt (chainL r t p q) 0 = p ∧ gt (chainL r t p q) ((chainL r t p q).length - 1) = q := by
  obtain ⟨l, e⟩ := chnF_last r t q 3 p
  unfold chainL
  rw [e]
  refine ⟨by simp, rfl, ?_⟩
  unfold gt
  simp [List.getD]
theorem arc_list {a : Arc} {t : Int} (hv : validA a = true) : ∃ D, ArcLs a t (listA a t) D := by
  obtain ⟨ok, hu, hw⟩ := valid_ok hv
  have hle := listA_len4 t hv
  unfold listA at hle ⊢
  cases hc : a.cw with
  | false =>
    rw [hc] at hle
    simp only [Bool.false_eq_true, if_false, List.length_map] at hle ⊢
    obtain ⟨e1, e2, e3⟩ := chain_ends (r := sqA a) (t := t) (uA a) (vA a)
    have hn := chain_nbs (t := t) hu hw
    generalize chainL (sqA a) t (uA a) (vA a) = C at *
    refine ⟨C, by simp, by simpa using e1, by simpa using hle, fun i hi => ?_, fun i hi => ?_, fun _ i hi => ?_, fun h => ?_, e2, by simpa using e3⟩
    · rw [gt_map _ _ _ (by simpa using hi)]; rfl
    · exact nbs_near hn e1 _ (gt_mem (by simpa using hi))
    · exact nbs_at hn i (by simpa using hi)
    · rw [hc] at h; cases h
  | true =>
    rw [hc] at hle
    simp only [if_true, List.length_map, List.length_reverse] at hle ⊢
    obtain ⟨e1, e2, e3⟩ := chain_ends (r := sqA a) (t := t) (vA a) (uA a)
    have hn := chain_nbs (t := t) hw hu
    generalize chainL (sqA a) t (vA a) (uA a) = C at *
    refine ⟨C.reverse, by simp, by simpa using e1, by simpa using hle, fun i hi => ?_, fun i hi => ?_, fun h => ?_, fun _ i hi => ?_, ?_, ?_⟩
    · have hi' : i < C.length := by simpa using hi
      rw [gt_rev _ _ (by simpa using hi), gt_rev _ _ hi', List.length_map, gt_map _ _ _ (by omega)]; rfl
    · have hi' : i < C.length := by simpa using hi
      rw [gt_rev _ _ hi']
      exact nbs_near hn e1 _ (gt_mem (by omega))
    · rw [hc] at h; cases h
    · have hi' : i + 1 < C.length := by simpa using hi
      rw [gt_rev C i (by omega), gt_rev C (i + 1) hi']
      have := nbs_at hn (C.length - 1 - (i + 1)) (by omega)
      rwa [show C.length - 1 - (i + 1) + 1 = C.length - 1 - i by omega] at this
    · rw [gt_rev _ _ (by omega)]
      exact e3
    · simp only [List.length_reverse, List.length_map]
      rw [gt_rev _ _ (by omega), show C.length - 1 - (C.length - 1) = 0 by omega]
      exact e2
theorem sub_add {m n : Int} {x c : V2} (hx : In 2000 x) (hc : In 2000 c) : subW (addW x c) c = x ∧ (addW x c).x = x.x + c.x ∧ (addW x c).y = x.y + c.y := by
  have h1 := hx.x0; have h2 := hx.x1; have h3 := hx.y0; have h4 := hx.y1; have h5 := hc.x0; have h6 := hc.x1; have h7 := hc.y0; have h8 := hc.y1
  have e1 : (addW x c).x = x.x + c.x := wid' (by omega) (by omega)
  have e2 : (addW x c).y = x.y + c.y := wid' (by omega) (by omega)
  refine ⟨V2.ext ?_ ?_, e1, e2⟩
  · show w64 ((addW x c).x - c.x) = x.x
    rw [e1, wid' (by omega) (by omega)]; omega
  · show w64 ((addW x c).y - c.y) = x.y
    rw [e2, wid' (by omega) (by omega)]; omega
section
variable {a : Arc} {t : Int} {L D : List V2} (A : ArcLs a t L D) (hv : validA a = true)
include A hv
theorem ArcLs.inn (i : Nat) (hi : i < L.length) : In 2000 (gt D i) := nr_in (valid_ok hv).2.1.r1 (A.nr i hi)
theorem ArcLs.sub (i : Nat) (hi : i < L.length) : subW (gt L i) a.c = gt D i := by
  rw [A.at' i hi]
  exact (sub_add (m := 0) (n := 0) (A.inn hv i hi) (valid_ok hv).1.c).1
theorem ArcLs.first : gt L 0 = a.f := by
  have g2 := A.ge2
  have ok := (valid_ok hv).1
  obtain ⟨_, e1, e2⟩ := sub_add (m := 0) (n := 0) (A.inn hv 0 (by omega)) ok.c
  rw [A.at' 0 (by omega)]
  refine V2.ext ?_ ?_
  · rw [e1, A.h0]; simp only [uA, difP]; omega
  · rw [e2, A.h0]; simp only [uA, difP]; omega
theorem ArcLs.final : gt L (L.length - 1) = a.t := by
  have g2 := A.ge2
  have ok := (valid_ok hv).1
  obtain ⟨_, e1, e2⟩ := sub_add (m := 0) (n := 0) (A.inn hv (L.length - 1) (by omega)) ok.c
  rw [A.at' _ (by omega)]
  refine V2.ext ?_ ?_
  · rw [e1, A.h1]; simp only [vA, difP]; omega
  · rw [e2, A.h1]; simp only [vA, difP]; omega
theorem ArcLs.ne (i : Nat) (h0 : 0 < i) (hi : i < L.length) : gt L i ≠ gt L (i - 1) := by
  have ok := (valid_ok hv).1
  intro e
  have s1 := A.sub hv i hi
  have s2 := A.sub hv (i - 1) (by omega)
  rw [e, s2] at s1
  cases hc : a.cw with
  | false =>
    have := (A.up hc (i - 1) (by omega)).good.cr
    rw [show i - 1 + 1 = i by omega, s1] at this
    simp only [crossP] at this
    grind
  | true =>
    have := (A.dn hc (i - 1) (by omega)).good.cr
    rw [show i - 1 + 1 = i by omega, s1] at this
    simp only [crossP] at this
    grind
end
/-! ### ArcEnds -/
theorem larcends_det (a : Arc) (t : Int) : Det Try.prog 7 [arcD a, .one (i64 t)] (tbool true) := by
  refine det_of_awp TTok mixed Try.func7 rfl rfl [] (Nat.le_of_ble_eq_true rfl) ?_
  refine CallW.mk' awake11_det ?_
  refine Split.f ?_
  have hf := flat_detR a t
  rcases flat_cases a t with ⟨hv, e⟩ | ⟨hv, ht, e⟩ | ⟨hv, ht0, ht1, e⟩
  · rw [e] at hf
    refine CallW.mk' hf ?_
    repeat' first | refine Split.t ?_ | refine Split.f ?_ | fail
    refine CallW.mk' ((valida_det a).eq (by rw [hv])) ?_
    repeat' first | refine Split.t ?_ | refine Split.f ?_ | fail
    exact Fin.rfl'
  · rw [e] at hf
    refine CallW.mk' hf ?_
    repeat' first | refine Split.t ?_ | refine Split.f ?_ | fail
    refine CallW.mk' ((valida_det a).eq (by rw [hv])) ?_
    repeat' first | refine Split.t ?_ | refine Split.f ?_ | fail
    refine Split.mk (fun h1 => ?_) (fun h1 => ?_)
    · repeat' first | refine Split.isT h1 ?_ | refine Split.t ?_ | refine Split.f ?_ | fail
      refine Fin.bool ?_
      first | exact h1 | rfl
    · have h2 : decide (t > 50) = true := decide_eq_true (by have := of_decide_eq_false h1; omega)
      repeat' first | refine Split.isF h1 ?_ | refine Split.isT h2 ?_ | refine Split.t ?_ | refine Split.f ?_ | fail
      refine Fin.bool ?_
      first | exact h2 | rfl
  rw [e] at hf
  replace hf : Det Try.prog 21 [arcD a, .one (i64 t)] (ringE (listA a t) 0) := hf
  obtain ⟨D, A⟩ := arc_list (t := t) hv
  obtain ⟨ok, hu, hw'⟩ := valid_ok hv
  refine CallW.mk' hf ?_
  have g2 := A.ge2
  have g4 := A.le
  have f1 := A.first hv
  have f2 := A.final hv
  clear hf e
  revert g2 g4 f1 f2 A
  generalize listA a t = L
  intro A g2 g4 f1 f2
  refine Split.f ?_
  have hlt2 : decide ((L.length : Int) < 2) = false := decide_eq_false (by omega)
  have e2 : IntKind.i64.wrap ((L.length : Int) - 1) = ((L.length - 1 : Nat) : Int) := by rw [hw _ (by omega) (by omega)]; omega
  repeat' first | refine Split.isF hlt2 ?_ | refine Split.t ?_ | refine Split.f ?_ | fail
  refine Need.mk (by omega) ?_
  repeat' first | refine Split.isF hlt2 ?_ | refine Split.t ?_ | refine Split.f ?_ | fail
  refine EqW.v (gt L 0) a.f (fun q hq => ?_)
  obtain rfl := hq.2 f1
  repeat' first | refine Split.isF hlt2 ?_ | refine Split.t ?_ | refine Split.f ?_ | fail
  refine Need.mk (by rw [e2]; omega) ?_
  repeat' first | refine Split.isF hlt2 ?_ | refine Split.t ?_ | refine Split.f ?_ | fail
  refine EqW.v (gt L (IntKind.i64.wrap ((L.length : Int) - 1)).toNat) a.t (fun q hq => ?_)
  obtain rfl := hq.2 (by rw [e2, Int.toNat_natCast]; exact f2)
  repeat' first | refine Split.isF hlt2 ?_ | refine Split.t ?_ | refine Split.f ?_ | fail
  refine Need.mk (by kernel_rfl) ?_
  refine Split.f ?_
  refine CallW.mk' ((sub_det a.f a.c).eq (by rw [ok.u.1])) ?_
  refine CallW.mk' ((rdot_det (uA a) (uA a)).eq (by rw [ok.uu])) ?_
  refine Loop.by (α := Nat) (fun k => [(2, .ptr 2 0), (5, .d (.one (vlS L))), (8, tint (sqA a)), (9, tint k)]) (fun k => [(2, .box (arcL a))]) (fun k => k ≤ L.length) (fun k => L.length - k)
    (Adj.at 0 (Nat.zero_le _) (.cons (.box (LLe.of_eq rfl)) .nil) (.cons (.box rfl rfl) (.cons .same (.cons .same (.cons .same .nil))))) (fun k hk => ?_)
  refine Split.mk (fun h => ?_) (fun h => ?_)
  · have hlt : k < L.length := by have := of_decide_eq_true h; omega
    have ik := A.inn hv k hlt
    have hnr := A.nr k hlt
    refine Need.mk (by omega) ?_
    refine CallW.mk' ((sub_det (gt L k) a.c).eq (by rw [A.sub hv k hlt])) ?_
    refine Need.mk (by kernel_rfl) ?_
    refine CallW.int ((rdot_det (gt D k) (gt D k)).eq (by rw [(dotW_eq (ik.wide (by decide)) (ik.wide (by decide))).1])) (fun n hn => ?_)
    have hn0 : 0 ≤ n ∧ n ≤ 8000000 := by
      have m1 := mul_bd ik.x0 ik.x1 ik.x0 ik.x1 (by decide) (by decide)
      have m2 := mul_bd ik.y0 ik.y1 ik.y0 ik.y1 (by decide) (by decide)
      have s1 := sq_nonneg (gt D k).x
      have s2 := sq_nonneg (gt D k).y
      rw [hn]
      simp only [dotP]
      omega
    have hr0 := hu.r0
    have hr1 := hu.r1
    have e3 : IntKind.i64.wrap (IntKind.i64.wrap (n + sqA a) - 1) = n + sqA a - 1 := by rw [wid (n := n + sqA a) (by omega) (by omega), wid (by omega) (by omega)]
    have key := near_one hr0 hnr
    rw [← hn] at key
    generalize sqA a = r at *
    have m3 : (n + r - 1) * (n + r - 1) ≤ 12000000 * 12000000 := Int.mul_le_mul (by omega) (by omega) (by omega) (by decide)
    have m4 : 0 ≤ (n + r - 1) * (n + r - 1) := sq_nonneg _
    have m5 : 4 * n * r ≤ 32000000 * 4000000 := Int.mul_le_mul (by omega) (by omega) (by omega) (by decide)
    have m6 : 0 ≤ 4 * n * r := Int.mul_nonneg (by omega) (by omega)
    have b1 : decide (IntKind.i64.wrap (IntKind.i64.wrap (n + r) - 1) ≥ 0) = true := decide_eq_true (by rw [e3]; omega)
    have b2 : decide (IntKind.i64.wrap (IntKind.i64.wrap (IntKind.i64.wrap (n + r) - 1) * IntKind.i64.wrap (IntKind.i64.wrap (n + r) - 1)) ≥ IntKind.i64.wrap (IntKind.i64.wrap (4 * n) * r)) = false := decide_eq_false (by
      rw [e3, wid (n := 4 * n) (by omega) (by omega), wid (by omega) (by omega), wid (by omega) (by omega)]
      omega)
    repeat' first | refine Split.isT b1 ?_ | refine Split.isF b2 ?_ | refine Split.t ?_ | refine Split.f ?_ | fail
    refine Split.mk (fun g => ?_) (fun g => ?_)
    · have hk0 : 0 < k := by have := of_decide_eq_true g; omega
      have e4 : IntKind.i64.wrap ((k : Int) - 1) = ((k - 1 : Nat) : Int) := by rw [hw _ (by omega) (by omega)]; omega
      repeat' first | refine Split.isT g ?_ | refine Split.isT b1 ?_ | refine Split.isF b2 ?_ | refine Split.t ?_ | refine Split.f ?_ | fail
      refine Need.mk (by omega) ?_
      repeat' first | refine Split.isT g ?_ | refine Split.t ?_ | refine Split.f ?_ | fail
      refine Need.mk (by rw [e4]; omega) ?_
      repeat' first | refine Split.isT g ?_ | refine Split.t ?_ | refine Split.f ?_ | fail
      refine EqW.v (gt L k) (gt L (IntKind.i64.wrap ((k : Int) - 1)).toNat) (fun q hq => ?_)
      have hqf : q = false := by
        cases q with
        | false => rfl
        | true =>
          have := hq.1 rfl
          rw [e4, Int.toNat_natCast] at this
          exact absurd this (A.ne hv k hk0 hlt)
      subst hqf
      repeat' first | refine Split.isT g ?_ | refine Split.isT b1 ?_ | refine Split.isF b2 ?_ | refine Split.t ?_ | refine Split.f ?_ | fail
      refine Need.mk (by kernel_rfl) ?_
      repeat' first | refine Split.t ?_ | refine Split.f ?_ | fail
      refine Adj.back (x := k) (k + 1) (by omega) (by omega) (.cons (.box (LLe.of_eq rfl)) .nil) (.cons (.box rfl rfl) (.cons .same (.cons .same (.cons (SlotLe.int ?_) .nil))))
      rw [hw _ (by omega) (by omega)]; omega
    · repeat' first | refine Split.isF g ?_ | refine Split.isT b1 ?_ | refine Split.isF b2 ?_ | refine Split.t ?_ | refine Split.f ?_ | fail
      refine Need.mk (by kernel_rfl) ?_
      repeat' first | refine Split.isF g ?_ | refine Split.t ?_ | refine Split.f ?_ | fail
      refine Adj.back (x := k) (k + 1) (by omega) (by omega) (.cons (.box (LLe.of_eq rfl)) .nil) (.cons (.box rfl rfl) (.cons .same (.cons .same (.cons (SlotLe.int ?_) .nil))))
      rw [hw _ (by omega) (by omega)]; omega
  · exact Fin.rfl'
theorem arc_args {P : List DV → Prop} (H : ∀ a t, P [arcD a, .one (i64 t)]) : ∀ dvs, TypL Try.prog [45, 3] dvs → P dvs := by
  intro dvs h
  obtain ⟨v0, r0, rfl, h0, q0⟩ := TypL.inv_cons (t := 45) (ts := [3]) h
  obtain ⟨v1, r1, rfl, h1, q1⟩ := TypL.inv_cons (t := 3) (ts := []) q0
  obtain rfl := TypL.inv_nil q1
  obtain ⟨a, rfl⟩ := arcIn h0
  obtain ⟨t, rfl, _⟩ := TypD.i64 (by kernel_rfl) rfl h1
  exact H a t
theorem larcends_all : ∀ dvs, TypL Try.prog Try.f7.params.toList dvs → Det Try.prog 7 dvs (tbool true) :=
  arc_args (P := fun dvs => Det Try.prog 7 dvs (tbool true)) larcends_det
/-! ### ArcTolerance -/
theorem chord_w2 {c d : Int} (h1 : -8000000 ≤ c) (h2 : c ≤ 8000000) (hd : 0 < d) : IntKind.i64.wrap ((IntKind.i64.wrap (IntKind.i64.wrap (65536 * c) * c)).tdiv d) = 65536 * c * c / d ∧ R64 (65536 * c * c / d) := by
  have hcc := mul_bd h1 h2 h1 h2 (by decide) (by decide)
  have hc0 := sq_nonneg c
  have e : 65536 * c * c = 65536 * (c * c) := by grind
  rw [wid (n := 65536 * c) (by omega) (by omega), wid (n := 65536 * c * c) (by omega) (by omega), quo_w (by omega) (by omega) hd]
  have a := Int.ediv_nonneg (show 0 ≤ 65536 * c * c by omega) (Int.le_of_lt hd)
  have b := Int.ediv_le_self d (show 0 ≤ 65536 * c * c by omega)
  exact ⟨rfl, by omega, by omega⟩
theorem distant_det (p q : V2) (r t : Int) (hp : In 2000 p) (hq : In 2000 q) (hd : 0 < dotP (difP q p) (difP q p)) (hr0 : 0 < r) (hr1 : r ≤ 4000000) (ht0 : 1 ≤ t) (ht1 : t ≤ 50) :
    Det Try.prog 31 [vD p, vD q, .one (i64 r), .one (i64 t)] (tbool (distB p q r t)) := by
  have hdd := difP_in hq hp
  refine det_of_awp TTok mixed Try.func31 rfl rfl [] (Nat.le_of_ble_eq_true rfl) ?_
  refine CallW.mk' ((sub_det q p).eq (by rw [sbW_eq (hq.wide (by decide)) (hp.wide (by decide))])) ?_
  refine CallW.int ((rdot_det p (difP q p)).eq (by rw [(dotW_eq (hp.wide (by decide)) (hdd.wide (by decide))).1])) (fun m hm => ?_)
  refine Split.mk (fun h1 => ?_) (fun h1 => ?_)
  · repeat' first | refine Split.isT h1 ?_ | refine Split.t ?_ | refine Split.f ?_ | fail
    refine Fin.bool ?_
    have := of_decide_eq_true h1
    rw [distB, if_pos (.inl (by omega))]
  repeat' first | refine Split.isF h1 ?_ | refine Split.t ?_ | refine Split.f ?_ | fail
  refine CallW.int ((rdot_det q (difP q p)).eq (by rw [(dotW_eq (hq.wide (by decide)) (hdd.wide (by decide))).1])) (fun n hn => ?_)
  repeat' first | refine Split.isF h1 ?_ | refine Split.t ?_ | refine Split.f ?_ | fail
  refine Split.mk (fun h2 => ?_) (fun h2 => ?_)
  · refine Fin.bool ?_
    have := of_decide_eq_true h2
    rw [distB, if_pos (.inr (by omega))]
  have h1' := of_decide_eq_false h1
  have h2' := of_decide_eq_false h2
  have hcb := mul_bd hp.x0 hp.x1 hq.y0 hq.y1 (by decide) (by decide)
  have hcb' := mul_bd hp.y0 hp.y1 hq.x0 hq.x1 (by decide) (by decide)
  have hc1 : -8000000 ≤ crossP p q ∧ crossP p q ≤ 8000000 := by simp only [crossP]; omega
  obtain ⟨e1, e2⟩ := chord_w2 hc1.1 hc1.2 hd
  refine CallW.mk' ((cross_det p q).eq (by rw [(crW_eq (hp.wide (by decide)) (hq.wide (by decide))).1])) ?_
  refine CallW.mk' ((rdot_det (difP q p) (difP q p)).eq (by rw [(dotW_eq (hdd.wide (by decide)) (hdd.wide (by decide))).1])) ?_
  refine Need.mk (by omega) ?_
  refine CallW.int (rroot_det _ (by rw [e1]; exact e2)) (fun u hu => ?_)
  rw [e1] at hu
  have w1 : IntKind.i64.wrap (65536 * r) = 65536 * r := wid (by omega) (by omega)
  refine CallW.int (rroot_det (IntKind.i64.wrap (65536 * r)) (by rw [w1]; exact ⟨by omega, by omega⟩)) (fun s hs => ?_)
  rw [w1] at hs
  obtain ⟨s0, s1, _⟩ := isq_spec (n := 65536 * r) (by omega) (by omega)
  have s2 := isq_le s0 s1 (by omega)
  obtain ⟨n0, n1, _⟩ := isq_spec (n := 65536 * crossP p q * crossP p q / dotP (difP q p) (difP q p)) (Int.ediv_nonneg (by have := sq_nonneg (crossP p q); grind) (Int.le_of_lt hd)) (by have := e2.2; omega)
  have n2 := isq_le n0 n1 (by have := e2.2; omega)
  refine Fin.bool ?_
  rw [distB, if_neg (by omega), ← hu, ← hs, wid (n := u + 1) (by omega) (by omega), wid (n := 256 * t) (by omega) (by omega), wid (by omega) (by omega)]
theorem distB_sym (p q : V2) (r t : Int) : distB q p r t = distB p q r t := by
  have e1 : dotP q (difP p q) = -dotP q (difP q p) := by simp only [dotP, difP]; grind
  have e2 : dotP p (difP p q) = -dotP p (difP q p) := by simp only [dotP, difP]; grind
  have e3 : crossP q p = -crossP p q := by simp only [crossP]; grind
  have e4 : 65536 * crossP q p * crossP q p = 65536 * crossP p q * crossP p q := by rw [e3]; grind
  unfold distB
  rw [e1, e2, e4, dif_sq p q]
  by_cases h : dotP p (difP q p) ≥ 0 ∨ dotP q (difP q p) ≤ 0
  · rw [if_pos h, if_pos (by omega)]
  · rw [if_neg h, if_neg (by omega)]
theorem ArcLs.near {a : Arc} {t : Int} {L D : List V2} (A : ArcLs a t L D) (ht : 2 ≤ t) (i : Nat) (h0 : 0 < i) (hi : i < L.length) :
    0 < dotP (difP (gt D i) (gt D (i - 1))) (difP (gt D i) (gt D (i - 1))) ∧ distB (gt D (i - 1)) (gt D i) (sqA a) t = false := by
  cases hc : a.cw with
  | false =>
    have := A.up hc (i - 1) (by omega)
    rw [show i - 1 + 1 = i by omega] at this
    exact ⟨by rw [dif_sq]; exact this.good.dif, leaf_near ht this⟩
  | true =>
    have := A.dn hc (i - 1) (by omega)
    rw [show i - 1 + 1 = i by omega] at this
    exact ⟨this.good.dif, by rw [distB_sym]; exact leaf_near ht this⟩
theorem larctol_det (a : Arc) (t : Int) : Det Try.prog 8 [arcD a, .one (i64 t)] (tbool true) := by
  refine det_of_awp TTok mixed Try.func8 rfl rfl [] (Nat.le_of_ble_eq_true rfl) ?_
  refine CallW.mk' awake11_det ?_
  refine Split.f ?_
  have hf := flat_detR a t
  rcases flat_cases a t with ⟨hv, e⟩ | ⟨hv, ht, e⟩ | ⟨hv, ht0, ht1, e⟩
  · rw [e] at hf
    refine CallW.mk' hf ?_
    repeat' first | refine Split.t ?_ | refine Split.f ?_ | fail
    exact Fin.rfl'
  · rw [e] at hf
    refine CallW.mk' hf ?_
    repeat' first | refine Split.t ?_ | refine Split.f ?_ | fail
    exact Fin.rfl'
  rw [e] at hf
  replace hf : Det Try.prog 21 [arcD a, .one (i64 t)] (ringE (listA a t) 0) := hf
  obtain ⟨D, A⟩ := arc_list (t := t) hv
  obtain ⟨ok, hu, hw'⟩ := valid_ok hv
  refine CallW.mk' hf ?_
  have g2 := A.ge2
  have g4 := A.le
  clear hf e
  revert g2 g4 A
  generalize listA a t = L
  intro A g2 g4
  repeat' first | refine Split.t ?_ | refine Split.f ?_ | fail
  refine Split.mk (fun h2 => ?_) (fun h2 => ?_)
  · repeat' first | refine Split.isT h2 ?_ | refine Split.t ?_ | refine Split.f ?_ | fail
    exact Fin.rfl'
  have h2' : 2 ≤ t := by have := of_decide_eq_false h2; omega
  repeat' first | refine Split.isF h2 ?_ | refine Split.t ?_ | refine Split.f ?_ | fail
  refine CallW.mk' ((sub_det a.f a.c).eq (by rw [ok.u.1])) ?_
  refine Loop.by (α := Nat) (fun k => [(1, tint t), (2, .ptr 2 0), (5, .d (.one (vlS L))), (7, .ptr 7 0), (8, tint k)]) (fun k => [(2, .box (arcL a)), (7, .box (vL (uA a)))]) (fun k => 1 ≤ k ∧ k ≤ L.length) (fun k => L.length - k)
    (Adj.at 1 ⟨by omega, by omega⟩ (.cons (.box (LLe.of_eq rfl)) (.cons (.box (LLe.of_eq rfl)) .nil)) (.cons .same (.cons (.box rfl rfl) (.cons .same (.cons (.box rfl rfl) (.cons .same .nil)))))) (fun k hk => ?_)
  obtain ⟨hk1, hk⟩ := hk
  refine Split.mk (fun h => ?_) (fun h => ?_)
  · have hlt : k < L.length := by have := of_decide_eq_true h; omega
    have e4 : IntKind.i64.wrap ((k : Int) - 1) = ((k - 1 : Nat) : Int) := by rw [hw _ (by omega) (by omega)]; omega
    obtain ⟨d1, d2⟩ := A.near h2' k hk1 hlt
    refine Need.mk (by rw [e4]; omega) ?_
    refine CallW.mk' ((sub_det (gt L (IntKind.i64.wrap ((k : Int) - 1)).toNat) a.c).eq (by rw [e4, Int.toNat_natCast, A.sub hv (k - 1) (by omega)])) ?_
    refine Need.mk (by omega) ?_
    refine CallW.mk' ((sub_det (gt L k) a.c).eq (by rw [A.sub hv k hlt])) ?_
    refine CallW.mk' ((rdot_det (uA a) (uA a)).eq (by rw [ok.uu])) ?_
    refine CallW.mk' ((distant_det (gt D (k - 1)) (gt D k) (sqA a) t (A.inn hv _ (by omega)) (A.inn hv _ hlt) d1 hu.r0 hu.r1 ht0 ht1).eq (by rw [d2])) ?_
    refine Need.mk (by kernel_rfl) ?_
    refine Split.f ?_
    refine Adj.back (x := k) (k + 1) ⟨by omega, by omega⟩ (by omega) (.cons (.box (LLe.of_eq rfl)) (.cons (.box (LLe.of_eq rfl)) .nil)) (.cons .same (.cons (.box rfl rfl) (.cons .same (.cons (.box rfl rfl) (.cons (SlotLe.int ?_) .nil)))))
    rw [hw _ (by omega) (by omega)]; omega
  · exact Fin.rfl'
theorem larctol_all : ∀ dvs, TypL Try.prog Try.f8.params.toList dvs → Det Try.prog 8 dvs (tbool true) :=
  arc_args (P := fun dvs => Det Try.prog 8 dvs (tbool true)) larctol_det
/-! ### ArcOrder -/
theorem larcorder_det (a : Arc) (t : Int) : Det Try.prog 9 [arcD a, .one (i64 t)] (tbool true) := by
  refine det_of_awp TTok mixed Try.func9 rfl rfl [] (Nat.le_of_ble_eq_true rfl) ?_
  refine CallW.mk' awake11_det ?_
  refine Split.f ?_
  have hf := flat_detR a t
  rcases flat_cases a t with ⟨hv, e⟩ | ⟨hv, ht, e⟩ | ⟨hv, ht0, ht1, e⟩
  · rw [e] at hf
    refine CallW.mk' hf ?_
    repeat' first | refine Split.t ?_ | refine Split.f ?_ | fail
    exact Fin.rfl'
  · rw [e] at hf
    refine CallW.mk' hf ?_
    repeat' first | refine Split.t ?_ | refine Split.f ?_ | fail
    exact Fin.rfl'
  rw [e] at hf
  replace hf : Det Try.prog 21 [arcD a, .one (i64 t)] (ringE (listA a t) 0) := hf
  obtain ⟨D, A⟩ := arc_list (t := t) hv
  obtain ⟨ok, hu, hw'⟩ := valid_ok hv
  refine CallW.mk' hf ?_
  have g2 := A.ge2
  have g4 := A.le
  clear hf e
  revert g2 g4 A
  generalize listA a t = L
  intro A g2 g4
  refine Split.f ?_
  refine Loop.by (α := Nat) (fun k => [(2, .ptr 2 0), (5, .d (.one (vlS L))), (7, tint k)]) (fun k => [(2, .box (arcL a))]) (fun k => 1 ≤ k ∧ k ≤ L.length) (fun k => L.length - k)
    (Adj.at 1 ⟨by omega, by omega⟩ (.cons (.box (LLe.of_eq rfl)) .nil) (.cons (.box rfl rfl) (.cons .same (.cons .same .nil)))) (fun k hk => ?_)
  obtain ⟨hk1, hk⟩ := hk
  refine Split.mk (fun h => ?_) (fun h => ?_)
  · have hlt : k < L.length := by have := of_decide_eq_true h; omega
    have e4 : IntKind.i64.wrap ((k : Int) - 1) = ((k - 1 : Nat) : Int) := by rw [hw _ (by omega) (by omega)]; omega
    have ip := A.inn hv (k - 1) (by omega)
    have iq := A.inn hv k hlt
    have key : (a.cw = false → 0 < crossP (gt D (k - 1)) (gt D k)) ∧ (a.cw = true → crossP (gt D (k - 1)) (gt D k) < 0) ∧ 0 ≤ dotP (gt D (k - 1)) (gt D k) := by
      cases hc : a.cw with
      | false =>
        have := (A.up hc (k - 1) (by omega)).good
        rw [show k - 1 + 1 = k by omega] at this
        exact ⟨fun _ => this.cr, by simp, this.dt⟩
      | true =>
        have := (A.dn hc (k - 1) (by omega)).good
        rw [show k - 1 + 1 = k by omega] at this
        have c := this.cr
        have d := this.dt
        refine ⟨by simp, fun _ => ?_, ?_⟩
        · simp only [crossP] at c ⊢; grind
        · simp only [dotP] at d ⊢; grind
    refine Need.mk (by rw [e4]; omega) ?_
    refine CallW.mk' ((sub_det (gt L (IntKind.i64.wrap ((k : Int) - 1)).toNat) a.c).eq (by rw [e4, Int.toNat_natCast, A.sub hv (k - 1) (by omega)])) ?_
    refine Need.mk (by omega) ?_
    refine CallW.mk' ((sub_det (gt L k) a.c).eq (by rw [A.sub hv k hlt])) ?_
    refine Need.mk (by kernel_rfl) ?_
    obtain ⟨w1, w2, w3⟩ := crW_eq (ip.wide (m' := 8000) (by decide)) (iq.wide (m' := 8000) (by decide))
    refine CallW.int ((cross_det (gt D (k - 1)) (gt D k)).eq (by rw [w1])) (fun c hc => ?_)
    refine Split.mk (fun g => ?pa) (fun g => ?pb)
    case' pa =>
      have hpos : decide (IntKind.i64.wrap (0 - c) ≤ 0) = false := decide_eq_false (by
        have := key.2.1 g
        rw [wid (by omega) (by omega)]; omega)
    case' pb =>
      have hpos : decide (c ≤ 0) = false := decide_eq_false (by
        have := key.1 g
        omega)
    all_goals
      repeat' first | refine Split.isF hpos ?_ | refine Split.t ?_ | refine Split.f ?_ | fail
      refine CallW.int ((rdot_det (gt D (k - 1)) (gt D k)).eq (by rw [(dotW_eq (ip.wide (by decide)) (iq.wide (by decide))).1])) (fun d hd => ?_)
      have hnn : decide (d < 0) = false := decide_eq_false (by have := key.2.2; omega)
      repeat' first | refine Split.isF hpos ?_ | refine Split.isF hnn ?_ | refine Split.t ?_ | refine Split.f ?_ | fail
      refine Adj.back (x := k) (k + 1) ⟨by omega, by omega⟩ (by omega) (.cons (.box (LLe.of_eq rfl)) .nil) (.cons (.box rfl rfl) (.cons .same (.cons (SlotLe.int ?_) .nil)))
      rw [hw _ (by omega) (by omega)]; omega
  · exact Fin.rfl'
theorem larcorder_all : ∀ dvs, TypL Try.prog Try.f9.params.toList dvs → Det Try.prog 9 dvs (tbool true) :=
  arc_args (P := fun dvs => Det Try.prog 9 dvs (tbool true)) larcorder_det
end Sg
end Go.Vm
