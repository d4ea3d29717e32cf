/-
  Layer 11: the contracts of ArcOpposite and ArcCoarser.
-/
import Derived.Test.YtlckiecpelchlaaArcM
namespace Go.Vm
set_option maxRecDepth 20000
set_option linter.unusedVariables false
set_option linter.unusedSimpArgs false
open Go Go.RowKit Go.Proofs
namespace Sg

def oppA (a : Arc) : Arc := ⟨a.t, a.f, a.c, !a.cw⟩
theorem opp_valid (a : Arc) : validA (oppA a) = validA a := by
  have e1 : uA (oppA a) = vA a := rfl
  have e2 : vA (oppA a) = uA a := rfl
  rw [Bool.eq_iff_iff]
  simp only [validA, Bool.and_eq_true, decide_eq_true_eq]
  show (withinV a.t 2000 = true ∧ withinV a.f 2000 = true ∧ withinV a.c 2000 = true ∧ 0 < dotP (vA a) (vA a) ∧ dotP (vA a) (vA a) = dotP (uA a) (uA a) ∧ dotP (vA a) (vA a) ≤ 4000000) ↔ (withinV a.f 2000 = true ∧ withinV a.t 2000 = true ∧ withinV a.c 2000 = true ∧ 0 < dotP (uA a) (uA a) ∧ dotP (uA a) (uA a) = dotP (vA a) (vA a) ∧ dotP (uA a) (uA a) ≤ 4000000)
  constructor
  · rintro ⟨h1, h2, h3, h4, h5, h6⟩; exact ⟨h2, h1, h3, by omega, by omega, by omega⟩
  · rintro ⟨h1, h2, h3, h4, h5, h6⟩; exact ⟨h2, h1, h3, by omega, by omega, by omega⟩
theorem opp_list (a : Arc) (t : Int) (h : validA a = true) : listA (oppA a) t = (listA a t).reverse := by
  have hs : sqA (oppA a) = sqA a := by
    simp only [validA, Bool.and_eq_true, decide_eq_true_eq] at h
    show dotP (vA a) (vA a) = sqA a
    omega
  unfold listA
  rw [hs]
  cases hc : a.cw with
  | false =>
    have : (oppA a).cw = true := by simp [oppA, hc]
    rw [this]
    rfl
  | true =>
    have : (oppA a).cw = false := by simp [oppA, hc]
    rw [this]
    simp only [Bool.false_eq_true, if_false, if_true, List.reverse_reverse]
    rfl
theorem opp_flat (a : Arc) (t : Int) : (flatR (oppA a) t).2 = (flatR a t).2 ∧ (flatR (oppA a) t).1 = (flatR a t).1.reverse := by
  rcases flat_cases a t with ⟨hv, e⟩ | ⟨hv, ht, e⟩ | ⟨hv, ht0, ht1, e⟩
  all_goals
    rw [e]
    unfold flatR
    rw [opp_valid, hv]
  · exact ⟨rfl, rfl⟩
  · rw [if_neg (by simp), if_pos ht]; exact ⟨rfl, rfl⟩
  · rw [if_neg (by simp), if_neg (by omega)]
    exact ⟨rfl, opp_list a t hv⟩
def mvA (a : Arc) (v : V2) : Arc := ⟨addW a.f v, addW a.t v, addW a.c v, a.cw⟩
theorem dif_mv {p c v : V2} (hp : In 2000 p) (hc : In 2000 c) (hv : In 4000 v) : difP (addW p v) (addW c v) = difP p c := by
  have h1 := hp.x0; have h2 := hp.x1; have h3 := hp.y0; have h4 := hp.y1
  have h5 := hc.x0; have h6 := hc.x1; have h7 := hc.y0; have h8 := hc.y1
  have k1 := hv.x0; have k2 := hv.x1; have k3 := hv.y0; have k4 := hv.y1
  have e1 : (addW p v).x = p.x + v.x := wid' (by omega) (by omega)
  have e2 : (addW p v).y = p.y + v.y := wid' (by omega) (by omega)
  have e3 : (addW c v).x = c.x + v.x := wid' (by omega) (by omega)
  have e4 : (addW c v).y = c.y + v.y := wid' (by omega) (by omega)
  refine V2.ext ?_ ?_
  · simp only [difP]; omega
  · simp only [difP]; omega
theorem w64_shift (x c v : Int) : w64 (x + w64 (c + v)) = w64 (w64 (x + c) + v) := by
  simp only [w64_def]
  omega
theorem sh_mv (c v x : V2) : shV (addW c v) x = addW (shV c x) v := V2.ext (w64_shift _ _ _) (w64_shift _ _ _)
theorem mv_list (a : Arc) (t : Int) (v : V2) (h : validA a = true) (hv : In 4000 v) : listA (mvA a v) t = (listA a t).map fun x => addW x v := by
  obtain ⟨ok, _, _⟩ := valid_ok h
  have e1 : uA (mvA a v) = uA a := dif_mv ok.f ok.c hv
  have e2 : vA (mvA a v) = vA a := dif_mv ok.t ok.c hv
  have e3 : sqA (mvA a v) = sqA a := by unfold sqA; rw [e1]
  have e4 : shV (mvA a v).c = fun x => addW (shV a.c x) v := funext fun x => sh_mv a.c v x
  have e5 : (mvA a v).cw = a.cw := rfl
  unfold listA
  rw [e1, e2, e3, e4, e5]
  split
  · rw [List.map_reverse, List.map_map]; rfl
  · rw [List.map_map]; rfl
theorem larcopp_det (a : Arc) (t : Int) (v : V2) : Det Try.prog 10 [arcD a, .one (i64 t), vD v] (tbool true) := by
  refine det_of_awp TTok mixed Try.func10 rfl rfl [] (Nat.le_of_ble_eq_true rfl) ?_
  refine CallW.mk' awake11_det ?_
  refine Split.f ?_
  have hL := flat_len4 a t
  obtain ⟨o1, o2⟩ := opp_flat a t
  have hf := flat_detR a t
  have hg := flat_detR (oppA a) t
  have hmv := flat_detR (mvA a v) t
  rw [o1, o2] at hg
  refine CallW.ringC hf (fun L e hLe he => ?_)
  rw [← hLe, ← he] at hg
  refine CallW.mk' hg ?_
  rw [← hLe] at hL
  have en : (e != e) = false := by simp
  have en2 : ((L.length : Int) != (L.reverse.length : Int)) = false := by simp
  repeat' first | refine Split.isF en ?_ | refine Split.isF en2 ?_ | refine Split.t ?_ | refine Split.f ?_ | fail
  refine Loop.by (α := Nat) (fun k => [(1, tint t), (3, .ptr 3 0), (5, .ptr 5 0), (7, .d (.one (vlS L))), (8, tint e), (9, .d (.one (vlS L.reverse))), (11, tint k)]) (fun k => [(3, .box (arcL a)), (5, .box (vL v))]) (fun k => k ≤ L.length) (fun k => L.length - k)
    (Adj.at 0 (Nat.zero_le _) (.cons (.box (LLe.of_eq rfl)) (.cons (.box (LLe.of_eq rfl)) .nil)) (.cons .same (.cons (.box rfl rfl) (.cons (.box rfl rfl) (.cons .same (.cons .same (.cons .same (.cons .same .nil)))))))) (fun k hk => ?_)
  refine Split.mk (fun h => ?_) (fun h => ?_)
  · have hlt : k < L.length := by have := of_decide_eq_true h; omega
    have hlr : L.reverse.length = L.length := List.length_reverse
    have e4 : IntKind.i64.wrap (IntKind.i64.wrap ((L.reverse.length : Int) - 1) - k) = ((L.length - 1 - k : Nat) : Int) := by rw [hlr, hw ((L.length : Int) - 1) (by omega) (by omega), hw _ (by omega) (by omega)]; omega
    refine Need.mk (by omega) ?_
    refine Need.mk (by rw [e4, hlr]; omega) ?_
    refine EqW.v (gt L k) (gt L.reverse (IntKind.i64.wrap (IntKind.i64.wrap ((L.reverse.length : Int) - 1) - k)).toNat) (fun q hq => ?_)
    obtain rfl := hq.2 (by rw [e4, Int.toNat_natCast, gt_rev _ _ (by omega), show L.length - 1 - (L.length - 1 - k) = k by omega])
    refine Need.mk (by kernel_rfl) ?_
    refine Split.f ?_
    refine Adj.back (x := k) (k + 1) (by omega) (by omega) (.cons (.box (LLe.of_eq rfl)) (.cons (.box (LLe.of_eq rfl)) .nil)) (.cons .same (.cons (.box rfl rfl) (.cons (.box rfl rfl) (.cons .same (.cons .same (.cons .same (.cons (SlotLe.int ?_) .nil)))))))
    rw [hw _ (by omega) (by omega)]; omega
  refine CallW.bool (within_det v 4000) (fun b hb => ?_)
  refine Split.mk (fun h1 => ?_) (fun h1 => ?_)
  · exact Fin.rfl'
  have hv : In 4000 v := In.of (by decide) (by decide) (by rw [← hb]; simpa using h1)
  refine CallW.mk' (radd_det a.f v) ?_
  refine CallW.mk' (radd_det a.t v) ?_
  refine CallW.mk' (radd_det a.c v) ?_
  refine Need.mk (by kernel_rfl) ?_
  refine CallW.ringC hmv (fun M g hM hg' => ?_)
  refine Split.mk (fun h2 => ?_) (fun h2 => ?_)
  · repeat' first | refine Split.isT h2 ?_ | refine Split.t ?_ | refine Split.f ?_ | fail
    exact Fin.rfl'
  repeat' first | refine Split.isF h2 ?_ | refine Split.t ?_ | refine Split.f ?_ | fail
  refine Split.mk (fun h3 => ?_) (fun h3 => ?_)
  · repeat' first | refine Split.isT h3 ?_ | refine Split.t ?_ | refine Split.f ?_ | fail
    exact Fin.rfl'
  have e0 : e = 0 := by simpa using h2
  have g0 : g = 0 := by simpa using h3
  have hML : M = L.map fun x => addW x v := by
    rcases flat_cases a t with ⟨hva, q⟩ | ⟨hva, ht, q⟩ | ⟨hva, ht0, ht1, q⟩
    · rw [q] at he; rw [he] at e0; cases e0
    · rw [q] at he; rw [he] at e0; cases e0
    rcases flat_cases (mvA a v) t with ⟨hvb, q'⟩ | ⟨hvb, ht', q'⟩ | ⟨hvb, ht0', ht1', q'⟩
    · rw [q'] at hg'; rw [hg'] at g0; cases g0
    · rw [q'] at hg'; rw [hg'] at g0; cases g0
    rw [hM, hLe, q, q']
    exact mv_list a t v hva hv
  have hMl : M.length = L.length := by rw [hML, List.length_map]
  repeat' first | refine Split.isF h3 ?_ | refine Split.t ?_ | refine Split.f ?_ | fail
  refine Loop.by (α := Nat) (fun k => [(5, .ptr 5 0), (7, .d (.one (vlS L))), (13, .d (.one (vlS M))), (15, tint k)]) (fun k => [(5, .box (vL v))]) (fun k => k ≤ L.length) (fun k => L.length - k)
    (Adj.at 0 (Nat.zero_le _) (.cons (.box (LLe.of_eq rfl)) .nil) (.cons (.box rfl rfl) (.cons .same (.cons .same (.cons .same .nil))))) (fun k hk => ?_)
  refine Split.mk (fun h => ?_) (fun h => ?_)
  · have hlt : k < L.length := by have := of_decide_eq_true h; omega
    have b2 : decide ((k : Int) < (M.length : Int)) = true := decide_eq_true (by omega)
    repeat' first | refine Split.isT h ?_ | refine Split.isT b2 ?_ | refine Split.t ?_ | refine Split.f ?_ | fail
    refine Need.mk (by omega) ?_
    refine Need.mk (by omega) ?_
    refine CallW.v (radd_det (gt L k) v) (fun u hu => ?_)
    refine EqW.v (gt M k) u (fun q hq => ?_)
    obtain rfl := hq.2 (by rw [hML, gt_map _ _ _ hlt, hu]; rfl)
    refine Need.mk (by kernel_rfl) ?_
    refine Split.f ?_
    refine Adj.back (x := k) (k + 1) (by omega) (by omega) (.cons (.box (LLe.of_eq rfl)) .nil) (.cons (.box rfl rfl) (.cons .same (.cons .same (.cons (SlotLe.int ?_) .nil))))
    rw [hw _ (by omega) (by omega)]; omega
  · repeat' first | refine Split.isF h ?_ | refine Split.t ?_ | refine Split.f ?_ | fail
    refine Fin.bool ?_
    rw [hMl]
    simp
theorem larcopp_all : ∀ dvs, TypL Try.prog Try.f10.params.toList dvs → Det Try.prog 10 dvs (tbool true) := by
  intro dvs h
  obtain ⟨v0, r0, rfl, h0, q0⟩ := TypL.inv_cons (t := 45) (ts := [3, 43]) h
  obtain ⟨v1, r1, rfl, h1, q1⟩ := TypL.inv_cons (t := 3) (ts := [43]) q0
  obtain ⟨v2, r2, rfl, h2, q2⟩ := TypL.inv_cons (t := 43) (ts := []) q1
  obtain rfl := TypL.inv_nil q2
  obtain ⟨a, rfl⟩ := arcIn h0
  obtain ⟨t, rfl, _⟩ := TypD.i64 (by kernel_rfl) rfl h1
  obtain ⟨c, rfl, _⟩ := vecInA h2
  exact larcopp_det a t c
/-! ### ArcCoarser -/
theorem list_sub {a : Arc} {t t' : Int} (ht : t ≤ t') (h : validA a = true) : (listA a t').Sublist (listA a t) := by
  obtain ⟨_, hu, hv⟩ := valid_ok h
  unfold listA
  split
  · exact ((chain_sub ht hv hu).map _).reverse
  · exact (chain_sub ht hu hv).map _
theorem sub_step {L M : List V2} {i k : Nat} (hi : i < L.length) (hk : k < M.length) (h : (M.drop k).Sublist (L.drop i)) : (gt L i = gt M k → (M.drop (k + 1)).Sublist (L.drop (i + 1))) ∧ (gt L i ≠ gt M k → (M.drop k).Sublist (L.drop (i + 1))) := by
  have e1 : L.drop i = gt L i :: L.drop (i + 1) := by
    rw [List.drop_eq_getElem_cons hi]
    simp [gt, List.getD, hi]
  have e2 : M.drop k = gt M k :: M.drop (k + 1) := by
    rw [List.drop_eq_getElem_cons hk]
    simp [gt, List.getD, hk]
  rw [e1, e2] at h
  constructor
  · intro e
    rw [e] at h
    exact List.Sublist.of_cons_cons h
  · intro e
    rw [e2]
    revert h e
    generalize gt L i = x
    generalize gt M k = y
    intro h e
    cases h with
    | cons _ h => exact h
    | cons_cons _ h => exact absurd rfl e
theorem larccoarse_det (a : Arc) (t t' : Int) : Det Try.prog 11 [arcD a, .one (i64 t), .one (i64 t')] (tbool true) := by
  refine det_of_awp TTok mixed Try.func11 rfl rfl [] (Nat.le_of_ble_eq_true rfl) ?_
  refine CallW.mk' awake11_det ?_
  refine Split.f ?_
  have hL := flat_len4 a t
  have hM := flat_len4 a t'
  refine CallW.ringC (flat_detR a t) (fun L e hLe he => ?_)
  refine CallW.ringC (flat_detR a t') (fun M g hMe hg => ?_)
  rw [← hLe] at hL
  rw [← hMe] at hM
  refine Split.mk (fun h2 => ?_) (fun h2 => ?_)
  · repeat' first | refine Split.isT h2 ?_ | refine Split.t ?_ | refine Split.f ?_ | fail
    exact Fin.rfl'
  repeat' first | refine Split.isF h2 ?_ | refine Split.t ?_ | refine Split.f ?_ | fail
  refine Split.mk (fun h3 => ?_) (fun h3 => ?_)
  · repeat' first | refine Split.isT h3 ?_ | refine Split.t ?_ | refine Split.f ?_ | fail
    exact Fin.rfl'
  repeat' first | refine Split.isF h3 ?_ | refine Split.t ?_ | refine Split.f ?_ | fail
  refine Split.mk (fun h4 => ?_) (fun h4 => ?_)
  · repeat' first | refine Split.isT h4 ?_ | refine Split.t ?_ | refine Split.f ?_ | fail
    exact Fin.rfl'
  repeat' first | refine Split.isF h4 ?_ | refine Split.t ?_ | refine Split.f ?_ | fail
  have e0 : e = 0 := by simpa using h2
  have g0 : g = 0 := by simpa using h3
  have htt : t ≤ t' := by have := of_decide_eq_false h4; omega
  have hS : M.Sublist L := by
    rcases flat_cases a t with ⟨hva, q⟩ | ⟨hva, ht, q⟩ | ⟨hva, ht0, ht1, q⟩
    · rw [q] at he; rw [he] at e0; cases e0
    · rw [q] at he; rw [he] at e0; cases e0
    rcases flat_cases a t' with ⟨hvb, q'⟩ | ⟨hvb, ht', q'⟩ | ⟨hvb, ht0', ht1', q'⟩
    · rw [q'] at hg; rw [hg] at g0; cases g0
    · rw [q'] at hg; rw [hg] at g0; cases g0
    rw [hMe, hLe, q, q']
    exact list_sub htt hva
  refine Loop.by (α := Nat × Nat) (fun x => [(7, .d (.one (vlS L))), (9, .d (.one (vlS M))), (11, tint x.2), (12, tint x.1)]) (fun _ => []) (fun x => x.1 ≤ L.length ∧ x.2 ≤ M.length ∧ (M.drop x.2).Sublist (L.drop x.1)) (fun x => L.length - x.1)
    (Adj.at (0, 0) ⟨Nat.zero_le _, Nat.zero_le _, hS⟩ .nil (.cons .same (.cons .same (.cons .same (.cons .same .nil))))) (fun x hx => ?_)
  obtain ⟨i, k⟩ := x
  obtain ⟨x1, x2, x3⟩ := hx
  replace x1 : i ≤ L.length := x1
  replace x2 : k ≤ M.length := x2
  replace x3 : (M.drop k).Sublist (L.drop i) := x3
  have stop : ¬ (i < L.length ∧ k < M.length) → k = M.length := fun w => by
    by_cases h : i < L.length
    · omega
    · rw [List.drop_of_length_le (by omega : L.length ≤ i)] at x3
      have := List.eq_nil_of_sublist_nil x3
      rw [List.drop_eq_nil_iff] at this
      omega
  refine Split.mk (fun h => ?_) (fun h => ?_)
  · have hlt : i < L.length := by have : (i : Int) < (L.length : Int) := of_decide_eq_true h; omega
    repeat' first | refine Split.isT h ?_ | refine Split.t ?_ | refine Split.f ?_ | fail
    refine Split.mk (fun h5 => ?_) (fun h5 => ?_)
    · have hlk : k < M.length := by have : (k : Int) < (M.length : Int) := of_decide_eq_true h5; omega
      repeat' first | refine Split.isT h5 ?_ | refine Split.t ?_ | refine Split.f ?_ | fail
      refine Need.mk (by show 0 ≤ (i : Int) ∧ (i : Int) < (L.length : Int); omega) ?_
      refine Need.mk (by show 0 ≤ (k : Int) ∧ (k : Int) < (M.length : Int); omega) ?_
      refine EqW.v (gt L i) (gt M k) (fun q hq => ?_)
      refine Need.mk (by kernel_rfl) ?_
      obtain ⟨s1, s2⟩ := sub_step hlt hlk x3
      refine Split.mk (fun h6 => ?_) (fun h6 => ?_)
      · refine Adj.back (x := (i, k)) (i + 1, k + 1) ⟨by show i + 1 ≤ L.length; omega, by show k + 1 ≤ M.length; omega, s1 (hq.1 h6)⟩ (by show L.length - (i + 1) < L.length - i; omega) .nil (.cons .same (.cons .same (.cons (SlotLe.int ?_) (.cons (SlotLe.int ?_) .nil))))
        · show IntKind.i64.wrap ((k : Int) + 1) = ((k + 1 : Nat) : Int)
          rw [hw _ (by omega) (by omega)]; omega
        · show IntKind.i64.wrap ((i : Int) + 1) = ((i + 1 : Nat) : Int)
          rw [hw _ (by omega) (by omega)]; omega
      · refine Adj.back (x := (i, k)) (i + 1, k) ⟨by show i + 1 ≤ L.length; omega, x2, s2 (fun w => by rw [hq.2 w] at h6; cases h6)⟩ (by show L.length - (i + 1) < L.length - i; omega) .nil (.cons .same (.cons .same (.cons .same (.cons (SlotLe.int ?_) .nil))))
        show IntKind.i64.wrap ((i : Int) + 1) = ((i + 1 : Nat) : Int)
        rw [hw _ (by omega) (by omega)]; omega
    · have hke := stop (fun w => by have : ¬ (k : Int) < (M.length : Int) := of_decide_eq_false h5; omega)
      repeat' first | refine Split.isF h5 ?_ | refine Split.t ?_ | refine Split.f ?_ | fail
      refine Fin.bool ?_
      rw [hke]; simp
  · have hke := stop (fun w => by have : ¬ (i : Int) < (L.length : Int) := of_decide_eq_false h; omega)
    repeat' first | refine Split.isF h ?_ | refine Split.t ?_ | refine Split.f ?_ | fail
    refine Fin.bool ?_
    rw [hke]; simp
theorem larccoarse_all : ∀ dvs, TypL Try.prog Try.f11.params.toList dvs → Det Try.prog 11 dvs (tbool true) := by
  intro dvs h
  obtain ⟨v0, r0, rfl, h0, q0⟩ := TypL.inv_cons (t := 45) (ts := [3, 3]) h
  obtain ⟨v1, r1, rfl, h1, q1⟩ := TypL.inv_cons (t := 3) (ts := [3]) q0
  obtain ⟨v2, r2, rfl, h2, q2⟩ := TypL.inv_cons (t := 3) (ts := []) q1
  obtain rfl := TypL.inv_nil q2
  obtain ⟨a, rfl⟩ := arcIn h0
  obtain ⟨t, rfl, _⟩ := TypD.i64 (by kernel_rfl) rfl h1
  obtain ⟨t', rfl, _⟩ := TypD.i64 (by kernel_rfl) rfl h2
  exact larccoarse_det a t t'
end Sg
end Go.Vm
