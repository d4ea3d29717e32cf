/-
  Layer 11: the contract of the program's chain.
-/
import Derived.Test.YtlckiecpelchlaaArcF
namespace Go.Vm
set_option maxRecDepth 20000
set_option linter.unusedVariables false
set_option linter.unusedSimpArgs false
open Go Go.RowKit Go.Proofs
namespace Sg

theorem neg_w {n : Int} (h1 : -4000 ≤ n) (h2 : n ≤ 4000) : IntKind.i64.wrap (0 - n) = -n := by rw [wid (by omega) (by omega)]; omega
theorem far_k {p q : V2} {k n : Nat} (h : Quarters p q k) (hk : k ≤ n) (hf : farB p q = true) : ∃ k' n', k = k' + 1 ∧ n = n' + 1 := by
  cases k with
  | zero => have := h.near; rw [show rotN 0 p = p from rfl, hf] at this; cases this
  | succ k =>
    cases n with
    | zero => omega
    | succ n => exact ⟨k, n, rfl, rfl⟩
theorem chnF_near {r t : Int} {n : Nat} {p q : V2} (hf : farB p q = false) : chnF r t n p q = btw r t p q ++ [q] := by
  cases n with
  | zero => rfl
  | succ n => rw [chnF, if_neg (by rw [hf]; simp)]
theorem chain_detM (r t : Int) (p q : V2) (hp : OnC r p) (hq : OnC r q) (ht0 : 1 ≤ t) (ht1 : t ≤ 50) : DetM Try.prog 52 [.d (vD p), .d (vD q), .d (.one (i64 t))] [] (.hdl (.n 3000) 0) [] (.bld 0 (chainL r t p q).length 2 43 (vG (chainL r t p q))) := by
  refine detM_of_awp TTok mixed Try.func52 rfl rfl [79 + 2000000, 25 + 6000000] (Nat.le_of_ble_eq_true rfl) (Nat.le_of_ble_eq_true rfl) (sigM_of rfl) ?_
  have ip := nr_in hp.r1 hp.nr
  have iq := nr_in hq.r1 hq.nr
  have r0 := hp.r0
  have r1 := hp.r1
  refine CallW.mk' ((vdot_det p p).eq (by rw [(dotW_eq (ip.wide (by decide)) (ip.wide (by decide))).1, hp.on])) ?_
  have w1 : IntKind.i64.wrap (65536 * r) = 65536 * r := wid (by omega) (by omega)
  refine CallW.int (root_det (IntKind.i64.wrap (65536 * r)) (by rw [w1]; exact ⟨by omega, by omega⟩)) (fun s hs => ?_)
  rw [w1] at hs
  obtain ⟨s0, s1, _⟩ := isq_spec (n := 65536 * r) (by omega) (by omega)
  have s2 := isq_le s0 s1 (by omega)
  have w2 : IntKind.i64.wrap (IntKind.i64.wrap (s + 1) - IntKind.i64.wrap (256 * t)) = isq (65536 * r) + 1 - 256 * t := by
    rw [hs, wid (n := isq (65536 * r) + 1) (by omega) (by omega), wid (n := 256 * t) (by omega) (by omega), wid (by omega) (by omega)]
  refine Loop.by (α := Nat × V2 × List V2) (fun x => [(3, .ptr 3 0), (4, .ptr 4 0), (9, .ptr 9 0), (12, .ptr 12 0)]) (fun x => [(3, .box (vL x.2.1)), (4, .box (vL q)), (9, .obj [.hdl 25 0]), (10, .box [.fn 74 1 (capA (isq (65536 * r) + 1 - 256 * t))]), (11, .box [.fn 76 1 (capA r)]), (12, .obj [.clo 79 [.ptr 10 0, .ptr 11 0, .ptr 12 0, .ptr 9 0]]), (25, .bld 0 x.2.2.length 2 43 (vG x.2.2))])
    (fun x => x.1 ≤ 3 ∧ OnC r x.2.1 ∧ (∃ k, k ≤ x.1 ∧ Quarters x.2.1 q k) ∧ x.2.2 ++ chnF r t x.1 x.2.1 q = chainL r t p q ∧ x.2.2.length ≤ (3 - x.1) * 16008002 + 1) (fun x => x.1)
    (Adj.at (3, p, [p]) ⟨Nat.le_refl _, hp, ?_, rfl, by show 1 ≤ _; omega⟩ (.cons (.box (LLe.of_eq rfl)) (.cons (.box (LLe.of_eq rfl)) (.cons (.obj (.cons (.hdl (by intro q; cases q) rfl rfl) .nil)) (.cons (.box ?_) (.cons (.box (LLe.of_eq rfl)) (.cons (.obj (.cons (.clo (.cons (.ptr (by intro q; cases q)) (.cons (.ptr (by intro q; cases q)) (.cons (.ptr (by intro q; cases q)) (.cons (.ptr (by intro q; cases q)) .nil))))) .nil)) (.cons (.bldN rfl (fun i hi j hj => ?_)) .nil)))))))
      (.cons (.box rfl rfl) (.cons (.box rfl rfl) (.cons (.ptr (by intro q; cases q)) (.cons (.ptr (by intro q; cases q)) .nil))))) (fun x hx => ?_)
  · obtain ⟨k, hk⟩ := quarters hp hq
    exact ⟨k, hk.le, hk⟩
  · rw [w2]; exact LLe.of_eq rfl
  · obtain rfl : i = 0 := by have : i < 1 := hi; omega
    match j, hj with
    | 0, _ => exact SLe.of_eq rfl
    | 1, _ => exact SLe.of_eq rfl
  obtain ⟨n, u, L⟩ := x
  obtain ⟨x1, x2, ⟨k, x3, x4⟩, x5, x6⟩ := hx
  replace x1 : n ≤ 3 := x1
  replace x2 : OnC r u := x2
  replace x3 : k ≤ n := x3
  replace x4 : Quarters u q k := x4
  replace x5 : L ++ chnF r t n u q = chainL r t p q := x5
  replace x6 : L.length ≤ (3 - n) * 16008002 + 1 := x6
  have iu := nr_in x2.r1 x2.nr
  refine CallW.int (vcross_det u q) (fun c hc => ?_)
  rw [(crW_eq (iu.wide (by decide)) (iq.wide (by decide))).1] at hc
  have bu := iu.y0
  have bu' := iu.y1
  refine Split.mk (fun h => ?pa) (fun h => ?pz)
  case' pa =>
    repeat' first | refine Split.isT h ?_ | refine Split.t ?_ | refine Split.f ?_ | fail
    have hf : farB u q = true := by
      have h' : c ≤ 0 := of_decide_eq_true h
      rw [farB, decide_eq_true (by omega)]; rfl
  case' pz =>
    have h' : ¬ c ≤ 0 := of_decide_eq_false h
    repeat' first | refine Split.isF h ?_ | refine Split.t ?_ | refine Split.f ?_ | fail
    refine CallW.int (vdot_det u q) (fun d hd => ?_)
    rw [(dotW_eq (iu.wide (by decide)) (iq.wide (by decide))).1] at hd
    repeat' first | refine Split.isF h ?_ | refine Split.t ?_ | refine Split.f ?_ | fail
    refine Split.mk (fun h2 => ?pb) (fun h2 => ?pe)
    case' pb =>
      have hf : farB u q = true := by
        have h' : d < 0 := of_decide_eq_true h2
        rw [farB, decide_eq_true (show dotP u q < 0 by omega), Bool.or_true]
    case pe =>
      have hf : farB u q = false := by
        have h3 : ¬ d < 0 := of_decide_eq_false h2
        rw [farB, decide_eq_false (show ¬ crossP u q ≤ 0 by omega), decide_eq_false (show ¬ dotP u q < 0 by omega)]; rfl
      have hg := good_end x2 hq hf
      have hlb := btw_le t hg
      have hmu := mu_le u q
      refine CallM.mk' [10, 11, 12, 9, 25] (between_detM _ u q L hg (Nat.lt_succ_self _) (by omega)) ⟨.cons (.box (LLe.refl _)) (.cons (.box (LLe.refl _)) (.cons (.obj (.cons (.clo (.cons (.ptr rfl) (.cons (.ptr rfl) (.cons (.ptr rfl) (.cons (.ptr rfl) .nil))))) .nil)) (.cons (.obj (.cons (.hdl rfl rfl) .nil)) (.cons (.bld (fun _ _ _ _ => SLe.refl _)) .nil)))), (.cons (.d (DLe.refl _)) (.cons (.d (DLe.refl _)) (.cons (.ptr rfl) (.cons (.ptr rfl) (.cons (.ptr rfl) (.cons (.ptr rfl) .nil)))))), rfl, rfl, fun h => absurd rfl h⟩ ?_
      refine Need.mk (needApp' (by simp only [List.length_append]; omega) (by decide)) ?_
      have e : L ++ btw r t u q ++ [q] = chainL r t p q := by rw [← x5, chnF_near hf, List.append_assoc]
      exact EndM.mk ⟨.n 25, .one (.hdl rfl rfl rfl), .nil _, .inr ⟨.bldN (by rw [← e]; simp only [List.length_append, List.length_singleton]) (fun h => absurd h (by decide)) (fun i hi j hj => by rw [← e]; exact vG_snoc (L ++ btw r t u q) _ q i j rfl hi hj), rfl⟩⟩
  all_goals
    obtain ⟨k', n', rfl, rfl⟩ := far_k x4 x3 hf
    obtain ⟨_, hk'⟩ := x4.next
    have hg := good_quarter x2
    have hlb := btw_le t hg
    have hmu := mu_le u (rotV u)
    have hrot : [i64 (IntKind.i64.wrap (0 - u.y)), i64 u.x] = vL (rotV u) := by rw [neg_w (by omega) (by omega)]; rfl
    refine CallM.mk' [10, 11, 12, 9, 25] (between_detM _ u (rotV u) L hg (Nat.lt_succ_self _) (by omega)) ⟨.cons (.box (LLe.refl _)) (.cons (.box (LLe.refl _)) (.cons (.obj (.cons (.clo (.cons (.ptr rfl) (.cons (.ptr rfl) (.cons (.ptr rfl) (.cons (.ptr rfl) .nil))))) .nil)) (.cons (.obj (.cons (.hdl rfl rfl) .nil)) (.cons (.bld (fun _ _ _ _ => SLe.refl _)) .nil)))), (.cons (.d (DLe.refl _)) (.cons (.d (DLe.of_eq (congrArg DV.agg hrot))) (.cons (.ptr rfl) (.cons (.ptr rfl) (.cons (.ptr rfl) (.cons (.ptr rfl) .nil)))))), rfl, rfl, fun h => absurd rfl h⟩ ?_
    refine Need.mk (needApp' (by simp only [List.length_append]; omega) (by decide)) ?_
    have e : chnF r t (n' + 1) u q = btw r t u (rotV u) ++ rotV u :: chnF r t n' (rotV u) q := by rw [chnF, if_pos hf]
    refine Adj.back (x := (n' + 1, u, L)) (n', rotV u, L ++ btw r t u (rotV u) ++ [rotV u]) ⟨by show n' ≤ 3; omega, x2.rot, ⟨k', by show k' ≤ n'; omega, hk'⟩, by show L ++ btw r t u (rotV u) ++ [rotV u] ++ chnF r t n' (rotV u) q = _; rw [← x5, e]; simp, by show (L ++ btw r t u (rotV u) ++ [rotV u]).length ≤ (3 - n') * 16008002 + 1; simp only [List.length_append, List.length_singleton]; omega⟩ (by show n' < n' + 1; omega)
      (.cons (.box (LLe.of_eq hrot)) (.cons (.box (LLe.of_eq rfl)) (.cons (.obj (.cons (.hdl (by intro q; cases q) rfl rfl) .nil)) (.cons (.box (LLe.of_eq rfl)) (.cons (.box (LLe.of_eq rfl)) (.cons (.obj (.cons (.clo (.cons (.ptr (by intro q; cases q)) (.cons (.ptr (by intro q; cases q)) (.cons (.ptr (by intro q; cases q)) (.cons (.ptr (by intro q; cases q)) .nil))))) .nil)) (.cons (.bldN (by simp only [List.length_append]; rfl) (fun i hi j hj => ?_)) .nil))))))) (.cons (.box rfl rfl) (.cons (.box rfl rfl) (.cons (.ptr (by intro q; cases q)) (.cons (.ptr (by intro q; cases q)) .nil))))
    have hvv := vG_snoc (L ++ btw r t u (rotV u)) _ (rotV u) i j rfl hi hj
    rw [← hrot] at hvv
    exact hvv
end Sg
end Go.Vm
