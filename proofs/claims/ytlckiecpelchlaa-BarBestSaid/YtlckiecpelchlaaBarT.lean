/-
  Layer 26: the contract of the reference's Best; the law BarBest.
-/
import Derived.Test.YtlckiecpelchlaaBarS
namespace Go.Vm
set_option maxRecDepth 20000
set_option linter.unusedVariables false
set_option linter.unusedSimpArgs false
open Go Go.RowKit Go.Proofs

theorem rbest_det (n : Nat) (R : Nat → BP) (kerf : Int) (hn : n ≤ 4) : Det Try.prog 14 [.one (rowS n R), .one (i64 kerf)] (best3 n R kerf) := by
  have fail1 : errI n R kerf = 1 → Fin (.tup [.one (.v (.slice none 0 0)), .one (i64 0), .one (i64 1)]) (best3 n R kerf) := fun e => by
    unfold best3
    rw [e]
    exact Fin.tup (.cons (DLe.one (SLe.nil _ _)) (.cons (DLe.refl _) (.cons (DLe.refl _) .nil)))
  refine det_of_awp TTok mixed Try.func14 rfl rfl [45 + 2000000, 46 + 2000000] (Nat.le_of_ble_eq_true rfl) ?_
  refine Loop.by (α := Nat) (fun k => [(0, .d (.one (rowS n R))), (1, tint kerf), (7, tint k)]) (fun _ => []) (fun k => k ≤ n ∧ ∀ i, i < k → validP (R i) = true) (fun k => n - k)
    (Adj.at 0 ⟨Nat.zero_le _, fun _ h => absurd h (Nat.not_lt_zero _)⟩ .nil (.cons .same (.cons .same (.cons .same .nil)))) (fun k hi => ?_)
  obtain ⟨hk, hi⟩ := hi
  refine Split.mk (fun h3 => ?_) (fun h3 => ?_)
  · have hlt : k < n := by have := of_decide_eq_true h3; omega
    have hw64 : IntKind.i64.wrap ((k : Int) + 1) = ((k + 1 : Nat) : Int) := (w64_id ⟨by omega, by omega⟩).trans (by omega)
    refine Need.mk (by omega) ?_
    refine CallW.bool (rvalidp_det (R k)) (fun c hc => ?_)
    refine Split.mk (fun h4 => ?_) (fun h4 => ?_)
    · have : validP (R k) = false := by rw [← hc]; simpa using h4
      exact fail1 (by rw [errI, if_pos (.inr (.inr (badB_t hlt this)))])
    · refine Adj.back (x := k) (k + 1) ⟨hlt, fun i hik => ?_⟩ (by omega) .nil (.cons .same (.cons .same (.cons (SlotLe.int hw64) .nil)))
      by_cases e : i = k
      · subst e; rw [← hc]; simpa using h4
      · exact hi i (by omega)
  have e : k = n := by have := of_decide_eq_false h3; omega
  subst e
  have hbf := badB_f hi
  refine CallW.bool (within_det kerf 0 100) (fun c hc => ?_)
  refine Split.mk (fun h4 => ?_) (fun h4 => ?_)
  · have hc' : withinI kerf 0 100 = false := by rw [← hc]; simpa using h4
    refine fail1 ?_
    rw [withinI, Bool.and_eq_false_iff, decide_eq_false_iff_not, decide_eq_false_iff_not] at hc'
    rw [errI, if_pos (by omega)]
  have hc' : withinI kerf 0 100 = true := by rw [← hc]; simpa using h4
  rw [withinI, Bool.and_eq_true, decide_eq_true_eq, decide_eq_true_eq] at hc'
  have e0 : errI k R kerf = 0 := by rw [errI, if_neg (by rw [hbf]; simp; omega), if_neg (by omega)]
  have V := VR.of_err e0
  have B := bestP_ok k R kerf
  refine Split.isF (decide_eq_false (by omega)) ?_
  refine CallM.mk' [] (searchD_detM V) ⟨.nil, .cons (.d (DLe.refl _)) (.cons (.d (DLe.refl _)) (.cons (.d (DLe.one (SLe.nil _ _))) (.cons (.d (DLe.one (SLe.nil _ _))) .nil))), rfl, rfl, fun h => absurd rfl h⟩ ?_
  refine CallM.mk' [] (rrowD_detM V B.2 (by omega)) ⟨.nil, .cons (.d (DLe.refl _)) (.cons (.d (DLe.refl _)) .nil), rfl, rfl, fun h => absurd rfl h⟩ ?_
  refine CallW.tup0 (rlength_det (bestP k R kerf).length (pR R (bestP k R kerf)) kerf (by simp only [maxLen]; omega)) (pick_VR V B.2 (by omega)).err (fun x hx => ?_)
  replace hx : x = lenL R kerf (bestP k R kerf) := hx
  unfold best3
  rw [if_pos e0, if_pos e0, e0, ← hx]
  exact Fin.tup (.cons (DLe.refl _) (.cons (DLe.refl _) (.cons (DLe.refl _) .nil)))
theorem theirs_det (m : Nat) (I : Nat → Int) (T : Nat → Bool) (hm : m ≤ 1000) : Det Try.prog 16 [.one (pickS m I T)] (.d (.one (pickS m I T))) := by
  refine det_of_awp TTok mixed Try.func16 rfl rfl [] (Nat.le_of_ble_eq_true rfl) ?_
  refine Loop.by (α := Nat) (fun k => [(6, .d (.one (pickS m I T))), (7, tint m), (8, tint k), (3, .hdl 15 0)]) (fun k => [(15, .bld 0 k 2 38 fun i j => match j with | 0 => i64 (I i) | _ => .v (.bool (T i)))]) (fun k => k ≤ m) (fun k => m - k)
    (Adj.nil 3 15 2 38 (fun _ _ => .v Go.undef) rfl rfl (Adj.at 0 (Nat.zero_le _) (.cons (.bld (fun _ h => absurd h (Nat.not_lt_zero _))) .nil) (.cons .same (.cons .same (.cons .same (.cons (.hdl rfl rfl) .nil)))))) (fun k hk => ?_)
  refine Split.mk (fun h3 => ?_) (fun h3 => ?_)
  · have hlt : k < m := by have := of_decide_eq_true h3; omega
    have hw64 : IntKind.i64.wrap ((k : Int) + 1) = ((k + 1 : Nat) : Int) := (w64_id ⟨by omega, by omega⟩).trans (by omega)
    repeat' first | refine Need.mk (by omega) ?_ | refine Need.mk ⟨show (k + 1) * 16 ≤ 140737488355328 by omega, by simp only [maxLen]; omega⟩ ?_
    refine Adj.back (x := k) (k + 1) hlt (by omega) (.cons (.bld (fun i hi j hj => SLe.app hi (fun _ => SLe.refl _) (fun h => ?_))) .nil) (.cons .same (.cons .same (.cons (SlotLe.int hw64) (.cons (.hdl rfl rfl) .nil))))
    subst h
    rw [Nat.sub_self]
    rcases j with _ | _ | j <;> first | exact SLe.refl _ | omega
  · have e : k = m := by have := of_decide_eq_false h3; omega
    subst e
    exact Fin.rfl'
theorem samepicks_det (n : Nat) (I : Nat → Int) (T : Nat → Bool) (hn : n ≤ 1000) : Det Try.prog 15 [.one (pickS n I T), .one (pickS n I T)] (tbool true) := by
  refine det_of_awp TTok mixed Try.func15 rfl rfl [] (Nat.le_of_ble_eq_true rfl) ?_
  refine Split.isF (by simp) ?_
  refine Loop.by (α := Nat) (fun k => [(0, .d (.one (pickS n I T))), (1, .d (.one (pickS n I T))), (5, tint k)]) (fun _ => []) (fun k => k ≤ n) (fun k => n - k)
    (Adj.at 0 (Nat.zero_le _) .nil (.cons .same (.cons .same (.cons .same .nil)))) (fun k hk => ?_)
  refine Split.mk (fun h3 => ?_) (fun h3 => ?_)
  · have hlt : k < n := by have := of_decide_eq_true h3; omega
    have hw64 : IntKind.i64.wrap ((k : Int) + 1) = ((k + 1 : Nat) : Int) := (w64_id ⟨by omega, by omega⟩).trans (by omega)
    repeat' first | refine Need.mk (by omega) ?_ | refine Need.mk (by kernel_rfl) ?_ | refine EqW.tt (eq38 _ _ _ _) (by simp) ?_ | refine Split.f ?_
    exact Adj.back (x := k) (k + 1) hlt (by omega) .nil (.cons .same (.cons .same (.cons (SlotLe.int hw64) .nil)))
  · exact Fin.bool rfl

/-! ### the law -/
def seenB (I : Nat → Int) (k i : Nat) : Bool := anyB (fun j => decide (I j = (i : Int))) k
theorem seenB_succ (I : Nat → Int) (k i : Nat) : seenB I (k + 1) i = (seenB I k i || decide (I k = (i : Int))) := by
  by_cases h : seenB I k i = true
  · rw [h, Bool.true_or]
    have : ∃ j, j < k ∧ decide (I j = (i : Int)) = true := by
      refine Classical.byContradiction fun hc => ?_
      have := anyB_f (b := fun j => decide (I j = (i : Int))) (n := k) (fun j hj => by
        cases hd : decide (I j = (i : Int)) with
        | false => rfl
        | true => exact absurd ⟨j, hj, hd⟩ hc)
      rw [seenB, this] at h; cases h
    obtain ⟨j, hj, hd⟩ := this
    exact anyB_t (by omega) hd
  · have h' : seenB I k i = false := by simpa using h
    rw [h', Bool.false_or]
    by_cases e : I k = (i : Int)
    · rw [decide_eq_true e]; exact anyB_t (k := k) (by omega) (decide_eq_true e)
    · rw [decide_eq_false e]
      refine anyB_f fun j hj => ?_
      by_cases e2 : j = k
      · subst e2; exact decide_eq_false e
      · cases hd : decide (I j = (i : Int)) with
        | false => rfl
        | true =>
          have := anyB_t (b := fun j => decide (I j = (i : Int))) (n := k) (k := j) (by omega) hd
          rw [seenB, this] at h'; cases h'
theorem seenB_f {I : Nat → Int} {k i : Nat} (h : seenB I k i = false) (j : Nat) (hj : j < k) : I j ≠ (i : Int) := fun e => by
  have := anyB_t (b := fun j => decide (I j = (i : Int))) (n := k) (k := j) hj (decide_eq_true e)
  rw [seenB, this] at h; cases h
def pkL (m : Nat) (I : Nat → Int) (T : Nat → Bool) : List Pk := (List.range m).map fun j => ⟨(I j).toNat, T j⟩
theorem pkL_at {m : Nat} {I : Nat → Int} {T : Nat → Bool} {k : Nat} (h : k < m) : (pkL m I T).getD k pk0 = ⟨(I k).toNat, T k⟩ := by
  simp [pkL, List.getD, List.getElem?_map, List.getElem?_range h]
theorem pkL_len (m : Nat) (R : Nat → BP) (kerf : Int) (I : Nat → Int) (T : Nat → Bool) : lenL R kerf (pkL m I T) = lengthI m (pickR R I T) kerf := by
  have hl : (pkL m I T).length = m := by simp [pkL]
  have hR : ∀ k, k < m → pR R (pkL m I T) k = pickR R I T k := fun k hk => by
    rw [pR_at, pkL_at hk]; rfl
  unfold lenL lengthI
  rw [hl]
  by_cases h0 : m = 0
  · rw [if_pos h0, if_pos h0]
  · rw [if_neg h0, if_neg h0, hR (m - 1) (by omega), placeI_congr kerf (R' := pickR R I T) fun i hi => hR i (by omega)]
theorem rowE_off {n : Nat} {R : Nat → BP} {m : Nat} {I : Nat → Int} (h : rowE n R m I = 0) (k : Nat) (hk : k < m) : 0 ≤ I k ∧ I k < n := by
  unfold rowE at h
  split at h
  · cases h
  split at h
  · cases h
  · rename_i h1 h2
    cases ho : offB n I k with
    | true => exact absurd (anyB_t hk ho) h2
    | false =>
      simp only [offB, Bool.or_eq_false_iff, decide_eq_false_iff_not] at ho
      omega
theorem lbest_det (n : Nat) (R : Nat → BP) (kerf : Int) (m : Nat) (I : Nat → Int) (T : Nat → Bool) (hn : n ≤ maxLen) (hmm : m ≤ maxLen) : Det Try.prog 3 [.one (rowS n R), .one (i64 kerf), .one (pickS m I T)] (tbool true) := by
  refine det_of_awp TTok mixed Try.func3 rfl rfl [] (Nat.le_of_ble_eq_true rfl) ?_
  refine CallW.mk' awake_det ?_
  repeat refine Split.f ?_
  refine Split.mk (fun h1 => ?_) (fun h1 => ?_)
  · repeat' first | refine Split.isT h1 ?_ | refine Split.t ?_ | refine Split.f ?_ | refine CallW.mk' awake_det ?_ | refine Fin.bool ?_ | fail
    rfl
  repeat' first | refine Split.isF h1 ?_ | refine Split.f ?_ | fail
  refine Split.mk (fun h2 => ?_) (fun h2 => ?_)
  · repeat' first | refine Split.isT h2 ?_ | refine Split.t ?_ | refine Split.f ?_ | refine CallW.mk' awake_det ?_ | refine Fin.bool ?_ | fail
    rfl
  have hn4 : n ≤ 4 := by have := of_decide_eq_false h1; omega
  have hm10 : m ≤ 10 := by have := of_decide_eq_false h2; omega
  obtain ⟨B, l, e, hB, hBl, hBe⟩ : ∃ (B : List Pk) (l e : Int), best3 n R kerf = .tup [.one (pS B), .one (i64 l), .one (i64 e)] ∧ B.length ≤ 4 ∧ (e = 0 → l = lenL R kerf (bestP n R kerf)) := by
    refine ⟨_, _, _, rfl, ?_, fun h => by rw [if_pos h]⟩
    split
    · rw [(bestP_ok n R kerf).1]; exact hn4
    · exact Nat.zero_le _
  have hb1 := bbest_det n R kerf hn4
  have hb2 := rbest_det n R kerf hn4
  rw [hB] at hb1 hb2
  refine CallW.mk' hb1 ?_
  refine CallW.mk' hb2 ?_
  refine CallW.mk' (theirs_det B.length (pkI B) (pkT B) (by omega)) ?_
  refine CallW.mk' (samepicks_det B.length (pkI B) (pkT B) (by omega)) ?_
  have s1 : (l != l) = false := by simp
  have s2 : (e != e) = false := by simp
  repeat' first | refine Split.isF s1 ?_ | refine Split.isF s2 ?_ | refine Split.f ?_ | fail
  refine CallW.mk' (picks_det m I T (by omega)) ?_
  obtain ⟨g, hg⟩ : ∃ g, g = rowE n R m I := ⟨_, rfl⟩
  have hrow := brow_det n R m I T hn (by omega)
  rw [← hg] at hrow
  obtain ⟨m', hm'⟩ : ∃ m', m' = if g = 0 then m else 0 := ⟨_, rfl⟩
  have hm'4 : m' ≤ m := by rw [hm']; split <;> omega
  rw [rowErr, ← hm'] at hrow
  refine CallW.mk' hrow ?_
  refine Need.mk ⟨Int.natCast_nonneg _, Int.le_refl _, (show ((1 : Nat) : Int) * (n : Int) ≤ 281474976710656 by omega), (show (n : Int) ≤ 9223372036854775807 by omega)⟩ ?_
  refine Loop.by (α := Nat) (fun k => [(0, .d (.one (rowS n R))), (1, tint kerf), (2, .d (.one (pickS m I T))), (8, tint l), (9, tint e), (13, .d (.one (rowS m' (pickR R I T)))), (14, tint g), (15, .hdl 71 0), (72, .d (.one (pickS m I T))), (73, tint m), (74, tint k)])
    (fun k => [(71, .bld 0 n 1 4 (fun i _ => .v (.bool (seenB I k i))))]) (fun k => k ≤ m ∧ (0 < k → g = 0) ∧ ∀ j, j < k → ∀ i, i < j → I i ≠ I j) (fun k => m - k)
    (Adj.at 0 ⟨Nat.zero_le _, fun h => absurd h (Nat.lt_irrefl _), fun j hj => absurd hj (Nat.not_lt_zero _)⟩ (.cons (.bld (fun i hi j hj => ?_)) .nil) (.cons .same (.cons .same (.cons .same (.cons .same (.cons .same (.cons .same (.cons .same (.cons (.hdl rfl rfl) (.cons .same (.cons .same (.cons .same .nil)))))))))))) (fun k hk => ?_)
  · match j, hj with
    | 0, _ => exact SLe.of_eq rfl
  obtain ⟨hk, hk0, hkd⟩ := hk
  refine Split.mk (fun c1 => ?_) (fun c1 => ?_)
  · have hlt : k < m := by have := of_decide_eq_true c1; omega
    have hw64 : IntKind.i64.wrap ((k : Int) + 1) = ((k + 1 : Nat) : Int) := (w64_id ⟨by omega, by omega⟩).trans (by omega)
    refine Need.mk (by omega) ?_
    refine Split.mk (fun c2 => ?_) (fun c2 => ?_)
    · repeat' first | refine Split.isT c2 ?_ | refine Split.t ?_ | refine Split.f ?_ | refine Fin.bool ?_ | fail
      rfl
    have c2' : g = 0 := by simpa using c2
    have hoff := rowE_off (hg ▸ c2') k hlt
    have hcast : (((I k).toNat : Nat) : Int) = I k := Int.toNat_of_nonneg hoff.1
    repeat' first | refine Split.isF c2 ?_ | refine Split.f ?_ | refine Need.mk hoff ?_ | fail
    refine Split.mk (fun c3 => ?_) (fun c3 => ?_)
    · repeat' first | refine Split.isT c3 ?_ | refine Split.t ?_ | refine Split.f ?_ | refine Fin.bool ?_ | fail
      rfl
    replace c3 : seenB I k (I k).toNat = false := c3
    repeat' first | refine Split.isF c3 ?_ | refine Split.f ?_ | refine Need.mk hoff ?_ | fail
    refine Adj.back (x := k) (k + 1) ⟨hlt, fun _ => c2', fun j hj i hi => ?_⟩ (by omega) (.cons (.bld (fun i hi j hj => ?_)) .nil) (.cons .same (.cons .same (.cons .same (.cons .same (.cons .same (.cons .same (.cons .same (.cons (.hdl rfl rfl) (.cons .same (.cons .same (.cons (SlotLe.int hw64) .nil)))))))))))
    · by_cases e2 : j = k
      · subst e2
        have := seenB_f c3 i hi
        rwa [hcast] at this
      · exact hkd j (by omega) i hi
    · obtain rfl : j = 0 := by omega
      refine SLe.of_eq ?_
      show (bif Nat.beq i (I k).toNat && Nat.ble 0 0 && Nat.blt 0 (0 + 1) then _ else SV.v (.bool (seenB I k i))) = SV.v (.bool (seenB I (k + 1) i))
      rw [seenB_succ]
      by_cases e2 : i = (I k).toNat
      · rw [e2, Nat.beq_refl, hcast, decide_eq_true rfl, Bool.or_true]; rfl
      · rw [beq_f e2, decide_eq_false (by omega), Bool.or_false]; rfl
  · obtain rfl : k = m := by have := of_decide_eq_false c1; omega
    refine CallW.tup2 (length_det m' (pickR R I T) kerf (by omega)) (fun x y hx hy => ?_)
    refine Split.mk (fun c2 => ?_) (fun c2 => ?_)
    · repeat' first | refine Split.isT c2 ?_ | refine Split.t ?_ | refine Split.f ?_ | refine Fin.bool ?_ | fail
      rfl
    repeat' first | refine Split.isF c2 ?_ | refine Split.f ?_ | fail
    refine Split.mk (fun c3 => ?_) (fun c3 => ?_)
    · repeat' first | refine Split.isT c3 ?_ | refine Split.t ?_ | refine Split.f ?_ | refine Fin.bool ?_ | fail
      rfl
    repeat' first | refine Split.isF c3 ?_ | refine Split.f ?_ | fail
    refine Split.mk (fun c4 => ?_) (fun c4 => ?_)
    · repeat' first | refine Split.isT c4 ?_ | refine Split.t ?_ | refine Split.f ?_ | refine Fin.bool ?_ | fail
      rfl
    repeat' first | refine Split.isF c4 ?_ | refine Split.f ?_ | fail
    refine Split.mk (fun c5 => ?_) (fun c5 => ?_)
    · repeat' first | refine Split.isT c5 ?_ | refine Split.t ?_ | refine Split.f ?_ | refine Fin.bool ?_ | fail
      rfl
    repeat' first | refine Split.isF c5 ?_ | refine Split.f ?_ | refine Fin.bool ?_ | fail
    have d2 : e = 0 := by simpa using c2
    have d3 : g = 0 := by simpa using c3
    have d4 : y = 0 := by simpa using c4
    have d5 : k = n := by
      have : ((k : Int) != (n : Int)) = false := c5
      simp at this; omega
    refine decide_eq_true ?_
    show l ≤ x
    rw [hBe d2]
    rw [hm', if_pos d3] at hx hy
    rw [d4] at hy
    rw [hx, if_pos hy.symm, ← pkL_len]
    refine bestP_le n R kerf (pkL k I T) (by simp [pkL, d5]) ?_ ?_
    · unfold pkL
      rw [List.pairwise_map]
      refine List.Pairwise.imp_of_mem (R := fun a b => a < b) (fun {a b} ha hb hab => ?_) List.pairwise_lt_range
      have ha' := List.mem_range.1 ha
      have hb' := List.mem_range.1 hb
      have h1 := rowE_off (hg ▸ d3) a ha'
      have h2 := rowE_off (hg ▸ d3) b hb'
      have := hkd b hb' a hab
      show (I a).toNat ≠ (I b).toNat
      omega
    · intro p hp
      obtain ⟨j, hj, rfl⟩ := List.mem_map.1 hp
      have h1 := rowE_off (hg ▸ d3) j (List.mem_range.1 hj)
      show (I j).toNat < n
      omega
theorem lbest_all : ∀ dvs, TypL Try.prog Try.f3.params.toList dvs → Det Try.prog 3 dvs (tbool true) := by
  intro dvs h
  obtain ⟨v0, r0, rfl, h0, q0⟩ := TypL.inv_cons (t := 22) (ts := [3, 23]) h
  obtain ⟨v1, r1, rfl, h1, q1⟩ := TypL.inv_cons q0
  obtain ⟨v2, r2, rfl, h2, q2⟩ := TypL.inv_cons q1
  obtain rfl := TypL.inv_nil q2
  obtain ⟨n, R, hn, hl⟩ := row_of h0
  obtain ⟨kerf, rfl, _⟩ := TypD.i64 (by kernel_rfl) rfl h1
  obtain ⟨m, I, T, hm, hl2⟩ := picks_of h2
  exact Det.le (.cons hl (.cons (DLe.refl _) (.cons hl2 .nil))) (lbest_det n R kerf m I T hn hm)
end Go.Vm
