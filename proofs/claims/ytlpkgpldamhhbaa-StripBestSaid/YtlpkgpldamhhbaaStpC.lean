/-
  Layer 37: contracts of knapsack, taken and of the reference's fill.
-/
import Derived.Test.YtlpkgpldamhhbaaStpB
namespace Go.Vm
set_option maxRecDepth 20000
set_option linter.unusedVariables false
set_option linter.unusedSimpArgs false
open Go Go.RowKit Go.Proofs
namespace St

structure Itm where
  s : Int
  v : Int
  deriving DecidableEq
abbrev itL (x : Itm) : List SV := [i64 x.s, i64 x.v]
abbrev it0 : Itm := ⟨0, 0⟩
abbrev itS (l : List Itm) : SV := .sl l.length 2 (lG itL it0 l)
abbrev itget (l : List Itm) (i : Nat) : Itm := l.getD i it0
/-- The best for the capacity c out of the i first items, and the item that it takes first; V: the values of the lesser capacities. -/
def kBest (its : List Itm) (V : List Int) (c : Nat) : Nat → Int × Int
  | 0 => (0, -1)
  | i + 1 => if (itget its i).s ≤ c ∧ V.getD (c - (itget its i).s.toNat) 0 + (itget its i).v > (kBest its V c i).1 then (V.getD (c - (itget its i).s.toNat) 0 + (itget its i).v, (i : Int)) else kBest its V c i
def kV (its : List Itm) : Nat → List Int
  | 0 => []
  | c + 1 => kV its c ++ [(kBest its (kV its c) c its.length).1]
def kT (its : List Itm) : Nat → List Int
  | 0 => []
  | c + 1 => kT its c ++ [(kBest its (kV its c) c its.length).2]
theorem kV_len (its : List Itm) : ∀ c, (kV its c).length = c
  | 0 => rfl
  | c + 1 => by rw [kV, List.length_append, kV_len its c]; rfl
theorem kT_len (its : List Itm) : ∀ c, (kT its c).length = c
  | 0 => rfl
  | c + 1 => by rw [kT, List.length_append, kT_len its c]; rfl
/-- Items with sizes of at least 1 and values up to M. -/
structure Its (its : List Itm) (M : Int) : Prop where
  s : ∀ i, i < its.length → 1 ≤ (itget its i).s ∧ (itget its i).s ≤ 100000
  v : ∀ i, i < its.length → 0 ≤ (itget its i).v ∧ (itget its i).v ≤ M
  m : 0 ≤ M
theorem kBest_bd {its : List Itm} {M : Int} (h : Its its M) {V : List Int} {c : Nat} (hV : ∀ j, j < c → 0 ≤ V.getD j 0 ∧ V.getD j 0 ≤ j * M) : ∀ i, i ≤ its.length → 0 ≤ (kBest its V c i).1 ∧ (kBest its V c i).1 ≤ c * M
  | 0, _ => ⟨Int.le_refl _, Int.mul_nonneg (by omega) h.m⟩
  | i + 1, hi => by
    rw [kBest]
    split
    · rename_i hc
      obtain ⟨s1, s2⟩ := h.s i (by omega)
      obtain ⟨v1, v2⟩ := h.v i (by omega)
      obtain ⟨a1, a2⟩ := hV (c - (itget its i).s.toNat) (by omega)
      refine ⟨by show 0 ≤ V.getD _ 0 + _; omega, ?_⟩
      show V.getD _ 0 + (itget its i).v ≤ c * M
      have e : ((c - (itget its i).s.toNat : Nat) : Int) * M ≤ ((c : Int) - 1) * M := Int.mul_le_mul_of_nonneg_right (by omega) h.m
      have e2 : ((c : Int) - 1) * M = c * M - M := by grind
      omega
    · exact kBest_bd h hV i (by omega)
theorem kV_bd {its : List Itm} {M : Int} (h : Its its M) : ∀ c j, j < c → 0 ≤ (kV its c).getD j 0 ∧ (kV its c).getD j 0 ≤ j * M
  | 0, j, hj => absurd hj (Nat.not_lt_zero _)
  | c + 1, j, hj => by
    rw [kV]
    by_cases hc : j < c
    · rw [getD_app_l _ _ _ _ (by rw [kV_len]; exact hc)]
      exact kV_bd h c j hc
    · have e : j = c := by omega
      subst e
      have := kBest_bd h (fun i hi => kV_bd h j i hi) its.length (Nat.le_refl _)
      rw [getD_app_r _ _ _ _ (by rw [kV_len]; exact Nat.le_refl _), kV_len, Nat.sub_self]
      exact this
theorem kBest_snd {its : List Itm} {V : List Int} {c : Nat} : ∀ i, (kBest its V c i).2 = -1 ∨ (0 ≤ (kBest its V c i).2 ∧ (kBest its V c i).2 < i ∧ (itget its (kBest its V c i).2.toNat).s ≤ c ∧ (kBest its V c i).1 = V.getD (c - (itget its (kBest its V c i).2.toNat).s.toNat) 0 + (itget its (kBest its V c i).2.toNat).v)
  | 0 => .inl rfl
  | i + 1 => by
    rw [kBest]
    split
    · rename_i h
      right
      refine ⟨by show (0 : Int) ≤ i; omega, by show (i : Int) < (i + 1 : Nat); omega, ?_, ?_⟩
      · show (itget its ((i : Int)).toNat).s ≤ c
        rw [Int.toNat_natCast]; exact h.1
      · show V.getD _ 0 + _ = V.getD (c - (itget its ((i : Int)).toNat).s.toNat) 0 + (itget its ((i : Int)).toNat).v
        rw [Int.toNat_natCast]
    · rcases kBest_snd i with h | ⟨h1, h2, h3⟩
      · exact .inl h
      · exact .inr ⟨h1, by omega, h3⟩
theorem kT_at (its : List Itm) : ∀ n c, c < n → (kT its n).getD c 0 = (kBest its (kV its c) c its.length).2
  | 0, c, h => absurd h (Nat.not_lt_zero _)
  | n + 1, c, h => by
    rw [kT]
    by_cases hc : c < n
    · rw [getD_app_l _ _ _ _ (by rw [kT_len]; exact hc)]
      exact kT_at its n c hc
    · have e : c = n := by omega
      subst e
      rw [getD_app_r _ _ _ _ (by rw [kT_len]; exact Nat.le_refl _), kT_len, Nat.sub_self]
      rfl
theorem kV_at (its : List Itm) : ∀ n c, c < n → (kV its n).getD c 0 = (kBest its (kV its c) c its.length).1
  | 0, c, h => absurd h (Nat.not_lt_zero _)
  | n + 1, c, h => by
    rw [kV]
    by_cases hc : c < n
    · rw [getD_app_l _ _ _ _ (by rw [kV_len]; exact hc)]
      exact kV_at its n c hc
    · have e : c = n := by omega
      subst e
      rw [getD_app_r _ _ _ _ (by rw [kV_len]; exact Nat.le_refl _), kV_len, Nat.sub_self]
      rfl
/-- A table whose first cells are filled. -/
def padL (A : List Int) (x : Int) (n : Nat) : List Int := A ++ x :: List.replicate n 0
theorem padL_len (A : List Int) (x : Int) (n : Nat) : (padL A x n).length = A.length + 1 + n := by simp [padL]; omega
theorem padL_set (A : List Int) (x y : Int) (n : Nat) : (padL A x n).set A.length y = padL A y n := by simp [padL]
theorem padL_lt (A : List Int) (x : Int) (n j : Nat) (h : j < A.length) : (padL A x n).getD j 0 = A.getD j 0 := getD_app_l _ _ _ _ h
theorem padL_at (A : List Int) (x : Int) (n : Nat) : (padL A x n).getD A.length 0 = x := by rw [padL, getD_app_r _ _ _ _ (Nat.le_refl _), Nat.sub_self]; rfl
theorem padL_next (A : List Int) (x : Int) (n : Nat) : padL A x (n + 1) = (A ++ [x]) ++ 0 :: List.replicate n 0 := by simp [padL, List.replicate_succ]
theorem lG_rep (n i j : Nat) (hi : i < n) (hj : j < 1) : [i64 0].getD j (.v Go.undef) = lG iL 0 (List.replicate n 0) i j := by
  unfold lG
  have : (List.replicate n (0 : Int)).getD i 0 = 0 := by simp [List.getD, hi]
  rw [this]
abbrev twoS (a b : List Int) : TV := .tup [.one (iS a), .one (iS b)]
theorem CallW.twoS {P : Program} {f : FuncId} {args : List DV} {K : TV → Prop} {a b : List Int} (h : Det P f args (twoS a b)) (kk : ∀ x y, x = a → y = b → K (twoS x y)) : CallW P f args K := ⟨_, h, kk a b rfl rfl⟩
theorem needMake {n : Nat} (h : n ≤ 100000000) : 0 ≤ (n : Int) ∧ (n : Int) ≤ n ∧ ((8 : Nat) : Int) * n ≤ 281474976710656 ∧ (n : Int) ≤ 9223372036854775807 := by omega
theorem knap_det (its : List Itm) (cap : Nat) (M : Int) (H : Its its M) (hn : its.length ≤ 1000000) (hc : cap ≤ 1000000) (hM : M ≤ 10000000000) : Det Try.prog 48 [.one (itS its), .one (i64 cap)] (twoS (kV its (cap + 1)) (kT its (cap + 1))) := by
  refine det_of_awp TTok mixed Try.func48 rfl rfl [] (Nat.le_of_ble_eq_true rfl) ?_
  have e1 : IntKind.i64.wrap ((cap : Int) + 1) = ((cap + 1 : Nat) : Int) := hS cap (by omega)
  refine Need.mk (by rw [e1]; exact needMake (by omega)) ?_
  refine Need.mk (by rw [e1]; exact needMake (by omega)) ?_
  refine Need.mk (by kernel_rfl) ?_
  refine Loop.by (α := Nat) (fun c => [(0, .d (.one (itS its))), (4, .hdl 11 0), (5, .hdl 14 0), (16, tint ((cap + 1 : Nat) : Int)), (17, tint c)])
    (fun c => [(11, .bld 0 (cap + 1) 1 3 (lG iL 0 (kV its c ++ List.replicate (cap + 1 - c) 0))), (14, .bld 0 (cap + 1) 1 3 (lG iL 0 (kT its c ++ List.replicate (cap + 1 - c) 0)))]) (fun c => c ≤ cap + 1) (fun c => cap + 1 - c)
    (Adj.at 0 (Nat.zero_le _) (.cons (.bldN (by rw [e1]; omega) (fun i hi j hj => SLe.of_eq ?_)) (.cons (.bldN (by rw [e1]; omega) (fun i hi j hj => SLe.of_eq ?_)) .nil)) (.cons .same (.cons (.hdl rfl rfl) (.cons (.hdl rfl rfl) (.cons (SlotLe.int e1) (.cons .same .nil)))))) (fun c hc' => ?_)
  · rw [e1] at hi
    exact lG_rep (cap + 1) i j (by omega) hj
  · rw [e1] at hi
    exact lG_rep (cap + 1) i j (by omega) hj
  refine Split.mk (fun h => ?_) (fun h => ?_)
  · have hlt : c < cap + 1 := by have := of_decide_eq_true h; omega
    refine Need.mk (by omega) ?_
    refine Loop.by (α := Nat) (fun i => [(0, .d (.one (itS its))), (4, .hdl 11 0), (5, .hdl 14 0), (16, tint ((cap + 1 : Nat) : Int)), (17, tint c), (6, tint c), (23, .d (.one (itS its))), (24, tint its.length), (25, tint i)])
      (fun i => [(11, .bld 0 (cap + 1) 1 3 (lG iL 0 (padL (kV its c) (kBest its (kV its c) c i).1 (cap - c)))), (14, .bld 0 (cap + 1) 1 3 (lG iL 0 (padL (kT its c) (kBest its (kV its c) c i).2 (cap - c))))]) (fun i => i ≤ its.length) (fun i => its.length - i)
      (Adj.at 0 (Nat.zero_le _) (.cons (.bld (fun i hi j hj => SLe.of_eq (lG_eq ?_ j))) (.cons (.bld (fun i hi j hj => ?_)) .nil)) (.cons .same (.cons (.hdl rfl rfl) (.cons (.hdl rfl rfl) (.cons .same (.cons .same (.cons .same (.cons .same (.cons .same (.cons .same .nil)))))))))) (fun i hi => ?_)
    · rw [show cap + 1 - c = cap - c + 1 by omega, List.replicate_succ]; rfl
    · have hle := lG_set iL 0 (kT its c ++ List.replicate (cap + 1 - c) 0) (-1) c i j 1 [i64 (-1)] rfl (by rw [List.length_append, kT_len, List.length_replicate]; omega) hj
      refine SLe.trans hle (SLe.of_eq (lG_eq ?_ j))
      rw [show cap + 1 - c = cap - c + 1 by omega, List.replicate_succ]
      have := padL_set (kT its c) 0 (-1) (cap - c)
      rw [kT_len] at this
      exact congrArg (fun l => List.getD l i 0) this
    refine Split.mk (fun h => ?_) (fun h => ?_)
    · have hil : i < its.length := by have := of_decide_eq_true h; omega
      obtain ⟨s1, s2⟩ := H.s i hil
      obtain ⟨v1, v2⟩ := H.v i hil
      have hkb : kBest its (kV its c) c (i + 1) = if (itget its i).s ≤ c ∧ (kV its c).getD (c - (itget its i).s.toNat) 0 + (itget its i).v > (kBest its (kV its c) c i).1 then ((kV its c).getD (c - (itget its i).s.toNat) 0 + (itget its i).v, (i : Int)) else kBest its (kV its c) c i := rfl
      have bd := kV_bd H c
      have hlV := kV_len its c
      have hlT := kT_len its c
      have pa := padL_at (kV its c) (kBest its (kV its c) c i).1 (cap - c)
      rw [hlV] at pa
      refine Need.mk (by omega) ?_
      show Split (decide ((itget its i).s ≤ c)) _
      refine Split.mk (fun g => ?_) (fun g => ?_)
      · have g' : (itget its i).s ≤ c := of_decide_eq_true g
        have e2 : IntKind.i64.wrap ((c : Int) - (itget its i).s) = ((c - (itget its i).s.toNat : Nat) : Int) := by rw [hw _ (by omega) (by omega)]; omega
        obtain ⟨b1, b2⟩ := bd (c - (itget its i).s.toNat) (by omega)
        have b3 : ((c - (itget its i).s.toNat : Nat) : Int) * M ≤ 1000000 * 10000000000 := Int.mul_le_mul (by omega) hM H.m (by decide)
        have pl := padL_lt (kV its c) (kBest its (kV its c) c i).1 (cap - c) (c - (itget its i).s.toNat) (by omega)
        repeat' first | refine Split.isT g ?_ | refine Split.t ?_ | refine Split.f ?_ | fail
        refine Need.mk (by show 0 ≤ IntKind.i64.wrap ((c : Int) - (itget its i).s) ∧ IntKind.i64.wrap ((c : Int) - (itget its i).s) < ((cap + 1 : Nat) : Int); rw [e2]; omega) ?_
        repeat' first | refine Split.isT g ?_ | refine Split.t ?_ | refine Split.f ?_ | fail
        refine Need.mk (by omega) ?_
        repeat' first | refine Split.isT g ?_ | refine Split.t ?_ | refine Split.f ?_ | fail
        refine Need.mk (by kernel_rfl) ?_
        have e3 : IntKind.i64.wrap ((padL (kV its c) (kBest its (kV its c) c i).1 (cap - c)).getD (IntKind.i64.wrap ((c : Int) - (itget its i).s)).toNat 0 + (itget its i).v) = (kV its c).getD (c - (itget its i).s.toNat) 0 + (itget its i).v := by
          rw [e2, Int.toNat_natCast, pl, wid (by omega) (by omega)]
        show Split (decide (IntKind.i64.wrap ((padL (kV its c) (kBest its (kV its c) c i).1 (cap - c)).getD (IntKind.i64.wrap ((c : Int) - (itget its i).s)).toNat 0 + (itget its i).v) > (padL (kV its c) (kBest its (kV its c) c i).1 (cap - c)).getD ((c : Int)).toNat 0)) _
        refine Split.mk (fun q => ?_) (fun q => ?_)
        · have q' := of_decide_eq_true q
          rw [e3, Int.toNat_natCast, pa] at q'
          refine Need.mk (by show 0 ≤ IntKind.i64.wrap ((c : Int) - (itget its i).s) ∧ IntKind.i64.wrap ((c : Int) - (itget its i).s) < ((cap + 1 : Nat) : Int); rw [e2]; omega) ?_
          refine Need.mk (by omega) ?_
          refine Need.mk (by omega) ?_
          refine Need.mk (by kernel_rfl) ?_
          have hk2 := hkb.trans (if_pos ⟨g', q'⟩)
          refine Adj.back (x := i) (i + 1) (by omega) (by omega) (.cons (.bld (fun p hp j hj => ?_)) (.cons (.bld (fun p hp j hj => ?_)) .nil)) (.cons .same (.cons (.hdl rfl rfl) (.cons (.hdl rfl rfl) (.cons .same (.cons .same (.cons .same (.cons .same (.cons .same (.cons (SlotLe.int (hS i (by omega))) .nil)))))))))
          · have hle := lG_set iL 0 (padL (kV its c) (kBest its (kV its c) c i).1 (cap - c)) (kBest its (kV its c) c (i + 1)).1 c p j 1 [i64 (IntKind.i64.wrap ((padL (kV its c) (kBest its (kV its c) c i).1 (cap - c)).getD (IntKind.i64.wrap ((c : Int) - (itget its i).s)).toNat 0 + (itget its i).v))] (by rw [e3, hk2]) (by rw [padL_len]; omega) hj
            rw [show (padL (kV its c) (kBest its (kV its c) c i).1 (cap - c)).set c (kBest its (kV its c) c (i + 1)).1 = padL (kV its c) (kBest its (kV its c) c (i + 1)).1 (cap - c) by have := padL_set (kV its c) (kBest its (kV its c) c i).1 (kBest its (kV its c) c (i + 1)).1 (cap - c); rwa [hlV] at this] at hle
            exact hle
          · have hle := lG_set iL 0 (padL (kT its c) (kBest its (kV its c) c i).2 (cap - c)) (kBest its (kV its c) c (i + 1)).2 c p j 1 [i64 (i : Int)] (by rw [hk2]) (by rw [padL_len]; omega) hj
            rw [show (padL (kT its c) (kBest its (kV its c) c i).2 (cap - c)).set c (kBest its (kV its c) c (i + 1)).2 = padL (kT its c) (kBest its (kV its c) c (i + 1)).2 (cap - c) by have := padL_set (kT its c) (kBest its (kV its c) c i).2 (kBest its (kV its c) c (i + 1)).2 (cap - c); rwa [hlT] at this] at hle
            exact hle
        · have q' := of_decide_eq_false q
          rw [e3, Int.toNat_natCast, pa] at q'
          have hk2 := hkb.trans (if_neg (fun w => q' w.2))
          refine Adj.back (x := i) (i + 1) (by omega) (by omega) (.cons (.bld (fun p hp j hj => SLe.of_eq (by rw [hk2]))) (.cons (.bld (fun p hp j hj => SLe.of_eq (by rw [hk2]))) .nil)) (.cons .same (.cons (.hdl rfl rfl) (.cons (.hdl rfl rfl) (.cons .same (.cons .same (.cons .same (.cons .same (.cons .same (.cons (SlotLe.int (hS i (by omega))) .nil)))))))))
      · have g' : ¬ (itget its i).s ≤ c := of_decide_eq_false g
        repeat' first | refine Split.isF g ?_ | refine Split.t ?_ | refine Split.f ?_ | fail
        refine Need.mk (by kernel_rfl) ?_
        repeat' first | refine Split.isF g ?_ | refine Split.t ?_ | refine Split.f ?_ | fail
        have hk2 := hkb.trans (if_neg (fun w => g' w.1))
        refine Adj.back (x := i) (i + 1) (by omega) (by omega) (.cons (.bld (fun p hp j hj => SLe.of_eq (by rw [hk2]))) (.cons (.bld (fun p hp j hj => SLe.of_eq (by rw [hk2]))) .nil)) (.cons .same (.cons (.hdl rfl rfl) (.cons (.hdl rfl rfl) (.cons .same (.cons .same (.cons .same (.cons .same (.cons .same (.cons (SlotLe.int (hS i (by omega))) .nil)))))))))
    · have he : i = its.length := by have := of_decide_eq_false h; omega
      subst he
      refine Adj.back (x := c) (c + 1) (by omega) (by omega) (.cons (.bld (fun p hp j hj => SLe.of_eq (lG_eq ?_ j))) (.cons (.bld (fun p hp j hj => SLe.of_eq (lG_eq ?_ j))) .nil)) (.cons .same (.cons (.hdl rfl rfl) (.cons (.hdl rfl rfl) (.cons .same (.cons (SlotLe.int (hS c (by omega))) .nil)))))
      · rw [kV, show cap + 1 - (c + 1) = cap - c by omega, List.append_assoc]; rfl
      · rw [kT, show cap + 1 - (c + 1) = cap - c by omega, List.append_assoc]; rfl
  · have he : c = cap + 1 := by have := of_decide_eq_false h; omega
    subst he
    refine Fin.tup (.cons (DLe.one (SLe.slN (by rw [kV_len]) (fun p hp j hj => SLe.of_eq (lG_eq ?_ j)))) (.cons (DLe.one (SLe.slN (by rw [kT_len]) (fun p hp j hj => SLe.of_eq (lG_eq ?_ j)))) .nil))
    · rw [Nat.sub_self, List.replicate_zero, List.append_nil]
    · rw [Nat.sub_self, List.replicate_zero, List.append_nil]
end St
end Go.Vm
