/-
  Layer 37: contracts of knapsack, taken and of the reference's fill.
  Layer 37: contracts of taken and of the reference's fill.
-/
import Derived.Test.YtfoblfchkgapoaaStpB
namespace Go.Vm
set_option maxRecDepth 20000
set_option linter.unusedVariables false
set_option linter.unusedSimpArgs false
open Go Go.RowKit Go.Proofs
namespace St

structure Itm where
  s : Int
  v : Int
  deriving DecidableEq
abbrev itL (x : Itm) : List SV := [i64 x.s, i64 x.v]
abbrev it0 : Itm := ⟨0, 0⟩
abbrev itS (l : List Itm) : SV := .sl l.length 2 (lG itL it0 l)
abbrev itget (l : List Itm) (i : Nat) : Itm := l.getD i it0
/-- The best for the capacity c out of the i first items, and the item that it takes first; V: the values of the lesser capacities. -/
def kBest (its : List Itm) (V : List Int) (c : Nat) : Nat → Int × Int
  | 0 => (0, -1)
  | i + 1 => if (itget its i).s ≤ c ∧ V.getD (c - (itget its i).s.toNat) 0 + (itget its i).v > (kBest its V c i).1 then (V.getD (c - (itget its i).s.toNat) 0 + (itget its i).v, (i : Int)) else kBest its V c i
def kV (its : List Itm) : Nat → List Int
  | 0 => []
  | c + 1 => kV its c ++ [(kBest its (kV its c) c its.length).1]
def kT (its : List Itm) : Nat → List Int
  | 0 => []
  | c + 1 => kT its c ++ [(kBest its (kV its c) c its.length).2]
theorem kV_len (its : List Itm) : ∀ c, (kV its c).length = c
  | 0 => rfl
  | c + 1 => by rw [kV, List.length_append, kV_len its c]; rfl
theorem kT_len (its : List Itm) : ∀ c, (kT its c).length = c
  | 0 => rfl
  | c + 1 => by rw [kT, List.length_append, kT_len its c]; rfl
/-- Items with sizes of at least 1 and values up to M. -/
structure Its (its : List Itm) (M : Int) : Prop where
  s : ∀ i, i < its.length → 1 ≤ (itget its i).s ∧ (itget its i).s ≤ 100000
  v : ∀ i, i < its.length → 0 ≤ (itget its i).v ∧ (itget its i).v ≤ M
  m : 0 ≤ M
theorem kBest_bd {its : List Itm} {M : Int} (h : Its its M) {V : List Int} {c : Nat} (hV : ∀ j, j < c → 0 ≤ V.getD j 0 ∧ V.getD j 0 ≤ j * M) : ∀ i, i ≤ its.length → 0 ≤ (kBest its V c i).1 ∧ (kBest its V c i).1 ≤ c * M
  | 0, _ => ⟨Int.le_refl _, Int.mul_nonneg (by omega) h.m⟩
  | i + 1, hi => by
    rw [kBest]
    split
    · rename_i hc
      obtain ⟨s1, s2⟩ := h.s i (by omega)
      obtain ⟨v1, v2⟩ := h.v i (by omega)
      obtain ⟨a1, a2⟩ := hV (c - (itget its i).s.toNat) (by omega)
      refine ⟨by show 0 ≤ V.getD _ 0 + _; omega, ?_⟩
      show V.getD _ 0 + (itget its i).v ≤ c * M
      have e : ((c - (itget its i).s.toNat : Nat) : Int) * M ≤ ((c : Int) - 1) * M := Int.mul_le_mul_of_nonneg_right (by omega) h.m
      have e2 : ((c : Int) - 1) * M = c * M - M := by grind
      omega
    · exact kBest_bd h hV i (by omega)
theorem kV_bd {its : List Itm} {M : Int} (h : Its its M) : ∀ c j, j < c → 0 ≤ (kV its c).getD j 0 ∧ (kV its c).getD j 0 ≤ j * M
  | 0, j, hj => absurd hj (Nat.not_lt_zero _)
  | c + 1, j, hj => by
    rw [kV]
    by_cases hc : j < c
    · rw [getD_app_l _ _ _ _ (by rw [kV_len]; exact hc)]
      exact kV_bd h c j hc
    · have e : j = c := by omega
      subst e
      have := kBest_bd h (fun i hi => kV_bd h j i hi) its.length (Nat.le_refl _)
      rw [getD_app_r _ _ _ _ (by rw [kV_len]; exact Nat.le_refl _), kV_len, Nat.sub_self]
      exact this
theorem kBest_snd {its : List Itm} {V : List Int} {c : Nat} : ∀ i, (kBest its V c i).2 = -1 ∨ (0 ≤ (kBest its V c i).2 ∧ (kBest its V c i).2 < i ∧ (itget its (kBest its V c i).2.toNat).s ≤ c ∧ (kBest its V c i).1 = V.getD (c - (itget its (kBest its V c i).2.toNat).s.toNat) 0 + (itget its (kBest its V c i).2.toNat).v)
  | 0 => .inl rfl
  | i + 1 => by
    rw [kBest]
    split
    · rename_i h
      right
      refine ⟨by show (0 : Int) ≤ i; omega, by show (i : Int) < (i + 1 : Nat); omega, ?_, ?_⟩
      · show (itget its ((i : Int)).toNat).s ≤ c
        rw [Int.toNat_natCast]; exact h.1
      · show V.getD _ 0 + _ = V.getD (c - (itget its ((i : Int)).toNat).s.toNat) 0 + (itget its ((i : Int)).toNat).v
        rw [Int.toNat_natCast]
    · rcases kBest_snd i with h | ⟨h1, h2, h3⟩
      · exact .inl h
      · exact .inr ⟨h1, by omega, h3⟩
theorem kT_at (its : List Itm) : ∀ n c, c < n → (kT its n).getD c 0 = (kBest its (kV its c) c its.length).2
  | 0, c, h => absurd h (Nat.not_lt_zero _)
  | n + 1, c, h => by
    rw [kT]
    by_cases hc : c < n
    · rw [getD_app_l _ _ _ _ (by rw [kT_len]; exact hc)]
      exact kT_at its n c hc
    · have e : c = n := by omega
      subst e
      rw [getD_app_r _ _ _ _ (by rw [kT_len]; exact Nat.le_refl _), kT_len, Nat.sub_self]
      rfl
theorem kV_at (its : List Itm) : ∀ n c, c < n → (kV its n).getD c 0 = (kBest its (kV its c) c its.length).1
  | 0, c, h => absurd h (Nat.not_lt_zero _)
  | n + 1, c, h => by
    rw [kV]
    by_cases hc : c < n
    · rw [getD_app_l _ _ _ _ (by rw [kV_len]; exact hc)]
      exact kV_at its n c hc
    · have e : c = n := by omega
      subst e
      rw [getD_app_r _ _ _ _ (by rw [kV_len]; exact Nat.le_refl _), kV_len, Nat.sub_self]
      rfl
/-- A table whose first cells are filled. -/
def padL (A : List Int) (x : Int) (n : Nat) : List Int := A ++ x :: List.replicate n 0
theorem padL_len (A : List Int) (x : Int) (n : Nat) : (padL A x n).length = A.length + 1 + n := by simp [padL]; omega
theorem padL_set (A : List Int) (x y : Int) (n : Nat) : (padL A x n).set A.length y = padL A y n := by simp [padL]
theorem padL_lt (A : List Int) (x : Int) (n j : Nat) (h : j < A.length) : (padL A x n).getD j 0 = A.getD j 0 := getD_app_l _ _ _ _ h
theorem padL_at (A : List Int) (x : Int) (n : Nat) : (padL A x n).getD A.length 0 = x := by rw [padL, getD_app_r _ _ _ _ (Nat.le_refl _), Nat.sub_self]; rfl
theorem padL_next (A : List Int) (x : Int) (n : Nat) : padL A x (n + 1) = (A ++ [x]) ++ 0 :: List.replicate n 0 := by simp [padL, List.replicate_succ]
theorem lG_rep (n i j : Nat) (hi : i < n) (hj : j < 1) : [i64 0].getD j (.v Go.undef) = lG iL 0 (List.replicate n 0) i j := by
  unfold lG
  have : (List.replicate n (0 : Int)).getD i 0 = 0 := by simp [List.getD, hi]
  rw [this]
abbrev twoS (a b : List Int) : TV := .tup [.one (iS a), .one (iS b)]
theorem CallW.twoS {P : Program} {f : FuncId} {args : List DV} {K : TV → Prop} {a b : List Int} (h : Det P f args (twoS a b)) (kk : ∀ x y, x = a → y = b → K (twoS x y)) : CallW P f args K := ⟨_, h, kk a b rfl rfl⟩
theorem needMake {n : Nat} (h : n ≤ 100000000) : 0 ≤ (n : Int) ∧ (n : Int) ≤ n ∧ ((8 : Nat) : Int) * n ≤ 281474976710656 ∧ (n : Int) ≤ 9223372036854775807 := by omega
theorem knap_det (its : List Itm) (cap : Nat) (M : Int) (H : Its its M) (hn : its.length ≤ 1000000) (hc : cap ≤ 1000000) (hM : M ≤ 10000000000) : Det Try.prog 48 [.one (itS its), .one (i64 cap)] (twoS (kV its (cap + 1)) (kT its (cap + 1))) := by
  refine det_of_awp TTok mixed Try.func48 rfl rfl [] (Nat.le_of_ble_eq_true rfl) ?_
  have e1 : IntKind.i64.wrap ((cap : Int) + 1) = ((cap + 1 : Nat) : Int) := hS cap (by omega)
  refine Need.mk (by rw [e1]; exact needMake (by omega)) ?_
  refine Need.mk (by rw [e1]; exact needMake (by omega)) ?_
  refine Need.mk (by kernel_rfl) ?_
  refine Loop.by (α := Nat) (fun c => [(0, .d (.one (itS its))), (4, .hdl 11 0), (5, .hdl 14 0), (16, tint ((cap + 1 : Nat) : Int)), (17, tint c)])
    (fun c => [(11, .bld 0 (cap + 1) 1 3 (lG iL 0 (kV its c ++ List.replicate (cap + 1 - c) 0))), (14, .bld 0 (cap + 1) 1 3 (lG iL 0 (kT its c ++ List.replicate (cap + 1 - c) 0)))]) (fun c => c ≤ cap + 1) (fun c => cap + 1 - c)
    (Adj.at 0 (Nat.zero_le _) (.cons (.bldN (by rw [e1]; omega) (fun i hi j hj => SLe.of_eq ?_)) (.cons (.bldN (by rw [e1]; omega) (fun i hi j hj => SLe.of_eq ?_)) .nil)) (.cons .same (.cons (.hdl rfl rfl) (.cons (.hdl rfl rfl) (.cons (SlotLe.int e1) (.cons .same .nil)))))) (fun c hc' => ?_)
  · rw [e1] at hi
    exact lG_rep (cap + 1) i j (by omega) hj
  · rw [e1] at hi
    exact lG_rep (cap + 1) i j (by omega) hj
  refine Split.mk (fun h => ?_) (fun h => ?_)
  · have hlt : c < cap + 1 := by have := of_decide_eq_true h; omega
    refine Need.mk (by omega) ?_
    refine Loop.by (α := Nat) (fun i => [(0, .d (.one (itS its))), (4, .hdl 11 0), (5, .hdl 14 0), (16, tint ((cap + 1 : Nat) : Int)), (17, tint c), (6, tint c), (23, .d (.one (itS its))), (24, tint its.length), (25, tint i)])
      (fun i => [(11, .bld 0 (cap + 1) 1 3 (lG iL 0 (padL (kV its c) (kBest its (kV its c) c i).1 (cap - c)))), (14, .bld 0 (cap + 1) 1 3 (lG iL 0 (padL (kT its c) (kBest its (kV its c) c i).2 (cap - c))))]) (fun i => i ≤ its.length) (fun i => its.length - i)
      (Adj.at 0 (Nat.zero_le _) (.cons (.bld (fun i hi j hj => SLe.of_eq (lG_eq ?_ j))) (.cons (.bld (fun i hi j hj => ?_)) .nil)) (.cons .same (.cons (.hdl rfl rfl) (.cons (.hdl rfl rfl) (.cons .same (.cons .same (.cons .same (.cons .same (.cons .same (.cons .same .nil)))))))))) (fun i hi => ?_)
    · rw [show cap + 1 - c = cap - c + 1 by omega, List.replicate_succ]; rfl
    · have hle := lG_set iL 0 (kT its c ++ List.replicate (cap + 1 - c) 0) (-1) c i j 1 [i64 (-1)] rfl (by rw [List.length_append, kT_len, List.length_replicate]; omega) hj
      refine SLe.trans hle (SLe.of_eq (lG_eq ?_ j))
      rw [show cap + 1 - c = cap - c + 1 by omega, List.replicate_succ]
      have := padL_set (kT its c) 0 (-1) (cap - c)
      rw [kT_len] at this
      exact congrArg (fun l => List.getD l i 0) this
    refine Split.mk (fun h => ?_) (fun h => ?_)
    · have hil : i < its.length := by have := of_decide_eq_true h; omega
      obtain ⟨s1, s2⟩ := H.s i hil
      obtain ⟨v1, v2⟩ := H.v i hil
      have hkb : kBest its (kV its c) c (i + 1) = if (itget its i).s ≤ c ∧ (kV its c).getD (c - (itget its i).s.toNat) 0 + (itget its i).v > (kBest its (kV its c) c i).1 then ((kV its c).getD (c - (itget its i).s.toNat) 0 + (itget its i).v, (i : Int)) else kBest its (kV its c) c i := rfl
      have bd := kV_bd H c
      have hlV := kV_len its c
      have hlT := kT_len its c
      have pa := padL_at (kV its c) (kBest its (kV its c) c i).1 (cap - c)
      rw [hlV] at pa
      refine Need.mk (by omega) ?_
      show Split (decide ((itget its i).s ≤ c)) _
      refine Split.mk (fun g => ?_) (fun g => ?_)
      · have g' : (itget its i).s ≤ c := of_decide_eq_true g
        have e2 : IntKind.i64.wrap ((c : Int) - (itget its i).s) = ((c - (itget its i).s.toNat : Nat) : Int) := by rw [hw _ (by omega) (by omega)]; omega
        obtain ⟨b1, b2⟩ := bd (c - (itget its i).s.toNat) (by omega)
        have b3 : ((c - (itget its i).s.toNat : Nat) : Int) * M ≤ 1000000 * 10000000000 := Int.mul_le_mul (by omega) hM H.m (by decide)
        have pl := padL_lt (kV its c) (kBest its (kV its c) c i).1 (cap - c) (c - (itget its i).s.toNat) (by omega)
        repeat' first | refine Split.isT g ?_ | refine Split.t ?_ | refine Split.f ?_ | fail
        refine Need.mk (by show 0 ≤ IntKind.i64.wrap ((c : Int) - (itget its i).s) ∧ IntKind.i64.wrap ((c : Int) - (itget its i).s) < ((cap + 1 : Nat) : Int); rw [e2]; omega) ?_
        repeat' first | refine Split.isT g ?_ | refine Split.t ?_ | refine Split.f ?_ | fail
        refine Need.mk (by omega) ?_
        repeat' first | refine Split.isT g ?_ | refine Split.t ?_ | refine Split.f ?_ | fail
        refine Need.mk (by kernel_rfl) ?_
        have e3 : IntKind.i64.wrap ((padL (kV its c) (kBest its (kV its c) c i).1 (cap - c)).getD (IntKind.i64.wrap ((c : Int) - (itget its i).s)).toNat 0 + (itget its i).v) = (kV its c).getD (c - (itget its i).s.toNat) 0 + (itget its i).v := by
          rw [e2, Int.toNat_natCast, pl, wid (by omega) (by omega)]
        show Split (decide (IntKind.i64.wrap ((padL (kV its c) (kBest its (kV its c) c i).1 (cap - c)).getD (IntKind.i64.wrap ((c : Int) - (itget its i).s)).toNat 0 + (itget its i).v) > (padL (kV its c) (kBest its (kV its c) c i).1 (cap - c)).getD ((c : Int)).toNat 0)) _
        refine Split.mk (fun q => ?_) (fun q => ?_)
        · have q' := of_decide_eq_true q
          rw [e3, Int.toNat_natCast, pa] at q'
          refine Need.mk (by show 0 ≤ IntKind.i64.wrap ((c : Int) - (itget its i).s) ∧ IntKind.i64.wrap ((c : Int) - (itget its i).s) < ((cap + 1 : Nat) : Int); rw [e2]; omega) ?_
          refine Need.mk (by omega) ?_
          refine Need.mk (by omega) ?_
          refine Need.mk (by kernel_rfl) ?_
          have hk2 := hkb.trans (if_pos ⟨g', q'⟩)
          refine Adj.back (x := i) (i + 1) (by omega) (by omega) (.cons (.bld (fun p hp j hj => ?_)) (.cons (.bld (fun p hp j hj => ?_)) .nil)) (.cons .same (.cons (.hdl rfl rfl) (.cons (.hdl rfl rfl) (.cons .same (.cons .same (.cons .same (.cons .same (.cons .same (.cons (SlotLe.int (hS i (by omega))) .nil)))))))))
          · have hle := lG_set iL 0 (padL (kV its c) (kBest its (kV its c) c i).1 (cap - c)) (kBest its (kV its c) c (i + 1)).1 c p j 1 [i64 (IntKind.i64.wrap ((padL (kV its c) (kBest its (kV its c) c i).1 (cap - c)).getD (IntKind.i64.wrap ((c : Int) - (itget its i).s)).toNat 0 + (itget its i).v))] (by rw [e3, hk2]) (by rw [padL_len]; omega) hj
            rw [show (padL (kV its c) (kBest its (kV its c) c i).1 (cap - c)).set c (kBest its (kV its c) c (i + 1)).1 = padL (kV its c) (kBest its (kV its c) c (i + 1)).1 (cap - c) by have := padL_set (kV its c) (kBest its (kV its c) c i).1 (kBest its (kV its c) c (i + 1)).1 (cap - c); rwa [hlV] at this] at hle
            exact hle
          · have hle := lG_set iL 0 (padL (kT its c) (kBest its (kV its c) c i).2 (cap - c)) (kBest its (kV its c) c (i + 1)).2 c p j 1 [i64 (i : Int)] (by rw [hk2]) (by rw [padL_len]; omega) hj
            rw [show (padL (kT its c) (kBest its (kV its c) c i).2 (cap - c)).set c (kBest its (kV its c) c (i + 1)).2 = padL (kT its c) (kBest its (kV its c) c (i + 1)).2 (cap - c) by have := padL_set (kT its c) (kBest its (kV its c) c i).2 (kBest its (kV its c) c (i + 1)).2 (cap - c); rwa [hlT] at this] at hle
            exact hle
        · have q' := of_decide_eq_false q
          rw [e3, Int.toNat_natCast, pa] at q'
          have hk2 := hkb.trans (if_neg (fun w => q' w.2))
          refine Adj.back (x := i) (i + 1) (by omega) (by omega) (.cons (.bld (fun p hp j hj => SLe.of_eq (by rw [hk2]))) (.cons (.bld (fun p hp j hj => SLe.of_eq (by rw [hk2]))) .nil)) (.cons .same (.cons (.hdl rfl rfl) (.cons (.hdl rfl rfl) (.cons .same (.cons .same (.cons .same (.cons .same (.cons .same (.cons (SlotLe.int (hS i (by omega))) .nil)))))))))
      · have g' : ¬ (itget its i).s ≤ c := of_decide_eq_false g
        repeat' first | refine Split.isF g ?_ | refine Split.t ?_ | refine Split.f ?_ | fail
        refine Need.mk (by kernel_rfl) ?_
        repeat' first | refine Split.isF g ?_ | refine Split.t ?_ | refine Split.f ?_ | fail
        have hk2 := hkb.trans (if_neg (fun w => g' w.1))
        refine Adj.back (x := i) (i + 1) (by omega) (by omega) (.cons (.bld (fun p hp j hj => SLe.of_eq (by rw [hk2]))) (.cons (.bld (fun p hp j hj => SLe.of_eq (by rw [hk2]))) .nil)) (.cons .same (.cons (.hdl rfl rfl) (.cons (.hdl rfl rfl) (.cons .same (.cons .same (.cons .same (.cons .same (.cons .same (.cons (SlotLe.int (hS i (by omega))) .nil)))))))))
    · have he : i = its.length := by have := of_decide_eq_false h; omega
      subst he
      refine Adj.back (x := c) (c + 1) (by omega) (by omega) (.cons (.bld (fun p hp j hj => SLe.of_eq (lG_eq ?_ j))) (.cons (.bld (fun p hp j hj => SLe.of_eq (lG_eq ?_ j))) .nil)) (.cons .same (.cons (.hdl rfl rfl) (.cons (.hdl rfl rfl) (.cons .same (.cons (SlotLe.int (hS c (by omega))) .nil)))))
      · rw [kV, show cap + 1 - (c + 1) = cap - c by omega, List.append_assoc]; rfl
      · rw [kT, show cap + 1 - (c + 1) = cap - c by omega, List.append_assoc]; rfl
  · have he : c = cap + 1 := by have := of_decide_eq_false h; omega
    subst he
    refine Fin.tup (.cons (DLe.one (SLe.slN (by rw [kV_len]) (fun p hp j hj => SLe.of_eq (lG_eq ?_ j)))) (.cons (DLe.one (SLe.slN (by rw [kT_len]) (fun p hp j hj => SLe.of_eq (lG_eq ?_ j)))) .nil))
    · rw [Nat.sub_self, List.replicate_zero, List.append_nil]
    · rw [Nat.sub_self, List.replicate_zero, List.append_nil]
end St
end Go.Vm
namespace Go.Vm
set_option maxRecDepth 20000
set_option linter.unusedVariables false
set_option linter.unusedSimpArgs false
open Go Go.RowKit Go.Proofs
namespace St

def tkF (its : List Itm) (T : List Int) : Nat → Nat → List Int
  | 0, _ => []
  | f + 1, c => if 0 ≤ T.getD c 0 then T.getD c 0 :: tkF its T f (c - (itget its (T.getD c 0).toNat).s.toNat) else []
def tkL (its : List Itm) (cap : Nat) : List Int := tkF its (kT its (cap + 1)) (cap + 1) cap
theorem take_ok {its : List Itm} {M : Int} (H : Its its M) {cap c : Nat} (hc : c ≤ cap) : (kT its (cap + 1)).getD c 0 = -1 ∨ (0 ≤ (kT its (cap + 1)).getD c 0 ∧ (kT its (cap + 1)).getD c 0 < its.length ∧ 1 ≤ (itget its ((kT its (cap + 1)).getD c 0).toNat).s ∧ (itget its ((kT its (cap + 1)).getD c 0).toNat).s ≤ c) := by
  rw [kT_at its _ _ (by omega)]
  rcases kBest_snd (its := its) (V := kV its c) (c := c) its.length with h | ⟨h1, h2, h3, _⟩
  · exact .inl h
  · exact .inr ⟨h1, h2, (H.s _ (by omega)).1, h3⟩
theorem taken_det (its : List Itm) (cap : Nat) (M : Int) (H : Its its M) (hn : its.length ≤ 1000000) (hc : cap ≤ 1000000) : Det Try.prog 49 [.one (itS its), .one (iS (kT its (cap + 1))), .one (i64 cap)] (.d (.one (iS (tkL its cap)))) := by
  refine det_of_awp TTok mixed Try.func49 rfl rfl [] (Nat.le_of_ble_eq_true rfl) ?_
  have hT := kT_len its (cap + 1)
  refine Loop.by (α := List Int × Nat × Nat) (fun x => [(0, .d (.one (itS its))), (1, .d (.one (iS (kT its (cap + 1))))), (7, .hdl 23 0), (8, tint x.2.2)]) (fun x => [(23, .bld 0 x.1.length 1 3 (lG iL 0 x.1))])
    (fun x => x.2.2 ≤ cap ∧ x.2.2 < x.2.1 ∧ x.1 ++ tkF its (kT its (cap + 1)) x.2.1 x.2.2 = tkL its cap ∧ x.1.length + x.2.2 ≤ cap) (fun x => x.2.2)
    (Adj.nil 7 23 1 3 (lG iL 0 []) rfl rfl (Adj.at ([], cap + 1, cap) ⟨Nat.le_refl _, Nat.lt_succ_self _, rfl, by show 0 + cap ≤ cap; omega⟩ (.cons (.bld (fun _ h => absurd h (Nat.not_lt_zero _))) .nil) (.cons .same (.cons .same (.cons (.hdl rfl rfl) (.cons .same .nil)))))) (fun x hx => ?_)
  obtain ⟨D, f, c⟩ := x
  obtain ⟨x1, x2, x3, x4⟩ := hx
  replace x1 : c ≤ cap := x1
  replace x2 : c < f := x2
  replace x3 : D ++ tkF its (kT its (cap + 1)) f c = tkL its cap := x3
  replace x4 : D.length + c ≤ cap := x4
  obtain ⟨f, rfl⟩ : ∃ g, f = g + 1 := ⟨f - 1, by omega⟩
  rw [tkF] at x3
  refine Need.mk (by show 0 ≤ (c : Int) ∧ (c : Int) < ((kT its (cap + 1)).length : Int); rw [hT]; omega) ?_
  show Split (decide ((kT its (cap + 1)).getD c 0 ≥ 0)) _
  refine Split.mk (fun h => ?_) (fun h => ?_)
  · have h' : 0 ≤ (kT its (cap + 1)).getD c 0 := of_decide_eq_true h
    rw [if_pos h'] at x3
    obtain ⟨t1, t2, t3, t4⟩ := (take_ok H x1).resolve_left (fun w => by rw [w] at h'; omega)
    refine Need.mk (by show 0 ≤ (c : Int) ∧ (c : Int) < ((kT its (cap + 1)).length : Int); rw [hT]; omega) ?_
    refine Need.mk (needApp (n := D.length + 1) (by omega) (by decide)) ?_
    refine Need.mk (by show 0 ≤ (kT its (cap + 1)).getD c 0 ∧ (kT its (cap + 1)).getD c 0 < (its.length : Int); omega) ?_
    have e2 : IntKind.i64.wrap ((c : Int) - (itget its ((kT its (cap + 1)).getD c 0).toNat).s) = ((c - (itget its ((kT its (cap + 1)).getD c 0).toNat).s.toNat : Nat) : Int) := by rw [hw _ (by omega) (by omega)]; omega
    refine Adj.back (x := (D, f + 1, c)) (D ++ [(kT its (cap + 1)).getD c 0], f, c - (itget its ((kT its (cap + 1)).getD c 0).toNat).s.toNat)
      ⟨by show c - _ ≤ cap; omega, by show c - _ < f; omega, by show (D ++ [_]) ++ _ = _; rw [← x3, List.append_assoc]; rfl, by show (D ++ [_]).length + (c - _) ≤ cap; rw [List.length_append, List.length_singleton]; omega⟩ (by show c - _ < c; omega)
      (.cons (.bldN (by rw [List.length_append]; rfl) (fun i hi j hj => lG_snoc iL 0 D ((kT its (cap + 1)).getD c 0) 1 D.length i j _ rfl rfl hi hj)) .nil) (.cons .same (.cons .same (.cons (.hdl rfl rfl) (.cons (SlotLe.int e2) .nil))))
  · have h' : ¬ 0 ≤ (kT its (cap + 1)).getD c 0 := of_decide_eq_false h
    rw [if_neg h', List.append_nil] at x3
    refine Fin.one ?_
    rw [← x3]
    exact SLe.slN rfl (fun _ _ _ _ => SLe.refl _)
/-! ### the reference's fill -/
def fB (S V T : List Int) (c : Nat) : Nat → Int
  | 0 => 0
  | i + 1 => if iget S i ≤ c then (if T.getD (c - (iget S i).toNat) 0 + iget V i > fB S V T c i then T.getD (c - (iget S i).toNat) 0 + iget V i else fB S V T c i) else fB S V T c i
def fE (S V T : List Int) (c : Nat) : Int := if 0 < c then (if T.getD (c - 1) 0 > fB S V T c S.length then T.getD (c - 1) 0 else fB S V T c S.length) else fB S V T c S.length
def fT (S V : List Int) : Nat → List Int
  | 0 => []
  | c + 1 => fT S V c ++ [fE S V (fT S V c) c]
theorem fT_len (S V : List Int) : ∀ c, (fT S V c).length = c
  | 0 => rfl
  | c + 1 => by rw [fT, List.length_append, fT_len S V c]; rfl
theorem fT_at (S V : List Int) : ∀ n c, c < n → (fT S V n).getD c 0 = fE S V (fT S V c) c
  | 0, c, h => absurd h (Nat.not_lt_zero _)
  | n + 1, c, h => by
    rw [fT]
    by_cases hc : c < n
    · rw [getD_app_l _ _ _ _ (by rw [fT_len]; exact hc)]
      exact fT_at S V n c hc
    · have e : c = n := by omega
      subst e
      rw [getD_app_r _ _ _ _ (by rw [fT_len]; exact Nat.le_refl _), fT_len, Nat.sub_self]
      rfl
structure Sz (S V : List Int) (M : Int) : Prop where
  len : V.length = S.length
  s : ∀ i, i < S.length → 1 ≤ iget S i ∧ iget S i ≤ 100000
  v : ∀ i, i < S.length → 0 ≤ iget V i ∧ iget V i ≤ M
  m : 0 ≤ M
theorem fB_bd {S V : List Int} {M : Int} (h : Sz S V M) {T : List Int} {c : Nat} (hT : ∀ j, j < c → 0 ≤ T.getD j 0 ∧ T.getD j 0 ≤ j * M) : ∀ i, i ≤ S.length → 0 ≤ fB S V T c i ∧ fB S V T c i ≤ c * M
  | 0, _ => ⟨Int.le_refl _, Int.mul_nonneg (by omega) h.m⟩
  | i + 1, hi => by
    have ih := fB_bd h hT i (by omega)
    rw [fB]
    split
    · split
      · obtain ⟨s1, s2⟩ := h.s i (by omega)
        obtain ⟨v1, v2⟩ := h.v i (by omega)
        obtain ⟨a1, a2⟩ := hT (c - (iget S i).toNat) (by omega)
        have e : ((c - (iget S i).toNat : Nat) : Int) * M ≤ ((c : Int) - 1) * M := Int.mul_le_mul_of_nonneg_right (by omega) h.m
        have e2 : ((c : Int) - 1) * M = c * M - M := by grind
        omega
      · exact ih
    · exact ih
theorem fE_bd {S V : List Int} {M : Int} (h : Sz S V M) {T : List Int} {c : Nat} (hT : ∀ j, j < c → 0 ≤ T.getD j 0 ∧ T.getD j 0 ≤ j * M) : 0 ≤ fE S V T c ∧ fE S V T c ≤ c * M := by
  have ih := fB_bd h hT S.length (Nat.le_refl _)
  unfold fE
  split
  · split
    · obtain ⟨a1, a2⟩ := hT (c - 1) (by omega)
      have e : ((c - 1 : Nat) : Int) * M ≤ (c : Int) * M := Int.mul_le_mul_of_nonneg_right (by omega) h.m
      omega
    · exact ih
  · exact ih
theorem fT_bd {S V : List Int} {M : Int} (h : Sz S V M) : ∀ c j, j < c → 0 ≤ (fT S V c).getD j 0 ∧ (fT S V c).getD j 0 ≤ j * M
  | 0, j, hj => absurd hj (Nat.not_lt_zero _)
  | c + 1, j, hj => by
    rw [fT]
    by_cases hc : j < c
    · rw [getD_app_l _ _ _ _ (by rw [fT_len]; exact hc)]
      exact fT_bd h c j hc
    · have e : j = c := by omega
      subst e
      rw [getD_app_r _ _ _ _ (by rw [fT_len]; exact Nat.le_refl _), fT_len, Nat.sub_self]
      exact fE_bd h (fun i hi => fT_bd h j i hi)
theorem fill_det (S V : List Int) (cap : Nat) (M : Int) (H : Sz S V M) (hn : S.length ≤ 1000000) (hc : cap ≤ 1000000) (hM : M ≤ 10000000000) : Det Try.prog 52 [.one (iS S), .one (iS V), .one (i64 cap)] (tint ((fT S V (cap + 1)).getD cap 0)) := by
  refine det_of_awp TTok mixed Try.func52 rfl rfl [] (Nat.le_of_ble_eq_true rfl) ?_
  have e1 : IntKind.i64.wrap ((cap : Int) + 1) = ((cap + 1 : Nat) : Int) := hS cap (by omega)
  refine Need.mk (by rw [e1]; exact needMake (by omega)) ?_
  refine Loop.by (α := Nat) (fun c => [(0, .d (.one (iS S))), (1, .d (.one (iS V))), (2, tint cap), (7, .hdl 12 0), (8, tint c)])
    (fun c => [(12, .bld 0 (cap + 1) 1 3 (lG iL 0 (fT S V c ++ List.replicate (cap + 1 - c) 0)))]) (fun c => c ≤ cap + 1) (fun c => cap + 1 - c)
    (Adj.at 0 (Nat.zero_le _) (.cons (.bldN (by rw [e1]; omega) (fun i hi j hj => SLe.of_eq ?_)) .nil) (.cons .same (.cons .same (.cons .same (.cons (.hdl rfl rfl) (.cons .same .nil)))))) (fun c hc' => ?_)
  · rw [e1] at hi
    exact lG_rep (cap + 1) i j (by omega) hj
  have hlT := fT_len S V c
  refine Split.mk (fun h => ?_) (fun h => ?_)
  · have hlt : c < cap + 1 := by have := of_decide_eq_true h; omega
    have bd := fT_bd H c
    refine Loop.by (α := Nat) (fun i => [(0, .d (.one (iS S))), (1, .d (.one (iS V))), (2, tint cap), (7, .hdl 12 0), (8, tint c), (9, tint i)])
      (fun i => [(12, .bld 0 (cap + 1) 1 3 (lG iL 0 (padL (fT S V c) (fB S V (fT S V c) c i) (cap - c))))]) (fun i => i ≤ S.length) (fun i => S.length - i)
      (Adj.at 0 (Nat.zero_le _) (.cons (.bld (fun i hi j hj => SLe.of_eq (lG_eq ?_ j))) .nil) (.cons .same (.cons .same (.cons .same (.cons (.hdl rfl rfl) (.cons .same (.cons .same .nil))))))) (fun i hi => ?_)
    · rw [show cap + 1 - c = cap - c + 1 by omega, List.replicate_succ]; rfl
    have pa := padL_at (fT S V c) (fB S V (fT S V c) c i) (cap - c)
    rw [hlT] at pa
    refine Split.mk (fun h => ?_) (fun h => ?_)
    · have hil : i < S.length := by have := of_decide_eq_true h; omega
      obtain ⟨s1, s2⟩ := H.s i hil
      obtain ⟨v1, v2⟩ := H.v i hil
      have hVl := H.len
      have hkb : fB S V (fT S V c) c (i + 1) = if iget S i ≤ c then (if (fT S V c).getD (c - (iget S i).toNat) 0 + iget V i > fB S V (fT S V c) c i then (fT S V c).getD (c - (iget S i).toNat) 0 + iget V i else fB S V (fT S V c) c i) else fB S V (fT S V c) c i := rfl
      refine Need.mk (by omega) ?_
      show Split (decide (iget S i ≤ c)) _
      refine Split.mk (fun g => ?_) (fun g => ?_)
      · have g' : iget S i ≤ c := of_decide_eq_true g
        have e2 : IntKind.i64.wrap ((c : Int) - iget S i) = ((c - (iget S i).toNat : Nat) : Int) := by rw [hw _ (by omega) (by omega)]; omega
        obtain ⟨b1, b2⟩ := bd (c - (iget S i).toNat) (by omega)
        have b3 : ((c - (iget S i).toNat : Nat) : Int) * M ≤ 1000000 * 10000000000 := Int.mul_le_mul (by omega) hM H.m (by decide)
        have pl := padL_lt (fT S V c) (fB S V (fT S V c) c i) (cap - c) (c - (iget S i).toNat) (by omega)
        refine Need.mk (by omega) ?_
        refine Need.mk (by omega) ?_
        refine Need.mk (by show 0 ≤ IntKind.i64.wrap ((c : Int) - iget S i) ∧ IntKind.i64.wrap ((c : Int) - iget S i) < ((cap + 1 : Nat) : Int); rw [e2]; omega) ?_
        refine Need.mk (by show 0 ≤ (i : Int) ∧ (i : Int) < (V.length : Int); omega) ?_
        refine Need.mk (by omega) ?_
        refine Need.mk (by kernel_rfl) ?_
        have e3 : IntKind.i64.wrap ((padL (fT S V c) (fB S V (fT S V c) c i) (cap - c)).getD (IntKind.i64.wrap ((c : Int) - iget S i)).toNat 0 + iget V i) = (fT S V c).getD (c - (iget S i).toNat) 0 + iget V i := by
          rw [e2, Int.toNat_natCast, pl, wid (by omega) (by omega)]
        have hk2 := hkb.trans (if_pos g')
        refine Adj.back (x := i) (i + 1) (by omega) (by omega) (.cons (.bld (fun p hp j hj => ?_)) .nil) (.cons .same (.cons .same (.cons .same (.cons (.hdl rfl rfl) (.cons .same (.cons (SlotLe.int (hS i (by omega))) .nil))))))
        have hle := lG_set iL 0 (padL (fT S V c) (fB S V (fT S V c) c i) (cap - c)) (fB S V (fT S V c) c (i + 1)) c p j 1 [i64 (if IntKind.i64.wrap ((padL (fT S V c) (fB S V (fT S V c) c i) (cap - c)).getD (IntKind.i64.wrap ((c : Int) - iget S i)).toNat 0 + iget V i) > (padL (fT S V c) (fB S V (fT S V c) c i) (cap - c)).getD ((c : Int)).toNat 0 then IntKind.i64.wrap ((padL (fT S V c) (fB S V (fT S V c) c i) (cap - c)).getD (IntKind.i64.wrap ((c : Int) - iget S i)).toNat 0 + iget V i) else (padL (fT S V c) (fB S V (fT S V c) c i) (cap - c)).getD ((c : Int)).toNat 0)] (by rw [e3, Int.toNat_natCast, pa, hk2]) (by rw [padL_len]; omega) hj
        rw [show (padL (fT S V c) (fB S V (fT S V c) c i) (cap - c)).set c (fB S V (fT S V c) c (i + 1)) = padL (fT S V c) (fB S V (fT S V c) c (i + 1)) (cap - c) by have := padL_set (fT S V c) (fB S V (fT S V c) c i) (fB S V (fT S V c) c (i + 1)) (cap - c); rwa [hlT] at this] at hle
        exact hle
      · have g' : ¬ iget S i ≤ c := of_decide_eq_false g
        have hk2 := hkb.trans (if_neg g')
        refine Adj.back (x := i) (i + 1) (by omega) (by omega) (.cons (.bld (fun p hp j hj => SLe.of_eq (by rw [hk2]))) .nil) (.cons .same (.cons .same (.cons .same (.cons (.hdl rfl rfl) (.cons .same (.cons (SlotLe.int (hS i (by omega))) .nil))))))
    · have he : i = S.length := by have := of_decide_eq_false h; omega
      subst he
      have fin : ∀ p j, lG iL 0 (padL (fT S V c) (fE S V (fT S V c) c) (cap - c)) p j = lG iL 0 (fT S V (c + 1) ++ List.replicate (cap + 1 - (c + 1)) 0) p j := fun p j => by
        rw [fT, show cap + 1 - (c + 1) = cap - c by omega, List.append_assoc]; rfl
      refine Split.mk (fun h => ?_) (fun h => ?_)
      · have h0 : 0 < c := by have := of_decide_eq_true h; omega
        have e2 : IntKind.i64.wrap ((c : Int) - 1) = ((c - 1 : Nat) : Int) := by rw [hw _ (by omega) (by omega)]; omega
        have pl := padL_lt (fT S V c) (fB S V (fT S V c) c S.length) (cap - c) (c - 1) (by omega)
        refine Need.mk (by omega) ?_
        refine Need.mk (by rw [e2]; omega) ?_
        refine Need.mk (by omega) ?_
        refine Need.mk (by kernel_rfl) ?_
        have hE : fE S V (fT S V c) c = if (fT S V c).getD (c - 1) 0 > fB S V (fT S V c) c S.length then (fT S V c).getD (c - 1) 0 else fB S V (fT S V c) c S.length := by rw [fE, if_pos h0]
        refine Adj.back (x := c) (c + 1) (by omega) (by omega) (.cons (.bld (fun p hp j hj => ?_)) .nil) (.cons .same (.cons .same (.cons .same (.cons (.hdl rfl rfl) (.cons (SlotLe.int (hS c (by omega))) .nil)))))
        have hle := lG_set iL 0 (padL (fT S V c) (fB S V (fT S V c) c S.length) (cap - c)) (fE S V (fT S V c) c) c p j 1 [i64 (if (padL (fT S V c) (fB S V (fT S V c) c S.length) (cap - c)).getD (IntKind.i64.wrap ((c : Int) - 1)).toNat 0 > (padL (fT S V c) (fB S V (fT S V c) c S.length) (cap - c)).getD ((c : Int)).toNat 0 then (padL (fT S V c) (fB S V (fT S V c) c S.length) (cap - c)).getD (IntKind.i64.wrap ((c : Int) - 1)).toNat 0 else (padL (fT S V c) (fB S V (fT S V c) c S.length) (cap - c)).getD ((c : Int)).toNat 0)] (by rw [e2, Int.toNat_natCast, Int.toNat_natCast, pa, pl, hE]) (by rw [padL_len]; omega) hj
        rw [show (padL (fT S V c) (fB S V (fT S V c) c S.length) (cap - c)).set c (fE S V (fT S V c) c) = padL (fT S V c) (fE S V (fT S V c) c) (cap - c) by have := padL_set (fT S V c) (fB S V (fT S V c) c S.length) (fE S V (fT S V c) c) (cap - c); rwa [hlT] at this, fin] at hle
        exact hle
      · have h0 : c = 0 := by have := of_decide_eq_false h; omega
        have hE : fE S V (fT S V c) c = fB S V (fT S V c) c S.length := by rw [fE, if_neg (by omega)]
        refine Adj.back (x := c) (c + 1) (by omega) (by omega) (.cons (.bld (fun p hp j hj => SLe.of_eq (by rw [← fin, hE]))) .nil) (.cons .same (.cons .same (.cons .same (.cons (.hdl rfl rfl) (.cons (SlotLe.int (hS c (by omega))) .nil)))))
  · have he : c = cap + 1 := by have := of_decide_eq_false h; omega
    subst he
    refine Need.mk (by omega) ?_
    refine Fin.int ?_
    show (fT S V (cap + 1) ++ List.replicate (cap + 1 - (cap + 1)) 0).getD cap 0 = _
    rw [Nat.sub_self, List.replicate_zero, List.append_nil]
end St
end Go.Vm
