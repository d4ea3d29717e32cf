/-
  Layer 11: the contract of the program's Flatten.
-/
import Derived.Test.YtlckiecpelchlaaArcH
namespace Go.Vm
set_option maxRecDepth 20000
set_option linter.unusedVariables false
set_option linter.unusedSimpArgs false
open Go Go.RowKit Go.Proofs
namespace Sg

theorem rev_detM (l : List V2) (hl : l.length ≤ 100000000) : DetM Try.prog 54 [.hdl (.n 2000) 1] [.bld 1 l.length 2 43 (vG l)] (.tup []) [.bld 1 l.length 2 43 (vG l.reverse)] .none := by
  refine detM_of_awp TTok mixed Try.func54 rfl rfl [] (Nat.le_of_ble_eq_true rfl) (Nat.le_of_ble_eq_true rfl) (sigM_of rfl) ?_
  have hw : ∀ n : Int, -10 ≤ n → n ≤ 100000010 → IntKind.i64.wrap n = n := fun n h1 h2 => wid (by omega) (by omega)
  refine Loop.by (α := Nat) (fun k => [(0, .hdl (.n 2000) 1), (2, tint (k : Int)), (3, tint ((l.length : Int) - 1 - k))]) (fun k => [(.n 2000, .bld 1 l.length 2 43 (vG (revL l k)))]) (fun k => 2 * k ≤ l.length) (fun k => l.length - 2 * k)
    (Adj.at 0 (by omega) (.cons (.bld (fun i hi j hj => SLe.of_eq (vG_eq ?_ j))) .nil) (.cons (.hdl rfl rfl) (.cons .same (.cons (SlotLe.int ?_) .nil)))) (fun k hk => ?_)
  · rw [revL_at _ _ _ hi, if_neg (by omega)]
  · rw [hw _ (by omega) (by omega)]; omega
  refine Split.mk (fun h => ?_) (fun h => ?_)
  · have hlt : (k : Int) < (l.length : Int) - 1 - k := by simpa using h
    refine Need.mk (by omega) ?_
    refine Need.mk (by omega) ?_
    refine Need.mk (by omega) ?_
    refine Need.mk (by omega) ?_
    refine Need.mk (by kernel_rfl) ?_
    refine Adj.back (x := k) (k + 1) (by omega) (by omega) (.cons (.bld (fun i hi j hj => ?_)) .nil) (.cons (.hdl rfl rfl) (.cons (SlotLe.int ?_) (.cons (SlotLe.int ?_) .nil)))
    · have e1 : ((l.length : Int) - 1 - k).toNat = l.length - 1 - k := by omega
      have e2 : ((k : Int)).toNat = k := by omega
      refine SLe.put (by exact hj) (fun e => SLe.vget hj ?_) (fun e => SLe.put (by exact hj) (fun e' => SLe.vget hj ?_) (fun e' => SLe.of_eq (vG_eq ?_ j)))
      · rw [e1] at e
        rw [e, e2, revL_at _ _ _ (by omega), revL_at _ _ _ (by omega), if_neg (by omega), if_pos (by omega)]
        congr 1; omega
      · rw [e2] at e'
        rw [e', e1, revL_at _ _ _ (by omega), revL_at _ _ _ (by omega), if_neg (by omega), if_pos (by omega)]
      · rw [e1] at e
        rw [e2] at e'
        rw [revL_at _ _ _ hi, revL_at _ _ _ hi]
        by_cases hc : i < k ∨ l.length - k ≤ i
        · rw [if_pos hc, if_pos (by omega)]
        · rw [if_neg hc, if_neg (by omega)]
    · rw [hw _ (by omega) (by omega)]; omega
    · rw [hw _ (by omega) (by omega)]; omega
  · have hge : ¬ (k : Int) < (l.length : Int) - 1 - k := by simpa using h
    refine EndM.mk ⟨.n 0, .none, .cons (.bld (fun h => h) (fun i hi j hj => SLe.of_eq (vG_eq ?_ j))) (.nil _), .inl rfl⟩
    rw [revL_at _ _ _ hi, getD_reverse _ _ hi]
    by_cases hc : i < k ∨ l.length - k ≤ i
    · rw [if_pos hc]
    · rw [if_neg hc]
      congr 1; omega


/-! ### Flatten -/
def shV (c v : V2) : V2 := addW v c
/-- The list whose k first ones are moved. -/
def shK (c : V2) (k : Nat) (l : List V2) : List V2 := (l.take k).map (shV c) ++ l.drop k
theorem shK_len (c : V2) (k : Nat) (l : List V2) : (shK c k l).length = l.length := by simp [shK]; omega
theorem shK_zero (c : V2) (l : List V2) : shK c 0 l = l := by simp [shK]
theorem shK_all (c : V2) (l : List V2) : shK c l.length l = l.map (shV c) := by simp [shK]
theorem shK_at (c : V2) (k : Nat) (l : List V2) (i : Nat) (hi : i < l.length) : (shK c k l).getD i ⟨0, 0⟩ = if i < k then shV c (l.getD i ⟨0, 0⟩) else l.getD i ⟨0, 0⟩ := by
  unfold shK
  by_cases h : i < k
  · rw [if_pos h]
    have h1 : i < ((l.take k).map (shV c)).length := by simp; omega
    rw [List.getD, List.getElem?_append_left h1, List.getD]
    simp [hi, h]
  · rw [if_neg h]
    have h1 : ¬ i < ((l.take k).map (shV c)).length := by simp; omega
    rw [List.getD, List.getElem?_append_right (by omega), List.getD]
    simp
    congr 2
    omega
def listA (a : Arc) (t : Int) : List V2 :=
  if a.cw = true then ((chainL (sqA a) t (vA a) (uA a)).map (shV a.c)).reverse else (chainL (sqA a) t (uA a) (vA a)).map (shV a.c)
def flatR (a : Arc) (t : Int) : List V2 × Int := if validA a = false then ([], 1) else if t < 1 ∨ t > 50 then ([], 2) else (listA a t, 0)
theorem chain_len {r : Int} (t : Int) {p q : V2} (hp : OnC r p) (hq : OnC r q) : (chainL r t p q).length ≤ 90000000 := by
  have key : ∀ (k n : Nat) (p : V2), OnC r p → Quarters p q k → k ≤ n → (chnF r t n p q).length ≤ (k + 1) * 16008002 := by
    intro k
    induction k with
    | zero =>
      intro n p hp h _
      have hf : farB p q = false := h.near
      rw [chnF_near hf, List.length_append, List.length_singleton]
      have := btw_le t (good_end hp hq hf)
      omega
    | succ k ih =>
      intro n p hp h hn
      obtain ⟨hf, h'⟩ := h.next
      cases n with
      | zero => omega
      | succ n =>
        rw [chnF, if_pos hf, List.length_append, List.length_cons]
        have := btw_le t (good_quarter hp)
        have := ih n (rotV p) hp.rot h' (by omega)
        omega
  obtain ⟨k, hk⟩ := quarters hp hq
  have h1 := hk.le
  have := key k 3 p hp hk h1
  have := Nat.mul_le_mul_right 16008002 (show k + 1 ≤ 4 by omega)
  rw [chainL, List.length_cons]
  omega
theorem listA_len {a : Arc} (t : Int) (h : validA a = true) : (listA a t).length ≤ 90000000 := by
  obtain ⟨_, hu, hv⟩ := valid_ok h
  unfold listA
  split
  · rw [List.length_reverse, List.length_map]; exact chain_len t hv hu
  · rw [List.length_map]; exact chain_len t hu hv
theorem flat_detR (a : Arc) (t : Int) : Det Try.prog 21 [arcD a, .one (i64 t)] (ringE (flatR a t).1 (flatR a t).2) := by
  refine det_of_awp TTok mixed Try.func21 rfl rfl [52 + 2000000, 54 + 2000000] (Nat.le_of_ble_eq_true rfl) ?_
  refine CallW.bool (valida_det a) (fun b hb => ?_)
  refine Split.mk (fun h => ?_) (fun h => ?_)
  · have hv : validA a = false := by rw [← hb]; simpa using h
    refine Fin.ringN ?_ ?_ <;> simp [flatR, hv]
  have hv : validA a = true := by rw [← hb]; simpa using h
  obtain ⟨ok, hu, hw⟩ := valid_ok hv
  refine Split.mk (fun h1 => ?_) (fun h1 => ?_)
  · repeat' first | refine Split.t ?_ | refine Split.f ?_ | fail
    have h1 := of_decide_eq_true h1
    refine Fin.ringN ?_ ?_ <;> simp [flatR, hv, h1]
  have h1 := of_decide_eq_false h1
  repeat' first | refine Split.t ?_ | refine Split.f ?_ | fail
  refine Split.mk (fun h2 => ?_) (fun h2 => ?_)
  · have h2 := of_decide_eq_true h2
    refine Fin.ringN ?_ ?_ <;> simp [flatR, hv, h2]
  have h2 := of_decide_eq_false h2
  have ef : flatR a t = (listA a t, 0) := by rw [flatR, if_neg (by rw [hv]; simp), if_neg (by omega)]
  rw [ef]
  refine CallW.mk' ((vsub_det a.f a.c).eq (by rw [ok.u.1])) ?_
  refine CallW.mk' ((vsub_det a.t a.c).eq (by rw [ok.v.1])) ?_
  refine Need.mk (by kernel_rfl) ?_
  have hw64 : ∀ n : Int, -1000000000 ≤ n → n ≤ 1000000000 → IntKind.i64.wrap n = n := fun n h1 h2 => wid (by omega) (by omega)
  refine Split.mk (fun h => ?pa) (fun h => ?pb)
  case' pa =>
    have eL : listA a t = ((chainL (sqA a) t (vA a) (uA a)).map (shV a.c)).reverse := by rw [listA, if_pos h]
    have hlen := chain_len t hw hu
    refine CallM.mk' [] (chain_detM (sqA a) t (vA a) (uA a) hw hu (by omega) (by omega)) ⟨.nil, .cons (.d (DLe.refl _)) (.cons (.d (DLe.refl _)) (.cons (.d (DLe.refl _)) .nil)), rfl, rfl, fun _ => rfl⟩ ?_
  case' pb =>
    have eL : listA a t = (chainL (sqA a) t (uA a) (vA a)).map (shV a.c) := by rw [listA, if_neg (by rw [h]; simp)]
    have hlen := chain_len t hu hw
    refine CallM.mk' [] (chain_detM (sqA a) t (uA a) (vA a) hu hw (by omega) (by omega)) ⟨.nil, .cons (.d (DLe.refl _)) (.cons (.d (DLe.refl _)) (.cons (.d (DLe.refl _)) .nil)), rfl, rfl, fun _ => rfl⟩ ?_
  all_goals
    revert eL hlen
    generalize chainL _ _ _ _ = l
    intro eL hlen
    refine Loop.by (α := Nat) (fun k => [(2, .ptr 2 0), (8, .hdl 36 0), (38, tint l.length), (39, tint k)]) (fun k => [(2, .box (arcL a)), (36, .bld 0 l.length 2 43 (vG (shK a.c k l)))]) (fun k => k ≤ l.length) (fun k => l.length - k)
      (Adj.at 0 (Nat.zero_le _) (.cons (.box (LLe.of_eq rfl)) (.cons (.bld (fun i hi j hj => SLe.of_eq (by rw [shK_zero]))) .nil)) (.cons (.box rfl rfl) (.cons (.hdl rfl rfl) (.cons .same (.cons .same .nil))))) (fun k hk => ?_)
    refine Split.mk (fun h2 => ?_) (fun h2 => ?_)
    · have hlt : k < l.length := by have := of_decide_eq_true h2; omega
      refine Need.mk (by omega) ?_
      refine CallW.v (padd_det _ _) (fun v hv => ?_)
      refine Need.mk (by omega) ?_
      refine Need.mk (by kernel_rfl) ?_
      have e2 : ((k : Int)).toNat = k := by omega
      rw [e2, shK_at _ _ _ _ hlt, if_neg (Nat.lt_irrefl k)] at hv
      refine Adj.back (x := k) (k + 1) (by omega) (by omega) (.cons (.box (LLe.of_eq rfl)) (.cons (.bld (fun i hi j hj => ?_)) .nil)) (.cons (.box rfl rfl) (.cons (.hdl rfl rfl) (.cons .same (.cons (SlotLe.int ?_) .nil))))
      · refine SLe.put (by exact hj) (fun e => SLe.vget hj ?_) (fun e => SLe.of_eq (vG_eq ?_ j))
        · rw [e2] at e
          rw [e, shK_at _ _ _ _ hlt, if_pos (Nat.lt_succ_self k), hv]; rfl
        · rw [e2] at e
          rw [shK_at _ _ _ _ hi, shK_at _ _ _ _ hi]
          by_cases hc : i < k
          · rw [if_pos hc, if_pos (by omega)]
          · rw [if_neg hc, if_neg (by omega)]
      · rw [hw64 _ (by omega) (by omega)]; omega
    have he : k = l.length := by have := of_decide_eq_false h2; omega
    subst he
    have e3 : ∀ i, vG (shK a.c l.length l) i = vG (l.map (shV a.c)) i := fun i => by rw [shK_all]
    refine Split.mk (fun h3 => ?_) (fun h3 => ?_)
    all_goals first | (rw [h] at h3; cases h3; done) | skip
  case pa.refine_2 =>
    refine CallM.mk' [36] (rev_detM (l.map (shV a.c)) (by rw [List.length_map]; omega)) ⟨.cons (mfitN' (by rw [List.length_map]) (fun _ _ _ _ => SLe.of_eq (by rw [shK_all]))) .nil, .cons (.hdl rfl rfl) .nil, rfl, rfl, fun h => absurd rfl h⟩ ?_
    exact Fin.tup (.cons (DLe.one (SLe.slN (by rw [eL]; simp) (fun _ _ _ _ => SLe.of_eq (by rw [eL]; rfl)))) (.cons (DLe.refl _) .nil))
  case pb.refine_2 =>
    exact Fin.tup (.cons (DLe.one (SLe.slN (by rw [eL]; simp) (fun _ _ _ _ => SLe.of_eq (by rw [eL, shK_all]; rfl)))) (.cons (DLe.refl _) .nil))
end Sg
end Go.Vm
