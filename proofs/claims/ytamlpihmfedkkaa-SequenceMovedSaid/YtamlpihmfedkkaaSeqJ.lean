/-
  Layer 47: the order, in plain words; Ready.
  Layer 47: something is ready as long as something is left; the order of the program.
-/
import Derived.Test.YtamlpihmfedkkaaSeqH
namespace Go.Vm
set_option maxRecDepth 20000
set_option linter.unusedVariables false
set_option linter.unusedSimpArgs false
open Go Go.RowKit Go.Proofs
namespace Sg

/-! ### the first of the least -/
def aminF (f : Int → Int) (b x : Int) : Int := if f x < f b then x else b
def amin (f : Int → Int) : List Int → Int
  | [] => -1
  | x :: r => r.foldl (aminF f) x
theorem amin_app (f : Int → Int) {L : List Int} (h : L ≠ []) (x : Int) : amin f (L ++ [x]) = aminF f (amin f L) x := by
  cases L with
  | nil => exact absurd rfl h
  | cons a r => simp [amin, List.foldl_append]
theorem amin_one (f : Int → Int) (x : Int) : amin f [x] = x := rfl
theorem foldl_mem (f : Int → Int) : ∀ (r : List Int) (x : Int), r.foldl (aminF f) x = x ∨ r.foldl (aminF f) x ∈ r
  | [], _ => .inl rfl
  | y :: r, x => by
    rw [List.foldl_cons]
    rcases foldl_mem f r (aminF f x y) with h | h
    · rw [h, aminF]
      split
      · exact .inr (List.mem_cons_self ..)
      · exact .inl rfl
    · exact .inr (List.mem_cons_of_mem _ h)
theorem amin_mem (f : Int → Int) {L : List Int} (h : L ≠ []) : amin f L ∈ L := by
  cases L with
  | nil => exact absurd rfl h
  | cons a r =>
    rcases foldl_mem f r a with h | h
    · rw [amin, h]; exact List.mem_cons_self ..
    · exact List.mem_cons_of_mem _ h
/-! ### what is ready -/
def readyB (l : List Ct) (o : List Int) (i : Nat) : Bool := !decide ((i : Int) ∈ o) && depIn l i o
def readyK (l : List Ct) (o : List Int) : Nat → List Int
  | 0 => []
  | k + 1 => if readyB l o k = true then readyK l o k ++ [(k : Int)] else readyK l o k
theorem readyK_len (l : List Ct) (o : List Int) : ∀ k, (readyK l o k).length ≤ k
  | 0 => Nat.le_refl _
  | k + 1 => by
    have := readyK_len l o k
    simp only [readyK]
    split
    · simp; omega
    · omega
theorem readyK_mem (l : List Ct) (o : List Int) : ∀ (k : Nat) (x : Int), x ∈ readyK l o k ↔ 0 ≤ x ∧ x < k ∧ readyB l o x.toNat = true
  | 0, x => by simp [readyK]; omega
  | k + 1, x => by
    have ih := readyK_mem l o k x
    simp only [readyK]
    split
    · rename_i h
      rw [List.mem_append, List.mem_singleton, ih]
      constructor
      · rintro (⟨h1, h2, h3⟩ | rfl)
        · exact ⟨h1, by omega, h3⟩
        · exact ⟨by omega, by omega, by rwa [Int.toNat_natCast]⟩
      · rintro ⟨h1, h2, h3⟩
        by_cases e : x = k
        · exact .inr e
        · exact .inl ⟨h1, by omega, h3⟩
    · rename_i h
      rw [ih]
      constructor
      · rintro ⟨h1, h2, h3⟩; exact ⟨h1, by omega, h3⟩
      · rintro ⟨h1, h2, h3⟩
        by_cases e : x = k
        · subst e
          rw [Int.toNat_natCast] at h3
          exact absurd h3 h
        · exact ⟨h1, by omega, h3⟩
theorem ready_det (l : List Ct) (o : List Int) (hl : l.length ≤ 10000) (ho : o.length ≤ 10000) (hf : FewC l) (h0 : chkI l = 0) : Det Try.prog 37 [.one (ctS l), .one (ilS o)] (.d (.one (ilS (readyK l o l.length)))) := by
  refine det_of_awp TTok mixed Try.func37 rfl rfl [] (Nat.le_of_ble_eq_true rfl) ?_
  refine CallW.mk' (rdepends_det l hl hf) ?_
  rw [depT, if_neg (by simp [h0])]
  have hl2 := chk_len h0
  have hdl : (depL l).length = l.length := by simp [depL]
  refine Loop.by (α := Nat) (fun k => [(0, .d (.one (ctS l))), (1, .d (.one (ilS o))), (5, .d (.one (illS (depL l)))), (7, .hdl 51 0), (8, tint k)]) (fun k => [(51, .bld 0 (readyK l o k).length 1 3 (iG (readyK l o k)))]) (fun k => k ≤ l.length) (fun k => l.length - k)
    (Adj.nil 7 51 1 3 (iG (readyK l o 0)) rfl rfl (Adj.at 0 (Nat.zero_le _) (.cons (.bld (fun _ h => absurd h (Nat.not_lt_zero _))) .nil) (.cons .same (.cons .same (.cons .same (.cons (.hdl rfl rfl) (.cons .same .nil))))))) (fun k hk => ?_)
  refine Split.mk (fun h => ?_) (fun h => ?_)
  · have hlt : k < l.length := by have := of_decide_eq_true h; omega
    have hR := readyK_len l o k
    refine CallW.bool (contains_det o k ho) (fun c hc => ?_)
    have hdat : (depL l).getD k [] = depK l k l.length := depL_at l hlt
    have hlen := depK_len l k l.length
    have hs : ∃ d, d = depK l k l.length := ⟨_, rfl⟩
    obtain ⟨d, hd⟩ := hs
    rw [← hd] at hdat hlen
    have hrB : readyB l o k = (!c && d.all fun j => decide (j ∈ o)) := by rw [readyB, depIn, ← hd, hc]
    refine Loop.by (α := Nat) (fun q => [(0, .d (.one (ctS l))), (1, .d (.one (ilS o))), (5, .d (.one (illS (depL l)))), (7, .hdl 51 0), (8, tint k), (9, tbool (!c && allB q fun i => decide (iGet d i ∈ o))), (10, tint q)]) (fun _ => [(51, .bld 0 (readyK l o k).length 1 3 (iG (readyK l o k)))]) (fun q => q ≤ d.length) (fun q => d.length - q)
      (Adj.at 0 (Nat.zero_le _) (.cons (.bld (fun _ _ _ _ => SLe.refl _)) .nil) (.cons .same (.cons .same (.cons .same (.cons (.hdl rfl rfl) (.cons .same (.cons (SlotLe.bool ?_) (.cons .same .nil)))))))) (fun q hq => ?_)
    · show (!c) = (!c && true)
      rw [Bool.and_true]
    refine Need.mk ⟨by omega, by rw [hdl]; omega⟩ ?_
    refine Split.mk (fun h4 => ?_) (fun h4 => ?_)
    · have hql : q < d.length := by
        have h4' : (q : Int) < ((depL l).getD k []).length := of_decide_eq_true h4
        rw [hdat] at h4'; omega
      have hbn : (q : Int) < ((depL l).getD k []).length := by rw [hdat]; omega
      have hA : ∃ a, a = (!c && allB q fun i => decide (iGet d i ∈ o)) := ⟨_, rfl⟩
      have hA2 : (!c && allB (q + 1) fun i => decide (iGet d i ∈ o)) = ((!c && allB q fun i => decide (iGet d i ∈ o)) && decide (iGet d q ∈ o)) := by
        unfold allB
        rw [List.range_succ, List.all_append]
        simp [Bool.and_assoc]
      obtain ⟨a, hA⟩ := hA
      rw [← hA] at hA2 ⊢
      refine Split.mk (fun h5 => ?_) (fun h5 => ?_)
      · repeat' first | refine Split.t ?_ | refine Split.f ?_ | refine Split.isT h5 ?_ | fail
        refine Need.mk ⟨by omega, by rw [hdl]; omega⟩ ?_
        repeat' first | refine Split.t ?_ | refine Split.f ?_ | refine Split.isT h5 ?_ | fail
        refine Need.mk ⟨by omega, hbn⟩ ?_
        repeat' first | refine Split.t ?_ | refine Split.f ?_ | refine Split.isT h5 ?_ | fail
        refine CallW.le (contains_det o (iGet d q) ho) (.cons (DLe.refl _) (.cons (DLe.of_eq (by rw [← hdat]; rfl)) .nil)) ?_
        repeat' first | refine Split.isT h5 ?_ | refine Split.t ?_ | fail
        refine Adj.back (x := q) (q + 1) (by omega) (by omega) (.cons (.bld (fun _ _ _ _ => SLe.refl _)) .nil) (.cons .same (.cons .same (.cons .same (.cons (.hdl rfl rfl) (.cons .same (.cons (SlotLe.bool ?_) (.cons (SlotLe.int ?_) .nil)))))))
        · rw [hA2, h5]; rfl
        · rw [hw _ (by omega) (by omega)]; omega
      · repeat' first | refine Split.t ?_ | refine Split.f ?_ | refine Split.isF h5 ?_ | fail
        refine Adj.back (x := q) (q + 1) (by omega) (by omega) (.cons (.bld (fun _ _ _ _ => SLe.refl _)) .nil) (.cons .same (.cons .same (.cons .same (.cons (.hdl rfl rfl) (.cons .same (.cons (SlotLe.bool ?_) (.cons (SlotLe.int ?_) .nil)))))))
        · rw [hA2, h5]; rfl
        · rw [hw _ (by omega) (by omega)]; omega
    · have hql : q = d.length := by
        have h4' : ¬ (q : Int) < ((depL l).getD k []).length := of_decide_eq_false h4
        rw [hdat] at h4'; omega
      subst hql
      have hA : ∃ a, a = (!c && allB d.length fun i => decide (iGet d i ∈ o)) := ⟨_, rfl⟩
      obtain ⟨a, hA⟩ := hA
      rw [← hA]
      rw [allB_iGet d (fun x => decide (x ∈ o)), ← hrB] at hA
      refine Split.mk (fun h5 => ?_) (fun h5 => ?_)
      · have e : readyK l o (k + 1) = readyK l o k ++ [(k : Int)] := by rw [readyK, if_pos (by rw [← hA]; exact h5)]
        refine Need.mk (needApp (by omega) (by decide)) ?_
        refine Adj.back (x := k) (k + 1) (by omega) (by omega) (.cons (.bldN (by rw [e, List.length_append]; rfl) (fun p hp j hj => ?_)) .nil) (.cons .same (.cons .same (.cons .same (.cons (.hdl rfl rfl) (.cons (SlotLe.int ?_) .nil)))))
        · rw [e]; exact iG_at _ _ k p j rfl hp hj
        · rw [hw _ (by omega) (by omega)]; omega
      · have e : readyK l o (k + 1) = readyK l o k := by rw [readyK, if_neg (by rw [← hA, h5]; simp)]
        refine Adj.back (x := k) (k + 1) (by omega) (by omega) (.cons (.bldN (by rw [e]) (fun p hp j hj => SLe.of_eq (by rw [e]))) .nil) (.cons .same (.cons .same (.cons .same (.cons (.hdl rfl rfl) (.cons (SlotLe.int ?_) .nil)))))
        rw [hw _ (by omega) (by omega)]; omega
  · have he : k = l.length := by have := of_decide_eq_false h; omega
    subst he
    exact Fin.one (SLe.refl _)
/-- The same, for an order that is being made: what comes back is new. -/
theorem ready_detM (l : List Ct) (o : List Int) (hl : l.length ≤ 10000) (ho : o.length ≤ 10000) (hf : FewC l) (h0 : chkI l = 0) : DetM Try.prog 37 [.d (.one (ctS l)), .hdl (.n 2000) 1] [.bld 1 o.length 1 3 (iG o)] (.hdl (.n 3000) 0) [.bld 1 o.length 1 3 (iG o)] (.bld 0 (readyK l o l.length).length 1 3 (iG (readyK l o l.length))) := by
  refine detM_of_awp TTok mixed Try.func37 rfl rfl [] (Nat.le_of_ble_eq_true rfl) (Nat.le_of_ble_eq_true rfl) (sigM_of rfl) ?_
  refine CallW.mk' (rdepends_det l hl hf) ?_
  rw [depT, if_neg (by simp [h0])]
  have hl2 := chk_len h0
  have hdl : (depL l).length = l.length := by simp [depL]
  refine Loop.by (α := Nat) (fun k => [(0, .d (.one (ctS l))), (1, .hdl (.n 2000) 1), (5, .d (.one (illS (depL l)))), (7, .hdl 51 0), (8, tint k)]) (fun k => [(.n 2000, .bld 1 o.length 1 3 (iG o)), (51, .bld 0 (readyK l o k).length 1 3 (iG (readyK l o k)))]) (fun k => k ≤ l.length) (fun k => l.length - k)
    (Adj.nil 7 51 1 3 (iG (readyK l o 0)) rfl rfl (Adj.at 0 (Nat.zero_le _) (.cons (.bld (fun _ _ _ _ => SLe.refl _)) (.cons (.bld (fun _ h => absurd h (Nat.not_lt_zero _))) .nil)) (.cons .same (.cons (.hdl rfl rfl) (.cons .same (.cons (.hdl rfl rfl) (.cons .same .nil))))))) (fun k hk => ?_)
  refine Split.mk (fun h => ?_) (fun h => ?_)
  · have hlt : k < l.length := by have := of_decide_eq_true h; omega
    have hR := readyK_len l o k
    refine CallW.bool (contains_det o k ho) (fun c hc => ?_)
    have hdat : (depL l).getD k [] = depK l k l.length := depL_at l hlt
    have hlen := depK_len l k l.length
    have hs : ∃ d, d = depK l k l.length := ⟨_, rfl⟩
    obtain ⟨d, hd⟩ := hs
    rw [← hd] at hdat hlen
    have hrB : readyB l o k = (!c && d.all fun j => decide (j ∈ o)) := by rw [readyB, depIn, ← hd, hc]
    refine Loop.by (α := Nat) (fun q => [(0, .d (.one (ctS l))), (1, .hdl (.n 2000) 1), (5, .d (.one (illS (depL l)))), (7, .hdl 51 0), (8, tint k), (9, tbool (!c && allB q fun i => decide (iGet d i ∈ o))), (10, tint q)]) (fun _ => [(.n 2000, .bld 1 o.length 1 3 (iG o)), (51, .bld 0 (readyK l o k).length 1 3 (iG (readyK l o k)))]) (fun q => q ≤ d.length) (fun q => d.length - q)
      (Adj.at 0 (Nat.zero_le _) (.cons (.bld (fun _ _ _ _ => SLe.refl _)) (.cons (.bld (fun _ _ _ _ => SLe.refl _)) .nil)) (.cons .same (.cons (.hdl rfl rfl) (.cons .same (.cons (.hdl rfl rfl) (.cons .same (.cons (SlotLe.bool ?_) (.cons .same .nil)))))))) (fun q hq => ?_)
    · show (!c) = (!c && true)
      rw [Bool.and_true]
    refine Need.mk ⟨by omega, by rw [hdl]; omega⟩ ?_
    refine Split.mk (fun h4 => ?_) (fun h4 => ?_)
    · have hql : q < d.length := by
        have h4' : (q : Int) < ((depL l).getD k []).length := of_decide_eq_true h4
        rw [hdat] at h4'; omega
      have hbn : (q : Int) < ((depL l).getD k []).length := by rw [hdat]; omega
      have hA : ∃ a, a = (!c && allB q fun i => decide (iGet d i ∈ o)) := ⟨_, rfl⟩
      have hA2 : (!c && allB (q + 1) fun i => decide (iGet d i ∈ o)) = ((!c && allB q fun i => decide (iGet d i ∈ o)) && decide (iGet d q ∈ o)) := by
        unfold allB
        rw [List.range_succ, List.all_append]
        simp [Bool.and_assoc]
      obtain ⟨a, hA⟩ := hA
      rw [← hA] at hA2 ⊢
      refine Split.mk (fun h5 => ?_) (fun h5 => ?_)
      · repeat' first | refine Split.t ?_ | refine Split.f ?_ | refine Split.isT h5 ?_ | fail
        refine Need.mk ⟨by omega, by rw [hdl]; omega⟩ ?_
        repeat' first | refine Split.t ?_ | refine Split.f ?_ | refine Split.isT h5 ?_ | fail
        refine Need.mk ⟨by omega, hbn⟩ ?_
        repeat' first | refine Split.t ?_ | refine Split.f ?_ | refine Split.isT h5 ?_ | fail
        refine CallW.le (contains_det o (iGet d q) ho) (.cons (DLe.refl _) (.cons (DLe.of_eq (by rw [← hdat]; rfl)) .nil)) ?_
        repeat' first | refine Split.isT h5 ?_ | refine Split.t ?_ | fail
        refine Adj.back (x := q) (q + 1) (by omega) (by omega) (.cons (.bld (fun _ _ _ _ => SLe.refl _)) (.cons (.bld (fun _ _ _ _ => SLe.refl _)) .nil)) (.cons .same (.cons (.hdl rfl rfl) (.cons .same (.cons (.hdl rfl rfl) (.cons .same (.cons (SlotLe.bool ?_) (.cons (SlotLe.int ?_) .nil)))))))
        · rw [hA2, h5]; rfl
        · rw [hw _ (by omega) (by omega)]; omega
      · repeat' first | refine Split.t ?_ | refine Split.f ?_ | refine Split.isF h5 ?_ | fail
        refine Adj.back (x := q) (q + 1) (by omega) (by omega) (.cons (.bld (fun _ _ _ _ => SLe.refl _)) (.cons (.bld (fun _ _ _ _ => SLe.refl _)) .nil)) (.cons .same (.cons (.hdl rfl rfl) (.cons .same (.cons (.hdl rfl rfl) (.cons .same (.cons (SlotLe.bool ?_) (.cons (SlotLe.int ?_) .nil)))))))
        · rw [hA2, h5]; rfl
        · rw [hw _ (by omega) (by omega)]; omega
    · have hql : q = d.length := by
        have h4' : ¬ (q : Int) < ((depL l).getD k []).length := of_decide_eq_false h4
        rw [hdat] at h4'; omega
      subst hql
      have hA : ∃ a, a = (!c && allB d.length fun i => decide (iGet d i ∈ o)) := ⟨_, rfl⟩
      obtain ⟨a, hA⟩ := hA
      rw [← hA]
      rw [allB_iGet d (fun x => decide (x ∈ o)), ← hrB] at hA
      refine Split.mk (fun h5 => ?_) (fun h5 => ?_)
      · have e : readyK l o (k + 1) = readyK l o k ++ [(k : Int)] := by rw [readyK, if_pos (by rw [← hA]; exact h5)]
        refine Need.mk (needApp (by omega) (by decide)) ?_
        refine Adj.back (x := k) (k + 1) (by omega) (by omega) (.cons (.bld (fun _ _ _ _ => SLe.refl _)) (.cons (.bldN (by rw [e, List.length_append]; rfl) (fun p hp j hj => ?_)) .nil)) (.cons .same (.cons (.hdl rfl rfl) (.cons .same (.cons (.hdl rfl rfl) (.cons (SlotLe.int ?_) .nil)))))
        · rw [e]; exact iG_at _ _ k p j rfl hp hj
        · rw [hw _ (by omega) (by omega)]; omega
      · have e : readyK l o (k + 1) = readyK l o k := by rw [readyK, if_neg (by rw [← hA, h5]; simp)]
        refine Adj.back (x := k) (k + 1) (by omega) (by omega) (.cons (.bld (fun _ _ _ _ => SLe.refl _)) (.cons (.bldN (by rw [e]) (fun p hp j hj => SLe.of_eq (by rw [e]))) .nil)) (.cons .same (.cons (.hdl rfl rfl) (.cons .same (.cons (.hdl rfl rfl) (.cons (SlotLe.int ?_) .nil)))))
        rw [hw _ (by omega) (by omega)]; omega
  · have he : k = l.length := by have := of_decide_eq_false h; omega
    subst he
    exact EndM.mk ⟨.n 51, .one (.hdl rfl rfl rfl), .cons (.bld (fun h => h) (fun _ _ _ _ => SLe.refl _)) (.nil _), .inr ⟨.bld (fun h => absurd h (by decide)) (fun _ _ _ _ => SLe.refl _), rfl⟩⟩
end Sg
end Go.Vm
namespace Go.Vm
set_option maxRecDepth 20000
set_option linter.unusedVariables false
set_option linter.unusedSimpArgs false
open Go Go.RowKit Go.Proofs
namespace Sg

theorem pigeon : ∀ (n : Nat) (o : List Int), (∀ i : Nat, i < n → (i : Int) ∈ o) → n ≤ o.length
  | 0, _, _ => Nat.zero_le _
  | n + 1, o, h => by
    have hn := h n (by omega)
    have := pigeon n (o.erase (n : Int)) (fun i hi => (List.mem_erase_of_ne (by omega)).2 (h i (by omega)))
    rw [List.length_erase_of_mem hn] at this
    have := List.length_pos_of_mem hn
    omega
theorem least_of (p : Nat → Prop) (key : Nat → Int) : ∀ n, (∃ i, i < n ∧ p i) → ∃ i, i < n ∧ p i ∧ ∀ j, j < n → p j → key i ≤ key j
  | 0, ⟨i, hi, _⟩ => absurd hi (Nat.not_lt_zero _)
  | n + 1, h => by
    by_cases hp : ∃ i, i < n ∧ p i
    · obtain ⟨i, hi, pi, hmin⟩ := least_of p key n hp
      by_cases hn : p n ∧ key n < key i
      · refine ⟨n, by omega, hn.1, fun j hj pj => ?_⟩
        by_cases e : j = n
        · rw [e]; exact Int.le_refl _
        · have := hmin j (by omega) pj; omega
      · refine ⟨i, by omega, pi, fun j hj pj => ?_⟩
        by_cases e : j = n
        · subst e
          by_cases q : key j < key i
          · exact absurd ⟨pj, q⟩ hn
          · omega
        · exact hmin j (by omega) pj
    · obtain ⟨i, hi, pi⟩ := h
      have e : i = n := by
        by_cases q : i < n
        · exact absurd ⟨i, q, pi⟩ hp
        · omega
      subst e
      refine ⟨i, by omega, pi, fun j hj pj => ?_⟩
      by_cases e : j = i
      · rw [e]; exact Int.le_refl _
      · exact absurd ⟨j, by omega, pj⟩ hp
/-- What grows from a contour to those that depend on it. -/
def keyC (c : Ct) : Int := 2 * area2R c.ring + if 0 ≤ c.hole then 1 else 0
theorem inC_key {d c : Ct} (h : inC d c = true) : keyC d < keyC c := by
  simp only [inC, Bool.and_eq_true, Bool.or_eq_true, decide_eq_true_eq] at h
  unfold keyC
  rcases h.2 with h | ⟨⟨h1, h2⟩, h3⟩
  · split <;> split <;> omega
  · rw [if_neg (by omega), if_pos h3]; omega
theorem mem_depK {l : List Ct} {i : Nat} : ∀ {k : Nat} {x : Int}, x ∈ depK l i k ↔ ∃ j : Nat, x = j ∧ j < k ∧ j ≠ i ∧ inC (ctGet l j) (ctGet l i) = true
  | 0, x => by simp [depK]
  | k + 1, x => by
    simp only [depK]
    split
    · rename_i h
      rw [List.mem_append, List.mem_singleton, mem_depK]
      constructor
      · rintro (⟨j, h1, h2, h3⟩ | rfl)
        · exact ⟨j, h1, by omega, h3⟩
        · exact ⟨k, rfl, by omega, h⟩
      · rintro ⟨j, h1, h2, h3⟩
        by_cases e : j = k
        · subst e; exact .inr h1
        · exact .inl ⟨j, h1, by omega, h3⟩
    · rename_i h
      rw [mem_depK]
      constructor
      · rintro ⟨j, h1, h2, h3⟩; exact ⟨j, h1, by omega, h3⟩
      · rintro ⟨j, h1, h2, h3⟩
        by_cases e : j = k
        · subst e; exact absurd h3 h
        · exact ⟨j, h1, by omega, h3⟩
theorem exists_ready (l : List Ct) (o : List Int) (h : o.length < l.length) : ∃ i, i < l.length ∧ readyB l o i = true := by
  have h1 : ∃ i : Nat, i < l.length ∧ ¬ (i : Int) ∈ o := Classical.byContradiction fun hn => by
    have := pigeon l.length o (fun i hi => Classical.byContradiction fun q => hn ⟨i, hi, q⟩)
    omega
  obtain ⟨i, hi, hio, hmin⟩ := least_of (fun i => ¬ (i : Int) ∈ o) (fun i => keyC (ctGet l i)) l.length h1
  refine ⟨i, hi, ?_⟩
  rw [readyB, decide_eq_false hio, depIn, Bool.not_false, Bool.true_and, List.all_eq_true]
  intro x hx
  obtain ⟨j, rfl, hj, hne, hin⟩ := mem_depK.1 hx
  refine decide_eq_true (Classical.byContradiction fun q => ?_)
  have := hmin j hj q
  have := inC_key hin
  omega
theorem ready_ne (l : List Ct) (o : List Int) (h : o.length < l.length) : readyK l o l.length ≠ [] := by
  obtain ⟨i, hi, hr⟩ := exists_ready l o h
  intro e
  have := (readyK_mem l o l.length i).2 ⟨by omega, by omega, by rwa [Int.toNat_natCast]⟩
  rw [e] at this
  cases this
/-! ### the order -/
def nowB (l : List Ct) (h : Int) (o : List Int) (x : Int) : Bool := decide (o.length = 0) || !decide (distV (stO l (iGet o (o.length - 1))) (stO l x) < h)
abbrev disO (l : List Ct) (head : V2) (x : Int) : Int := distV (stO l x) head
def pickL (R C : List Int) : List Int := if C = [] then R else C
def choO (l : List Ct) (h : Int) (o : List Int) (head : V2) : Int := amin (disO l head) (pickL (readyK l o l.length) ((readyK l o l.length).filter (nowB l h o)))
def ordO (l : List Ct) (h : Int) (first : V2) : Nat → List Int
  | 0 => []
  | k + 1 => ordO l h first k ++ [choO l h (ordO l h first k) (headO l (ordO l h first k) first k)]
theorem ordO_len (l : List Ct) (h : Int) (first : V2) : ∀ k, (ordO l h first k).length = k
  | 0 => rfl
  | k + 1 => by rw [ordO, List.length_append, ordO_len l h first k]; rfl
theorem pickL_sub {R : List Int} {B : Int → Bool} {x : Int} (h : x ∈ pickL R (R.filter B)) : x ∈ R := by
  unfold pickL at h
  split at h
  · exact h
  · exact (List.mem_filter.1 h).1
theorem pickL_ne {R C : List Int} (h : R ≠ []) : pickL R C ≠ [] := by
  unfold pickL
  split
  · exact h
  · assumption
theorem cho_in (l : List Ct) (h : Int) (o : List Int) (head : V2) (hlt : o.length < l.length) : choO l h o head ∈ readyK l o l.length := pickL_sub (amin_mem _ (pickL_ne (ready_ne l o hlt)))
theorem cho_range (l : List Ct) (h : Int) (o : List Int) (head : V2) (hlt : o.length < l.length) : 0 ≤ choO l h o head ∧ choO l h o head < l.length ∧ readyB l o (choO l h o head).toNat = true := (readyK_mem l o l.length _).1 (cho_in l h o head hlt)
theorem iGet_last (o : List Int) (x : Int) : iGet (o ++ [x]) o.length = x := by simp [iGet, List.getD]
theorem iGet_app {o s : List Int} {i : Nat} (h : i < o.length) : iGet (o ++ s) i = iGet o i := by simp [iGet, List.getD, List.getElem?_append_left h]
theorem ordO_at (l : List Ct) (h : Int) (first : V2) {k : Nat} : ∀ {n : Nat}, k < n → iGet (ordO l h first n) k = choO l h (ordO l h first k) (headO l (ordO l h first k) first k)
  | 0, hk => absurd hk (Nat.not_lt_zero _)
  | n + 1, hk => by
    by_cases e : k = n
    · subst e
      have := iGet_last (ordO l h first k) (choO l h (ordO l h first k) (headO l (ordO l h first k) first k))
      rw [ordO_len] at this
      rw [ordO]; exact this
    · rw [ordO, iGet_app (by rw [ordO_len]; omega), ordO_at l h first (n := n) (by omega)]
theorem ordO_take (l : List Ct) (h : Int) (first : V2) {k : Nat} : ∀ {n : Nat}, k ≤ n → (ordO l h first n).take k = ordO l h first k
  | 0, hk => by
    obtain rfl : k = 0 := by omega
    rfl
  | n + 1, hk => by
    by_cases e : k = n + 1
    · subst e
      exact List.take_of_length_le (by rw [ordO_len]; omega)
    · rw [ordO, List.take_append_of_le_length (by rw [ordO_len]; omega), ordO_take l h first (n := n) (by omega)]
theorem ordO_range (l : List Ct) (h : Int) (first : V2) {n k : Nat} (hn : n ≤ l.length) (hk : k < n) : 0 ≤ iGet (ordO l h first n) k ∧ iGet (ordO l h first n) k < l.length := by
  rw [ordO_at l h first hk]
  have := cho_range l h (ordO l h first k) (headO l (ordO l h first k) first k) (by rw [ordO_len]; omega)
  exact ⟨this.1, this.2.1⟩
theorem ord_step (l : List Ct) (h : Int) (first : V2) {n k : Nat} (hn : n ≤ l.length) (hk : k < n) : stepB l (ordO l h first n) k = true := by
  rw [stepB, ordO_at l h first hk, ordO_take l h first (by omega)]
  have := cho_range l h (ordO l h first k) (headO l (ordO l h first k) first k) (by rw [ordO_len]; omega)
  obtain ⟨h1, h2, h3⟩ := this
  generalize choO l h (ordO l h first k) (headO l (ordO l h first k) first k) = x at h1 h2 h3
  rw [decide_eq_true h1, decide_eq_true h2]
  rw [readyB, show ((x.toNat : Nat) : Int) = x by omega] at h3
  simpa using h3
def ordT (l : List Ct) (h : Int) (first : V2) : List Int × Int := if chkI l ≠ 0 then ([], chkI l) else if (withinV first 8000 && decide (0 ≤ h) && decide (h ≤ 8000)) = false then ([], 2) else (ordO l h first l.length, 0)
abbrev ordV (L : List Int) (e : Int) : TV := .tup [.one (ilS L), .one (i64 e)]
/-! ### the program's choice, contour by contour -/
def bestO (l : List Ct) (h : Int) (o : List Int) (head : V2) (k : Nat) : Int := if readyK l o k = [] then -1 else amin (disO l head) (pickL (readyK l o k) ((readyK l o k).filter (nowB l h o)))
def coolO (l : List Ct) (h : Int) (o : List Int) (k : Nat) : Bool := !decide ((readyK l o k).filter (nowB l h o) = [])
theorem bestO_neg {l : List Ct} {h : Int} {o : List Int} {head : V2} {k : Nat} : bestO l h o head k < 0 ↔ readyK l o k = [] := by
  unfold bestO
  split
  · rename_i e; exact ⟨fun _ => e, fun _ => by decide⟩
  · rename_i e
    refine ⟨fun q => ?_, fun q => absurd q e⟩
    have := (readyK_mem l o k _).1 (pickL_sub (amin_mem (disO l head) (pickL_ne (C := (readyK l o k).filter (nowB l h o)) e)))
    omega
theorem coolO_ready {l : List Ct} {h : Int} {o : List Int} {k : Nat} (hc : coolO l h o k = true) : readyK l o k ≠ [] := by
  intro e
  rw [coolO, e] at hc
  simp at hc
theorem bestO_skip {l : List Ct} {h : Int} {o : List Int} {head : V2} {k : Nat} (hr : readyB l o k = false) : bestO l h o head (k + 1) = bestO l h o head k ∧ coolO l h o (k + 1) = coolO l h o k := by
  have e : readyK l o (k + 1) = readyK l o k := by rw [readyK, if_neg (by rw [hr]; simp)]
  rw [bestO, bestO, coolO, coolO, e]
  exact ⟨rfl, rfl⟩
/-- The contour is passed over: it is hot, and a cool one is known. -/
theorem bestO_pass {l : List Ct} {h : Int} {o : List Int} {head : V2} {k : Nat} (hr : readyB l o k = true) (hc : coolO l h o k = true) (hn : nowB l h o k = false) : bestO l h o head (k + 1) = bestO l h o head k ∧ coolO l h o (k + 1) = coolO l h o k := by
  have e : readyK l o (k + 1) = readyK l o k ++ [(k : Int)] := by rw [readyK, if_pos hr]
  have ef : (readyK l o (k + 1)).filter (nowB l h o) = (readyK l o k).filter (nowB l h o) := by rw [e, List.filter_append]; simp [hn]
  have hR := coolO_ready hc
  have hC : (readyK l o k).filter (nowB l h o) ≠ [] := by simpa [coolO] using hc
  refine ⟨?_, ?_⟩
  · rw [bestO, bestO, ef, if_neg (by rw [e]; simp), if_neg hR, pickL, pickL, if_neg hC, if_neg hC]
  · rw [coolO, coolO, ef]
/-- The contour is taken: the first one, or the first cool one. -/
theorem bestO_take {l : List Ct} {h : Int} {o : List Int} {head : V2} {k : Nat} (hr : readyB l o k = true) (hb : bestO l h o head k < 0 ∨ (nowB l h o k = true ∧ coolO l h o k = false)) : bestO l h o head (k + 1) = k ∧ coolO l h o (k + 1) = nowB l h o k := by
  have e : readyK l o (k + 1) = readyK l o k ++ [(k : Int)] := by rw [readyK, if_pos hr]
  have hC : (readyK l o k).filter (nowB l h o) = [] := by
    rcases hb with hb | hb
    · rw [bestO_neg.1 hb]; rfl
    · simpa [coolO] using hb.2
  have ef : (readyK l o (k + 1)).filter (nowB l h o) = if nowB l h o k = true then [(k : Int)] else [] := by
    rw [e, List.filter_append, hC]
    by_cases hn : nowB l h o k = true
    · simp [hn]
    · simp [hn]
  cases hn : nowB l h o k with
  | true =>
    rw [hn] at ef
    refine ⟨?_, by rw [coolO, ef]; simp⟩
    rw [bestO, if_neg (by rw [e]; simp), ef, pickL, if_neg (by simp)]
    rfl
  | false =>
    rw [hn] at ef
    have hR : readyK l o k = [] := by
      rcases hb with hb | hb
      · exact bestO_neg.1 hb
      · rw [hn] at hb; cases hb.1
    refine ⟨?_, by rw [coolO, ef]; simp⟩
    rw [bestO, if_neg (by rw [e]; simp), ef, pickL, if_pos (by simp), e, hR]
    rfl
/-- The contour is as cool as the best one: the nearer one counts. -/
theorem bestO_near {l : List Ct} {h : Int} {o : List Int} {head : V2} {k : Nat} (hr : readyB l o k = true) (hb : ¬ bestO l h o head k < 0) (hn : nowB l h o k = coolO l h o k) : bestO l h o head (k + 1) = (if disO l head k < disO l head (bestO l h o head k) then (k : Int) else bestO l h o head k) ∧ coolO l h o (k + 1) = nowB l h o k := by
  have e : readyK l o (k + 1) = readyK l o k ++ [(k : Int)] := by rw [readyK, if_pos hr]
  have hR : readyK l o k ≠ [] := fun q => hb (bestO_neg.2 q)
  cases hc : coolO l h o k with
  | true =>
    rw [hc] at hn
    have hC : (readyK l o k).filter (nowB l h o) ≠ [] := by simpa [coolO] using hc
    have ef : (readyK l o (k + 1)).filter (nowB l h o) = (readyK l o k).filter (nowB l h o) ++ [(k : Int)] := by rw [e, List.filter_append]; simp [hn]
    refine ⟨?_, by rw [coolO, ef, hn]; simp⟩
    rw [bestO, if_neg (by rw [e]; simp), ef, pickL, if_neg (by simp), amin_app _ hC, bestO, if_neg hR, pickL, if_neg hC]
    rfl
  | false =>
    rw [hc] at hn
    have hC : (readyK l o k).filter (nowB l h o) = [] := by simpa [coolO] using hc
    have ef : (readyK l o (k + 1)).filter (nowB l h o) = [] := by rw [e, List.filter_append, hC]; simp [hn]
    refine ⟨?_, by rw [coolO, ef, hn]; simp⟩
    rw [bestO, if_neg (by rw [e]; simp), ef, pickL, if_pos rfl, e, amin_app _ hR, bestO, if_neg hR, pickL, if_pos hC]
    rfl
theorem bestO_all (l : List Ct) (h : Int) (o : List Int) (head : V2) (hlt : o.length < l.length) : bestO l h o head l.length = choO l h o head := by rw [bestO, if_neg (ready_ne l o hlt)]; rfl
theorem bestO_range {l : List Ct} {h : Int} {o : List Int} {head : V2} {k : Nat} (hb : ¬ bestO l h o head k < 0) : 0 ≤ bestO l h o head k ∧ bestO l h o head k < k := by
  have hR : readyK l o k ≠ [] := fun q => hb (bestO_neg.2 q)
  have := (readyK_mem l o k _).1 (pickL_sub (amin_mem (disO l head) (pickL_ne (C := (readyK l o k).filter (nowB l h o)) hR)))
  rw [bestO, if_neg hR]
  exact ⟨this.1, this.2.1⟩
end Sg
end Go.Vm
