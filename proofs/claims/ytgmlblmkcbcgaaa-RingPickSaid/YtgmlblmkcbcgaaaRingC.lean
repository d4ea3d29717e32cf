/-
  Layer 8: contracts of Edges and Valid.
-/
import Derived.Test.YtgmlblmkcbcgaaaRingB
namespace Go.Vm
set_option maxRecDepth 20000
set_option linter.unusedVariables false
set_option linter.unusedSimpArgs false
open Go Go.RowKit Go.Proofs
namespace Sg

theorem edges_at {l : List V2} (h : ¬ l.length < 2) (i : Nat) (hi : i < l.length) : sGet (edgesL l) i = edge l i := by
  simp [edgesL, h, sGet, List.getD, hi]
theorem edges_len {l : List V2} (h : ¬ l.length < 2) : (edgesL l).length = l.length := by simp [edgesL, h]
/-- The element behind the k first ones. -/
theorem sG_app (E : List Seg) (s : Seg) (k i j : Nat) (hi : i < k + 1) (hj : j < 4) (hs : s = sGet E k) : SLe (bif Nat.blt i k then sG E i j else (sL s).getD ((i - k) * 4 + j) (.v Go.undef)) (sG E i j) := by
  refine SLe.bif (fun _ => SLe.refl _) (fun h => ?_)
  have e : i = k := by omega
  subst e
  subst hs
  rw [Nat.sub_self, Nat.zero_mul, Nat.zero_add]
  match j, hj with
  | 0, _ => exact SLe.refl _
  | 1, _ => exact SLe.refl _
  | 2, _ => exact SLe.refl _
  | 3, _ => exact SLe.refl _

theorem edges_det (l : List V2) (hl : l.length ≤ 40000) : Det Try.prog 30 [.one (vlS l)] (.d (.one (slS (edgesL l)))) := by
  refine det_of_awp TTok mixed Try.func30 rfl rfl [] (Nat.le_of_ble_eq_true rfl) ?_
  refine Split.mk (fun h => ?_) (fun h => ?_)
  · have hlt : l.length < 2 := by have := of_decide_eq_true h; omega
    refine Fin.one ?_
    rw [show edgesL l = [] by simp [edgesL, hlt]]
    exact SLe.nil _ _
  have hge : ¬ l.length < 2 := by have := of_decide_eq_false h; omega
  refine Loop.by (α := Nat) (fun k => [(0, .d (.one (vlS l))), (9, .d (.one (vlS l))), (10, tint l.length), (11, tint k), (3, .hdl 23 0)]) (fun k => [(23, .bld 0 k 4 47 (sG (edgesL l)))]) (fun k => k ≤ l.length) (fun k => l.length - k)
    (Adj.nil 3 23 4 47 (sG (edgesL l)) rfl rfl (Adj.at 0 (Nat.zero_le _) (.cons (.bld (fun _ h => absurd h (Nat.not_lt_zero _))) .nil) (.cons .same (.cons .same (.cons .same (.cons .same (.cons (.hdl rfl rfl) .nil))))))) (fun k hk => ?_)
  refine Split.mk (fun h => ?_) (fun h => ?_)
  · have hlt : k < l.length := by simpa using h
    refine Need.mk (by omega) ?_
    refine CallW.v (next_det l k hlt hl) (fun v hv => ?_)
    refine Need.mk (needApp (by omega) (by decide)) ?_
    refine Need.mk (by kernel_rfl) ?_
    refine Adj.back (x := k) (k + 1) (by omega) (by omega) (.cons (.bld (fun i hi j hj => sG_app (edgesL l) ⟨gt l k, v⟩ k i j hi hj ?_)) .nil) (.cons .same (.cons .same (.cons .same (.cons (SlotLe.int ?_) (.cons (.hdl rfl rfl) .nil)))))
    · rw [edges_at hge k hlt, hv]; rfl
    · rw [hw _ (by omega) (by omega)]; omega
  · have he : k = l.length := by
      have : ¬ k < l.length := by simpa using h
      omega
    refine Fin.one ?_
    refine SLe.slN (by rw [edges_len hge, he]) (fun i hi j hj => SLe.refl _)
theorem redges_det (l : List V2) (hl : l.length ≤ 40000) : Det Try.prog 57 [.one (vlS l)] (.d (.one (slS (edgesL l)))) := by
  refine det_of_awp TTok mixed Try.func57 rfl rfl [] (Nat.le_of_ble_eq_true rfl) ?_
  refine Split.mk (fun h => ?_) (fun h => ?_)
  · have hlt : l.length < 2 := by have := of_decide_eq_true h; omega
    refine Fin.one ?_
    rw [show edgesL l = [] by simp [edgesL, hlt]]
    exact SLe.nil _ _
  have hge : ¬ l.length < 2 := by have := of_decide_eq_false h; omega
  refine Loop.by (α := Nat) (fun k => [(0, .d (.one (vlS l))), (4, tint k), (3, .hdl 29 0)]) (fun k => [(29, .bld 0 k 4 47 (sG (edgesL l)))]) (fun k => k ≤ l.length) (fun k => l.length - k)
    (Adj.nil 3 29 4 47 (sG (edgesL l)) rfl rfl (Adj.at 0 (Nat.zero_le _) (.cons (.bld (fun _ h => absurd h (Nat.not_lt_zero _))) .nil) (.cons .same (.cons .same (.cons (.hdl rfl rfl) .nil))))) (fun k hk => ?_)
  refine Split.mk (fun h => ?_) (fun h => ?_)
  · have hlt : k < l.length := by simpa using h
    have e := natw k 1 (by omega) (by omega)
    have hb := tmodB (k + 1) l.length (by omega)
    refine Need.mk (by omega) ?_
    refine Need.mk (by omega) ?_
    refine Need.mk (by rw [show (1 : Int) = (1 : Nat) from rfl, e]; exact hb) ?_
    refine Need.mk (needApp (by omega) (by decide)) ?_
    refine Need.mk (by kernel_rfl) ?_
    refine Adj.back (x := k) (k + 1) (by omega) (by omega) (.cons (.bld (fun i hi j hj => sG_app (edgesL l) ⟨gt l k, gt l (Int.toNat ((IntKind.i64.wrap ((k : Int) + (1 : Nat))).tmod l.length))⟩ k i j hi hj ?_)) .nil) (.cons .same (.cons (SlotLe.int ?_) (.cons (.hdl rfl rfl) .nil)))
    · rw [edges_at hge k hlt, e, tmodN]; rfl
    · rw [hw _ (by omega) (by omega)]; omega
  · have he : k = l.length := by
      have : ¬ k < l.length := by simpa using h
      omega
    refine Fin.one ?_
    refine SLe.slN (by rw [edges_len hge, he]) (fun i hi j hj => SLe.refl _)

/-! ### Valid -/
def allB (n : Nat) (f : Nat → Bool) : Bool := (List.range n).all f
theorem allB_iff {n : Nat} {f : Nat → Bool} : allB n f = true ↔ ∀ i, i < n → f i = true := by simp [allB]
theorem allB_false {n : Nat} {f : Nat → Bool} (i : Nat) (hi : i < n) (h : f i = false) : allB n f = false := by
  cases hc : allB n f with
  | false => rfl
  | true => rw [allB_iff.1 hc i hi] at h; cases h
def adjB (n i k : Nat) : Bool := decide (k = i + 1) || (decide (i = 0) && decide (k = n - 1))
def strictB (l : List V2) : Bool := allB l.length fun i => decide (turnW (lst l i) (gt l i) (nxt l i) ≠ 0)
def apartR (l : List V2) : Bool := allB l.length fun i => allB l.length fun k => decide (k ≤ i) || adjB l.length i k || decide ((meetC (edge l i) (edge l k)).kind = 0)
def headB (l : List V2) : Bool := decide (3 ≤ l.length) && decide (l.length ≤ 40) && nearR l
def validR (l : List V2) : Bool := headB l && decide (0 < areaW l) && strictB l && apartR l

/-- What is left of a pair's test at the pair (i, k). -/
def pairB (l : List V2) (i k : Nat) : Bool := decide (k ≤ i) || adjB l.length i k || decide ((meetC (edge l i) (edge l k)).kind = 0)

theorem valid_det' (l : List V2) (hl : l.length ≤ 40000) : Det Try.prog 29 [.one (vlS l)] (tbool (validR l)) := by
  refine det_of_awp TTok mixed Try.func29 rfl rfl [] (Nat.le_of_ble_eq_true rfl) ?_
  refine Split.mk (fun h => ?_) (fun h => ?_)
  · have h3 : l.length < 3 := by have := of_decide_eq_true h; omega
    repeat' first | refine Split.t ?_ | refine Split.f ?_ | fail
    refine Fin.bool ?_
    simp [validR, headB, show ¬ 3 ≤ l.length by omega]
  have h3 : 3 ≤ l.length := by have := of_decide_eq_false h; omega
  repeat' first | refine Split.t ?_ | refine Split.f ?_ | fail
  refine Split.mk (fun h => ?_) (fun h => ?_)
  · have h40 : ¬ l.length ≤ 40 := by have := of_decide_eq_true h; omega
    repeat' first | refine Split.t ?_ | refine Split.f ?_ | fail
    refine Fin.bool ?_
    simp [validR, headB, h40]
  have h40 : l.length ≤ 40 := by have := of_decide_eq_false h; omega
  repeat' first | refine Split.t ?_ | refine Split.f ?_ | fail
  refine CallW.bool (nearl_det l hl) (fun b hb => ?_)
  repeat' first | refine Split.t ?_ | refine Split.f ?_ | fail
  refine Split.mk (fun h => ?_) (fun h => ?_)
  · have hn : nearR l = false := by rw [← hb]; simpa using h
    repeat' first | refine Split.t ?_ | refine Split.f ?_ | fail
    refine Fin.bool ?_
    simp [validR, headB, hn]
  have hn : nearR l = true := by rw [← hb]; simpa using h
  repeat' first | refine Split.t ?_ | refine Split.f ?_ | fail
  refine CallW.int (area_det l hl) (fun a ha => ?_)
  repeat' first | refine Split.t ?_ | refine Split.f ?_ | fail
  refine Split.mk (fun h => ?_) (fun h => ?_)
  · have h0 : ¬ 0 < areaW l := by have := of_decide_eq_true h; omega
    refine Fin.bool ?_
    simp [validR, h0]
  have h0 : 0 < areaW l := by have := of_decide_eq_false h; omega
  have hv : validR l = (strictB l && apartR l) := by simp [validR, headB, h3, h40, hn, h0]
  rw [hv]
  refine Loop.by (α := Nat) (fun k => [(0, .d (.one (vlS l))), (3, tint l.length), (27, .d (.one (vlS l))), (28, tint l.length), (29, tint k)]) (fun _ => []) (fun k => k ≤ l.length ∧ ∀ i, i < k → turnW (lst l i) (gt l i) (nxt l i) ≠ 0) (fun k => l.length - k)
    (Adj.at 0 ⟨Nat.zero_le _, fun _ h => absurd h (Nat.not_lt_zero _)⟩ .nil (.cons .same (.cons .same (.cons .same (.cons .same (.cons .same .nil)))))) (fun k hk => ?_)
  obtain ⟨hk, hall⟩ := hk
  refine Split.mk (fun h => ?_) (fun h => ?_)
  · have hlt : k < l.length := by have := of_decide_eq_true h; omega
    refine Need.mk (by omega) ?_
    refine CallW.v (last_det l k hlt hl) (fun u hu => ?_)
    refine CallW.v (next_det l k hlt hl) (fun v hv => ?_)
    refine CallW.int (vturn_det u (gt l k) v) (fun c hc => ?_)
    refine Need.mk (by kernel_rfl) ?_
    refine Split.mk (fun h1 => ?_) (fun h1 => ?_)
    · refine Fin.bool ?_
      have hz : turnW (lst l k) (gt l k) (nxt l k) = 0 := by rw [← hu, ← hv, ← hc]; simpa using h1
      rw [strictB, allB_false k hlt (by rw [hz]; rfl), Bool.false_and]
    · refine Adj.back (x := k) (k + 1) ⟨by omega, fun i hi => ?_⟩ (by omega) .nil (.cons .same (.cons .same (.cons .same (.cons .same (.cons (SlotLe.int ?_) .nil)))))
      · rcases Nat.lt_succ_iff_lt_or_eq.1 hi with hi | rfl
        · exact hall i hi
        · rw [← hu, ← hv, ← hc]; simpa using h1
      · rw [hw _ (by omega) (by omega)]; omega
  have he : k = l.length := by have := of_decide_eq_false h; omega
  subst he
  have hs : strictB l = true := allB_iff.2 (fun i hi => by simpa using hall i hi)
  rw [hs, Bool.true_and]
  refine CallW.mk' (edges_det l hl) ?_
  have hge : ¬ l.length < 2 := by omega
  have hel := edges_len hge
  refine Loop.by (α := Nat) (fun k => [(3, tint l.length), (6, .d (.one (slS (edgesL l)))), (46, tint l.length), (47, tint k)]) (fun _ => []) (fun k => k ≤ l.length ∧ ∀ i, i < k → ∀ j, j < l.length → pairB l i j = true) (fun k => l.length - k)
    (Adj.at 0 ⟨Nat.zero_le _, fun _ h => absurd h (Nat.not_lt_zero _)⟩ .nil (.cons .same (.cons .same (.cons .same (.cons .same .nil))))) (fun k hk => ?_)
  obtain ⟨hk, hpk⟩ := hk
  refine Split.mk (fun h => ?_) (fun h => ?_)
  · have hlt : k < l.length := by have := of_decide_eq_true h; omega
    have e1 : IntKind.i64.wrap ((k : Int) + 1) = ((k + 1 : Nat) : Int) := natw k 1 (by omega) (by omega)
    refine Loop.by (α := Nat) (fun q => [(3, tint l.length), (6, .d (.one (slS (edgesL l)))), (46, tint l.length), (47, tint k), (7, tint k), (8, tint q)]) (fun _ => []) (fun q => k < q ∧ q ≤ l.length ∧ ∀ j, j < q → pairB l k j = true) (fun q => l.length - q)
      (Adj.at (k + 1) ⟨by omega, by omega, fun j hj => by simp [pairB, show j ≤ k by omega]⟩ .nil (.cons .same (.cons .same (.cons .same (.cons .same (.cons .same (.cons (SlotLe.int e1) .nil))))))) (fun q hq => ?_)
    obtain ⟨hkq, hq, hpq⟩ := hq
    refine Split.mk (fun h => ?_) (fun h => ?_)
    · have hql : q < l.length := by have := of_decide_eq_true h; omega
      have back : ∀ (t : Nat → TV) (m : Id → Mem), KeepS t m (memsOf []) [(3, tint l.length), (6, .d (.one (slS (edgesL l)))), (46, tint l.length), (47, tint k), (7, tint k), (8, tint (IntKind.i64.wrap ((q : Int) + 1)))] → pairB l k q = true →
          Adj t m (fun t3 m3 => ∃ y, Kept (fun q => [(3, tint l.length), (6, .d (.one (slS (edgesL l)))), (46, tint l.length), (47, tint k), (7, tint k), (8, tint ((q : Nat) : Int))]) (fun _ => []) (fun q => k < q ∧ q ≤ l.length ∧ ∀ j, j < q → pairB l k j = true) y t3 m3 ∧ l.length - y < l.length - q) := by
        intro t m hks hpb
        rw [show IntKind.i64.wrap ((q : Int) + 1) = ((q + 1 : Nat) : Int) from natw q 1 (by omega) (by omega)] at hks
        exact Adj.back (rank := fun q => l.length - q) (q + 1) ⟨by omega, by omega, fun j hj => by
          rcases Nat.lt_succ_iff_lt_or_eq.1 hj with hj | rfl
          · exact hpq j hj
          · exact hpb⟩ (by omega) .nil hks
      have hit : ∀ c, c = (meetC (sGet (edgesL l) k) (sGet (edgesL l) q)).kind → adjB l.length k q = false → pairB l k q = decide (c = 0) := by
        intro c hc ha
        rw [hc, edges_at hge k hlt, edges_at hge q hql]
        simp [pairB, ha, show ¬ q ≤ k by omega]
      have bad : pairB l k q = false → apartR l = false := fun h => allB_false k hlt (allB_false q hql h)
      refine Split.mk (fun h1 => ?_) (fun h1 => ?_)
      · have n1 : q ≠ k + 1 := by
          have : (q : Int) ≠ IntKind.i64.wrap ((k : Int) + 1) := by simpa using h1
          rw [e1] at this; omega
        repeat' first | refine Split.t ?_ | refine Split.f ?_ | fail
        refine Split.mk (fun h2 => ?_) (fun h2 => ?_)
        · have n2 : k ≠ 0 := by
            have : (k : Int) ≠ 0 := by simpa using h2
            omega
          repeat' first | refine Split.t ?_ | refine Split.f ?_ | fail
          refine Need.mk (by omega) ?_
          repeat' first | refine Split.t ?_ | refine Split.f ?_ | fail
          refine Need.mk (by omega) ?_
          repeat' first | refine Split.t ?_ | refine Split.f ?_ | fail
          refine CallW.int (vmeet_det (sGet (edgesL l) k) (sGet (edgesL l) q)) (fun c hc => ?_)
          repeat' first | refine Split.t ?_ | refine Split.f ?_ | fail
          refine Need.mk (by kernel_rfl) ?_
          have hp := hit c hc (by simp [adjB, n1, n2])
          refine Split.mk (fun h3 => ?_) (fun h3 => ?_)
          · have : c ≠ 0 := by simpa using h3
            refine Fin.bool ?_
            rw [bad (by rw [hp]; simpa using this)]
          · have : c = 0 := by simpa using h3
            exact back _ _ (.cons .same (.cons .same (.cons .same (.cons .same (.cons .same (.cons .same .nil)))))) (by rw [hp]; simpa using this)
        · have n2 : k = 0 := by
            have : (k : Int) = 0 := by simpa using h2
            omega
          have e3 : IntKind.i64.wrap ((l.length : Int) - 1) = ((l.length - 1 : Nat) : Int) := by rw [hw _ (by omega) (by omega)]; omega
          repeat' first | refine Split.t ?_ | refine Split.f ?_ | fail
          refine Split.mk (fun h4 => ?_) (fun h4 => ?_)
          · have n3 : q ≠ l.length - 1 := by
              have : (q : Int) ≠ IntKind.i64.wrap ((l.length : Int) - 1) := by simpa using h4
              rw [e3] at this; omega
            repeat' first | refine Split.t ?_ | refine Split.f ?_ | fail
            refine Need.mk (by omega) ?_
            repeat' first | refine Split.t ?_ | refine Split.f ?_ | fail
            refine Need.mk (by omega) ?_
            repeat' first | refine Split.t ?_ | refine Split.f ?_ | fail
            refine CallW.int (vmeet_det (sGet (edgesL l) k) (sGet (edgesL l) q)) (fun c hc => ?_)
            repeat' first | refine Split.t ?_ | refine Split.f ?_ | fail
            refine Need.mk (by kernel_rfl) ?_
            have hp := hit c hc (by simp [adjB, n1, n3])
            refine Split.mk (fun h3 => ?_) (fun h3 => ?_)
            · have : c ≠ 0 := by simpa using h3
              refine Fin.bool ?_
              rw [bad (by rw [hp]; simpa using this)]
            · have : c = 0 := by simpa using h3
              exact back _ _ (.cons .same (.cons .same (.cons .same (.cons .same (.cons .same (.cons .same .nil)))))) (by rw [hp]; simpa using this)
          · have n3 : q = l.length - 1 := by
              have : (q : Int) = IntKind.i64.wrap ((l.length : Int) - 1) := by simpa using h4
              rw [e3] at this; omega
            repeat' first | refine Split.t ?_ | refine Split.f ?_ | fail
            refine Need.mk (by kernel_rfl) ?_
            repeat' first | refine Split.t ?_ | refine Split.f ?_ | fail
            exact back _ _ (.cons .same (.cons .same (.cons .same (.cons .same (.cons .same (.cons .same .nil)))))) (by simp [pairB, adjB, n2, n3])
      · have n1 : q = k + 1 := by
          have : (q : Int) = IntKind.i64.wrap ((k : Int) + 1) := by simpa using h1
          rw [e1] at this; omega
        repeat' first | refine Split.t ?_ | refine Split.f ?_ | fail
        refine Need.mk (by kernel_rfl) ?_
        repeat' first | refine Split.t ?_ | refine Split.f ?_ | fail
        exact back _ _ (.cons .same (.cons .same (.cons .same (.cons .same (.cons .same (.cons .same .nil)))))) (by simp [pairB, adjB, n1])
    · have he : q = l.length := by have := of_decide_eq_false h; omega
      subst he
      refine Adj.back (x := k) (k + 1) ⟨by omega, fun i hi => ?_⟩ (by omega) .nil (.cons .same (.cons .same (.cons .same (.cons (SlotLe.int e1) .nil))))
      rcases Nat.lt_succ_iff_lt_or_eq.1 hi with hi | rfl
      · exact hpk i hi
      · exact hpq
  · have he : k = l.length := by have := of_decide_eq_false h; omega
    subst he
    refine Fin.bool ?_
    exact (allB_iff.2 (fun i hi => allB_iff.2 (fun j hj => hpk i hi j hj))).symm
end Sg
end Go.Vm
