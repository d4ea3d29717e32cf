/-
  Layer 8: the contract of the reference's Valid.
-/
import Derived.Test.YtgmlblmkcbcgaaaRingC
namespace Go.Vm
set_option maxRecDepth 20000
set_option linter.unusedVariables false
set_option linter.unusedSimpArgs false
open Go Go.RowKit Go.Proofs
namespace Sg

def rstrictB (l : List V2) : Bool := allB l.length fun i => decide (turnW (gt l i) (nxt l i) (nx2 l i) ≠ 0)
def rpairB (l : List V2) (i k : Nat) : Bool := decide (k ≤ i) || decide (rmeetI (edge l i) (edge l k) = if adjB l.length i k = true then 1 else 0)
def rapartR (l : List V2) : Bool := allB l.length fun i => allB l.length fun k => rpairB l i k
def rvalidR (l : List V2) : Bool := headB l && rstrictB l && rapartR l && decide (0 < areaW l)

theorem rvalid_det' (l : List V2) (hl : l.length ≤ 10000) : Det Try.prog 17 [.one (vlS l)] (tbool (rvalidR l)) := by
  refine det_of_awp TTok mixed Try.func17 rfl rfl [] (Nat.le_of_ble_eq_true rfl) ?_
  refine Split.mk (fun h => ?_) (fun h => ?_)
  · have h3 : l.length < 3 := by have := of_decide_eq_true h; omega
    repeat' first | refine Split.t ?_ | refine Split.f ?_ | fail
    refine Fin.bool ?_
    simp [rvalidR, headB, show ¬ 3 ≤ l.length by omega]
  have h3 : 3 ≤ l.length := by have := of_decide_eq_false h; omega
  repeat' first | refine Split.t ?_ | refine Split.f ?_ | fail
  refine Split.mk (fun h => ?_) (fun h => ?_)
  · have h40 : ¬ l.length ≤ 40 := by have := of_decide_eq_true h; omega
    repeat' first | refine Split.t ?_ | refine Split.f ?_ | fail
    refine Fin.bool ?_
    simp [rvalidR, headB, h40]
  have h40 : l.length ≤ 40 := by have := of_decide_eq_false h; omega
  repeat' first | refine Split.t ?_ | refine Split.f ?_ | fail
  refine CallW.bool (rwithin_det l hl) (fun b hb => ?_)
  repeat' first | refine Split.t ?_ | refine Split.f ?_ | fail
  refine Split.mk (fun h => ?_) (fun h => ?_)
  · have hn : nearR l = false := by rw [← hb]; simpa using h
    repeat' first | refine Split.t ?_ | refine Split.f ?_ | fail
    refine Fin.bool ?_
    simp [rvalidR, headB, hn]
  have hn : nearR l = true := by rw [← hb]; simpa using h
  repeat' first | refine Split.t ?_ | refine Split.f ?_ | fail
  have hv : rvalidR l = (rstrictB l && rapartR l && decide (0 < areaW l)) := by simp [rvalidR, headB, h3, h40, hn]
  rw [hv]
  refine Loop.by (α := Nat) (fun k => [(0, .d (.one (vlS l))), (3, tint l.length), (4, tint k)]) (fun _ => []) (fun k => k ≤ l.length ∧ ∀ i, i < k → turnW (gt l i) (nxt l i) (nx2 l i) ≠ 0) (fun k => l.length - k)
    (Adj.at 0 ⟨Nat.zero_le _, fun _ h => absurd h (Nat.not_lt_zero _)⟩ .nil (.cons .same (.cons .same (.cons .same .nil)))) (fun k hk => ?_)
  obtain ⟨hk, hall⟩ := hk
  refine Split.mk (fun h => ?_) (fun h => ?_)
  · have hlt : k < l.length := by have := of_decide_eq_true h; omega
    have e1 := natw k 1 (by omega) (by omega)
    have e2 := natw k 2 (by omega) (by omega)
    have b1 := tmodB (k + 1) l.length (by omega)
    have b2 := tmodB (k + 2) l.length (by omega)
    refine Need.mk (by omega) ?_
    refine Need.mk (by omega) ?_
    refine Need.mk (by rw [show (1 : Int) = (1 : Nat) from rfl, e1]; exact b1) ?_
    refine Need.mk (by omega) ?_
    refine Need.mk (by rw [show (2 : Int) = (2 : Nat) from rfl, e2]; exact b2) ?_
    refine CallW.int (turn_det (gt l k) (gt l (Int.toNat ((IntKind.i64.wrap ((k : Int) + (1 : Nat))).tmod l.length))) (gt l (Int.toNat ((IntKind.i64.wrap ((k : Int) + (2 : Nat))).tmod l.length)))) (fun c hc => ?_)
    rw [e1, e2, tmodN, tmodN] at hc
    replace hc : c = turnW (gt l k) (nxt l k) (nx2 l k) := hc
    refine Need.mk (by kernel_rfl) ?_
    refine Split.mk (fun h1 => ?_) (fun h1 => ?_)
    · refine Fin.bool ?_
      have hz : turnW (gt l k) (nxt l k) (nx2 l k) = 0 := by rw [← hc]; simpa using h1
      rw [rstrictB, allB_false k hlt (by rw [hz]; rfl), Bool.false_and, Bool.false_and]
    · refine Adj.back (x := k) (k + 1) ⟨by omega, fun i hi => ?_⟩ (by omega) .nil (.cons .same (.cons .same (.cons (SlotLe.int ?_) .nil)))
      · rcases Nat.lt_succ_iff_lt_or_eq.1 hi with hi | rfl
        · exact hall i hi
        · rw [← hc]; simpa using h1
      · rw [hw _ (by omega) (by omega)]; omega
  have he : k = l.length := by have := of_decide_eq_false h; omega
  subst he
  have hs : rstrictB l = true := allB_iff.2 (fun i hi => by simpa using hall i hi)
  rw [hs, Bool.true_and]
  refine CallW.mk' (redges_det l hl) ?_
  have hge : ¬ l.length < 2 := by omega
  have hel := edges_len hge
  refine Loop.by (α := Nat) (fun k => [(0, .d (.one (vlS l))), (3, tint l.length), (5, .d (.one (slS (edgesL l)))), (6, tint k)]) (fun _ => []) (fun k => k ≤ l.length ∧ ∀ i, i < k → ∀ j, j < l.length → rpairB l i j = true) (fun k => l.length - k)
    (Adj.at 0 ⟨Nat.zero_le _, fun _ h => absurd h (Nat.not_lt_zero _)⟩ .nil (.cons .same (.cons .same (.cons .same (.cons .same .nil))))) (fun k hk => ?_)
  obtain ⟨hk, hpk⟩ := hk
  refine Split.mk (fun h => ?_) (fun h => ?_)
  · have hlt : k < l.length := by have := of_decide_eq_true h; omega
    have e1 : IntKind.i64.wrap ((k : Int) + 1) = ((k + 1 : Nat) : Int) := natw k 1 (by omega) (by omega)
    refine Loop.by (α := Nat) (fun q => [(0, .d (.one (vlS l))), (3, tint l.length), (5, .d (.one (slS (edgesL l)))), (6, tint k), (7, tint q)]) (fun _ => []) (fun q => k < q ∧ q ≤ l.length ∧ ∀ j, j < q → rpairB l k j = true) (fun q => l.length - q)
      (Adj.at (k + 1) ⟨by omega, by omega, fun j hj => by simp [rpairB, show j ≤ k by omega]⟩ .nil (.cons .same (.cons .same (.cons .same (.cons .same (.cons (SlotLe.int e1) .nil)))))) (fun q hq => ?_)
    obtain ⟨hkq, hq, hpq⟩ := hq
    refine Split.mk (fun h => ?_) (fun h => ?_)
    · have hql : q < l.length := by have := of_decide_eq_true h; omega
      have back : ∀ (t : Nat → TV) (m : Id → Mem), KeepS t m (memsOf []) [(0, .d (.one (vlS l))), (3, tint l.length), (5, .d (.one (slS (edgesL l)))), (6, tint k), (7, tint (IntKind.i64.wrap ((q : Int) + 1)))] → rpairB l k q = true →
          Adj t m (fun t3 m3 => ∃ y, Kept (fun q => [(0, .d (.one (vlS l))), (3, tint l.length), (5, .d (.one (slS (edgesL l)))), (6, tint k), (7, tint ((q : Nat) : Int))]) (fun _ => []) (fun q => k < q ∧ q ≤ l.length ∧ ∀ j, j < q → rpairB l k j = true) y t3 m3 ∧ l.length - y < l.length - q) := by
        intro t m hks hpb
        rw [show IntKind.i64.wrap ((q : Int) + 1) = ((q + 1 : Nat) : Int) from natw q 1 (by omega) (by omega)] at hks
        exact Adj.back (rank := fun q => l.length - q) (q + 1) ⟨by omega, by omega, fun j hj => by
          rcases Nat.lt_succ_iff_lt_or_eq.1 hj with hj | rfl
          · exact hpq j hj
          · exact hpb⟩ (by omega) .nil hks
      have hit : ∀ c, c = rmeetI (sGet (edgesL l) k) (sGet (edgesL l) q) → rpairB l k q = decide (c = if adjB l.length k q = true then 1 else 0) := by
        intro c hc
        rw [hc, edges_at hge k hlt, edges_at hge q hql]
        simp [rpairB, show ¬ q ≤ k by omega]
      have bad : rpairB l k q = false → (rapartR l && decide (0 < areaW l)) = false := fun h => by rw [rapartR, allB_false k hlt (allB_false q hql h), Bool.false_and]
      have e3 : IntKind.i64.wrap ((l.length : Int) - 1) = ((l.length - 1 : Nat) : Int) := by rw [hw _ (by omega) (by omega)]; omega
      refine Split.mk (fun h1 => ?_) (fun h1 => ?_)
      · have n1 : q = k + 1 := by
          have : (q : Int) = IntKind.i64.wrap ((k : Int) + 1) := by simpa using h1
          rw [e1] at this; omega
        have ha : adjB l.length k q = true := by simp [adjB, n1]
        repeat' first | refine Split.t ?_ | refine Split.f ?_ | fail
        refine Need.mk (by omega) ?_
        refine Need.mk (by omega) ?_
        refine CallW.int (rmeet_det (sGet (edgesL l) k) (sGet (edgesL l) q)) (fun c hc => ?_)
        refine Need.mk (by kernel_rfl) ?_
        have hp := hit c hc
        rw [if_pos ha] at hp
        repeat' first | refine Split.t ?_ | refine Split.f ?_ | fail
        refine Split.mk (fun h5 => ?_) (fun h5 => ?_)
        · have : c ≠ 1 := by simpa using h5
          repeat' first | refine Split.t ?_ | refine Split.f ?_ | fail
          refine Fin.bool ?_
          rw [bad (by rw [hp]; simpa using this)]
        · have : c = 1 := by simpa using h5
          repeat' first | refine Split.t ?_ | refine Split.f ?_ | fail
          exact back _ _ (.cons .same (.cons .same (.cons .same (.cons .same (.cons .same .nil))))) (by rw [hp]; simpa using this)
      · have n1 : q ≠ k + 1 := by
          have : (q : Int) ≠ IntKind.i64.wrap ((k : Int) + 1) := by simpa using h1
          rw [e1] at this; omega
        repeat' first | refine Split.t ?_ | refine Split.f ?_ | fail
        refine Split.mk (fun h2 => ?_) (fun h2 => ?_)
        · have n2 : k = 0 := by
            have : (k : Int) = 0 := by simpa using h2
            omega
          repeat' first | refine Split.t ?_ | refine Split.f ?_ | fail
          refine Need.mk (by omega) ?_
          refine Need.mk (by omega) ?_
          refine CallW.int (rmeet_det (sGet (edgesL l) k) (sGet (edgesL l) q)) (fun c hc => ?_)
          refine Need.mk (by kernel_rfl) ?_
          refine Split.mk (fun h4 => ?_) (fun h4 => ?_)
          · have n3 : q = l.length - 1 := by
              have : (q : Int) = IntKind.i64.wrap ((l.length : Int) - 1) := by simpa using h4
              rw [e3] at this; omega
            have ha : adjB l.length k q = true := by simp [adjB, n2, n3]
            have hp := hit c hc
            rw [if_pos ha] at hp
            repeat' first | refine Split.t ?_ | refine Split.f ?_ | refine Split.isF (by rw [h4]; rfl) ?_ | fail
            refine Split.mk (fun h5 => ?_) (fun h5 => ?_)
            · have : c ≠ 1 := by simpa using h5
              repeat' first | refine Split.t ?_ | refine Split.f ?_ | refine Split.isF (by rw [h4]; rfl) ?_ | fail
              refine Fin.bool ?_
              rw [bad (by rw [hp]; simpa using this)]
            · have : c = 1 := by simpa using h5
              repeat' first | refine Split.t ?_ | refine Split.f ?_ | refine Split.isF (by rw [h4]; rfl) ?_ | fail
              exact back _ _ (.cons .same (.cons .same (.cons .same (.cons .same (.cons .same .nil))))) (by rw [hp]; simpa using this)
          · have n3 : q ≠ l.length - 1 := by
              have : (q : Int) ≠ IntKind.i64.wrap ((l.length : Int) - 1) := by simpa using h4
              rw [e3] at this; omega
            have ha : adjB l.length k q = false := by simp [adjB, n1, n3]
            have hp := hit c hc
            rw [if_neg (by rw [ha]; simp)] at hp
            repeat' first | refine Split.t ?_ | refine Split.f ?_ | refine Split.isT (by rw [h4]; rfl) ?_ | fail
            refine Split.mk (fun h5 => ?_) (fun h5 => ?_)
            · have : c ≠ 0 := by simpa using h5
              refine Fin.bool ?_
              rw [bad (by rw [hp]; simpa using this)]
            · have : c = 0 := by simpa using h5
              exact back _ _ (.cons .same (.cons .same (.cons .same (.cons .same (.cons .same .nil))))) (by rw [hp]; simpa using this)
        · have n2 : k ≠ 0 := by
            have : (k : Int) ≠ 0 := by simpa using h2
            omega
          repeat' first | refine Split.t ?_ | refine Split.f ?_ | fail
          refine Need.mk (by omega) ?_
          refine Need.mk (by omega) ?_
          refine CallW.int (rmeet_det (sGet (edgesL l) k) (sGet (edgesL l) q)) (fun c hc => ?_)
          refine Need.mk (by kernel_rfl) ?_
          have ha : adjB l.length k q = false := by simp [adjB, n1, n2]
          have hp := hit c hc
          rw [if_neg (by rw [ha]; simp)] at hp
          repeat' first | refine Split.t ?_ | refine Split.f ?_ | fail
          refine Split.mk (fun h5 => ?_) (fun h5 => ?_)
          · have : c ≠ 0 := by simpa using h5
            refine Fin.bool ?_
            rw [bad (by rw [hp]; simpa using this)]
          · have : c = 0 := by simpa using h5
            exact back _ _ (.cons .same (.cons .same (.cons .same (.cons .same (.cons .same .nil))))) (by rw [hp]; simpa using this)
    · have he : q = l.length := by have := of_decide_eq_false h; omega
      subst he
      refine Adj.back (x := k) (k + 1) ⟨by omega, fun i hi => ?_⟩ (by omega) .nil (.cons .same (.cons .same (.cons .same (.cons (SlotLe.int e1) .nil))))
      rcases Nat.lt_succ_iff_lt_or_eq.1 hi with hi | rfl
      · exact hpk i hi
      · exact hpq
  · have he : k = l.length := by have := of_decide_eq_false h; omega
    subst he
    refine CallW.int (signed_det l hl) (fun a ha => ?_)
    refine Fin.bool ?_
    have : rapartR l = true := allB_iff.2 (fun i hi => allB_iff.2 (fun j hj => hpk i hi j hj))
    rw [this, Bool.true_and, ha]
end Sg
end Go.Vm
