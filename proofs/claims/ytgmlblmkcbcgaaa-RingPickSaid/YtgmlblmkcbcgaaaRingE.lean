/-
  Layer 8: the contract of the reference's Valid.
  Layer 8: the reference's Valid and the program's are one.
-/
import Derived.Test.YtgmlblmkcbcgaaaRingC
namespace Go.Vm
set_option maxRecDepth 20000
set_option linter.unusedVariables false
set_option linter.unusedSimpArgs false
open Go Go.RowKit Go.Proofs
namespace Sg

def rstrictB (l : List V2) : Bool := allB l.length fun i => decide (turnW (gt l i) (nxt l i) (nx2 l i) ≠ 0)
def rpairB (l : List V2) (i k : Nat) : Bool := decide (k ≤ i) || decide (rmeetI (edge l i) (edge l k) = if adjB l.length i k = true then 1 else 0)
def rapartR (l : List V2) : Bool := allB l.length fun i => allB l.length fun k => rpairB l i k
def rvalidR (l : List V2) : Bool := headB l && rstrictB l && rapartR l && decide (0 < areaW l)

theorem rvalid_det' (l : List V2) (hl : l.length ≤ 40000) : Det Try.prog 17 [.one (vlS l)] (tbool (rvalidR l)) := by
  refine det_of_awp TTok mixed Try.func17 rfl rfl [] (Nat.le_of_ble_eq_true rfl) ?_
  refine Split.mk (fun h => ?_) (fun h => ?_)
  · have h3 : l.length < 3 := by have := of_decide_eq_true h; omega
    repeat' first | refine Split.t ?_ | refine Split.f ?_ | fail
    refine Fin.bool ?_
    simp [rvalidR, headB, show ¬ 3 ≤ l.length by omega]
  have h3 : 3 ≤ l.length := by have := of_decide_eq_false h; omega
  repeat' first | refine Split.t ?_ | refine Split.f ?_ | fail
  refine Split.mk (fun h => ?_) (fun h => ?_)
  · have h40 : ¬ l.length ≤ 40 := by have := of_decide_eq_true h; omega
    repeat' first | refine Split.t ?_ | refine Split.f ?_ | fail
    refine Fin.bool ?_
    simp [rvalidR, headB, h40]
  have h40 : l.length ≤ 40 := by have := of_decide_eq_false h; omega
  repeat' first | refine Split.t ?_ | refine Split.f ?_ | fail
  refine CallW.bool (rwithin_det l hl) (fun b hb => ?_)
  repeat' first | refine Split.t ?_ | refine Split.f ?_ | fail
  refine Split.mk (fun h => ?_) (fun h => ?_)
  · have hn : nearR l = false := by rw [← hb]; simpa using h
    repeat' first | refine Split.t ?_ | refine Split.f ?_ | fail
    refine Fin.bool ?_
    simp [rvalidR, headB, hn]
  have hn : nearR l = true := by rw [← hb]; simpa using h
  repeat' first | refine Split.t ?_ | refine Split.f ?_ | fail
  have hv : rvalidR l = (rstrictB l && rapartR l && decide (0 < areaW l)) := by simp [rvalidR, headB, h3, h40, hn]
  rw [hv]
  refine Loop.by (α := Nat) (fun k => [(0, .d (.one (vlS l))), (3, tint l.length), (4, tint k)]) (fun _ => []) (fun k => k ≤ l.length ∧ ∀ i, i < k → turnW (gt l i) (nxt l i) (nx2 l i) ≠ 0) (fun k => l.length - k)
    (Adj.at 0 ⟨Nat.zero_le _, fun _ h => absurd h (Nat.not_lt_zero _)⟩ .nil (.cons .same (.cons .same (.cons .same .nil)))) (fun k hk => ?_)
  obtain ⟨hk, hall⟩ := hk
  refine Split.mk (fun h => ?_) (fun h => ?_)
  · have hlt : k < l.length := by have := of_decide_eq_true h; omega
    have e1 := natw k 1 (by omega) (by omega)
    have e2 := natw k 2 (by omega) (by omega)
    have b1 := tmodB (k + 1) l.length (by omega)
    have b2 := tmodB (k + 2) l.length (by omega)
    refine Need.mk (by omega) ?_
    refine Need.mk (by omega) ?_
    refine Need.mk (by rw [show (1 : Int) = (1 : Nat) from rfl, e1]; exact b1) ?_
    refine Need.mk (by omega) ?_
    refine Need.mk (by rw [show (2 : Int) = (2 : Nat) from rfl, e2]; exact b2) ?_
    refine CallW.int (turn_det (gt l k) (gt l (Int.toNat ((IntKind.i64.wrap ((k : Int) + (1 : Nat))).tmod l.length))) (gt l (Int.toNat ((IntKind.i64.wrap ((k : Int) + (2 : Nat))).tmod l.length)))) (fun c hc => ?_)
    rw [e1, e2, tmodN, tmodN] at hc
    replace hc : c = turnW (gt l k) (nxt l k) (nx2 l k) := hc
    refine Need.mk (by kernel_rfl) ?_
    refine Split.mk (fun h1 => ?_) (fun h1 => ?_)
    · refine Fin.bool ?_
      have hz : turnW (gt l k) (nxt l k) (nx2 l k) = 0 := by rw [← hc]; simpa using h1
      rw [rstrictB, allB_false k hlt (by rw [hz]; rfl), Bool.false_and, Bool.false_and]
    · refine Adj.back (x := k) (k + 1) ⟨by omega, fun i hi => ?_⟩ (by omega) .nil (.cons .same (.cons .same (.cons (SlotLe.int ?_) .nil)))
      · rcases Nat.lt_succ_iff_lt_or_eq.1 hi with hi | rfl
        · exact hall i hi
        · rw [← hc]; simpa using h1
      · rw [hw _ (by omega) (by omega)]; omega
  have he : k = l.length := by have := of_decide_eq_false h; omega
  subst he
  have hs : rstrictB l = true := allB_iff.2 (fun i hi => by simpa using hall i hi)
  rw [hs, Bool.true_and]
  refine CallW.mk' (redges_det l hl) ?_
  have hge : ¬ l.length < 2 := by omega
  have hel := edges_len hge
  refine Loop.by (α := Nat) (fun k => [(0, .d (.one (vlS l))), (3, tint l.length), (5, .d (.one (slS (edgesL l)))), (6, tint k)]) (fun _ => []) (fun k => k ≤ l.length ∧ ∀ i, i < k → ∀ j, j < l.length → rpairB l i j = true) (fun k => l.length - k)
    (Adj.at 0 ⟨Nat.zero_le _, fun _ h => absurd h (Nat.not_lt_zero _)⟩ .nil (.cons .same (.cons .same (.cons .same (.cons .same .nil))))) (fun k hk => ?_)
  obtain ⟨hk, hpk⟩ := hk
  refine Split.mk (fun h => ?_) (fun h => ?_)
  · have hlt : k < l.length := by have := of_decide_eq_true h; omega
    have e1 : IntKind.i64.wrap ((k : Int) + 1) = ((k + 1 : Nat) : Int) := natw k 1 (by omega) (by omega)
    refine Loop.by (α := Nat) (fun q => [(0, .d (.one (vlS l))), (3, tint l.length), (5, .d (.one (slS (edgesL l)))), (6, tint k), (7, tint q)]) (fun _ => []) (fun q => k < q ∧ q ≤ l.length ∧ ∀ j, j < q → rpairB l k j = true) (fun q => l.length - q)
      (Adj.at (k + 1) ⟨by omega, by omega, fun j hj => by simp [rpairB, show j ≤ k by omega]⟩ .nil (.cons .same (.cons .same (.cons .same (.cons .same (.cons (SlotLe.int e1) .nil)))))) (fun q hq => ?_)
    obtain ⟨hkq, hq, hpq⟩ := hq
    refine Split.mk (fun h => ?_) (fun h => ?_)
    · have hql : q < l.length := by have := of_decide_eq_true h; omega
      have back : ∀ (t : Nat → TV) (m : Id → Mem), KeepS t m (memsOf []) [(0, .d (.one (vlS l))), (3, tint l.length), (5, .d (.one (slS (edgesL l)))), (6, tint k), (7, tint (IntKind.i64.wrap ((q : Int) + 1)))] → rpairB l k q = true →
          Adj t m (fun t3 m3 => ∃ y, Kept (fun q => [(0, .d (.one (vlS l))), (3, tint l.length), (5, .d (.one (slS (edgesL l)))), (6, tint k), (7, tint ((q : Nat) : Int))]) (fun _ => []) (fun q => k < q ∧ q ≤ l.length ∧ ∀ j, j < q → rpairB l k j = true) y t3 m3 ∧ l.length - y < l.length - q) := by
        intro t m hks hpb
        rw [show IntKind.i64.wrap ((q : Int) + 1) = ((q + 1 : Nat) : Int) from natw q 1 (by omega) (by omega)] at hks
        exact Adj.back (rank := fun q => l.length - q) (q + 1) ⟨by omega, by omega, fun j hj => by
          rcases Nat.lt_succ_iff_lt_or_eq.1 hj with hj | rfl
          · exact hpq j hj
          · exact hpb⟩ (by omega) .nil hks
      have hit : ∀ c, c = rmeetI (sGet (edgesL l) k) (sGet (edgesL l) q) → rpairB l k q = decide (c = if adjB l.length k q = true then 1 else 0) := by
        intro c hc
        rw [hc, edges_at hge k hlt, edges_at hge q hql]
        simp [rpairB, show ¬ q ≤ k by omega]
      have bad : rpairB l k q = false → (rapartR l && decide (0 < areaW l)) = false := fun h => by rw [rapartR, allB_false k hlt (allB_false q hql h), Bool.false_and]
      have e3 : IntKind.i64.wrap ((l.length : Int) - 1) = ((l.length - 1 : Nat) : Int) := by rw [hw _ (by omega) (by omega)]; omega
      refine Split.mk (fun h1 => ?_) (fun h1 => ?_)
      · have n1 : q = k + 1 := by
          have : (q : Int) = IntKind.i64.wrap ((k : Int) + 1) := by simpa using h1
          rw [e1] at this; omega
        have ha : adjB l.length k q = true := by simp [adjB, n1]
        repeat' first | refine Split.t ?_ | refine Split.f ?_ | fail
        refine Need.mk (by omega) ?_
        refine Need.mk (by omega) ?_
        refine CallW.int (rmeet_det (sGet (edgesL l) k) (sGet (edgesL l) q)) (fun c hc => ?_)
        refine Need.mk (by kernel_rfl) ?_
        have hp := hit c hc
        rw [if_pos ha] at hp
        repeat' first | refine Split.t ?_ | refine Split.f ?_ | fail
        refine Split.mk (fun h5 => ?_) (fun h5 => ?_)
        · have : c ≠ 1 := by simpa using h5
          repeat' first | refine Split.t ?_ | refine Split.f ?_ | fail
          refine Fin.bool ?_
          rw [bad (by rw [hp]; simpa using this)]
        · have : c = 1 := by simpa using h5
          repeat' first | refine Split.t ?_ | refine Split.f ?_ | fail
          exact back _ _ (.cons .same (.cons .same (.cons .same (.cons .same (.cons .same .nil))))) (by rw [hp]; simpa using this)
      · have n1 : q ≠ k + 1 := by
          have : (q : Int) ≠ IntKind.i64.wrap ((k : Int) + 1) := by simpa using h1
          rw [e1] at this; omega
        repeat' first | refine Split.t ?_ | refine Split.f ?_ | fail
        refine Split.mk (fun h2 => ?_) (fun h2 => ?_)
        · have n2 : k = 0 := by
            have : (k : Int) = 0 := by simpa using h2
            omega
          repeat' first | refine Split.t ?_ | refine Split.f ?_ | fail
          refine Need.mk (by omega) ?_
          refine Need.mk (by omega) ?_
          refine CallW.int (rmeet_det (sGet (edgesL l) k) (sGet (edgesL l) q)) (fun c hc => ?_)
          refine Need.mk (by kernel_rfl) ?_
          refine Split.mk (fun h4 => ?_) (fun h4 => ?_)
          · have n3 : q = l.length - 1 := by
              have : (q : Int) = IntKind.i64.wrap ((l.length : Int) - 1) := by simpa using h4
              rw [e3] at this; omega
            have ha : adjB l.length k q = true := by simp [adjB, n2, n3]
            have hp := hit c hc
            rw [if_pos ha] at hp
            repeat' first | refine Split.t ?_ | refine Split.f ?_ | refine Split.isF (by rw [h4]; rfl) ?_ | fail
            refine Split.mk (fun h5 => ?_) (fun h5 => ?_)
            · have : c ≠ 1 := by simpa using h5
              repeat' first | refine Split.t ?_ | refine Split.f ?_ | refine Split.isF (by rw [h4]; rfl) ?_ | fail
              refine Fin.bool ?_
              rw [bad (by rw [hp]; simpa using this)]
            · have : c = 1 := by simpa using h5
              repeat' first | refine Split.t ?_ | refine Split.f ?_ | refine Split.isF (by rw [h4]; rfl) ?_ | fail
              exact back _ _ (.cons .same (.cons .same (.cons .same (.cons .same (.cons .same .nil))))) (by rw [hp]; simpa using this)
          · have n3 : q ≠ l.length - 1 := by
              have : (q : Int) ≠ IntKind.i64.wrap ((l.length : Int) - 1) := by simpa using h4
              rw [e3] at this; omega
            have ha : adjB l.length k q = false := by simp [adjB, n1, n3]
            have hp := hit c hc
            rw [if_neg (by rw [ha]; simp)] at hp
            repeat' first | refine Split.t ?_ | refine Split.f ?_ | refine Split.isT (by rw [h4]; rfl) ?_ | fail
            refine Split.mk (fun h5 => ?_) (fun h5 => ?_)
            · have : c ≠ 0 := by simpa using h5
              refine Fin.bool ?_
              rw [bad (by rw [hp]; simpa using this)]
            · have : c = 0 := by simpa using h5
              exact back _ _ (.cons .same (.cons .same (.cons .same (.cons .same (.cons .same .nil))))) (by rw [hp]; simpa using this)
        · have n2 : k ≠ 0 := by
            have : (k : Int) ≠ 0 := by simpa using h2
            omega
          repeat' first | refine Split.t ?_ | refine Split.f ?_ | fail
          refine Need.mk (by omega) ?_
          refine Need.mk (by omega) ?_
          refine CallW.int (rmeet_det (sGet (edgesL l) k) (sGet (edgesL l) q)) (fun c hc => ?_)
          refine Need.mk (by kernel_rfl) ?_
          have ha : adjB l.length k q = false := by simp [adjB, n1, n2]
          have hp := hit c hc
          rw [if_neg (by rw [ha]; simp)] at hp
          repeat' first | refine Split.t ?_ | refine Split.f ?_ | fail
          refine Split.mk (fun h5 => ?_) (fun h5 => ?_)
          · have : c ≠ 0 := by simpa using h5
            refine Fin.bool ?_
            rw [bad (by rw [hp]; simpa using this)]
          · have : c = 0 := by simpa using h5
            exact back _ _ (.cons .same (.cons .same (.cons .same (.cons .same (.cons .same .nil))))) (by rw [hp]; simpa using this)
    · have he : q = l.length := by have := of_decide_eq_false h; omega
      subst he
      refine Adj.back (x := k) (k + 1) ⟨by omega, fun i hi => ?_⟩ (by omega) .nil (.cons .same (.cons .same (.cons .same (.cons (SlotLe.int e1) .nil))))
      rcases Nat.lt_succ_iff_lt_or_eq.1 hi with hi | rfl
      · exact hpk i hi
      · exact hpq
  · have he : k = l.length := by have := of_decide_eq_false h; omega
    subst he
    refine CallW.int (signed_det l hl) (fun a ha => ?_)
    refine Fin.bool ?_
    have : rapartR l = true := allB_iff.2 (fun i hi => allB_iff.2 (fun j hj => hpk i hi j hj))
    rw [this, Bool.true_and, ha]
end Sg
end Go.Vm
namespace Go.Vm
set_option maxRecDepth 20000
set_option linter.unusedVariables false
set_option linter.unusedSimpArgs false
open Go Go.RowKit Go.Proofs
namespace Sg

theorem In.up {m m' : Int} {v : V2} (h : In m v) (hm : m ≤ m') : In m' v := ⟨by have := h.x0; omega, by have := h.x1; omega, by have := h.y0; omega, by have := h.y1; omega⟩
theorem near_in {l : List V2} (h : nearR l = true) (i : Nat) : In 2000 (gt l i) := by
  by_cases hi : i < l.length
  · have := List.all_eq_true.1 h (gt l i) (by simp [gt, List.getD, hi])
    exact In.of (by decide) (by decide) this
  · have : gt l i = ⟨0, 0⟩ := by simp [gt, List.getD, List.getElem?_eq_none (Nat.le_of_not_lt hi)]
    rw [this]
    exact ⟨by decide, by decide, by decide, by decide⟩
theorem edge_valid {l : List V2} (h : nearR l = true) (i : Nat) : validS (edge l i) = true := in_valid ((near_in h _).up (by decide)) ((near_in h _).up (by decide))
theorem turn_eq {l : List V2} (h : nearR l = true) (i j k : Nat) : turnW (gt l i) (gt l j) (gt l k) = turnP (gt l i) (gt l j) (gt l k) := turnW_eq (m := 2000) (by decide) (by decide) (near_in h i) (near_in h j) (near_in h k)

theorem mod_next {i n : Nat} (hi : i < n) : ((i + 1) % n + n - 1) % n = i := by
  by_cases h : i + 1 = n
  · rw [h, Nat.mod_self, Nat.zero_add]
    rw [Nat.mod_eq_of_lt (by omega)]; omega
  · rw [Nat.mod_eq_of_lt (show i + 1 < n by omega), show i + 1 + n - 1 = i + n by omega, Nat.add_mod_right, Nat.mod_eq_of_lt hi]
theorem mod_last {i n : Nat} (hi : i < n) : ((i + n - 1) % n + 1) % n = i := by
  by_cases h : i = 0
  · subst h
    rw [Nat.zero_add, Nat.mod_eq_of_lt (show n - 1 < n by omega), show n - 1 + 1 = n by omega, Nat.mod_self]
  · rw [show i + n - 1 = i - 1 + n by omega, Nat.add_mod_right, Nat.mod_eq_of_lt (show i - 1 < n by omega), show i - 1 + 1 = i by omega, Nat.mod_eq_of_lt hi]
theorem lst_nxt {l : List V2} {i : Nat} (hi : i < l.length) : lst l ((i + 1) % l.length) = gt l i := by
  unfold lst
  rw [mod_next hi]
theorem nxt_nxt (l : List V2) (i : Nat) : nxt l ((i + 1) % l.length) = nx2 l i := by
  unfold nxt nx2
  rw [Nat.mod_add_mod]
theorem nxt_lst {l : List V2} {i : Nat} (hi : i < l.length) : nxt l ((i + l.length - 1) % l.length) = gt l i := by
  unfold nxt
  rw [mod_last hi]
theorem nx2_lst {l : List V2} {i : Nat} (hi : i < l.length) : nx2 l ((i + l.length - 1) % l.length) = nxt l i := by
  rw [← nxt_nxt, mod_last hi]
theorem strict_eq {l : List V2} : rstrictB l = strictB l := by
  rw [Bool.eq_iff_iff]
  unfold rstrictB strictB
  rw [allB_iff, allB_iff]
  constructor
  · intro h i hi
    have := h ((i + l.length - 1) % l.length) (Nat.mod_lt _ (by omega))
    rw [nxt_lst hi, nx2_lst hi] at this
    exact this
  · intro h i hi
    have := h ((i + 1) % l.length) (Nat.mod_lt _ (by omega))
    rw [lst_nxt hi, nxt_nxt] at this
    exact this

theorem adj_meet {a b c : V2} (ha : In 2000 a) (hb : In 2000 b) (hc : In 2000 c) (h : turnP a b c ≠ 0) : rmeetI ⟨a, b⟩ ⟨b, c⟩ = 1 ∧ rmeetI ⟨b, c⟩ ⟨a, b⟩ = 1 := by
  have hs : validS ⟨a, b⟩ = true := in_valid (ha.up (by decide)) (hb.up (by decide))
  have ht : validS ⟨b, c⟩ = true := in_valid (hb.up (by decide)) (hc.up (by decide))
  have h0 : crossP (subP b a) (subP c a) ≠ 0 := fun e => h (by unfold turnP; rw [e]; rfl)
  have nc : onB ⟨a, b⟩ c = false := by
    cases hq : onB ⟨a, b⟩ c with
    | false => rfl
    | true => exact absurd ((on_iff hs).1 hq).2 h0
  have na : onB ⟨b, c⟩ a = false := by
    cases hq : onB ⟨b, c⟩ a with
    | false => rfl
    | true =>
      refine absurd ((on_iff ht).1 hq).2 (fun e => h0 ?_)
      simp only [sideP, crossP, subP] at e ⊢
      grind
  have ob : onB ⟨a, b⟩ b = true := on_b hs
  have ob' : onB ⟨b, c⟩ b = true := on_a ht
  refine ⟨(agree_one (p := b) hs ht (sort_one (fun e => ?_))).1, (agree_one (p := b) ht hs (sort_one (fun e => ?_))).1⟩
  · rw [mem_common]
    constructor
    · rintro ⟨h1 | h1 | h1 | h1, h2, h3⟩ <;> subst h1
      · rw [na] at h3; cases h3
      · rfl
      · rfl
      · rw [nc] at h2; cases h2
    · rintro rfl
      exact ⟨.inr (.inl rfl), ob, ob'⟩
  · rw [mem_common]
    constructor
    · rintro ⟨h1 | h1 | h1 | h1, h2, h3⟩ <;> subst h1
      · rfl
      · rw [nc] at h3; cases h3
      · rw [na] at h2; cases h2
      · rfl
    · rintro rfl
      exact ⟨.inl rfl, ob', ob⟩

theorem adj_cases {n i k : Nat} (h : adjB n i k = true) : k = i + 1 ∨ (i = 0 ∧ k = n - 1) := by
  simpa [adjB] using h
theorem valid_eq (l : List V2) : rvalidR l = validR l := by
  unfold rvalidR validR
  cases hh : headB l with
  | false => simp
  | true =>
    have hh' := hh
    simp only [headB, Bool.and_eq_true, decide_eq_true_eq] at hh'
    obtain ⟨⟨h3, h40⟩, hn⟩ := hh'
    rw [strict_eq]
    simp only [Bool.true_and]
    cases hs : strictB l with
    | false => simp
    | true =>
      have hr : rapartR l = apartR l := by
        rw [Bool.eq_iff_iff]
        unfold rapartR apartR
        simp only [allB_iff]
        have hst : ∀ i, i < l.length → turnP (gt l i) (nxt l i) (nx2 l i) ≠ 0 := by
          intro i hi
          rw [← strict_eq] at hs
          have := allB_iff.1 hs i hi
          rw [nxt, nx2, turn_eq hn] at this
          exact of_decide_eq_true this
        have key : ∀ i k, i < l.length → k < l.length → ¬ k ≤ i → adjB l.length i k = true → rmeetI (edge l i) (edge l k) = 1 := by
          intro i k hi hk hik ha
          rcases adj_cases ha with rfl | ⟨rfl, rfl⟩
          · have e : edge l (i + 1) = ⟨nxt l i, nx2 l i⟩ := by
              unfold edge nxt nx2
              rw [Nat.mod_eq_of_lt hk]
            rw [e]
            exact (adj_meet (near_in hn _) (near_in hn _) (near_in hn _) (hst i hi)).1
          · have e : edge l (l.length - 1) = ⟨gt l (l.length - 1), gt l 0⟩ := by
              unfold edge nxt
              rw [show l.length - 1 + 1 = l.length by omega, Nat.mod_self]
            have e2 : nxt l (l.length - 1) = gt l 0 := by
              unfold nxt
              rw [show l.length - 1 + 1 = l.length by omega, Nat.mod_self]
            have e3 : nx2 l (l.length - 1) = nxt l 0 := by
              unfold nxt nx2
              rw [show l.length - 1 + 2 = 1 + l.length by omega, Nat.add_mod_right]
            have := hst (l.length - 1) hk
            rw [e2, e3] at this
            rw [e]
            exact (adj_meet (near_in hn _) (near_in hn _) (near_in hn _) this).2
        constructor
        · intro h i hi k hk
          have := h i hi k hk
          simp only [rpairB, Bool.or_eq_true, decide_eq_true_eq] at this ⊢
          rcases this with this | this
          · exact .inl (.inl this)
          · by_cases ha : adjB l.length i k = true
            · exact .inl (.inr ha)
            · rw [if_neg ha, ← (meet_agree _ _).1] at this
              exact .inr this
        · intro h i hi k hk
          have := h i hi k hk
          simp only [rpairB, Bool.or_eq_true, decide_eq_true_eq] at this ⊢
          by_cases hik : k ≤ i
          · exact .inl hik
          · right
            by_cases ha : adjB l.length i k = true
            · rw [if_pos ha]; exact key i k hi hk hik ha
            · rw [if_neg ha, ← (meet_agree _ _).1]
              rcases this with (this | this) | this
              · exact absurd this hik
              · exact absurd this ha
              · exact this
      rw [hr, Bool.true_and, Bool.and_true, Bool.and_comm]
theorem rvalid_det8 (l : List V2) (hl : l.length ≤ 40000) : Det Try.prog 17 [.one (vlS l)] (tbool (validR l)) := valid_eq l ▸ rvalid_det' l hl
end Sg
end Go.Vm
