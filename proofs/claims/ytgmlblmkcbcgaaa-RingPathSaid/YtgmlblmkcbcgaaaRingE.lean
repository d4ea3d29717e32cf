/-
  Layer 8: the reference's Valid and the program's are one.
-/
import Derived.Test.YtgmlblmkcbcgaaaRingD
namespace Go.Vm
set_option maxRecDepth 20000
set_option linter.unusedVariables false
set_option linter.unusedSimpArgs false
open Go Go.RowKit Go.Proofs
namespace Sg

theorem In.up {m m' : Int} {v : V2} (h : In m v) (hm : m ≤ m') : In m' v := ⟨by have := h.x0; omega, by have := h.x1; omega, by have := h.y0; omega, by have := h.y1; omega⟩
theorem near_in {l : List V2} (h : nearR l = true) (i : Nat) : In 2000 (gt l i) := by
  by_cases hi : i < l.length
  · have := List.all_eq_true.1 h (gt l i) (by simp [gt, List.getD, hi])
    exact In.of (by decide) (by decide) this
  · have : gt l i = ⟨0, 0⟩ := by simp [gt, List.getD, List.getElem?_eq_none (Nat.le_of_not_lt hi)]
    rw [this]
    exact ⟨by decide, by decide, by decide, by decide⟩
theorem edge_valid {l : List V2} (h : nearR l = true) (i : Nat) : validS (edge l i) = true := in_valid ((near_in h _).up (by decide)) ((near_in h _).up (by decide))
theorem turn_eq {l : List V2} (h : nearR l = true) (i j k : Nat) : turnW (gt l i) (gt l j) (gt l k) = turnP (gt l i) (gt l j) (gt l k) := turnW_eq (m := 2000) (by decide) (by decide) (near_in h i) (near_in h j) (near_in h k)

theorem mod_next {i n : Nat} (hi : i < n) : ((i + 1) % n + n - 1) % n = i := by
  by_cases h : i + 1 = n
  · rw [h, Nat.mod_self, Nat.zero_add]
    rw [Nat.mod_eq_of_lt (by omega)]; omega
  · rw [Nat.mod_eq_of_lt (show i + 1 < n by omega), show i + 1 + n - 1 = i + n by omega, Nat.add_mod_right, Nat.mod_eq_of_lt hi]
theorem mod_last {i n : Nat} (hi : i < n) : ((i + n - 1) % n + 1) % n = i := by
  by_cases h : i = 0
  · subst h
    rw [Nat.zero_add, Nat.mod_eq_of_lt (show n - 1 < n by omega), show n - 1 + 1 = n by omega, Nat.mod_self]
  · rw [show i + n - 1 = i - 1 + n by omega, Nat.add_mod_right, Nat.mod_eq_of_lt (show i - 1 < n by omega), show i - 1 + 1 = i by omega, Nat.mod_eq_of_lt hi]
theorem lst_nxt {l : List V2} {i : Nat} (hi : i < l.length) : lst l ((i + 1) % l.length) = gt l i := by
  unfold lst
  rw [mod_next hi]
theorem nxt_nxt (l : List V2) (i : Nat) : nxt l ((i + 1) % l.length) = nx2 l i := by
  unfold nxt nx2
  rw [Nat.mod_add_mod]
theorem nxt_lst {l : List V2} {i : Nat} (hi : i < l.length) : nxt l ((i + l.length - 1) % l.length) = gt l i := by
  unfold nxt
  rw [mod_last hi]
theorem nx2_lst {l : List V2} {i : Nat} (hi : i < l.length) : nx2 l ((i + l.length - 1) % l.length) = nxt l i := by
  rw [← nxt_nxt, mod_last hi]
theorem strict_eq {l : List V2} : rstrictB l = strictB l := by
  rw [Bool.eq_iff_iff]
  unfold rstrictB strictB
  rw [allB_iff, allB_iff]
  constructor
  · intro h i hi
    have := h ((i + l.length - 1) % l.length) (Nat.mod_lt _ (by omega))
    rw [nxt_lst hi, nx2_lst hi] at this
    exact this
  · intro h i hi
    have := h ((i + 1) % l.length) (Nat.mod_lt _ (by omega))
    rw [lst_nxt hi, nxt_nxt] at this
    exact this

theorem adj_meet {a b c : V2} (ha : In 2000 a) (hb : In 2000 b) (hc : In 2000 c) (h : turnP a b c ≠ 0) : rmeetI ⟨a, b⟩ ⟨b, c⟩ = 1 ∧ rmeetI ⟨b, c⟩ ⟨a, b⟩ = 1 := by
  have hs : validS ⟨a, b⟩ = true := in_valid (ha.up (by decide)) (hb.up (by decide))
  have ht : validS ⟨b, c⟩ = true := in_valid (hb.up (by decide)) (hc.up (by decide))
  have h0 : crossP (subP b a) (subP c a) ≠ 0 := fun e => h (by unfold turnP; rw [e]; rfl)
  have nc : onB ⟨a, b⟩ c = false := by
    cases hq : onB ⟨a, b⟩ c with
    | false => rfl
    | true => exact absurd ((on_iff hs).1 hq).2 h0
  have na : onB ⟨b, c⟩ a = false := by
    cases hq : onB ⟨b, c⟩ a with
    | false => rfl
    | true =>
      refine absurd ((on_iff ht).1 hq).2 (fun e => h0 ?_)
      simp only [sideP, crossP, subP] at e ⊢
      grind
  have ob : onB ⟨a, b⟩ b = true := on_b hs
  have ob' : onB ⟨b, c⟩ b = true := on_a ht
  refine ⟨(agree_one (p := b) hs ht (sort_one (fun e => ?_))).1, (agree_one (p := b) ht hs (sort_one (fun e => ?_))).1⟩
  · rw [mem_common]
    constructor
    · rintro ⟨h1 | h1 | h1 | h1, h2, h3⟩ <;> subst h1
      · rw [na] at h3; cases h3
      · rfl
      · rfl
      · rw [nc] at h2; cases h2
    · rintro rfl
      exact ⟨.inr (.inl rfl), ob, ob'⟩
  · rw [mem_common]
    constructor
    · rintro ⟨h1 | h1 | h1 | h1, h2, h3⟩ <;> subst h1
      · rfl
      · rw [nc] at h3; cases h3
      · rw [na] at h2; cases h2
      · rfl
    · rintro rfl
      exact ⟨.inl rfl, ob', ob⟩

theorem adj_cases {n i k : Nat} (h : adjB n i k = true) : k = i + 1 ∨ (i = 0 ∧ k = n - 1) := by
  simpa [adjB] using h
theorem valid_eq (l : List V2) : rvalidR l = validR l := by
  unfold rvalidR validR
  cases hh : headB l with
  | false => simp
  | true =>
    have hh' := hh
    simp only [headB, Bool.and_eq_true, decide_eq_true_eq] at hh'
    obtain ⟨⟨h3, h40⟩, hn⟩ := hh'
    rw [strict_eq]
    simp only [Bool.true_and]
    cases hs : strictB l with
    | false => simp
    | true =>
      have hr : rapartR l = apartR l := by
        rw [Bool.eq_iff_iff]
        unfold rapartR apartR
        simp only [allB_iff]
        have hst : ∀ i, i < l.length → turnP (gt l i) (nxt l i) (nx2 l i) ≠ 0 := by
          intro i hi
          rw [← strict_eq] at hs
          have := allB_iff.1 hs i hi
          rw [nxt, nx2, turn_eq hn] at this
          exact of_decide_eq_true this
        have key : ∀ i k, i < l.length → k < l.length → ¬ k ≤ i → adjB l.length i k = true → rmeetI (edge l i) (edge l k) = 1 := by
          intro i k hi hk hik ha
          rcases adj_cases ha with rfl | ⟨rfl, rfl⟩
          · have e : edge l (i + 1) = ⟨nxt l i, nx2 l i⟩ := by
              unfold edge nxt nx2
              rw [Nat.mod_eq_of_lt hk]
            rw [e]
            exact (adj_meet (near_in hn _) (near_in hn _) (near_in hn _) (hst i hi)).1
          · have e : edge l (l.length - 1) = ⟨gt l (l.length - 1), gt l 0⟩ := by
              unfold edge nxt
              rw [show l.length - 1 + 1 = l.length by omega, Nat.mod_self]
            have e2 : nxt l (l.length - 1) = gt l 0 := by
              unfold nxt
              rw [show l.length - 1 + 1 = l.length by omega, Nat.mod_self]
            have e3 : nx2 l (l.length - 1) = nxt l 0 := by
              unfold nxt nx2
              rw [show l.length - 1 + 2 = 1 + l.length by omega, Nat.add_mod_right]
            have := hst (l.length - 1) hk
            rw [e2, e3] at this
            rw [e]
            exact (adj_meet (near_in hn _) (near_in hn _) (near_in hn _) this).2
        constructor
        · intro h i hi k hk
          have := h i hi k hk
          simp only [rpairB, Bool.or_eq_true, decide_eq_true_eq] at this ⊢
          rcases this with this | this
          · exact .inl (.inl this)
          · by_cases ha : adjB l.length i k = true
            · exact .inl (.inr ha)
            · rw [if_neg ha, ← (meet_agree _ _).1] at this
              exact .inr this
        · intro h i hi k hk
          have := h i hi k hk
          simp only [rpairB, Bool.or_eq_true, decide_eq_true_eq] at this ⊢
          by_cases hik : k ≤ i
          · exact .inl hik
          · right
            by_cases ha : adjB l.length i k = true
            · rw [if_pos ha]; exact key i k hi hk hik ha
            · rw [if_neg ha, ← (meet_agree _ _).1]
              rcases this with (this | this) | this
              · exact absurd this hik
              · exact absurd this ha
              · exact this
      rw [hr, Bool.true_and, Bool.and_true, Bool.and_comm]
theorem rvalid_det8 (l : List V2) (hl : l.length ≤ 10000) : Det Try.prog 17 [.one (vlS l)] (tbool (validR l)) := valid_eq l ▸ rvalid_det' l hl
end Sg
end Go.Vm
