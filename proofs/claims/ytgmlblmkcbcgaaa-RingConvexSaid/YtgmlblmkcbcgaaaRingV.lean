/-
  Layer 8, plain: a valid ring that turns left everywhere, as a closed chain; it is convex.
-/
import Derived.Test.YtgmlblmkcbcgaaaRingZ
namespace Go.Vm
set_option maxRecDepth 20000
set_option linter.unusedVariables false
set_option linter.unusedSimpArgs false
open Go Go.RowKit Go.Proofs
namespace Sg

/-- A shear: no two vertices are as high as each other. -/
def fS (v : V2) : V2 := ⟨v.x, 10000 * v.y + v.x⟩
theorem trS (a b c : V2) : trP (fS a) (fS b) (fS c) = 10000 * trP a b c := by
  simp only [trP, crossP, subP, fS]; grind
theorem on_levelX {a b p : V2} (h0 : trP a b p = 0) (h1 : a.x < b.x) (h2 : a.x ≤ p.x) (h3 : p.x ≤ b.x) : OnL a b p := by
  have e : trP (fT a) (fT b) (fT p) = 0 := by
    have : trP (fT a) (fT b) (fT p) = -trP a b p := by simp only [trP, crossP, subP, fT]; grind
    rw [this, h0]; rfl
  have := on_level e h1 h2 h3
  unfold OnL at *
  simp only [fT] at this
  exact ⟨h0, this.2.2.2.1, this.2.2.2.2, this.2.1, this.2.2.1⟩
theorem onS {a b p : V2} (h : OnL (fS a) (fS b) (fS p)) : OnL a b p := by
  obtain ⟨h0, h1, h2, h3, h4⟩ := h
  rw [trS] at h0
  have h0' : trP a b p = 0 := by omega
  simp only [fS] at h1 h2 h3 h4
  by_cases c : a.x = b.x
  · exact ⟨h0', h1, h2, by omega, by omega⟩
  · by_cases c2 : a.x < b.x
    · exact on_levelX h0' c2 (by omega) (by omega)
    · exact onL_swap.1 (on_levelX (by rw [tr_swap, h0']; rfl) (show b.x < a.x by omega) (by omega) (by omega))
theorem nmS {a b p q : V2} (h : NM a b p q) : NM (fS a) (fS b) (fS p) (fS q) := by
  refine ⟨fun k => h.a_ (onS k), fun k => h.b_ (onS k), fun k => h.p_ (onS k), fun k => h.q_ (onS k), fun k => h.cr ?_⟩
  simp only [trS] at k
  omega
/-- The index of a vertex. -/
def ixn (l : List V2) (i : Int) : Nat := (i % (l.length : Int)).toNat
def cycP (l : List V2) (i : Int) : V2 := fS (gt l (ixn l i))
theorem ix_lt {l : List V2} (h : 3 ≤ l.length) (i : Int) : ixn l i < l.length := by
  have := Int.emod_lt_of_pos i (show 0 < (l.length : Int) by omega)
  have := Int.emod_nonneg i (show (l.length : Int) ≠ 0 by omega)
  unfold ixn; omega
theorem ix_nat {l : List V2} {i : Nat} (h : i < l.length) : ixn l i = i := by
  unfold ixn
  rw [Int.emod_eq_of_lt (by omega) (by omega)]; omega
theorem ix_add {l : List V2} (h : 3 ≤ l.length) (i : Int) (d : Nat) : ixn l (i + d) = (ixn l i + d) % l.length := by
  have h0 := Int.emod_nonneg i (show (l.length : Int) ≠ 0 by omega)
  unfold ixn
  rw [← Int.emod_add_emod i (l.length : Int) (d : Int)]
  obtain ⟨k, hk⟩ : ∃ k : Nat, i % (l.length : Int) = k := ⟨(i % (l.length : Int)).toNat, by omega⟩
  rw [hk]
  have : ((k : Int) + d) % (l.length : Int) = (((k + d) % l.length : Nat) : Int) := by
    rw [← Int.natCast_add, ← Int.natCast_emod]
  rw [this, Int.toNat_natCast, Int.toNat_natCast]
theorem ix_inj {l : List V2} (h : 3 ≤ l.length) {i j : Int} (h1 : i < j) (h2 : j < i + l.length) : ixn l i ≠ ixn l j := by
  intro e
  have hj : j = i + ((j - i).toNat : Nat) := by omega
  rw [hj, ix_add h] at e
  have hl := ix_lt h i
  by_cases c : ixn l i + (j - i).toNat < l.length
  · rw [Nat.mod_eq_of_lt c] at e; omega
  · rw [Nat.mod_eq_sub_mod (by omega), Nat.mod_eq_of_lt (by omega)] at e; omega
theorem cyc_of {l : List V2} (hr : RingOk l) (hl : LeftP l) : Cyc l.length (cycP l) := by
  have h3 := hr.three
  have hp := hr.pre
  have nx : ∀ i : Int, gt l (ixn l (i + 1)) = nxt l (ixn l i) := fun i => by
    have := ix_add h3 i 1
    rw [show i + ((1 : Nat) : Int) = i + 1 by omega] at this
    rw [this]; rfl
  have lx : ∀ i : Int, gt l (ixn l (i - 1)) = lst l (ixn l i) := fun i => by
    have h1 := ix_add h3 (i - 1) 1
    rw [show i - 1 + ((1 : Nat) : Int) = i by omega] at h1
    have hk := ix_lt h3 (i - 1)
    unfold lst
    rw [h1]
    congr 1
    by_cases c : ixn l (i - 1) + 1 < l.length
    · rw [Nat.mod_eq_of_lt c, show ixn l (i - 1) + 1 + l.length - 1 = ixn l (i - 1) + l.length by omega, Nat.add_mod_right, Nat.mod_eq_of_lt hk]
    · rw [show ixn l (i - 1) + 1 = l.length by omega, Nat.mod_self, Nat.zero_add, Nat.mod_eq_of_lt (by omega)]; omega
  refine ⟨by omega, fun i => ?_, fun i j h1 h2 e => ?_, fun i => ?_, fun i j h1 h2 => ?_⟩
  · unfold cycP
    have := ix_add h3 i l.length
    rw [this, Nat.add_mod_right, Nat.mod_eq_of_lt (ix_lt h3 i)]
  · have hi := ix_lt h3 i
    have hj := ix_lt h3 j
    have n1 := near_in hr.near (ixn l i)
    have n2 := near_in hr.near (ixn l j)
    simp only [cycP, fS] at e
    obtain ⟨a1, a2, a3, a4⟩ := n1
    obtain ⟨b1, b2, b3, b4⟩ := n2
    exact ix_inj h3 h1 h2 (dist_lt hr hi hj (V2.ext (by omega) (by omega)))
  · unfold cycP
    rw [trS, nx, lx]
    have := hl _ (ix_lt h3 i)
    omega
  · unfold cycP
    refine nmS ?_
    rw [nx, nx]
    have a1 := ix_add h3 i 1
    have a2 := ix_add h3 j 1
    rw [show i + ((1 : Nat) : Int) = i + 1 by omega] at a1
    rw [show j + ((1 : Nat) : Int) = j + 1 by omega] at a2
    refine hp.apart _ (ix_lt h3 i) _ (ix_lt h3 j) (ix_inj h3 (by omega) (by omega)) ?_ ?_
    · rw [← a1]; exact (ix_inj h3 (by omega) (by omega)).symm
    · rw [← a2]
      have : ixn l i = ixn l (i + l.length) := by rw [ix_add h3, Nat.add_mod_right, Nat.mod_eq_of_lt (ix_lt h3 i)]
      rw [this]
      exact (ix_inj h3 (by omega) (by omega)).symm
/-- Each vertex lies on or left of each edge. -/
theorem ring_convex {l : List V2} (hr : RingOk l) (hl : LeftP l) {i j : Nat} (hi : i < l.length) (hj : j < l.length) : 0 ≤ trP (gt l i) (nxt l i) (gt l j) := by
  have h3 := hr.three
  have := (cyc_of hr hl).convex i j
  have a1 := ix_add h3 (i : Int) 1
  rw [show (i : Int) + ((1 : Nat) : Int) = i + 1 by omega, ix_nat hi] at a1
  simp only [cycP] at this
  rw [trS, ix_nat hi, ix_nat hj, a1] at this
  have e : nxt l i = gt l ((i + 1) % l.length) := rfl
  rw [e]; omega
end Sg
end Go.Vm
