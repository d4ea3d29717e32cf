/-
  Layer 9's rings, the plain laws: the eight symmetries keep what a ring is, and where a point lies.
  Layer 9's rings, the plain laws: the mapped ring is a ring, of the same area, turned to the same side; a mapped point lies at the same place.
-/
import Derived.Test.YtgmlblmkcbcgaaaRingS
namespace Go.Vm
set_option maxRecDepth 20000
set_option linter.unusedVariables false
set_option linter.unusedSimpArgs false
open Go Go.RowKit Go.Proofs
namespace Sg

def boxC (a b p : V2) : Prop := (a.x ≤ p.x ∨ b.x ≤ p.x) ∧ (p.x ≤ a.x ∨ p.x ≤ b.x) ∧ (a.y ≤ p.y ∨ b.y ≤ p.y) ∧ (p.y ≤ a.y ∨ p.y ≤ b.y)
theorem onL_iff {a b p : V2} : OnL a b p ↔ trP a b p = 0 ∧ boxC a b p := Iff.rfl
theorem sd_tr (a b p : V2) : sdP ⟨a, b⟩ (ptOf p) = trP a b p := by
  unfold sdP trP
  congr 1
  simp only [toV, ptOf, subP]
  congr 1 <;> omega
theorem crs_dec (a b p : V2) : crsP ⟨a, b⟩ (ptOf p) = decide ((a.y ≤ p.y ∧ p.y < b.y ∧ 0 < trP a b p) ∨ (b.y ≤ p.y ∧ p.y < a.y ∧ trP a b p ≤ 0)) := by
  show ((!(decide (0 ≤ p.y - a.y * 1) == decide (0 ≤ p.y - b.y * 1))) && (decide (0 ≤ p.y - a.y * 1) == decide (0 < sdP ⟨a, b⟩ (ptOf p)))) = _
  rw [sd_tr]
  generalize c1 : decide (0 ≤ p.y - a.y * 1) = x1
  generalize c2 : decide (0 ≤ p.y - b.y * 1) = x2
  generalize c3 : decide (0 < trP a b p) = x3
  generalize c4 : decide ((a.y ≤ p.y ∧ p.y < b.y ∧ 0 < trP a b p) ∨ (b.y ≤ p.y ∧ p.y < a.y ∧ trP a b p ≤ 0)) = x4
  cases x1 <;> cases x2 <;> cases x3 <;> cases x4 <;> simp only [decide_eq_true_eq, decide_eq_false_iff_not] at c1 c2 c3 c4 <;> first | rfl | (exfalso; omega)
/-- A map of the plane that keeps what rings are made of; it mirrors or not. -/
structure Iso (f : V2 → V2) (m : Bool) : Prop where
  cr : ∀ a b, crossP (f a) (f b) = bif m then -crossP a b else crossP a b
  tr : ∀ a b c, trP (f a) (f b) (f c) = bif m then -trP a b c else trP a b c
  bx : ∀ a b p, boxC (f a) (f b) (f p) ↔ boxC a b p
  inn : ∀ k v, In k v → In k (f v)
  par : ∀ (l : List V2) p, 0 < l.length → (∀ i, i < l.length → ¬ OnL (gt l i) (nxt l i) p) → parN l.length (fun i => crsP (edge (l.map f) i) (ptOf (f p))) = parN l.length (fun i => crsP (edge l i) (ptOf p))
theorem map_at (f : V2 → V2) {l : List V2} {i : Nat} (hi : i < l.length) : gt (l.map f) i = f (gt l i) := by simp [gt, List.getD, hi]
theorem map_nxt (f : V2 → V2) {l : List V2} {i : Nat} (hi : i < l.length) : nxt (l.map f) i = f (nxt l i) := by
  unfold nxt
  rw [List.length_map, map_at f (Nat.mod_lt _ (by omega))]
theorem map_lst (f : V2 → V2) {l : List V2} {i : Nat} (hi : i < l.length) : lst (l.map f) i = f (lst l i) := by
  unfold lst
  rw [List.length_map, map_at f (Nat.mod_lt _ (by omega))]
theorem Iso.on {f : V2 → V2} {m : Bool} (h : Iso f m) {a b p : V2} : OnL (f a) (f b) (f p) ↔ OnL a b p := by
  rw [onL_iff, onL_iff, h.tr, h.bx]
  cases m <;> simp only [cond_true, cond_false, Int.neg_eq_zero]
theorem Iso.id : Iso (fun v => v) false := ⟨fun _ _ => rfl, fun _ _ _ => rfl, fun _ _ _ => Iff.rfl, fun _ _ h => h, fun l p _ _ => by rw [List.map_id'']; intro x; rfl⟩
theorem Iso.comp {f g : V2 → V2} {m n : Bool} (h : Iso f m) (k : Iso g n) : Iso (fun v => f (g v)) (xor m n) := by
  refine ⟨fun a b => ?_, fun a b c => ?_, fun a b p => (h.bx _ _ _).trans (k.bx _ _ _), fun j v hv => h.inn j _ (k.inn j v hv), fun l p h0 hp => ?_⟩
  · rw [h.cr, k.cr]; cases m <;> cases n <;> simp
  · rw [h.tr, k.tr]; cases m <;> cases n <;> simp
  · have e := h.par (l.map g) (g p) (by rw [List.length_map]; exact h0) (fun i hi => by
      rw [List.length_map] at hi
      rw [map_at g hi, map_nxt g hi]
      exact fun q => hp i hi (k.on.1 q))
    rw [List.length_map, List.map_map] at e
    exact e.trans (k.par l p h0 hp)
theorem step_par {l : List V2} (u : V2 → Bool) (c c' : V2 → V2 → Bool) (h0 : 0 < l.length) (h : ∀ i, i < l.length → xor (c (gt l i) (nxt l i)) (c' (gt l i) (nxt l i)) = xor (u (gt l i)) (u (nxt l i))) :
    parN l.length (fun i => c (gt l i) (nxt l i)) = parN l.length (fun i => c' (gt l i) (nxt l i)) := by
  have e1 : parN l.length (fun i => xor (c (gt l i) (nxt l i)) (c' (gt l i) (nxt l i))) = parN l.length (fun i => xor ((fun i => u (gt l i)) i) ((fun i => u (gt l i)) ((i + 1) % l.length))) := parN_congr (fun i hi => h i hi)
  rw [parN_xor (fun i => c (gt l i) (nxt l i)), parN_step (fun i => u (gt l i)) h0] at e1
  revert e1
  generalize parN l.length (fun i => c (gt l i) (nxt l i)) = x1
  generalize parN l.length (fun i => c' (gt l i) (nxt l i)) = x2
  cases x1 <;> cases x2 <;> decide
def fX (v : V2) : V2 := ⟨-v.x, v.y⟩
def fT (v : V2) : V2 := ⟨v.y, v.x⟩
theorem isoX : Iso fX true := by
  refine ⟨fun a b => ?_, fun a b c => ?_, fun a b p => ?_, fun k v hv => ?_, fun l p h0 hp => ?_⟩
  · simp only [crossP, fX, cond_true]; grind
  · simp only [trP, crossP, subP, fX, cond_true]; grind
  · simp only [boxC, fX]; omega
  · obtain ⟨h1, h2, h3, h4⟩ := hv
    exact ⟨by simp only [fX]; omega, by simp only [fX]; omega, h3, h4⟩
  · have e : parN l.length (fun i => crsP (edge (l.map fX) i) (ptOf (fX p))) = parN l.length (fun i => crsP ⟨fX (gt l i), fX (nxt l i)⟩ (ptOf (fX p))) := parN_congr (fun i hi => by rw [edge, map_at fX hi, map_nxt fX hi])
    rw [e]
    refine step_par (fun v => decide (v.y ≤ p.y)) (fun a b => crsP ⟨fX a, fX b⟩ (ptOf (fX p))) (fun a b => crsP ⟨a, b⟩ (ptOf p)) h0 (fun i hi => ?_)
    have hn := hp i hi
    generalize gt l i = a at hn
    generalize nxt l i = b at hn
    have k1 : ¬ (trP a b p = 0 ∧ a.y < b.y ∧ a.y ≤ p.y ∧ p.y ≤ b.y) := fun ⟨k0, k1, k2, k3⟩ => hn (on_level k0 k1 k2 k3)
    have k2 : ¬ (trP b a p = 0 ∧ b.y < a.y ∧ b.y ≤ p.y ∧ p.y ≤ a.y) := fun ⟨k0, k1, k2, k3⟩ => hn (onL_swap.1 (on_level k0 k1 k2 k3))
    rw [tr_swap a b p] at k2
    show xor (crsP ⟨fX a, fX b⟩ (ptOf (fX p))) (crsP ⟨a, b⟩ (ptOf p)) = xor (decide (a.y ≤ p.y)) (decide (b.y ≤ p.y))
    rw [crs_dec, crs_dec]
    have ht : trP (fX a) (fX b) (fX p) = -trP a b p := by simp only [trP, crossP, subP, fX]; grind
    rw [ht]
    show xor (decide ((a.y ≤ p.y ∧ p.y < b.y ∧ 0 < -trP a b p) ∨ (b.y ≤ p.y ∧ p.y < a.y ∧ -trP a b p ≤ 0))) _ = _
    generalize c1 : decide ((a.y ≤ p.y ∧ p.y < b.y ∧ 0 < -trP a b p) ∨ (b.y ≤ p.y ∧ p.y < a.y ∧ -trP a b p ≤ 0)) = x1
    generalize c2 : decide ((a.y ≤ p.y ∧ p.y < b.y ∧ 0 < trP a b p) ∨ (b.y ≤ p.y ∧ p.y < a.y ∧ trP a b p ≤ 0)) = x2
    generalize c3 : decide (a.y ≤ p.y) = x3
    generalize c4 : decide (b.y ≤ p.y) = x4
    clear hn ht
    cases x1 <;> cases x2 <;> cases x3 <;> cases x4 <;> simp only [decide_eq_true_eq, decide_eq_false_iff_not] at c1 c2 c3 c4 <;> first | rfl | (exfalso; omega)
theorem prs (x y : Int) : (0 < x ∧ 0 < y ∧ 0 < x * y) ∨ (0 < x ∧ y ≤ 0 ∧ x * y ≤ 0) ∨ (x ≤ 0 ∧ 0 < y ∧ x * y ≤ 0) ∨ (x ≤ 0 ∧ y ≤ 0 ∧ 0 ≤ x * y) := by
  rcases Int.lt_or_le 0 x with h | h <;> rcases Int.lt_or_le 0 y with k | k
  · exact .inl ⟨h, k, Int.mul_pos h k⟩
  · exact .inr (.inl ⟨h, k, Int.mul_nonpos_of_nonneg_of_nonpos (Int.le_of_lt h) k⟩)
  · exact .inr (.inr (.inl ⟨h, k, wn h (Int.le_of_lt k)⟩))
  · exact .inr (.inr (.inr ⟨h, k, Int.mul_nonneg_of_nonpos_of_nonpos h k⟩))
theorem isoT : Iso fT true := by
  have htr : ∀ a b c, trP (fT a) (fT b) (fT c) = -trP a b c := fun a b c => by simp only [trP, crossP, subP, fT]; grind
  have hbx : ∀ a b p, boxC (fT a) (fT b) (fT p) ↔ boxC a b p := fun a b p => by simp only [boxC, fT]; omega
  refine ⟨fun a b => ?_, htr, hbx, fun k v hv => ?_, fun l p h0 hp => ?_⟩
  · simp only [crossP, fT, cond_true]; grind
  · obtain ⟨h1, h2, h3, h4⟩ := hv
    exact ⟨h3, h4, h1, h2⟩
  · have e : parN l.length (fun i => crsP (edge (l.map fT) i) (ptOf (fT p))) = parN l.length (fun i => crsP ⟨fT (gt l i), fT (nxt l i)⟩ (ptOf (fT p))) := parN_congr (fun i hi => by rw [edge, map_at fT hi, map_nxt fT hi])
    rw [e]
    refine step_par (fun v => decide (p.x < v.x ∧ p.y < v.y)) (fun a b => crsP ⟨fT a, fT b⟩ (ptOf (fT p))) (fun a b => crsP ⟨a, b⟩ (ptOf p)) h0 (fun i hi => ?_)
    have hn := hp i hi
    generalize gt l i = a at hn
    generalize nxt l i = b at hn
    have hno : ¬ OnL (fT a) (fT b) (fT p) := fun ⟨q1, q2⟩ => hn ⟨by rw [htr] at q1; omega, (hbx a b p).1 q2⟩
    have k1 : ¬ (trP a b p = 0 ∧ a.y < b.y ∧ a.y ≤ p.y ∧ p.y ≤ b.y) := fun ⟨k0, k1, k2, k3⟩ => hn (on_level k0 k1 k2 k3)
    have k2 : ¬ (trP b a p = 0 ∧ b.y < a.y ∧ b.y ≤ p.y ∧ p.y ≤ a.y) := fun ⟨k0, k1, k2, k3⟩ => hn (onL_swap.1 (on_level k0 k1 k2 k3))
    have k3 : ¬ (trP (fT a) (fT b) (fT p) = 0 ∧ a.x < b.x ∧ a.x ≤ p.x ∧ p.x ≤ b.x) := fun ⟨k0, k1, k2, k3⟩ => hno (on_level k0 k1 k2 k3)
    have k4 : ¬ (trP (fT b) (fT a) (fT p) = 0 ∧ b.x < a.x ∧ b.x ≤ p.x ∧ p.x ≤ a.x) := fun ⟨k0, k1, k2, k3⟩ => hno (onL_swap.1 (on_level k0 k1 k2 k3))
    rw [htr] at k3 k4
    rw [tr_swap a b p] at k2 k4
    show xor (crsP ⟨fT a, fT b⟩ (ptOf (fT p))) (crsP ⟨a, b⟩ (ptOf p)) = xor (decide (p.x < a.x ∧ p.y < a.y)) (decide (p.x < b.x ∧ p.y < b.y))
    rw [crs_dec, crs_dec, htr]
    show xor (decide ((a.x ≤ p.x ∧ p.x < b.x ∧ 0 < -trP a b p) ∨ (b.x ≤ p.x ∧ p.x < a.x ∧ -trP a b p ≤ 0))) _ = _
    have ht : trP a b p = (a.x - p.x) * (b.y - p.y) - (a.y - p.y) * (b.x - p.x) := by simp only [trP, crossP, subP]; grind
    have s1 := prs (a.x - p.x) (b.y - p.y)
    have s2 := prs (a.y - p.y) (b.x - p.x)
    generalize (a.x - p.x) * (b.y - p.y) = m1 at *
    generalize (a.y - p.y) * (b.x - p.x) = m2 at *
    generalize trP a b p = t at *
    generalize c1 : decide ((a.x ≤ p.x ∧ p.x < b.x ∧ 0 < -t) ∨ (b.x ≤ p.x ∧ p.x < a.x ∧ -t ≤ 0)) = x1
    generalize c2 : decide ((a.y ≤ p.y ∧ p.y < b.y ∧ 0 < t) ∨ (b.y ≤ p.y ∧ p.y < a.y ∧ t ≤ 0)) = x2
    generalize c3 : decide (p.x < a.x ∧ p.y < a.y) = x3
    generalize c4 : decide (p.x < b.x ∧ p.y < b.y) = x4
    clear hn hno e hp htr hbx
    rcases s1 with s1 | s1 | s1 | s1 <;> rcases s2 with s2 | s2 | s2 | s2 <;>
      cases x1 <;> cases x2 <;> cases x3 <;> cases x4 <;> simp only [decide_eq_true_eq, decide_eq_false_iff_not] at c1 c2 c3 c4 <;> first | rfl | (exfalso; omega)
end Sg
end Go.Vm
namespace Go.Vm
set_option maxRecDepth 20000
set_option linter.unusedVariables false
set_option linter.unusedSimpArgs false
open Go Go.RowKit Go.Proofs
namespace Sg

/-- What a ring is, but for its direction. -/
structure Pre (l : List V2) : Prop where
  three : 3 ≤ l.length
  forty : l.length ≤ 40
  near : nearR l = true
  turns : ∀ i, i < l.length → trP (lst l i) (gt l i) (nxt l i) ≠ 0
  apart : ∀ i, i < l.length → ∀ k, k < l.length → i ≠ k → k ≠ (i + 1) % l.length → i ≠ (k + 1) % l.length → NM (gt l i) (nxt l i) (gt l k) (nxt l k)
theorem turn_tr (a b c : V2) : turnP a b c = sgnI (trP a b c) := rfl
theorem RingOk.pre {l : List V2} (h : RingOk l) : Pre l := ⟨h.three, h.forty, h.near, fun i hi k => h.turns i hi (by rw [turn_tr, k]; rfl), fun i hi k hk h1 h2 h3 => (nm_meet (edge_valid h.near i) (edge_valid h.near k)).1 (h.apart i hi k hk h1 h2 h3)⟩
theorem Pre.ok {l : List V2} (h : Pre l) (ha : 0 < areaZ l) : RingOk l := ⟨h.three, h.forty, h.near, ha, fun i hi k => h.turns i hi (sgn_zero.1 (by rw [← turn_tr]; exact k)), fun i hi k hk h1 h2 h3 => (nm_meet (edge_valid h.near i) (edge_valid h.near k)).2 (h.apart i hi k hk h1 h2 h3)⟩
theorem NM.map {f : V2 → V2} {m : Bool} (hI : Iso f m) {a b p q : V2} (h : NM a b p q) : NM (f a) (f b) (f p) (f q) := by
  refine ⟨fun k => h.a_ (hI.on.1 k), fun k => h.b_ (hI.on.1 k), fun k => h.p_ (hI.on.1 k), fun k => h.q_ (hI.on.1 k), fun k => h.cr ?_⟩
  rw [hI.tr, hI.tr, hI.tr, hI.tr] at k
  cases m
  · exact k
  · simp only [cond_true] at k
    omega
theorem Iso.near {f : V2 → V2} {m : Bool} (hI : Iso f m) {l : List V2} (hn : nearR l = true) : nearR (l.map f) = true := near_true (fun i hi => by
  rw [List.length_map] at hi
  rw [map_at f hi]
  exact (hI.inn _ _ (near_in hn i)).within (by decide) (by decide))
theorem Pre.map {f : V2 → V2} {m : Bool} (hI : Iso f m) {l : List V2} (h : Pre l) : Pre (l.map f) := by
  refine ⟨by rw [List.length_map]; exact h.three, by rw [List.length_map]; exact h.forty, hI.near h.near, fun i hi => ?_, fun i hi k hk h1 h2 h3 => ?_⟩
  · rw [List.length_map] at hi
    rw [map_at f hi, map_nxt f hi, map_lst f hi, hI.tr]
    have := h.turns i hi
    cases m
    · exact this
    · simp only [cond_true]; omega
  · rw [List.length_map] at hi hk h2 h3
    rw [map_at f hi, map_nxt f hi, map_at f hk, map_nxt f hk]
    exact (h.apart i hi k hk h1 h2 h3).map hI
theorem tr_rev (a b c : V2) : trP c b a = -trP a b c := by
  simp only [trP, crossP, subP]
  grind
/-- The edge that the reversed ring's i-th edge is. -/
def jx (n i : Nat) : Nat := if i + 1 = n then n - 1 else n - 2 - i
theorem md1 {n i : Nat} (hi : i < n) : (i + 1) % n = if i + 1 = n then 0 else i + 1 := by
  split
  · rename_i h; rw [h, Nat.mod_self]
  · rw [Nat.mod_eq_of_lt (by omega)]
theorem jx_lt {n i : Nat} (hi : i < n) : jx n i < n := by unfold jx; split <;> omega
section
variable {l l' : List V2}
theorem Rev.ends (h : Rev l l') {i : Nat} (hi : i < l.length) : gt l' i = Sg.nxt l (jx l.length i) ∧ Sg.nxt l' i = gt l (jx l.length i) := by
  have hj := jx_lt hi
  refine ⟨?_, ?_⟩
  · rw [h.at_ i hi, Sg.nxt, md1 hj]
    congr 1
    unfold jx
    split <;> split <;> omega
  · rw [h.nxt hi]
    unfold Sg.lst jx
    congr 1
    split
    · rw [show l.length - 1 - i + l.length - 1 = l.length - 1 by omega, Nat.mod_eq_of_lt (by omega)]
    · rw [show l.length - 1 - i + l.length - 1 = (l.length - 2 - i) + l.length by omega, Nat.add_mod_right, Nat.mod_eq_of_lt (by omega)]
theorem Pre.rev (h : Rev l l') (hp : Pre l) : Pre l' := by
  refine ⟨by rw [h.len]; exact hp.three, by rw [h.len]; exact hp.forty, h.near hp.near, fun i hi => ?_, fun i hi k hk h1 h2 h3 => ?_⟩
  · rw [h.len] at hi
    rw [h.at_ i hi, h.nxt hi, h.lst hi, tr_rev]
    have := hp.turns (l.length - 1 - i) (by omega)
    omega
  · rw [h.len] at hi hk h2 h3
    rw [md1 hi] at h2
    rw [md1 hk] at h3
    obtain ⟨e1, e2⟩ := h.ends hi
    obtain ⟨e3, e4⟩ := h.ends hk
    rw [e1, e2, e3, e4]
    refine NM.rev (NM.swap (hp.apart _ (jx_lt hi) _ (jx_lt hk) ?_ ?_ ?_))
    · unfold jx; split <;> split <;> omega
    · rw [md1 (jx_lt hi)]
      unfold jx
      revert h2 h3
      (repeat' split) <;> omega
    · rw [md1 (jx_lt hk)]
      unfold jx
      revert h2 h3
      (repeat' split) <;> omega
def LeftP (l : List V2) : Prop := ∀ i, i < l.length → 0 < trP (lst l i) (gt l i) (nxt l i)
theorem sgn_pos {x : Int} : 0 < sgnI x ↔ 0 < x := by
  unfold sgnI
  split
  · omega
  · split <;> omega
theorem left_iff (hn : nearR l = true) : leftB l = true ↔ LeftP l := by
  unfold leftB LeftP
  rw [allB_iff]
  refine forall_congr' (fun i => ?_)
  have e : turnW (Sg.lst l i) (gt l i) (Sg.nxt l i) = turnP (Sg.lst l i) (gt l i) (Sg.nxt l i) := by rw [Sg.lst, Sg.nxt, turn_eq hn]
  rw [e, turn_tr]
  simp only [decide_eq_true_eq, sgn_pos]
theorem parN_rev (f : Nat → Bool) : ∀ n, parN n (fun i => f (n - 1 - i)) = parN n f
  | 0 => rfl
  | n + 1 => by
    have e1 : parN (n + 1) (fun i => f (n + 1 - 1 - i)) = parN (1 + n) (fun i => f (n + 1 - 1 - i)) := by rw [Nat.add_comm]
    rw [e1, parN_add]
    have e2 : parN n (fun i => f (n + 1 - 1 - (1 + i))) = parN n (fun i => f (n - 1 - i)) := parN_congr (fun i hi => by congr 1; omega)
    rw [e2, parN_rev f n]
    simp only [parN]
    rw [show n + 1 - 1 - 0 = n by omega, Bool.false_xor, Bool.xor_comm]
theorem parN_jx (g : Nat → Bool) {n : Nat} (h0 : 0 < n) : parN n (fun i => g (jx n i)) = parN n g := by
  have e : parN n (fun i => g (jx n i)) = parN n (fun i => (fun t => g ((n - 1 + t) % n)) (n - 1 - i)) := parN_congr (fun i hi => by
    congr 1
    unfold jx
    split
    · rw [show n - 1 + (n - 1 - i) = n - 1 by omega, Nat.mod_eq_of_lt (by omega)]
    · rw [show n - 1 + (n - 1 - i) = (n - 2 - i) + n by omega, Nat.add_mod_right, Nat.mod_eq_of_lt (by omega)])
  rw [e, parN_rev (fun t => g ((n - 1 + t) % n)), parN_rot g (by omega)]
theorem any_iff {P : V2} : onAny l (ptOf P) = false ↔ ∀ i, i < l.length → ¬ OnL (gt l i) (nxt l i) P := by
  unfold onAny
  rw [Bool.not_eq_false', allB_iff]
  refine forall_congr' (fun i => forall_congr' (fun hi => ?_))
  rw [Bool.not_eq_true', ← Bool.not_eq_true, edge, onP_onL]
theorem rev_where (h : Rev l l') (h0 : 0 < l.length) (P : V2) : wherePl l' (ptOf P) = wherePl l (ptOf P) := by
  have e1 : onAny l' (ptOf P) = onAny l (ptOf P) := by
    have : onAny l' (ptOf P) = false ↔ onAny l (ptOf P) = false := by
      rw [any_iff, any_iff, h.len]
      constructor
      · intro k i hi q
        have hj := jx_lt hi
        obtain ⟨e1, e2⟩ := h.ends hj
        refine k _ hj ?_
        have : jx l.length (jx l.length i) = i := by unfold jx; split <;> split <;> omega
        rw [e1, e2, this]
        exact onL_swap.1 q
      · intro k i hi q
        obtain ⟨e1, e2⟩ := h.ends hi
        rw [e1, e2] at q
        exact k _ (jx_lt hi) (onL_swap.1 q)
    revert this
    generalize onAny l' (ptOf P) = x1
    generalize onAny l (ptOf P) = x2
    cases x1 <;> cases x2 <;> simp
  unfold wherePl
  rw [e1]
  by_cases ho : onAny l (ptOf P) = true
  · rw [if_pos ho, if_pos ho]
  · have hf := any_iff.1 (by simpa using ho)
    have e2 : parK l' (ptOf P) l'.length = parK l (ptOf P) l.length := by
      rw [parK_eq, parK_eq, h.len]
      have e3 : parN l.length (fun i => crsP (edge l' i) (ptOf P)) = parN l.length (fun i => (fun j => crsP (edge l j) (ptOf P)) (jx l.length i)) := parN_congr (fun i hi => by
        obtain ⟨e1, e2⟩ := h.ends hi
        show crsP ⟨gt l' i, Sg.nxt l' i⟩ _ = crsP ⟨gt l (jx l.length i), Sg.nxt l (jx l.length i)⟩ _
        rw [e1, e2]
        exact crs_rev (hf _ (jx_lt hi)))
      rw [e3, parN_jx (fun j => crsP (edge l j) (ptOf P)) h0]
    rw [e2]
theorem Rev.leftN (h : Rev l l') : LeftP l' ↔ ∀ i, i < l.length → trP (Sg.lst l i) (gt l i) (Sg.nxt l i) < 0 := by
  unfold LeftP
  rw [h.len]
  constructor
  · intro k i hi
    have := k (l.length - 1 - i) (by omega)
    rw [h.at_ _ (by omega), h.nxt (by omega), h.lst (by omega), tr_rev, show l.length - 1 - (l.length - 1 - i) = i by omega] at this
    omega
  · intro k i hi
    have := k (l.length - 1 - i) (by omega)
    rw [h.at_ _ (by omega), h.nxt (by omega), h.lst (by omega), tr_rev]
    omega
end

/-- The mapped ring, in the direction of a ring. -/
def isoR (f : V2 → V2) (m : Bool) (l : List V2) : List V2 := bif m then (l.map f).reverse else l.map f
section
variable {f : V2 → V2} {m : Bool} {l : List V2}
theorem iso_len : (isoR f m l).length = l.length := by unfold isoR; cases m <;> simp
theorem sumN_neg {g h : Nat → Int} : ∀ n, (∀ i, i < n → g i = -h i) → sumN n g = -sumN n h
  | 0, _ => rfl
  | n + 1, k => by simp only [sumN]; rw [sumN_neg n (fun i hi => k i (by omega)), k n (by omega)]; omega
theorem iso_area (hI : Iso f m) : areaZ (isoR f m l) = areaZ l := by
  have e : areaZ (l.map f) = bif m then -areaZ l else areaZ l := by
    unfold areaZ
    rw [List.length_map]
    cases m with
    | false => exact sumN_congr (fun i hi => by rw [map_at f hi, map_nxt f hi, hI.cr]; rfl)
    | true => exact sumN_neg _ (fun i hi => by rw [map_at f hi, map_nxt f hi, hI.cr]; rfl)
  unfold isoR
  cases m with
  | false => exact e
  | true =>
    show areaZ (l.map f).reverse = _
    rw [(rev_reverse _).area, e]
    show - -areaZ l = _
    omega
theorem iso_ok (hI : Iso f m) (hr : RingOk l) : RingOk (isoR f m l) := by
  have ha := iso_area (l := l) hI
  have hp : Pre (isoR f m l) := by
    have := hr.pre.map hI
    unfold isoR
    cases m with
    | false => exact this
    | true => exact Pre.rev (rev_reverse _) this
  exact hp.ok (by rw [ha]; exact hr.area)
theorem iso_left (hI : Iso f m) (hr : RingOk l) : leftB (isoR f m l) = leftB l := by
  rw [Bool.eq_iff_iff, left_iff (iso_ok hI hr).near, left_iff hr.near]
  unfold isoR
  cases m with
  | false =>
    show LeftP (l.map f) ↔ _
    unfold LeftP
    rw [List.length_map]
    refine forall_congr' (fun i => forall_congr' (fun hi => ?_))
    rw [map_at f hi, map_nxt f hi, map_lst f hi, hI.tr]
    rfl
  | true =>
    show LeftP (l.map f).reverse ↔ _
    rw [(rev_reverse _).leftN, List.length_map]
    unfold LeftP
    refine forall_congr' (fun i => forall_congr' (fun hi => ?_))
    rw [map_at f hi, map_nxt f hi, map_lst f hi, hI.tr]
    show -trP _ _ _ < 0 ↔ _
    omega
theorem iso_convex (hI : Iso f m) (hr : RingOk l) : convexR (isoR f m l) = convexR l := by
  unfold convexR
  rw [iso_left hI hr, ring_ok.2 hr, ring_ok.2 (iso_ok hI hr)]
theorem iso_where (hI : Iso f m) (h0 : 0 < l.length) (P : V2) : wherePl (isoR f m l) (ptOf (f P)) = wherePl l (ptOf P) := by
  have e : wherePl (l.map f) (ptOf (f P)) = wherePl l (ptOf P) := by
    have e1 : onAny (l.map f) (ptOf (f P)) = onAny l (ptOf P) := by
      have : onAny (l.map f) (ptOf (f P)) = false ↔ onAny l (ptOf P) = false := by
        rw [any_iff, any_iff, List.length_map]
        refine forall_congr' (fun i => forall_congr' (fun hi => ?_))
        rw [map_at f hi, map_nxt f hi, hI.on]
      revert this
      generalize onAny (l.map f) (ptOf (f P)) = x1
      generalize onAny l (ptOf P) = x2
      cases x1 <;> cases x2 <;> simp
    unfold wherePl
    rw [e1]
    by_cases ho : onAny l (ptOf P) = true
    · rw [if_pos ho, if_pos ho]
    · have hf := any_iff.1 (by simpa using ho)
      rw [parK_eq, parK_eq, List.length_map, hI.par l P h0 hf]
  unfold isoR
  cases m with
  | false => exact e
  | true => exact (rev_where (rev_reverse _) (by rw [List.length_map]; exact h0) _).trans e
end
end Sg
end Go.Vm
