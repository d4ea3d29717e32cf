/-
  Layer 8: the statements' first look at the examples.
  Layer 8, the plain laws: what a ring's validity, area and sides say, whatever vertex it begins with.
-/
import Derived.Test.YtgmlblmkcbcgaaaRingJ
import Derived.Test.YtgmlblmkcbcgaaaSegP
namespace Go.Vm
set_option maxRecDepth 20000
set_option linter.unusedVariables false
set_option linter.unusedSimpArgs false
open Go Go.RowKit Go.Proofs
namespace Sg

abbrev sq4 : List V2 := [⟨0, 0⟩, ⟨4, 0⟩, ⟨4, 4⟩, ⟨0, 4⟩]
abbrev pts5 : List V2 := [⟨4, 4⟩, ⟨4, 0⟩, ⟨2, 0⟩, ⟨0, 0⟩, ⟨0, 4⟩]
theorem SLe.lit {l : List V2} {n : Nat} {get : Nat → Nat → SV} (hn : n = l.length) (h : ∀ i, i < n → get i 0 = vG l i 0 ∧ get i 1 = vG l i 1) : SLe (.sl n 2 get) (vlS l) :=
  SLe.slN hn (fun i hi j hj => SLe.of_eq (by
    match j, hj with
    | 0, _ => exact (h i hi).1
    | 1, _ => exact (h i hi).2))
theorem square_det : Det Try.prog 60 [.one (i64 4)] (.d (.one (vlS sq4))) := by
  refine det_of_awp TTok mixed Try.func60 rfl rfl [] (Nat.le_of_ble_eq_true rfl) ?_
  refine Fin.one (SLe.lit rfl (fun i hi => ?_))
  match i, hi with
  | 0, _ => exact ⟨rfl, rfl⟩
  | 1, _ => exact ⟨rfl, rfl⟩
  | 2, _ => exact ⟨rfl, rfl⟩
  | 3, _ => exact ⟨rfl, rfl⟩
theorem ex_valid : validR sq4 = true := by kernel_rfl
theorem ex_area : area2R sq4 = 32 := by kernel_rfl
theorem ex_in : whereV sq4 ⟨2, 2⟩ = 2 := by kernel_rfl
theorem ex_on : whereV sq4 ⟨4, 1⟩ = 1 := by kernel_rfl
theorem ex_out : whereV sq4 ⟨5, 5⟩ = 0 := by kernel_rfl
theorem ex_convex : convexR sq4 = true := by kernel_rfl
theorem ex_clean : (cleanR pts5).1 = sq4 ∧ (cleanR pts5).2 = 0 := by
  have : decide ((cleanR pts5).1 = sq4 ∧ (cleanR pts5).2 = 0) = true := by kernel_rfl
  exact of_decide_eq_true this
theorem awake8_det : Det Try.prog 25 [] (tbool true) := by
  refine det_of_awp TTok mixed Try.func25 rfl rfl [] (Nat.le_of_ble_eq_true rfl) ?_
  have hcl : Det Try.prog 33 [.one (vlS pts5)] (ringE sq4 0) := by
    have := clean_det pts5 (by decide)
    rw [ex_clean.1, ex_clean.2] at this
    exact this
  refine CallW.mk' square_det ?_
  refine CallW.mk' (hcl.le (.cons (DLe.one (SLe.lit rfl (fun i hi => ?_))) .nil)) ?_
  · match i, hi with
    | 0, _ => exact ⟨rfl, rfl⟩
    | 1, _ => exact ⟨rfl, rfl⟩
    | 2, _ => exact ⟨rfl, rfl⟩
    | 3, _ => exact ⟨rfl, rfl⟩
    | 4, _ => exact ⟨rfl, rfl⟩
  refine CallW.mk' ((area2_det sq4 (by decide)).eq (by rw [ex_area])) ?_
  repeat' first | refine Split.t ?_ | fail
  refine CallW.mk' ((whereV_det sq4 ⟨2, 2⟩ (by decide)).eq (by rw [ex_in])) ?_
  repeat' first | refine Split.t ?_ | fail
  refine CallW.mk' ((whereV_det sq4 ⟨4, 1⟩ (by decide)).eq (by rw [ex_on])) ?_
  repeat' first | refine Split.t ?_ | fail
  refine CallW.mk' ((whereV_det sq4 ⟨5, 5⟩ (by decide)).eq (by rw [ex_out])) ?_
  repeat' first | refine Split.t ?_ | fail
  refine CallW.mk' ((valid_det' sq4 (by decide)).eq (by rw [ex_valid])) ?_
  repeat' first | refine Split.t ?_ | fail
  refine CallW.mk' ((convex_det sq4 (by decide)).eq (by rw [ex_convex])) ?_
  repeat' first | refine Split.t ?_ | fail
  refine CallW.mk' ((same_det sq4 sq4 (by decide)).eq (by rw [decide_eq_true rfl])) ?_
  repeat' first | refine Split.t ?_ | fail
  exact Fin.rfl'
end Sg
end Go.Vm
namespace Go.Vm
set_option maxRecDepth 20000
set_option linter.unusedVariables false
set_option linter.unusedSimpArgs false
open Go Go.RowKit Go.Proofs
namespace Sg

/-! ### sums and parities over the edges -/
def sumN : Nat → (Nat → Int) → Int
  | 0, _ => 0
  | n + 1, f => sumN n f + f n
theorem sumN_add (f : Nat → Int) (a : Nat) : ∀ b, sumN (a + b) f = sumN a f + sumN b (fun i => f (a + i))
  | 0 => by simp [sumN]
  | b + 1 => by rw [← Nat.add_assoc]; simp only [sumN]; rw [sumN_add f a b]; omega
theorem sumN_congr {n : Nat} {f g : Nat → Int} (h : ∀ i, i < n → f i = g i) : sumN n f = sumN n g := by
  induction n with
  | zero => rfl
  | succ n ih => simp only [sumN]; rw [ih (fun i hi => h i (by omega)), h n (by omega)]
def parN : Nat → (Nat → Bool) → Bool
  | 0, _ => false
  | n + 1, f => xor (parN n f) (f n)
theorem parN_add (f : Nat → Bool) (a : Nat) : ∀ b, parN (a + b) f = xor (parN a f) (parN b (fun i => f (a + i)))
  | 0 => by simp [parN]
  | b + 1 => by rw [← Nat.add_assoc]; simp only [parN]; rw [parN_add f a b, Bool.xor_assoc]
theorem parN_congr {n : Nat} {f g : Nat → Bool} (h : ∀ i, i < n → f i = g i) : parN n f = parN n g := by
  induction n with
  | zero => rfl
  | succ n ih => simp only [parN]; rw [ih (fun i hi => h i (by omega)), h n (by omega)]
theorem sumN_rot {n k : Nat} (f : Nat → Int) (hk : k ≤ n) : sumN n (fun i => f ((k + i) % n)) = sumN n f := by
  have e1 : sumN n (fun i => f ((k + i) % n)) = sumN (n - k) (fun i => f (k + i)) + sumN k f := by
    conv => lhs; rw [show n = (n - k) + k by omega]
    rw [sumN_add]
    congr 1
    · refine sumN_congr (fun i hi => ?_)
      rw [show n - k + k = n by omega, Nat.mod_eq_of_lt (by omega)]
    · refine sumN_congr (fun i hi => ?_)
      rw [show n - k + k = n by omega, show k + (n - k + i) = i + n by omega, Nat.add_mod_right, Nat.mod_eq_of_lt (by omega)]
  rw [e1]
  conv => rhs; rw [show n = k + (n - k) by omega]
  rw [sumN_add]
  omega
theorem parN_rot {n k : Nat} (f : Nat → Bool) (hk : k ≤ n) : parN n (fun i => f ((k + i) % n)) = parN n f := by
  have e1 : parN n (fun i => f ((k + i) % n)) = xor (parN (n - k) (fun i => f (k + i))) (parN k f) := by
    conv => lhs; rw [show n = (n - k) + k by omega]
    rw [parN_add]
    congr 1
    · refine parN_congr (fun i hi => ?_)
      rw [show n - k + k = n by omega, Nat.mod_eq_of_lt (by omega)]
    · refine parN_congr (fun i hi => ?_)
      rw [show n - k + k = n by omega, show k + (n - k + i) = i + n by omega, Nat.add_mod_right, Nat.mod_eq_of_lt (by omega)]
  rw [e1]
  conv => rhs; rw [show n = k + (n - k) by omega]
  rw [parN_add, Bool.xor_comm]

/-! ### what a valid ring is -/
def areaZ (l : List V2) : Int := sumN l.length fun i => crossP (gt l i) (nxt l i)
theorem areaK_eq {l : List V2} (hn : nearR l = true) : ∀ k, k ≤ 40000 → areaK l k = sumN k (fun i => crossP (gt l i) (nxt l i)) ∧ -(8000000 * (k : Int)) ≤ areaK l k ∧ areaK l k ≤ 8000000 * k
  | 0, _ => by simp [areaK, sumN]
  | k + 1, hk => by
    obtain ⟨h1, h2, h3⟩ := areaK_eq hn k (by omega)
    obtain ⟨e, b1, b2⟩ := crossW_eq (m := 2000) (by decide) (by decide) (near_in hn k) (near_in hn ((k + 1) % l.length))
    have e' : crossW (gt l k) (nxt l k) = crossP (gt l k) (nxt l k) := e
    replace b1 : -8000000 ≤ crossP (gt l k) (nxt l k) := b1
    replace b2 : crossP (gt l k) (nxt l k) ≤ 8000000 := b2
    simp only [areaK, sumN]
    rw [e', wid' (by omega) (by omega), h1]
    rw [h1] at h2 h3
    exact ⟨rfl, by omega, by omega⟩
theorem area_eq {l : List V2} (hn : nearR l = true) (hl : l.length ≤ 40000) : areaW l = areaZ l := (areaK_eq hn l.length hl).1
def apartP (l : List V2) : Prop := ∀ i, i < l.length → ∀ k, k < l.length → i ≠ k → k ≠ (i + 1) % l.length → i ≠ (k + 1) % l.length → rmeetI (edge l i) (edge l k) = 0
structure RingOk (l : List V2) : Prop where
  three : 3 ≤ l.length
  forty : l.length ≤ 40
  near : nearR l = true
  area : 0 < areaZ l
  turns : ∀ i, i < l.length → turnP (lst l i) (gt l i) (nxt l i) ≠ 0
  apart : apartP l
theorem adj_cyc {n i k : Nat} (hi : i < k) (hk : k < n) : adjB n i k = true ↔ (k = (i + 1) % n ∨ i = (k + 1) % n) := by
  simp only [adjB, Bool.or_eq_true, Bool.and_eq_true, decide_eq_true_eq]
  rw [Nat.mod_eq_of_lt (show i + 1 < n by omega)]
  constructor
  · rintro (h | ⟨h1, h2⟩)
    · exact .inl h
    · right; rw [h2, show n - 1 + 1 = n by omega, Nat.mod_self]; exact h1
  · rintro (h | h)
    · exact .inl h
    · by_cases h2 : k + 1 = n
      · rw [h2, Nat.mod_self] at h; exact .inr ⟨h, by omega⟩
      · rw [Nat.mod_eq_of_lt (by omega)] at h; omega
theorem swap_meet (s t : Seg) : rmeetI t s = rmeetI s t := (same_swap s t).agree.1
theorem ring_ok {l : List V2} : validR l = true ↔ RingOk l := by
  constructor
  · intro h
    simp only [validR, headB, Bool.and_eq_true, decide_eq_true_eq] at h
    obtain ⟨⟨⟨⟨⟨h3, h40⟩, hn⟩, h0⟩, hs⟩, ha⟩ := h
    refine ⟨h3, h40, hn, by rw [← area_eq hn (by omega)]; exact h0, fun i hi => ?_, fun i hi k hk h1 h2 h3 => ?_⟩
    · have := of_decide_eq_true (allB_iff.1 hs i hi)
      rwa [lst, nxt, turn_eq hn] at this
    · have hap : ∀ i k, i < k → k < l.length → adjB l.length i k = false → rmeetI (edge l i) (edge l k) = 0 := by
        intro i k hik hk had
        have := allB_iff.1 (allB_iff.1 ha i (by omega)) k hk
        simp only [had, Bool.or_eq_true, decide_eq_true_eq, Bool.false_eq_true, or_false] at this
        rw [← (meet_agree _ _).1]
        exact this.resolve_left (by omega)
      rcases Nat.lt_or_ge i k with hik | hik
      · refine hap i k hik hk ?_
        cases hq : adjB l.length i k with
        | false => rfl
        | true => rcases (adj_cyc hik hk).1 hq with h | h; exact absurd h h2; exact absurd h h3
      · have hik : k < i := by omega
        rw [swap_meet]
        refine hap k i hik hi ?_
        cases hq : adjB l.length k i with
        | false => rfl
        | true => rcases (adj_cyc hik hi).1 hq with h | h; exact absurd h h3; exact absurd h h2
  · rintro ⟨h3, h40, hn, h0, hs, ha⟩
    simp only [validR, headB, Bool.and_eq_true, decide_eq_true_eq]
    refine ⟨⟨⟨⟨⟨h3, h40⟩, hn⟩, by rw [area_eq hn (by omega)]; exact h0⟩, allB_iff.2 (fun i hi => ?_)⟩, allB_iff.2 (fun i hi => allB_iff.2 (fun k hk => ?_))⟩
    · have := hs i hi
      refine decide_eq_true ?_
      rwa [lst, nxt, turn_eq hn]
    · by_cases hik : k ≤ i
      · simp [hik]
      · cases hq : adjB l.length i k with
        | true => simp
        | false =>
          have hne : ¬ (k = (i + 1) % l.length ∨ i = (k + 1) % l.length) := fun h => by rw [(adj_cyc (by omega) hk).2 h] at hq; cases hq
          have := ha i hi k hk (by omega) (fun h => hne (.inl h)) (fun h => hne (.inr h))
          rw [← (meet_agree _ _).1] at this
          simp [this]

/-! ### another beginning -/
structure Rot (l l' : List V2) (k : Nat) : Prop where
  len : l'.length = l.length
  le : k ≤ l.length
  at_ : ∀ i, i < l.length → gt l' i = gt l ((k + i) % l.length)
theorem rot_rotL (l : List V2) (k : Nat) (hk : k ≤ l.length) : Rot l (rotL l k) k := by
  refine ⟨rotL_len l k, hk, fun i hi => ?_⟩
  show (rotL l k).getD i ⟨0, 0⟩ = _
  rw [rotL_at l k i hk hi]
  split
  · rw [Nat.mod_eq_of_lt (by omega)]
  · rw [show k + i = (i - (l.length - k)) + l.length by omega, Nat.add_mod_right, Nat.mod_eq_of_lt (by omega)]
section
variable {l l' : List V2} {k : Nat}
theorem Rot.nxt (h : Rot l l' k) {i : Nat} (hi : i < l.length) : nxt l' i = nxt l ((k + i) % l.length) := by
  unfold Sg.nxt
  rw [h.len, h.at_ _ (Nat.mod_lt _ (by omega)), Nat.add_mod_mod, Nat.mod_add_mod, Nat.add_assoc]
theorem Rot.lst (h : Rot l l' k) {i : Nat} (hi : i < l.length) : lst l' i = lst l ((k + i) % l.length) := by
  unfold Sg.lst
  rw [h.len, h.at_ _ (Nat.mod_lt _ (by omega)), Nat.add_mod_mod]
  congr 1
  have hq := Nat.div_add_mod (k + i) l.length
  have hlt := Nat.mod_lt (k + i) (show 0 < l.length by omega)
  rw [show k + (i + l.length - 1) = (k + i) + (l.length - 1) by omega, show (k + i) % l.length + l.length - 1 = (k + i) % l.length + (l.length - 1) by omega, Nat.mod_add_mod]
theorem Rot.edge (h : Rot l l' k) {i : Nat} (hi : i < l.length) : edge l' i = edge l ((k + i) % l.length) := by
  unfold Sg.edge
  rw [h.at_ i hi, h.nxt hi]
theorem Rot.inj (h : Rot l l' k) {i j : Nat} (hi : i < l.length) (hj : j < l.length) (e : (k + i) % l.length = (k + j) % l.length) : i = j := by
  have hk := h.le
  by_cases h1 : k + i < l.length <;> by_cases h2 : k + j < l.length
  · rw [Nat.mod_eq_of_lt h1, Nat.mod_eq_of_lt h2] at e; omega
  · rw [Nat.mod_eq_of_lt h1, Nat.mod_eq_sub_mod (by omega), Nat.mod_eq_of_lt (by omega)] at e; omega
  · rw [Nat.mod_eq_of_lt h2, Nat.mod_eq_sub_mod (by omega), Nat.mod_eq_of_lt (by omega)] at e; omega
  · rw [Nat.mod_eq_sub_mod (by omega), Nat.mod_eq_of_lt (by omega), Nat.mod_eq_sub_mod (a := k + j) (by omega), Nat.mod_eq_of_lt (by omega)] at e; omega
theorem Rot.near (h : Rot l l' k) (hn : nearR l = true) : nearR l' = true := near_true (fun i hi => by
  rw [h.at_ i (by rw [← h.len]; exact hi)]
  exact (near_in hn _).within (by decide) (by decide))
theorem Rot.back (h : Rot l l' k) : Rot l' l (l.length - k) := by
  refine ⟨h.len.symm, by rw [h.len]; omega, fun i hi => ?_⟩
  rw [h.len] at hi ⊢
  have hk := h.le
  rw [h.at_ _ (Nat.mod_lt _ (by omega)), Nat.add_mod_mod, show k + (l.length - k + i) = i + l.length by omega, Nat.add_mod_right, Nat.mod_eq_of_lt hi]
theorem Rot.area (h : Rot l l' k) : areaZ l' = areaZ l := by
  unfold areaZ
  rw [h.len, ← sumN_rot (fun i => crossP (gt l i) (Sg.nxt l i)) h.le]
  exact sumN_congr (fun i hi => by rw [h.at_ i hi, h.nxt hi])
theorem Rot.ok (h : Rot l l' k) (hr : RingOk l) : RingOk l' := by
  refine ⟨by rw [h.len]; exact hr.three, by rw [h.len]; exact hr.forty, h.near hr.near, by rw [h.area]; exact hr.area, fun i hi => ?_, fun i hi j hj h1 h2 h3 => ?_⟩
  · rw [h.len] at hi
    rw [h.at_ i hi, h.nxt hi, h.lst hi]
    exact hr.turns _ (Nat.mod_lt _ (by omega))
  · rw [h.len] at hi hj h2 h3
    rw [h.edge hi, h.edge hj]
    refine hr.apart _ (Nat.mod_lt _ (by omega)) _ (Nat.mod_lt _ (by omega)) (fun e => h1 (h.inj hi hj e)) (fun e => h2 ?_) (fun e => h3 ?_)
    · refine h.inj hj (Nat.mod_lt _ (by omega)) ?_
      rw [e, Nat.mod_add_mod, Nat.add_mod_mod, Nat.add_assoc]
    · refine h.inj hi (Nat.mod_lt _ (by omega)) ?_
      rw [e, Nat.mod_add_mod, Nat.add_mod_mod, Nat.add_assoc]
theorem Rot.valid (h : Rot l l' k) : validR l' = validR l := by
  rw [Bool.eq_iff_iff, ring_ok, ring_ok]
  exact ⟨fun hr => h.back.ok hr, fun hr => h.ok hr⟩
theorem allB_mod {n k : Nat} (f : Nat → Bool) (hk : k ≤ n) : (allB n fun i => f ((k + i) % n)) = allB n f := by
  rw [Bool.eq_iff_iff, allB_iff, allB_iff]
  constructor
  · intro h i hi
    have := h ((n - k + i) % n) (Nat.mod_lt _ (by omega))
    rwa [Nat.add_mod_mod, show k + (n - k + i) = i + n by omega, Nat.add_mod_right, Nat.mod_eq_of_lt hi] at this
  · intro h i hi
    exact h _ (Nat.mod_lt _ (by omega))
theorem allB_congr {n : Nat} {f g : Nat → Bool} (h : ∀ i, i < n → f i = g i) : allB n f = allB n g := by
  rw [Bool.eq_iff_iff, allB_iff, allB_iff]
  exact ⟨fun k i hi => by rw [← h i hi]; exact k i hi, fun k i hi => by rw [h i hi]; exact k i hi⟩
theorem Rot.left (h : Rot l l' k) : leftB l' = leftB l := by
  unfold leftB
  rw [h.len, ← allB_mod (fun i => decide (0 < turnW (Sg.lst l i) (gt l i) (Sg.nxt l i))) h.le]
  exact allB_congr (fun i hi => by rw [h.at_ i hi, h.nxt hi, h.lst hi])
theorem Rot.convex (h : Rot l l' k) : convexR l' = convexR l := by
  unfold convexR
  rw [h.left, h.valid]
theorem parK_eq (l : List V2) (p : P3) : ∀ k, parK l p k = parN k fun i => crsP (Sg.edge l i) p
  | 0 => rfl
  | k + 1 => by simp only [parK, parN]; rw [parK_eq l p k]
theorem Rot.where (h : Rot l l' k) (p : P3) : wherePl l' p = wherePl l p := by
  have e1 : onAny l' p = onAny l p := by
    unfold onAny
    rw [h.len, ← allB_mod (fun i => !onP (Sg.edge l i) p) h.le, allB_congr (fun i hi => by rw [h.edge hi])]
  have e2 : parK l' p l'.length = parK l p l.length := by
    rw [parK_eq, parK_eq, h.len, ← parN_rot (fun i => crsP (Sg.edge l i) p) h.le]
    exact parN_congr (fun i hi => by rw [h.edge hi])
  rw [wherePl, wherePl, e1, e2]
theorem Rot.whereR (h : Rot l l' k) (p : P3) : whereR l' p = whereR l p := by
  unfold Sg.whereR
  rw [h.valid, h.where]
theorem Rot.whereV (h : Rot l l' k) (v : V2) : whereV l' v = whereV l v := by
  unfold Sg.whereV
  rw [h.whereR]
end
end Sg
end Go.Vm
