/-
  Layer 37: parents in a joined tree; tables that are filled from the root; both Stages.
-/
import Derived.Test.YtfoblfchkgapoaaStpR
namespace Go.Vm
set_option maxRecDepth 20000
set_option linter.unusedVariables false
set_option linter.unusedSimpArgs false
open Go Go.RowKit Go.Proofs
namespace St

def refN (n : Nd) (i : Nat) : Nat := if leafI n = true then 0 else (if n.f.toNat = i then 1 else 0) + (if n.s.toNat = i then 1 else 0)
def refs (t : List Nd) (i : Nat) : Nat → Nat
  | 0 => 0
  | k + 1 => refs t i k + refN (ndget t k) i
theorem incr_get {l : List Int} {j : Int} {i : Nat} (hi : i < l.length) : (incr l j).getD i 0 = l.getD i 0 + (if j.toNat = i then 1 else 0) := by
  unfold incr
  by_cases h : j.toNat = i
  · subst h
    simp [List.getD, hi]
  · simp [List.getD, List.getElem?_set_ne h, h]
theorem pT_refs (t : List Nd) {i : Nat} (hi : i < t.length) : ∀ k, iget (pT t k) i = refs t i k
  | 0 => by simp [pT, iget, List.getD, hi, refs]
  | k + 1 => by
    have ih := pT_refs t hi k
    have hl := pT_len t k
    rw [pT, refs, refN]
    split
    · rw [ih]; omega
    · have e1 := incr_get (l := incr (pT t k) (ndget t k).f) (j := (ndget t k).s) (i := i) (by rw [incr_len, hl]; exact hi)
      have e2 := incr_get (l := pT t k) (j := (ndget t k).f) (i := i) (by rw [hl]; exact hi)
      unfold iget at *
      rw [e1, e2, ih]
      split <;> split <;> omega
structure Ch (t : List Nd) (p c : Nat) : Prop where
  nl : leafI (ndget t p) = false
  kid : (ndget t p).f.toNat = c ∨ (ndget t p).s.toNat = c
theorem Ch.ref {t : List Nd} {p c : Nat} (h : Ch t p c) : 1 ≤ refN (ndget t p) c := by
  rw [refN, if_neg (by rw [h.nl]; simp)]
  rcases h.kid with e | e
  · rw [if_pos e]; omega
  · rw [if_pos e]; omega
theorem refs_mono (t : List Nd) (c k : Nat) : ∀ n, refs t c k ≤ refs t c (k + n)
  | 0 => Nat.le_refl _
  | n + 1 => by
    have := refs_mono t c k n
    show _ ≤ refs t c (k + n + 1)
    rw [refs]; omega
theorem refs_pos {t : List Nd} {p c k : Nat} (h : Ch t p c) (hk : p < k) : refs t c p + 1 ≤ refs t c k := by
  have := refs_mono t c (p + 1) (k - (p + 1))
  rw [show p + 1 + (k - (p + 1)) = k by omega, refs] at this
  have := h.ref
  omega
theorem refs_ex {t : List Nd} {c : Nat} : ∀ k, 1 ≤ refs t c k → ∃ p, p < k ∧ Ch t p c
  | 0, h => by cases h
  | k + 1, h => by
    rw [refs] at h
    by_cases h1 : 1 ≤ refs t c k
    · obtain ⟨p, a, b⟩ := refs_ex k h1
      exact ⟨p, by omega, b⟩
    · have h2 : 1 ≤ refN (ndget t k) c := by omega
      rw [refN] at h2
      split at h2
      · cases h2
      · rename_i hl
        refine ⟨k, Nat.lt_succ_self _, by simpa using hl, ?_⟩
        by_cases e : (ndget t k).f.toNat = c
        · exact .inl e
        · by_cases e2 : (ndget t k).s.toNat = c
          · exact .inr e2
          · rw [if_neg e, if_neg e2] at h2
            cases h2
structure Jn (t : List Nd) : Prop where
  l0 : 1 ≤ t.length
  l1 : t.length ≤ 4000
  kids : ∀ p, p < t.length → leafI (ndget t p) = false → (p < (ndget t p).f.toNat ∧ (ndget t p).f.toNat < t.length ∧ 0 ≤ (ndget t p).f) ∧ (p < (ndget t p).s.toNat ∧ (ndget t p).s.toNat < t.length ∧ 0 ≤ (ndget t p).s)
  ne : ∀ p, p < t.length → leafI (ndget t p) = false → (ndget t p).f.toNat ≠ (ndget t p).s.toNat
  par : ∀ c, 1 ≤ c → c < t.length → ∃ p, p < c ∧ Ch t p c
  uni : ∀ c p q, p < t.length → q < t.length → Ch t p c → Ch t q c → p = q
theorem joined_of {t : List Nd} (h : joinB t = true) : Jn t := by
  have hn := fun p hp => join_nd h (i := p) hp
  simp only [joinB, Bool.and_eq_true, inB_iff] at h
  obtain ⟨_, h2, l0, l1⟩ := h
  have hr : ∀ c, 1 ≤ c → c < t.length → refs t c t.length = 1 := fun c c0 c1 => by
    have := allN_iff.1 h2 c c1
    simp only [Bool.or_eq_true, decide_eq_true_eq] at this
    rw [pT_refs t c1] at this
    omega
  have kids : ∀ p, p < t.length → leafI (ndget t p) = false → (p < (ndget t p).f.toNat ∧ (ndget t p).f.toNat < t.length ∧ 0 ≤ (ndget t p).f) ∧ (p < (ndget t p).s.toNat ∧ (ndget t p).s.toNat < t.length ∧ 0 ≤ (ndget t p).s) := fun p hp hl => by
    have := hn p hp
    rw [ndOkB, hl, Bool.false_and, Bool.false_or, Bool.and_eq_true, inB_iff, inB_iff] at this
    exact ⟨⟨by omega, by omega, by omega⟩, ⟨by omega, by omega, by omega⟩⟩
  refine ⟨by omega, by omega, kids, fun p hp hl e => ?_, fun c c0 c1 => ?_, fun c p q hp hq a b => ?_⟩
  · obtain ⟨k1, k2⟩ := kids p hp hl
    have r := hr _ (by omega) k1.2.1
    have m := refs_mono t (ndget t p).f.toNat (p + 1) (t.length - (p + 1))
    rw [show p + 1 + (t.length - (p + 1)) = t.length by omega, r, refs, refN, if_neg (by rw [hl]; simp), if_pos rfl, if_pos e.symm] at m
    omega
  · obtain ⟨p, a, b⟩ := refs_ex t.length (by rw [hr c c0 c1]; exact Nat.le_refl _)
    obtain ⟨k1, k2⟩ := kids p a b.nl
    refine ⟨p, ?_, b⟩
    rcases b.kid with e | e <;> omega
  · have c1 : 1 ≤ c ∧ c < t.length := by
      obtain ⟨k1, k2⟩ := kids p hp a.nl
      rcases a.kid with e | e <;> omega
    have r := hr c c1.1 c1.2
    rcases Nat.lt_trichotomy p q with h | h | h
    · have x1 := refs_pos a h
      have x2 := refs_pos b hq
      omega
    · exact h
    · have x1 := refs_pos b h
      have x2 := refs_pos a hp
      omega
/-! ### tables that are filled from the root -/
def tab {α : Type} (d : α) (t : List Nd) (gA gB : Nat → α → α) (T0 : List α) : Nat → List α
  | 0 => T0
  | k + 1 => if leafI (ndget t k) = true then tab d t gA gB T0 k else ((tab d t gA gB T0 k).set (ndget t k).f.toNat (gA k ((tab d t gA gB T0 k).getD k d))).set (ndget t k).s.toNat (gB k ((tab d t gA gB T0 k).getD k d))
section
variable {α : Type} {d : α} {t : List Nd} {gA gB : Nat → α → α} {T0 : List α}
theorem tab_len (h0 : T0.length = t.length) : ∀ k, (tab d t gA gB T0 k).length = t.length
  | 0 => h0
  | k + 1 => by
    rw [tab]
    split
    · exact tab_len h0 k
    · rw [List.length_set, List.length_set, tab_len h0 k]
theorem getD_set_ne {l : List α} {i j : Nat} {x d : α} (h : i ≠ j) : (l.set i x).getD j d = l.getD j d := by simp [List.getD, List.getElem?_set_ne h]
theorem getD_set_eq {l : List α} {i : Nat} {x d : α} (h : i < l.length) : (l.set i x).getD i d = x := by simp [List.getD, h]
theorem tab_same {k i : Nat} (h : ¬ Ch t k i) : (tab d t gA gB T0 (k + 1)).getD i d = (tab d t gA gB T0 k).getD i d := by
  rw [tab]
  split
  · rfl
  · rename_i hl
    have hl' : leafI (ndget t k) = false := by simpa using hl
    rw [getD_set_ne (fun e => h ⟨hl', .inr e⟩), getD_set_ne (fun e => h ⟨hl', .inl e⟩)]
theorem tab_keep {i : Nat} (k : Nat) : ∀ n, (∀ q, k ≤ q → q < k + n → ¬ Ch t q i) → (tab d t gA gB T0 (k + n)).getD i d = (tab d t gA gB T0 k).getD i d
  | 0, _ => rfl
  | n + 1, h => by
    rw [← tab_keep k n (fun q h1 h2 => h q h1 (by omega))]
    exact tab_same (h (k + n) (by omega) (by omega))
theorem Jn.le (J : Jn t) {p c : Nat} (hp : p < t.length) (h : Ch t p c) : p < c := by
  obtain ⟨k1, k2⟩ := J.kids p hp h.nl
  rcases h.kid with e | e <;> omega
theorem tab_stay (J : Jn t) {p : Nat} (k : Nat) (hp : p ≤ k) (hk : k ≤ t.length) : (tab d t gA gB T0 t.length).getD p d = (tab d t gA gB T0 k).getD p d := by
  have := tab_keep (d := d) (gA := gA) (gB := gB) (T0 := T0) (t := t) (i := p) k (t.length - k) (fun q h1 h2 h => by have := J.le (p := q) (by omega) h; omega)
  rwa [show k + (t.length - k) = t.length by omega] at this
theorem tab_root (J : Jn t) : (tab d t gA gB T0 t.length).getD 0 d = T0.getD 0 d := tab_stay J 0 (Nat.le_refl _) (Nat.zero_le _)
theorem tab_kid (J : Jn t) (h0 : T0.length = t.length) {p : Nat} (hp : p < t.length) (hl : leafI (ndget t p) = false) :
    (tab d t gA gB T0 t.length).getD (ndget t p).f.toNat d = gA p ((tab d t gA gB T0 t.length).getD p d) ∧ (tab d t gA gB T0 t.length).getD (ndget t p).s.toNat d = gB p ((tab d t gA gB T0 t.length).getD p d) := by
  obtain ⟨k1, k2⟩ := J.kids p hp hl
  have hs := tab_stay (d := d) (gA := gA) (gB := gB) (T0 := T0) J p (Nat.le_refl _) (by omega)
  have e : tab d t gA gB T0 (p + 1) = ((tab d t gA gB T0 p).set (ndget t p).f.toNat (gA p ((tab d t gA gB T0 p).getD p d))).set (ndget t p).s.toNat (gB p ((tab d t gA gB T0 p).getD p d)) := by rw [tab, if_neg (by rw [hl]; simp)]
  have hlen := tab_len (d := d) (gA := gA) (gB := gB) h0 p
  have keep : ∀ c, Ch t p c → (tab d t gA gB T0 t.length).getD c d = (tab d t gA gB T0 (p + 1)).getD c d := fun c hc => by
    have := tab_keep (d := d) (gA := gA) (gB := gB) (T0 := T0) (t := t) (i := c) (p + 1) (t.length - (p + 1)) (fun q h1 h2 h => by have := J.uni c p q hp (by omega) hc h; omega)
    rwa [show p + 1 + (t.length - (p + 1)) = t.length by omega] at this
  constructor
  · rw [keep _ ⟨hl, .inl rfl⟩, e, getD_set_ne (Ne.symm (J.ne p hp hl)), getD_set_eq (by rw [hlen]; exact k1.2.1), hs]
  · rw [keep _ ⟨hl, .inr rfl⟩, e, getD_set_eq (by rw [List.length_set, hlen]; exact k2.2.1), hs]
end
/-! ### stages -/
def dV (t : List Nd) (p : Nat) (c : Int) : Int := if (ndget t c.toNat).v = (ndget t p).v then 0 else 1
def sT0 (t : List Nd) : List Int := if leafI (ndget t 0) = true then List.replicate t.length 0 else (List.replicate t.length 0).set 0 1
def sT (t : List Nd) : Nat → List Int := tab 0 t (fun p x => x + dV t p (ndget t p).f) (fun p x => x + dV t p (ndget t p).s) (sT0 t)
def stg (t : List Nd) (i : Nat) : Int := (sT t t.length).getD i 0
def stM (t : List Nd) : Nat → Int
  | 0 => 0
  | k + 1 => if leafI (ndget t k) = true then stM t k else maxI (stM t k) ((sT t k).getD k 0)
def wk (t : List Nd) : Nat → Nat → Int → Int → Int
  | 0, _, _, m => m
  | n + 1, i, st, m => if leafI (ndget t i) = true then m else wk t n (ndget t i).s.toNat (st + dV t i (ndget t i).s) (wk t n (ndget t i).f.toNat (st + dV t i (ndget t i).f) (maxI m st))
section
variable {t : List Nd} (J : Jn t)
include J
end
def stagesR (t : List Nd) : Int := if joinB t = true then stM t t.length else -1
end St
end Go.Vm
