/-
  Layer 8, plain: the integer points of a square, and the turns of one edge as seen from all of them.
-/
import Derived.Test.YtgmlblmkcbcgaaaRingF
namespace Go.Vm
set_option maxRecDepth 20000
set_option linter.unusedVariables false
set_option linter.unusedSimpArgs false
open Go Go.RowKit Go.Proofs
namespace Sg

/-- A sum over k integers from lo on. -/
def sI (lo : Int) (k : Nat) (f : Int → Int) : Int := sumN k fun i => f (lo + i)
theorem sI_zero (lo : Int) (f : Int → Int) : sI lo 0 f = 0 := rfl
theorem sI_succ (lo : Int) (k : Nat) (f : Int → Int) : sI lo (k + 1) f = sI lo k f + f (lo + k) := rfl
theorem sI_add (lo : Int) (a b : Nat) (f : Int → Int) : sI lo (a + b) f = sI lo a f + sI (lo + a) b f := by
  unfold sI
  rw [sumN_add]
  congr 1
  exact sumN_congr (fun i _ => by congr 1; omega)
theorem sI_congr {lo : Int} {k : Nat} {f g : Int → Int} (h : ∀ x, lo ≤ x → x < lo + k → f x = g x) : sI lo k f = sI lo k g := sumN_congr (fun i hi => h _ (by omega) (by omega))
theorem sI_rev (lo : Int) (k : Nat) (c : Int) (f : Int → Int) : sI lo k (fun x => f (c - x)) = sI (c - lo - k + 1) k f := by
  unfold sI
  rw [← sumN_rev (fun i => f (c - lo - k + 1 + i))]
  refine sumN_congr (fun i hi => ?_)
  show f (c - (lo + i)) = f (c - lo - k + 1 + ((k - 1 - i : Nat) : Int))
  congr 1; omega
theorem sI_const (lo : Int) (k : Nat) (c : Int) : sI lo k (fun _ => c) = c * k := by
  induction k with
  | zero => simp [sI_zero]
  | succ k ih => rw [sI_succ, ih]; grind
theorem sI_neg (lo : Int) (k : Nat) (f : Int → Int) : sI lo k (fun x => -f x) = -sI lo k f := by
  induction k with
  | zero => rfl
  | succ k ih => rw [sI_succ, sI_succ, ih]; omega
theorem sI_sum (lo : Int) (k : Nat) (f g : Int → Int) : sI lo k (fun x => f x + g x) = sI lo k f + sI lo k g := by
  induction k with
  | zero => rfl
  | succ k ih => rw [sI_succ, sI_succ, sI_succ, ih]; omega
theorem sI_mul (lo : Int) (k : Nat) (c : Int) (f : Int → Int) : sI lo k (fun x => c * f x) = c * sI lo k f := by
  induction k with
  | zero => simp [sI_zero]
  | succ k ih => rw [sI_succ, sI_succ, ih, Int.mul_add]
theorem sI_comm (lo lo' : Int) (k k' : Nat) (f : Int → Int → Int) : sI lo k (fun x => sI lo' k' (fun y => f x y)) = sI lo' k' (fun y => sI lo k (fun x => f x y)) := by
  induction k with
  | zero => simp only [sI_zero]; rw [sI_const]; simp
  | succ k ih =>
    rw [sI_succ, ih, ← sI_sum]
    rfl
theorem sI_sumN (lo : Int) (k : Nat) (n : Nat) (f : Int → Nat → Int) : sI lo k (fun x => sumN n (f x)) = sumN n (fun i => sI lo k (fun x => f x i)) := by
  induction n with
  | zero => simp only [sumN]; rw [sI_const]; simp
  | succ n ih =>
    simp only [sumN]
    rw [sI_sum, ih]
theorem sI_inner {lo : Int} {k : Nat} {f : Int → Int} (t : Int) (d : Nat) (h1 : lo ≤ t) (h2 : t + d ≤ lo + k) (h : ∀ x, x < t ∨ t + d ≤ x → f x = 0) : sI lo k f = sI t d f := by
  obtain ⟨a, ha⟩ : ∃ a : Nat, lo + a = t := ⟨(t - lo).toNat, by omega⟩
  obtain ⟨b, hb⟩ : ∃ b : Nat, k = a + (d + b) := ⟨k - a - d, by omega⟩
  rw [hb, sI_add, sI_add, ha]
  have e1 : sI lo a f = 0 := by rw [sI_congr (g := fun _ => 0) (fun x _ h4 => h x (by omega)), sI_const]; simp
  have e2 : sI (t + d) b f = 0 := by rw [sI_congr (g := fun _ => 0) (fun x h3 _ => h x (by omega)), sI_const]; simp
  omega
theorem sI_pick {lo : Int} {k : Nat} (t c : Int) (h1 : lo ≤ t) (h2 : t < lo + k) : sI lo k (fun x => if t = x then c else 0) = c := by
  rw [sI_inner t 1 h1 (by omega) (fun x hx => if_neg (by omega)), sI_succ, sI_zero, if_pos (by simp)]
  omega
/-- A sign that falls from 1 to -1: its sums over two intervals. -/
theorem sI_fall {g : Int → Int} {M L H S : Int} {k : Nat} (hk : (k : Int) = 2 * M + 1) (hL : ∀ x, x < L → g x = 1) (hH : ∀ x, H < x → g x = -1) (h1 : -M ≤ L) (h2 : H ≤ M) (h3 : S - M ≤ L) (h4 : H ≤ S + M) :
    sI (-M) k g - sI (S - M) k g = 2 * S := by
  rcases Int.le_total 0 S with hs | hs
  · obtain ⟨s, rfl⟩ : ∃ s : Nat, S = s := ⟨S.toNat, by omega⟩
    have a := sI_add (-M) s k g
    have b := sI_add (-M) k s g
    rw [Nat.add_comm, b] at a
    have c1 : sI (-M) s g = s := by rw [sI_congr (g := fun _ => 1) (fun x _ h => hL x (by omega)), sI_const]; omega
    have c2 : sI (-M + k) s g = -s := by rw [sI_congr (g := fun _ => -1) (fun x h _ => hH x (by omega)), sI_const]; omega
    rw [show -M + (s : Int) = s - M by omega] at a
    omega
  · obtain ⟨s, hs'⟩ : ∃ s : Nat, S = -(s : Int) := ⟨(-S).toNat, by omega⟩
    subst hs'
    have a := sI_add (-(s : Int) - M) s k g
    have b := sI_add (-(s : Int) - M) k s g
    rw [Nat.add_comm, b] at a
    have c1 : sI (-(s : Int) - M) s g = s := by rw [sI_congr (g := fun _ => 1) (fun x _ h => hL x (by omega)), sI_const]; omega
    have c2 : sI (-(s : Int) - M + k) s g = -s := by rw [sI_congr (g := fun _ => -1) (fun x h _ => hH x (by omega)), sI_const]; omega
    rw [show -(s : Int) - M + (s : Int) = -M by omega] at a
    omega
theorem sgn_one {x : Int} (h : 0 < x) : sgnI x = 1 := by have := sgn_cases x; omega
theorem sgn_mone {x : Int} (h : x < 0) : sgnI x = -1 := by have := sgn_cases x; omega
/-- One level of an edge that rises, and the level opposite to it. -/
theorem level_sum {a b : V2} {M y : Int} {k : Nat} (hk : (k : Int) = 2 * M + 1) (ha : -M ≤ a.x ∧ a.x ≤ M) (hb : -M ≤ b.x ∧ b.x ≤ M) (h1 : a.y ≤ y) (h2 : y ≤ b.y) (hab : a.y < b.y) :
    sI (-M) k (fun x => sgnI (trP a b ⟨x, y⟩)) + sI (-M) k (fun x => sgnI (trP a b ⟨x, a.y + b.y - y⟩)) = 2 * (a.x + b.x) := by
  have e : ∀ x, trP a b ⟨x, y⟩ = (b.x - x) * (y - a.y) + (a.x - x) * (b.y - y) := fun x => by simp only [trP, crossP, subP]; grind
  have r : ∀ x, sgnI (trP a b ⟨x, a.y + b.y - y⟩) = -(fun x => sgnI (trP a b ⟨x, y⟩)) (a.x + b.x - x) := fun x => by
    have : trP a b ⟨x, a.y + b.y - y⟩ = -trP a b ⟨a.x + b.x - x, y⟩ := by simp only [trP, crossP, subP]; grind
    rw [this, sgn_opp]
  have pos : ∀ x, x < a.x → x < b.x → 0 < trP a b ⟨x, y⟩ := fun x h3 h4 => by
    rw [e]
    have f1 := nnf (b.x - x) (show 0 ≤ y - a.y by omega)
    have f2 := nnf (a.x - x) (show 0 ≤ b.y - y by omega)
    have g1 := Int.mul_nonneg (show 0 ≤ b.x - x by omega) (show 0 ≤ y - a.y by omega)
    have g2 := Int.mul_nonneg (show 0 ≤ a.x - x by omega) (show 0 ≤ b.y - y by omega)
    generalize (b.x - x) * (y - a.y) = m1 at *
    generalize (a.x - x) * (b.y - y) = m2 at *
    omega
  have neg : ∀ x, a.x < x → b.x < x → trP a b ⟨x, y⟩ < 0 := fun x h3 h4 => by
    rw [e]
    have f1 := nnf (b.x - x) (show 0 ≤ y - a.y by omega)
    have f2 := nnf (a.x - x) (show 0 ≤ b.y - y by omega)
    have g1 := Int.mul_nonneg (show 0 ≤ x - b.x by omega) (show 0 ≤ y - a.y by omega)
    have g2 := Int.mul_nonneg (show 0 ≤ x - a.x by omega) (show 0 ≤ b.y - y by omega)
    rw [show (x - b.x) * (y - a.y) = -((b.x - x) * (y - a.y)) by grind] at g1
    rw [show (x - a.x) * (b.y - y) = -((a.x - x) * (b.y - y)) by grind] at g2
    generalize (b.x - x) * (y - a.y) = m1 at *
    generalize (a.x - x) * (b.y - y) = m2 at *
    omega
  have s2 : sI (-M) k (fun x => sgnI (trP a b ⟨x, a.y + b.y - y⟩)) = -sI (a.x + b.x - M) k (fun x => sgnI (trP a b ⟨x, y⟩)) := by
    rw [sI_congr (fun x _ _ => r x), sI_neg, sI_rev (-M) k (a.x + b.x) (fun x => sgnI (trP a b ⟨x, y⟩)), show a.x + b.x - -M - k + 1 = a.x + b.x - M by omega]
  rw [s2]
  have := sI_fall (g := fun x => sgnI (trP a b ⟨x, y⟩)) (M := M) (L := if a.x ≤ b.x then a.x else b.x) (H := if a.x ≤ b.x then b.x else a.x) (S := a.x + b.x) (k := k) hk
    (fun x hx => sgn_one (pos x (by split at hx <;> omega) (by split at hx <;> omega))) (fun x hx => sgn_mone (neg x (by split at hx <;> omega) (by split at hx <;> omega)))
    (by split <;> omega) (by split <;> omega) (by split <;> omega) (by split <;> omega)
  omega
def wtY (a b : V2) (y : Int) : Int := abd (sgnI (a.y - y)) (sgnI (b.y - y))
theorem tq_wt (a b p : V2) : tq (subP a p) (subP b p) = wtY a b p.y * sgnI (trP a b p) := by
  unfold tq
  rw [cross_tr]
  have s := sgn_cases (trP a b p)
  show (if 0 < trP a b p then wtY a b p.y else if trP a b p < 0 then -wtY a b p.y else 0) = _
  rcases s with ⟨h1, h2⟩ | ⟨h1, h2⟩ | ⟨h1, h2⟩
  · rw [h2, if_pos h1]; omega
  · rw [h2, if_neg (by omega), if_pos h1]; omega
  · rw [h2, if_neg (by omega), if_neg (by omega)]; omega
theorem wt_sum {a b : V2} (hab : a.y < b.y) : ∀ k : Nat, (k : Int) < b.y - a.y → sI a.y (k + 1) (wtY a b) = 2 * k + 1
  | 0, h => by
    rw [sI_succ, sI_zero]
    unfold wtY abd
    have s1 := sgn_cases (a.y - (a.y + ((0 : Nat) : Int)))
    have s2 := sgn_cases (b.y - (a.y + ((0 : Nat) : Int)))
    split <;> omega
  | k + 1, h => by
    rw [sI_succ, wt_sum hab k (by omega)]
    unfold wtY abd
    have s1 := sgn_cases (a.y - (a.y + ((k + 1 : Nat) : Int)))
    have s2 := sgn_cases (b.y - (a.y + ((k + 1 : Nat) : Int)))
    split <;> omega
/-- The turns of an edge that rises, as seen from all points of the square. -/
theorem edge_up {a b : V2} {M : Int} {k : Nat} (hk : (k : Int) = 2 * M + 1) (ha : In M a) (hb : In M b) (hab : a.y < b.y) :
    sI (-M) k (fun x => sI (-M) k (fun y => tq (subP a ⟨x, y⟩) (subP b ⟨x, y⟩))) = 2 * ((b.y - a.y) * (a.x + b.x)) := by
  obtain ⟨ax0, ax1, ay0, ay1⟩ := ha
  obtain ⟨bx0, bx1, by0, by1⟩ := hb
  rw [sI_comm]
  have e1 : ∀ y, sI (-M) k (fun x => tq (subP a ⟨x, y⟩) (subP b ⟨x, y⟩)) = wtY a b y * sI (-M) k (fun x => sgnI (trP a b ⟨x, y⟩)) := fun y => by
    rw [← sI_mul]
    exact sI_congr (fun x _ _ => tq_wt a b ⟨x, y⟩)
  rw [sI_congr (fun y _ _ => e1 y)]
  obtain ⟨D, hD⟩ : ∃ D : Nat, (D : Int) = b.y - a.y := ⟨(b.y - a.y).toNat, by omega⟩
  obtain ⟨F, hF⟩ : ∃ F : Int → Int, F = fun y => wtY a b y * sI (-M) k (fun x => sgnI (trP a b ⟨x, y⟩)) := ⟨_, rfl⟩
  have w0 : ∀ y, y < a.y ∨ a.y + ((D + 1 : Nat) : Int) ≤ y → F y = 0 := fun y h => by
    rw [hF]
    have : wtY a b y = 0 := by
      unfold wtY abd
      have s1 := sgn_cases (a.y - y)
      have s2 := sgn_cases (b.y - y)
      split <;> omega
    simp only [this, Int.zero_mul]
  rw [← hF, sI_inner a.y (D + 1) (by omega) (by omega) w0]
  have rev := sI_rev a.y (D + 1) (a.y + b.y) F
  rw [show a.y + b.y - a.y - ((D + 1 : Nat) : Int) + 1 = a.y by omega] at rev
  have two : sI a.y (D + 1) (fun y => F y + F (a.y + b.y - y)) = 2 * (a.x + b.x) * sI a.y (D + 1) (wtY a b) := by
    rw [← sI_mul]
    refine sI_congr (fun y h1 h2 => ?_)
    have lv := level_sum (y := y) hk ⟨ax0, ax1⟩ ⟨bx0, bx1⟩ h1 (by omega) hab
    have ws : wtY a b (a.y + b.y - y) = wtY a b y := by
      unfold wtY abd
      have s1 := sgn_cases (a.y - y)
      have s2 := sgn_cases (b.y - y)
      have s3 := sgn_cases (a.y - (a.y + b.y - y))
      have s4 := sgn_cases (b.y - (a.y + b.y - y))
      split <;> split <;> omega
    rw [hF]
    simp only
    rw [ws, ← Int.mul_add, lv, Int.mul_comm]
  rw [sI_sum, rev, sI_succ a.y D (wtY a b)] at two
  have wl : wtY a b (a.y + D) = 1 := by
    unfold wtY abd
    have s1 := sgn_cases (a.y - (a.y + D))
    have s2 := sgn_cases (b.y - (a.y + D))
    split <;> omega
  obtain ⟨d, rfl⟩ : ∃ d, D = d + 1 := ⟨D - 1, by omega⟩
  rw [wt_sum hab d (by omega), wl] at two
  have e3 : 2 * (a.x + b.x) * (2 * (d : Int) + 1 + 1) = 2 * (2 * ((b.y - a.y) * (a.x + b.x))) := by
    rw [← hD]
    rw [show ((d + 1 : Nat) : Int) = d + 1 by omega]
    grind
  omega
theorem edge_all {a b : V2} {M : Int} {k : Nat} (hk : (k : Int) = 2 * M + 1) (ha : In M a) (hb : In M b) :
    sI (-M) k (fun x => sI (-M) k (fun y => tq (subP a ⟨x, y⟩) (subP b ⟨x, y⟩))) = 2 * ((b.y - a.y) * (a.x + b.x)) := by
  rcases Int.lt_trichotomy a.y b.y with h | h | h
  · exact edge_up hk ha hb h
  · have e : sI (-M) k (fun x => sI (-M) k (fun y => tq (subP a ⟨x, y⟩) (subP b ⟨x, y⟩))) = sI (-M) k (fun x => sI (-M) k (fun y => 0)) :=
      sI_congr (fun x _ _ => sI_congr (fun y _ _ => tq_flat (by simp only [subP]; rw [h])))
    rw [e, h]
    simp [sI_const]
  · have e : sI (-M) k (fun x => sI (-M) k (fun y => tq (subP a ⟨x, y⟩) (subP b ⟨x, y⟩))) = sI (-M) k (fun x => -sI (-M) k (fun y => tq (subP b ⟨x, y⟩) (subP a ⟨x, y⟩))) :=
      sI_congr (fun x _ _ => by
        rw [← sI_neg]
        exact sI_congr (fun y _ _ => tq_swap _ _))
    rw [e, sI_neg, edge_up hk hb ha h]
    grind
/-- All edges of a ring. -/
def wqL (l : List V2) (p : V2) : Int := sumN l.length fun i => tq (subP (gt l i) p) (subP (nxt l i) p)
theorem wq_area {l : List V2} {M : Int} {k : Nat} (hk : (k : Int) = 2 * M + 1) (h0 : 0 < l.length) (hl : ∀ i, i < l.length → In M (gt l i)) :
    sI (-M) k (fun x => sI (-M) k (fun y => wqL l ⟨x, y⟩)) = 2 * areaZ l := by
  have e1 : sI (-M) k (fun x => sI (-M) k (fun y => wqL l ⟨x, y⟩)) = sumN l.length (fun i => sI (-M) k (fun x => sI (-M) k (fun y => tq (subP (gt l i) ⟨x, y⟩) (subP (nxt l i) ⟨x, y⟩)))) := by
    rw [← sI_sumN]
    refine sI_congr (fun x _ _ => ?_)
    exact sI_sumN (-M) k l.length (fun y i => tq (subP (gt l i) ⟨x, y⟩) (subP (nxt l i) ⟨x, y⟩))
  have e2 : sumN l.length (fun i => sI (-M) k (fun x => sI (-M) k (fun y => tq (subP (gt l i) ⟨x, y⟩) (subP (nxt l i) ⟨x, y⟩)))) = sumN l.length (fun i => crossP (gt l i) (nxt l i) + crossP (gt l i) (nxt l i) + ((fun j => 2 * ((gt l j).x * (gt l j).y)) ((i + 1) % l.length) - (fun j => 2 * ((gt l j).x * (gt l j).y)) i)) :=
    sumN_congr (fun i hi => by
      have hn : In M (nxt l i) := hl _ (Nat.mod_lt _ h0)
      rw [edge_all hk (hl i hi) hn]
      simp only [crossP, nxt]; grind)
  rw [e1, e2, sumN_sum, sumN_sum, sum_tel (fun j => 2 * ((gt l j).x * (gt l j).y)) h0]
  unfold areaZ
  omega
end Sg
end Go.Vm
