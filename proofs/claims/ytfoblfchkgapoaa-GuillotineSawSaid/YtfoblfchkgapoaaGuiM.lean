/-
  Layer 38: contract of the reference's Meet (printed by gen_guim.py out of layer 7's texts).
-/
import Derived.Test.YtfoblfchkgapoaaVmT
import Derived.Test.YtfoblfchkgapoaaVmW
namespace Go.Vm
set_option maxRecDepth 20000
set_option linter.unusedVariables false
set_option linter.unusedSimpArgs false
open Go Go.RowKit Go.Proofs
namespace Sg
structure V2 where
  x : Int
  y : Int
structure Seg where
  a : V2
  b : V2
theorem V2.ext {a b : V2} (h : a.x = b.x) (k : a.y = b.y) : a = b := by
  cases a; cases b; simp only at h k; rw [h, k]
theorem V2.eq_iff {a b : V2} : a = b ↔ a.x = b.x ∧ a.y = b.y := ⟨fun h => by rw [h]; exact ⟨rfl, rfl⟩, fun h => V2.ext h.1 h.2⟩
instance : DecidableEq V2 := fun _ _ => decidable_of_iff _ V2.eq_iff.symm
theorem Seg.ext {a b : Seg} (h : a.a = b.a) (k : a.b = b.b) : a = b := by
  cases a; cases b; simp only at h k; rw [h, k]
abbrev vL (v : V2) : List SV := [i64 v.x, i64 v.y]
abbrev vD (v : V2) : DV := .agg (vL v)
abbrev sL (s : Seg) : List SV := [i64 s.a.x, i64 s.a.y, i64 s.b.x, i64 s.b.y]
abbrev sD (s : Seg) : DV := .agg (sL s)
/-- A slice of vectors, out of a list. -/
abbrev vlS (l : List V2) : SV := .sl l.length 2 fun i j => match j with
  | 0 => i64 (l.getD i ⟨0, 0⟩).x
  | _ => i64 (l.getD i ⟨0, 0⟩).y
abbrev ng (x : Int) : Int := w64 (0 - x)
def sgnI (n : Int) : Int := if n > 0 then 1 else if n < 0 then -1 else 0
def maxI (x y : Int) : Int := if y > x then y else x
def minI (x y : Int) : Int := if y < x then y else x
def subW (a b : V2) : V2 := ⟨w64 (a.x - b.x), w64 (a.y - b.y)⟩
def crossW (a b : V2) : Int := w64 (w64 (a.x * b.y) - w64 (a.y * b.x))
def turnW (a b c : V2) : Int := sgnI (crossW (subW b a) (subW c a))
def lessB (a b : V2) : Bool := decide (a.y < b.y) || (decide (a.y = b.y) && decide (a.x < b.x))
def withinV (v : V2) (m : Int) : Bool := decide (v.x ≥ ng m) && decide (v.x ≤ m) && decide (v.y ≥ ng m) && decide (v.y ≤ m)
/-- Equality of two vectors, by the vectors. -/
theorem EqW.v {K : Bool → Prop} (a b : V2) (k : ∀ q, (q = true ↔ a = b) → K q) : EqW Try.prog 62 (vL a) (vL b) K := by
  refine EqW.b (eq62 _ _ _ _) (fun q hq => k q ?_)
  subst hq
  rw [decide_eq_true_eq, V2.eq_iff]
  simp
/-- A vector under a letter. -/
theorem CallW.v {P : Program} {f : FuncId} {args : List DV} {K : TV → Prop} {e : V2} (h : Det P f args (.d (vD e))) (kk : ∀ v, v = e → K (.d (vD v))) : CallW P f args K := ⟨_, h, kk e rfl⟩
theorem sign_det (n : Int) : Det Try.prog 110 [.one (i64 n)] (tint (sgnI n)) := by
  refine det_of_awp TTok mixed Try.func110 rfl rfl [] (Nat.le_of_ble_eq_true rfl) ?_
  repeat' first | refine Split.t ?_ | refine Split.f ?_ | refine Split.mk (fun _ => ?_) (fun _ => ?_) | refine Fin.int ?_ | fail
  all_goals simp_all [sgnI]
  all_goals try (intros; omega)
theorem within_det (v : V2) (m : Int) : Det Try.prog 94 [vD v, .one (i64 m)] (tbool (withinV v m)) := by
  refine det_of_awp TTok mixed Try.func94 rfl rfl [] (Nat.le_of_ble_eq_true rfl) ?_
  repeat' first | refine Split.t ?_ | refine Split.f ?_ | refine Split.mk (fun _ => ?_) (fun _ => ?_) | refine Need.mk (by kernel_rfl) ?_ | refine Fin.bool ?_ | fail
  all_goals
    simp_all [withinV, ng, w64]
    try (intros; omega)
theorem sub_det (a b : V2) : Det Try.prog 112 [vD a, vD b] (.d (vD (subW a b))) := by
  refine det_of_awp TTok mixed Try.func112 rfl rfl [] (Nat.le_of_ble_eq_true rfl) ?_
  repeat' first | refine Need.mk (by kernel_rfl) ?_ | fail
  exact Fin.rfl'
theorem cross_det (a b : V2) : Det Try.prog 111 [vD a, vD b] (tint (crossW a b)) := by
  refine det_of_awp TTok mixed Try.func111 rfl rfl [] (Nat.le_of_ble_eq_true rfl) ?_
  repeat' first | refine Need.mk (by kernel_rfl) ?_ | fail
  exact Fin.rfl'
theorem turn_det (a b c : V2) : Det Try.prog 97 [vD a, vD b, vD c] (tint (turnW a b c)) := by
  refine det_of_awp TTok mixed Try.func97 rfl rfl [] (Nat.le_of_ble_eq_true rfl) ?_
  refine CallW.v (sub_det b a) (fun p hp => ?_)
  refine CallW.v (sub_det c a) (fun q hq => ?_)
  refine CallW.int (cross_det p q) (fun n hn => ?_)
  refine CallW.int (sign_det n) (fun s hs => ?_)
  repeat' first | refine Need.mk (by kernel_rfl) ?_ | fail
  refine Fin.int ?_
  subst hs hn hp hq
  rfl
theorem less_det (a b : V2) : Det Try.prog 109 [vD a, vD b] (tbool (lessB a b)) := by
  refine det_of_awp TTok mixed Try.func109 rfl rfl [] (Nat.le_of_ble_eq_true rfl) ?_
  repeat' first | refine Split.t ?_ | refine Split.f ?_ | refine Split.mk (fun _ => ?_) (fun _ => ?_) | refine Need.mk (by kernel_rfl) ?_ | refine Fin.bool ?_ | fail
  all_goals simp_all [lessB]
  all_goals try (intros; omega)
def validS (s : Seg) : Bool := withinV s.a 4000 && withinV s.b 4000
def inBoxB (s : Seg) (p : V2) : Bool := decide (p.x ≥ minI s.a.x s.b.x) && decide (p.x ≤ maxI s.a.x s.b.x) && decide (p.y ≥ minI s.a.y s.b.y) && decide (p.y ≤ maxI s.a.y s.b.y)
def onB (s : Seg) (p : V2) : Bool := validS s && inBoxB s p && (turnW s.a s.b p == 0)
def sideI (s : Seg) (p : V2) : Int := bif validS s && withinV p 4000 then turnW s.a s.b p else 0
theorem rvalid_det (s : Seg) : Det Try.prog 69 [sD s] (tbool (validS s)) := by
  refine det_of_awp TTok mixed Try.func69 rfl rfl [] (Nat.le_of_ble_eq_true rfl) ?_
  repeat' first | refine CallW.bool (within_det s.a _) (fun _ _ => ?_) | refine CallW.bool (within_det s.b _) (fun _ _ => ?_) | refine Split.t ?_ | refine Split.f ?_ | refine Split.mk (fun _ => ?_) (fun _ => ?_) | refine Need.mk (by kernel_rfl) ?_ | refine Fin.bool ?_ | fail
  all_goals simp_all [validS]
theorem ron_det (s : Seg) (p : V2) : Det Try.prog 95 [sD s, vD p] (tbool (onB s p)) := by
  refine det_of_awp TTok mixed Try.func95 rfl rfl [] (Nat.le_of_ble_eq_true rfl) ?_
  refine CallW.bool (rvalid_det s) (fun v hv => ?_)
  refine Split.mk (fun h => ?_) (fun h => ?_)
  · refine Fin.bool ?_
    have : validS s = false := by rw [← hv]; simpa using h
    simp [onB, this]
  have hvt : validS s = true := by rw [← hv]; simpa using h
  have e : onB s p = (inBoxB s p && (turnW s.a s.b p == 0)) := by rw [onB, hvt, Bool.true_and]
  rw [e]
  have e2 : inBoxB s p = (decide (p.x ≥ minI s.a.x s.b.x) && decide (p.x ≤ maxI s.a.x s.b.x) && decide (p.y ≥ minI s.a.y s.b.y) && decide (p.y ≤ maxI s.a.y s.b.y)) := rfl
  rw [e2]
  refine Split.mk (fun h1 => ?_) (fun h1 => ?_)
  · replace h1 : decide (p.x ≥ minI s.a.x s.b.x) = true := h1
    repeat' first | refine Split.t ?_ | fail
    refine Split.mk (fun h2 => ?_) (fun h2 => ?_)
    · replace h2 : decide (p.x ≤ maxI s.a.x s.b.x) = true := h2
      repeat' first | refine Split.t ?_ | fail
      refine Split.mk (fun h3 => ?_) (fun h3 => ?_)
      · replace h3 : decide (p.y ≥ minI s.a.y s.b.y) = true := h3
        repeat' first | refine Split.t ?_ | fail
        refine Split.mk (fun h4 => ?_) (fun h4 => ?_)
        · replace h4 : decide (p.y ≤ maxI s.a.y s.b.y) = true := h4
          repeat' first | refine CallW.int (turn_det s.a s.b p) (fun _ _ => ?_) | refine Split.t ?_ | refine Fin.bool ?_ | fail
          rename_i n hn
          rw [h1, h2, h3, h4, hn]
          rfl
        · replace h4 : decide (p.y ≤ maxI s.a.y s.b.y) = false := h4
          repeat' first | refine Split.f ?_ | refine Fin.bool ?_ | fail
          rw [h4]; simp
      · replace h3 : decide (p.y ≥ minI s.a.y s.b.y) = false := h3
        repeat' first | refine Split.f ?_ | refine Fin.bool ?_ | fail
        rw [h3]; simp
    · replace h2 : decide (p.x ≤ maxI s.a.x s.b.x) = false := h2
      repeat' first | refine Split.f ?_ | refine Fin.bool ?_ | fail
      rw [h2]; simp
  · replace h1 : decide (p.x ≥ minI s.a.x s.b.x) = false := h1
    repeat' first | refine Split.f ?_ | refine Fin.bool ?_ | fail
    rw [h1]; simp
theorem rside_det (s : Seg) (p : V2) : Det Try.prog 71 [sD s, vD p] (tint (sideI s p)) := by
  refine det_of_awp TTok mixed Try.func71 rfl rfl [] (Nat.le_of_ble_eq_true rfl) ?_
  repeat' first | refine CallW.bool (rvalid_det s) (fun _ _ => ?_) | refine CallW.bool (within_det p 4000) (fun _ _ => ?_) | refine CallW.int (turn_det s.a s.b p) (fun _ _ => ?_) | refine Split.t ?_ | refine Split.f ?_ | refine Split.mk (fun _ => ?_) (fun _ => ?_) | refine Need.mk (by kernel_rfl) ?_ | refine Fin.int ?_ | fail
  all_goals simp_all [sideI]
theorem wid {n : Int} (h1 : -9223372036854775808 ≤ n) (h2 : n < 9223372036854775808) : IntKind.i64.wrap n = n := w64_id ⟨h1, h2⟩
theorem wid' {n : Int} (h1 : -9223372036854775808 ≤ n) (h2 : n < 9223372036854775808) : w64 n = n := w64_id ⟨h1, h2⟩
theorem withinV_iff {v : V2} {m : Int} (h0 : 0 ≤ m) (h1 : m ≤ 4611686018427387904) : withinV v m = true ↔ -m ≤ v.x ∧ v.x ≤ m ∧ -m ≤ v.y ∧ v.y ≤ m := by
  have e : ng m = -m := by
    unfold ng
    simp (disch := omega) only [wid']
    omega
  simp only [withinV, e, Bool.and_eq_true, decide_eq_true_eq]
  omega
theorem SLe.slN {n n' k : Nat} {g g' : Nat → Nat → SV} (hn : n = n') (h : ∀ i, i < n → ∀ j, j < k → SLe (g i j) (g' i j)) : SLe (.sl n k g) (.sl n' k g') := by
  subst hn; exact SLe.sl h
theorem SLe.bif {k i : Nat} {x y z : SV} (h1 : i < k → SLe x z) (h2 : k ≤ i → SLe y z) : SLe (bif Nat.blt i k then x else y) z := by
  cases h : Nat.blt i k with
  | true => exact h1 (lt_of_blt h)
  | false =>
    refine h2 (Nat.le_of_not_lt fun hl => ?_)
    have : Nat.blt i k = true := blt_t hl
    rw [h] at this; cases this
theorem needApp {n B : Nat} (h : n ≤ 100000) (hB : B ≤ 1000) : n * B ≤ 140737488355328 ∧ n ≤ maxLen := by
  have := Nat.mul_le_mul h hB
  simp only [maxLen]
  omega
/-- A vector is put into a sorted list, if it is not there. -/
def insV : List V2 → V2 → List V2
  | [], v => [v]
  | x :: r, v => if lessB x v = true then x :: insV r v else if x = v then x :: r else v :: x :: r
def sortV (l : List V2) : List V2 := l.foldl insV []
theorem insV_at {v : V2} : ∀ (l : List V2) (k : Nat), k ≤ l.length → (∀ i, i < k → lessB (l.getD i ⟨0, 0⟩) v = true) → (k < l.length → lessB (l.getD k ⟨0, 0⟩) v = false) →
    insV l v = if k < l.length ∧ l.getD k ⟨0, 0⟩ = v then l else l.take k ++ v :: l.drop k
  | [], k, hk, _, _ => by
    have : k = 0 := by simpa using hk
    subst this
    simp [insV]
  | x :: r, 0, _, _, hn => by
    have := hn (by simp)
    simp only [List.getD_cons_zero] at this
    simp only [insV, this, Bool.false_eq_true, if_false, List.length_cons, Nat.zero_lt_succ, true_and, List.getD_cons_zero, List.take_zero, List.drop_zero, List.nil_append]
  | x :: r, k + 1, hk, hl, hn => by
    have h0 := hl 0 (by omega)
    simp only [List.getD_cons_zero] at h0
    have ih := insV_at (v := v) r k (by simpa using hk) (fun i hi => by simpa using hl (i + 1) (by omega)) (fun h => by simpa using hn (by simpa using h))
    simp only [insV, h0, if_true, ih, List.length_cons, Nat.add_lt_add_iff_right, List.getD_cons_succ, List.take_succ_cons, List.drop_succ_cons]
    split <;> rfl
theorem length_insV (v : V2) : ∀ l : List V2, (insV l v).length ≤ l.length + 1
  | [] => by simp [insV]
  | x :: r => by
    simp only [insV]
    have := length_insV v r
    split
    · simp; omega
    · split <;> simp
abbrev vG (l : List V2) : Nat → Nat → SV := fun i j => match j with
  | 0 => i64 (l.getD i ⟨0, 0⟩).x
  | _ => i64 (l.getD i ⟨0, 0⟩).y
theorem vG_eq {l l' : List V2} {i i' : Nat} (h : l.getD i ⟨0, 0⟩ = l'.getD i' ⟨0, 0⟩) (j : Nat) : vG l i j = vG l' i' j := by
  unfold vG
  rw [h]
/-- One more vector behind a list of slices read. -/
theorem sorted_step (l : List V2) (v : V2) (k i : Nat) (hk : k ≤ l.length) (hi : i < l.length + 1) :
    (l.take k ++ v :: l.drop k).getD i ⟨0, 0⟩ = if i < k then l.getD i ⟨0, 0⟩ else if i = k then v else l.getD (i - 1) ⟨0, 0⟩ := by
  simp only [List.getD, List.getElem?_append, List.length_take, Nat.min_eq_left hk]
  by_cases h1 : i < k
  · simp [h1, List.getElem?_take]
  · by_cases h2 : i = k
    · subst h2; simp
    · simp only [h1, if_false, h2]
      obtain ⟨d, hd⟩ : ∃ d, i - k = d + 1 := ⟨i - k - 1, by omega⟩
      rw [hd, List.getElem?_cons_succ, List.getElem?_drop, show k + d = i - 1 by omega]
theorem put_le (o : List V2) (v : V2) (q : Nat) (hq : q ≤ o.length) {r : List V2} (hr : r = o.take q ++ v :: o.drop q) (i : Nat) (hi : i < 0 + (q - 0) + 1 + (o.length - q)) (j : Nat) (hj : j < 2) :
    SLe (bif Nat.blt i (0 + (q - 0) + 1) then (bif Nat.blt i (0 + (q - 0)) then (bif Nat.blt i 0 then .v Go.undef else vG o (0 + (i - 0)) j) else (vL v).getD ((i - (0 + (q - 0))) * 2 + j) (.v Go.undef)) else vG o (q + (i - (0 + (q - 0) + 1))) j) (vG r i j) := by
  have hs := sorted_step o v q i hq (by omega)
  rw [← hr] at hs
  refine SLe.bif (fun h1 => SLe.bif (fun h2 => SLe.bif (fun h3 => absurd h3 (Nat.not_lt_zero _)) (fun _ => ?_)) (fun h2 => ?_)) (fun h1 => ?_)
  · rw [if_pos (by omega)] at hs
    exact SLe.of_eq (vG_eq (by rw [hs]; congr 1; omega) j)
  · have e : i = q := by omega
    subst e
    rw [if_neg (by omega), if_pos rfl] at hs
    have e0 : i - (0 + (i - 0)) = 0 := by omega
    rw [e0]
    unfold vG
    rw [hs]
    rcases j with _ | _ | j
    · exact SLe.refl _
    · exact SLe.refl _
    · omega
  · rw [if_neg (by omega), if_neg (by omega)] at hs
    exact SLe.of_eq (vG_eq (by rw [hs]; congr 1; omega) j)
theorem sorted_det (l : List V2) (hl : l.length ≤ 1000) : Det Try.prog 96 [.one (vlS l)] (.d (.one (vlS (sortV l)))) := by
  refine det_of_awp TTok mixed Try.func96 rfl rfl [] (Nat.le_of_ble_eq_true rfl) ?_
  refine Loop.by (α := Nat × List V2) (fun x => [(0, .d (.one (vlS l))), (4, tint x.1), (3, .d (.one (vlS x.2)))]) (fun _ => []) (fun x => x.1 ≤ l.length ∧ x.2 = (l.take x.1).foldl insV [] ∧ x.2.length ≤ x.1) (fun x => l.length - x.1)
    (Adj.at (0, []) ⟨Nat.zero_le _, rfl, Nat.le_refl _⟩ .nil (.cons .same (.cons .same (.cons (.data (DLe.one (SLe.nil _ _))) .nil)))) (fun x hi => ?_)
  obtain ⟨k, o⟩ := x
  obtain ⟨hk, ho, hol⟩ := hi
  replace hk : k ≤ l.length := hk
  replace ho : o = (l.take k).foldl insV [] := ho
  replace hol : o.length ≤ k := hol
  refine Split.mk (fun h3 => ?_) (fun h3 => ?_)
  · have hlt : k < l.length := by have := of_decide_eq_true h3; omega
    have hw64 : IntKind.i64.wrap ((k : Int) + 1) = ((k + 1 : Nat) : Int) := (w64_id ⟨by omega, by omega⟩).trans (by omega)
    have hnext : (l.take (k + 1)).foldl insV [] = insV o (l.getD k ⟨0, 0⟩) := by
      rw [List.take_add_one, List.foldl_append, ← ho]
      simp [List.getD, List.getElem?_eq_getElem hlt]
    refine Loop.by (α := Nat) (fun q => [(0, .d (.one (vlS l))), (4, tint k), (3, .d (.one (vlS o))), (5, tint q)]) (fun _ => []) (fun q => q ≤ o.length ∧ ∀ i, i < q → lessB (o.getD i ⟨0, 0⟩) (l.getD k ⟨0, 0⟩) = true) (fun q => o.length - q)
      (Adj.at 0 ⟨Nat.zero_le _, fun _ h => absurd h (Nat.not_lt_zero _)⟩ .nil (.cons .same (.cons .same (.cons .same (.cons .same .nil))))) (fun q hi => ?_)
    obtain ⟨hq, hi⟩ := hi
    have hwq : IntKind.i64.wrap ((q : Int) + 1) = ((q + 1 : Nat) : Int) := (w64_id ⟨by omega, by omega⟩).trans (by omega)
    -- behind the search
    have behind : (q < o.length → lessB (o.getD q ⟨0, 0⟩) (l.getD k ⟨0, 0⟩) = false) → insV o (l.getD k ⟨0, 0⟩) = if q < o.length ∧ o.getD q ⟨0, 0⟩ = l.getD k ⟨0, 0⟩ then o else o.take q ++ l.getD k ⟨0, 0⟩ :: o.drop q := fun h => insV_at o q hq hi h
    refine Split.mk (fun h4 => ?_) (fun h4 => ?_)
    · have hql : q < o.length := by have := of_decide_eq_true h4; omega
      repeat' first | refine Split.t ?_ | refine Need.mk (by omega) ?_ | fail
      refine CallW.bool (less_det (o.getD q ⟨0, 0⟩) (l.getD k ⟨0, 0⟩)) (fun c hc => ?_)
      repeat' first | refine Split.t ?_ | refine Need.mk (by kernel_rfl) ?_ | fail
      refine Split.mk (fun h5 => ?_) (fun h5 => ?_)
      · refine Adj.back (x := q) (q + 1) ⟨hql, fun i hik => ?_⟩ (by omega) .nil (.cons .same (.cons .same (.cons .same (.cons (SlotLe.int hwq) .nil))))
        by_cases e : i = q
        · subst e; rw [← hc]; exact h5
        · exact hi i (by omega)
      · have hfalse : lessB (o.getD q ⟨0, 0⟩) (l.getD k ⟨0, 0⟩) = false := by rw [← hc]; exact h5
        have hins := behind (fun _ => hfalse)
        repeat' first | refine Split.t ?_ | refine Need.mk (by omega) ?_ | refine Split.isT h4 ?_ | fail
        refine EqW.v (o.getD q ⟨0, 0⟩) (l.getD k ⟨0, 0⟩) (fun e he => ?_)
        repeat' first | refine Split.t ?_ | refine Need.mk (by kernel_rfl) ?_ | fail
        refine Split.mk (fun h6 => ?_) (fun h6 => ?_)
        · refine Adj.back (x := (k, o)) (k + 1, o) ⟨hlt, ?_, ?_⟩ (by show l.length - (k + 1) < l.length - k; omega) .nil (.cons .same (.cons (SlotLe.int hw64) (.cons .same .nil)))
          · show o = _
            rw [hnext, hins, if_pos ⟨hql, he.1 h6⟩]
          · show o.length ≤ k + 1
            omega
        · have hne : ¬ (q < o.length ∧ o.getD q ⟨0, 0⟩ = l.getD k ⟨0, 0⟩) := fun h => by rw [he.2 h.2] at h6; cases h6
          rw [if_neg hne] at hins
          refine Need.mk (by omega) ?_
          refine Need.mk (needApp (by omega) (by decide)) ?_
          refine Need.mk (by omega) ?_
          refine Need.mk (needApp (by omega) (by decide)) ?_
          refine Need.mk (by omega) ?_
          refine Need.mk (needApp (by omega) (by decide)) ?_
          refine Need.mk (by kernel_rfl) ?_
          refine Adj.freeze 3 44 _ _ 2 62 _ rfl rfl (Adj.back (x := (k, o)) (k + 1, insV o (l.getD k ⟨0, 0⟩)) ⟨hlt, hnext.symm, ?_⟩ (by show l.length - (k + 1) < l.length - k; omega) .nil (.cons .same (.cons (SlotLe.int hw64) (.cons (.data (DLe.one (SLe.slN ?_ ?_))) .nil))))
          · exact Nat.le_trans (length_insV _ _) (by omega)
          · rw [hins]
            simp only [List.length_append, List.length_take, List.length_cons, List.length_drop, Int.toNat_natCast]
            omega
          · exact put_le o (l.getD k ⟨0, 0⟩) q hq hins
    · have hql : ¬ q < o.length := by have := of_decide_eq_false h4; omega
      have hins := behind (fun h => absurd h hql)
      rw [if_neg (fun h => hql h.1)] at hins
      repeat' first | refine Split.f ?_ | refine Need.mk (by kernel_rfl) ?_ | fail
      refine Split.isF h4 ?_
      repeat' first | refine Split.f ?_ | refine Need.mk (by kernel_rfl) ?_ | fail
      refine Need.mk (by omega) ?_
      refine Need.mk (needApp (by omega) (by decide)) ?_
      refine Need.mk (by omega) ?_
      refine Need.mk (needApp (by omega) (by decide)) ?_
      refine Need.mk (by omega) ?_
      refine Need.mk (needApp (by omega) (by decide)) ?_
      refine Need.mk (by kernel_rfl) ?_
      refine Adj.freeze 3 44 _ _ 2 62 _ rfl rfl (Adj.back (x := (k, o)) (k + 1, insV o (l.getD k ⟨0, 0⟩)) ⟨hlt, hnext.symm, ?_⟩ (by show l.length - (k + 1) < l.length - k; omega) .nil (.cons .same (.cons (SlotLe.int hw64) (.cons (.data (DLe.one (SLe.slN ?_ ?_))) .nil))))
      · exact Nat.le_trans (length_insV _ _) (by omega)
      · rw [hins]
        simp only [List.length_append, List.length_take, List.length_cons, List.length_drop, Int.toNat_natCast]
        omega
      · exact put_le o (l.getD k ⟨0, 0⟩) q hq hins
  · have e : k = l.length := by have := of_decide_eq_false h3; omega
    refine Fin.eq ?_
    show TV.d (.one (vlS o)) = _
    rw [ho, e, List.take_length]
    rfl
def endsL (s t : Seg) : List V2 := [s.a, s.b, t.a, t.b]
def bothB (s t : Seg) (e : V2) : Bool := onB s e && onB t e
def commonL (s t : Seg) : List V2 := sortV ((endsL s t).filter (bothB s t))
theorem filter_take (p : V2 → Bool) (l : List V2) (k : Nat) (hk : k < l.length) : (l.take (k + 1)).filter p = (l.take k).filter p ++ (if p (l.getD k ⟨0, 0⟩) = true then [l.getD k ⟨0, 0⟩] else []) := by
  rw [List.take_add_one, List.filter_append]
  congr 1
  simp only [List.getD, List.getElem?_eq_getElem hk, Option.toList_some, Option.getD_some, List.filter_cons, List.filter_nil]
theorem vG_app (o : List V2) (v : V2) (i : Nat) (hi : i < o.length + 1) (j : Nat) (hj : j < 2) : SLe (bif Nat.blt i o.length then vG o i j else (vL v).getD ((i - o.length) * 2 + j) (.v Go.undef)) (vG (o ++ [v]) i j) := by
  refine SLe.bif (fun h => SLe.of_eq (vG_eq ?_ j)) (fun h => ?_)
  · simp [List.getD, List.getElem?_append, h]
  · have e : i = o.length := by omega
    subst e
    have e2 : (o ++ [v]).getD o.length ⟨0, 0⟩ = v := by simp [List.getD]
    unfold vG
    rw [e2, Nat.sub_self]
    rcases j with _ | _ | j
    · exact SLe.refl _
    · exact SLe.refl _
    · omega
theorem common_det (s t : Seg) : Det Try.prog 70 [sD s, sD t] (.d (.one (vlS (commonL s t)))) := by
  refine det_of_awp TTok mixed Try.func70 rfl rfl [] (Nat.le_of_ble_eq_true rfl) ?_
  have hE : ∀ i, i < 4 → ∀ j, j < 2 → SLe ([i64 s.a.x, i64 s.a.y, i64 s.b.x, i64 s.b.y, i64 t.a.x, i64 t.a.y, i64 t.b.x, i64 t.b.y].getD (i * 2 + j) (.v Go.undef)) (vG (endsL s t) i j) := by
    intro i hi j hj
    rcases i with _ | _ | _ | _ | i <;> rcases j with _ | _ | j <;> first | exact SLe.refl _ | omega
  refine Loop.by (α := Nat) (fun k => [(2, .ptr 2 0), (3, .ptr 3 0), (5, .d (.one (vlS (endsL s t)))), (7, tint k), (6, .hdl 41 0)]) (fun k => [(2, .box (sL s)), (3, .box (sL t)), (41, .bld 0 (((endsL s t).take k).filter (bothB s t)).length 2 62 (vG (((endsL s t).take k).filter (bothB s t))))]) (fun k => k ≤ 4) (fun k => 4 - k)
    (Adj.nil 6 41 2 62 (fun _ _ => .v Go.undef) rfl rfl (Adj.at 0 (Nat.zero_le _) (.cons (.box (LLe.refl _)) (.cons (.box (LLe.refl _)) (.cons (.bld (fun _ h => absurd h (Nat.not_lt_zero _))) .nil))) (.cons (.box rfl rfl) (.cons (.box rfl rfl) (.cons (.data (DLe.one (SLe.sl hE))) (.cons .same (.cons (.hdl rfl rfl) .nil))))))) (fun k hk => ?_)
  refine Split.mk (fun h3 => ?_) (fun h3 => ?_)
  · have hlt : k < 4 := by have := of_decide_eq_true h3; omega
    have hw64 : IntKind.i64.wrap ((k : Int) + 1) = ((k + 1 : Nat) : Int) := (w64_id ⟨by omega, by omega⟩).trans (by omega)
    have hft := filter_take (bothB s t) (endsL s t) k hlt
    have hlen : (((endsL s t).take k).filter (bothB s t)).length ≤ 4 := by
      refine Nat.le_trans (List.length_filter_le _ _) ?_
      simp; omega
    refine Need.mk (show 0 ≤ (k : Int) ∧ (k : Int) < 4 by omega) ?_
    refine CallW.bool (ron_det s ((endsL s t).getD k ⟨0, 0⟩)) (fun b hb => ?_)
    refine Split.mk (fun h4 => ?_) (fun h4 => ?_)
    · subst h4
      repeat' first | refine Split.t ?_ | refine Need.mk (show 0 ≤ (k : Int) ∧ (k : Int) < 4 by omega) ?_ | fail
      refine CallW.bool (ron_det t ((endsL s t).getD k ⟨0, 0⟩)) (fun c hc => ?_)
      repeat' first | refine Split.t ?_ | refine Need.mk (by kernel_rfl) ?_ | fail
      refine Split.mk (fun h5 => ?_) (fun h5 => ?_)
      · subst h5
        have hp : bothB s t ((endsL s t).getD k ⟨0, 0⟩) = true := by rw [bothB, ← hb, ← hc]; rfl
        rw [if_pos hp] at hft
        refine Need.mk (show 0 ≤ (k : Int) ∧ (k : Int) < 4 by omega) ?_
        refine Need.mk (needApp (by omega) (by decide)) ?_
        refine Adj.back (x := k) (k + 1) hlt (by omega) (.cons (.box (LLe.refl _)) (.cons (.box (LLe.refl _)) (.cons (.bldN ?_ ?_) .nil))) (.cons (.box rfl rfl) (.cons (.box rfl rfl) (.cons .same (.cons (SlotLe.int hw64) (.cons (.hdl rfl rfl) .nil)))))
        · rw [hft]; simp
        · intro i hi j hj
          rw [hft]
          exact vG_app _ _ i hi j hj
      · subst h5
        have hp : bothB s t ((endsL s t).getD k ⟨0, 0⟩) = false := by rw [bothB, ← hc]; simp
        rw [hp] at hft
        simp only [Bool.false_eq_true, if_false, List.append_nil] at hft
        refine Adj.back (x := k) (k + 1) hlt (by omega) (.cons (.box (LLe.refl _)) (.cons (.box (LLe.refl _)) (.cons (.bldN ?_ ?_) .nil))) (.cons (.box rfl rfl) (.cons (.box rfl rfl) (.cons .same (.cons (SlotLe.int hw64) (.cons (.hdl rfl rfl) .nil)))))
        · rw [hft]
        · intro i hi j hj
          rw [hft]
          exact SLe.refl _
    · subst h4
      have hp : bothB s t ((endsL s t).getD k ⟨0, 0⟩) = false := by rw [bothB, ← hb]; rfl
      rw [hp] at hft
      simp only [Bool.false_eq_true, if_false, List.append_nil] at hft
      repeat' first | refine Split.f ?_ | refine Need.mk (by kernel_rfl) ?_ | fail
      refine Adj.back (x := k) (k + 1) hlt (by omega) (.cons (.box (LLe.refl _)) (.cons (.box (LLe.refl _)) (.cons (.bldN ?_ ?_) .nil))) (.cons (.box rfl rfl) (.cons (.box rfl rfl) (.cons .same (.cons (SlotLe.int hw64) (.cons (.hdl rfl rfl) .nil)))))
      · rw [hft]
      · intro i hi j hj
        rw [hft]
        exact SLe.refl _
  · have e : k = 4 := by have := of_decide_eq_false h3; omega
    subst e
    have hlen : ((endsL s t).filter (bothB s t)).length ≤ 4 := List.length_filter_le _ _
    refine CallW.mk' (sorted_det ((endsL s t).filter (bothB s t)) (by omega)) ?_
    exact Fin.rfl'
def crossB (s t : Seg) : Bool := decide (sideI s t.a * sideI s t.b < 0) && decide (sideI t s.a * sideI t s.b < 0)
def rmeetI (s t : Seg) : Int := if validS s = false ∨ validS t = false then 0 else if (commonL s t).length > 1 then 3 else if (commonL s t).length = 1 then 1 else if crossB s t = true then 2 else 0
theorem side_b (s : Seg) (p : V2) : -1 ≤ sideI s p ∧ sideI s p ≤ 1 := by
  unfold sideI
  cases validS s && withinV p 4000
  · simp only [cond_false]
    omega
  · simp only [cond_true, turnW, sgnI]
    split
    · decide
    · split <;> decide
theorem side_mul (s t : Seg) (p q : V2) : w64 (sideI s p * sideI t q) = sideI s p * sideI t q := by
  have h1 := side_b s p
  have h2 := side_b t q
  have a : sideI s p = -1 ∨ sideI s p = 0 ∨ sideI s p = 1 := by omega
  rcases a with a | a | a <;> rw [a] <;> exact wid' (by omega) (by omega)
theorem length_sort (l : List V2) : (sortV l).length ≤ l.length := by
  have : ∀ (l o : List V2), (l.foldl insV o).length ≤ o.length + l.length := by
    intro l
    induction l with
    | nil => intro o; exact Nat.le_refl _
    | cons x l ih =>
      intro o
      have h1 := ih (insV o x)
      have h2 := length_insV x o
      simp only [List.foldl_cons, List.length_cons]
      omega
  simpa [sortV] using this l []
theorem common_le (s t : Seg) : (commonL s t).length ≤ 4 := Nat.le_trans (length_sort _) (List.length_filter_le _ _)
theorem rmeet_det (s t : Seg) : Det Try.prog 35 [sD s, sD t] (tint (rmeetI s t)) := by
  refine det_of_awp TTok mixed Try.func35 rfl rfl [] (Nat.le_of_ble_eq_true rfl) ?_
  refine CallW.bool (rvalid_det s) (fun a ha => ?_)
  refine Split.mk (fun h => ?_) (fun h => ?_)
  · repeat' first | refine Split.t ?_ | refine Fin.int ?_ | fail
    rw [rmeetI, if_pos (.inl (by rw [← ha]; simpa using h))]
  repeat' first | refine Split.f ?_ | fail
  refine CallW.bool (rvalid_det t) (fun b hb => ?_)
  repeat' first | refine Split.f ?_ | fail
  refine Split.mk (fun h2 => ?_) (fun h2 => ?_)
  · refine Fin.int ?_
    rw [rmeetI, if_pos (.inr (by rw [← hb]; simpa using h2))]
  have hv : ¬ (validS s = false ∨ validS t = false) := by
    rw [← ha, ← hb]
    simp at h h2
    simp [h, h2]
  have hR : rmeetI s t = if (commonL s t).length > 1 then 3 else if (commonL s t).length = 1 then 1 else if crossB s t = true then 2 else 0 := by rw [rmeetI, if_neg hv]
  rw [hR]
  refine CallW.mk' (common_det s t) ?_
  refine Split.mk (fun h3 => ?_) (fun h3 => ?_)
  · replace h3 := of_decide_eq_true h3
    refine Fin.int ?_
    rw [if_pos (by omega)]
  replace h3 := of_decide_eq_false h3
  rw [if_neg (by omega)]
  refine Split.mk (fun h4 => ?_) (fun h4 => ?_)
  · have h4' : ((commonL s t).length : Int) = 1 := by simpa using h4
    refine Fin.int ?_
    rw [if_pos (by omega)]
  have h4' : ((commonL s t).length : Int) ≠ 1 := by simpa using h4
  rw [if_neg (by omega)]
  refine CallW.int (rside_det s t.a) (fun p1 hp1 => ?_)
  refine CallW.int (rside_det s t.b) (fun p2 hp2 => ?_)
  have m1 := side_mul s s t.a t.b
  have m2 := side_mul t t s.a s.b
  rw [← hp1, ← hp2] at m1
  have e : crossB s t = (decide (p1 * p2 < 0) && decide (sideI t s.a * sideI t s.b < 0)) := by rw [crossB, hp1, hp2]
  rw [e]
  refine Split.mk (fun h5 => ?_) (fun h5 => ?_)
  · replace h5 : decide (w64 (p1 * p2) < 0) = true := h5
    rw [m1] at h5
    repeat' first | refine Split.t ?_ | fail
    refine CallW.int (rside_det t s.a) (fun q1 hq1 => ?_)
    have h5' : decide (w64 (p1 * p2) < 0) = true := by rw [m1]; exact h5
    repeat' first | refine Split.t ?_ | refine Split.isT h5' ?_ | refine CallW.int (rside_det t s.b) (fun q2 hq2 => ?_) | refine Need.mk (by kernel_rfl) ?_ | fail
    rw [← hq1, ← hq2] at m2
    rw [← hq1, ← hq2, h5, Bool.true_and]
    refine Split.mk (fun h6 => ?_) (fun h6 => ?_)
    · replace h6 : decide (w64 (q1 * q2) < 0) = true := h6
      rw [m2] at h6
      refine Fin.int ?_
      rw [if_pos h6]
    · replace h6 : decide (w64 (q1 * q2) < 0) = false := h6
      rw [m2] at h6
      refine Fin.int ?_
      rw [h6]
      rfl
  · replace h5 : decide (w64 (p1 * p2) < 0) = false := h5
    rw [m1] at h5
    rw [h5, Bool.false_and]
    have h5' : decide (w64 (p1 * p2) < 0) = false := by rw [m1]; exact h5
    repeat' first | refine Split.f ?_ | refine Split.isF h5' ?_ | refine Need.mk (by kernel_rfl) ?_ | refine Fin.int ?_ | fail
    rfl
end Sg
end Go.Vm
