/-
  Layer 38: the statements' first look at the example; law Normal.
  Layer 38: normal lengths (plain); law Normal.
-/
import Derived.Test.YtfoblfchkgapoaaGuiO
namespace Go.Vm
set_option maxRecDepth 20000
set_option linter.unusedVariables false
set_option linter.unusedSimpArgs false
open Go Go.RowKit Go.Proofs
namespace St

abbrev gexK : List Knd := [⟨3, 4, 1⟩, ⟨4, 3, 1⟩]
theorem gex_a : (gbestR gexK 7 7 0).1 = 3 ∧ (gbestR gexK 7 7 0).2.2 = 0 ∧ validB (gbestR gexK 7 7 0).2.1 gexK 7 7 0 = true ∧ (gbestR gexK 7 7 0).2.1.length ≤ 1000 ∧ (sawR (gbestR gexK 7 7 0).2.1 7 7 0).2 = 0 ∧ 2 < (sawR (gbestR gexK 7 7 0).2.1 7 7 0).1.length := by
  have : decide ((gbestR gexK 7 7 0).1 = 3 ∧ (gbestR gexK 7 7 0).2.2 = 0 ∧ validB (gbestR gexK 7 7 0).2.1 gexK 7 7 0 = true ∧ (gbestR gexK 7 7 0).2.1.length ≤ 1000 ∧ (sawR (gbestR gexK 7 7 0).2.1 7 7 0).2 = 0 ∧ 2 < (sawR (gbestR gexK 7 7 0).2.1 7 7 0).1.length) = true := by kernel_rfl
  exact of_decide_eq_true this
theorem gex_n : nrmR [3, 4] 7 1 = ([0, 3, 4, 7], 0) := by
  have : decide (nrmR [3, 4] 7 1 = ([0, 3, 4, 7], 0)) = true := by kernel_rfl
  exact of_decide_eq_true this
theorem CallW.nrm {P : Program} {f : FuncId} {args : List DV} {K : TV → Prop} {a : List Int × Int} (h : Det P f args (nrmE a)) (kk : ∀ x, x = a → K (nrmE x)) : CallW P f args K := ⟨_, h, kk a rfl⟩
theorem CallW.sg {P : Program} {f : FuncId} {args : List DV} {K : TV → Prop} {a : List Sg.Seg × Int} (h : Det P f args (sgE a)) (kk : ∀ x, x = a → K (sgE x)) : CallW P f args K := ⟨_, h, kk a rfl⟩
theorem awake38_det : Det Try.prog 28 [] (tbool true) := by
  refine det_of_awp TTok mixed Try.func28 rfl rfl [] (Nat.le_of_ble_eq_true rfl) ?_
  obtain ⟨a1, a2, a3, a4, a5, a6⟩ := gex_a
  have hlit : DLe (.one (.sl 2 3 fun i j => [i64 3, i64 4, i64 1, i64 4, i64 3, i64 1].getD (i * 3 + j) (.v Go.undef))) (.one (kS gexK)) := DLe.one (SLe.slN rfl (fun i hi j hj => SLe.of_eq (by
    match i, hi, j, hj with
    | 0, _, 0, _ => rfl
    | 0, _, 1, _ => rfl
    | 0, _, 2, _ => rfl
    | 1, _, 0, _ => rfl
    | 1, _, 1, _ => rfl
    | 1, _, 2, _ => rfl)))
  have hsz : DLe (.one (.sl 2 1 fun i j => [i64 3, i64 4].getD (i * 1 + j) (.v Go.undef))) (.one (iS [3, 4])) := DLe.one (SLe.slN rfl (fun i hi j hj => SLe.of_eq (by
    match i, hi, j, hj with
    | 0, _, 0, _ => rfl
    | 1, _, 0, _ => rfl)))
  refine CallW.best ((gbest_det gexK 7 7 0 (by decide)).le (.cons hlit (.cons (DLe.refl _) (.cons (DLe.refl _) (.cons (DLe.refl _) .nil))))) (fun x hx => ?_)
  rw [← hx] at a1 a2 a3 a4 a5 a6
  obtain ⟨x1, x2, x3⟩ := x
  replace a1 : x1 = 3 := a1
  replace a2 : x3 = 0 := a2
  replace a3 : validB x2 gexK 7 7 0 = true := a3
  replace a4 : x2.length ≤ 1000 := a4
  replace a5 : (sawR x2 7 7 0).2 = 0 := a5
  replace a6 : 2 < (sawR x2 7 7 0).1.length := a6
  subst a1 a2
  refine CallW.mk' (((normal_det [3, 4] 7 1 (by decide)).eq (by rw [gex_n])).le (.cons hsz (.cons (DLe.refl _) (.cons (DLe.refl _) .nil)))) ?_
  refine CallW.sg (saw_det x2 7 7 0 (by omega)) (fun y hy => ?_)
  rw [← hy] at a5 a6
  obtain ⟨y1, y2⟩ := y
  replace a5 : y2 = 0 := a5
  replace a6 : 2 < y1.length := a6
  subst a5
  repeat' first | refine Split.t ?_ | fail
  refine CallW.mk' (((valid_det x2 gexK 7 7 0 (by omega) (by decide)).eq (by rw [a3])).le (.cons (DLe.refl _) (.cons hlit (.cons (DLe.refl _) (.cons (DLe.refl _) (.cons (DLe.refl _) .nil)))))) ?_
  repeat' first | refine Split.t ?_ | fail
  refine Need.mk (by decide) ?_
  repeat' first | refine Split.t ?_ | fail
  refine Fin.bool ?_
  exact decide_eq_true (by show (y1.length : Int) > 2; omega)
end St
end Go.Vm
namespace Go.Vm
set_option maxRecDepth 20000
set_option linter.unusedVariables false
set_option linter.unusedSimpArgs false
open Go Go.RowKit Go.Proofs
namespace St

section
variable (sizes : List Int) (kerf : Int)
/-- Whether c is reached. -/
def rchR (c : Nat) : Bool := (rchL sizes kerf c).getD c false
theorem rch_get {j : Nat} : ∀ c, j ≤ c → (rchL sizes kerf c).getD j false = rchR sizes kerf j
  | 0, h => by
    obtain rfl : j = 0 := by omega
    rfl
  | c + 1, h => by
    have := rchL_len sizes kerf c
    rcases Nat.lt_or_ge j (c + 1) with q | q
    · rw [rchL, getD_app_l _ _ _ _ (by omega), rch_get c (by omega)]
    · obtain rfl : j = c + 1 := by omega
      rfl
theorem rchR_zero : rchR sizes kerf 0 = true := rfl
theorem rchR_succ (c : Nat) : rchR sizes kerf (c + 1) = sizes.any (rchS kerf (rchL sizes kerf c) ((c + 1 : Nat) : Int)) := by
  have := rchL_len sizes kerf c
  rw [rchR, rchL, getD_app_r _ _ _ _ (by omega), this, Nat.sub_self]; rfl
theorem any_congr {l : List Int} {f g : Int → Bool} (h : ∀ x ∈ l, f x = g x) : l.any f = l.any g := by
  induction l with
  | nil => rfl
  | cons a l ih => rw [List.any_cons, List.any_cons, h a (by simp), ih (fun x hx => h x (by simp [hx]))]
theorem any_false {l : List Int} {f : Int → Bool} (h : ∀ x ∈ l, f x = false) : l.any f = false := by
  rw [any_congr (g := fun _ => false) h]
  induction l with
  | nil => rfl
  | cons a l ih => rw [List.any_cons, ih (fun x hx => h x (by simp [hx]))]; rfl
theorem rch_low (hs : ∀ s ∈ sizes, 1 ≤ s) (k0 : 0 ≤ kerf) : ∀ c : Nat, (c : Int) ≤ kerf → rchO sizes kerf c = [0] ∧ (1 ≤ c → rchR sizes kerf c = false)
  | 0, _ => ⟨rfl, fun h => absurd h (by decide)⟩
  | c + 1, h => by
    obtain ⟨i1, _⟩ := rch_low hs k0 c (by omega)
    have z : sizes.any (rchS kerf (rchL sizes kerf c) ((c + 1 : Nat) : Int)) = false := any_false (fun s q => by
      have := hs s q
      rw [rchS, decide_eq_false (by omega), Bool.false_and])
    exact ⟨by rw [rchO, z, if_neg (by simp), i1], fun _ => by rw [rchR_succ, z]⟩
theorem tail_app {l : List Int} (h : 1 ≤ l.length) (x : Int) : (l ++ [x]).tail = l.tail ++ [x] := by
  cases l with
  | nil => simp at h
  | cons a l => rfl
theorem rn_eq (hs : ∀ s ∈ sizes, 1 ≤ s) (K : Nat) : ∀ n, rchO sizes K (K + n) = rnL sizes K n ∧ ∀ m : Int, ((rnL sizes K n).tail.any fun x => x == m) = (decide (1 ≤ m ∧ m ≤ n) && rchR sizes K (K + m.toNat))
  | 0 => by
    refine ⟨(rch_low sizes K hs (by omega) K (Int.le_refl _)).1, fun m => ?_⟩
    rw [decide_eq_false (by omega), Bool.false_and]; rfl
  | n + 1 => by
    obtain ⟨i1, i2⟩ := rn_eq hs K n
    have hl := (rnL_len sizes (K : Int) n).1
    have key : sizes.any (rchS K (rchL sizes K (K + n)) ((K + n + 1 : Nat) : Int)) = sizes.any (rnF K (rnL sizes K n) ((n + 1 : Nat) : Int)) := any_congr (fun s q => by
      have s1 := hs s q
      rw [rchS, rnF, i2]
      by_cases c1 : s = ((n + 1 : Nat) : Int)
      · subst c1
        have e : (((K + n + 1 : Nat) : Int) - ((n + 1 : Nat) : Int) - (K : Int)).toNat = 0 := by omega
        rw [e, rch_get sizes K (K + n) (Nat.zero_le _), rchR_zero, decide_eq_true (by omega), beq_self_eq_true]; rfl
      have e2 : (((n + 1 : Nat) : Int) == s) = false := by
        cases hq : ((n + 1 : Nat) : Int) == s with
        | false => rfl
        | true => exact absurd (eq_of_beq hq).symm c1
      rw [e2, Bool.false_or]
      by_cases c2 : s ≤ ((n + 1 : Nat) : Int)
      · rw [decide_eq_true (by omega), Bool.true_and]
        obtain ⟨j, hj⟩ : ∃ j : Nat, ((n + 1 : Nat) : Int) - s = j := ⟨(((n + 1 : Nat) : Int) - s).toNat, by omega⟩
        have e3 : (((K + n + 1 : Nat) : Int) - s - (K : Int)).toNat = j := by omega
        rw [e3, rch_get sizes K (K + n) (by omega), hj]
        by_cases c3 : j ≤ K
        · rw [(rch_low sizes K hs (by omega) j (by omega)).2 (by omega), decide_eq_false (by omega), Bool.false_and]
        · have e4 : K + ((j : Int) - (K : Int)).toNat = j := by omega
          rw [e4, decide_eq_true (by omega), Bool.true_and]
      · rw [decide_eq_false (by omega), Bool.false_and, decide_eq_false (by omega), Bool.false_and])
    have hR : rchR sizes K (K + n + 1) = sizes.any (rnF K (rnL sizes K n) ((n + 1 : Nat) : Int)) := by rw [rchR_succ, key]
    constructor
    · show rchO sizes K (K + n + 1) = _
      rw [rchO, rnL, key, i1]
      split
      · congr 2
        omega
      · rfl
    · intro m
      rw [rnL, ← hR]
      by_cases e : m = ((n + 1 : Nat) : Int)
      · have e5 : K + m.toNat = K + n + 1 := by omega
        rw [e5, decide_eq_true (by omega), Bool.true_and]
        split
        · rename_i h
          rw [tail_app hl, List.any_append, h]
          simp [e]
        · rename_i h
          rw [i2, decide_eq_false (by omega), Bool.false_and]
          simpa using h
      · have e6 : decide (1 ≤ m ∧ m ≤ ((n + 1 : Nat) : Int)) = decide (1 ≤ m ∧ m ≤ (n : Int)) := by
          rw [decide_eq_decide]; omega
        rw [e6, ← i2]
        split
        · rw [tail_app hl, List.any_append]
          have : ([((n + 1 : Nat) : Int)].any fun x => x == m) = false := by
            simp only [List.any_cons, List.any_nil, Bool.or_false]
            cases hq : ((n + 1 : Nat) : Int) == m with
            | false => rfl
            | true => exact absurd (eq_of_beq hq).symm e
          rw [this, Bool.or_false]
        · rfl
end
theorem nrmBad_ok {sizes : List Int} {side kerf : Int} (h : nrmBad sizes side kerf = false) : sizes.length ≤ 20 ∧ (∀ s ∈ sizes, 1 ≤ s ∧ s ≤ 2000) ∧ 1 ≤ side ∧ side ≤ 2000 ∧ 0 ≤ kerf ∧ kerf ≤ 50 := by
  simp only [nrmBad, Bool.or_eq_false_iff, decide_eq_false_iff_not] at h
  obtain ⟨h1, h2, h3, h4, h5⟩ := h
  simp only [wrongS, Bool.or_eq_false_iff, decide_eq_false_iff_not] at h3
  refine ⟨by omega, fun s q => ?_, by omega, by omega, by omega, by omega⟩
  have : wrongS s = false := by
    cases hq : wrongS s with
    | false => rfl
    | true => rw [List.any_eq_true.2 ⟨s, q, hq⟩] at h2; cases h2
  simp only [wrongS, Bool.or_eq_false_iff, decide_eq_false_iff_not] at this
  omega
theorem nrm_eq (sizes : List Int) (side kerf : Int) : nrmR sizes side kerf = rnR sizes side kerf := by
  rw [nrmR, rnR]
  cases hb : nrmBad sizes side kerf with
  | true => rfl
  | false =>
    obtain ⟨_, hs, s0, s1, k0, k1⟩ := nrmBad_ok hb
    obtain ⟨K, rfl⟩ : ∃ K : Nat, kerf = K := ⟨kerf.toNat, by omega⟩
    obtain ⟨n, rfl⟩ : ∃ n : Nat, side = n := ⟨side.toNat, by omega⟩
    have e : ((n : Int) + (K : Int)).toNat = K + n := by omega
    rw [e, (rn_eq sizes (fun s q => (hs s q).1) K n).1]; rfl
theorem lnormal_det (sizes : List Int) (side kerf : Int) (hl : sizes.length ≤ maxLen) : Det Try.prog 9 [.one (iS sizes), .one (i64 side), .one (i64 kerf)] (tbool true) := by
  refine det_of_awp TTok mixed Try.func9 rfl rfl [] (Nat.le_of_ble_eq_true rfl) ?_
  refine CallW.mk' awake38_det ?_
  refine Split.f ?_
  have lenR : ∀ (l : List Int) (e : Int), (l, e) = nrmR sizes side kerf → l.length ≤ 3000 := fun l e hy => by
    rw [nrmR] at hy
    cases hb : nrmBad sizes side kerf with
    | true => rw [if_pos hb] at hy; cases hy; exact Nat.zero_le _
    | false =>
      obtain ⟨_, hs, s0, s1, k0, k1⟩ := nrmBad_ok hb
      rw [if_neg (by rw [hb]; simp)] at hy
      cases hy
      have := rchO_len sizes kerf (side + kerf).toNat
      omega
  have skip : Fin (tbool true) (tbool true) := Fin.rfl'
  refine Split.mk (fun c1 => ?_) (fun c1 => ?_)
  · repeat' first | refine Split.isT c1 ?_ | refine Split.t ?_ | refine Split.f ?_ | fail
    exact skip
  repeat' first | refine Split.isF c1 ?_ | refine Split.t ?_ | refine Split.f ?_ | fail
  refine Split.mk (fun c2 => ?_) (fun c2 => ?_)
  · repeat' first | refine Split.isT c2 ?_ | refine Split.isF c1 ?_ | refine Split.t ?_ | refine Split.f ?_ | fail
    refine Split.mk (fun c3 => ?_) (fun c3 => ?_)
    · exact skip
    refine CallW.nrm (normal_det sizes side kerf hl) (fun y hy => ?_)
    refine CallW.nrm ((rnormal_det sizes side kerf hl).eq (by rw [← nrm_eq, ← hy])) (fun z hz => ?_)
    subst hz
    obtain ⟨l, e⟩ := z
    have hll : l.length ≤ 3000 := lenR l e hy
    have f1 : (e != e) = false := bne_self_eq_false _
    have f2 : ((l.length : Int) != (l.length : Int)) = false := bne_self_eq_false _
    refine Split.isF f1 ?_
    repeat' first | refine Split.isF f1 ?_ | refine Split.t ?_ | refine Split.f ?_ | fail
    refine Split.isF f2 ?_
    refine Loop.by (α := Nat) (fun k => [(7, .d (.one (iS l))), (9, .d (.one (iS l))), (49, .d (.one (iS l))), (50, tint l.length), (51, tint k)]) (fun _ => []) (fun k => k ≤ l.length) (fun k => l.length - k)
      (Adj.at 0 (Nat.zero_le _) .nil (.cons .same (.cons .same (.cons .same (.cons .same (.cons .same .nil)))))) (fun k hk => ?_)
    refine Split.mk (fun d1 => ?_) (fun d1 => ?_)
    · have hlt : k < l.length := by have := of_decide_eq_true d1; omega
      refine Need.mk (by omega) ?_
      refine Need.mk (by omega) ?_
      refine Need.mk (by kernel_rfl) ?_
      have f3 : (iget l k != iget l k) = false := bne_self_eq_false _
      refine Split.isF f3 ?_
      exact Adj.back (x := k) (k + 1) (by omega) (by omega) .nil (.cons .same (.cons .same (.cons .same (.cons .same (.cons (SlotLe.int (hS k (by omega))) .nil)))))
    exact skip
  repeat' first | refine Split.isF c2 ?_ | refine Split.isF c1 ?_ | refine Split.t ?_ | refine Split.f ?_ | fail
  refine CallW.nrm (normal_det sizes side kerf hl) (fun y hy => ?_)
  refine CallW.nrm ((rnormal_det sizes side kerf hl).eq (by rw [← nrm_eq, ← hy])) (fun z hz => ?_)
  subst hz
  obtain ⟨l, e⟩ := z
  have hll : l.length ≤ 3000 := lenR l e hy
  have f1 : (e != e) = false := bne_self_eq_false _
  have f2 : ((l.length : Int) != (l.length : Int)) = false := bne_self_eq_false _
  refine Split.isF f1 ?_
  repeat' first | refine Split.isF f1 ?_ | refine Split.t ?_ | refine Split.f ?_ | fail
  refine Split.isF f2 ?_
  refine Loop.by (α := Nat) (fun k => [(7, .d (.one (iS l))), (9, .d (.one (iS l))), (49, .d (.one (iS l))), (50, tint l.length), (51, tint k)]) (fun _ => []) (fun k => k ≤ l.length) (fun k => l.length - k)
    (Adj.at 0 (Nat.zero_le _) .nil (.cons .same (.cons .same (.cons .same (.cons .same (.cons .same .nil)))))) (fun k hk => ?_)
  refine Split.mk (fun d1 => ?_) (fun d1 => ?_)
  · have hlt : k < l.length := by have := of_decide_eq_true d1; omega
    refine Need.mk (by omega) ?_
    refine Need.mk (by omega) ?_
    refine Need.mk (by kernel_rfl) ?_
    have f3 : (iget l k != iget l k) = false := bne_self_eq_false _
    refine Split.isF f3 ?_
    exact Adj.back (x := k) (k + 1) (by omega) (by omega) .nil (.cons .same (.cons .same (.cons .same (.cons .same (.cons (SlotLe.int (hS k (by omega))) .nil)))))
  exact skip
theorem intsIn {v : DV} (h : TypD Try.prog 53 v) : ∃ l : List Int, l.length ≤ maxLen ∧ DLe v (.one (iS l)) := by
  obtain ⟨c, rfl, k⟩ := TypD.one (by kernel_rfl) h
  obtain ⟨n, get, e, hn, hr⟩ := Typ.inv_slc (e := 3) rfl k
  cases (show [c] = [SV.sl n 1 get] from e)
  obtain ⟨l, hl, _, hle⟩ := lst_of (f := iL) (d := (0 : Int)) (Q := fun _ => True) (n := n) (k := 1) (get := get) (fun i hi => by
    obtain ⟨m, e, _⟩ := Typ.inv_i64 rfl (hr i hi)
    exact ⟨m, trivial, e⟩)
  exact ⟨l, by omega, hle⟩
theorem lnormal_all : ∀ dvs, TypL Try.prog Try.f9.params.toList dvs → Det Try.prog 9 dvs (tbool true) := by
  intro dvs h
  obtain ⟨v0, r0, rfl, h0, q0⟩ := TypL.inv_cons (t := 53) (ts := [3, 3]) h
  obtain ⟨v1, r1, rfl, h1, q1⟩ := TypL.inv_cons (t := 3) (ts := [3]) q0
  obtain ⟨v2, r2, rfl, h2, q2⟩ := TypL.inv_cons (t := 3) (ts := []) q1
  obtain rfl := TypL.inv_nil q2
  obtain ⟨n1, rfl, _⟩ := TypD.i64 (by kernel_rfl) rfl h1
  obtain ⟨n2, rfl, _⟩ := TypD.i64 (by kernel_rfl) rfl h2
  obtain ⟨l, hl, hle⟩ := intsIn h0
  exact Det.le (.cons hle (.cons (DLe.refl _) (.cons (DLe.refl _) .nil))) (lnormal_det l n1 n2 hl)
end St
end Go.Vm
