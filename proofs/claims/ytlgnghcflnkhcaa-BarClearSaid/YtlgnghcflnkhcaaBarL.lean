/-
  Layer 26: contracts of picked rows, and the law BarRow.
-/
import Derived.Test.YtlgnghcflnkhcaaBarK
namespace Go.Vm
open Go Go.RowKit Go.Proofs

theorem sameints_det (n : Nat) (X : Nat → Int) (hn : n ≤ maxLen) : Det Try.prog 39 [.one (intS n X), .one (intS n X)] (tbool true) := by
  have hm : (n : Int) < 9223372036854775808 := by simp only [maxLen] at hn; omega
  refine det_of_awp TTok mixed Try.func39 rfl rfl [] (Nat.le_of_ble_eq_true rfl) ?_
  refine Split.isF (by simp) ?_
  refine Loop.by (α := Nat) (fun k => [(0, .d (.one (intS n X))), (1, .d (.one (intS n X))), (5, tint k)]) (fun _ => []) (fun k => k ≤ n) (fun k => n - k)
    (Adj.at 0 (Nat.zero_le _) .nil (.cons .same (.cons .same (.cons .same .nil)))) (fun k hk => ?_)
  refine Split.mk (fun h3 => ?_) (fun h3 => ?_)
  · have hlt : k < n := by have := of_decide_eq_true h3; omega
    have hw64 : IntKind.i64.wrap ((k : Int) + 1) = ((k + 1 : Nat) : Int) := (w64_id ⟨by omega, by omega⟩).trans (by omega)
    repeat' first | refine Need.mk (by omega) ?_ | refine Need.mk (by kernel_rfl) ?_
    refine Split.isF (by simp) ?_
    exact Adj.back (x := k) (k + 1) hlt (by omega) .nil (.cons .same (.cons .same (.cons (SlotLe.int hw64) .nil)))
  · exact Fin.bool rfl
theorem samerow_det (n : Nat) (R : Nat → BP) (hn : n ≤ maxLen) : Det Try.prog 40 [.one (rowS n R), .one (rowS n R)] (tbool true) := by
  have hm : (n : Int) < 9223372036854775808 := by simp only [maxLen] at hn; omega
  refine det_of_awp TTok mixed Try.func40 rfl rfl [] (Nat.le_of_ble_eq_true rfl) ?_
  refine Split.isF (by simp) ?_
  refine Loop.by (α := Nat) (fun k => [(0, .d (.one (rowS n R))), (1, .d (.one (rowS n R))), (5, tint k)]) (fun _ => []) (fun k => k ≤ n) (fun k => n - k)
    (Adj.at 0 (Nat.zero_le _) .nil (.cons .same (.cons .same (.cons .same .nil)))) (fun k hk => ?_)
  refine Split.mk (fun h3 => ?_) (fun h3 => ?_)
  · have hlt : k < n := by have := of_decide_eq_true h3; omega
    have hw64 : IntKind.i64.wrap ((k : Int) + 1) = ((k + 1 : Nat) : Int) := (w64_id ⟨by omega, by omega⟩).trans (by omega)
    repeat' first | refine Need.mk (by omega) ?_ | refine Need.mk (by kernel_rfl) ?_ | refine EqW.tt (eq30 _ _ _ _ _ _ _ _ _ _) (by simp) ?_ | refine Split.f ?_
    exact Adj.back (x := k) (k + 1) hlt (by omega) .nil (.cons .same (.cons .same (.cons (SlotLe.int hw64) .nil)))
  · exact Fin.bool rfl

abbrev pickS (m : Nat) (I : Nat → Int) (T : Nat → Bool) : SV := .sl m 2 fun i j => match j with
  | 0 => i64 (I i)
  | _ => .v (.bool (T i))
def pickR (R : Nat → BP) (I : Nat → Int) (T : Nat → Bool) (i : Nat) : BP := bif T i then turnedP (R (I i).toNat) else R (I i).toNat
def offB (n : Nat) (I : Nat → Int) (i : Nat) : Bool := decide (I i < 0) || decide (I i ≥ n)
def rowE (n : Nat) (R : Nat → BP) (m : Nat) (I : Nat → Int) : Int := if badB R n = true then 1 else if anyB (offB n I) m = true then 2 else if m > 40 then 9 else 0
abbrev rowErr (m : Nat) (R : Nat → BP) (e : Int) : TV := .tup [.one (rowS (if e = 0 then m else 0) R), .one (i64 e)]
theorem rowErr_fail {m : Nat} {R : Nat → BP} {e : Int} (h : e ≠ 0) {e' : Int} (he : e' = e) : Fin (.tup [.one (.v (.slice none 0 0)), .one (i64 e')]) (rowErr m R e) := by
  subst he
  rw [rowErr, if_neg h]
  exact Fin.tup (.cons (DLe.one (SLe.nil _ _)) (.cons (DLe.refl _) .nil))

theorem picks_det (m : Nat) (I : Nat → Int) (T : Nat → Bool) (hm : m ≤ 1000) : Det Try.prog 37 [.one (pickS m I T)] (.d (.one (pickS m I T))) := by
  refine det_of_awp TTok mixed Try.func37 rfl rfl [] (Nat.le_of_ble_eq_true rfl) ?_
  refine Loop.by (α := Nat) (fun k => [(6, .d (.one (pickS m I T))), (7, tint m), (8, tint k), (3, .hdl 15 0)]) (fun k => [(15, .bld 0 k 2 80 fun i j => match j with | 0 => i64 (I i) | _ => .v (.bool (T i)))]) (fun k => k ≤ m) (fun k => m - k)
    (Adj.nil 3 15 2 80 (fun _ _ => .v Go.undef) rfl rfl (Adj.at 0 (Nat.zero_le _) (.cons (.bld (fun _ h => absurd h (Nat.not_lt_zero _))) .nil) (.cons .same (.cons .same (.cons .same (.cons (.hdl rfl rfl) .nil)))))) (fun k hk => ?_)
  refine Split.mk (fun h3 => ?_) (fun h3 => ?_)
  · have hlt : k < m := by have := of_decide_eq_true h3; omega
    have hw64 : IntKind.i64.wrap ((k : Int) + 1) = ((k + 1 : Nat) : Int) := (w64_id ⟨by omega, by omega⟩).trans (by omega)
    repeat' first | refine Need.mk (by omega) ?_ | refine Need.mk ⟨show (k + 1) * 16 ≤ 140737488355328 by omega, by simp only [maxLen]; omega⟩ ?_
    refine Adj.back (x := k) (k + 1) hlt (by omega) (.cons (.bld (fun i hi j hj => SLe.app hi (fun _ => SLe.refl _) (fun h => ?_))) .nil) (.cons .same (.cons .same (.cons (SlotLe.int hw64) (.cons (.hdl rfl rfl) .nil))))
    subst h
    rw [Nat.sub_self]
    rcases j with _ | _ | j <;> first | exact SLe.refl _ | omega
  · have e : k = m := by have := of_decide_eq_false h3; omega
    subst e
    exact Fin.rfl'
theorem rbad_det (p : BP) : Det Try.prog 62 [bpD p] (tbool (!validP p)) := by
  refine det_of_awp TTok mixed Try.func62 rfl rfl [] (Nat.le_of_ble_eq_true rfl) ?_
  refine CallW.mk' (validp_det p) ?_
  exact Fin.rfl'

theorem brow_det (n : Nat) (R : Nat → BP) (m : Nat) (I : Nat → Int) (T : Nat → Bool) (hn : n ≤ maxLen) (hm : m ≤ 1000) : Det Try.prog 36 [.one (rowS n R), .one (pickS m I T)] (rowErr m (pickR R I T) (rowE n R m I)) := by
  refine det_of_awp TTok mixed Try.func36 rfl rfl [] (Nat.le_of_ble_eq_true rfl) ?_
  refine CallW.bool (contains_det n R hn 62 0 _ (fun i => !validP (R i)) (fun i _ => rbad_det (R i))) (fun b hb => ?_)
  replace hb : b = badB R n := hb
  refine Split.mk (fun h => ?_) (fun h => ?_)
  · have e : rowE n R m I = 1 := by rw [rowE, if_pos (by rw [← hb, h])]
    exact rowErr_fail (by rw [e]; decide) e.symm
  have hbf : badB R n = false := by rw [← hb, h]
  refine Loop.by (α := Nat) (fun k => [(0, .d (.one (rowS n R))), (12, .d (.one (pickS m I T))), (13, tint m), (14, tint k), (6, .hdl 40 0)])
    (fun k => [(40, .bld 0 k 5 30 fun i j => match j with | 0 => .v (.string (pickR R I T i).nm) | 1 => .v (.string (pickR R I T i).gr) | 2 => i64 (pickR R I T i).len | 3 => i64 (pickR R I T i).left | _ => i64 (pickR R I T i).right)]) (fun k => k ≤ m ∧ ∀ i, i < k → offB n I i = false) (fun k => m - k)
    (Adj.nil 6 40 5 30 (fun _ _ => .v Go.undef) rfl rfl (Adj.at 0 ⟨Nat.zero_le _, fun _ h => absurd h (Nat.not_lt_zero _)⟩ (.cons (.bld (fun _ h => absurd h (Nat.not_lt_zero _))) .nil) (.cons .same (.cons .same (.cons .same (.cons .same (.cons (.hdl rfl rfl) .nil))))))) (fun k hi => ?_)
  obtain ⟨hk, hi⟩ := hi
  refine Split.mk (fun h3 => ?_) (fun h3 => ?_)
  · have hlt : k < m := by have := of_decide_eq_true h3; omega
    have hw64 : IntKind.i64.wrap ((k : Int) + 1) = ((k + 1 : Nat) : Int) := (w64_id ⟨by omega, by omega⟩).trans (by omega)
    have fail : offB n I k = true → rowE n R m I = 2 := fun ho => by rw [rowE, if_neg (by rw [hbf]; simp), if_pos (anyB_t hlt ho)]
    refine Need.mk (by omega) ?_
    refine Split.mk (fun h4 => ?_) (fun h4 => ?_)
    · repeat refine Split.t ?_
      have e := fail (by simp only [offB, show decide (I k < 0) = true from h4, Bool.true_or])
      exact rowErr_fail (by rw [e]; decide) e.symm
    repeat refine Split.f ?_
    refine Split.mk (fun h5 => ?_) (fun h5 => ?_)
    · have e := fail (by simp only [offB, show decide (I k ≥ (n : Int)) = true from h5, Bool.or_true])
      exact rowErr_fail (by rw [e]; decide) e.symm
    replace h4 : decide (I k < 0) = false := h4
    replace h5 : decide (I k ≥ (n : Int)) = false := h5
    have h4' := of_decide_eq_false h4
    have h5' := of_decide_eq_false h5
    have hok : ∀ i, i < k + 1 → offB n I i = false := fun i hik => by
      by_cases e : i = k
      · subst e; simp only [offB, h4, h5, Bool.or_false]
      · exact hi i (by omega)
    refine Need.mk (by rw [Int.toNat_natCast]; omega) ?_
    refine Split.mk (fun h6 => ?_) (fun h6 => ?_)
    · have hp : pickR R I T k = turnedP (R (I k).toNat) := by simp only [pickR, show T k = true from h6, cond_true]
      refine CallW.mk' (turned_det (R (I k).toNat)) ?_
      refine Need.mk ⟨show (k + 1) * 56 ≤ 140737488355328 by omega, by simp only [maxLen]; omega⟩ ?_
      refine Adj.back (x := k) (k + 1) ⟨hlt, hok⟩ (by omega) (.cons (.bld (fun i hi j hj => SLe.app hi (fun _ => SLe.refl _) (fun h => ?_))) .nil) (.cons .same (.cons .same (.cons .same (.cons (SlotLe.int hw64) (.cons (.hdl rfl rfl) .nil)))))
      subst h
      rw [Nat.sub_self, hp]
      rcases j with _ | _ | _ | _ | _ | j <;> first | exact SLe.refl _ | omega
    · have hp : pickR R I T k = R (I k).toNat := by simp only [pickR, show T k = false from h6, cond_false]
      refine Need.mk ⟨show (k + 1) * 56 ≤ 140737488355328 by omega, by simp only [maxLen]; omega⟩ ?_
      refine Adj.back (x := k) (k + 1) ⟨hlt, hok⟩ (by omega) (.cons (.bld (fun i hi j hj => SLe.app hi (fun _ => SLe.refl _) (fun h => ?_))) .nil) (.cons .same (.cons .same (.cons .same (.cons (SlotLe.int hw64) (.cons (.hdl rfl rfl) .nil)))))
      subst h
      rw [Nat.sub_self, hp]
      rcases j with _ | _ | _ | _ | _ | j <;> first | exact SLe.refl _ | omega
  · have e : k = m := by have := of_decide_eq_false h3; omega
    subst e
    have ho := anyB_f hi
    refine Split.mk (fun h4 => ?_) (fun h4 => ?_)
    · have h4' := of_decide_eq_true h4
      have e : rowE n R k I = 9 := by rw [rowE, if_neg (by rw [hbf]; simp), if_neg (by rw [ho]; simp), if_pos (by omega)]
      exact rowErr_fail (by rw [e]; decide) e.symm
    · have h4' := of_decide_eq_false h4
      have e : rowE n R k I = 0 := by rw [rowE, if_neg (by rw [hbf]; simp), if_neg (by rw [ho]; simp), if_neg (by omega)]
      rw [e]
      exact Fin.rfl'
theorem rrow_det (n : Nat) (R : Nat → BP) (m : Nat) (I : Nat → Int) (T : Nat → Bool) (hn : n ≤ maxLen) (hm : m ≤ 1000) : Det Try.prog 38 [.one (rowS n R), .one (pickS m I T)] (rowErr m (pickR R I T) (rowE n R m I)) := by
  have hmn : (n : Int) < 9223372036854775808 := by simp only [maxLen] at hn; omega
  refine det_of_awp TTok mixed Try.func38 rfl rfl [] (Nat.le_of_ble_eq_true rfl) ?_
  refine Loop.by (α := Nat) (fun k => [(0, .d (.one (rowS n R))), (1, .d (.one (pickS m I T))), (6, tint k)]) (fun _ => []) (fun k => k ≤ n ∧ ∀ i, i < k → validP (R i) = true) (fun k => n - k)
    (Adj.at 0 ⟨Nat.zero_le _, fun _ h => absurd h (Nat.not_lt_zero _)⟩ .nil (.cons .same (.cons .same (.cons .same .nil)))) (fun k hi => ?_)
  obtain ⟨hk, hi⟩ := hi
  refine Split.mk (fun h3 => ?_) (fun h3 => ?_)
  · have hlt : k < n := by have := of_decide_eq_true h3; omega
    have hw64 : IntKind.i64.wrap ((k : Int) + 1) = ((k + 1 : Nat) : Int) := (w64_id ⟨by omega, by omega⟩).trans (by omega)
    refine Need.mk (by omega) ?_
    refine CallW.bool (rvalidp_det (R k)) (fun c hc => ?_)
    refine Split.mk (fun h4 => ?_) (fun h4 => ?_)
    · have : validP (R k) = false := by rw [← hc]; simpa using h4
      have e : rowE n R m I = 1 := by rw [rowE, if_pos (badB_t hlt this)]
      exact rowErr_fail (by rw [e]; decide) e.symm
    · refine Adj.back (x := k) (k + 1) ⟨hlt, fun i hik => ?_⟩ (by omega) .nil (.cons .same (.cons .same (.cons (SlotLe.int hw64) .nil)))
      by_cases e : i = k
      · subst e; rw [← hc]; simpa using h4
      · exact hi i (by omega)
  have e : k = n := by have := of_decide_eq_false h3; omega
  subst e
  have hbf := badB_f hi
  refine Loop.by (α := Nat) (fun q => [(0, .d (.one (rowS k R))), (1, .d (.one (pickS m I T))), (8, tint q), (7, .hdl 62 0)])
    (fun q => [(62, .bld 0 q 5 30 fun i j => match j with | 0 => .v (.string (pickR R I T i).nm) | 1 => .v (.string (pickR R I T i).gr) | 2 => i64 (pickR R I T i).len | 3 => i64 (pickR R I T i).left | _ => i64 (pickR R I T i).right)]) (fun q => q ≤ m ∧ ∀ i, i < q → offB k I i = false) (fun q => m - q)
    (Adj.nil 7 62 5 30 (fun _ _ => .v Go.undef) rfl rfl (Adj.at 0 ⟨Nat.zero_le _, fun _ h => absurd h (Nat.not_lt_zero _)⟩ (.cons (.bld (fun _ h => absurd h (Nat.not_lt_zero _))) .nil) (.cons .same (.cons .same (.cons .same (.cons (.hdl rfl rfl) .nil)))))) (fun q hi2 => ?_)
  obtain ⟨hq, hi2⟩ := hi2
  refine Split.mk (fun h3 => ?_) (fun h3 => ?_)
  · have hlt : q < m := by have := of_decide_eq_true h3; omega
    have hw64 : IntKind.i64.wrap ((q : Int) + 1) = ((q + 1 : Nat) : Int) := (w64_id ⟨by omega, by omega⟩).trans (by omega)
    have fail : offB k I q = true → rowE k R m I = 2 := fun ho => by rw [rowE, if_neg (by rw [hbf]; simp), if_pos (anyB_t hlt ho)]
    refine Need.mk (by omega) ?_
    refine Split.mk (fun h4 => ?_) (fun h4 => ?_)
    · repeat refine Split.t ?_
      have e := fail (by simp only [offB, show decide (I q < 0) = true from h4, Bool.true_or])
      exact rowErr_fail (by rw [e]; decide) e.symm
    repeat' first | refine Split.f ?_ | refine Need.mk (by omega) ?_
    refine Split.mk (fun h5 => ?_) (fun h5 => ?_)
    · have e := fail (by simp only [offB, show decide (I q ≥ (k : Int)) = true from h5, Bool.or_true])
      exact rowErr_fail (by rw [e]; decide) e.symm
    replace h4 : decide (I q < 0) = false := h4
    replace h5 : decide (I q ≥ (k : Int)) = false := h5
    have h4' := of_decide_eq_false h4
    have h5' := of_decide_eq_false h5
    have hok : ∀ i, i < q + 1 → offB k I i = false := fun i hik => by
      by_cases e : i = q
      · subst e; simp only [offB, h4, h5, Bool.or_false]
      · exact hi2 i (by omega)
    repeat' refine Need.mk (by first | omega | (rw [Int.toNat_natCast]; omega)) ?_
    refine Split.mk (fun h6 => ?_) (fun h6 => ?_)
    · have hp : pickR R I T q = turnedP (R (I q).toNat) := by
        replace h6 : T q = true := h6
        simp only [pickR, h6, cond_true]
      refine CallW.mk' (rturned_det (R (I q).toNat)) ?_
      refine Need.mk ⟨show (q + 1) * 56 ≤ 140737488355328 by omega, by simp only [maxLen]; omega⟩ ?_
      refine Adj.back (x := q) (q + 1) ⟨hlt, hok⟩ (by omega) (.cons (.bld (fun i hi j hj => SLe.app hi (fun _ => SLe.refl _) (fun h => ?_))) .nil) (.cons .same (.cons .same (.cons (SlotLe.int hw64) (.cons (.hdl rfl rfl) .nil))))
      subst h
      rw [Nat.sub_self, hp]
      rcases j with _ | _ | _ | _ | _ | j <;> first | exact SLe.refl _ | omega
    · have hp : pickR R I T q = R (I q).toNat := by
        replace h6 : T q = false := h6
        simp only [pickR, h6, cond_false]
      refine Need.mk ⟨show (q + 1) * 56 ≤ 140737488355328 by omega, by simp only [maxLen]; omega⟩ ?_
      refine Adj.back (x := q) (q + 1) ⟨hlt, hok⟩ (by omega) (.cons (.bld (fun i hi j hj => SLe.app hi (fun _ => SLe.refl _) (fun h => ?_))) .nil) (.cons .same (.cons .same (.cons (SlotLe.int hw64) (.cons (.hdl rfl rfl) .nil))))
      subst h
      rw [Nat.sub_self, hp]
      rcases j with _ | _ | _ | _ | _ | j <;> first | exact SLe.refl _ | omega
  · have e : q = m := by have := of_decide_eq_false h3; omega
    subst e
    have ho := anyB_f hi2
    refine Split.mk (fun h4 => ?_) (fun h4 => ?_)
    · have h4' := of_decide_eq_true h4
      have e : rowE k R q I = 9 := by rw [rowE, if_neg (by rw [hbf]; simp), if_neg (by rw [ho]; simp), if_pos (by omega)]
      exact rowErr_fail (by rw [e]; decide) e.symm
    · have h4' := of_decide_eq_false h4
      have e : rowE k R q I = 0 := by rw [rowE, if_neg (by rw [hbf]; simp), if_neg (by rw [ho]; simp), if_neg (by omega)]
      rw [e]
      exact Fin.rfl'

theorem lrow_det (n : Nat) (R : Nat → BP) (kerf : Int) (m : Nat) (I : Nat → Int) (T : Nat → Bool) (hn : n ≤ maxLen) (hmm : m ≤ maxLen) : Det Try.prog 8 [.one (rowS n R), .one (i64 kerf), .one (pickS m I T)] (tbool true) := by
  refine det_of_awp TTok mixed Try.func8 rfl rfl [] (Nat.le_of_ble_eq_true rfl) ?_
  refine CallW.mk' awake_det ?_
  repeat refine Split.f ?_
  refine Split.mk (fun h1 => ?_) (fun h1 => ?_)
  · repeat' first | refine Split.t ?_ | refine CallW.mk' awake_det ?_ | refine Fin.bool ?_
    rfl
  repeat refine Split.f ?_
  refine Split.mk (fun h2 => ?_) (fun h2 => ?_)
  · repeat' first | refine CallW.mk' awake_det ?_ | refine Fin.bool ?_
    rfl
  have h2' : m ≤ 50 := by have := of_decide_eq_false h2; omega
  refine CallW.mk' (places2_det n R kerf hn) ?_
  refine CallW.mk' (rplaces_det n R kerf hn) ?_
  refine CallW.tup2 (length_det n R kerf hn) (fun a1 a2 ha1 ha2 => ?_)
  refine CallW.tup2 (rlength_det n R kerf hn) (fun b1 b2 hb1 hb2 => ?_)
  obtain rfl : a1 = b1 := ha1.trans hb1.symm
  obtain rfl : a2 = b2 := ha2.trans hb2.symm
  refine CallW.tup2 (cuts_det n R hn) (fun c1 c2 hc1 hc2 => ?_)
  refine CallW.tup2 (rcuts_det n R hn) (fun d1 d2 hd1 hd2 => ?_)
  obtain rfl : c1 = d1 := hc1.trans hd1.symm
  obtain rfl : c2 = d2 := hc2.trans hd2.symm
  refine CallW.tup2 (scrap_det n R kerf hn) (fun s1 s2 hs1 hs2 => ?_)
  refine CallW.tup2 (rscrap_det n R kerf hn) (fun t1 t2 ht1 ht2 => ?_)
  obtain rfl : s1 = t1 := hs1.trans ht1.symm
  obtain rfl : s2 = t2 := hs2.trans ht2.symm
  refine CallW.mk' (picks_det m I T (Nat.le_trans h2' (by decide))) ?_
  refine CallW.mk' (brow_det n R m I T hn (Nat.le_trans h2' (by decide))) ?_
  refine CallW.mk' (rrow_det n R m I T hn (Nat.le_trans h2' (by decide))) ?_
  have l1 : (if errI n R kerf = 0 then n else 0) ≤ maxLen := by split <;> omega
  have l2 : (if rowE n R m I = 0 then m else 0) ≤ maxLen := by split <;> omega
  repeat' first | refine CallW.mk' (sameints_det _ (placeI R kerf) l1) ?_ | refine CallW.mk' (samerow_det _ (pickR R I T) l2) ?_ | refine Split.t ?_ | refine Split.isT (beq_self_eq_true _) ?_ | refine Fin.bool ?_
  exact beq_self_eq_true _
theorem picks_of {v : DV} (h : TypD Try.prog 47 v) : ∃ m I T, m ≤ maxLen ∧ DLe v (.one (pickS m I T)) := by
  obtain ⟨c, rfl, h1⟩ := TypD.one (by kernel_rfl) h
  obtain ⟨n, get, e, hn, hr⟩ := Typ.inv_slc (P := Try.prog) (e := 66) rfl h1
  cases e
  have hp : ∀ i, ∃ p : Int × Bool, i < n → cells 2 (get i) = [i64 p.1, .v (.bool p.2)] := fun i => by
    by_cases hi : i < n
    · obtain ⟨a0, a1, e, _⟩ := typ66 (hr i hi)
      exact ⟨(a0, a1), fun _ => e⟩
    · exact ⟨(0, false), fun h => absurd h hi⟩
  obtain ⟨R, hR⟩ := Classical.axiomOfChoice hp
  refine ⟨n, fun i => (R i).1, fun i => (R i).2, hn, DLe.one (SLe.sl (fun i hi j hj => ?_))⟩
  replace hj : j < 2 := hj
  have e := hR i hi
  have e : [get i 0, get i 1] = [i64 (R i).1, .v (.bool (R i).2)] := e
  simp only [List.cons.injEq] at e
  obtain ⟨e0, e1, _⟩ := e
  rcases j with _ | _ | j
  · exact SLe.of_eq e0
  · exact SLe.of_eq e1
  · omega
theorem lrow_all : ∀ dvs, TypL Try.prog Try.f8.params.toList dvs → Det Try.prog 8 dvs (tbool true) := by
  intro dvs h
  obtain ⟨v0, r0, rfl, h0, q0⟩ := TypL.inv_cons (t := 22) (ts := [3, 47]) h
  obtain ⟨v1, r1, rfl, h1, q1⟩ := TypL.inv_cons q0
  obtain ⟨v2, r2, rfl, h2, q2⟩ := TypL.inv_cons q1
  obtain rfl := TypL.inv_nil q2
  obtain ⟨n, R, hn, hl⟩ := row_of h0
  obtain ⟨kerf, rfl, _⟩ := TypD.i64 (by kernel_rfl) rfl h1
  obtain ⟨m, I, T, hm, hl2⟩ := picks_of h2
  exact Det.le (.cons hl (.cons (DLe.refl _) (.cons hl2 .nil))) (lrow_det n R kerf m I T hn hm)
end Go.Vm
