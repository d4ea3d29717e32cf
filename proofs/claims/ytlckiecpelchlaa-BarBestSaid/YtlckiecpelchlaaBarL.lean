/-
  Layer 26: contracts of picked rows, and the law BarRow.
-/
import Derived.Test.YtlckiecpelchlaaBarK
namespace Go.Vm
set_option maxRecDepth 20000
set_option linter.unusedVariables false
set_option linter.unusedSimpArgs false
open Go Go.RowKit Go.Proofs

abbrev pickS (m : Nat) (I : Nat → Int) (T : Nat → Bool) : SV := .sl m 2 fun i j => match j with
  | 0 => i64 (I i)
  | _ => .v (.bool (T i))
def pickR (R : Nat → BP) (I : Nat → Int) (T : Nat → Bool) (i : Nat) : BP := bif T i then turnedP (R (I i).toNat) else R (I i).toNat
def offB (n : Nat) (I : Nat → Int) (i : Nat) : Bool := decide (I i < 0) || decide (I i ≥ n)
def rowE (n : Nat) (R : Nat → BP) (m : Nat) (I : Nat → Int) : Int := if badB R n = true then 1 else if anyB (offB n I) m = true then 2 else if m > 40 then 9 else 0
abbrev rowErr (m : Nat) (R : Nat → BP) (e : Int) : TV := .tup [.one (rowS (if e = 0 then m else 0) R), .one (i64 e)]
theorem rowErr_fail {m : Nat} {R : Nat → BP} {e : Int} (h : e ≠ 0) {e' : Int} (he : e' = e) : Fin (.tup [.one (.v (.slice none 0 0)), .one (i64 e')]) (rowErr m R e) := by
  subst he
  rw [rowErr, if_neg h]
  exact Fin.tup (.cons (DLe.one (SLe.nil _ _)) (.cons (DLe.refl _) .nil))

theorem picks_det (m : Nat) (I : Nat → Int) (T : Nat → Bool) (hm : m ≤ 1000) : Det Try.prog 18 [.one (pickS m I T)] (.d (.one (pickS m I T))) := by
  refine det_of_awp TTok mixed Try.func18 rfl rfl [] (Nat.le_of_ble_eq_true rfl) ?_
  refine Loop.by (α := Nat) (fun k => [(6, .d (.one (pickS m I T))), (7, tint m), (8, tint k), (3, .hdl 15 0)]) (fun k => [(15, .bld 0 k 2 72 fun i j => match j with | 0 => i64 (I i) | _ => .v (.bool (T i)))]) (fun k => k ≤ m) (fun k => m - k)
    (Adj.nil 3 15 2 72 (fun _ _ => .v Go.undef) rfl rfl (Adj.at 0 (Nat.zero_le _) (.cons (.bld (fun _ h => absurd h (Nat.not_lt_zero _))) .nil) (.cons .same (.cons .same (.cons .same (.cons (.hdl rfl rfl) .nil)))))) (fun k hk => ?_)
  refine Split.mk (fun h3 => ?_) (fun h3 => ?_)
  · have hlt : k < m := by have := of_decide_eq_true h3; omega
    have hw64 : IntKind.i64.wrap ((k : Int) + 1) = ((k + 1 : Nat) : Int) := (w64_id ⟨by omega, by omega⟩).trans (by omega)
    repeat' first | refine Need.mk (by omega) ?_ | refine Need.mk ⟨show (k + 1) * 16 ≤ 140737488355328 by omega, by simp only [maxLen]; omega⟩ ?_
    refine Adj.back (x := k) (k + 1) hlt (by omega) (.cons (.bld (fun i hi j hj => SLe.app hi (fun _ => SLe.refl _) (fun h => ?_))) .nil) (.cons .same (.cons .same (.cons (SlotLe.int hw64) (.cons (.hdl rfl rfl) .nil))))
    subst h
    rw [Nat.sub_self]
    rcases j with _ | _ | j <;> first | exact SLe.refl _ | omega
  · have e : k = m := by have := of_decide_eq_false h3; omega
    subst e
    exact Fin.rfl'
theorem rbad_det (p : BP) : Det Try.prog 49 [bpD p] (tbool (!validP p)) := by
  refine det_of_awp TTok mixed Try.func49 rfl rfl [] (Nat.le_of_ble_eq_true rfl) ?_
  refine CallW.mk' (validp_det p) ?_
  exact Fin.rfl'

theorem brow_det (n : Nat) (R : Nat → BP) (m : Nat) (I : Nat → Int) (T : Nat → Bool) (hn : n ≤ maxLen) (hm : m ≤ 1000) : Det Try.prog 17 [.one (rowS n R), .one (pickS m I T)] (rowErr m (pickR R I T) (rowE n R m I)) := by
  refine det_of_awp TTok mixed Try.func17 rfl rfl [] (Nat.le_of_ble_eq_true rfl) ?_
  refine CallW.bool (contains_det n R hn 49 0 _ (fun i => !validP (R i)) (fun i _ => rbad_det (R i))) (fun b hb => ?_)
  replace hb : b = badB R n := hb
  refine Split.mk (fun h => ?_) (fun h => ?_)
  · have e : rowE n R m I = 1 := by rw [rowE, if_pos (by rw [← hb, h])]
    exact rowErr_fail (by rw [e]; decide) e.symm
  have hbf : badB R n = false := by rw [← hb, h]
  refine Loop.by (α := Nat) (fun k => [(0, .d (.one (rowS n R))), (12, .d (.one (pickS m I T))), (13, tint m), (14, tint k), (6, .hdl 40 0)])
    (fun k => [(40, .bld 0 k 5 65 fun i j => match j with | 0 => .v (.string (pickR R I T i).nm) | 1 => .v (.string (pickR R I T i).gr) | 2 => i64 (pickR R I T i).len | 3 => i64 (pickR R I T i).left | _ => i64 (pickR R I T i).right)]) (fun k => k ≤ m ∧ ∀ i, i < k → offB n I i = false) (fun k => m - k)
    (Adj.nil 6 40 5 65 (fun _ _ => .v Go.undef) rfl rfl (Adj.at 0 ⟨Nat.zero_le _, fun _ h => absurd h (Nat.not_lt_zero _)⟩ (.cons (.bld (fun _ h => absurd h (Nat.not_lt_zero _))) .nil) (.cons .same (.cons .same (.cons .same (.cons .same (.cons (.hdl rfl rfl) .nil))))))) (fun k hi => ?_)
  obtain ⟨hk, hi⟩ := hi
  refine Split.mk (fun h3 => ?_) (fun h3 => ?_)
  · have hlt : k < m := by have := of_decide_eq_true h3; omega
    have hw64 : IntKind.i64.wrap ((k : Int) + 1) = ((k + 1 : Nat) : Int) := (w64_id ⟨by omega, by omega⟩).trans (by omega)
    have fail : offB n I k = true → rowE n R m I = 2 := fun ho => by rw [rowE, if_neg (by rw [hbf]; simp), if_pos (anyB_t hlt ho)]
    refine Need.mk (by omega) ?_
    refine Split.mk (fun h4 => ?_) (fun h4 => ?_)
    · repeat refine Split.t ?_
      have e := fail (by simp only [offB, show decide (I k < 0) = true from h4, Bool.true_or])
      exact rowErr_fail (by rw [e]; decide) e.symm
    repeat refine Split.f ?_
    refine Split.mk (fun h5 => ?_) (fun h5 => ?_)
    · have e := fail (by simp only [offB, show decide (I k ≥ (n : Int)) = true from h5, Bool.or_true])
      exact rowErr_fail (by rw [e]; decide) e.symm
    replace h4 : decide (I k < 0) = false := h4
    replace h5 : decide (I k ≥ (n : Int)) = false := h5
    have h4' := of_decide_eq_false h4
    have h5' := of_decide_eq_false h5
    have hok : ∀ i, i < k + 1 → offB n I i = false := fun i hik => by
      by_cases e : i = k
      · subst e; simp only [offB, h4, h5, Bool.or_false]
      · exact hi i (by omega)
    refine Need.mk (by rw [Int.toNat_natCast]; omega) ?_
    refine Split.mk (fun h6 => ?_) (fun h6 => ?_)
    · have hp : pickR R I T k = turnedP (R (I k).toNat) := by simp only [pickR, show T k = true from h6, cond_true]
      refine CallW.mk' (turned_det (R (I k).toNat)) ?_
      refine Need.mk ⟨show (k + 1) * 56 ≤ 140737488355328 by omega, by simp only [maxLen]; omega⟩ ?_
      refine Adj.back (x := k) (k + 1) ⟨hlt, hok⟩ (by omega) (.cons (.bld (fun i hi j hj => SLe.app hi (fun _ => SLe.refl _) (fun h => ?_))) .nil) (.cons .same (.cons .same (.cons .same (.cons (SlotLe.int hw64) (.cons (.hdl rfl rfl) .nil)))))
      subst h
      rw [Nat.sub_self, hp]
      rcases j with _ | _ | _ | _ | _ | j <;> first | exact SLe.refl _ | omega
    · have hp : pickR R I T k = R (I k).toNat := by simp only [pickR, show T k = false from h6, cond_false]
      refine Need.mk ⟨show (k + 1) * 56 ≤ 140737488355328 by omega, by simp only [maxLen]; omega⟩ ?_
      refine Adj.back (x := k) (k + 1) ⟨hlt, hok⟩ (by omega) (.cons (.bld (fun i hi j hj => SLe.app hi (fun _ => SLe.refl _) (fun h => ?_))) .nil) (.cons .same (.cons .same (.cons .same (.cons (SlotLe.int hw64) (.cons (.hdl rfl rfl) .nil)))))
      subst h
      rw [Nat.sub_self, hp]
      rcases j with _ | _ | _ | _ | _ | j <;> first | exact SLe.refl _ | omega
  · have e : k = m := by have := of_decide_eq_false h3; omega
    subst e
    have ho := anyB_f hi
    refine Split.mk (fun h4 => ?_) (fun h4 => ?_)
    · have h4' := of_decide_eq_true h4
      have e : rowE n R k I = 9 := by rw [rowE, if_neg (by rw [hbf]; simp), if_neg (by rw [ho]; simp), if_pos (by omega)]
      exact rowErr_fail (by rw [e]; decide) e.symm
    · have h4' := of_decide_eq_false h4
      have e : rowE n R k I = 0 := by rw [rowE, if_neg (by rw [hbf]; simp), if_neg (by rw [ho]; simp), if_neg (by omega)]
      rw [e]
      exact Fin.rfl'
theorem rrow_det (n : Nat) (R : Nat → BP) (m : Nat) (I : Nat → Int) (T : Nat → Bool) (hn : n ≤ maxLen) (hm : m ≤ 1000) : Det Try.prog 46 [.one (rowS n R), .one (pickS m I T)] (rowErr m (pickR R I T) (rowE n R m I)) := by
  have hmn : (n : Int) < 9223372036854775808 := by simp only [maxLen] at hn; omega
  refine det_of_awp TTok mixed Try.func46 rfl rfl [] (Nat.le_of_ble_eq_true rfl) ?_
  refine Loop.by (α := Nat) (fun k => [(0, .d (.one (rowS n R))), (1, .d (.one (pickS m I T))), (6, tint k)]) (fun _ => []) (fun k => k ≤ n ∧ ∀ i, i < k → validP (R i) = true) (fun k => n - k)
    (Adj.at 0 ⟨Nat.zero_le _, fun _ h => absurd h (Nat.not_lt_zero _)⟩ .nil (.cons .same (.cons .same (.cons .same .nil)))) (fun k hi => ?_)
  obtain ⟨hk, hi⟩ := hi
  refine Split.mk (fun h3 => ?_) (fun h3 => ?_)
  · have hlt : k < n := by have := of_decide_eq_true h3; omega
    have hw64 : IntKind.i64.wrap ((k : Int) + 1) = ((k + 1 : Nat) : Int) := (w64_id ⟨by omega, by omega⟩).trans (by omega)
    refine Need.mk (by omega) ?_
    refine CallW.bool (rvalidp_det (R k)) (fun c hc => ?_)
    refine Split.mk (fun h4 => ?_) (fun h4 => ?_)
    · have : validP (R k) = false := by rw [← hc]; simpa using h4
      have e : rowE n R m I = 1 := by rw [rowE, if_pos (badB_t hlt this)]
      exact rowErr_fail (by rw [e]; decide) e.symm
    · refine Adj.back (x := k) (k + 1) ⟨hlt, fun i hik => ?_⟩ (by omega) .nil (.cons .same (.cons .same (.cons (SlotLe.int hw64) .nil)))
      by_cases e : i = k
      · subst e; rw [← hc]; simpa using h4
      · exact hi i (by omega)
  have e : k = n := by have := of_decide_eq_false h3; omega
  subst e
  have hbf := badB_f hi
  refine Loop.by (α := Nat) (fun q => [(0, .d (.one (rowS k R))), (1, .d (.one (pickS m I T))), (8, tint q), (7, .hdl 62 0)])
    (fun q => [(62, .bld 0 q 5 65 fun i j => match j with | 0 => .v (.string (pickR R I T i).nm) | 1 => .v (.string (pickR R I T i).gr) | 2 => i64 (pickR R I T i).len | 3 => i64 (pickR R I T i).left | _ => i64 (pickR R I T i).right)]) (fun q => q ≤ m ∧ ∀ i, i < q → offB k I i = false) (fun q => m - q)
    (Adj.nil 7 62 5 65 (fun _ _ => .v Go.undef) rfl rfl (Adj.at 0 ⟨Nat.zero_le _, fun _ h => absurd h (Nat.not_lt_zero _)⟩ (.cons (.bld (fun _ h => absurd h (Nat.not_lt_zero _))) .nil) (.cons .same (.cons .same (.cons .same (.cons (.hdl rfl rfl) .nil)))))) (fun q hi2 => ?_)
  obtain ⟨hq, hi2⟩ := hi2
  refine Split.mk (fun h3 => ?_) (fun h3 => ?_)
  · have hlt : q < m := by have := of_decide_eq_true h3; omega
    have hw64 : IntKind.i64.wrap ((q : Int) + 1) = ((q + 1 : Nat) : Int) := (w64_id ⟨by omega, by omega⟩).trans (by omega)
    have fail : offB k I q = true → rowE k R m I = 2 := fun ho => by rw [rowE, if_neg (by rw [hbf]; simp), if_pos (anyB_t hlt ho)]
    refine Need.mk (by omega) ?_
    refine Split.mk (fun h4 => ?_) (fun h4 => ?_)
    · repeat refine Split.t ?_
      have e := fail (by simp only [offB, show decide (I q < 0) = true from h4, Bool.true_or])
      exact rowErr_fail (by rw [e]; decide) e.symm
    repeat' first | refine Split.f ?_ | refine Need.mk (by omega) ?_
    refine Split.mk (fun h5 => ?_) (fun h5 => ?_)
    · have e := fail (by simp only [offB, show decide (I q ≥ (k : Int)) = true from h5, Bool.or_true])
      exact rowErr_fail (by rw [e]; decide) e.symm
    replace h4 : decide (I q < 0) = false := h4
    replace h5 : decide (I q ≥ (k : Int)) = false := h5
    have h4' := of_decide_eq_false h4
    have h5' := of_decide_eq_false h5
    have hok : ∀ i, i < q + 1 → offB k I i = false := fun i hik => by
      by_cases e : i = q
      · subst e; simp only [offB, h4, h5, Bool.or_false]
      · exact hi2 i (by omega)
    repeat' refine Need.mk (by first | omega | (rw [Int.toNat_natCast]; omega)) ?_
    refine Split.mk (fun h6 => ?_) (fun h6 => ?_)
    · have hp : pickR R I T q = turnedP (R (I q).toNat) := by
        replace h6 : T q = true := h6
        simp only [pickR, h6, cond_true]
      refine CallW.mk' (rturned_det (R (I q).toNat)) ?_
      refine Need.mk ⟨show (q + 1) * 56 ≤ 140737488355328 by omega, by simp only [maxLen]; omega⟩ ?_
      refine Adj.back (x := q) (q + 1) ⟨hlt, hok⟩ (by omega) (.cons (.bld (fun i hi j hj => SLe.app hi (fun _ => SLe.refl _) (fun h => ?_))) .nil) (.cons .same (.cons .same (.cons (SlotLe.int hw64) (.cons (.hdl rfl rfl) .nil))))
      subst h
      rw [Nat.sub_self, hp]
      rcases j with _ | _ | _ | _ | _ | j <;> first | exact SLe.refl _ | omega
    · have hp : pickR R I T q = R (I q).toNat := by
        replace h6 : T q = false := h6
        simp only [pickR, h6, cond_false]
      refine Need.mk ⟨show (q + 1) * 56 ≤ 140737488355328 by omega, by simp only [maxLen]; omega⟩ ?_
      refine Adj.back (x := q) (q + 1) ⟨hlt, hok⟩ (by omega) (.cons (.bld (fun i hi j hj => SLe.app hi (fun _ => SLe.refl _) (fun h => ?_))) .nil) (.cons .same (.cons .same (.cons (SlotLe.int hw64) (.cons (.hdl rfl rfl) .nil))))
      subst h
      rw [Nat.sub_self, hp]
      rcases j with _ | _ | _ | _ | _ | j <;> first | exact SLe.refl _ | omega
  · have e : q = m := by have := of_decide_eq_false h3; omega
    subst e
    have ho := anyB_f hi2
    refine Split.mk (fun h4 => ?_) (fun h4 => ?_)
    · have h4' := of_decide_eq_true h4
      have e : rowE k R q I = 9 := by rw [rowE, if_neg (by rw [hbf]; simp), if_neg (by rw [ho]; simp), if_pos (by omega)]
      exact rowErr_fail (by rw [e]; decide) e.symm
    · have h4' := of_decide_eq_false h4
      have e : rowE k R q I = 0 := by rw [rowE, if_neg (by rw [hbf]; simp), if_neg (by rw [ho]; simp), if_neg (by omega)]
      rw [e]
      exact Fin.rfl'

theorem picks_of {v : DV} (h : TypD Try.prog 23 v) : ∃ m I T, m ≤ maxLen ∧ DLe v (.one (pickS m I T)) := by
  obtain ⟨c, rfl, h1⟩ := TypD.one (by kernel_rfl) h
  obtain ⟨n, get, e, hn, hr⟩ := Typ.inv_slc (P := Try.prog) (e := 38) rfl h1
  cases e
  have hp : ∀ i, ∃ p : Int × Bool, i < n → cells 2 (get i) = [i64 p.1, .v (.bool p.2)] := fun i => by
    by_cases hi : i < n
    · obtain ⟨a0, a1, e, _⟩ := typ38 (hr i hi)
      exact ⟨(a0, a1), fun _ => e⟩
    · exact ⟨(0, false), fun h => absurd h hi⟩
  obtain ⟨R, hR⟩ := Classical.axiomOfChoice hp
  refine ⟨n, fun i => (R i).1, fun i => (R i).2, hn, DLe.one (SLe.sl (fun i hi j hj => ?_))⟩
  replace hj : j < 2 := hj
  have e := hR i hi
  have e : [get i 0, get i 1] = [i64 (R i).1, .v (.bool (R i).2)] := e
  simp only [List.cons.injEq] at e
  obtain ⟨e0, e1, _⟩ := e
  rcases j with _ | _ | j
  · exact SLe.of_eq e0
  · exact SLe.of_eq e1
  · omega
end Go.Vm
