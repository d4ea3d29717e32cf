/-
  Layer 37: the law Places.
-/
import Derived.Test.YtlpkgpldamhhbaaStpP
namespace Go.Vm
set_option maxRecDepth 20000
set_option linter.unusedVariables false
set_option linter.unusedSimpArgs false
open Go Go.RowKit Go.Proofs
namespace St

abbrev ntL (l : List Nd) : List SV := [ndS l]
abbrev ntS (l : List (List Nd)) : SV := .sl l.length 1 (lG ntL [] l)
theorem PlOk.nil {ks : List Knd} {w h kerf : Int} : PlOk ks w h kerf [] := ⟨fun _ h => absurd h (Nat.not_lt_zero _), fun _ h => absurd h (Nat.not_lt_zero _), fun _ _ h => absurd h (Nat.not_lt_zero _)⟩
theorem bestR_len {ks : List Knd} {w h kerf : Int} : (bestR ks w h kerf).2.1.length ≤ 20000000 := by
  unfold bestR
  split
  · exact Nat.zero_le _
  · rename_i hp
    split
    · exact Nat.zero_le _
    · exact bestT_len (prob_iff.1 (by simpa using hp))
theorem lplaces_det (z : Pz) (t : List Nd) (hl : z.ks.length ≤ maxLen) : Det Try.prog 5 [.agg (pzL z), .one (ndS t)] (tbool true) := by
  refine det_of_awp TTok mixed Try.func5 rfl rfl [] (Nat.le_of_ble_eq_true rfl) ?_
  refine CallW.mk' awake37_det ?_
  refine Split.f ?_
  refine CallW.bool (small_det z) (fun b1 hb1' => ?_)
  refine Split.mk (fun c1 => ?_) (fun c1 => ?_)
  · repeat' first | refine Split.isT c1 ?_ | refine Split.t ?_ | refine Split.f ?_ | fail
    exact Fin.rfl'
  have hsm := small_iff.1 (by rw [← hb1']; simpa using c1 : smallB z = true)
  repeat' first | refine Split.isF c1 ?_ | refine Split.t ?_ | refine Split.f ?_ | fail
  refine Split.mk (fun c2 => ?_) (fun c2 => ?_)
  · repeat' first | refine Split.isF c1 ?_ | refine Split.isT c2 ?_ | refine Split.t ?_ | refine Split.f ?_ | fail
    exact Fin.rfl'
  have htl : t.length ≤ 300 := by have := of_decide_eq_false c2; omega
  repeat' first | refine Split.isF c1 ?_ | refine Split.isF c2 ?_ | refine Split.t ?_ | refine Split.f ?_ | fail
  refine CallW.bool (rproblem_det z.ks z.w z.h z.kerf (by omega)) (fun b2 hb2 => ?_)
  repeat' first | refine Split.isF c1 ?_ | refine Split.isF c2 ?_ | refine Split.t ?_ | refine Split.f ?_ | fail
  refine Split.mk (fun c3 => ?_) (fun c3 => ?_)
  · exact Fin.rfl'
  have p : Pb z.ks z.w z.h z.kerf := prob_iff.1 (by rw [← hb2]; simpa using c3)
  have w0 := p.w0; have w1 := p.w1; have h0 := p.h0; have h1 := p.h1; have kf0 := p.k0; have kf1 := p.k1
  refine CallW.kds (kinds_det z.ks (by omega)) ?_
  refine CallW.best (best_det z.ks z.w z.h z.kerf hl) (fun v hv => ?_)
  have hBl : v.2.1.length ≤ 20000000 := by rw [hv]; exact bestR_len
  clear hv
  refine CallW.nds (own_det t (by omega)) ?_
  obtain ⟨v1, B, v3⟩ := v
  replace hBl : B.length ≤ 20000000 := hBl
  refine Loop.by (α := Nat) (fun k => [(2, .ptr 2 0), (5, .d (.one (kS z.ks))), (59, .d (.one (ntS [t, B]))), (60, tint 2), (61, tint k)]) (fun _ => [(2, .box (pzL z))]) (fun k => k ≤ 2) (fun k => 2 - k)
    (Adj.at 0 (Nat.zero_le _) (.cons (.box (LLe.of_eq rfl)) .nil) (.cons (.box rfl rfl) (.cons .same (.cons (.data (DLe.one (SLe.slN rfl (fun i hi j hj => ?_)))) (.cons .same (.cons .same .nil)))))) (fun k hk => ?_)
  · match i, hi, j, hj with
    | 0, _, 0, _ => exact SLe.refl _
    | 1, _, 0, _ => exact SLe.refl _
  refine Split.mk (fun hc => ?_) (fun hc => ?_)
  rotate_left
  · exact Fin.rfl'
  have hlt : k < 2 := by have := of_decide_eq_true hc; omega
  refine Need.mk (by show 0 ≤ (k : Int) ∧ (k : Int) < (2 : Int); omega) ?_
  have hTl : ([t, B].getD k []).length ≤ 100000000 := by
    match k, hlt with
    | 0, _ => show t.length ≤ _; omega
    | 1, _ => show B.length ≤ _; omega
  refine CallW.pls (places_det ([t, B].getD k []) z.ks z.w z.h z.kerf hTl hl) (fun x hx => ?_)
  have hxl : x.1.length ≤ 100000000 := by
    rw [hx]
    unfold placesR
    split
    · exact Nat.le_trans (plT_len _ _ _) hTl
    · exact Nat.zero_le _
  have hok : PlOk z.ks z.w z.h z.kerf x.1 := by
    rw [hx]
    unfold placesR
    split
    · rename_i hv
      exact places_ok hv
    · exact PlOk.nil
  clear hx hTl
  obtain ⟨l, e⟩ := x
  replace hxl : l.length ≤ 100000000 := hxl
  replace hok : PlOk z.ks z.w z.h z.kerf l := hok
  show Split (e != 0) _
  refine Split.mk (fun c4 => ?_) (fun c4 => ?_)
  · exact Adj.back (x := k) (k + 1) (by omega) (by omega) (.cons (.box (LLe.of_eq rfl)) .nil) (.cons (.box rfl rfl) (.cons .same (.cons .same (.cons .same (.cons (SlotLe.int (hS k (by omega))) .nil)))))
  refine Loop.by (α := Nat) (fun i => [(2, .ptr 2 0), (5, .d (.one (kS z.ks))), (59, .d (.one (ntS [t, B]))), (60, tint 2), (61, tint k), (11, .d (.one (plS l))), (79, .d (.one (plS l))), (80, tint l.length), (81, tint i)]) (fun _ => [(2, .box (pzL z))]) (fun i => i ≤ l.length) (fun i => l.length - i)
    (Adj.at 0 (Nat.zero_le _) (.cons (.box (LLe.of_eq rfl)) .nil) (.cons (.box rfl rfl) (.cons .same (.cons .same (.cons .same (.cons .same (.cons .same (.cons .same (.cons .same (.cons .same .nil)))))))))) (fun i hi => ?_)
  refine Split.mk (fun hc => ?_) (fun hc => ?_)
  rotate_left
  · exact Adj.back (x := k) (k + 1) (by omega) (by omega) (.cons (.box (LLe.of_eq rfl)) .nil) (.cons (.box rfl rfl) (.cons .same (.cons .same (.cons .same (.cons (SlotLe.int (hS k (by omega))) .nil)))))
  have hil : i < l.length := by have := of_decide_eq_true hc; omega
  obtain ⟨q1, q2⟩ := hok.k i hil
  obtain ⟨r1, r2, r3, r4⟩ := hok.at' i hil
  have ko := p.ok _ (kget_mem (l := z.ks) (i := (plget l i).k.toNat) (by omega))
  have g1 := ko.w0; have g2 := ko.w1; have g3 := ko.h0; have g4 := ko.h1
  have hlen := p.len
  refine Need.mk (by omega) ?_
  have f1 : decide ((plget l i).k < 0) = false := decide_eq_false (by omega)
  refine Split.isF f1 ?_
  repeat' first | refine Split.isF f1 ?_ | refine Split.t ?_ | refine Split.f ?_ | fail
  have f2 : decide ((plget l i).k ≥ (z.ks.length : Int)) = false := decide_eq_false (by omega)
  refine Split.isF f2 ?_
  refine Need.mk (⟨q1, q2⟩ : 0 ≤ (plget l i).k ∧ (plget l i).k < (z.ks.length : Int)) ?_
  have f3 : decide ((plget l i).x < 0) = false := decide_eq_false (by omega)
  refine Split.isF f3 ?_
  repeat' first | refine Split.isF f3 ?_ | refine Split.t ?_ | refine Split.f ?_ | fail
  have f4 : decide ((plget l i).y < 0) = false := decide_eq_false (by omega)
  repeat' first | refine Split.isF f3 ?_ | refine Split.isF f4 ?_ | refine Split.t ?_ | refine Split.f ?_ | fail
  have f5 : decide (IntKind.i64.wrap ((plget l i).x + (kget z.ks (plget l i).k.toNat).w) > z.w) = false := decide_eq_false (by rw [hw _ (by omega) (by omega)]; omega)
  repeat' first | refine Split.isF f3 ?_ | refine Split.isF f4 ?_ | refine Split.isF f5 ?_ | refine Split.t ?_ | refine Split.f ?_ | fail
  have f6 : decide (IntKind.i64.wrap ((plget l i).y + (kget z.ks (plget l i).k.toNat).h) > z.h) = false := decide_eq_false (by rw [hw _ (by omega) (by omega)]; omega)
  repeat' first | refine Split.isF f3 ?_ | refine Split.isF f4 ?_ | refine Split.isF f5 ?_ | refine Split.isF f6 ?_ | refine Split.t ?_ | refine Split.f ?_ | fail
  refine Need.mk (by omega) ?_
  refine Loop.by (α := Nat) (fun j => [(2, .ptr 2 0), (5, .d (.one (kS z.ks))), (59, .d (.one (ntS [t, B]))), (60, tint 2), (61, tint k), (11, .d (.one (plS l))), (79, .d (.one (plS l))), (80, tint l.length), (81, tint i), (14, .ptr 14 0), (15, .ptr 15 0), (131, .d (.one (.sl i 3 (lG plL pl0 l)))), (132, tint i), (133, tint j)])
    (fun _ => [(2, .box (pzL z)), (14, .box (plL (plget l i))), (15, .box (kL (kget z.ks (plget l i).k.toNat)))]) (fun j => j ≤ i) (fun j => i - j)
    (Adj.at 0 (Nat.zero_le _) (.cons (.box (LLe.of_eq rfl)) (.cons (.box (LLe.of_eq rfl)) (.cons (.box (LLe.of_eq rfl)) .nil))) (.cons (.box rfl rfl) (.cons .same (.cons .same (.cons .same (.cons .same (.cons .same (.cons .same (.cons .same (.cons .same (.cons (.box rfl rfl) (.cons (.box rfl rfl) (.cons (.data (DLe.one (SLe.slN (by omega) (fun a _ b _ => SLe.of_eq (by rw [Nat.zero_add]))))) (.cons (SlotLe.int (by omega)) (.cons .same .nil))))))))))))))) (fun j hj => ?_)
  refine Split.mk (fun hc => ?_) (fun hc => ?_)
  rotate_left
  · exact Adj.back (x := i) (i + 1) (by omega) (by omega) (.cons (.box (LLe.of_eq rfl)) .nil) (.cons (.box rfl rfl) (.cons .same (.cons .same (.cons .same (.cons .same (.cons .same (.cons .same (.cons .same (.cons (SlotLe.int (hS i (by omega))) .nil)))))))))
  have hji : j < i := by have := of_decide_eq_true hc; omega
  obtain ⟨s1, s2⟩ := hok.k j (by omega)
  obtain ⟨u1, u2, u3, u4⟩ := hok.at' j (by omega)
  have kp := p.ok _ (kget_mem (l := z.ks) (i := (plget l j).k.toNat) (by omega))
  have o1 := kp.w0; have o2 := kp.w1; have o3 := kp.h0; have o4 := kp.h1
  have hap := hok.ap i j hil hji
  refine Need.mk (by omega) ?_
  refine Need.mk (⟨s1, s2⟩ : 0 ≤ (plget l j).k ∧ (plget l j).k < (z.ks.length : Int)) ?_
  refine CallW.bool (apart_det (plget l i).x (kget z.ks (plget l i).k.toNat).w (plget l j).x (kget z.ks (plget l j).k.toNat).w z.kerf ⟨by omega, by omega⟩ ⟨by omega, by omega⟩ ⟨by omega, by omega⟩ ⟨by omega, by omega⟩ ⟨by omega, by omega⟩) (fun b5 hb5 => ?_)
  refine Split.mk (fun d1 => ?_) (fun d1 => ?_)
  · have d1' : b5 = false := by simpa using d1
    rw [d1'] at hb5
    have d2 : apartB (plget l i).y (kget z.ks (plget l i).k.toNat).h (plget l j).y (kget z.ks (plget l j).k.toNat).h z.kerf = true := hap.elim (fun h => by rw [← hb5] at h; cases h) id
    repeat' first | refine Split.isT d1 ?_ | refine Split.t ?_ | refine Split.f ?_ | fail
    refine CallW.mk' ((apart_det (plget l i).y (kget z.ks (plget l i).k.toNat).h (plget l j).y (kget z.ks (plget l j).k.toNat).h z.kerf ⟨by omega, by omega⟩ ⟨by omega, by omega⟩ ⟨by omega, by omega⟩ ⟨by omega, by omega⟩ ⟨by omega, by omega⟩).eq (by rw [d2])) ?_
    repeat' first | refine Split.isT d1 ?_ | refine Split.t ?_ | refine Split.f ?_ | fail
    exact Adj.back (x := j) (j + 1) (by omega) (by omega) (.cons (.box (LLe.of_eq rfl)) (.cons (.box (LLe.of_eq rfl)) (.cons (.box (LLe.of_eq rfl)) .nil))) (.cons (.box rfl rfl) (.cons .same (.cons .same (.cons .same (.cons .same (.cons .same (.cons .same (.cons .same (.cons .same (.cons (.box rfl rfl) (.cons (.box rfl rfl) (.cons .same (.cons .same (.cons (SlotLe.int (hS j (by omega))) .nil))))))))))))))
  · repeat' first | refine Split.isF d1 ?_ | refine Split.t ?_ | refine Split.f ?_ | fail
    exact Adj.back (x := j) (j + 1) (by omega) (by omega) (.cons (.box (LLe.of_eq rfl)) (.cons (.box (LLe.of_eq rfl)) (.cons (.box (LLe.of_eq rfl)) .nil))) (.cons (.box rfl rfl) (.cons .same (.cons .same (.cons .same (.cons .same (.cons .same (.cons .same (.cons .same (.cons .same (.cons (.box rfl rfl) (.cons (.box rfl rfl) (.cons .same (.cons .same (.cons (SlotLe.int (hS j (by omega))) .nil))))))))))))))
theorem lplaces_all : ∀ dvs, TypL Try.prog Try.f5.params.toList dvs → Det Try.prog 5 dvs (tbool true) := by
  intro dvs h
  obtain ⟨v0, r0, rfl, h0, q0⟩ := TypL.inv_cons (t := 24) (ts := [37]) h
  obtain ⟨v1, r1, rfl, h1, q1⟩ := TypL.inv_cons (t := 37) (ts := []) q0
  obtain rfl := TypL.inv_nil q1
  obtain ⟨z, hz, _, _, _, hle⟩ := pzIn h0
  obtain ⟨t, ht, hle2⟩ := ndsIn h1
  exact Det.le (.cons hle (.cons hle2 .nil)) (lplaces_det z t hz)
end St
end Go.Vm
