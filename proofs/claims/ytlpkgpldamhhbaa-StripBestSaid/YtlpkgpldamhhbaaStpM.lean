/-
  Layer 37: the contracts of StripGrows and StripParts.
-/
import Derived.Test.YtlpkgpldamhhbaaStpL
namespace Go.Vm
set_option maxRecDepth 20000
set_option linter.unusedVariables false
set_option linter.unusedSimpArgs false
open Go Go.RowKit Go.Proofs
namespace St

structure Pz where
  ks : List Knd
  w : Int
  h : Int
  kerf : Int
abbrev pzL (z : Pz) : List SV := [kS z.ks, i64 z.w, i64 z.h, i64 z.kerf]
def fewB (ks : List Knd) (w h : Int) : Bool := decide (ks.length ≤ 8) && (decide (w ≤ 60) && decide (h ≤ 60))
def smallB (z : Pz) : Bool := fewB z.ks z.w z.h && decide (z.kerf ≤ 60)
theorem few_det (ks : List Knd) (w h : Int) : Det Try.prog 40 [.one (kS ks), .one (i64 w), .one (i64 h)] (tbool (fewB ks w h)) := by
  refine det_of_awp TTok mixed Try.func40 rfl rfl [] (Nat.le_of_ble_eq_true rfl) ?_
  refine Split.mk (fun c1 => ?_) (fun c1 => ?_)
  · have e1 : ks.length ≤ 8 := by have := of_decide_eq_true c1; omega
    repeat' first | refine Split.isT c1 ?_ | refine Split.t ?_ | refine Split.f ?_ | fail
    refine Split.mk (fun c2 => ?_) (fun c2 => ?_)
    · repeat' first | refine Split.isT c1 ?_ | refine Split.isT c2 ?_ | refine Split.t ?_ | refine Split.f ?_ | fail
      refine Fin.bool ?_
      rw [fewB, decide_eq_true e1, c2]; rfl
    · repeat' first | refine Split.isT c1 ?_ | refine Split.isF c2 ?_ | refine Split.t ?_ | refine Split.f ?_ | fail
      refine Fin.bool ?_
      rw [fewB, c2, Bool.false_and, Bool.and_false]
  · have e1 : ¬ ks.length ≤ 8 := by have := of_decide_eq_false c1; omega
    repeat' first | refine Split.isF c1 ?_ | refine Split.t ?_ | refine Split.f ?_ | fail
    refine Fin.bool ?_
    rw [fewB, decide_eq_false e1, Bool.false_and]
theorem small_det (z : Pz) : Det Try.prog 15 [.agg (pzL z)] (tbool (smallB z)) := by
  refine det_of_awp TTok mixed Try.func15 rfl rfl [] (Nat.le_of_ble_eq_true rfl) ?_
  refine CallW.bool (few_det z.ks z.w z.h) (fun b hb => ?_)
  refine Split.mk (fun c1 => ?_) (fun c1 => ?_)
  · repeat' first | refine Split.isT c1 ?_ | refine Split.t ?_ | refine Split.f ?_ | fail
    refine Fin.bool ?_
    rw [smallB, ← hb, c1]; rfl
  · repeat' first | refine Split.isF c1 ?_ | refine Split.t ?_ | refine Split.f ?_ | fail
    refine Fin.bool ?_
    rw [smallB, ← hb, c1]; rfl
theorem small_iff {z : Pz} : smallB z = true ↔ z.ks.length ≤ 8 ∧ z.w ≤ 60 ∧ z.h ≤ 60 ∧ z.kerf ≤ 60 := by
  simp [smallB, fewB, Bool.and_eq_true, and_assoc]
theorem lG_at {α : Type} (f : α → List SV) (d : α) (l : List α) (k n i j : Nat) (cs : List SV) (hc : cs = f (l.getD k d)) (hi : i < k + 1) : SLe (bif Nat.blt i k then lG f d l i j else cs.getD ((i - k) * n + j) (.v Go.undef)) (lG f d l i j) := by
  subst hc
  refine SLe.bif (fun _ => SLe.refl _) (fun h => ?_)
  have e : i = k := by omega
  subst e
  rw [Nat.sub_self, Nat.zero_mul, Nat.zero_add]
  exact SLe.refl _
theorem kinds_det (l : List Knd) (hl : l.length ≤ 100000000) : Det Try.prog 16 [.one (kS l)] (.d (.one (kS l))) := by
  refine det_of_awp TTok mixed Try.func16 rfl rfl [] (Nat.le_of_ble_eq_true rfl) ?_
  refine Loop.by (α := Nat) (fun k => [(3, .hdl 15 0), (6, .d (.one (kS l))), (7, tint l.length), (8, tint k)]) (fun k => [(15, .bld 0 k 3 45 (lG kL k0 l))]) (fun k => k ≤ l.length) (fun k => l.length - k)
    (Adj.nil 3 15 3 45 (lG kL k0 l) rfl rfl (Adj.at 0 (Nat.zero_le _) (.cons (.bld (fun _ h => absurd h (Nat.not_lt_zero _))) .nil) (.cons (.hdl rfl rfl) (.cons .same (.cons .same (.cons .same .nil)))))) (fun k hk => ?_)
  refine Split.mk (fun h => ?_) (fun h => ?_)
  · have hlt : k < l.length := by have := of_decide_eq_true h; omega
    refine Need.mk (by omega) ?_
    refine Need.mk (needApp (n := k + 1) (by omega) (by decide)) ?_
    refine Adj.back (x := k) (k + 1) (by omega) (by omega) (.cons (.bld (fun i hi j hj => ?_)) .nil) (.cons (.hdl rfl rfl) (.cons .same (.cons .same (.cons (SlotLe.int (hS k (by omega))) .nil))))
    exact lG_at kL k0 l k 3 i j _ rfl hi
  · have he : k = l.length := by have := of_decide_eq_false h; omega
    refine Fin.one ?_
    exact SLe.slN he (fun _ _ _ _ => SLe.refl _)
theorem CallW.kds {P : Program} {f : FuncId} {args : List DV} {K : TV → Prop} {a : List Knd} (h : Det P f args (.d (.one (kS a)))) (kk : K (.d (.one (kS a)))) : CallW P f args K := ⟨_, h, kk⟩
theorem cons_le (k : Knd) (ks : List Knd) : DLe (.one (.sl (1 + ks.length) 3 fun i j => bif Nat.blt i 1 then (kL k).getD (i * 3 + j) (.v Go.undef) else lG kL k0 ks (i - 1) j)) (.one (kS (k :: ks))) := by
  refine DLe.one (SLe.slN (by rw [List.length_cons]; omega) (fun i hi j hj => SLe.bif (fun h => ?_) (fun h => ?_)))
  · obtain rfl : i = 0 := by omega
    rw [Nat.zero_mul, Nat.zero_add]
    exact SLe.refl _
  · obtain ⟨i, rfl⟩ : ∃ i', i = i' + 1 := ⟨i - 1, by omega⟩
    exact SLe.of_eq (lG_eq (by simp [List.getD]) j)
theorem bestR_ok {ks : List Knd} {w h kerf : Int} (hz : (bestR ks w h kerf).2.2 = 0) : Pb ks w h kerf ∧ manyB ks w h kerf = false ∧ (bestR ks w h kerf).1 = bestV ks w h kerf := by
  unfold bestR at hz ⊢
  cases hp : probB ks w h kerf with
  | false => rw [hp] at hz; simp at hz
  | true =>
    cases hm : manyB ks w h kerf with
    | true => rw [hp, hm] at hz; simp at hz
    | false =>
      refine ⟨prob_iff.1 hp, rfl, ?_⟩
      simp
theorem bestR_err {ks : List Knd} {w h kerf : Int} (p : Pb ks w h kerf) : (bestR ks w h kerf).2.2 = 9 ∨ ((bestR ks w h kerf).2.2 = 0 ∧ manyB ks w h kerf = false ∧ (bestR ks w h kerf).1 = bestV ks w h kerf) := by
  unfold bestR
  rw [prob_iff.2 p]
  cases hm : manyB ks w h kerf with
  | true => left; simp
  | false => right; simp
theorem rem_w {n m : Int} (h0 : 0 ≤ n) : n.tmod m = n % m := Int.tmod_eq_emod_of_nonneg h0
/-! ### StripGrows -/
/-! ### StripParts -/
/-! ### what comes in -/
theorem u8_bd {a : Int} (h : InK .u8 a) : 0 ≤ a ∧ a ≤ 255 := by
  simp [InK, Lit.wf, IntKind.min, IntKind.max, IntKind.bits, IntKind.signed] at h
  omega
theorem kndsIn {c : SV} (h : Typ Try.prog 22 [c]) : ∃ l : List Knd, l.length ≤ maxLen ∧ SLe c (kS l) := by
  obtain ⟨n, get, e, hn, hr⟩ := Typ.inv_slc (P := Try.prog) (e := 44) rfl h
  cases e
  obtain ⟨l, h1, _, h3⟩ := lst_of (f := kL) (d := k0) (Q := fun _ => True) (k := 3) (n := n) (get := get) (fun i hi => by
    obtain ⟨a0, a1, a2, e, _⟩ := typ44 (hr i hi)
    exact ⟨⟨a0, a1, a2⟩, trivial, e⟩)
  exact ⟨l, by rw [h1]; exact hn, fun S w x r => h3 S w x r⟩
theorem pzIn {v : DV} (h : TypD Try.prog 24 v) : ∃ z : Pz, z.ks.length ≤ maxLen ∧ R64 z.w ∧ R64 z.h ∧ R64 z.kerf ∧ DLe v (.agg (pzL z)) := by
  obtain ⟨cs, rfl, k⟩ := TypD.agg (by kernel_rfl) h
  have hl : cs.length = 4 := (Typ.inv_str rfl k).1
  match cs, hl, k with
  | [c0, c1, c2, c3], _, k =>
    obtain ⟨l, hl1, hl2⟩ := kndsIn (k.field rfl 0 0 1 22 rfl)
    obtain ⟨w, e1, r1⟩ := Typ.inv_i64 rfl (k.field rfl 1 1 1 3 rfl)
    obtain ⟨hh, e2, r2⟩ := Typ.inv_i64 rfl (k.field rfl 2 2 1 3 rfl)
    obtain ⟨q, e3, r3⟩ := Typ.inv_i64 rfl (k.field rfl 3 3 1 3 rfl)
    cases (show [c1] = [i64 w] from e1)
    cases (show [c2] = [i64 hh] from e2)
    cases (show [c3] = [i64 q] from e3)
    exact ⟨⟨l, w, hh, q⟩, hl1, r1, r2, r3, DLe.agg (.cons hl2 (LLe.refl _))⟩
theorem kndIn {v : DV} (h : TypD Try.prog 44 v) : ∃ k : Knd, v = .agg (kL k) := by
  obtain ⟨cs, rfl, k⟩ := TypD.agg (by kernel_rfl) h
  obtain ⟨a0, a1, a2, rfl, _⟩ := typ44 k
  exact ⟨⟨a0, a1, a2⟩, rfl⟩
theorem u8In {v : DV} (h : TypD Try.prog 5 v) : ∃ a : Int, v = .one (.v (.int .u8 a)) ∧ 0 ≤ a ∧ a ≤ 255 := by
  obtain ⟨a, rfl, r⟩ := TypD.int (k := .u8) (by kernel_rfl) rfl h
  exact ⟨a, rfl, u8_bd r⟩
theorem arrIn {v : DV} (h : TypD Try.prog 57 v) : ∃ a b : Int, v = .agg [.v (.int .u8 a), .v (.int .u8 b)] ∧ 0 ≤ a ∧ a ≤ 255 ∧ 0 ≤ b ∧ b ≤ 255 := by
  obtain ⟨cs, rfl, k⟩ := TypD.agg (by kernel_rfl) h
  obtain ⟨hl, hr⟩ := Typ.inv_arr (e := 5) (n := 2) rfl k
  replace hl : cs.length = 2 := hl
  match cs, hl, hr with
  | [c0, c1], _, hr =>
    obtain ⟨a, e0, r0⟩ := Typ.inv_int (k := .u8) rfl (hr 0 (by decide))
    obtain ⟨b, e1, r1⟩ := Typ.inv_int (k := .u8) rfl (hr 1 (by decide))
    cases (show [c0] = [.v (.int .u8 a)] from e0)
    cases (show [c1] = [.v (.int .u8 b)] from e1)
    exact ⟨a, b, rfl, (u8_bd r0).1, (u8_bd r0).2, u8_bd r1⟩
end St
end Go.Vm
