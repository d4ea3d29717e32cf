/-
  Layer 37, plain: what knapsack returns is the greatest value; plans of strips.
  Layer 37: the contracts of StripGrows and StripParts.
-/
import Derived.Test.YtfoblfchkgapoaaStpK
namespace Go.Vm
set_option maxRecDepth 20000
set_option linter.unusedVariables false
set_option linter.unusedSimpArgs false
open Go Go.RowKit Go.Proofs
namespace St

def sumBy {α : Type} (f : α → Int) : List α → Int
  | [] => 0
  | a :: l => f a + sumBy f l
/-! ### the knapsack's value -/
def gV (its : List Itm) (c : Nat) : Int := (kBest its (kV its c) c its.length).1
/-! ### plans -/
structure StripOk (ks : List Knd) (w kerf : Int) (p : Knd × List Knd) : Prop where
  k : p.1 ∈ ks
  l : ∀ x ∈ p.2, x ∈ ks ∧ x.h ≤ p.1.h
  s : sumBy (fun x => x.w + kerf) p.2 ≤ w + kerf
structure PlanOk (ks : List Knd) (w h kerf : Int) (P : List (Knd × List Knd)) : Prop where
  p : ∀ p ∈ P, StripOk ks w kerf p
  s : sumBy (fun p => p.1.h + kerf) P ≤ h + kerf
def planV (P : List (Knd × List Knd)) : Int := sumBy (fun p => sumBy Knd.v p.2) P
section
variable {ks : List Knd} {w h kerf : Int} (p : Pb ks w h kerf)
include p
omit p in
end
/-! ### greater sheets, more kinds, smaller kerfs -/
/-! ### areas -/
end St
end Go.Vm
namespace Go.Vm
set_option maxRecDepth 20000
set_option linter.unusedVariables false
set_option linter.unusedSimpArgs false
open Go Go.RowKit Go.Proofs
namespace St

structure Pz where
  ks : List Knd
  w : Int
  h : Int
  kerf : Int
abbrev pzL (z : Pz) : List SV := [kS z.ks, i64 z.w, i64 z.h, i64 z.kerf]
def fewB (ks : List Knd) (w h : Int) : Bool := decide (ks.length ≤ 8) && (decide (w ≤ 60) && decide (h ≤ 60))
def smallB (z : Pz) : Bool := fewB z.ks z.w z.h && decide (z.kerf ≤ 60)
theorem lG_at {α : Type} (f : α → List SV) (d : α) (l : List α) (k n i j : Nat) (cs : List SV) (hc : cs = f (l.getD k d)) (hi : i < k + 1) : SLe (bif Nat.blt i k then lG f d l i j else cs.getD ((i - k) * n + j) (.v Go.undef)) (lG f d l i j) := by
  subst hc
  refine SLe.bif (fun _ => SLe.refl _) (fun h => ?_)
  have e : i = k := by omega
  subst e
  rw [Nat.sub_self, Nat.zero_mul, Nat.zero_add]
  exact SLe.refl _
theorem kinds_det (l : List Knd) (hl : l.length ≤ 100000000) : Det Try.prog 17 [.one (kS l)] (.d (.one (kS l))) := by
  refine det_of_awp TTok mixed Try.func17 rfl rfl [] (Nat.le_of_ble_eq_true rfl) ?_
  refine Loop.by (α := Nat) (fun k => [(3, .hdl 15 0), (6, .d (.one (kS l))), (7, tint l.length), (8, tint k)]) (fun k => [(15, .bld 0 k 3 46 (lG kL k0 l))]) (fun k => k ≤ l.length) (fun k => l.length - k)
    (Adj.nil 3 15 3 46 (lG kL k0 l) rfl rfl (Adj.at 0 (Nat.zero_le _) (.cons (.bld (fun _ h => absurd h (Nat.not_lt_zero _))) .nil) (.cons (.hdl rfl rfl) (.cons .same (.cons .same (.cons .same .nil)))))) (fun k hk => ?_)
  refine Split.mk (fun h => ?_) (fun h => ?_)
  · have hlt : k < l.length := by have := of_decide_eq_true h; omega
    refine Need.mk (by omega) ?_
    refine Need.mk (needApp (n := k + 1) (by omega) (by decide)) ?_
    refine Adj.back (x := k) (k + 1) (by omega) (by omega) (.cons (.bld (fun i hi j hj => ?_)) .nil) (.cons (.hdl rfl rfl) (.cons .same (.cons .same (.cons (SlotLe.int (hS k (by omega))) .nil))))
    exact lG_at kL k0 l k 3 i j _ rfl hi
  · have he : k = l.length := by have := of_decide_eq_false h; omega
    refine Fin.one ?_
    exact SLe.slN he (fun _ _ _ _ => SLe.refl _)
theorem CallW.kds {P : Program} {f : FuncId} {args : List DV} {K : TV → Prop} {a : List Knd} (h : Det P f args (.d (.one (kS a)))) (kk : K (.d (.one (kS a)))) : CallW P f args K := ⟨_, h, kk⟩
/-! ### StripGrows -/
/-! ### StripParts -/
/-! ### what comes in -/
theorem kndsIn {c : SV} (h : Typ Try.prog 22 [c]) : ∃ l : List Knd, l.length ≤ maxLen ∧ SLe c (kS l) := by
  obtain ⟨n, get, e, hn, hr⟩ := Typ.inv_slc (P := Try.prog) (e := 43) rfl h
  cases e
  obtain ⟨l, h1, _, h3⟩ := lst_of (f := kL) (d := k0) (Q := fun _ => True) (k := 3) (n := n) (get := get) (fun i hi => by
    obtain ⟨a0, a1, a2, e, _⟩ := typ43 (hr i hi)
    exact ⟨⟨a0, a1, a2⟩, trivial, e⟩)
  exact ⟨l, by rw [h1]; exact hn, fun S w x r => h3 S w x r⟩
theorem pzIn {v : DV} (h : TypD Try.prog 24 v) : ∃ z : Pz, z.ks.length ≤ maxLen ∧ R64 z.w ∧ R64 z.h ∧ R64 z.kerf ∧ DLe v (.agg (pzL z)) := by
  obtain ⟨cs, rfl, k⟩ := TypD.agg (by kernel_rfl) h
  have hl : cs.length = 4 := (Typ.inv_str rfl k).1
  match cs, hl, k with
  | [c0, c1, c2, c3], _, k =>
    obtain ⟨l, hl1, hl2⟩ := kndsIn (k.field rfl 0 0 1 22 rfl)
    obtain ⟨w, e1, r1⟩ := Typ.inv_i64 rfl (k.field rfl 1 1 1 3 rfl)
    obtain ⟨hh, e2, r2⟩ := Typ.inv_i64 rfl (k.field rfl 2 2 1 3 rfl)
    obtain ⟨q, e3, r3⟩ := Typ.inv_i64 rfl (k.field rfl 3 3 1 3 rfl)
    cases (show [c1] = [i64 w] from e1)
    cases (show [c2] = [i64 hh] from e2)
    cases (show [c3] = [i64 q] from e3)
    exact ⟨⟨l, w, hh, q⟩, hl1, r1, r2, r3, DLe.agg (.cons hl2 (LLe.refl _))⟩
end St
end Go.Vm
