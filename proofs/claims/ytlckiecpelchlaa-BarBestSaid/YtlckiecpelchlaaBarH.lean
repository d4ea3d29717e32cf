/-
  Layer 26: contracts of the references on one part, and the law BarParts.
-/
import Derived.Test.YtlckiecpelchlaaBarG
namespace Go.Vm
set_option maxRecDepth 20000
set_option linter.unusedVariables false
set_option linter.unusedSimpArgs false
open Go Go.RowKit Go.Proofs

theorem rgap_det (p q : BP) (kerf : Int) : Det Try.prog 97 [bpD p, bpD q, .one (i64 kerf)] (tint (gapI p q kerf)) := by
  refine det_of_awp TTok mixed Try.func97 rfl rfl [] (Nat.le_of_ble_eq_true rfl) ?_
  exact Fin.int rfl
def gapE (p q : BP) (kerf : Int) : Int := if validP p && validP q && withinI kerf 0 100 then 0 else 1
abbrev twoT (a b : Int) : TV := .tup [.one (i64 a), .one (i64 b)]
abbrev threeT (a b c : Int) : TV := .tup [.one (i64 a), .one (i64 b), .one (i64 c)]
theorem EqW.tt {P : Program} {T : TypeId} {xs ys : List SV} {K : Bool → Prop} {e : Bool} (h : EqFact P T xs ys e) (he : e = true) (k : K true) : EqW P T xs ys K := ⟨e, h, he ▸ k⟩
theorem CallW.tup2 {P : Program} {f : FuncId} {args : List DV} {K : TV → Prop} {a b : Int} (h : Det P f args (twoT a b)) (kk : ∀ x y, x = a → y = b → K (twoT x y)) : CallW P f args K := ⟨_, h, kk _ _ rfl rfl⟩
theorem CallW.tup3 {P : Program} {f : FuncId} {args : List DV} {K : TV → Prop} {a b c : Int} (h : Det P f args (threeT a b c)) (kk : ∀ x y z, x = a → y = b → z = c → K (threeT x y z)) : CallW P f args K := ⟨_, h, kk _ _ _ rfl rfl rfl⟩
theorem gapE_eq {p q : BP} {kerf : Int} {R : Nat → BP} (h0 : R 0 = p) (h1 : R 1 = q) : errI 2 R kerf = gapE p q kerf := by
  subst h0 h1
  simp only [errI, gapE, badB, anyB, firstAt, withinI]
  rcases Bool.eq_false_or_eq_true (validP (R 0)) with h | h <;> rcases Bool.eq_false_or_eq_true (validP (R 1)) with k | k <;> simp [h, k] <;> (repeat' split) <;> omega
def extE (p : BP) (a : Int) : Int := if validP p && withinI a (-1073741824) 1073741824 then 0 else 1
abbrev extT (p : BP) (a : Int) : TV := threeT (if extE p a = 0 then extLo p a else 0) (if extE p a = 0 then extHi p a else 0) (extE p a)
theorem rextent3_det (p : BP) (a : Int) : Det Try.prog 70 [bpD p, .one (i64 a)] (extT p a) := by
  refine det_of_awp TTok mixed Try.func70 rfl rfl [] (Nat.le_of_ble_eq_true rfl) ?_
  repeat' first | refine CallW.bool (rvalidp_det _) (fun _ _ => ?_) | refine CallW.bool (within_det _ _ _) (fun _ _ => ?_) | refine Split.t ?_ | refine Split.f ?_ | refine Split.mk (fun _ => ?_) (fun _ => ?_) | refine Need.mk (by kernel_rfl) ?_ | refine Fin.eq ?_
  all_goals
    simp_all [extE, withinI]
  · refine ⟨?_, ?_, ?_⟩ <;> intros <;> omega
  · exact ⟨rfl, rfl⟩

theorem bp_of {v : DV} (h : TypD Try.prog 65 v) : ∃ p : BP, v = bpD p := by
  obtain ⟨cs, rfl, k⟩ := TypD.agg (by kernel_rfl) h
  obtain ⟨a0, a1, a2, a3, a4, rfl, _⟩ := typ65 k
  exact ⟨⟨a0, a1, a2, a3, a4⟩, rfl⟩
end Go.Vm
