/-
  Layer 26: contracts of the references on one part, and the law BarParts.
-/
import Derived.Test.YtlgnghcflnkhcaaBarG
namespace Go.Vm
open Go Go.RowKit Go.Proofs

theorem rgap_det (p q : BP) (kerf : Int) : Det Try.prog 50 [bpD p, bpD q, .one (i64 kerf)] (tint (gapI p q kerf)) := by
  refine det_of_awp TTok mixed Try.func50 rfl rfl [] (Nat.le_of_ble_eq_true rfl) ?_
  exact Fin.int rfl
def gapE (p q : BP) (kerf : Int) : Int := if validP p && validP q && withinI kerf 0 100 then 0 else 1
abbrev twoT (a b : Int) : TV := .tup [.one (i64 a), .one (i64 b)]
abbrev threeT (a b c : Int) : TV := .tup [.one (i64 a), .one (i64 b), .one (i64 c)]
theorem EqW.tt {P : Program} {T : TypeId} {xs ys : List SV} {K : Bool → Prop} {e : Bool} (h : EqFact P T xs ys e) (he : e = true) (k : K true) : EqW P T xs ys K := ⟨e, h, he ▸ k⟩
theorem CallW.tup2 {P : Program} {f : FuncId} {args : List DV} {K : TV → Prop} {a b : Int} (h : Det P f args (twoT a b)) (kk : ∀ x y, x = a → y = b → K (twoT x y)) : CallW P f args K := ⟨_, h, kk _ _ rfl rfl⟩
theorem CallW.tup3 {P : Program} {f : FuncId} {args : List DV} {K : TV → Prop} {a b c : Int} (h : Det P f args (threeT a b c)) (kk : ∀ x y z, x = a → y = b → z = c → K (threeT x y z)) : CallW P f args K := ⟨_, h, kk _ _ _ rfl rfl rfl⟩
theorem gapE_eq {p q : BP} {kerf : Int} {R : Nat → BP} (h0 : R 0 = p) (h1 : R 1 = q) : errI 2 R kerf = gapE p q kerf := by
  subst h0 h1
  simp only [errI, gapE, badB, anyB, firstAt, withinI]
  rcases Bool.eq_false_or_eq_true (validP (R 0)) with h | h <;> rcases Bool.eq_false_or_eq_true (validP (R 1)) with k | k <;> simp [h, k] <;> (repeat' split) <;> omega
theorem rgap2_det (p q : BP) (kerf : Int) : Det Try.prog 16 [bpD p, bpD q, .one (i64 kerf)] (intErr (gapI p q kerf) (gapE p q kerf)) := by
  refine det_of_awp TTok mixed Try.func16 rfl rfl [] (Nat.le_of_ble_eq_true rfl) ?_
  repeat' first | refine CallW.bool (rvalidp_det _) (fun _ _ => ?_) | refine CallW.bool (within_det _ _ _) (fun _ _ => ?_) | refine CallW.int (rgap_det _ _ _) (fun _ _ => ?_) | refine Split.t ?_ | refine Split.f ?_ | refine Split.mk (fun _ => ?_) (fun _ => ?_) | refine Need.mk (by kernel_rfl) ?_ | refine Fin.eq ?_
  all_goals
    simp_all [gapE, intErr]
def extE (p : BP) (a : Int) : Int := if validP p && withinI a (-1073741824) 1073741824 then 0 else 1
abbrev extT (p : BP) (a : Int) : TV := threeT (if extE p a = 0 then extLo p a else 0) (if extE p a = 0 then extHi p a else 0) (extE p a)
theorem extent3_det (p : BP) (a : Int) : Det Try.prog 17 [bpD p, .one (i64 a)] (extT p a) := by
  refine det_of_awp TTok mixed Try.func17 rfl rfl [] (Nat.le_of_ble_eq_true rfl) ?_
  repeat' first | refine CallW.bool (validp_det _) (fun _ _ => ?_) | refine CallW.tup2 (extent_det _ _) (fun _ _ _ _ => ?_) | refine Split.t ?_ | refine Split.f ?_ | refine Split.mk (fun _ => ?_) (fun _ => ?_) | refine Need.mk (by kernel_rfl) ?_ | refine Fin.eq ?_
  all_goals
    simp_all [extE, withinI]
  · refine ⟨?_, ?_, ?_⟩ <;> intros <;> omega
theorem rextent3_det (p : BP) (a : Int) : Det Try.prog 18 [bpD p, .one (i64 a)] (extT p a) := by
  refine det_of_awp TTok mixed Try.func18 rfl rfl [] (Nat.le_of_ble_eq_true rfl) ?_
  repeat' first | refine CallW.bool (rvalidp_det _) (fun _ _ => ?_) | refine CallW.bool (within_det _ _ _) (fun _ _ => ?_) | refine Split.t ?_ | refine Split.f ?_ | refine Split.mk (fun _ => ?_) (fun _ => ?_) | refine Need.mk (by kernel_rfl) ?_ | refine Fin.eq ?_
  all_goals
    simp_all [extE, withinI]
  · refine ⟨?_, ?_, ?_⟩ <;> intros <;> omega
  · exact ⟨rfl, rfl⟩

theorem lparts_det (p q : BP) (n : Int) : Det Try.prog 4 [bpD p, bpD q, .one (i64 n)] (tbool true) := by
  refine det_of_awp TTok mixed Try.func4 rfl rfl [] (Nat.le_of_ble_eq_true rfl) ?_
  refine CallW.mk' awake_det ?_
  repeat refine Split.f ?_
  refine CallW.tup2 (gap2_det p q n) (fun g e hg he => ?_)
  refine CallW.tup2 (rgap2_det p q n) (fun g' e' hg' he' => ?_)
  rw [gapE_eq (p := p) (q := q) rfl rfl] at hg he
  obtain rfl : g = g' := hg.trans hg'.symm
  obtain rfl : e = e' := he.trans he'.symm
  refine CallW.tup3 (extent3_det p n) (fun a b c ha hb hc => ?_)
  refine CallW.tup3 (rextent3_det p n) (fun a' b' c' ha' hb' hc' => ?_)
  obtain rfl : a = a' := ha.trans ha'.symm
  obtain rfl : b = b' := hb.trans hb'.symm
  obtain rfl : c = c' := hc.trans hc'.symm
  refine CallW.bool (validp_det p) (fun v hv => ?_)
  refine CallW.bool (rvalidp_det p) (fun v' hv' => ?_)
  obtain rfl : v = v' := hv.trans hv'.symm
  repeat' first | refine Split.isT (beq_self_eq_true _) ?_ | refine Split.t ?_ | refine Need.mk (by kernel_rfl) ?_ | refine Fin.bool ?_ | refine CallW.mk' (turned_det p) ?_ | refine CallW.mk' (rturned_det p) ?_ | refine CallW.mk' (flipped_det p) ?_ | refine CallW.mk' (rflipped_det p) ?_ | refine EqW.tt (eq30 _ _ _ _ _ _ _ _ _ _) (by simp) ?_
  all_goals exact beq_self_eq_true _
theorem bp_of {v : DV} (h : TypD Try.prog 30 v) : ∃ p : BP, v = bpD p := by
  obtain ⟨cs, rfl, k⟩ := TypD.agg (by kernel_rfl) h
  obtain ⟨a0, a1, a2, a3, a4, rfl, _⟩ := typ30 k
  exact ⟨⟨a0, a1, a2, a3, a4⟩, rfl⟩
theorem lparts_all : ∀ dvs, TypL Try.prog Try.f4.params.toList dvs → Det Try.prog 4 dvs (tbool true) := by
  intro dvs h
  obtain ⟨v0, r0, rfl, h0, q0⟩ := TypL.inv_cons (t := 30) (ts := [30, 3]) h
  obtain ⟨v1, r1, rfl, h1, q1⟩ := TypL.inv_cons q0
  obtain ⟨v2, r2, rfl, h2, q2⟩ := TypL.inv_cons q1
  obtain rfl := TypL.inv_nil q2
  obtain ⟨p, rfl⟩ := bp_of h0
  obtain ⟨q, rfl⟩ := bp_of h1
  obtain ⟨n, rfl, _⟩ := TypD.i64 (by kernel_rfl) rfl h2
  exact lparts_det p q n
end Go.Vm
