/-
  Layer 7: the laws SegOn, SegPoints and SegOrder.
-/
import Derived.Test.YtbhjhbmdgdnbeaaSegI
namespace Go.Vm
namespace Sg
open Go Go.RowKit Go.Proofs

theorem CallW.vecOk {P : Program} {f : FuncId} {args : List DV} {K : TV → Prop} {v : V2} {b : Bool} (h : Det P f args (vecOk v b)) (kk : ∀ w c, w = v → c = b → K (vecOk w c)) : CallW P f args K := ⟨_, h, kk _ _ rfl rfl⟩
theorem CallW.ptOk {P : Program} {f : FuncId} {args : List DV} {K : TV → Prop} {v : P3} {b : Bool} (h : Det P f args (ptOk v b)) (kk : ∀ w c, w = v → c = b → K (ptOk w c)) : CallW P f args K := ⟨_, h, kk _ _ rfl rfl⟩
theorem CallW.segOk {P : Program} {f : FuncId} {args : List DV} {K : TV → Prop} {v : Seg} {b : Bool} (h : Det P f args (segOk v b)) (kk : ∀ w c, w = v → c = b → K (segOk w c)) : CallW P f args K := ⟨_, h, kk _ _ rfl rfl⟩
theorem EqW.vr {K : Bool → Prop} (a : V2) (k : K true) : EqW Try.prog 23 (vL a) (vL a) K := EqW.v a a (fun q hq => by rw [hq.2 rfl]; exact k)
theorem EqW.pr {K : Bool → Prop} (a : P3) (k : K true) : EqW Try.prog 28 (pL a) (pL a) K := EqW.p a a (fun q hq => by rw [hq.2 rfl]; exact k)
theorem EqW.sr {K : Bool → Prop} (a : Seg) (k : K true) : EqW Try.prog 25 (sL a) (sL a) K := EqW.s a a (fun q hq => by rw [hq.2 rfl]; exact k)

theorem lon_det (s : Seg) (p : V2) (q : P3) : Det Try.prog 7 [sD s, vD p, pD q] (tbool true) := by
  refine det_of_awp TTok mixed Try.func7 rfl rfl [] (Nat.le_of_ble_eq_true rfl) ?_
  refine CallW.mk' awake_det ?_
  refine Split.f ?_
  refine CallW.vecOk (whole_det q) (fun v b hv hb => ?_)
  refine CallW.vecOk (rwhole_det q) (fun v' b' hv' hb' => ?_)
  obtain rfl : v = v' := hv.trans hv'.symm
  obtain rfl : b = b' := hb.trans hb'.symm
  refine CallW.bool (on_det s p) (fun c hc => ?_)
  refine CallW.bool (ron_det s p) (fun c' hc' => ?_)
  obtain rfl : c = c' := hc.trans hc'.symm
  refine Need.mk rfl ?_
  have ec : (c == c) = true := beq_self_eq_true c
  repeat' first | refine Split.t ?_ | refine Split.isT ec ?_ | refine CallW.int (side_det s p) (fun _ _ => ?_) | fail
  rename_i n1 hn1
  refine CallW.int (rside_det s p) (fun n2 hn2 => ?_)
  obtain rfl : n1 = n2 := hn1.trans hn2.symm
  have en : (n1 == n1) = true := beq_self_eq_true n1
  have eb : (b == b) = true := beq_self_eq_true b
  repeat' first | refine Split.t ?_ | refine Split.isT ec ?_ | refine Split.isT en ?_ | refine CallW.mk' (pointof_det p) ?_ | refine CallW.mk' (rpointof_det p) ?_ | refine EqW.pr (ptOf p) ?_ | refine EqW.vr v ?_ | refine Need.mk (by kernel_rfl) ?_ | refine Fin.bool ?_ | fail
  exact eb
theorem lpoints_det (p q : P3) : Det Try.prog 8 [pD p, pD q] (tbool true) := by
  refine det_of_awp TTok mixed Try.func8 rfl rfl [] (Nat.le_of_ble_eq_true rfl) ?_
  refine CallW.mk' awake_det ?_
  refine Split.f ?_
  refine CallW.bool (validp_det p) (fun c hc => ?_)
  refine CallW.bool (rvalidp_det p) (fun c' hc' => ?_)
  obtain rfl : c = c' := hc.trans hc'.symm
  have ec : (c == c) = true := beq_self_eq_true c
  repeat' first | refine Need.mk rfl ?_ | refine Split.t ?_ | refine Split.isT ec ?_ | refine CallW.int (cmpp_det p q) (fun _ _ => ?_) | fail
  rename_i n1 hn1
  refine CallW.int (rcmpp_det p q) (fun n2 hn2 => ?_)
  obtain rfl : n1 = n2 := hn1.trans hn2.symm
  repeat' first | refine Split.t ?_ | refine Split.isT ec ?_ | refine Need.mk (by kernel_rfl) ?_ | refine Fin.bool ?_ | fail
  exact beq_self_eq_true n1

theorem vec_of {v : DV} (h : TypD Try.prog 23 v) : ∃ p : V2, v = vD p ∧ R64 p.x ∧ R64 p.y := by
  obtain ⟨cs, rfl, k⟩ := TypD.agg (by kernel_rfl) h
  obtain ⟨a0, a1, rfl, h0, h1⟩ := typ23 k
  exact ⟨⟨a0, a1⟩, rfl, h0, h1⟩
theorem point_of {v : DV} (h : TypD Try.prog 28 v) : ∃ p : P3, v = pD p ∧ R64 p.x ∧ R64 p.y ∧ R64 p.d := by
  obtain ⟨cs, rfl, k⟩ := TypD.agg (by kernel_rfl) h
  obtain ⟨a0, a1, a2, rfl, h0, h1, h2⟩ := typ28 k
  exact ⟨⟨a0, a1, a2⟩, rfl, h0, h1, h2⟩
theorem seg_of {v : DV} (h : TypD Try.prog 25 v) : ∃ s : Seg, v = sD s ∧ R64 s.a.x ∧ R64 s.a.y ∧ R64 s.b.x ∧ R64 s.b.y := by
  obtain ⟨cs, rfl, k⟩ := TypD.agg (by kernel_rfl) h
  obtain ⟨a0, a1, a2, a3, rfl, h0, h1, h2, h3⟩ := typ25 k
  exact ⟨⟨⟨a0, a1⟩, ⟨a2, a3⟩⟩, rfl, h0, h1, h2, h3⟩
theorem lon_all : ∀ dvs, TypL Try.prog Try.f7.params.toList dvs → Det Try.prog 7 dvs (tbool true) := by
  intro dvs h
  obtain ⟨v0, r0, rfl, h0, q0⟩ := TypL.inv_cons (t := 25) (ts := [23, 28]) h
  obtain ⟨v1, r1, rfl, h1, q1⟩ := TypL.inv_cons q0
  obtain ⟨v2, r2, rfl, h2, q2⟩ := TypL.inv_cons q1
  obtain rfl := TypL.inv_nil q2
  obtain ⟨s, rfl, _⟩ := seg_of h0
  obtain ⟨p, rfl, _⟩ := vec_of h1
  obtain ⟨q, rfl, _⟩ := point_of h2
  exact lon_det s p q
theorem lpoints_all : ∀ dvs, TypL Try.prog Try.f8.params.toList dvs → Det Try.prog 8 dvs (tbool true) := by
  intro dvs h
  obtain ⟨v0, r0, rfl, h0, q0⟩ := TypL.inv_cons (t := 28) (ts := [28]) h
  obtain ⟨v1, r1, rfl, h1, q1⟩ := TypL.inv_cons q0
  obtain rfl := TypL.inv_nil q1
  obtain ⟨s, rfl, _⟩ := point_of h0
  obtain ⟨p, rfl, _⟩ := point_of h1
  exact lpoints_det s p
end Sg
end Go.Vm
