/-
  Layer 7: the laws SegOn, SegPoints and SegOrder.
-/
import Derived.Test.YtgmlblmkcbcgaaaSegI
namespace Go.Vm
set_option maxRecDepth 20000
set_option linter.unusedVariables false
set_option linter.unusedSimpArgs false
namespace Sg
open Go Go.RowKit Go.Proofs

theorem CallW.vecOk {P : Program} {f : FuncId} {args : List DV} {K : TV → Prop} {v : V2} {b : Bool} (h : Det P f args (vecOk v b)) (kk : ∀ w c, w = v → c = b → K (vecOk w c)) : CallW P f args K := ⟨_, h, kk _ _ rfl rfl⟩
theorem CallW.ptOk {P : Program} {f : FuncId} {args : List DV} {K : TV → Prop} {v : P3} {b : Bool} (h : Det P f args (ptOk v b)) (kk : ∀ w c, w = v → c = b → K (ptOk w c)) : CallW P f args K := ⟨_, h, kk _ _ rfl rfl⟩
theorem CallW.segOk {P : Program} {f : FuncId} {args : List DV} {K : TV → Prop} {v : Seg} {b : Bool} (h : Det P f args (segOk v b)) (kk : ∀ w c, w = v → c = b → K (segOk w c)) : CallW P f args K := ⟨_, h, kk _ _ rfl rfl⟩
theorem EqW.vr {K : Bool → Prop} (a : V2) (k : K true) : EqW Try.prog 32 (vL a) (vL a) K := EqW.v a a (fun q hq => by rw [hq.2 rfl]; exact k)
theorem EqW.pr {K : Bool → Prop} (a : P3) (k : K true) : EqW Try.prog 41 (pL a) (pL a) K := EqW.p a a (fun q hq => by rw [hq.2 rfl]; exact k)
theorem EqW.sr {K : Bool → Prop} (a : Seg) (k : K true) : EqW Try.prog 47 (sL a) (sL a) K := EqW.s a a (fun q hq => by rw [hq.2 rfl]; exact k)

theorem vec_of {v : DV} (h : TypD Try.prog 32 v) : ∃ p : V2, v = vD p ∧ R64 p.x ∧ R64 p.y := by
  obtain ⟨cs, rfl, k⟩ := TypD.agg (by kernel_rfl) h
  obtain ⟨a0, a1, rfl, h0, h1⟩ := typ32 k
  exact ⟨⟨a0, a1⟩, rfl, h0, h1⟩
theorem point_of {v : DV} (h : TypD Try.prog 41 v) : ∃ p : P3, v = pD p ∧ R64 p.x ∧ R64 p.y ∧ R64 p.d := by
  obtain ⟨cs, rfl, k⟩ := TypD.agg (by kernel_rfl) h
  obtain ⟨a0, a1, a2, rfl, h0, h1, h2⟩ := typ41 k
  exact ⟨⟨a0, a1, a2⟩, rfl, h0, h1, h2⟩
theorem seg_of {v : DV} (h : TypD Try.prog 47 v) : ∃ s : Seg, v = sD s ∧ R64 s.a.x ∧ R64 s.a.y ∧ R64 s.b.x ∧ R64 s.b.y := by
  obtain ⟨cs, rfl, k⟩ := TypD.agg (by kernel_rfl) h
  obtain ⟨a0, a1, a2, a3, rfl, h0, h1, h2, h3⟩ := typ47 k
  exact ⟨⟨⟨a0, a1⟩, ⟨a2, a3⟩⟩, rfl, h0, h1, h2, h3⟩
end Sg
end Go.Vm
