/-
  Layer 37, plain: what the leaves of a tree add up to; the contract of StripArea.
-/
import Derived.Test.YtfoblfchkgapoaaStpM
namespace Go.Vm
set_option maxRecDepth 20000
set_option linter.unusedVariables false
set_option linter.unusedSimpArgs false
open Go Go.RowKit Go.Proofs
namespace St

def sumI : Nat → (Nat → Int) → Int
  | 0, _ => 0
  | n + 1, g => sumI n g + g n
theorem rect_at {t : List Nd} {w h kerf : Int} (hr : rectB t w h kerf = true) {i : Nat} (hi : i < t.length) : posB (rcget (rT t w h kerf i) i) (ndget t i) = true := allN_iff.1 hr i hi
def areaR (r : Rc) : Int := r.w * r.h
def vvI (t : List Nd) (ks : List Knd) (i : Nat) : Int := if leafP (ndget t i) = true ∧ inB (ndget t i).k 0 (ks.length - 1) = true then (kget ks (ndget t i).k.toNat).v else 0
theorem valS_eq {t : List Nd} {ks : List Knd} (hks : ∀ k ∈ ks, 0 ≤ k.v ∧ k.v ≤ 1000000) : ∀ k, k ≤ 1000000 → valS t ks k = sumI k (vvI t ks) ∧ 0 ≤ valS t ks k ∧ valS t ks k ≤ k * 1000000
  | 0, _ => ⟨rfl, Int.le_refl _, Int.le_refl _⟩
  | k + 1, hk => by
    obtain ⟨e, a, b⟩ := valS_eq (t := t) hks k (by omega)
    have ev : vvI t ks k = if leafP (ndget t k) = true ∧ inB (ndget t k).k 0 (ks.length - 1) = true then (kget ks (ndget t k).k.toNat).v else 0 := rfl
    rw [valS, sumI, ev]
    split
    · rename_i h
      have hin := inB_iff.1 h.2
      have hm : kget ks (ndget t k).k.toNat ∈ ks := kget_mem (by omega)
      obtain ⟨v0, v1⟩ := hks _ hm
      rw [wid' (by omega) (by omega), e]
      exact ⟨rfl, by omega, by omega⟩
    · rw [e]
      exact ⟨by omega, by omega, by omega⟩
/-! ### Own, StripArea -/
theorem CallW.nds {P : Program} {f : FuncId} {args : List DV} {K : TV → Prop} {a : List Nd} (h : Det P f args (.d (.one (ndS a)))) (kk : K (.d (.one (ndS a)))) : CallW P f args K := ⟨_, h, kk⟩
def areaK (l : List Knd) : List Knd := l.map fun k => ⟨k.w, k.h, k.w * k.h⟩
end St
end Go.Vm
