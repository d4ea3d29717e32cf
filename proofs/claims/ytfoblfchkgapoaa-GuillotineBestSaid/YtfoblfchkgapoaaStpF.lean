/-
  Layer 37: contracts of the functions that build a tree.
  Layer 37: contracts of column, strip and sheet.
-/
import Derived.Test.YtfoblfchkgapoaaStpD
namespace Go.Vm
set_option maxRecDepth 20000
set_option linter.unusedVariables false
set_option linter.unusedSimpArgs false
open Go Go.RowKit Go.Proofs
namespace St

structure Nd where
  v : Bool
  a : Int
  f : Int
  s : Int
  k : Int
  deriving DecidableEq
abbrev ndL (n : Nd) : List SV := [.v (.bool n.v), i64 n.a, i64 n.f, i64 n.s, i64 n.k]
abbrev nd0 : Nd := ⟨false, 0, 0, 0, 0⟩
abbrev ndS (l : List Nd) : SV := .sl l.length 5 (lG ndL nd0 l)
abbrev ndget (l : List Nd) (i : Nat) : Nd := l.getD i nd0
abbrev leafN (k : Int) : Nd := ⟨false, 0, -1, -1, k⟩
def cutT (v : Bool) (at' : Int) (A B : Nat → List Nd) (base : Nat) : List Nd :=
  ⟨v, at', (base + 1 : Nat), (base + 1 + (A (base + 1)).length : Nat), -1⟩ :: (A (base + 1) ++ B (base + 1 + (A (base + 1)).length))
abbrev ccL (c : List Int) : List SV := [iS c]
abbrev ccS (l : List (List Int)) : SV := .sl l.length 1 (lG ccL [] l)
abbrev mkM (ks : List Knd) (kerf : Int) (g : Nat) (L : List Nd) : List Mem := [.obj [.hdl (.n 2001) g, .s (kS ks), .s (i64 kerf)], .bld g L.length 5 96 (lG ndL nd0 L)]
theorem set_mid (L : List Nd) (n n' : Nd) (A : List Nd) : (L ++ n :: A).set L.length n' = L ++ n' :: A := by simp
theorem get_mid (L : List Nd) (n : Nd) (A : List Nd) : (L ++ n :: A).getD L.length nd0 = n := by rw [getD_app_r _ _ _ _ (Nat.le_refl _), Nat.sub_self]; rfl
theorem mfitN' {m : Id → Mem} {os : List Id} {d : Id} {g n n' k : Nat} {e : TypeId} {get get' : Nat → Nat → SV} (hn : n = n') (h : ∀ i, i < n → ∀ j, j < k → SLe (get i j) (get' i j)) : MFit m os d (.bld g n k e get) (.bld 1 n' k e get') := by
  subst hn; exact .bld h
variable (ks : List Knd) (kerf : Int)
end St
end Go.Vm
namespace Go.Vm
set_option maxRecDepth 20000
set_option linter.unusedVariables false
set_option linter.unusedSimpArgs false
open Go Go.RowKit Go.Proofs
namespace St

def colT (ks : List Knd) (kind h : Int) (base : Nat) : List Nd := if (kget ks kind.toNat).h = h then [leafN kind] else cutT false (kget ks kind.toNat).h (fun _ => [leafN kind]) (fun _ => [leafN (-1)]) base
def stripT (ks : List Knd) (kerf : Int) : List Int → Int → Int → Nat → List Nd
  | [], _, _, _ => [leafN (-1)]
  | k :: r, w, h, base => if (kget ks k.toNat).w = w then colT ks k h base else cutT true (kget ks k.toNat).w (fun b => colT ks k h b) (fun b => stripT ks kerf r (w - (kget ks k.toNat).w - kerf) h b) base
def sheetT (ks : List Knd) (kerf : Int) : List (Int × List Int) → Int → Int → Nat → List Nd
  | [], _, _, _ => [leafN (-1)]
  | p :: r, w, h, base => if p.1 = h then stripT ks kerf p.2 w h base else cutT false p.1 (fun b => stripT ks kerf p.2 w p.1 b) (fun b => sheetT ks kerf r w (h - p.1 - kerf) b) base
structure KsOk (ks : List Knd) (kerf : Int) : Prop where
  ok : ∀ k ∈ ks, KOk k
  len : ks.length ≤ 1000
  k0 : 0 ≤ kerf
  k1 : kerf ≤ 50
section
variable (ks : List Knd) (kerf : Int)
abbrev stR (cols : List Int) (w k h : Int) : List Mem := [.obj [.ptr (.n 2000) 0], .box [iS cols], .box [i64 w], .box [i64 k], .box [i64 h]]
/-! ### sheet -/
abbrev hsP (ps : List (Int × List Int)) : List Int := ps.map Prod.fst
abbrev csP (ps : List (Int × List Int)) : List (List Int) := ps.map Prod.snd
abbrev shR (ps : List (Int × List Int)) (w h : Int) : List Mem := [.obj [.ptr (.n 2000) 0], .box [iS (hsP ps)], .box [ccS (csP ps)], .box [i64 w], .box [i64 h]]
structure ColsOk (ks : List Knd) (w : Int) (p : Int × List Int) : Prop where
  c : ∀ c ∈ p.2, 0 ≤ c ∧ c < ks.length
  l : -900000000 + 3000 * p.2.length ≤ w
  h0 : 0 ≤ p.1
  h1 : p.1 ≤ 2000
end
end St
end Go.Vm
