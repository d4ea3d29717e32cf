/-
  Layer 26: the search for the shortest row, plainly; contracts of Clone, visit and Best.
-/
import Derived.Test.YtlckiecpelchlaaBarL
import Derived.Test.YtlckiecpelchlaaVmX
namespace Go.Vm
set_option maxRecDepth 20000
set_option linter.unusedVariables false
set_option linter.unusedSimpArgs false
open Go Go.RowKit Go.Proofs

structure Pk where
  i : Nat
  t : Bool
  deriving DecidableEq
abbrev pk0 : Pk := ⟨0, false⟩
abbrev pkI (L : List Pk) (k : Nat) : Int := ((L.getD k pk0).i : Nat)
abbrev pkT (L : List Pk) (k : Nat) : Bool := (L.getD k pk0).t
abbrev pG (L : List Pk) : Nat → Nat → SV := fun i j => match j with
  | 0 => i64 (pkI L i)
  | _ => .v (.bool (pkT L i))
abbrev pS (L : List Pk) : SV := pickS L.length (pkI L) (pkT L)
abbrev bp0 : BP := ⟨⟨#[]⟩, ⟨#[]⟩, 0, 0, 0⟩
def qP (R : Nat → BP) (p : Pk) : BP := bif p.t then turnedP (R p.i) else R p.i
def pR (R : Nat → BP) (L : List Pk) : Nat → BP := pickR R (pkI L) (pkT L)
theorem pR_at (R : Nat → BP) (L : List Pk) (k : Nat) : pR R L k = qP R (L.getD k pk0) := by
  simp only [pR, pickR, qP, Int.toNat_natCast]
def lenL (R : Nat → BP) (kerf : Int) (L : List Pk) : Int := lengthI L.length (pR R L) kerf
def lastP (R : Nat → BP) (L : List Pk) : BP := if L = [] then bp0 else pR R L (L.length - 1)
def endI (R : Nat → BP) (kerf : Int) (L : List Pk) : Int := if L = [] then 0 else w64 (placeI (pR R L) kerf (L.length - 1) + (pR R L (L.length - 1)).len)
def atI (R : Nat → BP) (kerf : Int) (L : List Pk) (q : BP) : Int := if L = [] then maxI 0 q.left else w64 (endI R kerf L + gapI (lastP R L) q kerf)
def hasL (L : List Pk) (i : Nat) : Bool := L.any fun p => p.i == i

theorem lenL_eq (R : Nat → BP) (kerf : Int) (L : List Pk) : lenL R kerf L = w64 (endI R kerf L + maxI 0 (lastP R L).right) := by
  unfold lenL lengthI endI lastP
  cases L with
  | nil => simp [maxI]; decide
  | cons p L => simp [extHi]
theorem placeI_congr {R R' : Nat → BP} (kerf : Int) : ∀ {k : Nat}, (∀ i, i ≤ k → R i = R' i) → placeI R kerf k = placeI R' kerf k
  | 0, h => by simp only [placeI, h 0 (Nat.le_refl _)]
  | k + 1, h => by
    simp only [placeI, h k (by omega), h (k + 1) (by omega)]
    rw [placeI_congr kerf (k := k) fun i hi => h i (by omega)]
theorem pR_app (R : Nat → BP) (L M : List Pk) {k : Nat} (h : k < L.length) : pR R (L ++ M) k = pR R L k := by
  rw [pR_at, pR_at]
  simp [List.getD, List.getElem?_append_left h]
theorem pR_snoc (R : Nat → BP) (L : List Pk) (p : Pk) : pR R (L ++ [p]) L.length = qP R p := by
  rw [pR_at]
  simp [List.getD]
theorem lastP_snoc (R : Nat → BP) (L : List Pk) (p : Pk) : lastP R (L ++ [p]) = qP R p := by
  unfold lastP
  rw [if_neg (by simp), List.length_append, List.length_singleton, Nat.add_sub_cancel, pR_snoc]
theorem endI_snoc (R : Nat → BP) (kerf : Int) (L : List Pk) (p : Pk) : endI R kerf (L ++ [p]) = w64 (atI R kerf L (qP R p) + (qP R p).len) := by
  unfold endI
  rw [if_neg (by simp), List.length_append, List.length_singleton, Nat.add_sub_cancel, pR_snoc]
  cases L with
  | nil => simp [atI, placeI, pR_at, List.getD]
  | cons a L =>
    have h : (a :: L).length = L.length + 1 := rfl
    rw [h]
    simp only [placeI]
    rw [← h, pR_snoc, pR_app R _ _ (by simp : L.length < (a :: L).length), placeI_congr kerf (R' := pR R (a :: L)) fun i hi => pR_app R _ _ (by simp; omega)]
    simp only [atI, endI, lastP, h, if_neg (List.cons_ne_nil a L), Nat.add_sub_cancel]
/-- A list of picks whose indices are good. -/
def PkOk (n : Nat) (L : List Pk) : Prop := ∀ p ∈ L, p.i < n
theorem PkOk.snoc {n : Nat} {L : List Pk} (h : PkOk n L) {p : Pk} (hp : p.i < n) : PkOk n (L ++ [p]) := fun q hq => by
  rcases List.mem_append.1 hq with hq | hq
  · exact h q hq
  · rw [List.mem_singleton.1 hq]; exact hp
theorem PkOk.at {n : Nat} {L : List Pk} (h : PkOk n L) {k : Nat} (hk : k < L.length) : (L.getD k pk0).i < n := by
  have : L.getD k pk0 = L[k] := by simp [List.getD, hk]
  rw [this]
  exact h _ (List.getElem_mem _)
theorem pick_VR {n : Nat} {R : Nat → BP} {kerf : Int} (V : VR n R kerf) {L : List Pk} (h : PkOk n L) (hl : L.length ≤ 40) : VR L.length (pR R L) kerf := by
  refine ⟨hl, V.k0, V.k1, fun i hi => ?_⟩
  rw [pR_at]
  have hv := V.vp _ (h.at hi)
  unfold qP
  cases (L.getD i pk0).t
  · exact hv
  · exact (turned_VP hv).1
theorem lenL_b {n : Nat} {R : Nat → BP} {kerf : Int} (V : VR n R kerf) {L : List Pk} (h : PkOk n L) (hl : L.length ≤ 40) : 0 ≤ lenL R kerf L ∧ lenL R kerf L ≤ 110000 := length_b (pick_VR V h hl)

/-! ### the search -/
section
variable (n : Nat) (R : Nat → BP) (kerf : Int)
def leafF (L : List Pk) : Option (List Pk) → Option (List Pk)
  | none => some L
  | some b => if lenL R kerf L < lenL R kerf b then some L else some b
def visF : Nat → List Pk → Option (List Pk) → Option (List Pk)
  | 0, L, st => leafF R kerf L st
  | k + 1, L, st => (List.range n).foldl (fun st i => if hasL L i = true then st else visF k (L ++ [⟨i, true⟩]) (visF k (L ++ [⟨i, false⟩]) st)) st
def visK (k : Nat) (L : List Pk) (st : Option (List Pk)) (q : Nat) : Option (List Pk) :=
  (List.range q).foldl (fun st i => if hasL L i = true then st else visF n R kerf k (L ++ [⟨i, true⟩]) (visF n R kerf k (L ++ [⟨i, false⟩]) st)) st
theorem visK_succ (k : Nat) (L : List Pk) (st : Option (List Pk)) (q : Nat) : visK n R kerf k L st (q + 1) = if hasL L q = true then visK n R kerf k L st q else visF n R kerf k (L ++ [⟨q, true⟩]) (visF n R kerf k (L ++ [⟨q, false⟩]) (visK n R kerf k L st q)) := by
  simp only [visK, List.range_succ, List.foldl_append, List.foldl_cons, List.foldl_nil]
theorem visF_succ (k : Nat) (L : List Pk) (st : Option (List Pk)) : visF n R kerf (k + 1) L st = visK n R kerf k L st n := rfl
/-- What is kept: a full list of good picks. -/
def StOk (st : Option (List Pk)) : Prop := ∀ b, st = some b → b.length = n ∧ PkOk n b
theorem visF_ok (n : Nat) (R : Nat → BP) (kerf : Int) : ∀ (k : Nat) (L : List Pk) (st : Option (List Pk)), PkOk n L → L.length + k = n → StOk n st → StOk n (visF n R kerf k L st)
  | 0, L, st, h1, h2, h3 => by
    intro b hb
    cases st with
    | none => simp only [visF, leafF, Option.some.injEq] at hb; subst hb; exact ⟨h2, h1⟩
    | some c =>
      simp only [visF, leafF] at hb
      split at hb
      · simp only [Option.some.injEq] at hb; subst hb; exact ⟨h2, h1⟩
      · exact h3 b hb
  | k + 1, L, st, h1, h2, h3 => by
    rw [visF_succ]
    have key : ∀ q, q ≤ n → StOk n (visK n R kerf k L st q) := by
      intro q
      induction q with
      | zero => intro _; exact h3
      | succ q ih =>
        intro hq
        rw [visK_succ]
        split
        · exact ih (by omega)
        · exact visF_ok n R kerf k _ _ (h1.snoc (show q < n by omega)) (by simp; omega) (visF_ok n R kerf k _ _ (h1.snoc (show q < n by omega)) (by simp; omega) (ih (by omega)))
    exact key n (Nat.le_refl _)
theorem visK_ok {k : Nat} {L : List Pk} {st : Option (List Pk)} (h1 : PkOk n L) (h2 : L.length + (k + 1) = n) (h3 : StOk n st) : ∀ q, q ≤ n → StOk n (visK n R kerf k L st q) := by
  intro q
  induction q with
  | zero => intro _; exact h3
  | succ q ih =>
    intro hq
    rw [visK_succ]
    split
    · exact ih (by omega)
    · exact visF_ok n R kerf k _ _ (h1.snoc (show q < n by omega)) (by simp; omega) (visF_ok n R kerf k _ _ (h1.snoc (show q < n by omega)) (by simp; omega) (ih (by omega)))
end

/-! ### Clone -/
theorem pG_nil : pG [] = fun i j => match j with | 0 => i64 (pkI [] i) | _ => .v (.bool (pkT [] i)) := rfl
theorem needApp2 {n B : Nat} (h : n ≤ 1000000) (hB : B ≤ 1000) : n * B ≤ 140737488355328 ∧ n ≤ maxLen := by
  have := Nat.mul_le_mul h hB
  simp only [maxLen]
  omega
theorem clone_detM (m : Nat) (get : Nat → Nat → SV) (hm : m ≤ 100000) : DetM Try.prog 40 [.hdl (.n 2000) 1] [.bld 1 m 2 72 get] (.hdl (.n 3000) 0) [.bld 1 m 2 72 get] (.bld 0 m 2 72 get) := by
  refine detM_of_awp TTok mixed Try.func40 rfl rfl [0] (Nat.le_of_ble_eq_true rfl) (Nat.le_of_ble_eq_true rfl) (sigM_of rfl) ?_
  refine Cut.mk (Adj.id ?_)
  refine NilW.mk ?_ (fun h0 => ?_)
  · refine Need.mk (needApp2 (by omega) (by decide)) ?_
    refine Cut.mk (Adj.id ?_)
    exact EndM.mk ⟨.n 5, .one (.hdl rfl rfl rfl), .cons (.bld (fun _ => rfl) (fun _ _ _ _ => SLe.refl _)) (.nil _), .inr ⟨.bldN (Nat.zero_add _) (fun h => absurd h (by decide)) (fun i hi j hj => SLe.of_eq (by rw [blt_f (Nat.not_lt_zero i)]; rfl)), rfl⟩⟩
  · subst h0
    refine Cut.mk (Adj.nil 2 7 2 72 get rfl rfl (Adj.id ?_))
    exact EndM.mk ⟨.n 7, .one (.hdl rfl rfl rfl), .cons (.bld (fun _ => rfl) (fun _ _ _ _ => SLe.refl _)) (.nil _), .inr ⟨.bld (fun h => absurd h (by decide)) (fun i hi => absurd hi (Nat.not_lt_zero i)), rfl⟩⟩
end Go.Vm
