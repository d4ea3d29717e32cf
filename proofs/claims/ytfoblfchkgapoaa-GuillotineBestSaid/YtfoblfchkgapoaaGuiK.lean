/-
  Layer 38: contracts of both Bound.
  Layer 38: contract of Normal.
-/
import Derived.Test.YtfoblfchkgapoaaGuiI
namespace Go.Vm
set_option maxRecDepth 20000
set_option linter.unusedVariables false
set_option linter.unusedSimpArgs false
open Go Go.RowKit Go.Proofs
namespace St

def bterm (w h kerf : Int) (k : Knd) : Int := (w + kerf) * (h + kerf) * k.v / ((k.w + kerf) * (k.h + kerf))
def bndF (ks : List Knd) (w h kerf : Int) : Nat → Int
  | 0 => 0
  | n + 1 => if (kget ks n).w ≤ w ∧ (kget ks n).h ≤ h then (if bterm w h kerf (kget ks n) > bndF ks w h kerf n then bterm w h kerf (kget ks n) else bndF ks w h kerf n) else bndF ks w h kerf n
def bndR (ks : List Knd) (w h kerf : Int) : Int × Int := if probB ks w h kerf = false then (0, 1) else (bndF ks w h kerf ks.length, 0)
theorem bterm_w {w h kerf : Int} {k : Knd} (hw0 : 1 ≤ w) (hw1 : w ≤ 2000) (hh0 : 1 ≤ h) (hh1 : h ≤ 2000) (hk0 : 0 ≤ kerf) (hk1 : kerf ≤ 50) (o : KOk k) :
    IntKind.i64.wrap ((IntKind.i64.wrap (IntKind.i64.wrap (IntKind.i64.wrap (w + kerf) * IntKind.i64.wrap (h + kerf)) * k.v)).tdiv (IntKind.i64.wrap (IntKind.i64.wrap (k.w + kerf) * IntKind.i64.wrap (k.h + kerf)))) = bterm w h kerf k ∧
    IntKind.i64.wrap ((IntKind.i64.wrap (k.v * IntKind.i64.wrap (IntKind.i64.wrap (w + kerf) * IntKind.i64.wrap (h + kerf)))).tdiv (IntKind.i64.wrap (IntKind.i64.wrap (k.w + kerf) * IntKind.i64.wrap (k.h + kerf)))) = bterm w h kerf k ∧
    IntKind.i64.wrap (IntKind.i64.wrap (k.w + kerf) * IntKind.i64.wrap (k.h + kerf)) ≠ 0 := by
  have a0 := o.w0; have a1 := o.w1; have b0 := o.h0; have b1 := o.h1; have v0 := o.v0; have v1 := o.v1
  have c5 : (w + kerf) * (h + kerf) ≤ 2050 * 2050 := Int.mul_le_mul (by omega) (by omega) (by omega) (by decide)
  have c6 : 0 ≤ (w + kerf) * (h + kerf) := Int.mul_nonneg (by omega) (by omega)
  have d5 : (k.w + kerf) * (k.h + kerf) ≤ 2050 * 2050 := Int.mul_le_mul (by omega) (by omega) (by omega) (by decide)
  have d6 : 1 * 1 ≤ (k.w + kerf) * (k.h + kerf) := Int.mul_le_mul (by omega) (by omega) (by decide) (by omega)
  have e5 : (w + kerf) * (h + kerf) * k.v ≤ 2050 * 2050 * 1000000 := Int.mul_le_mul c5 v1 v0 (by decide)
  have e6 : 0 ≤ (w + kerf) * (h + kerf) * k.v := Int.mul_nonneg c6 v0
  rw [hw (w + kerf) (by omega) (by omega), hw (h + kerf) (by omega) (by omega), hw (k.w + kerf) (by omega) (by omega), hw (k.h + kerf) (by omega) (by omega), hw ((w + kerf) * (h + kerf)) (by omega) (by omega), hw ((k.w + kerf) * (k.h + kerf)) (by omega) (by omega), Int.mul_comm k.v, wid (n := (w + kerf) * (h + kerf) * k.v) (by omega) (by omega)]
  have q := quo_w e6 (by omega) (show 0 < (k.w + kerf) * (k.h + kerf) by omega)
  exact ⟨q, q, by omega⟩
theorem bound_det (ks : List Knd) (w h kerf : Int) (hl : ks.length ≤ maxLen) : Det Try.prog 37 [.one (kS ks), .one (i64 w), .one (i64 h), .one (i64 kerf)] (twoI (bndR ks w h kerf)) := by
  refine det_of_awp TTok mixed Try.func37 rfl rfl [] (Nat.le_of_ble_eq_true rfl) ?_
  refine CallW.bool (gproblem_det ks w h kerf hl) (fun b hb => ?_)
  refine Split.mk (fun h1 => ?_) (fun h1 => ?_)
  · have : probB ks w h kerf = false := by rw [← hb]; simpa using h1
    rw [bndR, if_pos this]
    exact Fin.rfl'
  have hp : probB ks w h kerf = true := by rw [← hb]; simpa using h1
  have p := prob_iff.1 hp
  have hlen := p.len
  rw [bndR, if_neg (by rw [hp]; simp)]
  refine Loop.by (α := Nat) (fun k => [(1, tint w), (2, tint h), (3, tint kerf), (10, tint (bndF ks w h kerf k)), (19, .d (.one (kS ks))), (20, tint ks.length), (21, tint k)]) (fun _ => []) (fun k => k ≤ ks.length) (fun k => ks.length - k)
    (Adj.at 0 (Nat.zero_le _) .nil (.cons .same (.cons .same (.cons .same (.cons .same (.cons .same (.cons .same (.cons .same .nil)))))))) (fun k hk => ?_)
  refine Split.mk (fun hc => ?_) (fun hc => ?_)
  · have hlt : k < ks.length := by have := of_decide_eq_true hc; omega
    have es : bndF ks w h kerf (k + 1) = if (kget ks k).w ≤ w ∧ (kget ks k).h ≤ h then (if bterm w h kerf (kget ks k) > bndF ks w h kerf k then bterm w h kerf (kget ks k) else bndF ks w h kerf k) else bndF ks w h kerf k := rfl
    obtain ⟨e1, e2, e3⟩ := bterm_w p.w0 p.w1 p.h0 p.h1 p.k0 p.k1 (p.at' hlt)
    refine Need.mk (by omega) ?_
    show Split (decide ((kget ks k).w ≤ w)) _
    refine Split.mk (fun c1 => ?_) (fun c1 => ?_)
    · repeat' first | refine Split.isT c1 ?_ | refine Split.t ?_ | refine Split.f ?_ | fail
      show Split (decide ((kget ks k).h ≤ h)) _
      refine Split.mk (fun c2 => ?_) (fun c2 => ?_)
      · refine Need.mk e3 ?_
        refine Adj.back (x := k) (k + 1) (by omega) (by omega) .nil (.cons .same (.cons .same (.cons .same (.cons (SlotLe.int ?_) (.cons .same (.cons .same (.cons (SlotLe.int (hS k (by omega))) .nil)))))))
        rw [es, if_pos (show (kget ks k).w ≤ w ∧ (kget ks k).h ≤ h from ⟨of_decide_eq_true c1, of_decide_eq_true c2⟩), ← e1]
        rfl
      · exact Adj.back (x := k) (k + 1) (by omega) (by omega) .nil (.cons .same (.cons .same (.cons .same (.cons (SlotLe.int (by rw [es, if_neg (fun q => of_decide_eq_false c2 q.2)])) (.cons .same (.cons .same (.cons (SlotLe.int (hS k (by omega))) .nil)))))))
    · repeat' first | refine Split.isF c1 ?_ | refine Split.t ?_ | refine Split.f ?_ | fail
      exact Adj.back (x := k) (k + 1) (by omega) (by omega) .nil (.cons .same (.cons .same (.cons .same (.cons (SlotLe.int (by rw [es, if_neg (fun q => of_decide_eq_false c1 q.1)])) (.cons .same (.cons .same (.cons (SlotLe.int (hS k (by omega))) .nil)))))))
  · have he : k = ks.length := by have := of_decide_eq_false hc; omega
    subst he
    exact Fin.rfl'
theorem rbound_det (ks : List Knd) (w h kerf : Int) (hl : ks.length ≤ 100000000) : Det Try.prog 38 [.one (kS ks), .one (i64 w), .one (i64 h), .one (i64 kerf)] (twoI (bndR ks w h kerf)) := by
  refine det_of_awp TTok mixed Try.func38 rfl rfl [] (Nat.le_of_ble_eq_true rfl) ?_
  refine CallW.bool (rproblem_det ks w h kerf hl) (fun b hb => ?_)
  refine Split.mk (fun h1 => ?_) (fun h1 => ?_)
  · have : probB ks w h kerf = false := by rw [← hb]; simpa using h1
    rw [bndR, if_pos this]
    exact Fin.rfl'
  have hp : probB ks w h kerf = true := by rw [← hb]; simpa using h1
  have p := prob_iff.1 hp
  have hlen := p.len
  rw [bndR, if_neg (by rw [hp]; simp)]
  refine Loop.by (α := Nat) (fun k => [(0, .d (.one (kS ks))), (1, tint w), (2, tint h), (3, tint kerf), (10, tint (bndF ks w h kerf k)), (11, tint k)]) (fun _ => []) (fun k => k ≤ ks.length) (fun k => ks.length - k)
    (Adj.at 0 (Nat.zero_le _) .nil (.cons .same (.cons .same (.cons .same (.cons .same (.cons .same (.cons .same .nil))))))) (fun k hk => ?_)
  refine Split.mk (fun hc => ?_) (fun hc => ?_)
  · have hlt : k < ks.length := by have := of_decide_eq_true hc; omega
    have es : bndF ks w h kerf (k + 1) = if (kget ks k).w ≤ w ∧ (kget ks k).h ≤ h then (if bterm w h kerf (kget ks k) > bndF ks w h kerf k then bterm w h kerf (kget ks k) else bndF ks w h kerf k) else bndF ks w h kerf k := rfl
    obtain ⟨e1, e2, e3⟩ := bterm_w p.w0 p.w1 p.h0 p.h1 p.k0 p.k1 (p.at' hlt)
    refine Need.mk (by omega) ?_
    show Split (decide ((kget ks k).w ≤ w)) _
    refine Split.mk (fun c1 => ?_) (fun c1 => ?_)
    · repeat' first | refine Split.isT c1 ?_ | refine Split.t ?_ | refine Split.f ?_ | fail
      show Split (decide ((kget ks k).h ≤ h)) _
      refine Split.mk (fun c2 => ?_) (fun c2 => ?_)
      · refine Need.mk e3 ?_
        refine Adj.back (x := k) (k + 1) (by omega) (by omega) .nil (.cons .same (.cons .same (.cons .same (.cons .same (.cons (SlotLe.int ?_) (.cons (SlotLe.int (hS k (by omega))) .nil))))))
        rw [es, if_pos (show (kget ks k).w ≤ w ∧ (kget ks k).h ≤ h from ⟨of_decide_eq_true c1, of_decide_eq_true c2⟩), ← e2]
        rfl
      · exact Adj.back (x := k) (k + 1) (by omega) (by omega) .nil (.cons .same (.cons .same (.cons .same (.cons .same (.cons (SlotLe.int (by rw [es, if_neg (fun q => of_decide_eq_false c2 q.2)])) (.cons (SlotLe.int (hS k (by omega))) .nil))))))
    · repeat' first | refine Split.isF c1 ?_ | refine Split.t ?_ | refine Split.f ?_ | fail
      exact Adj.back (x := k) (k + 1) (by omega) (by omega) .nil (.cons .same (.cons .same (.cons .same (.cons .same (.cons (SlotLe.int (by rw [es, if_neg (fun q => of_decide_eq_false c1 q.1)])) (.cons (SlotLe.int (hS k (by omega))) .nil))))))
  · have he : k = ks.length := by have := of_decide_eq_false hc; omega
    subst he
    exact Fin.rfl'
end St
end Go.Vm
namespace Go.Vm
set_option maxRecDepth 20000
set_option linter.unusedVariables false
set_option linter.unusedSimpArgs false
open Go Go.RowKit Go.Proofs
namespace St

def wrongS (n : Int) : Bool := decide (n < 1) || decide (n > 2000)
theorem wrongS_det (n : Int) : Det Try.prog 65 [.one (i64 n)] (tbool (wrongS n)) := by
  refine det_of_awp TTok mixed Try.func65 rfl rfl [] (Nat.le_of_ble_eq_true rfl) ?_
  refine Split.mk (fun c1 => ?_) (fun c1 => ?_)
  · repeat' first | refine Split.isT c1 ?_ | refine Split.t ?_ | refine Split.f ?_ | fail
    refine Fin.bool ?_
    rw [wrongS, c1]; rfl
  · repeat' first | refine Split.isF c1 ?_ | refine Split.t ?_ | refine Split.f ?_ | fail
    refine Fin.bool ?_
    rw [wrongS, c1]; rfl
def ixS : List Int → Nat → Int
  | [], _ => -1
  | k :: r, i => if wrongS k = true then i else ixS r (i + 1)
theorem ixS_drop (l : List Int) (k : Nat) (hk : k < l.length) : ixS (l.drop k) k = if wrongS (iget l k) = true then (k : Int) else ixS (l.drop (k + 1)) (k + 1) := by
  rw [List.drop_eq_getElem_cons hk, ixS]
  simp [iget, List.getD, hk]
theorem ixS_any (l : List Int) : ∀ i, decide (ixS l i ≥ 0) = l.any wrongS := by
  induction l with
  | nil => intro i; rfl
  | cons k r ih =>
    intro i
    rw [ixS, List.any_cons]
    split
    · rename_i h; rw [h, Bool.true_or]; exact decide_eq_true (by omega)
    · rename_i h; rw [ih]; simp at h; rw [h, Bool.false_or]
theorem indexS_det (l : List Int) (hl : l.length ≤ 100000000) (cap : Nat → SV) : Det Try.prog 93 [.one (iS l), .one (.fn 65 0 cap)] (tint (ixS l 0)) := by
  refine det_of_awp TTok mixed Try.func93 rfl rfl [] (Nat.le_of_ble_eq_true rfl) ?_
  refine Loop.by (α := Nat) (fun k => [(0, .d (.one (iS l))), (1, .d (.one (.fn 65 0 cap))), (7, tint l.length), (8, tint k)]) (fun _ => []) (fun k => k ≤ l.length ∧ ixS l 0 = ixS (l.drop k) k) (fun k => l.length - k)
    (Adj.at 0 ⟨Nat.zero_le _, by rw [List.drop_zero]⟩ .nil (.cons .same (.cons .same (.cons .same (.cons .same .nil))))) (fun k hk => ?_)
  obtain ⟨hk, hx⟩ := hk
  refine Split.mk (fun h => ?_) (fun h => ?_)
  · have hlt : k < l.length := by have := of_decide_eq_true h; omega
    have hd := ixS_drop l k hlt
    refine Need.mk (by omega) ?_
    refine CallW.bool (wrongS_det (iget l k)) (fun b hb => ?_)
    refine Split.mk (fun g => ?_) (fun g => ?_)
    · refine Fin.int ?_
      rw [hx, hd, if_pos (by rw [← hb, g])]
    · refine Adj.back (x := k) (k + 1) ⟨by omega, by rw [hx, hd, if_neg (by rw [← hb, g]; simp)]⟩ (by omega) .nil (.cons .same (.cons .same (.cons .same (.cons (SlotLe.int (hS k (by omega))) .nil))))
  · have he : k = l.length := by have := of_decide_eq_false h; omega
    refine Fin.int ?_
    rw [hx, he, List.drop_length]
    rfl
theorem containsS_det (l : List Int) (hl : l.length ≤ 100000000) (cap : Nat → SV) : Det Try.prog 66 [.one (iS l), .one (.fn 65 0 cap)] (tbool (l.any wrongS)) := by
  refine det_of_awp TTok mixed Try.func66 rfl rfl [] (Nat.le_of_ble_eq_true rfl) ?_
  refine CallW.int (indexS_det l hl cap) (fun n hn => ?_)
  refine Fin.bool ?_
  rw [hn, ixS_any]
/-! ### reached -/
def rchS (kerf : Int) (l : List Bool) (c : Int) (s : Int) : Bool := decide (s + kerf ≤ c) && l.getD (c - s - kerf).toNat false
def rchL (sizes : List Int) (kerf : Int) : Nat → List Bool
  | 0 => [true]
  | c + 1 => rchL sizes kerf c ++ [sizes.any (rchS kerf (rchL sizes kerf c) ((c + 1 : Nat) : Int))]
def rchO (sizes : List Int) (kerf : Int) : Nat → List Int
  | 0 => [0]
  | c + 1 => if sizes.any (rchS kerf (rchL sizes kerf c) ((c + 1 : Nat) : Int)) = true then rchO sizes kerf c ++ [((c + 1 : Nat) : Int) - kerf] else rchO sizes kerf c
theorem rchL_len (sizes : List Int) (kerf : Int) : ∀ c, (rchL sizes kerf c).length = c + 1
  | 0 => rfl
  | c + 1 => by rw [rchL, List.length_append, rchL_len sizes kerf c]; rfl
theorem rchO_len (sizes : List Int) (kerf : Int) : ∀ c, (rchO sizes kerf c).length ≤ c + 1
  | 0 => Nat.le_refl _
  | c + 1 => by
    have := rchO_len sizes kerf c
    rw [rchO]
    split
    · rw [List.length_append, List.length_singleton]; omega
    · omega
abbrev bL (b : Bool) : List SV := [.v (.bool b)]
def rchA (sizes : List Int) (kerf : Int) (S c i : Nat) : List Bool := rchL sizes kerf c ++ ((sizes.take i).any (rchS kerf (rchL sizes kerf c) ((c + 1 : Nat) : Int)) :: List.replicate (S - (c + 1)) false)
theorem rchA_len (sizes : List Int) (kerf : Int) {S c : Nat} (i : Nat) (h : c + 1 ≤ S) : (rchA sizes kerf S c i).length = S + 1 := by
  rw [rchA, List.length_append, rchL_len, List.length_cons, List.length_replicate]; omega
theorem rchA_at (sizes : List Int) (kerf : Int) (S c i : Nat) : (rchA sizes kerf S c i).getD (c + 1) false = (sizes.take i).any (rchS kerf (rchL sizes kerf c) ((c + 1 : Nat) : Int)) := by
  have := rchL_len sizes kerf c
  rw [rchA, getD_app_r _ _ _ _ (by omega), this, Nat.sub_self]; rfl
theorem rchA_low (sizes : List Int) (kerf : Int) (S c i j : Nat) (h : j ≤ c) : (rchA sizes kerf S c i).getD j false = (rchL sizes kerf c).getD j false := by
  have := rchL_len sizes kerf c
  rw [rchA, getD_app_l _ _ _ _ (by omega)]
theorem rchA_set (sizes : List Int) (kerf : Int) (S c i : Nat) (v : Bool) (hv : v = (sizes.take (i + 1)).any (rchS kerf (rchL sizes kerf c) ((c + 1 : Nat) : Int))) : (rchA sizes kerf S c i).set (c + 1) v = rchA sizes kerf S c (i + 1) := by
  have := rchL_len sizes kerf c
  subst hv
  rw [rchA, rchA, List.set_append_right _ _ (by omega), this, Nat.sub_self]; rfl
theorem rchA_zero (sizes : List Int) (kerf : Int) (S c : Nat) (h : c + 1 ≤ S) : rchA sizes kerf S c 0 = rchL sizes kerf c ++ List.replicate (S - c) false := by
  rw [rchA, show S - c = S - (c + 1) + 1 by omega]; rfl
theorem rchA_all (sizes : List Int) (kerf : Int) (S c : Nat) : rchA sizes kerf S c sizes.length = rchL sizes kerf (c + 1) ++ List.replicate (S - (c + 1)) false := by
  rw [rchA, List.take_length, rchL, List.append_assoc]; rfl
theorem any_take_succ {α : Type} (f : α → Bool) (l : List α) (d : α) (i : Nat) (h : i < l.length) : (l.take (i + 1)).any f = ((l.take i).any f || f (l.getD i d)) := by
  rw [List.take_succ_eq_append_getElem h, List.any_append]
  simp [List.getD, h]
def nrmBad (sizes : List Int) (side kerf : Int) : Bool := decide (sizes.length > 20) || (sizes.any wrongS || (wrongS side || (decide (kerf < 0) || decide (kerf > 50))))
def nrmR (sizes : List Int) (side kerf : Int) : List Int × Int := if nrmBad sizes side kerf = true then ([], 1) else (rchO sizes kerf (side + kerf).toNat, 0)
abbrev nrmE (x : List Int × Int) : TV := .tup [.one (iS x.1), .one (i64 x.2)]
theorem normal_det (sizes : List Int) (side kerf : Int) (hl : sizes.length ≤ maxLen) : Det Try.prog 31 [.one (iS sizes), .one (i64 side), .one (i64 kerf)] (nrmE (nrmR sizes side kerf)) := by
  refine det_of_awp TTok mixed Try.func31 rfl rfl [42 + 6000000] (Nat.le_of_ble_eq_true rfl) ?_
  have bad : nrmBad sizes side kerf = true → Fin (.tup [.one (.v (.slice none 0 0)), .one (i64 1)]) (nrmE (nrmR sizes side kerf)) := fun e => by
    rw [nrmR, if_pos e]
    exact Fin.tup (.cons (DLe.one (SLe.nil _ _)) (.cons (DLe.refl _) .nil))
  refine Split.mk (fun c1 => ?_) (fun c1 => ?_)
  · repeat' first | refine Split.isT c1 ?_ | refine Split.t ?_ | refine Split.f ?_ | fail
    exact bad (by rw [nrmBad, decide_eq_true (by have := of_decide_eq_true c1; omega)]; rfl)
  have hl20 : ¬ sizes.length > 20 := by have := of_decide_eq_false c1; omega
  repeat' first | refine Split.isF c1 ?_ | refine Split.t ?_ | refine Split.f ?_ | fail
  refine CallW.bool (containsS_det sizes (by omega) _) (fun b1 e1 => ?_)
  repeat' first | refine Split.isF c1 ?_ | refine Split.t ?_ | refine Split.f ?_ | fail
  refine Split.mk (fun c2 => ?_) (fun c2 => ?_)
  · repeat' first | refine Split.isT c2 ?_ | refine Split.t ?_ | refine Split.f ?_ | fail
    exact bad (by rw [nrmBad, ← e1, c2, Bool.true_or, Bool.or_true])
  repeat' first | refine Split.isF c2 ?_ | refine Split.t ?_ | refine Split.f ?_ | fail
  refine CallW.bool (wrongS_det side) (fun b2 e2 => ?_)
  repeat' first | refine Split.isF c2 ?_ | refine Split.t ?_ | refine Split.f ?_ | fail
  refine Split.mk (fun c3 => ?_) (fun c3 => ?_)
  · repeat' first | refine Split.isT c3 ?_ | refine Split.t ?_ | refine Split.f ?_ | fail
    exact bad (by rw [nrmBad, ← e2, c3, Bool.true_or, Bool.or_true, Bool.or_true])
  repeat' first | refine Split.isF c3 ?_ | refine Split.t ?_ | refine Split.f ?_ | fail
  refine Split.mk (fun c4 => ?_) (fun c4 => ?_)
  · repeat' first | refine Split.isT c4 ?_ | refine Split.t ?_ | refine Split.f ?_ | fail
    exact bad (by rw [nrmBad, c4, Bool.true_or, Bool.or_true, Bool.or_true, Bool.or_true])
  repeat' first | refine Split.isF c4 ?_ | refine Split.t ?_ | refine Split.f ?_ | fail
  refine Split.mk (fun c5 => ?_) (fun c5 => ?_)
  · exact bad (by rw [nrmBad, c5, Bool.or_true, Bool.or_true, Bool.or_true, Bool.or_true])
  have hok : nrmBad sizes side kerf = false := by rw [nrmBad, ← e1, ← e2, c2, c3, c4, c5, decide_eq_false hl20]; rfl
  have hsz : ∀ i, i < sizes.length → 1 ≤ iget sizes i ∧ iget sizes i ≤ 2000 := fun i hi => by
    have hm : iget sizes i ∈ sizes := by unfold iget; rw [List.getD, List.getElem?_eq_getElem hi]; exact List.getElem_mem hi
    have : wrongS (iget sizes i) = false := by
      cases hq : wrongS (iget sizes i) with
      | false => rfl
      | true => rw [e1, List.any_eq_true.2 ⟨_, hm, hq⟩] at c2; cases c2
    simp only [wrongS, Bool.or_eq_false_iff, decide_eq_false_iff_not] at this
    omega
  have hsd : 1 ≤ side ∧ side ≤ 2000 := by
    have : wrongS side = false := by rw [← e2, c3]
    simp only [wrongS, Bool.or_eq_false_iff, decide_eq_false_iff_not] at this
    omega
  have k0 : ¬ kerf < 0 := of_decide_eq_false c4
  have k1 : ¬ kerf > 50 := of_decide_eq_false c5
  rw [nrmR, if_neg (by rw [hok]; simp)]
  clear hok bad e1 e2 c1 c2 c3 c4 c5
  obtain ⟨S, hS'⟩ : ∃ S : Nat, side + kerf = S := ⟨(side + kerf).toNat, by omega⟩
  have eS : IntKind.i64.wrap (side + kerf) = S := by rw [hw _ (by omega) (by omega), hS']
  have eN : IntKind.i64.wrap (IntKind.i64.wrap (side + kerf) + 1) = ((S + 1 : Nat) : Int) := by rw [eS]; exact hS S (by omega)
  rw [hS', Int.toNat_natCast]
  refine Need.mk (by rw [eN]; exact ⟨by omega, by omega, (show (1 : Int) * ((S + 1 : Nat) : Int) ≤ 281474976710656 by omega), by omega⟩) ?_
  refine Need.mk (by rw [eN]; omega) ?_
  refine Loop.by (α := Nat) (fun c => [(0, .d (.one (iS sizes))), (1, tint side), (2, tint kerf), (9, .hdl 39 0), (10, .hdl 42 0), (11, tint ((c + 1 : Nat) : Int))])
    (fun c => [(39, .bld 0 (S + 1) 1 4 (lG bL false (rchL sizes kerf c ++ List.replicate (S - c) false))), (42, .bld 0 (rchO sizes kerf c).length 1 3 (lG iL 0 (rchO sizes kerf c)))]) (fun c => c ≤ S) (fun c => S - c)
    (Adj.at 0 (Nat.zero_le _) (.cons (.bldN (by rw [eN, Int.toNat_natCast]) (fun i hi j hj => ?_)) (.cons (.bldN rfl (fun i hi j hj => ?_)) .nil))
      (.cons .same (.cons .same (.cons .same (.cons (.hdl rfl rfl) (.cons (.hdl rfl rfl) (.cons .same .nil))))))) (fun c hc => ?_)
  · have hj : j < 1 := hj
    obtain rfl : j = 0 := by omega
    rw [eN, Int.toNat_natCast] at hi
    refine SLe.of_eq ?_
    show (bif (Nat.beq i 0 && true) && true then SV.v (.bool true) else SV.v (.bool false)) = SV.v (.bool ((true :: List.replicate (S - 0) false).getD i false))
    cases i with
    | zero => rfl
    | succ i =>
      have : (true :: List.replicate (S - 0) false).getD (i + 1) false = false := by
        simp [List.getD, List.getElem?_replicate]
        split <;> rfl
      rw [this]; rfl
  · have hi : i < 1 := hi
    have hj : j < 1 := hj
    obtain rfl : i = 0 := by omega
    obtain rfl : j = 0 := by omega
    exact SLe.refl _
  have hol := rchO_len sizes kerf c
  have hll := rchL_len sizes kerf c
  refine Split.mk (fun d1 => ?_) (fun d1 => ?_)
  · have hcS : c + 1 ≤ S := by have : ((c + 1 : Nat) : Int) ≤ IntKind.i64.wrap (side + kerf) := of_decide_eq_true d1; omega
    refine Loop.by (α := Nat) (fun i => [(0, .d (.one (iS sizes))), (1, tint side), (2, tint kerf), (9, .hdl 39 0), (10, .hdl 42 0), (11, tint ((c + 1 : Nat) : Int)), (50, .d (.one (iS sizes))), (51, tint sizes.length), (52, tint i)])
      (fun i => [(39, .bld 0 (S + 1) 1 4 (lG bL false (rchA sizes kerf S c i))), (42, .bld 0 (rchO sizes kerf c).length 1 3 (lG iL 0 (rchO sizes kerf c)))]) (fun i => i ≤ sizes.length) (fun i => sizes.length - i)
      (Adj.at 0 (Nat.zero_le _) (.cons (.bld (fun i hi j hj => SLe.of_eq (by rw [rchA_zero _ _ _ _ hcS]))) (.cons (.bld (fun _ _ _ _ => SLe.refl _)) .nil))
        (.cons .same (.cons .same (.cons .same (.cons (.hdl rfl rfl) (.cons (.hdl rfl rfl) (.cons .same (.cons .same (.cons .same (.cons .same .nil)))))))))) (fun i hi => ?_)
    have hal := rchA_len sizes kerf i hcS
    refine Split.mk (fun d2 => ?_) (fun d2 => ?_)
    · have hil : i < sizes.length := by have := of_decide_eq_true d2; omega
      obtain ⟨s0, s1⟩ := hsz i hil
      have hnx := any_take_succ (rchS kerf (rchL sizes kerf c) ((c + 1 : Nat) : Int)) sizes 0 i hil
      have hat := rchA_at sizes kerf S c i
      have back : ∀ v : Bool, v = (sizes.take (i + 1)).any (rchS kerf (rchL sizes kerf c) ((c + 1 : Nat) : Int)) → ∀ a, a < S + 1 → ∀ b, b < 1 → SLe (bif Nat.beq a (c + 1) && Nat.ble 0 b && Nat.blt b (0 + 1) then [SV.v (.bool v)].getD (b - 0) (.v Go.undef) else lG bL false (rchA sizes kerf S c i) a b) (lG bL false (rchA sizes kerf S c (i + 1)) a b) := fun v hv a ha b hb => by
        rw [← rchA_set sizes kerf S c i v hv]
        exact lG_set bL false _ v (c + 1) a b 1 _ rfl (by omega) hb
      refine Need.mk (by omega) ?_
      refine Need.mk (by omega) ?_
      show Split ((rchA sizes kerf S c i).getD (c + 1) false) _
      refine Split.mk (fun f1 => ?_) (fun f1 => ?_)
      · repeat' first | refine Split.isT f1 ?_ | refine Split.t ?_ | refine Split.f ?_ | fail
        refine Need.mk (by omega) ?_
        exact Adj.back (x := i) (i + 1) (by omega) (by omega) (.cons (.bld (back true (by rw [hnx, ← hat, f1]; rfl))) (.cons (.bld (fun _ _ _ _ => SLe.refl _)) .nil))
          (.cons .same (.cons .same (.cons .same (.cons (.hdl rfl rfl) (.cons (.hdl rfl rfl) (.cons .same (.cons .same (.cons .same (.cons (SlotLe.int (hS i (by omega))) .nil)))))))))
      repeat' first | refine Split.isF f1 ?_ | refine Split.t ?_ | refine Split.f ?_ | fail
      rw [← hat, f1, Bool.false_or] at hnx
      have e1 : IntKind.i64.wrap (iget sizes i + kerf) = iget sizes i + kerf := hw _ (by omega) (by omega)
      have e2 : IntKind.i64.wrap (IntKind.i64.wrap (((c + 1 : Nat) : Int) - iget sizes i) - kerf) = ((c + 1 : Nat) : Int) - iget sizes i - kerf := by rw [hw (((c + 1 : Nat) : Int) - iget sizes i) (by omega) (by omega), hw _ (by omega) (by omega)]
      have hr : rchS kerf (rchL sizes kerf c) ((c + 1 : Nat) : Int) (sizes.getD i 0) = (decide (iget sizes i + kerf ≤ ((c + 1 : Nat) : Int)) && (rchL sizes kerf c).getD (((c + 1 : Nat) : Int) - iget sizes i - kerf).toNat false) := rfl
      rw [hr] at hnx
      show Split (decide (IntKind.i64.wrap (iget sizes i + kerf) ≤ ((c + 1 : Nat) : Int))) _
      rw [e1]
      refine Split.mk (fun f2 => ?_) (fun f2 => ?_)
      · have f2' := of_decide_eq_true f2
        repeat' first | refine Split.isT f2 ?_ | refine Split.t ?_ | refine Split.f ?_ | fail
        refine Need.mk (by show 0 ≤ IntKind.i64.wrap (IntKind.i64.wrap (((c + 1 : Nat) : Int) - iget sizes i) - kerf) ∧ IntKind.i64.wrap (IntKind.i64.wrap (((c + 1 : Nat) : Int) - iget sizes i) - kerf) < ((S + 1 : Nat) : Int); rw [e2]; omega) ?_
        repeat' first | refine Split.isT f2 ?_ | refine Split.isF f1 ?_ | refine Split.t ?_ | refine Split.f ?_ | fail
        refine Need.mk (by omega) ?_
        exact Adj.back (x := i) (i + 1) (by omega) (by omega) (.cons (.bld (back ((rchA sizes kerf S c i).getD (IntKind.i64.wrap (IntKind.i64.wrap (((c + 1 : Nat) : Int) - iget sizes i) - kerf)).toNat false) (by rw [hnx, f2, Bool.true_and, ← e2, rchA_low sizes kerf S c i _ (by rw [e2]; omega)]))) (.cons (.bld (fun _ _ _ _ => SLe.refl _)) .nil))
          (.cons .same (.cons .same (.cons .same (.cons (.hdl rfl rfl) (.cons (.hdl rfl rfl) (.cons .same (.cons .same (.cons .same (.cons (SlotLe.int (hS i (by omega))) .nil)))))))))
      · repeat' first | refine Split.isF f2 ?_ | refine Split.isF f1 ?_ | refine Split.t ?_ | refine Split.f ?_ | fail
        refine Need.mk (by omega) ?_
        exact Adj.back (x := i) (i + 1) (by omega) (by omega) (.cons (.bld (back false (by rw [hnx, f2]; rfl))) (.cons (.bld (fun _ _ _ _ => SLe.refl _)) .nil))
          (.cons .same (.cons .same (.cons .same (.cons (.hdl rfl rfl) (.cons (.hdl rfl rfl) (.cons .same (.cons .same (.cons .same (.cons (SlotLe.int (hS i (by omega))) .nil)))))))))
    have he : i = sizes.length := by have := of_decide_eq_false d2; omega
    subst he
    have hat := rchA_at sizes kerf S c sizes.length
    rw [List.take_length] at hat
    have hall := rchA_all sizes kerf S c
    have ho : rchO sizes kerf (c + 1) = if sizes.any (rchS kerf (rchL sizes kerf c) ((c + 1 : Nat) : Int)) = true then rchO sizes kerf c ++ [((c + 1 : Nat) : Int) - kerf] else rchO sizes kerf c := rfl
    rw [← hat] at ho
    refine Need.mk (by omega) ?_
    show Split ((rchA sizes kerf S c sizes.length).getD (c + 1) false) _
    refine Split.mk (fun f1 => ?_) (fun f1 => ?_)
    · rw [if_pos f1] at ho
      have e1 : IntKind.i64.wrap (((c + 1 : Nat) : Int) - kerf) = ((c + 1 : Nat) : Int) - kerf := hw _ (by omega) (by omega)
      refine Need.mk (needApp (n := (rchO sizes kerf c).length + 1) (by omega) (by decide)) ?_
      refine Adj.back (x := c) (c + 1) (by omega) (by omega) (.cons (.bld (fun i hi j hj => SLe.of_eq (by rw [hall]))) (.cons (.bldN (by rw [ho, List.length_append]; rfl) (fun i hi j hj => ?_)) .nil))
        (.cons .same (.cons .same (.cons .same (.cons (.hdl rfl rfl) (.cons (.hdl rfl rfl) (.cons (SlotLe.int (hS (c + 1) (by omega))) .nil))))))
      rw [ho]
      exact lG_snoc iL 0 _ (((c + 1 : Nat) : Int) - kerf) 1 _ i j [i64 (IntKind.i64.wrap (((c + 1 : Nat) : Int) - kerf))] (by rw [e1]) rfl hi hj
    · rw [if_neg (by rw [f1]; simp)] at ho
      exact Adj.back (x := c) (c + 1) (by omega) (by omega) (.cons (.bld (fun i hi j hj => SLe.of_eq (by rw [hall]))) (.cons (.bldN (by rw [ho]) (fun i hi j hj => SLe.of_eq (by rw [ho]))) .nil))
        (.cons .same (.cons .same (.cons .same (.cons (.hdl rfl rfl) (.cons (.hdl rfl rfl) (.cons (SlotLe.int (hS (c + 1) (by omega))) .nil))))))
  have he : c = S := by have : ¬ ((c + 1 : Nat) : Int) ≤ IntKind.i64.wrap (side + kerf) := of_decide_eq_false d1; omega
  subst he
  exact Fin.tup (.cons (DLe.refl _) (.cons (DLe.refl _) .nil))
end St
end Go.Vm
