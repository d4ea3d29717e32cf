/-
  Layer 8: contracts of next, last, area, near, Edges, and the reference's likes.
-/
import Derived.Test.YtgmlblmkcbcgaaaRingA
namespace Go.Vm
set_option maxRecDepth 20000
set_option linter.unusedVariables false
set_option linter.unusedSimpArgs false
open Go Go.RowKit Go.Proofs
namespace Sg

abbrev gt (l : List V2) (i : Nat) : V2 := l.getD i ⟨0, 0⟩
def nxt (l : List V2) (i : Nat) : V2 := gt l ((i + 1) % l.length)
def nx2 (l : List V2) (i : Nat) : V2 := gt l ((i + 2) % l.length)
def lst (l : List V2) (i : Nat) : V2 := gt l ((i + l.length - 1) % l.length)
def areaK (l : List V2) : Nat → Int
  | 0 => 0
  | k + 1 => w64 (areaK l k + crossW (gt l k) (nxt l k))
def areaW (l : List V2) : Int := areaK l l.length
def nearR (l : List V2) : Bool := l.all (withinV · 2000)
def edge (l : List V2) (i : Nat) : Seg := ⟨gt l i, nxt l i⟩
def edgesL (l : List V2) : List Seg := if l.length < 2 then [] else (List.range l.length).map (edge l)
abbrev sGet (l : List Seg) (i : Nat) : Seg := l.getD i ⟨⟨0, 0⟩, ⟨0, 0⟩⟩
/-- A slice of segments, out of a list. -/
abbrev sG (l : List Seg) : Nat → Nat → SV := fun i j => match j with
  | 0 => i64 (sGet l i).a.x
  | 1 => i64 (sGet l i).a.y
  | 2 => i64 (sGet l i).b.x
  | _ => i64 (sGet l i).b.y
abbrev slS (l : List Seg) : SV := .sl l.length 4 (sG l)
theorem sG_eq {l l' : List Seg} {i i' : Nat} (h : sGet l i = sGet l' i') (j : Nat) : sG l i j = sG l' i' j := by
  unfold sG
  rw [h]
theorem hw (n : Int) (h1 : -1000000 ≤ n) (h2 : n ≤ 1000000) : IntKind.i64.wrap n = n := wid (by omega) (by omega)
theorem tmodN (a n : Nat) : ((a : Int).tmod n).toNat = a % n := by
  rw [← Int.ofNat_tmod]; exact Int.toNat_natCast _
theorem tmodB (a n : Nat) (h : 0 < n) : 0 ≤ (a : Int).tmod n ∧ (a : Int).tmod n < n := by
  rw [← Int.ofNat_tmod]
  have := Nat.mod_lt a h
  omega
theorem natw (a b : Nat) (h : a ≤ 100000) (hb : b ≤ 100000) : IntKind.i64.wrap ((a : Int) + b) = ((a + b : Nat) : Int) := by rw [hw _ (by omega) (by omega)]; omega

theorem next_det (l : List V2) (i : Nat) (hi : i < l.length) (hl : l.length ≤ 10000) : Det Try.prog 74 [.one (vlS l), .one (i64 i)] (.d (vD (nxt l i))) := by
  refine det_of_awp TTok mixed Try.func74 rfl rfl [] (Nat.le_of_ble_eq_true rfl) ?_
  have e := natw i 1 (by omega) (by omega)
  have hb := tmodB (i + 1) l.length (by omega)
  refine Need.mk (by omega) ?_
  refine Need.mk (by rw [show (1 : Int) = (1 : Nat) from rfl, e]; exact hb) ?_
  refine Fin.eq ?_
  show TV.d (vD (gt l (Int.toNat ((IntKind.i64.wrap ((i : Int) + (1 : Nat))).tmod l.length)))) = _
  rw [e, tmodN]; rfl
theorem last_det (l : List V2) (i : Nat) (hi : i < l.length) (hl : l.length ≤ 10000) : Det Try.prog 73 [.one (vlS l), .one (i64 i)] (.d (vD (lst l i))) := by
  refine det_of_awp TTok mixed Try.func73 rfl rfl [] (Nat.le_of_ble_eq_true rfl) ?_
  have e : IntKind.i64.wrap (IntKind.i64.wrap ((i : Int) + l.length) - 1) = ((i + l.length - 1 : Nat) : Int) := by
    rw [hw ((i : Int) + l.length) (by omega) (by omega), hw _ (by omega) (by omega)]; omega
  have hb := tmodB (i + l.length - 1) l.length (by omega)
  refine Need.mk (by omega) ?_
  refine Need.mk (by rw [e]; exact hb) ?_
  refine Fin.eq ?_
  show TV.d (vD (gt l (Int.toNat ((IntKind.i64.wrap (IntKind.i64.wrap ((i : Int) + l.length) - 1)).tmod l.length)))) = _
  rw [e, tmodN]; rfl

theorem area_det (l : List V2) (hl : l.length ≤ 10000) : Det Try.prog 71 [.one (vlS l)] (tint (areaW l)) := by
  refine det_of_awp TTok mixed Try.func71 rfl rfl [] (Nat.le_of_ble_eq_true rfl) ?_
  refine Loop.by (α := Nat) (fun k => [(0, .d (.one (vlS l))), (6, .d (.one (vlS l))), (7, tint l.length), (8, tint k), (3, tint (areaK l k))]) (fun _ => []) (fun k => k ≤ l.length) (fun k => l.length - k)
    (Adj.at 0 (Nat.zero_le _) .nil (.cons .same (.cons .same (.cons .same (.cons .same (.cons .same .nil)))))) (fun k hk => ?_)
  refine Split.mk (fun h => ?_) (fun h => ?_)
  · have hlt : k < l.length := by simpa using h
    refine Need.mk (by omega) ?_
    refine CallW.v (next_det l k hlt hl) (fun v hv => ?_)
    refine CallW.int (vcross_det (gt l k) v) (fun c hc => ?_)
    refine Need.mk (by kernel_rfl) ?_
    refine Adj.back (x := k) (k + 1) (by omega) (by omega) .nil (.cons .same (.cons .same (.cons .same (.cons (SlotLe.int ?_) (.cons (SlotLe.int ?_) .nil)))))
    · rw [hw _ (by omega) (by omega)]; omega
    · rw [hc, hv]; rfl
  · have hge : k = l.length := by
      have : ¬ k < l.length := by simpa using h
      omega
    refine Fin.int ?_
    rw [hge]; rfl
theorem signed_det (l : List V2) (hl : l.length ≤ 10000) : Det Try.prog 58 [.one (vlS l)] (tint (areaW l)) := by
  refine det_of_awp TTok mixed Try.func58 rfl rfl [] (Nat.le_of_ble_eq_true rfl) ?_
  refine Loop.by (α := Nat) (fun k => [(0, .d (.one (vlS l))), (4, tint k), (3, tint (areaK l k))]) (fun _ => []) (fun k => k ≤ l.length) (fun k => l.length - k)
    (Adj.at 0 (Nat.zero_le _) .nil (.cons .same (.cons .same (.cons .same .nil)))) (fun k hk => ?_)
  refine Split.mk (fun h => ?_) (fun h => ?_)
  · have hlt : k < l.length := by simpa using h
    have e := natw k 1 (by omega) (by omega)
    have hb := tmodB (k + 1) l.length (by omega)
    refine Need.mk (by omega) ?_
    refine Need.mk (by omega) ?_
    refine Need.mk (by rw [show (1 : Int) = (1 : Nat) from rfl, e]; exact hb) ?_
    refine CallW.int (cross_det (gt l k) (gt l (Int.toNat ((IntKind.i64.wrap ((k : Int) + (1 : Nat))).tmod l.length)))) (fun c hc => ?_)
    refine Need.mk (by kernel_rfl) ?_
    refine Adj.back (x := k) (k + 1) (by omega) (by omega) .nil (.cons .same (.cons (SlotLe.int ?_) (.cons (SlotLe.int ?_) .nil)))
    · rw [hw _ (by omega) (by omega)]; omega
    · rw [hc, e, tmodN]; rfl
  · have hge : k = l.length := by
      have : ¬ k < l.length := by simpa using h
      omega
    refine Fin.int ?_
    rw [hge]; rfl

theorem near_false {l : List V2} {k : Nat} (hk : k < l.length) (h : withinV (gt l k) 2000 = false) : nearR l = false := by
  cases hn : nearR l with
  | false => rfl
  | true =>
    have := List.all_eq_true.1 hn (gt l k) (by simp [gt, List.getD, hk])
    rw [h] at this; cases this
theorem near_true {l : List V2} (h : ∀ i, i < l.length → withinV (gt l i) 2000 = true) : nearR l = true := by
  refine List.all_eq_true.2 (fun v hv => ?_)
  obtain ⟨i, hi⟩ := List.getElem?_of_mem hv
  have hlt := (List.getElem?_eq_some_iff.1 hi).1
  have := h i hlt
  simpa [gt, List.getD, hi] using this
theorem nearlam_det (v : V2) : Det Try.prog 98 [vD v] (tbool (!withinV v 2000)) := by
  refine det_of_awp TTok mixed Try.func98 rfl rfl [] (Nat.le_of_ble_eq_true rfl) ?_
  refine CallW.bool (vwithin_det v 2000) (fun b hb => ?_)
  refine Fin.bool (by rw [hb])
theorem nearidx_det (l : List V2) (hl : l.length ≤ 10000) : Det Try.prog 104 [.one (vlS l), .one (.fn 98 0 fun _ => .v Go.undef)] (tint (if nearR l = true then -1 else ((l.findIdx fun v => !withinV v 2000) : Nat))) := by
  refine det_of_awp TTok mixed Try.func104 rfl rfl [] (Nat.le_of_ble_eq_true rfl) ?_
  refine Loop.by (α := Nat) (fun k => [(0, .d (.one (vlS l))), (1, .d (.one (.fn 98 0 fun _ => .v Go.undef))), (7, tint l.length), (8, tint k)]) (fun _ => []) (fun k => k ≤ l.length ∧ ∀ i, i < k → withinV (gt l i) 2000 = true) (fun k => l.length - k)
    (Adj.at 0 ⟨Nat.zero_le _, fun _ h => absurd h (Nat.not_lt_zero _)⟩ .nil (.cons .same (.cons .same (.cons .same (.cons .same .nil))))) (fun k hk => ?_)
  obtain ⟨hk, hall⟩ := hk
  refine Split.mk (fun h => ?_) (fun h => ?_)
  · have hlt : k < l.length := by simpa using h
    refine Need.mk (by omega) ?_
    refine CallW.bool (nearlam_det (gt l k)) (fun b hb => ?_)
    refine Split.mk (fun h1 => ?_) (fun h1 => ?_)
    · refine Fin.int ?_
      rw [h1] at hb
      have hf : withinV (gt l k) 2000 = false := by simpa using hb.symm
      rw [if_neg (by rw [near_false hlt hf]; simp)]
      have : l.findIdx (fun v => !withinV v 2000) = k := by
        rw [List.findIdx_eq hlt]
        have e : l[k] = gt l k := by simp [gt, List.getD, hlt]
        refine ⟨by rw [e, hf]; rfl, fun j hj => ?_⟩
        have e : l[j] = gt l j := by simp [gt, List.getD, show j < l.length by omega]
        rw [e, hall j hj]; rfl
      rw [this]
    · refine Adj.back (x := k) (k + 1) ⟨by omega, fun i hi => ?_⟩ (by omega) .nil (.cons .same (.cons .same (.cons .same (.cons (SlotLe.int ?_) .nil))))
      · rcases Nat.lt_succ_iff_lt_or_eq.1 hi with hi | rfl
        · exact hall i hi
        · rw [h1] at hb; simpa using hb
      · rw [hw _ (by omega) (by omega)]; omega
  · have hge : k = l.length := by
      have : ¬ k < l.length := by simpa using h
      omega
    subst hge
    refine Fin.int ?_
    rw [if_pos (near_true hall)]
theorem nearcf_det (l : List V2) (hl : l.length ≤ 10000) : Det Try.prog 97 [.one (vlS l), .one (.fn 98 0 fun _ => .v Go.undef)] (tbool (!nearR l)) := by
  refine det_of_awp TTok mixed Try.func97 rfl rfl [] (Nat.le_of_ble_eq_true rfl) ?_
  refine CallW.int (nearidx_det l hl) (fun n hn => ?_)
  refine Fin.bool ?_
  subst hn
  cases nearR l with
  | true => simp
  | false => simp
theorem nearl_det (l : List V2) (hl : l.length ≤ 10000) : Det Try.prog 70 [.one (vlS l)] (tbool (nearR l)) := by
  refine det_of_awp TTok mixed Try.func70 rfl rfl [] (Nat.le_of_ble_eq_true rfl) ?_
  refine CallW.bool (nearcf_det l hl) (fun b hb => ?_)
  refine Fin.bool ?_
  rw [hb]; simp
theorem rwithin_det (l : List V2) (hl : l.length ≤ 10000) : Det Try.prog 56 [.one (vlS l)] (tbool (nearR l)) := by
  refine det_of_awp TTok mixed Try.func56 rfl rfl [] (Nat.le_of_ble_eq_true rfl) ?_
  refine Loop.by (α := Nat) (fun k => [(0, .d (.one (vlS l))), (3, tint k)]) (fun _ => []) (fun k => k ≤ l.length ∧ ∀ i, i < k → withinV (gt l i) 2000 = true) (fun k => l.length - k)
    (Adj.at 0 ⟨Nat.zero_le _, fun _ h => absurd h (Nat.not_lt_zero _)⟩ .nil (.cons .same (.cons .same .nil))) (fun k hk => ?_)
  obtain ⟨hk, hall⟩ := hk
  refine Split.mk (fun h => ?_) (fun h => ?_)
  · have hlt : k < l.length := by simpa using h
    refine Need.mk (by omega) ?_
    refine CallW.bool (within_det (gt l k) 2000) (fun b hb => ?_)
    refine Split.mk (fun h1 => ?_) (fun h1 => ?_)
    · refine Fin.bool ?_
      have hb0 : b = false := by simpa using h1
      rw [near_false hlt (by rw [← hb, hb0])]
    · refine Adj.back (x := k) (k + 1) ⟨by omega, fun i hi => ?_⟩ (by omega) .nil (.cons .same (.cons (SlotLe.int ?_) .nil))
      · rcases Nat.lt_succ_iff_lt_or_eq.1 hi with hi | rfl
        · exact hall i hi
        · have hb0 : b = true := by simpa using h1
          rw [← hb, hb0]
      · rw [hw _ (by omega) (by omega)]; omega
  · have hge : k = l.length := by
      have : ¬ k < l.length := by simpa using h
      omega
    subst hge
    refine Fin.bool ?_
    rw [near_true hall]
end Sg
end Go.Vm
