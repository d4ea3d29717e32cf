/-
  Layer 8: contracts of the library's functions on slices of vectors.
  Layer 8: contracts of next, last, area, near, Edges, and the reference's likes.
-/
import Derived.Test.YtgmlblmkcbcgaaaSegN
namespace Go.Vm
set_option maxRecDepth 20000
set_option linter.unusedVariables false
set_option linter.unusedSimpArgs false
open Go Go.RowKit Go.Proofs
namespace Sg

/-- One element is written. -/
theorem SLe.put {i q j n : Nat} {x y z : SV} (hj : j < n) (h1 : i = q → SLe x z) (h2 : i ≠ q → SLe y z) : SLe (bif Nat.beq i q && Nat.ble 0 j && Nat.blt j (0 + n) then x else y) z := by
  by_cases e : i = q
  · have : (Nat.beq i q && Nat.ble 0 j && Nat.blt j (0 + n)) = true := by
      rw [e, Nat.beq_refl, ble_t (Nat.zero_le j), blt_t (by omega)]; rfl
    rw [this]; exact h1 e
  · rw [beq_f e]; exact h2 e
theorem SLe.vget {v : V2} {l : List V2} {p j : Nat} (hj : j < 2) (h : v = l.getD p ⟨0, 0⟩) : SLe ([i64 v.x, i64 v.y].getD (j - 0) (.v Go.undef)) (vG l p j) := by
  subst h
  match j, hj with
  | 0, _ => exact SLe.refl _
  | 1, _ => exact SLe.refl _

/-! ### Reverse -/
/-- The list with k pairs exchanged. -/
def revL (l : List V2) (k : Nat) : List V2 := (List.range l.length).map fun p => if p < k ∨ l.length - k ≤ p then l.getD (l.length - 1 - p) ⟨0, 0⟩ else l.getD p ⟨0, 0⟩
theorem revL_at (l : List V2) (k p : Nat) (h : p < l.length) : (revL l k).getD p ⟨0, 0⟩ = if p < k ∨ l.length - k ≤ p then l.getD (l.length - 1 - p) ⟨0, 0⟩ else l.getD p ⟨0, 0⟩ := by
  simp [revL, List.getD, h]
theorem getD_reverse (l : List V2) (p : Nat) (h : p < l.length) : l.reverse.getD p ⟨0, 0⟩ = l.getD (l.length - 1 - p) ⟨0, 0⟩ := by
  have h2 : l.length - 1 - p < l.length := by omega
  simp [List.getD, List.getElem?_reverse h]
theorem reverse_detM (l : List V2) (hl : l.length ≤ 100000) : DetM Try.prog 50 [.hdl (.n 2000) 1] [.bld 1 l.length 2 32 (vG l)] (.tup []) [.bld 1 l.length 2 32 (vG l.reverse)] .none := by
  refine detM_of_awp TTok mixed Try.func50 rfl rfl [] (Nat.le_of_ble_eq_true rfl) (Nat.le_of_ble_eq_true rfl) (sigM_of rfl) ?_
  have hw : ∀ n : Int, -10 ≤ n → n ≤ 100010 → IntKind.i64.wrap n = n := fun n h1 h2 => wid (by omega) (by omega)
  refine Loop.by (α := Nat) (fun k => [(0, .hdl (.n 2000) 1), (2, tint (k : Int)), (3, tint ((l.length : Int) - 1 - k))]) (fun k => [(.n 2000, .bld 1 l.length 2 32 (vG (revL l k)))]) (fun k => 2 * k ≤ l.length) (fun k => l.length - 2 * k)
    (Adj.at 0 (by omega) (.cons (.bld (fun i hi j hj => SLe.of_eq (vG_eq ?_ j))) .nil) (.cons (.hdl rfl rfl) (.cons .same (.cons (SlotLe.int ?_) .nil)))) (fun k hk => ?_)
  · rw [revL_at _ _ _ hi, if_neg (by omega)]
  · rw [hw _ (by omega) (by omega)]; omega
  refine Split.mk (fun h => ?_) (fun h => ?_)
  · have hlt : (k : Int) < (l.length : Int) - 1 - k := by simpa using h
    refine Need.mk (by omega) ?_
    refine Need.mk (by omega) ?_
    refine Need.mk (by omega) ?_
    refine Need.mk (by omega) ?_
    refine Need.mk (by kernel_rfl) ?_
    refine Adj.back (x := k) (k + 1) (by omega) (by omega) (.cons (.bld (fun i hi j hj => ?_)) .nil) (.cons (.hdl rfl rfl) (.cons (SlotLe.int ?_) (.cons (SlotLe.int ?_) .nil)))
    · have e1 : ((l.length : Int) - 1 - k).toNat = l.length - 1 - k := by omega
      have e2 : ((k : Int)).toNat = k := by omega
      refine SLe.put (by exact hj) (fun e => SLe.vget hj ?_) (fun e => SLe.put (by exact hj) (fun e' => SLe.vget hj ?_) (fun e' => SLe.of_eq (vG_eq ?_ j)))
      · rw [e1] at e
        rw [e, e2, revL_at _ _ _ (by omega), revL_at _ _ _ (by omega), if_neg (by omega), if_pos (by omega)]
        congr 1; omega
      · rw [e2] at e'
        rw [e', e1, revL_at _ _ _ (by omega), revL_at _ _ _ (by omega), if_neg (by omega), if_pos (by omega)]
      · rw [e1] at e
        rw [e2] at e'
        rw [revL_at _ _ _ hi, revL_at _ _ _ hi]
        by_cases hc : i < k ∨ l.length - k ≤ i
        · rw [if_pos hc, if_pos (by omega)]
        · rw [if_neg hc, if_neg (by omega)]
    · rw [hw _ (by omega) (by omega)]; omega
    · rw [hw _ (by omega) (by omega)]; omega
  · have hge : ¬ (k : Int) < (l.length : Int) - 1 - k := by simpa using h
    refine EndM.mk ⟨.n 0, .none, .cons (.bld (fun h => h) (fun i hi j hj => SLe.of_eq (vG_eq ?_ j))) (.nil _), .inl rfl⟩
    rw [revL_at _ _ _ hi, getD_reverse _ _ hi]
    by_cases hc : i < k ∨ l.length - k ≤ i
    · rw [if_pos hc]
    · rw [if_neg hc]
      congr 1; omega

/-! ### Clone -/
theorem clone_detM (l : List V2) (hl : l.length ≤ 100000) : DetM Try.prog 76 [.d (.one (vlS l))] [] (.hdl (.n 3000) 0) [] (.bld 0 l.length 2 32 (vG l)) := by
  refine detM_of_awp TTok mixed Try.func76 rfl rfl [0] (Nat.le_of_ble_eq_true rfl) (Nat.le_of_ble_eq_true rfl) (sigM_of rfl) ?_
  refine Cut.id ?_
  refine NilW.mk ?_ (fun h0 => ?_)
  · refine Need.mk (needApp (by omega) (by decide)) ?_
    refine Cut.id ?_
    exact EndM.mk ⟨.n 5, .one (.hdl rfl rfl rfl), .nil _, .inr ⟨.bldN (Nat.zero_add _) (fun h => absurd h (by decide)) (fun i hi j hj => SLe.of_eq (by rw [blt_f (Nat.not_lt_zero i)]; rfl)), rfl⟩⟩
  · obtain rfl : l = [] := List.eq_nil_of_length_eq_zero h0
    refine Cut.mk (Adj.nil 2 7 2 32 (vG []) rfl rfl (Adj.id ?_))
    exact EndM.mk ⟨.n 7, .one (.hdl rfl rfl rfl), .nil _, .inr ⟨.bld (fun h => absurd h (by decide)) (fun i hi => absurd hi (Nat.not_lt_zero i)), rfl⟩⟩

theorem cloneR_detM (l : List V2) (hl : l.length ≤ 100000) : DetM Try.prog 90 [.d (.one (vlS l))] [] (.hdl (.n 3000) 0) [] (.bld 0 l.length 2 32 (vG l)) := by
  refine detM_of_awp TTok mixed Try.func90 rfl rfl [0] (Nat.le_of_ble_eq_true rfl) (Nat.le_of_ble_eq_true rfl) (sigM_of rfl) ?_
  refine Cut.id ?_
  refine NilW.mk ?_ (fun h0 => ?_)
  · refine Need.mk (needApp (by omega) (by decide)) ?_
    refine Cut.id ?_
    exact EndM.mk ⟨.n 5, .one (.hdl rfl rfl rfl), .nil _, .inr ⟨.bldN (Nat.zero_add _) (fun h => absurd h (by decide)) (fun i hi j hj => SLe.of_eq (by rw [blt_f (Nat.not_lt_zero i)]; rfl)), rfl⟩⟩
  · obtain rfl : l = [] := List.eq_nil_of_length_eq_zero h0
    refine Cut.mk (Adj.nil 2 7 2 32 (vG []) rfl rfl (Adj.id ?_))
    exact EndM.mk ⟨.n 7, .one (.hdl rfl rfl rfl), .nil _, .inr ⟨.bld (fun h => absurd h (by decide)) (fun i hi => absurd hi (Nat.not_lt_zero i)), rfl⟩⟩

/-! ### Delete -/
theorem delete_detM (l : List V2) (q : Nat) (hq : q < l.length) (hl : l.length ≤ 100000) : DetM Try.prog 78 [.hdl (.n 2000) 1, tint q, tint ((q : Int) + 1)] [.bld 1 l.length 2 32 (vG l)] (.hdl (.n 2000) 5) [.bld 5 (l.length - 1) 2 32 (vG (l.eraseIdx q))] .none := by
  refine detM_of_awp TTok mixed Try.func78 rfl rfl [0] (Nat.le_of_ble_eq_true rfl) (Nat.le_of_ble_eq_true rfl) (sigM_of rfl) ?_
  refine Need.mk (by omega) ?_
  refine Cut.id ?_
  refine Split.isF (by simp; omega) ?_
  refine Need.mk (by omega) ?_
  refine EitherW.l ?_
  refine Need.mk (by omega) ?_
  refine EitherW.l ?_
  refine Need.mk (by omega) ?_
  refine Need.mk (by kernel_rfl) ?_
  refine Need.mk (by omega) ?_
  refine EitherW.l ?_
  refine Cut.mk (Adj.trunc 6 2000 _ _ _ 2 32 _ rfl rfl (Adj.id ?_))
  refine EndM.mk ⟨.n 0, .one (.hdl rfl rfl rfl), .cons (.bldN ?_ (fun h => absurd h (by decide)) (fun i hi j hj => ?_)) (.nil _), .inl rfl⟩
  · omega
  · have e2 : ((q : Int) + 1).toNat = q + 1 := by omega
    simp only [Int.toNat_natCast, e2, Nat.sub_zero, Nat.zero_add] at hi ⊢
    rw [ble_f (show ¬ q + (l.length - (q + 1)) ≤ i by omega), Bool.false_and, cond_false]
    refine SLe.of_eq ?_
    by_cases h : i < q
    · rw [blt_t h, cond_true]
      exact vG_eq (by simp [List.getD, List.getElem?_eraseIdx, h]) j
    · rw [blt_f h, cond_false, blt_t hi, cond_true]
      refine vG_eq ?_ j
      simp only [List.getD, List.getElem?_eraseIdx, h, if_false]
      rw [show q + 1 + (i - q) = i + 1 by omega]
end Sg
end Go.Vm
namespace Go.Vm
set_option maxRecDepth 20000
set_option linter.unusedVariables false
set_option linter.unusedSimpArgs false
open Go Go.RowKit Go.Proofs
namespace Sg

abbrev gt (l : List V2) (i : Nat) : V2 := l.getD i ⟨0, 0⟩
def nxt (l : List V2) (i : Nat) : V2 := gt l ((i + 1) % l.length)
def nx2 (l : List V2) (i : Nat) : V2 := gt l ((i + 2) % l.length)
def lst (l : List V2) (i : Nat) : V2 := gt l ((i + l.length - 1) % l.length)
def areaK (l : List V2) : Nat → Int
  | 0 => 0
  | k + 1 => w64 (areaK l k + crossW (gt l k) (nxt l k))
def areaW (l : List V2) : Int := areaK l l.length
def nearR (l : List V2) : Bool := l.all (withinV · 2000)
def edge (l : List V2) (i : Nat) : Seg := ⟨gt l i, nxt l i⟩
def edgesL (l : List V2) : List Seg := if l.length < 2 then [] else (List.range l.length).map (edge l)
abbrev sGet (l : List Seg) (i : Nat) : Seg := l.getD i ⟨⟨0, 0⟩, ⟨0, 0⟩⟩
/-- A slice of segments, out of a list. -/
abbrev sG (l : List Seg) : Nat → Nat → SV := fun i j => match j with
  | 0 => i64 (sGet l i).a.x
  | 1 => i64 (sGet l i).a.y
  | 2 => i64 (sGet l i).b.x
  | _ => i64 (sGet l i).b.y
abbrev slS (l : List Seg) : SV := .sl l.length 4 (sG l)
theorem sG_eq {l l' : List Seg} {i i' : Nat} (h : sGet l i = sGet l' i') (j : Nat) : sG l i j = sG l' i' j := by
  unfold sG
  rw [h]
theorem hw (n : Int) (h1 : -1000000 ≤ n) (h2 : n ≤ 1000000) : IntKind.i64.wrap n = n := wid (by omega) (by omega)
theorem tmodN (a n : Nat) : ((a : Int).tmod n).toNat = a % n := by
  rw [← Int.ofNat_tmod]; exact Int.toNat_natCast _
theorem tmodB (a n : Nat) (h : 0 < n) : 0 ≤ (a : Int).tmod n ∧ (a : Int).tmod n < n := by
  rw [← Int.ofNat_tmod]
  have := Nat.mod_lt a h
  omega
theorem natw (a b : Nat) (h : a ≤ 100000) (hb : b ≤ 100000) : IntKind.i64.wrap ((a : Int) + b) = ((a + b : Nat) : Int) := by rw [hw _ (by omega) (by omega)]; omega

theorem next_det (l : List V2) (i : Nat) (hi : i < l.length) (hl : l.length ≤ 40000) : Det Try.prog 74 [.one (vlS l), .one (i64 i)] (.d (vD (nxt l i))) := by
  refine det_of_awp TTok mixed Try.func74 rfl rfl [] (Nat.le_of_ble_eq_true rfl) ?_
  have e := natw i 1 (by omega) (by omega)
  have hb := tmodB (i + 1) l.length (by omega)
  refine Need.mk (by omega) ?_
  refine Need.mk (by rw [show (1 : Int) = (1 : Nat) from rfl, e]; exact hb) ?_
  refine Fin.eq ?_
  show TV.d (vD (gt l (Int.toNat ((IntKind.i64.wrap ((i : Int) + (1 : Nat))).tmod l.length)))) = _
  rw [e, tmodN]; rfl
theorem last_det (l : List V2) (i : Nat) (hi : i < l.length) (hl : l.length ≤ 40000) : Det Try.prog 73 [.one (vlS l), .one (i64 i)] (.d (vD (lst l i))) := by
  refine det_of_awp TTok mixed Try.func73 rfl rfl [] (Nat.le_of_ble_eq_true rfl) ?_
  have e : IntKind.i64.wrap (IntKind.i64.wrap ((i : Int) + l.length) - 1) = ((i + l.length - 1 : Nat) : Int) := by
    rw [hw ((i : Int) + l.length) (by omega) (by omega), hw _ (by omega) (by omega)]; omega
  have hb := tmodB (i + l.length - 1) l.length (by omega)
  refine Need.mk (by omega) ?_
  refine Need.mk (by rw [e]; exact hb) ?_
  refine Fin.eq ?_
  show TV.d (vD (gt l (Int.toNat ((IntKind.i64.wrap (IntKind.i64.wrap ((i : Int) + l.length) - 1)).tmod l.length)))) = _
  rw [e, tmodN]; rfl

theorem area_det (l : List V2) (hl : l.length ≤ 40000) : Det Try.prog 71 [.one (vlS l)] (tint (areaW l)) := by
  refine det_of_awp TTok mixed Try.func71 rfl rfl [] (Nat.le_of_ble_eq_true rfl) ?_
  refine Loop.by (α := Nat) (fun k => [(0, .d (.one (vlS l))), (6, .d (.one (vlS l))), (7, tint l.length), (8, tint k), (3, tint (areaK l k))]) (fun _ => []) (fun k => k ≤ l.length) (fun k => l.length - k)
    (Adj.at 0 (Nat.zero_le _) .nil (.cons .same (.cons .same (.cons .same (.cons .same (.cons .same .nil)))))) (fun k hk => ?_)
  refine Split.mk (fun h => ?_) (fun h => ?_)
  · have hlt : k < l.length := by simpa using h
    refine Need.mk (by omega) ?_
    refine CallW.v (next_det l k hlt hl) (fun v hv => ?_)
    refine CallW.int (vcross_det (gt l k) v) (fun c hc => ?_)
    refine Need.mk (by kernel_rfl) ?_
    refine Adj.back (x := k) (k + 1) (by omega) (by omega) .nil (.cons .same (.cons .same (.cons .same (.cons (SlotLe.int ?_) (.cons (SlotLe.int ?_) .nil)))))
    · rw [hw _ (by omega) (by omega)]; omega
    · rw [hc, hv]; rfl
  · have hge : k = l.length := by
      have : ¬ k < l.length := by simpa using h
      omega
    refine Fin.int ?_
    rw [hge]; rfl
theorem signed_det (l : List V2) (hl : l.length ≤ 40000) : Det Try.prog 58 [.one (vlS l)] (tint (areaW l)) := by
  refine det_of_awp TTok mixed Try.func58 rfl rfl [] (Nat.le_of_ble_eq_true rfl) ?_
  refine Loop.by (α := Nat) (fun k => [(0, .d (.one (vlS l))), (4, tint k), (3, tint (areaK l k))]) (fun _ => []) (fun k => k ≤ l.length) (fun k => l.length - k)
    (Adj.at 0 (Nat.zero_le _) .nil (.cons .same (.cons .same (.cons .same .nil)))) (fun k hk => ?_)
  refine Split.mk (fun h => ?_) (fun h => ?_)
  · have hlt : k < l.length := by simpa using h
    have e := natw k 1 (by omega) (by omega)
    have hb := tmodB (k + 1) l.length (by omega)
    refine Need.mk (by omega) ?_
    refine Need.mk (by omega) ?_
    refine Need.mk (by rw [show (1 : Int) = (1 : Nat) from rfl, e]; exact hb) ?_
    refine CallW.int (cross_det (gt l k) (gt l (Int.toNat ((IntKind.i64.wrap ((k : Int) + (1 : Nat))).tmod l.length)))) (fun c hc => ?_)
    refine Need.mk (by kernel_rfl) ?_
    refine Adj.back (x := k) (k + 1) (by omega) (by omega) .nil (.cons .same (.cons (SlotLe.int ?_) (.cons (SlotLe.int ?_) .nil)))
    · rw [hw _ (by omega) (by omega)]; omega
    · rw [hc, e, tmodN]; rfl
  · have hge : k = l.length := by
      have : ¬ k < l.length := by simpa using h
      omega
    refine Fin.int ?_
    rw [hge]; rfl

theorem near_false {l : List V2} {k : Nat} (hk : k < l.length) (h : withinV (gt l k) 2000 = false) : nearR l = false := by
  cases hn : nearR l with
  | false => rfl
  | true =>
    have := List.all_eq_true.1 hn (gt l k) (by simp [gt, List.getD, hk])
    rw [h] at this; cases this
theorem near_true {l : List V2} (h : ∀ i, i < l.length → withinV (gt l i) 2000 = true) : nearR l = true := by
  refine List.all_eq_true.2 (fun v hv => ?_)
  obtain ⟨i, hi⟩ := List.getElem?_of_mem hv
  have hlt := (List.getElem?_eq_some_iff.1 hi).1
  have := h i hlt
  simpa [gt, List.getD, hi] using this
theorem nearlam_det (v : V2) : Det Try.prog 98 [vD v] (tbool (!withinV v 2000)) := by
  refine det_of_awp TTok mixed Try.func98 rfl rfl [] (Nat.le_of_ble_eq_true rfl) ?_
  refine CallW.bool (vwithin_det v 2000) (fun b hb => ?_)
  refine Fin.bool (by rw [hb])
theorem nearidx_det (l : List V2) (hl : l.length ≤ 40000) : Det Try.prog 104 [.one (vlS l), .one (.fn 98 0 fun _ => .v Go.undef)] (tint (if nearR l = true then -1 else ((l.findIdx fun v => !withinV v 2000) : Nat))) := by
  refine det_of_awp TTok mixed Try.func104 rfl rfl [] (Nat.le_of_ble_eq_true rfl) ?_
  refine Loop.by (α := Nat) (fun k => [(0, .d (.one (vlS l))), (1, .d (.one (.fn 98 0 fun _ => .v Go.undef))), (7, tint l.length), (8, tint k)]) (fun _ => []) (fun k => k ≤ l.length ∧ ∀ i, i < k → withinV (gt l i) 2000 = true) (fun k => l.length - k)
    (Adj.at 0 ⟨Nat.zero_le _, fun _ h => absurd h (Nat.not_lt_zero _)⟩ .nil (.cons .same (.cons .same (.cons .same (.cons .same .nil))))) (fun k hk => ?_)
  obtain ⟨hk, hall⟩ := hk
  refine Split.mk (fun h => ?_) (fun h => ?_)
  · have hlt : k < l.length := by simpa using h
    refine Need.mk (by omega) ?_
    refine CallW.bool (nearlam_det (gt l k)) (fun b hb => ?_)
    refine Split.mk (fun h1 => ?_) (fun h1 => ?_)
    · refine Fin.int ?_
      rw [h1] at hb
      have hf : withinV (gt l k) 2000 = false := by simpa using hb.symm
      rw [if_neg (by rw [near_false hlt hf]; simp)]
      have : l.findIdx (fun v => !withinV v 2000) = k := by
        rw [List.findIdx_eq hlt]
        have e : l[k] = gt l k := by simp [gt, List.getD, hlt]
        refine ⟨by rw [e, hf]; rfl, fun j hj => ?_⟩
        have e : l[j] = gt l j := by simp [gt, List.getD, show j < l.length by omega]
        rw [e, hall j hj]; rfl
      rw [this]
    · refine Adj.back (x := k) (k + 1) ⟨by omega, fun i hi => ?_⟩ (by omega) .nil (.cons .same (.cons .same (.cons .same (.cons (SlotLe.int ?_) .nil))))
      · rcases Nat.lt_succ_iff_lt_or_eq.1 hi with hi | rfl
        · exact hall i hi
        · rw [h1] at hb; simpa using hb
      · rw [hw _ (by omega) (by omega)]; omega
  · have hge : k = l.length := by
      have : ¬ k < l.length := by simpa using h
      omega
    subst hge
    refine Fin.int ?_
    rw [if_pos (near_true hall)]
theorem nearcf_det (l : List V2) (hl : l.length ≤ 40000) : Det Try.prog 97 [.one (vlS l), .one (.fn 98 0 fun _ => .v Go.undef)] (tbool (!nearR l)) := by
  refine det_of_awp TTok mixed Try.func97 rfl rfl [] (Nat.le_of_ble_eq_true rfl) ?_
  refine CallW.int (nearidx_det l hl) (fun n hn => ?_)
  refine Fin.bool ?_
  subst hn
  cases nearR l with
  | true => simp
  | false => simp
theorem nearl_det (l : List V2) (hl : l.length ≤ 40000) : Det Try.prog 70 [.one (vlS l)] (tbool (nearR l)) := by
  refine det_of_awp TTok mixed Try.func70 rfl rfl [] (Nat.le_of_ble_eq_true rfl) ?_
  refine CallW.bool (nearcf_det l hl) (fun b hb => ?_)
  refine Fin.bool ?_
  rw [hb]; simp
theorem rwithin_det (l : List V2) (hl : l.length ≤ 40000) : Det Try.prog 56 [.one (vlS l)] (tbool (nearR l)) := by
  refine det_of_awp TTok mixed Try.func56 rfl rfl [] (Nat.le_of_ble_eq_true rfl) ?_
  refine Loop.by (α := Nat) (fun k => [(0, .d (.one (vlS l))), (3, tint k)]) (fun _ => []) (fun k => k ≤ l.length ∧ ∀ i, i < k → withinV (gt l i) 2000 = true) (fun k => l.length - k)
    (Adj.at 0 ⟨Nat.zero_le _, fun _ h => absurd h (Nat.not_lt_zero _)⟩ .nil (.cons .same (.cons .same .nil))) (fun k hk => ?_)
  obtain ⟨hk, hall⟩ := hk
  refine Split.mk (fun h => ?_) (fun h => ?_)
  · have hlt : k < l.length := by simpa using h
    refine Need.mk (by omega) ?_
    refine CallW.bool (within_det (gt l k) 2000) (fun b hb => ?_)
    refine Split.mk (fun h1 => ?_) (fun h1 => ?_)
    · refine Fin.bool ?_
      have hb0 : b = false := by simpa using h1
      rw [near_false hlt (by rw [← hb, hb0])]
    · refine Adj.back (x := k) (k + 1) ⟨by omega, fun i hi => ?_⟩ (by omega) .nil (.cons .same (.cons (SlotLe.int ?_) .nil))
      · rcases Nat.lt_succ_iff_lt_or_eq.1 hi with hi | rfl
        · exact hall i hi
        · have hb0 : b = true := by simpa using h1
          rw [← hb, hb0]
      · rw [hw _ (by omega) (by omega)]; omega
  · have hge : k = l.length := by
      have : ¬ k < l.length := by simpa using h
      omega
    subst hge
    refine Fin.bool ?_
    rw [near_true hall]
end Sg
end Go.Vm
