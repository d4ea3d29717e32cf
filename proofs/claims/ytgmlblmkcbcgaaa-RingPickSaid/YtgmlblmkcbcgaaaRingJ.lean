/-
  Layer 8: contracts of Clean.
-/
import Derived.Test.YtgmlblmkcbcgaaaRingI
namespace Go.Vm
set_option maxRecDepth 20000
set_option linter.unusedVariables false
set_option linter.unusedSimpArgs false
open Go Go.RowKit Go.Proofs
namespace Sg

def extraB (l : List V2) (i : Nat) : Bool := decide (gt l i = nxt l i) || decide (turnW (lst l i) (gt l i) (nxt l i) = 0)
def ex (l : List V2) : Option Nat := (List.range l.length).find? (extraB l)
def exI (l : List V2) : Int := match ex l with | none => -1 | some i => (i : Int)
theorem extra_l {l : List V2} {i : Nat} (h : gt l i = nxt l i) : extraB l i = true := by rw [extraB, decide_eq_true h, Bool.true_or]
theorem extra_r {l : List V2} {i : Nat} (h : turnW (lst l i) (gt l i) (nxt l i) = 0) : extraB l i = true := by rw [extraB, decide_eq_true h, Bool.or_true]
theorem ex_some {l : List V2} {i : Nat} (hi : i < l.length) (h : extraB l i = true) (hb : ∀ j, j < i → extraB l j = false) : ex l = some i := by
  unfold ex
  rw [List.find?_range_eq_some]
  exact ⟨h, by simpa using hi, fun j hj => by rw [hb j hj]; rfl⟩
theorem ex_none {l : List V2} (h : ∀ i, i < l.length → extraB l i = false) : ex l = none := by
  unfold ex
  rw [List.find?_range_eq_none]
  exact fun i hi => by rw [h i hi]; rfl
theorem ex_lt {l : List V2} {i : Nat} (h : ex l = some i) : i < l.length := by
  unfold ex at h
  rw [List.find?_range_eq_some] at h
  simpa using h.2.1
theorem needless_det (l : List V2) (hl : l.length ≤ 40000) : Det Try.prog 77 [.one (vlS l)] (tint (exI l)) := by
  refine det_of_awp TTok mixed Try.func77 rfl rfl [] (Nat.le_of_ble_eq_true rfl) ?_
  refine Loop.by (α := Nat) (fun k => [(0, .d (.one (vlS l))), (6, .d (.one (vlS l))), (7, tint l.length), (8, tint k)]) (fun _ => []) (fun k => k ≤ l.length ∧ ∀ i, i < k → extraB l i = false) (fun k => l.length - k)
    (Adj.at 0 ⟨Nat.zero_le _, fun _ h => absurd h (Nat.not_lt_zero _)⟩ .nil (.cons .same (.cons .same (.cons .same (.cons .same .nil))))) (fun k hk => ?_)
  obtain ⟨hk, hall⟩ := hk
  refine Split.mk (fun h => ?_) (fun h => ?_)
  · have hlt : k < l.length := by have := of_decide_eq_true h; omega
    have back : ∀ (t : Nat → TV) (m : Id → Mem), KeepS t m (memsOf []) [(0, .d (.one (vlS l))), (6, .d (.one (vlS l))), (7, tint l.length), (8, tint (IntKind.i64.wrap ((k : Int) + 1)))] → extraB l k = false →
        Adj t m (fun t3 m3 => ∃ y, Kept (fun k => [(0, .d (.one (vlS l))), (6, .d (.one (vlS l))), (7, tint l.length), (8, tint ((k : Nat) : Int))]) (fun _ => []) (fun k => k ≤ l.length ∧ ∀ i, i < k → extraB l i = false) y t3 m3 ∧ l.length - y < l.length - k) := by
      intro t m hks hf
      rw [show IntKind.i64.wrap ((k : Int) + 1) = ((k + 1 : Nat) : Int) from natw k 1 (by omega) (by omega)] at hks
      exact Adj.back (rank := fun k => l.length - k) (k + 1) ⟨by omega, fun j hj => by
        rcases Nat.lt_succ_iff_lt_or_eq.1 hj with hj | rfl
        · exact hall j hj
        · exact hf⟩ (by omega) .nil hks
    refine Need.mk (by omega) ?_
    refine CallW.v (next_det l k hlt hl) (fun v hv => ?_)
    refine EqW.v (gt l k) v (fun q hq => ?_)
    refine Split.mk (fun h1 => ?_) (fun h1 => ?_)
    · repeat' first | refine Split.t ?_ | refine Split.f ?_ | fail
      refine Need.mk (by kernel_rfl) ?_
      repeat' first | refine Split.t ?_ | refine Split.f ?_ | fail
      refine Fin.int ?_
      have : gt l k = nxt l k := by rw [← hv]; exact hq.1 h1
      rw [exI, ex_some hlt (extra_l this) hall]
    · have hne : decide (gt l k = nxt l k) = false := decide_eq_false (fun e => by
        have : q = true := hq.2 (by rw [hv]; exact e)
        rw [this] at h1; cases h1)
      repeat' first | refine Split.t ?_ | refine Split.f ?_ | fail
      refine CallW.v (last_det l k hlt hl) (fun u hu => ?_)
      repeat' first | refine Split.t ?_ | refine Split.f ?_ | fail
      refine CallW.int (vturn_det u (gt l k) v) (fun c hc => ?_)
      rw [hu, hv] at hc
      repeat' first | refine Split.t ?_ | refine Split.f ?_ | fail
      refine Need.mk (by kernel_rfl) ?_
      refine Split.mk (fun h2 => ?_) (fun h2 => ?_)
      · refine Fin.int ?_
        have : turnW (lst l k) (gt l k) (nxt l k) = 0 := by rw [← hc]; simpa using h2
        rw [exI, ex_some hlt (extra_r this) hall]
      · have : decide (turnW (lst l k) (gt l k) (nxt l k) = 0) = false := decide_eq_false (by rw [← hc]; simpa using h2)
        exact back _ _ (.cons .same (.cons .same (.cons .same (.cons .same .nil)))) (by rw [extraB, hne, this]; rfl)
  · have he : k = l.length := by have := of_decide_eq_false h; omega
    subst he
    refine Fin.int ?_
    rw [exI, ex_none hall]
theorem extra_det (l : List V2) (hl : l.length ≤ 40000) : Det Try.prog 79 [.one (vlS l)] (tint (exI l)) := by
  refine det_of_awp TTok mixed Try.func79 rfl rfl [] (Nat.le_of_ble_eq_true rfl) ?_
  refine Loop.by (α := Nat) (fun k => [(0, .d (.one (vlS l))), (3, tint l.length), (4, tint k)]) (fun _ => []) (fun k => k ≤ l.length ∧ ∀ i, i < k → extraB l i = false) (fun k => l.length - k)
    (Adj.at 0 ⟨Nat.zero_le _, fun _ h => absurd h (Nat.not_lt_zero _)⟩ .nil (.cons .same (.cons .same (.cons .same .nil)))) (fun k hk => ?_)
  obtain ⟨hk, hall⟩ := hk
  refine Split.mk (fun h => ?_) (fun h => ?_)
  · have hlt : k < l.length := by have := of_decide_eq_true h; omega
    have back : ∀ (t : Nat → TV) (m : Id → Mem), KeepS t m (memsOf []) [(0, .d (.one (vlS l))), (3, tint l.length), (4, tint (IntKind.i64.wrap ((k : Int) + 1)))] → extraB l k = false →
        Adj t m (fun t3 m3 => ∃ y, Kept (fun k => [(0, .d (.one (vlS l))), (3, tint l.length), (4, tint ((k : Nat) : Int))]) (fun _ => []) (fun k => k ≤ l.length ∧ ∀ i, i < k → extraB l i = false) y t3 m3 ∧ l.length - y < l.length - k) := by
      intro t m hks hf
      rw [show IntKind.i64.wrap ((k : Int) + 1) = ((k + 1 : Nat) : Int) from natw k 1 (by omega) (by omega)] at hks
      exact Adj.back (rank := fun k => l.length - k) (k + 1) ⟨by omega, fun j hj => by
        rcases Nat.lt_succ_iff_lt_or_eq.1 hj with hj | rfl
        · exact hall j hj
        · exact hf⟩ (by omega) .nil hks
    have e := natw k 1 (by omega) (by omega)
    have hb := tmodB (k + 1) l.length (by omega)
    have e2 : IntKind.i64.wrap (IntKind.i64.wrap ((k : Int) + l.length) - 1) = ((k + l.length - 1 : Nat) : Int) := by
      rw [hw ((k : Int) + l.length) (by omega) (by omega), hw _ (by omega) (by omega)]; omega
    have hb2 := tmodB (k + l.length - 1) l.length (by omega)
    refine Need.mk (by omega) ?_
    refine Need.mk (by omega) ?_
    refine Need.mk (by rw [show (1 : Int) = (1 : Nat) from rfl, e]; exact hb) ?_
    have hnx : gt l (Int.toNat ((IntKind.i64.wrap ((k : Int) + (1 : Nat))).tmod l.length)) = nxt l k := by rw [e, tmodN]; rfl
    have hls : gt l (Int.toNat ((IntKind.i64.wrap (IntKind.i64.wrap ((k : Int) + l.length) - 1)).tmod l.length)) = lst l k := by rw [e2, tmodN]; rfl
    refine EqW.v (gt l k) (gt l (Int.toNat ((IntKind.i64.wrap ((k : Int) + (1 : Nat))).tmod l.length))) (fun q hq => ?_)
    rw [hnx] at hq
    refine Split.mk (fun h1 => ?_) (fun h1 => ?_)
    · repeat' first | refine Split.t ?_ | refine Split.f ?_ | fail
      refine Need.mk (by kernel_rfl) ?_
      repeat' first | refine Split.t ?_ | refine Split.f ?_ | fail
      refine Fin.int ?_
      rw [exI, ex_some hlt (extra_l (hq.1 h1)) hall]
    · have hne : decide (gt l k = nxt l k) = false := decide_eq_false (fun e => by
        have : q = true := hq.2 e
        rw [this] at h1; cases h1)
      repeat' first | refine Split.t ?_ | refine Split.f ?_ | fail
      refine Need.mk (by omega) ?_
      repeat' first | refine Split.t ?_ | refine Split.f ?_ | fail
      refine Need.mk (by rw [e2]; exact hb2) ?_
      repeat' first | refine Split.t ?_ | refine Split.f ?_ | fail
      refine Need.mk (by omega) ?_
      repeat' first | refine Split.t ?_ | refine Split.f ?_ | fail
      refine Need.mk (by omega) ?_
      repeat' first | refine Split.t ?_ | refine Split.f ?_ | fail
      refine Need.mk (by rw [show (1 : Int) = (1 : Nat) from rfl, e]; exact hb) ?_
      repeat' first | refine Split.t ?_ | refine Split.f ?_ | fail
      refine CallW.int (turn_det (gt l (Int.toNat ((IntKind.i64.wrap (IntKind.i64.wrap ((k : Int) + l.length) - 1)).tmod l.length))) (gt l k) (gt l (Int.toNat ((IntKind.i64.wrap ((k : Int) + (1 : Nat))).tmod l.length)))) (fun c hc => ?_)
      rw [hls, hnx] at hc
      repeat' first | refine Split.t ?_ | refine Split.f ?_ | fail
      refine Need.mk (by kernel_rfl) ?_
      refine Split.mk (fun h2 => ?_) (fun h2 => ?_)
      · refine Fin.int ?_
        have : turnW (lst l k) (gt l k) (nxt l k) = 0 := by rw [← hc]; simpa using h2
        rw [exI, ex_some hlt (extra_r this) hall]
      · have : decide (turnW (lst l k) (gt l k) (nxt l k) = 0) = false := decide_eq_false (by rw [← hc]; simpa using h2)
        exact back _ _ (.cons .same (.cons .same (.cons .same .nil))) (by rw [extraB, hne, this]; rfl)
  · have he : k = l.length := by have := of_decide_eq_false h; omega
    subst he
    refine Fin.int ?_
    rw [exI, ex_none hall]

/-! ### Clean -/
def clF : Nat → List V2 → List V2
  | 0, l => l
  | f + 1, l => match ex l with
    | none => l
    | some i => clF f (l.eraseIdx i)
def cleanL (l : List V2) : List V2 := clF l.length l
theorem cleanL_none {l : List V2} (h : ex l = none) : cleanL l = l := by
  unfold cleanL
  cases l.length with
  | zero => rfl
  | succ n => simp only [clF, h]
theorem cleanL_some {l : List V2} {i : Nat} (h : ex l = some i) : cleanL l = cleanL (l.eraseIdx i) := by
  have hi := ex_lt h
  unfold cleanL
  rw [List.length_eraseIdx_of_lt hi]
  cases hn : l.length with
  | zero => omega
  | succ n => simp only [clF, h, Nat.add_sub_cancel]
def upR (l : List V2) : List V2 := if areaW l < 0 then l.reverse else l
def cleanR (l : List V2) : List V2 × Int := if 200 < l.length then ([], 9) else if nearR l = false then ([], 2) else if validR (upR (cleanL l)) = false then ([], 11) else (beginL (upR (cleanL l)), 0)
theorem sl_le {l : List V2} {n : Nat} (h : n = l.length) : DsLe [.one (.sl n 2 (vG l))] [.one (vlS l)] := .cons (DLe.one (SLe.slN h (fun _ _ _ _ => SLe.refl _))) .nil
theorem exI_ge {l : List V2} (h : exI l ≥ 0) : ∃ i, ex l = some i ∧ exI l = (i : Int) := by
  unfold exI at h ⊢
  cases he : ex l with
  | none => rw [he] at h; simp at h
  | some i => exact ⟨i, rfl, rfl⟩
theorem exI_lt {l : List V2} (h : ¬ exI l ≥ 0) : ex l = none := by
  unfold exI at h
  cases he : ex l with
  | none => rfl
  | some i => rw [he] at h; simp at h
theorem clean_det (l : List V2) (hl : l.length ≤ maxLen) : Det Try.prog 33 [.one (vlS l)] (ringE (cleanR l).1 (cleanR l).2) := by
  refine det_of_awp TTok mixed Try.func33 rfl rfl [76 + 2000000, 78 + 2000000, 50 + 2000000] (Nat.le_of_ble_eq_true rfl) ?_
  refine Split.mk (fun h => ?_) (fun h => ?_)
  · have h2 : 200 < l.length := by have := of_decide_eq_true h; omega
    refine Fin.ringN ?_ ?_ <;> simp [cleanR, h2]
  have h2 : ¬ 200 < l.length := by have := of_decide_eq_false h; omega
  refine CallW.bool (nearl_det l (by omega)) (fun b hb => ?_)
  refine Split.mk (fun h => ?_) (fun h => ?_)
  · have hn : nearR l = false := by rw [← hb]; simpa using h
    refine Fin.ringN ?_ ?_ <;> simp [cleanR, h2, hn]
  have hn : nearR l = true := by rw [← hb]; simpa using h
  have hcr : cleanR l = if validR (upR (cleanL l)) = false then ([], 11) else (beginL (upR (cleanL l)), 0) := by simp [cleanR, h2, hn]
  rw [hcr]
  refine CallM.mk' [] (clone_detM l (by omega)) ⟨.nil, .cons (.d (DLe.refl _)) .nil, rfl, rfl, fun _ => rfl⟩ ?_
  refine CallW.int (needless_det l (by omega)) (fun n hn => ?_)
  subst hn
  refine Loop.by (α := List V2) (fun c => [(4, .hdl 15 0), (5, tint (exI c))]) (fun c => [(15, .bld 0 c.length 2 32 (vG c))]) (fun c => c.length ≤ 200 ∧ cleanL c = cleanL l) (fun c => c.length)
    (Adj.at l ⟨by omega, rfl⟩ (.cons (.bld (fun _ _ _ _ => SLe.refl _)) .nil) (.cons (.hdl rfl rfl) (.cons .same .nil))) (fun c hc => ?_)
  obtain ⟨hc, hcl⟩ := hc
  refine Split.mk (fun h => ?_) (fun h => ?_)
  · obtain ⟨i, hi, hx⟩ := exI_ge (of_decide_eq_true h)
    have hil := ex_lt hi
    have hlen : (c.eraseIdx i).length = c.length - 1 := List.length_eraseIdx_of_lt hil
    refine CallM.mk' [15] (delete_detM c i hil (by omega)) ⟨.cons (.bld (fun _ _ _ _ => SLe.refl _)) .nil, .cons (.hdl rfl rfl) (.cons (.d (DLe.of_eq (by rw [hx]))) (.cons (.d (DLe.of_eq (by rw [hx, hw _ (by omega) (by omega)]))) .nil)), rfl, rfl, fun h => absurd rfl h⟩ ?_
    refine CallW.int ((needless_det (c.eraseIdx i) (by omega)).le (sl_le hlen.symm)) (fun n hn => ?_)
    exact Adj.back (x := c) (c.eraseIdx i) ⟨by omega, by rw [← hcl, cleanL_some hi]⟩ (by omega) (.cons (.bldN hlen.symm (fun _ _ _ _ => SLe.refl _)) .nil) (.cons (.hdl rfl rfl) (.cons (SlotLe.int hn) .nil))
  · have hx := exI_lt (of_decide_eq_false h)
    have hcc : cleanL l = c := by rw [← hcl, cleanL_none hx]
    rw [hcc]
    refine CallW.int (area_det c (by omega)) (fun a ha => ?_)
    refine Split.mk (fun h => ?_) (fun h => ?_)
    · have hup : upR c = c.reverse := by rw [upR, if_pos (by rw [← ha]; exact of_decide_eq_true h)]
      have hlen : c.length = c.reverse.length := by simp
      refine CallM.mk' [15] (reverse_detM c (by omega)) ⟨.cons (.bld (fun _ _ _ _ => SLe.refl _)) .nil, .cons (.hdl rfl rfl) .nil, rfl, rfl, fun h => absurd rfl h⟩ ?_
      rw [hup]
      refine CallW.bool ((valid_det' c.reverse (by rw [← hlen]; omega)).le (sl_le hlen)) (fun v hv => ?_)
      refine Split.mk (fun h => ?_) (fun h => ?_)
      · have hv : validR c.reverse = false := by rw [← hv]; simpa using h
        refine Fin.ringN ?_ ?_ <;> simp [hv]
      · have hv : validR c.reverse = true := by rw [← hv]; simpa using h
        refine CallW.mk' ((canon_det c.reverse (by rw [← hlen]; omega)).le (sl_le hlen)) ?_
        exact Fin.ringE (by simp [hv, canonR]) (by simp [hv])
    · have hup : upR c = c := by rw [upR, if_neg (by rw [← ha]; exact of_decide_eq_false h)]
      rw [hup]
      refine CallW.bool (valid_det' c (by omega)) (fun v hv => ?_)
      refine Split.mk (fun h => ?_) (fun h => ?_)
      · have hv : validR c = false := by rw [← hv]; simpa using h
        refine Fin.ringN ?_ ?_ <;> simp [hv]
      · have hv : validR c = true := by rw [← hv]; simpa using h
        refine CallW.mk' (canon_det c (by omega)) ?_
        exact Fin.ringE (by simp [hv, canonR]) (by simp [hv])

theorem rclean_det (l : List V2) (hl : l.length ≤ maxLen) : Det Try.prog 34 [.one (vlS l)] (ringE (cleanR l).1 (cleanR l).2) := by
  refine det_of_awp TTok mixed Try.func34 rfl rfl [] (Nat.le_of_ble_eq_true rfl) ?_
  refine Split.mk (fun h => ?_) (fun h => ?_)
  · have h2 : 200 < l.length := by have := of_decide_eq_true h; omega
    refine Fin.ringN ?_ ?_ <;> simp [cleanR, h2]
  have h2 : ¬ 200 < l.length := by have := of_decide_eq_false h; omega
  refine CallW.bool (rwithin_det l (by omega)) (fun b hb => ?_)
  refine Split.mk (fun h => ?_) (fun h => ?_)
  · have hn : nearR l = false := by rw [← hb]; simpa using h
    refine Fin.ringN ?_ ?_ <;> simp [cleanR, h2, hn]
  have hn : nearR l = true := by rw [← hb]; simpa using h
  have hcr : cleanR l = if validR (upR (cleanL l)) = false then ([], 11) else (beginL (upR (cleanL l)), 0) := by simp [cleanR, h2, hn]
  rw [hcr]
  refine Need.mk (needApp (by omega) (by decide)) ?_
  have hz : 0 + l.length = l.length := Nat.zero_add _
  have hle0 : DsLe [.one (.sl (0 + l.length) 2 fun i j => bif Nat.blt i 0 then .v Go.undef else vG l (i - 0) j)] [.one (vlS l)] :=
    .cons (DLe.one (SLe.slN hz (fun i _ j _ => SLe.of_eq (by rw [blt_f (Nat.not_lt_zero i)]; rfl)))) .nil
  refine CallW.int ((extra_det l (by omega)).le hle0) (fun n hn => ?_)
  subst hn
  refine Loop.by (α := List V2) (fun c => [(4, .d (.one (vlS c))), (5, tint (exI c))]) (fun _ => []) (fun c => c.length ≤ 200 ∧ cleanL c = cleanL l) (fun c => c.length)
    (Adj.freeze 4 12 _ _ 2 32 _ rfl rfl (Adj.at l ⟨by omega, rfl⟩ .nil (.cons (.data (DLe.one (SLe.slN hz (fun i _ j _ => SLe.of_eq (by rw [blt_f (Nat.not_lt_zero i)]; rfl))))) (.cons .same .nil)))) (fun c hc => ?_)
  obtain ⟨hc, hcl⟩ := hc
  refine Split.mk (fun h => ?_) (fun h => ?_)
  · obtain ⟨i, hi, hx⟩ := exI_ge (of_decide_eq_true h)
    have hil := ex_lt hi
    have hlen : (c.eraseIdx i).length = c.length - 1 := List.length_eraseIdx_of_lt hil
    have hx1 : IntKind.i64.wrap (exI c + 1) = ((i + 1 : Nat) : Int) := by rw [hx, hw _ (by omega) (by omega)]; omega
    refine Need.mk (by omega) ?_
    refine Need.mk (needApp (by omega) (by decide)) ?_
    refine Need.mk (by omega) ?_
    refine Need.mk (needApp (by omega) (by decide)) ?_
    refine Need.mk (by kernel_rfl) ?_
    have e1 : (exI c).toNat = i := by omega
    have e2 : (IntKind.i64.wrap (exI c + 1)).toNat = i + 1 := by rw [hx1]; omega
    have hN : 0 + ((exI c).toNat - 0) + (c.length - (IntKind.i64.wrap (exI c + 1)).toNat) = (c.eraseIdx i).length := by rw [e1, e2]; omega
    have hel : ∀ p j, p < (c.eraseIdx i).length → (bif Nat.blt p (0 + ((exI c).toNat - 0)) then (bif Nat.blt p 0 then .v Go.undef else vG c (0 + (p - 0)) j) else vG c ((IntKind.i64.wrap (exI c + 1)).toNat + (p - (0 + ((exI c).toNat - 0)))) j) = vG (c.eraseIdx i) p j := by
      intro p j hp
      rw [e1, e2, Nat.sub_zero, Nat.zero_add]
      by_cases h : p < i
      · rw [blt_t h, cond_true, blt_f (Nat.not_lt_zero p), cond_false]
        refine vG_eq ?_ j
        rw [Nat.sub_zero, Nat.zero_add]
        simp [List.getD, List.getElem?_eraseIdx, h]
      · rw [blt_f h, cond_false]
        refine vG_eq ?_ j
        simp only [List.getD, List.getElem?_eraseIdx, h, if_false]
        rw [show i + 1 + (p - i) = p + 1 by omega]
    refine CallW.int ((extra_det (c.eraseIdx i) (by omega)).le (.cons (DLe.one (SLe.slN hN (fun p hp j hj => SLe.of_eq (hel p j (by omega))))) .nil)) (fun n hn => ?_)
    exact Adj.freeze 4 21 _ _ 2 32 _ rfl rfl (Adj.back (x := c) (c.eraseIdx i) ⟨by omega, by rw [← hcl, cleanL_some hi]⟩ (by omega) .nil (.cons (.data (DLe.one (SLe.slN hN (fun p hp j hj => SLe.of_eq (hel p j (by omega)))))) (.cons (SlotLe.int hn) .nil)))
  · have hx := exI_lt (of_decide_eq_false h)
    have hcc : cleanL l = c := by rw [← hcl, cleanL_none hx]
    rw [hcc]
    refine CallW.int (signed_det c (by omega)) (fun a ha => ?_)
    refine Split.mk (fun h => ?_) (fun h => ?_)
    · have hup : upR c = c.reverse := by rw [upR, if_pos (by rw [← ha]; exact of_decide_eq_true h)]
      have hlen : c.length = c.reverse.length := by simp
      refine CallW.mk' (rreverse_det c (by omega)) ?_
      rw [hup]
      refine CallW.bool (rvalid_det8 c.reverse (by rw [← hlen]; omega)) (fun v hv => ?_)
      refine Split.mk (fun h => ?_) (fun h => ?_)
      · have hv : validR c.reverse = false := by rw [← hv]; simpa using h
        refine Fin.ringN ?_ ?_ <;> simp [hv]
      · have hv : validR c.reverse = true := by rw [← hv]; simpa using h
        refine CallW.mk' (begin_det c.reverse (by rw [← hlen]; omega)) ?_
        exact Fin.ringE (by simp [hv]) (by simp [hv])
    · have hup : upR c = c := by rw [upR, if_neg (by rw [← ha]; exact of_decide_eq_false h)]
      rw [hup]
      refine CallW.bool (rvalid_det8 c (by omega)) (fun v hv => ?_)
      refine Split.mk (fun h => ?_) (fun h => ?_)
      · have hv : validR c = false := by rw [← hv]; simpa using h
        refine Fin.ringN ?_ ?_ <;> simp [hv]
      · have hv : validR c = true := by rw [← hv]; simpa using h
        refine CallW.mk' (begin_det c (by omega)) ?_
        exact Fin.ringE (by simp [hv]) (by simp [hv])
end Sg
end Go.Vm
