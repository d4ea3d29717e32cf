/-
  Layer 26: contracts of bars with defects and of offsets, and the law BarOffset.
-/
import Derived.Test.YtlgnghcflnkhcaaBarL
namespace Go.Vm
open Go Go.RowKit Go.Proofs

structure BD where
  id : Int
  gr : ByteArray
  ht : ByteArray
  len : Int
  m : Nat
  D0 : Nat → Int
  D1 : Nat → Int
abbrev defS (m : Nat) (D0 D1 : Nat → Int) : SV := .sl m 2 fun i j => match j with
  | 0 => i64 (D0 i)
  | _ => i64 (D1 i)
abbrev barL (b : BD) : List SV := [i64 b.id, .v (.string b.gr), .v (.string b.ht), i64 b.len, defS b.m b.D0 b.D1]
abbrev barD (b : BD) : DV := .agg (barL b)
def wrongD (b : BD) (i : Nat) : Bool := decide (b.D0 i < 0) || decide (b.D0 i ≥ b.D1 i) || decide (b.D1 i > b.len)
def soundB (b : BD) : Bool := withinI b.len 1 2000 && decide ((b.m : Int) ≤ 6) && !anyB (wrongD b) b.m

theorem index2_det (n : Nat) (X Y : Nat → Int) (hn : n ≤ maxLen) (f q : Nat) (cap : Nat → SV) (b : Nat → Bool) (hf : ∀ i, i < n → Det Try.prog f ([.agg [i64 (X i), i64 (Y i)]] ++ capsL q cap) (tbool (b i))) :
    Det Try.prog 67 [.one (defS n X Y), .one (.fn f q cap)] (tint (firstAt b n 0)) := by
  have hm : (n : Int) < 9223372036854775808 := by simp only [maxLen] at hn; omega
  refine det_of_awp TTok mixed Try.func67 rfl rfl [] (Nat.le_of_ble_eq_true rfl) ?_
  refine Loop.by (α := Nat) (fun k => [(0, .d (.one (defS n X Y))), (1, .d (.one (.fn f q cap))), (7, tint n), (8, tint k)]) (fun _ => []) (fun k => k ≤ n ∧ firstAt b (n - k) k = firstAt b n 0) (fun k => n - k)
    (Adj.at 0 ⟨Nat.zero_le _, rfl⟩ .nil (.cons .same (.cons .same (.cons .same (.cons .same .nil))))) (fun k hi => ?_)
  obtain ⟨hk, hi⟩ := hi
  refine Split.mk (fun h3 => ?_) (fun h3 => ?_)
  · have hlt : k < n := by have := of_decide_eq_true h3; omega
    have hw64 : IntKind.i64.wrap ((k : Int) + 1) = ((k + 1 : Nat) : Int) := (w64_id ⟨by omega, by omega⟩).trans (by omega)
    obtain ⟨m, hm'⟩ : ∃ m, n - k = m + 1 := ⟨n - k - 1, by omega⟩
    rw [hm'] at hi
    simp only [firstAt] at hi
    refine Need.mk (by omega) ?_
    refine CallW.bool (hf k hlt) (fun c hc => ?_)
    refine Split.mk (fun h4 => ?_) (fun h4 => ?_)
    · refine Fin.int ?_
      rw [← hi, ← hc, h4]
      rfl
    · refine Adj.back (x := k) (k + 1) ⟨hlt, ?_⟩ (by omega) .nil (.cons .same (.cons .same (.cons .same (.cons (SlotLe.int hw64) .nil))))
      rw [← hc, h4] at hi
      rw [show n - (k + 1) = m by omega]
      exact hi
  · have e : k = n := by have := of_decide_eq_false h3; omega
    subst e
    refine Fin.int ?_
    rw [← hi, Nat.sub_self]
    rfl
theorem contains2_det (n : Nat) (X Y : Nat → Int) (hn : n ≤ maxLen) (f q : Nat) (cap : Nat → SV) (b : Nat → Bool) (hf : ∀ i, i < n → Det Try.prog f ([.agg [i64 (X i), i64 (Y i)]] ++ capsL q cap) (tbool (b i))) :
    Det Try.prog 56 [.one (defS n X Y), .one (.fn f q cap)] (tbool (anyB b n)) := by
  refine det_of_awp TTok mixed Try.func56 rfl rfl [] (Nat.le_of_ble_eq_true rfl) ?_
  refine CallW.mk' (index2_det n X Y hn f q cap b hf) ?_
  exact Fin.rfl'

theorem wrong_det (b : BD) (i : Nat) (cell : Nat → SV) (hc : cell 3 = i64 b.len) : Det Try.prog 60 [.agg [i64 (b.D0 i), i64 (b.D1 i)], .one (.ad 5 cell)] (tbool (wrongD b i)) := by
  refine Det.le (args' := [.agg [i64 (b.D0 i), i64 (b.D1 i)], .one (.ad 5 fun j => match j with | 3 => i64 b.len | j => cell j)]) (.cons (DLe.refl _) (.cons (DLe.of_eq ?_) .nil)) ?_
  · congr 2
    funext j
    split
    · exact hc
    · rfl
  refine det_of_awp TTok mixed Try.func60 rfl rfl [] (Nat.le_of_ble_eq_true rfl) ?_
  repeat' first | refine Split.t ?_ | refine Split.f ?_ | refine Need.mk (by decide) ?_ | refine Split.mk (fun _ => ?_) (fun _ => ?_) | refine Fin.bool ?_
  all_goals simp_all [wrongD]
  all_goals (intros; omega)
theorem sound_det (b : BD) (hm : b.m ≤ maxLen) : Det Try.prog 29 [barD b] (tbool (soundB b)) := by
  refine det_of_awp TTok mixed Try.func29 rfl rfl [] (Nat.le_of_ble_eq_true rfl) ?_
  have e : soundB b = (withinI b.len 1 2000 && decide ((b.m : Int) ≤ 6) && !anyB (wrongD b) b.m) := rfl
  refine CallW.bool (long_det _) (fun b1 h1 => ?_)
  rw [← h1] at e
  rw [e]
  refine Split.mk (fun h => ?_) (fun h => ?_)
  · subst h
    repeat refine Split.t ?_
    refine Split.mk (fun h => ?_) (fun h => ?_)
    · repeat refine Split.t ?_
      refine CallW.bool (contains2_det b.m b.D0 b.D1 hm 60 1 _ (wrongD b) ?_) (fun b2 h2 => ?_)
      · exact fun i _ => wrong_det b i _ rfl
      repeat refine Split.t ?_
      refine Fin.bool ?_
      rw [h, h2]
      rfl
    · repeat refine Split.f ?_
      refine Fin.bool ?_
      rw [h]
      rfl
  · subst h
    repeat refine Split.f ?_
    exact Fin.bool rfl
theorem rsound_det (b : BD) (hm : b.m ≤ maxLen) : Det Try.prog 30 [barD b] (tbool (soundB b)) := by
  have hmn : (b.m : Int) < 9223372036854775808 := by simp only [maxLen] at hm; omega
  refine det_of_awp TTok mixed Try.func30 rfl rfl [] (Nat.le_of_ble_eq_true rfl) ?_
  refine Loop.by (α := Nat) (fun k => [(1, .ptr 1 0), (3, tint k)]) (fun _ => [(1, .box (barL b))]) (fun k => k ≤ b.m ∧ ∀ i, i < k → wrongD b i = false) (fun k => b.m - k)
    (Adj.at 0 ⟨Nat.zero_le _, fun _ h => absurd h (Nat.not_lt_zero _)⟩ (.cons (.box (LLe.of_eq rfl)) .nil) (.cons (.box rfl rfl) (.cons .same .nil))) (fun k hi => ?_)
  obtain ⟨hk, hi⟩ := hi
  refine Split.mk (fun h3 => ?_) (fun h3 => ?_)
  · have hlt : k < b.m := by have := of_decide_eq_true h3; omega
    have hw64 : IntKind.i64.wrap ((k : Int) + 1) = ((k + 1 : Nat) : Int) := (w64_id ⟨by omega, by omega⟩).trans (by omega)
    have fail : wrongD b k = true → soundB b = false := fun h => by rw [soundB, anyB_t hlt h]; simp
    refine Need.mk (by omega) ?_
    repeat' first | refine Split.t ?_ | refine Split.f ?_ | refine Need.mk (by decide) ?_ | refine Split.mk (fun _ => ?_) (fun _ => ?_) | refine Fin.bool ?_
    · rw [fail (by simp_all [wrongD])]
    · rw [fail (by simp_all [wrongD])]
    · rw [fail (by simp_all [wrongD])]
    · refine Adj.back (x := k) (k + 1) ⟨hlt, fun i hik => ?_⟩ (by omega) (.cons (.box (LLe.of_eq rfl)) .nil) (.cons (.box rfl rfl) (.cons (SlotLe.int hw64) .nil))
      by_cases e : i = k
      · subst e; simp_all [wrongD]
      · exact hi i (by omega)
  · have e : k = b.m := by have := of_decide_eq_false h3; omega
    have ho := anyB_f (b := wrongD b) (n := b.m) (fun i hik => hi i (by omega))
    have e2 : soundB b = (withinI b.len 1 2000 && decide ((b.m : Int) ≤ 6)) := by rw [soundB, ho]; simp
    refine CallW.bool (within_det _ _ _) (fun b1 h1 => ?_)
    rw [e2, ← h1]
    refine Split.mk (fun h => ?_) (fun h => ?_)
    · subst h
      repeat refine Split.t ?_
      exact Fin.bool rfl
    · subst h
      repeat refine Split.f ?_
      exact Fin.bool rfl

/-! ### offsets -/
def clashB (b : BD) (lo hi : Int) (d : Nat) : Bool := decide (lo < b.D1 d) && decide (b.D0 d < hi)
def fitsB (n : Nat) (R : Nat → BP) (X : Nat → Int) (b : BD) (k : Nat) : Bool := !anyB (fun i => anyB (clashB b (extLo (R i) (w64 (k + X i))) (extHi (R i) (w64 (k + X i)))) b.m) n
def srch (f : Nat → Bool) : Nat → Nat → Option Nat
  | 0, _ => none
  | c + 1, o => bif f o then some o else srch f c (o + 1)
def offT (o : Option Nat) : TV := match o with
  | none => twoT 0 8
  | some k => twoT k 0
/-- What is asked of a row's places, for an offset's search. -/
structure SD (b : BD) : Prop where
  l1 : 1 ≤ b.len
  l2 : b.len ≤ 2000
  m6 : b.m ≤ 6
  ok : ∀ d, d < b.m → 0 ≤ b.D0 d ∧ b.D0 d < b.D1 d ∧ b.D1 d ≤ b.len
theorem SD.of {b : BD} (h : soundB b = true) : SD b := by
  simp only [soundB, withinI, Bool.and_eq_true, decide_eq_true_eq, Bool.not_eq_true'] at h
  refine ⟨by omega, by omega, by omega, fun d hd => ?_⟩
  cases hw : wrongD b d with
  | true => rw [anyB_t hd hw] at h; simp at h
  | false =>
    simp only [wrongD, Bool.or_eq_false_iff, decide_eq_false_iff_not] at hw
    omega

theorem clash_det (lo hi d0 d1 : Int) (c0 c1 : Nat → SV) (h0 : c0 0 = i64 lo) (h1 : c1 0 = i64 hi) (hlh : lo < hi) (hd : d0 < d1) : Det Try.prog 57 [.agg [i64 d0, i64 d1], .one (.ad 1 c0), .one (.ad 1 c1)] (tbool (decide (lo < d1) && decide (d0 < hi))) := by
  refine Det.le (args' := [.agg [i64 d0, i64 d1], .one (.ad 1 fun j => match j with | 0 => i64 lo | j => c0 j), .one (.ad 1 fun j => match j with | 0 => i64 hi | j => c1 j)]) (.cons (DLe.refl _) (.cons (DLe.of_eq ?_) (.cons (DLe.of_eq ?_) .nil))) ?_
  · congr 2; funext j; split
    · exact h0
    · rfl
  · congr 2; funext j; split
    · exact h1
    · rfl
  refine det_of_awp TTok mixed Try.func57 rfl rfl [] (Nat.le_of_ble_eq_true rfl) ?_
  repeat' first | refine Need.mk (by decide) ?_ | refine Fin.bool ?_
  rw [Bool.eq_iff_iff]
  simp only [Bool.and_eq_true, decide_eq_true_eq]
  omega

/-- Where a part extends, at a place that is not far. -/
theorem ext_plain {p : BP} (h : VP p) {a : Int} (h0 : 0 ≤ a) (h1 : a ≤ 1000000) : extLo p a = a - maxI 0 p.left ∧ extHi p a = a + p.len + maxI 0 p.right ∧ extE p a = 0 := by
  obtain ⟨l1, l2, a1, a2, b1, b2, t1, t2, tt⟩ := h
  have m1 := maxI_0 p.left
  have m2 := maxI_0 p.right
  refine ⟨?_, ?_, ?_⟩
  · unfold extLo
    simp (disch := omega) only [wid']
  · unfold extHi
    simp (disch := omega) only [wid']
  · have hv : validP p = true := VP.valid ⟨l1, l2, a1, a2, b1, b2, t1, t2, tt⟩
    simp only [extE, hv, withinI, Bool.true_and, Bool.and_eq_true, decide_eq_true_eq]
    rw [if_pos (by omega)]
theorem ext_lt {p : BP} (h : VP p) {a : Int} (h0 : 0 ≤ a) (h1 : a ≤ 1000000) : extLo p a < extHi p a := by
  obtain ⟨e1, e2, _⟩ := ext_plain h h0 h1
  have m1 := maxI_0 p.left
  have m2 := maxI_0 p.right
  have := h.l1
  omega
theorem fits_det {n : Nat} {R : Nat → BP} {kerf : Int} {b : BD} (V : VR n R kerf) (B : SD b) (k : Nat) (hk : k ≤ 2000) (c0 c1 c2 : Nat → SV) (h0 : c0 0 = rowS n R) (h1 : c1 0 = intS n (placeI R kerf)) (h2 : c2 4 = defS b.m b.D0 b.D1) :
    Det Try.prog 55 [.one (i64 k), .one (.ad 1 c0), .one (.ad 1 c1), .one (.ad 5 c2)] (tbool (fitsB n R (placeI R kerf) b k)) := by
  have hn40 := V.n40
  refine Det.le (args' := [.one (i64 k), .one (.ad 1 fun j => match j with | 0 => rowS n R | j => c0 j), .one (.ad 1 fun j => match j with | 0 => intS n (placeI R kerf) | j => c1 j), .one (.ad 5 fun j => match j with | 4 => defS b.m b.D0 b.D1 | j => c2 j)]) (.cons (DLe.refl _) (.cons (DLe.of_eq ?_) (.cons (DLe.of_eq ?_) (.cons (DLe.of_eq ?_) .nil)))) ?_
  · congr 2; funext j; split
    · exact h0
    · rfl
  · congr 2; funext j; split
    · exact h1
    · rfl
  · congr 2; funext j; split
    · exact h2
    · rfl
  refine det_of_awp TTok mixed Try.func55 rfl rfl [] (Nat.le_of_ble_eq_true rfl) ?_
  refine Loop.by (α := Nat) (fun q => [(0, tint k), (1, .d (.one (.ad 1 fun j => match j with | 0 => rowS n R | j => c0 j))), (2, .d (.one (.ad 1 fun j => match j with | 0 => intS n (placeI R kerf) | j => c1 j))), (3, .d (.one (.ad 5 fun j => match j with | 4 => defS b.m b.D0 b.D1 | j => c2 j))), (10, .d (.one (rowS n R))), (11, tint n), (12, tint q)]) (fun _ => [])
    (fun q => q ≤ n ∧ ∀ i, i < q → anyB (clashB b (extLo (R i) (w64 (k + placeI R kerf i))) (extHi (R i) (w64 (k + placeI R kerf i)))) b.m = false) (fun q => n - q)
    (Adj.at 0 ⟨Nat.zero_le _, fun _ h => absurd h (Nat.not_lt_zero _)⟩ .nil (.cons .same (.cons .same (.cons .same (.cons .same (.cons .same (.cons .same (.cons .same .nil)))))))) (fun q hi => ?_)
  obtain ⟨hq, hi⟩ := hi
  refine Split.mk (fun h3 => ?_) (fun h3 => ?_)
  · have hlt : q < n := by have := of_decide_eq_true h3; omega
    have hw64 : IntKind.i64.wrap ((q : Int) + 1) = ((q + 1 : Nat) : Int) := (w64_id ⟨by omega, by omega⟩).trans (by omega)
    refine Need.mk (by omega) ?_
    refine Need.mk (by omega) ?_
    have hp := place_b V q hlt
    have ew : w64 ((k : Int) + placeI R kerf q) = k + placeI R kerf q := w64_id ⟨by omega, by omega⟩
    have hl := ext_lt (V.vp q hlt) (a := w64 (k + placeI R kerf q)) (by omega) (by omega)
    refine CallW.tup2 (extent_det (R q) (w64 (k + placeI R kerf q))) (fun lo hh hlo hhi => ?_)
    rw [← hlo, ← hhi] at hl
    refine Need.mk (by kernel_rfl) ?_
    refine CallW.bool (contains2_det b.m b.D0 b.D1 (Nat.le_trans B.m6 (by decide)) 57 2 _ (clashB b lo hh) ?_) (fun b2 hb2 => ?_)
    · exact fun d hd => clash_det lo hh (b.D0 d) (b.D1 d) _ _ rfl rfl hl (B.ok d hd).2.1
    rw [hlo, hhi] at hb2
    refine Split.mk (fun h4 => ?_) (fun h4 => ?_)
    · refine Fin.bool ?_
      rw [fitsB, anyB_t hlt (by rw [← hb2]; exact h4)]
      rfl
    · refine Adj.back (x := q) (q + 1) ⟨hlt, fun i hik => ?_⟩ (by omega) .nil (.cons .same (.cons .same (.cons .same (.cons .same (.cons .same (.cons .same (.cons (SlotLe.int hw64) .nil)))))))
      by_cases e : i = q
      · subst e; rw [← hb2]; exact h4
      · exact hi i (by omega)
  · have e : q = n := by have := of_decide_eq_false h3; omega
    subst e
    refine Fin.bool ?_
    rw [fitsB, anyB_f hi]
    rfl

theorem avoids_det {n : Nat} {R : Nat → BP} {kerf : Int} {b : BD} (V : VR n R kerf) (B : SD b) (k : Nat) (hk : k ≤ 2000) :
    Det Try.prog 59 [.one (rowS n R), .one (intS n (placeI R kerf)), .one (i64 k), barD b] (tbool (fitsB n R (placeI R kerf) b k)) := by
  have hn40 := V.n40
  have hm6 := B.m6
  refine det_of_awp TTok mixed Try.func59 rfl rfl [] (Nat.le_of_ble_eq_true rfl) ?_
  refine Loop.by (α := Nat) (fun q => [(0, .d (.one (rowS n R))), (1, .d (.one (intS n (placeI R kerf)))), (2, tint k), (7, .ptr 7 0), (9, tint q)]) (fun _ => [(7, .box (barL b))])
    (fun q => q ≤ n ∧ ∀ i, i < q → anyB (clashB b (extLo (R i) (w64 (k + placeI R kerf i))) (extHi (R i) (w64 (k + placeI R kerf i)))) b.m = false) (fun q => n - q)
    (Adj.at 0 ⟨Nat.zero_le _, fun _ h => absurd h (Nat.not_lt_zero _)⟩ (.cons (.box (LLe.of_eq rfl)) .nil) (.cons .same (.cons .same (.cons .same (.cons (.box rfl rfl) (.cons .same .nil)))))) (fun q hi => ?_)
  obtain ⟨hq, hi⟩ := hi
  refine Split.mk (fun h3 => ?_) (fun h3 => ?_)
  · have hlt : q < n := by have := of_decide_eq_true h3; omega
    have hw64 : IntKind.i64.wrap ((q : Int) + 1) = ((q + 1 : Nat) : Int) := (w64_id ⟨by omega, by omega⟩).trans (by omega)
    refine Need.mk (by omega) ?_
    refine Need.mk (by omega) ?_
    have hp := place_b V q hlt
    have ew : w64 (placeI R kerf q + (k : Int)) = w64 (k + placeI R kerf q) := by rw [Int.add_comm]
    have ew2 : w64 ((k : Int) + placeI R kerf q) = k + placeI R kerf q := w64_id ⟨by omega, by omega⟩
    have hx := ext_plain (V.vp q hlt) (a := w64 (k + placeI R kerf q)) (by omega) (by omega)
    refine CallW.tup3 (rextent3_det (R q) (w64 (placeI R kerf q + k))) (fun lo hh ee hlo hhi _ => ?_)
    rw [ew, if_pos hx.2.2] at hlo hhi
    refine Need.mk (by kernel_rfl) ?_
    refine Loop.by (α := Nat) (fun d => [(0, .d (.one (rowS n R))), (1, .d (.one (intS n (placeI R kerf)))), (2, tint k), (7, .ptr 7 0), (9, tint q), (10, tint lo), (11, tint hh), (13, tint d)]) (fun _ => [(7, .box (barL b))])
      (fun d => d ≤ b.m ∧ ∀ i, i < d → clashB b lo hh i = false) (fun d => b.m - d)
      (Adj.at 0 ⟨Nat.zero_le _, fun _ h => absurd h (Nat.not_lt_zero _)⟩ (.cons (.box (LLe.of_eq rfl)) .nil) (.cons .same (.cons .same (.cons .same (.cons (.box rfl rfl) (.cons .same (.cons .same (.cons .same (.cons .same .nil))))))))) (fun d hi2 => ?_)
    obtain ⟨hd, hi2⟩ := hi2
    refine Split.mk (fun h3 => ?_) (fun h3 => ?_)
    · have hltd : d < b.m := by have := of_decide_eq_true h3; omega
      have hwd : IntKind.i64.wrap ((d : Int) + 1) = ((d + 1 : Nat) : Int) := (w64_id ⟨by omega, by omega⟩).trans (by omega)
      have back : clashB b lo hh d = false → ∀ i, i < d + 1 → clashB b lo hh i = false := fun h i hik => by
        by_cases e : i = d
        · subst e; exact h
        · exact hi2 i (by omega)
      repeat' first | refine Need.mk (by omega) ?_ | refine Need.mk (by decide) ?_
      refine Split.mk (fun h4 => ?_) (fun h4 => ?_)
      · replace h4 : decide (lo < b.D1 d) = true := h4
        repeat' first | refine Need.mk (by omega) ?_ | refine Need.mk (by decide) ?_ | refine Split.t ?_
        refine Split.mk (fun h5 => ?_) (fun h5 => ?_)
        · replace h5 : decide (b.D0 d < hh) = true := h5
          refine Fin.bool ?_
          rw [fitsB, anyB_t hlt]
          · rfl
          · exact anyB_t hltd (by rw [← hlo, ← hhi, clashB, h4, h5]; rfl)
        · replace h5 : decide (b.D0 d < hh) = false := h5
          exact Adj.back (x := d) (d + 1) ⟨hltd, back (by rw [clashB, h4, h5]; rfl)⟩ (by omega) (.cons (.box (LLe.of_eq rfl)) .nil) (.cons .same (.cons .same (.cons .same (.cons (.box rfl rfl) (.cons .same (.cons .same (.cons .same (.cons (SlotLe.int hwd) .nil))))))))
      · replace h4 : decide (lo < b.D1 d) = false := h4
        repeat refine Split.f ?_
        exact Adj.back (x := d) (d + 1) ⟨hltd, back (by rw [clashB, h4]; rfl)⟩ (by omega) (.cons (.box (LLe.of_eq rfl)) .nil) (.cons .same (.cons .same (.cons .same (.cons (.box rfl rfl) (.cons .same (.cons .same (.cons .same (.cons (SlotLe.int hwd) .nil))))))))
    · have e : d = b.m := by have := of_decide_eq_false h3; omega
      subst e
      refine Adj.back (x := q) (q + 1) ⟨hlt, fun i hik => ?_⟩ (by omega) (.cons (.box (LLe.of_eq rfl)) .nil) (.cons .same (.cons .same (.cons .same (.cons (.box rfl rfl) (.cons (SlotLe.int hw64) .nil)))))
      by_cases e : i = q
      · subst e; rw [← hlo, ← hhi]; exact anyB_f hi2
      · exact hi i (by omega)
  · have e : q = n := by have := of_decide_eq_false h3; omega
    subst e
    refine Fin.bool ?_
    rw [fitsB, anyB_f hi]
    rfl
end Go.Vm
