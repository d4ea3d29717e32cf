/-
  Layer 26: contracts of bars with defects and of offsets, and the law BarOffset.
  Layer 26: contracts of offsets, and the law BarOffset.
  TopRow: problems of cutting stock; contracts of Valid and Few.
  TopRow: contracts of Few, size, free and Fits.
  Layer 26: the law BarClear.
  TopRow: the row of a pattern's pieces, in plain numbers.
  An evaluator for closed runs: what it knows of the machine, and the relation between the two.
  An evaluator for closed runs: the operations that touch no memory.
  An evaluator for closed runs: building, loading, slicing, the pure builtins.
-/
import Derived.Test.YtobmlkopbmakcaaGreatBarK
import Derived.Test.YtobmlkopbmakcaaGreatVmK
namespace Go.Vm
set_option maxRecDepth 20000
set_option linter.unusedVariables false
set_option linter.unusedSimpArgs false
open Go Go.RowKit Go.Proofs

structure BD where
  id : Int
  gr : ByteArray
  ht : ByteArray
  len : Int
  m : Nat
  D0 : Nat → Int
  D1 : Nat → Int
abbrev defS (m : Nat) (D0 D1 : Nat → Int) : SV := .sl m 2 fun i j => match j with
  | 0 => i64 (D0 i)
  | _ => i64 (D1 i)
abbrev barL (b : BD) : List SV := [i64 b.id, .v (.string b.gr), .v (.string b.ht), i64 b.len, defS b.m b.D0 b.D1]
abbrev barD (b : BD) : DV := .agg (barL b)
def wrongD (b : BD) (i : Nat) : Bool := decide (b.D0 i < 0) || decide (b.D0 i ≥ b.D1 i) || decide (b.D1 i > b.len)
def soundB (b : BD) : Bool := withinI b.len 1 2000 && decide ((b.m : Int) ≤ 6) && !anyB (wrongD b) b.m

theorem index2_det (n : Nat) (X Y : Nat → Int) (hn : n ≤ maxLen) (f q : Nat) (cap : Nat → SV) (b : Nat → Bool) (hf : ∀ i, i < n → Det Tryz.prog f ([.agg [i64 (X i), i64 (Y i)]] ++ capsL q cap) (tbool (b i))) :
    Det Tryz.prog 69 [.one (defS n X Y), .one (.fn f q cap)] (tint (firstAt b n 0)) := by
  have hm : (n : Int) < 9223372036854775808 := by simp only [maxLen] at hn; omega
  refine det_of_awp TTok mixed Tryz.func69 rfl rfl [] (Nat.le_of_ble_eq_true rfl) ?_
  refine Loop.by (α := Nat) (fun k => [(0, .d (.one (defS n X Y))), (1, .d (.one (.fn f q cap))), (7, tint n), (8, tint k)]) (fun _ => []) (fun k => k ≤ n ∧ firstAt b (n - k) k = firstAt b n 0) (fun k => n - k)
    (Adj.at 0 ⟨Nat.zero_le _, rfl⟩ .nil (.cons .same (.cons .same (.cons .same (.cons .same .nil))))) (fun k hi => ?_)
  obtain ⟨hk, hi⟩ := hi
  refine Split.mk (fun h3 => ?_) (fun h3 => ?_)
  · have hlt : k < n := by have := of_decide_eq_true h3; omega
    have hw64 : IntKind.i64.wrap ((k : Int) + 1) = ((k + 1 : Nat) : Int) := (w64_id ⟨by omega, by omega⟩).trans (by omega)
    obtain ⟨m, hm'⟩ : ∃ m, n - k = m + 1 := ⟨n - k - 1, by omega⟩
    rw [hm'] at hi
    simp only [firstAt] at hi
    refine Need.mk (by omega) ?_
    refine CallW.bool (hf k hlt) (fun c hc => ?_)
    refine Split.mk (fun h4 => ?_) (fun h4 => ?_)
    · refine Fin.int ?_
      rw [← hi, ← hc, h4]
      rfl
    · refine Adj.back (x := k) (k + 1) ⟨hlt, ?_⟩ (by omega) .nil (.cons .same (.cons .same (.cons .same (.cons (SlotLe.int hw64) .nil))))
      rw [← hc, h4] at hi
      rw [show n - (k + 1) = m by omega]
      exact hi
  · have e : k = n := by have := of_decide_eq_false h3; omega
    subst e
    refine Fin.int ?_
    rw [← hi, Nat.sub_self]
    rfl
theorem contains2_det (n : Nat) (X Y : Nat → Int) (hn : n ≤ maxLen) (f q : Nat) (cap : Nat → SV) (b : Nat → Bool) (hf : ∀ i, i < n → Det Tryz.prog f ([.agg [i64 (X i), i64 (Y i)]] ++ capsL q cap) (tbool (b i))) :
    Det Tryz.prog 32 [.one (defS n X Y), .one (.fn f q cap)] (tbool (anyB b n)) := by
  refine det_of_awp TTok mixed Tryz.func32 rfl rfl [] (Nat.le_of_ble_eq_true rfl) ?_
  refine CallW.mk' (index2_det n X Y hn f q cap b hf) ?_
  exact Fin.rfl'

theorem wrong_det (b : BD) (i : Nat) (cell : Nat → SV) (hc : cell 3 = i64 b.len) : Det Tryz.prog 66 [.agg [i64 (b.D0 i), i64 (b.D1 i)], .one (.ad 5 cell)] (tbool (wrongD b i)) := by
  refine Det.le (args' := [.agg [i64 (b.D0 i), i64 (b.D1 i)], .one (.ad 5 fun j => match j with | 3 => i64 b.len | j => cell j)]) (.cons (DLe.refl _) (.cons (DLe.of_eq ?_) .nil)) ?_
  · congr 2
    funext j
    split
    · exact hc
    · rfl
  refine det_of_awp TTok mixed Tryz.func66 rfl rfl [] (Nat.le_of_ble_eq_true rfl) ?_
  repeat' first | refine Split.t ?_ | refine Split.f ?_ | refine Need.mk (by decide) ?_ | refine Split.mk (fun _ => ?_) (fun _ => ?_) | refine Fin.bool ?_
  all_goals simp_all [wrongD]
  all_goals (intros; omega)
theorem sound_det (b : BD) (hm : b.m ≤ maxLen) : Det Tryz.prog 28 [barD b] (tbool (soundB b)) := by
  refine det_of_awp TTok mixed Tryz.func28 rfl rfl [] (Nat.le_of_ble_eq_true rfl) ?_
  have e : soundB b = (withinI b.len 1 2000 && decide ((b.m : Int) ≤ 6) && !anyB (wrongD b) b.m) := rfl
  refine CallW.bool (long_det _) (fun b1 h1 => ?_)
  rw [← h1] at e
  rw [e]
  refine Split.mk (fun h => ?_) (fun h => ?_)
  · subst h
    repeat refine Split.t ?_
    refine Split.mk (fun h => ?_) (fun h => ?_)
    · repeat refine Split.t ?_
      refine CallW.bool (contains2_det b.m b.D0 b.D1 hm 66 1 _ (wrongD b) ?_) (fun b2 h2 => ?_)
      · exact fun i _ => wrong_det b i _ rfl
      repeat refine Split.t ?_
      refine Fin.bool ?_
      rw [h, h2]
      rfl
    · repeat refine Split.f ?_
      refine Fin.bool ?_
      rw [h]
      rfl
  · subst h
    repeat refine Split.f ?_
    exact Fin.bool rfl
/-! ### offsets -/
def clashB (b : BD) (lo hi : Int) (d : Nat) : Bool := decide (lo < b.D1 d) && decide (b.D0 d < hi)
def fitsB (n : Nat) (R : Nat → BP) (X : Nat → Int) (b : BD) (k : Nat) : Bool := !anyB (fun i => anyB (clashB b (extLo (R i) (w64 (k + X i))) (extHi (R i) (w64 (k + X i)))) b.m) n
def srch (f : Nat → Bool) : Nat → Nat → Option Nat
  | 0, _ => none
  | c + 1, o => bif f o then some o else srch f c (o + 1)
def offT (o : Option Nat) : TV := match o with
  | none => twoT 0 8
  | some k => twoT k 0
structure SD (b : BD) : Prop where
  l1 : 1 ≤ b.len
  l2 : b.len ≤ 2000
  m6 : b.m ≤ 6
  ok : ∀ d, d < b.m → 0 ≤ b.D0 d ∧ b.D0 d < b.D1 d ∧ b.D1 d ≤ b.len
theorem SD.of {b : BD} (h : soundB b = true) : SD b := by
  simp only [soundB, withinI, Bool.and_eq_true, decide_eq_true_eq, Bool.not_eq_true'] at h
  refine ⟨by omega, by omega, by omega, fun d hd => ?_⟩
  cases hw : wrongD b d with
  | true => rw [anyB_t hd hw] at h; simp at h
  | false =>
    simp only [wrongD, Bool.or_eq_false_iff, decide_eq_false_iff_not] at hw
    omega

theorem clash_det (lo hi d0 d1 : Int) (c0 c1 : Nat → SV) (h0 : c0 0 = i64 lo) (h1 : c1 0 = i64 hi) (hlh : lo < hi) (hd : d0 < d1) : Det Tryz.prog 33 [.agg [i64 d0, i64 d1], .one (.ad 1 c0), .one (.ad 1 c1)] (tbool (decide (lo < d1) && decide (d0 < hi))) := by
  refine Det.le (args' := [.agg [i64 d0, i64 d1], .one (.ad 1 fun j => match j with | 0 => i64 lo | j => c0 j), .one (.ad 1 fun j => match j with | 0 => i64 hi | j => c1 j)]) (.cons (DLe.refl _) (.cons (DLe.of_eq ?_) (.cons (DLe.of_eq ?_) .nil))) ?_
  · congr 2; funext j; split
    · exact h0
    · rfl
  · congr 2; funext j; split
    · exact h1
    · rfl
  refine det_of_awp TTok mixed Tryz.func33 rfl rfl [] (Nat.le_of_ble_eq_true rfl) ?_
  repeat' first | refine Need.mk (by decide) ?_ | refine Fin.bool ?_
  rw [Bool.eq_iff_iff]
  simp only [Bool.and_eq_true, decide_eq_true_eq]
  omega

theorem ext_plain {p : BP} (h : VP p) {a : Int} (h0 : 0 ≤ a) (h1 : a ≤ 1000000) : extLo p a = a - maxI 0 p.left ∧ extHi p a = a + p.len + maxI 0 p.right ∧ extE p a = 0 := by
  obtain ⟨l1, l2, a1, a2, b1, b2, t1, t2, tt⟩ := h
  have m1 := maxI_0 p.left
  have m2 := maxI_0 p.right
  refine ⟨?_, ?_, ?_⟩
  · unfold extLo
    simp (disch := omega) only [wid']
  · unfold extHi
    simp (disch := omega) only [wid']
  · have hv : validP p = true := VP.valid ⟨l1, l2, a1, a2, b1, b2, t1, t2, tt⟩
    simp only [extE, hv, withinI, Bool.true_and, Bool.and_eq_true, decide_eq_true_eq]
    rw [if_pos (by omega)]
theorem ext_lt {p : BP} (h : VP p) {a : Int} (h0 : 0 ≤ a) (h1 : a ≤ 1000000) : extLo p a < extHi p a := by
  obtain ⟨e1, e2, _⟩ := ext_plain h h0 h1
  have m1 := maxI_0 p.left
  have m2 := maxI_0 p.right
  have := h.l1
  omega
theorem fits_det {n : Nat} {R : Nat → BP} {kerf : Int} {b : BD} (V : VR n R kerf) (B : SD b) (k : Nat) (hk : k ≤ 2000) (c0 c1 c2 : Nat → SV) (h0 : c0 0 = rowS n R) (h1 : c1 0 = intS n (placeI R kerf)) (h2 : c2 4 = defS b.m b.D0 b.D1) :
    Det Tryz.prog 30 [.one (i64 k), .one (.ad 1 c0), .one (.ad 1 c1), .one (.ad 5 c2)] (tbool (fitsB n R (placeI R kerf) b k)) := by
  have hn40 := V.n40
  refine Det.le (args' := [.one (i64 k), .one (.ad 1 fun j => match j with | 0 => rowS n R | j => c0 j), .one (.ad 1 fun j => match j with | 0 => intS n (placeI R kerf) | j => c1 j), .one (.ad 5 fun j => match j with | 4 => defS b.m b.D0 b.D1 | j => c2 j)]) (.cons (DLe.refl _) (.cons (DLe.of_eq ?_) (.cons (DLe.of_eq ?_) (.cons (DLe.of_eq ?_) .nil)))) ?_
  · congr 2; funext j; split
    · exact h0
    · rfl
  · congr 2; funext j; split
    · exact h1
    · rfl
  · congr 2; funext j; split
    · exact h2
    · rfl
  refine det_of_awp TTok mixed Tryz.func30 rfl rfl [] (Nat.le_of_ble_eq_true rfl) ?_
  refine Loop.by (α := Nat) (fun q => [(0, tint k), (1, .d (.one (.ad 1 fun j => match j with | 0 => rowS n R | j => c0 j))), (2, .d (.one (.ad 1 fun j => match j with | 0 => intS n (placeI R kerf) | j => c1 j))), (3, .d (.one (.ad 5 fun j => match j with | 4 => defS b.m b.D0 b.D1 | j => c2 j))), (10, .d (.one (rowS n R))), (11, tint n), (12, tint q)]) (fun _ => [])
    (fun q => q ≤ n ∧ ∀ i, i < q → anyB (clashB b (extLo (R i) (w64 (k + placeI R kerf i))) (extHi (R i) (w64 (k + placeI R kerf i)))) b.m = false) (fun q => n - q)
    (Adj.at 0 ⟨Nat.zero_le _, fun _ h => absurd h (Nat.not_lt_zero _)⟩ .nil (.cons .same (.cons .same (.cons .same (.cons .same (.cons .same (.cons .same (.cons .same .nil)))))))) (fun q hi => ?_)
  obtain ⟨hq, hi⟩ := hi
  refine Split.mk (fun h3 => ?_) (fun h3 => ?_)
  · have hlt : q < n := by have := of_decide_eq_true h3; omega
    have hw64 : IntKind.i64.wrap ((q : Int) + 1) = ((q + 1 : Nat) : Int) := (w64_id ⟨by omega, by omega⟩).trans (by omega)
    refine Need.mk (by omega) ?_
    refine Need.mk (by omega) ?_
    have hp := place_b V q hlt
    have ew : w64 ((k : Int) + placeI R kerf q) = k + placeI R kerf q := w64_id ⟨by omega, by omega⟩
    have hl := ext_lt (V.vp q hlt) (a := w64 (k + placeI R kerf q)) (by omega) (by omega)
    refine CallW.tup2 (extent_det (R q) (w64 (k + placeI R kerf q))) (fun lo hh hlo hhi => ?_)
    rw [← hlo, ← hhi] at hl
    refine Need.mk (by kernel_rfl) ?_
    refine CallW.bool (contains2_det b.m b.D0 b.D1 (Nat.le_trans B.m6 (by decide)) 33 2 _ (clashB b lo hh) ?_) (fun b2 hb2 => ?_)
    · exact fun d hd => clash_det lo hh (b.D0 d) (b.D1 d) _ _ rfl rfl hl (B.ok d hd).2.1
    rw [hlo, hhi] at hb2
    refine Split.mk (fun h4 => ?_) (fun h4 => ?_)
    · refine Fin.bool ?_
      rw [fitsB, anyB_t hlt (by rw [← hb2]; exact h4)]
      rfl
    · refine Adj.back (x := q) (q + 1) ⟨hlt, fun i hik => ?_⟩ (by omega) .nil (.cons .same (.cons .same (.cons .same (.cons .same (.cons .same (.cons .same (.cons (SlotLe.int hw64) .nil)))))))
      by_cases e : i = q
      · subst e; rw [← hb2]; exact h4
      · exact hi i (by omega)
  · have e : q = n := by have := of_decide_eq_false h3; omega
    subst e
    refine Fin.bool ?_
    rw [fitsB, anyB_f hi]
    rfl

end Go.Vm
namespace Go.Vm
set_option maxRecDepth 20000
set_option linter.unusedVariables false
set_option linter.unusedSimpArgs false
open Go Go.RowKit Go.Proofs

def offR (n : Nat) (R : Nat → BP) (kerf : Int) (b : BD) : TV :=
  if errI n R kerf = 1 ∨ soundB b = false then twoT 0 1 else if errI n R kerf ≠ 0 then twoT 0 (errI n R kerf) else
    offT (srch (fitsB n R (placeI R kerf) b) (b.len - lengthI n R kerf + 1).toNat 0)

theorem loop_c {k : Nat} {L len : Int} (h0 : 0 ≤ L) (h1 : L ≤ 110000) (hk : k ≤ 2001) : w64 ((k : Int) + L) ≤ len ↔ k < (len - L + 1).toNat := by
  rw [wid' (by omega) (by omega)]
  omega
theorem boffset_det (n : Nat) (R : Nat → BP) (kerf : Int) (b : BD) (hn : n ≤ maxLen) (hm : b.m ≤ maxLen) : Det Tryz.prog 10 [.one (rowS n R), .one (i64 kerf), barD b] (offR n R kerf b) := by
  refine det_of_awp TTok mixed Tryz.func10 rfl rfl [] (Nat.le_of_ble_eq_true rfl) ?_
  refine CallW.int (check_det n R kerf hn) (fun e he => ?_)
  refine Split.mk (fun h => ?_) (fun h => ?_)
  · have h1 : e = 1 := by simpa using h
    repeat refine Split.t ?_
    refine Fin.eq ?_
    rw [offR, if_pos (.inl (by rw [← he, h1]))]
  repeat refine Split.f ?_
  refine CallW.bool (sound_det b hm) (fun sb hsb => ?_)
  repeat refine Split.f ?_
  refine Split.mk (fun h2 => ?_) (fun h2 => ?_)
  · have h1 : sb = false := by simpa using h2
    refine Fin.eq ?_
    rw [offR, if_pos (.inr (by rw [← hsb, h1]))]
  have h1 : ¬ e = 1 := by simpa using h
  have hs : sb = true := by simpa using h2
  have hnot : ¬ (errI n R kerf = 1 ∨ soundB b = false) := by rw [← he, ← hsb, hs]; simp [h1]
  refine Split.mk (fun h3 => ?_) (fun h3 => ?_)
  · have : e ≠ 0 := by simpa using h3
    refine Fin.eq ?_
    rw [offR, if_neg hnot, if_pos (by rw [← he]; exact this), ← he]
  have h0 : e = 0 := by simpa using h3
  have V := VR.of_err (he.symm.trans h0)
  have B := SD.of (hsb.symm.trans hs)
  have hn40 := V.n40
  have hlen := B.l2
  have eR : offR n R kerf b = offT (srch (fitsB n R (placeI R kerf) b) (b.len - lengthI n R kerf + 1).toNat 0) := by
    rw [offR, if_neg hnot, if_neg (by rw [← he]; simp [h0])]
  rw [eR]
  have hL := length_b V
  refine CallW.mk' (places_det n R kerf (by omega)) ?_
  refine CallW.int (len_det n R kerf (by omega)) (fun L hLe => ?_)
  rw [← hLe] at hL ⊢
  refine Loop.by (α := Nat) (fun k => [(5, .ptr 5 0), (10, tint L), (11, .d (.one (.fn 30 3 fun j => match j with | 0 => .ad 1 (fun j => match j with | 0 => rowS n R | _ => .v Go.undef) | 1 => .ad 1 (fun j => match j with | 0 => intS n (placeI R kerf) | _ => .v Go.undef) | 2 => .ad 5 (fun j => match j with | 0 => i64 b.id | 1 => .v (.string b.gr) | 2 => .v (.string b.ht) | 3 => i64 b.len | 4 => defS b.m b.D0 b.D1 | _ => .v Go.undef) | _ => .v Go.undef))), (12, tint k)]) (fun _ => [(5, .ro (barL b))])
    (fun k => k ≤ (b.len - L + 1).toNat ∧ k ≤ 2001 ∧ srch (fitsB n R (placeI R kerf) b) ((b.len - L + 1).toNat - k) k = srch (fitsB n R (placeI R kerf) b) (b.len - L + 1).toNat 0) (fun k => 2001 - k)
    (Adj.at 0 ⟨Nat.zero_le _, Nat.zero_le _, rfl⟩ (.cons (.ro (LLe.of_eq rfl)) .nil) (.cons (.ro rfl rfl) (.cons .same (.cons (.data (DLe.of_eq ?_)) (.cons .same .nil))))) (fun k hi => ?_)
  · congr 2
    funext j
    rcases j with _ | _ | _ | j
    · show SV.ad _ _ = SV.ad _ _
      congr 1
      funext j
      rcases j with _ | j <;> rfl
    · show SV.ad _ _ = SV.ad _ _
      congr 1
      funext j
      rcases j with _ | j <;> rfl
    · show SV.ad _ _ = SV.ad _ _
      congr 1
      funext j
      rcases j with _ | _ | _ | _ | _ | j <;> rfl
    · rfl
  obtain ⟨hk, hk2, hi⟩ := hi
  refine Split.mk (fun h4 => ?_) (fun h4 => ?_)
  · have hlt : k < (b.len - L + 1).toNat := (loop_c hL.1 hL.2 hk2).1 (of_decide_eq_true h4)
    have hw64 : IntKind.i64.wrap ((k : Int) + 1) = ((k + 1 : Nat) : Int) := (w64_id ⟨by omega, by omega⟩).trans (by omega)
    obtain ⟨q, hq⟩ : ∃ q, (b.len - L + 1).toNat - k = q + 1 := ⟨(b.len - L + 1).toNat - k - 1, by omega⟩
    rw [hq] at hi
    simp only [srch] at hi
    refine CallW.bool (fits_det V B k (by omega) _ _ _ rfl rfl rfl) (fun c hc => ?_)
    rw [← hc] at hi
    refine Split.mk (fun h5 => ?_) (fun h5 => ?_)
    · rw [h5] at hi
      refine Fin.eq ?_
      rw [← hi]
      rfl
    · rw [h5] at hi
      refine Adj.back (x := k) (k + 1) ⟨by omega, by omega, ?_⟩ (by omega) (.cons (.ro (LLe.of_eq rfl)) .nil) (.cons (.ro rfl rfl) (.cons .same (.cons .same (.cons (SlotLe.int hw64) .nil))))
      rw [show (b.len - L + 1).toNat - (k + 1) = q by omega]
      exact hi
  · have hge : ¬ k < (b.len - L + 1).toNat := fun h => of_decide_eq_false h4 ((loop_c hL.1 hL.2 hk2).2 h)
    rw [show (b.len - L + 1).toNat - k = 0 by omega] at hi
    refine Fin.eq ?_
    rw [← hi]
    rfl
end Go.Vm
namespace Go.Vm
set_option maxRecDepth 20000
set_option linter.unusedVariables false
set_option linter.unusedSimpArgs false
open Go Go.RowKit Go.Proofs

structure MP where
  m : Nat
  L : Nat → Int
  q : Nat
  D : Nat → Int
  st : Int
  kf : Int
abbrev mpL (p : MP) : List SV := [intS p.m p.L, intS p.q p.D, i64 p.st, i64 p.kf]
abbrev mpD (p : MP) : DV := .agg (mpL p)
def AtOk (p : MP) (i : Nat) : Prop := 1 ≤ p.L i ∧ p.L i ≤ p.st ∧ (0 < i → p.L i < p.L (i - 1)) ∧ 0 ≤ p.D i ∧ p.D i ≤ 1000
structure MOk (p : MP) : Prop where
  m1 : 1 ≤ p.m
  m2 : p.m ≤ 20
  qm : p.q = p.m
  s1 : 1 ≤ p.st
  s2 : p.st ≤ 2000
  k0 : 0 ≤ p.kf
  k1 : p.kf ≤ 100
  at' : ∀ i, i < p.m → AtOk p i
noncomputable def validM (p : MP) : Bool := @decide (MOk p) (Classical.propDecidable _)
theorem validM_t {p : MP} (h : MOk p) : true = validM p := (@decide_eq_true _ (Classical.propDecidable _) h).symm
theorem validM_f {p : MP} (h : MOk p → False) : false = validM p := (@decide_eq_false _ (Classical.propDecidable _) h).symm
theorem MOk.of {p : MP} (h : validM p = true) : MOk p := @of_decide_eq_true _ (Classical.propDecidable _) h
theorem pred_at {p : MP} {k : Nat} (h0 : 0 < k) (hk : (k : Int) < 9223372036854775808) : p.L (IntKind.i64.wrap ((k : Int) - 1)).toNat = p.L (k - 1) := by
  rw [wid (by omega) (by omega)]
  congr 1
  omega
theorem pred_in {m k : Nat} (h0 : 0 < k) (hk : (k : Int) < 9223372036854775808) (hm : k < m) : 0 ≤ IntKind.i64.wrap ((k : Int) - 1) ∧ IntKind.i64.wrap ((k : Int) - 1) < (m : Int) := by
  rw [wid (by omega) (by omega)]
  omega
theorem refvalid_det (p : MP) (hm : p.m ≤ maxLen) : Det Tryz.prog 8 [mpD p] (tbool (validM p)) := by
  have hm' : (p.m : Int) < 9223372036854775808 := by simp only [maxLen] at hm; omega
  refine det_of_awp TTok mixed Tryz.func8 rfl rfl [] (Nat.le_of_ble_eq_true rfl) ?_
  refine Split.mk (fun a1 => ?_) (fun a1 => ?_)
  · repeat' first | refine Split.t ?_ | refine Split.f ?_ | refine Fin.bool ?_ | fail
    exact validM_f (fun h => by have := of_decide_eq_true a1; have := h.m1; omega)
  repeat refine Split.f ?_
  refine Split.mk (fun a2 => ?_) (fun a2 => ?_)
  · repeat' first | refine Split.t ?_ | refine Split.f ?_ | refine Fin.bool ?_ | fail
    exact validM_f (fun h => by have := of_decide_eq_true a2; have := h.m2; omega)
  repeat refine Split.f ?_
  refine Split.mk (fun a3 => ?_) (fun a3 => ?_)
  · repeat' first | refine Split.t ?_ | refine Split.f ?_ | refine Fin.bool ?_ | fail
    exact validM_f (fun h => by rw [h.qm] at a3; simp at a3)
  repeat refine Split.f ?_
  refine Split.mk (fun a4 => ?_) (fun a4 => ?_)
  · repeat' first | refine Split.t ?_ | refine Split.f ?_ | refine Fin.bool ?_ | fail
    exact validM_f (fun h => by have := of_decide_eq_true a4; have := h.s1; omega)
  repeat refine Split.f ?_
  refine Split.mk (fun a5 => ?_) (fun a5 => ?_)
  · repeat' first | refine Split.t ?_ | refine Split.f ?_ | refine Fin.bool ?_ | fail
    exact validM_f (fun h => by have := of_decide_eq_true a5; have := h.s2; omega)
  repeat refine Split.f ?_
  refine Split.mk (fun a6 => ?_) (fun a6 => ?_)
  · repeat' first | refine Split.t ?_ | refine Split.f ?_ | refine Fin.bool ?_ | fail
    exact validM_f (fun h => by have := of_decide_eq_true a6; have := h.k0; omega)
  repeat refine Split.f ?_
  refine Split.mk (fun a7 => ?_) (fun a7 => ?_)
  · repeat' first | refine Split.t ?_ | refine Split.f ?_ | refine Fin.bool ?_ | fail
    exact validM_f (fun h => by have := of_decide_eq_true a7; have := h.k1; omega)
  repeat refine Split.f ?_
  replace a1 := of_decide_eq_false a1
  replace a2 := of_decide_eq_false a2
  replace a4 := of_decide_eq_false a4
  replace a5 := of_decide_eq_false a5
  replace a6 := of_decide_eq_false a6
  replace a7 := of_decide_eq_false a7
  have hq : p.q = p.m := by simp at a3; omega
  refine Loop.by (α := Nat) (fun k => [(1, .ptr 1 0), (3, tint p.m), (4, tint k)]) (fun _ => [(1, .box (mpL p))]) (fun k => k ≤ p.m ∧ ∀ i, i < k → AtOk p i) (fun k => p.m - k)
    (Adj.at 0 ⟨Nat.zero_le _, fun _ h => absurd h (Nat.not_lt_zero _)⟩ (.cons (.box (LLe.of_eq rfl)) .nil) (.cons (.box rfl rfl) (.cons .same (.cons .same .nil)))) (fun k hi => ?_)
  obtain ⟨hk, hi⟩ := hi
  refine Split.mk (fun h3 => ?_) (fun h3 => ?_)
  · have hlt : k < p.m := by have := of_decide_eq_true h3; omega
    have hw64 : IntKind.i64.wrap ((k : Int) + 1) = ((k + 1 : Nat) : Int) := (w64_id ⟨by omega, by omega⟩).trans (by omega)
    have hpr : 0 < k → p.L (IntKind.i64.wrap ((k : Int) - 1)).toNat = p.L (k - 1) := fun h0 => pred_at h0 (by omega)
    have hpi : 0 < k → 0 ≤ IntKind.i64.wrap ((k : Int) - 1) ∧ IntKind.i64.wrap ((k : Int) - 1) < (p.m : Int) := fun h0 => pred_in h0 (by omega) hlt
    repeat' first | refine Split.t ?_ | refine Split.f ?_ | refine Need.mk (by kernel_rfl) ?_ | refine Need.mk (by omega) ?_ | refine Need.mk (hpi (by have := of_decide_eq_true ‹decide ((k : Int) > 0) = true›; omega)) ?_ | refine Split.mk (fun _ => ?_) (fun _ => ?_) | refine Fin.bool ?_ | fail
    all_goals first
      | (refine validM_f (fun h => ?_)
         obtain ⟨g1, g2, g3, g4, g5⟩ := h.at' k hlt
         simp_all
         try omega)
      | (refine Adj.back (x := k) (k + 1) ⟨hlt, fun i hik => ?_⟩ (by omega) (.cons (.box (LLe.of_eq rfl)) .nil) (.cons (.box rfl rfl) (.cons .same (.cons (SlotLe.int hw64) .nil)))
         by_cases e : i = k
         · subst e
           refine ⟨?_, ?_, ?_, ?_, ?_⟩ <;> simp_all <;> omega
         · exact hi i (by omega))
      | trace_state
  · have e : k = p.m := by have := of_decide_eq_false h3; omega
    subst e
    repeat' first | refine Split.t ?_ | refine Split.f ?_ | refine Fin.bool ?_ | fail
    exact validM_t ⟨by omega, by omega, hq, by omega, by omega, by omega, by omega, hi⟩
theorem patvalid_det (p : MP) (hm : p.m ≤ maxLen) : Det Tryz.prog 70 [mpD p] (tbool (validM p)) := by
  have hm' : (p.m : Int) < 9223372036854775808 := by simp only [maxLen] at hm; omega
  refine det_of_awp TTok mixed Tryz.func70 rfl rfl [] (Nat.le_of_ble_eq_true rfl) ?_
  refine Split.mk (fun a1 => ?_) (fun a1 => ?_)
  · repeat' first | refine Split.t ?_ | refine Split.f ?_ | refine Fin.bool ?_ | fail
    exact validM_f (fun h => by have := of_decide_eq_true a1; have := h.m1; omega)
  repeat refine Split.f ?_
  refine Split.mk (fun a2 => ?_) (fun a2 => ?_)
  · repeat' first | refine Split.t ?_ | refine Split.f ?_ | refine Fin.bool ?_ | fail
    exact validM_f (fun h => by have := of_decide_eq_true a2; have := h.m2; omega)
  repeat refine Split.f ?_
  refine Split.mk (fun a3 => ?_) (fun a3 => ?_)
  · repeat' first | refine Split.t ?_ | refine Split.f ?_ | refine Fin.bool ?_ | fail
    exact validM_f (fun h => by rw [h.qm] at a3; simp at a3)
  repeat refine Split.f ?_
  refine Split.mk (fun a4 => ?_) (fun a4 => ?_)
  · repeat' first | refine Split.t ?_ | refine Split.f ?_ | refine Fin.bool ?_ | fail
    exact validM_f (fun h => by have := of_decide_eq_true a4; have := h.s1; omega)
  repeat refine Split.f ?_
  refine Split.mk (fun a5 => ?_) (fun a5 => ?_)
  · repeat' first | refine Split.t ?_ | refine Split.f ?_ | refine Fin.bool ?_ | fail
    exact validM_f (fun h => by have := of_decide_eq_true a5; have := h.s2; omega)
  repeat refine Split.f ?_
  refine Split.mk (fun a6 => ?_) (fun a6 => ?_)
  · repeat' first | refine Split.t ?_ | refine Split.f ?_ | refine Fin.bool ?_ | fail
    exact validM_f (fun h => by have := of_decide_eq_true a6; have := h.k0; omega)
  repeat refine Split.f ?_
  refine Split.mk (fun a7 => ?_) (fun a7 => ?_)
  · repeat' first | refine Split.t ?_ | refine Split.f ?_ | refine Fin.bool ?_ | fail
    exact validM_f (fun h => by have := of_decide_eq_true a7; have := h.k1; omega)
  repeat refine Split.f ?_
  replace a1 := of_decide_eq_false a1
  replace a2 := of_decide_eq_false a2
  replace a4 := of_decide_eq_false a4
  replace a5 := of_decide_eq_false a5
  replace a6 := of_decide_eq_false a6
  replace a7 := of_decide_eq_false a7
  have hq : p.q = p.m := by simp at a3; omega
  refine Loop.by (α := Nat) (fun k => [(1, .ptr 1 0), (45, .d (.one (intS p.m p.L))), (46, tint p.m), (47, tint k)]) (fun _ => [(1, .box (mpL p))]) (fun k => k ≤ p.m ∧ ∀ i, i < k → AtOk p i) (fun k => p.m - k)
    (Adj.at 0 ⟨Nat.zero_le _, fun _ h => absurd h (Nat.not_lt_zero _)⟩ (.cons (.box (LLe.of_eq rfl)) .nil) (.cons (.box rfl rfl) (.cons .same (.cons .same (.cons .same .nil))))) (fun k hi => ?_)
  obtain ⟨hk, hi⟩ := hi
  refine Split.mk (fun h3 => ?_) (fun h3 => ?_)
  · have hlt : k < p.m := by have := of_decide_eq_true h3; omega
    have hw64 : IntKind.i64.wrap ((k : Int) + 1) = ((k + 1 : Nat) : Int) := (w64_id ⟨by omega, by omega⟩).trans (by omega)
    have hpr : 0 < k → p.L (IntKind.i64.wrap ((k : Int) - 1)).toNat = p.L (k - 1) := fun h0 => pred_at h0 (by omega)
    have hpi : 0 < k → 0 ≤ IntKind.i64.wrap ((k : Int) - 1) ∧ IntKind.i64.wrap ((k : Int) - 1) < (p.m : Int) := fun h0 => pred_in h0 (by omega) hlt
    repeat' first | refine Split.t ?_ | refine Split.f ?_ | refine Need.mk (by kernel_rfl) ?_ | refine Need.mk (by omega) ?_ | refine Need.mk (hpi (by have := of_decide_eq_true ‹decide ((k : Int) > 0) = true›; omega)) ?_ | refine Split.mk (fun _ => ?_) (fun _ => ?_) | refine Fin.bool ?_ | fail
    all_goals first
      | (refine validM_f (fun h => ?_)
         obtain ⟨g1, g2, g3, g4, g5⟩ := h.at' k hlt
         simp_all
         try omega)
      | (refine Adj.back (x := k) (k + 1) ⟨hlt, fun i hik => ?_⟩ (by omega) (.cons (.box (LLe.of_eq rfl)) .nil) (.cons (.box rfl rfl) (.cons .same (.cons .same (.cons (SlotLe.int hw64) .nil))))
         by_cases e : i = k
         · subst e
           refine ⟨?_, ?_, ?_, ?_, ?_⟩ <;> simp_all <;> omega
         · exact hi i (by omega))
      | trace_state
  · have e : k = p.m := by have := of_decide_eq_false h3; omega
    subst e
    repeat' first | refine Split.t ?_ | refine Split.f ?_ | refine Fin.bool ?_ | fail
    exact validM_t ⟨by omega, by omega, hq, by omega, by omega, by omega, by omega, hi⟩
end Go.Vm
namespace Go.Vm
set_option maxRecDepth 20000
set_option linter.unusedVariables false
set_option linter.unusedSimpArgs false
open Go Go.RowKit Go.Proofs

def FewP (p : MP) : Prop := p.m ≤ 25 ∧ p.q ≤ 25 ∧ (MOk p → (∀ i, i < p.m → p.D i ≤ 30) ∧ p.m ≤ 6 ∧ p.st ≤ 12 * p.L (p.m - 1))
noncomputable def fewM (p : MP) : Bool := @decide (FewP p) (Classical.propDecidable _)
theorem fewM_t {p : MP} (h : FewP p) : true = fewM p := (@decide_eq_true _ (Classical.propDecidable _) h).symm
theorem fewM_f {p : MP} (h : FewP p → False) : false = fewM p := (@decide_eq_false _ (Classical.propDecidable _) h).symm
theorem pfew_det (p : MP) (hm : p.m ≤ maxLen) : Det Tryz.prog 7 [mpD p] (tbool (fewM p)) := by
  refine det_of_awp TTok mixed Tryz.func7 rfl rfl [] (Nat.le_of_ble_eq_true rfl) ?_
  refine Split.mk (fun a1 => ?_) (fun a1 => ?_)
  · repeat' first | refine Split.t ?_ | refine Split.f ?_ | refine Fin.bool ?_ | fail
    exact fewM_f (fun h => by have := of_decide_eq_true a1; have := h.1; omega)
  repeat refine Split.f ?_
  refine Split.mk (fun a2 => ?_) (fun a2 => ?_)
  · repeat' first | refine Split.t ?_ | refine Split.f ?_ | refine Fin.bool ?_ | fail
    exact fewM_f (fun h => by have := of_decide_eq_true a2; have := h.2.1; omega)
  repeat refine Split.f ?_
  replace a1 := of_decide_eq_false a1
  replace a2 := of_decide_eq_false a2
  refine CallW.bool (refvalid_det p hm) (fun v hv => ?_)
  refine Split.mk (fun a3 => ?_) (fun a3 => ?_)
  · have hv' : v = false := by simpa using a3
    repeat' first | refine Split.t ?_ | refine Split.f ?_ | refine Fin.bool ?_ | fail
    exact fewM_t ⟨by omega, by omega, fun h => by rw [hv', ← validM_t h] at hv; cases hv⟩
  have hv' : v = true := by simpa using a3
  have H := MOk.of (hv.symm.trans hv')
  have hq := H.qm
  have hm1 := H.m1
  repeat refine Split.f ?_
  refine Loop.by (α := Nat) (fun k => [(1, .ptr 1 0), (3, tint k)]) (fun _ => [(1, .box (mpL p))]) (fun k => k ≤ p.m ∧ ∀ i, i < k → p.D i ≤ 30) (fun k => p.m - k)
    (Adj.at 0 ⟨Nat.zero_le _, fun _ h => absurd h (Nat.not_lt_zero _)⟩ (.cons (.box (LLe.of_eq rfl)) .nil) (.cons (.box rfl rfl) (.cons .same .nil))) (fun k hi => ?_)
  obtain ⟨hk, hi⟩ := hi
  refine Split.mk (fun h3 => ?_) (fun h3 => ?_)
  · have hlt : k < p.m := by have := of_decide_eq_true h3; omega
    have hw64 : IntKind.i64.wrap ((k : Int) + 1) = ((k + 1 : Nat) : Int) := (w64_id ⟨by omega, by omega⟩).trans (by omega)
    refine Need.mk (by omega) ?_
    refine Split.mk (fun h4 => ?_) (fun h4 => ?_)
    · repeat' first | refine Split.t ?_ | refine Split.f ?_ | refine Fin.bool ?_ | fail
      exact fewM_f (fun h => by
        have h5 := (h.2.2 H).1 k hlt
        have h6 : p.D k > 30 := of_decide_eq_true h4
        omega)
    · refine Adj.back (x := k) (k + 1) ⟨hlt, fun i hik => ?_⟩ (by omega) (.cons (.box (LLe.of_eq rfl)) .nil) (.cons (.box rfl rfl) (.cons (SlotLe.int hw64) .nil))
      by_cases e : i = k
      · subst e
        have h6 : ¬ p.D i > 30 := of_decide_eq_false h4
        omega
      · exact hi i (by omega)
  · have e : k = p.m := by have := of_decide_eq_false h3; omega
    subst e
    obtain ⟨l1, l2, _, _, _⟩ := H.at' (p.m - 1) (by omega)
    have hs2 := H.s2
    refine Split.mk (fun h4 => ?_) (fun h4 => ?_)
    · have ew : IntKind.i64.wrap ((p.m : Int) - 1) = ((p.m - 1 : Nat) : Int) := by rw [wid (by omega) (by omega)]; omega
      have eT : p.L (IntKind.i64.wrap ((p.m : Int) - 1)).toNat = p.L (p.m - 1) := by rw [ew, Int.toNat_natCast]
      repeat' first | refine Split.t ?_ | refine Split.f ?_ | refine Need.mk (by kernel_rfl) ?_ | refine Need.mk (by rw [ew]; omega) ?_ | refine Fin.bool ?_ | fail
      rw [eT, wid (by omega) (by omega)]
      by_cases h5 : p.st ≤ 12 * p.L (p.m - 1)
      · rw [decide_eq_true h5]
        exact fewM_t ⟨by omega, by omega, fun _ => ⟨hi, by have := of_decide_eq_true h4; omega, h5⟩⟩
      · rw [decide_eq_false h5]
        exact fewM_f (fun h => h5 (h.2.2 H).2.2)
    · repeat' first | refine Split.t ?_ | refine Split.f ?_ | refine Need.mk (by kernel_rfl) ?_ | refine Fin.bool ?_ | fail
      exact fewM_f (fun h => by have := of_decide_eq_false h4; have := (h.2.2 H).2.1; omega)
theorem size_det (p : MP) (i : Nat) (hi : i < p.m) (hm : p.m ≤ maxLen) : Det Tryz.prog 71 [mpD p, .one (i64 i)] (tint (w64 (p.L i + p.kf))) := by
  refine det_of_awp TTok mixed Tryz.func71 rfl rfl [] (Nat.le_of_ble_eq_true rfl) ?_
  refine Need.mk (by omega) ?_
  refine Need.mk (by kernel_rfl) ?_
  exact Fin.rfl'
def need (p : MP) (A : Nat → Int) : Nat → Int
  | 0 => 0
  | k + 1 => need p A k + A k * (p.L k + p.kf)
theorem need_le {p : MP} {A : Nat → Int} (H : MOk p) (hA : ∀ i, i < p.m → 0 ≤ A i) : ∀ {j k : Nat}, k ≤ p.m → j ≤ k → need p A j ≤ need p A k
  | j, 0, _, hj => by obtain rfl : j = 0 := by omega
                      exact Int.le_refl _
  | j, k + 1, hk, hj => by
    by_cases e : j = k + 1
    · subst e; exact Int.le_refl _
    · have h1 := need_le H hA (j := j) (k := k) (by omega) (by omega)
      obtain ⟨l1, _⟩ := H.at' k (by omega)
      have h2 := H.k0
      have h3 : 0 ≤ A k * (p.L k + p.kf) := Int.mul_nonneg (hA k (by omega)) (by omega)
      show _ ≤ need p A k + _
      omega
abbrev pairB (x : Int) (b : Bool) : TV := .tup [.one (i64 x), .one (.v (.bool b))]
def freeT (p : MP) (A : Nat → Int) : TV := if need p A p.m ≤ p.st + p.kf then pairB (p.st + p.kf - need p A p.m) true else pairB 0 false
theorem free_det (p : MP) (A : Nat → Int) (H : MOk p) (hA : ∀ i, i < p.m → 0 ≤ A i ∧ A i ≤ 7) : Det Tryz.prog 34 [mpD p, .one (intS p.m A)] (freeT p A) := by
  have hm2 := H.m2
  have hk0 := H.k0
  have hk1 := H.k1
  have hs1 := H.s1
  have hs2 := H.s2
  have hm : p.m ≤ maxLen := by simp only [maxLen]; omega
  refine det_of_awp TTok mixed Tryz.func34 rfl rfl [] (Nat.le_of_ble_eq_true rfl) ?_
  refine CallW.mk' ((patvalid_det p hm).eq (by rw [← validM_t H])) ?_
  repeat' first | refine Split.t ?_ | refine Split.f ?_ | refine Split.isF (by simp) ?_ | fail
  refine Loop.by (α := Nat) (fun k => [(1, .d (.one (intS p.m A))), (2, .ptr 2 0), (6, tint (p.st + p.kf - need p A k)), (25, .d (.one (intS p.m A))), (26, tint p.m), (27, tint k)]) (fun _ => [(2, .box (mpL p))]) (fun k => k ≤ p.m ∧ need p A k ≤ p.st + p.kf) (fun k => p.m - k)
    (Adj.at 0 ⟨Nat.zero_le _, by show (0 : Int) ≤ _; omega⟩ (.cons (.box (LLe.of_eq rfl)) .nil) (.cons .same (.cons (.box rfl rfl) (.cons (SlotLe.int (by rw [wid (by omega) (by omega)]; show _ = _ - (0 : Int); omega)) (.cons .same (.cons .same (.cons .same .nil))))))) (fun k hi => ?_)
  obtain ⟨hk, hi⟩ := hi
  refine Split.mk (fun h3 => ?_) (fun h3 => ?_)
  · have hlt : k < p.m := by have := of_decide_eq_true h3; omega
    have hw64 : IntKind.i64.wrap ((k : Int) + 1) = ((k + 1 : Nat) : Int) := (w64_id ⟨by omega, by omega⟩).trans (by omega)
    obtain ⟨l1, l2, _⟩ := H.at' k hlt
    obtain ⟨a1, a2⟩ := hA k hlt
    have ew : w64 (p.L k + p.kf) = p.L k + p.kf := wid' (by omega) (by omega)
    have hnn : 0 ≤ need p A k := need_le H (fun i hi => (hA i hi).1) (j := 0) (k := k) (by omega) (by omega)
    have hdiv : A k > IntKind.i64.wrap ((p.st + p.kf - need p A k).tdiv (p.L k + p.kf)) ↔ p.st + p.kf - need p A k < A k * (p.L k + p.kf) := by
      have h0 : (p.st + p.kf - need p A k) / (p.L k + p.kf) ≤ p.st + p.kf - need p A k := Int.ediv_le_self _ (by omega)
      have h1 : 0 ≤ (p.st + p.kf - need p A k) / (p.L k + p.kf) := Int.ediv_nonneg (by omega) (by omega)
      rw [Int.tdiv_eq_ediv_of_nonneg (by omega), wid (by omega) (by omega), gt_iff_lt, Int.ediv_lt_iff_lt_mul (by omega)]
    refine Need.mk (by omega) ?_
    refine Split.mk (fun h4 => ?_) (fun h4 => ?_)
    · exfalso
      have h4 : A k < 0 := of_decide_eq_true h4
      omega
    repeat' first | refine Split.t ?_ | refine Split.f ?_ | fail
    refine CallW.mk' ((size_det p k hlt hm).eq (by rw [ew])) ?_
    repeat' first | refine Split.t ?_ | refine Split.f ?_ | fail
    refine Need.mk (by omega) ?_
    repeat' first | refine Split.t ?_ | refine Split.f ?_ | fail
    refine Split.mk (fun h5 => ?_) (fun h5 => ?_)
    · repeat' first | refine Split.t ?_ | refine Split.f ?_ | fail
      refine Fin.eq ?_
      rw [show freeT p A = _ from if_neg (fun h => by
        have h5' : A k > IntKind.i64.wrap ((p.st + p.kf - need p A k).tdiv (p.L k + p.kf)) := of_decide_eq_true h5
        have := hdiv.1 h5'
        have := need_le H (fun i hi => (hA i hi).1) (j := k + 1) (k := p.m) (Nat.le_refl _) hlt
        have : need p A (k + 1) = need p A k + A k * (p.L k + p.kf) := rfl
        omega)]
    · have h6 := mt hdiv.2 (show ¬ A k > _ from of_decide_eq_false h5)
      have e1 : need p A (k + 1) = need p A k + A k * (p.L k + p.kf) := rfl
      have h7 : 0 ≤ A k * (p.L k + p.kf) := Int.mul_nonneg a1 (by omega)
      repeat' first | refine Split.t ?_ | refine Split.f ?_ | fail
      refine CallW.mk' ((size_det p k hlt hm).eq (by rw [ew])) ?_
      refine Adj.back (x := k) (k + 1) ⟨hlt, by omega⟩ (by omega) (.cons (.box (LLe.of_eq rfl)) .nil) (.cons .same (.cons (.box rfl rfl) (.cons (SlotLe.int ?_) (.cons .same (.cons .same (.cons (SlotLe.int hw64) .nil))))))
      show IntKind.i64.wrap (p.st + p.kf - need p A k - IntKind.i64.wrap (A k * (p.L k + p.kf))) = _
      rw [wid (n := A k * (p.L k + p.kf)) (by omega) (by omega), wid (by omega) (by omega)]
      omega
  · have e : k = p.m := by have := of_decide_eq_false h3; omega
    subst e
    repeat' first | refine Split.t ?_ | refine Split.f ?_ | fail
    refine Fin.eq ?_
    rw [show freeT p A = _ from if_pos hi]
theorem fits_det' (p : MP) (A : Nat → Int) (H : MOk p) (hA : ∀ i, i < p.m → 0 ≤ A i ∧ A i ≤ 7) : Det Tryz.prog 11 [mpD p, .one (intS p.m A)] (tbool (decide (need p A p.m ≤ p.st + p.kf))) := by
  refine det_of_awp TTok mixed Tryz.func11 rfl rfl [] (Nat.le_of_ble_eq_true rfl) ?_
  by_cases h : need p A p.m ≤ p.st + p.kf
  · refine CallW.mk' ((free_det p A H hA).eq (if_pos h)) ?_
    refine Fin.bool ?_
    rw [decide_eq_true h]
  · refine CallW.mk' ((free_det p A H hA).eq (if_neg h)) ?_
    refine Fin.bool ?_
    rw [decide_eq_false h]
end Go.Vm
namespace Go.Vm
set_option maxRecDepth 20000
set_option linter.unusedVariables false
set_option linter.unusedSimpArgs false
open Go Go.RowKit Go.Proofs

theorem fits_none {n : Nat} {R : Nat → BP} {X : Nat → Int} {b : BD} (h : b.m = 0) (k : Nat) : fitsB n R X b k = true := by
  rw [fitsB, anyB_f]
  · rfl
  · intro i _
    exact anyB_f fun j hj => by omega
end Go.Vm
namespace Go.Vm
set_option maxRecDepth 20000
set_option linter.unusedVariables false
set_option linter.unusedSimpArgs false
open Go Go.RowKit Go.Proofs

abbrev strA : ByteArray := ⟨#[97]⟩
abbrev strG : ByteArray := ⟨#[103]⟩
abbrev Rw (l : List Int) (k : Nat) : BP := ⟨strA, strG, l.getD k 0, 0, 0⟩
def rl (p : MP) (A : Nat → Int) : Nat → List Int
  | 0 => []
  | i + 1 => rl p A i ++ List.replicate (A i).toNat (p.L i)
def tot (kf : Int) : List Int → Int
  | [] => 0
  | x :: r => x + kf + tot kf r
theorem tot_app (kf : Int) : ∀ a b : List Int, tot kf (a ++ b) = tot kf a + tot kf b
  | [], b => by simp [tot]
  | x :: a, b => by simp only [List.cons_append, tot, tot_app kf a b]; omega
theorem tot_rep (kf x : Int) : ∀ n : Nat, tot kf (List.replicate n x) = n * (x + kf)
  | 0 => by simp [tot]
  | n + 1 => by
    rw [List.replicate_succ, tot, tot_rep kf x n, show ((n + 1 : Nat) : Int) = n + 1 by omega, Int.add_mul]
    omega
theorem tot_rl (p : MP) (A : Nat → Int) : ∀ i : Nat, (∀ j, j < i → 0 ≤ A j) → tot p.kf (rl p A i) = need p A i
  | 0, _ => rfl
  | i + 1, h => by
    rw [rl, tot_app, tot_rl p A i (fun j hj => h j (by omega)), tot_rep, Int.toNat_of_nonneg (h i (by omega))]
    rfl
theorem rl_len (p : MP) (A : Nat → Int) : ∀ i : Nat, (∀ j, j < i → A j ≤ 7) → (rl p A i).length ≤ 7 * i
  | 0, _ => by simp [rl]
  | i + 1, h => by
    have := rl_len p A i (fun j hj => h j (by omega))
    have := h i (by omega)
    rw [rl, List.length_append, List.length_replicate]
    omega
theorem rl_mem {p : MP} (H : MOk p) (A : Nat → Int) : ∀ i : Nat, i ≤ p.m → ∀ x ∈ rl p A i, 1 ≤ x ∧ x ≤ 2000
  | 0, _, x, h => by simp [rl] at h
  | i + 1, hi, x, h => by
    rw [rl, List.mem_append] at h
    rcases h with h | h
    · exact rl_mem H A i (by omega) x h
    · obtain rfl := List.eq_of_mem_replicate h
      obtain ⟨l1, l2, _⟩ := H.at' i (by omega)
      have := H.s2
      omega
theorem tot_le {kf : Int} (h0 : 0 ≤ kf) (h1 : kf ≤ 100) : ∀ {l : List Int}, (∀ x ∈ l, 1 ≤ x ∧ x ≤ 2000) → 0 ≤ tot kf l ∧ tot kf l ≤ 2100 * l.length
  | [], _ => by simp [tot]
  | x :: r, h => by
    have h2 := tot_le h0 h1 (l := r) (fun y hy => h y (by simp [hy]))
    have h3 := h x (by simp)
    simp only [tot, List.length_cons]
    omega
theorem take_snoc {l : List Int} {k : Nat} (h : k < l.length) : l.take (k + 1) = l.take k ++ [l.getD k 0] := by
  rw [List.take_add_one]
  simp [List.getElem?_eq_getElem h]
theorem row_ok {kf : Int} (h0 : 0 ≤ kf) (h1 : kf ≤ 100) {l : List Int} (hl : ∀ x ∈ l, 1 ≤ x ∧ x ≤ 2000) (hn : l.length ≤ 40) : VR l.length (Rw l) kf := by
  refine ⟨hn, h0, h1, fun i hi => ?_⟩
  obtain ⟨a, b⟩ := hl (l.getD i 0) (by simp [List.getElem?_eq_getElem hi])
  have e : topI (Rw l i) = l.getD i 0 := by
    show w64 (w64 (l.getD i 0 + 0) + 0) = _
    rw [Int.add_zero, Int.add_zero, wid' (n := l.getD i 0) (by omega) (by omega), wid' (by omega) (by omega)]
  refine ⟨a, b, by show (-200 : Int) ≤ 0; omega, by show (0 : Int) ≤ 200; omega, by show (-200 : Int) ≤ 0; omega, by show (0 : Int) ≤ 200; omega, ?_, ?_, ?_⟩
  · show 1 ≤ l.getD i 0 + 0 + 0; omega
  · show l.getD i 0 + 0 + 0 ≤ 2000; omega
  · rw [e]; show l.getD i 0 = l.getD i 0 + 0 + 0; omega
theorem maxI_zero : maxI 0 0 = 0 := by decide
theorem place_row {kf : Int} (h0 : 0 ≤ kf) (h1 : kf ≤ 100) {l : List Int} (hl : ∀ x ∈ l, 1 ≤ x ∧ x ≤ 2000) (hn : l.length ≤ 40) : ∀ k, k < l.length → placeI (Rw l) kf k = tot kf (l.take k)
  | 0, _ => by simp [placeI, tot, maxI_zero]
  | k + 1, hk => by
    have ih := place_row h0 h1 hl hn k (by omega)
    obtain ⟨a, b⟩ := hl (l.getD k 0) (by simp [List.getElem?_eq_getElem (show k < l.length by omega)])
    have c := tot_le h0 h1 (l := l.take k) (fun x hx => hl x (List.mem_of_mem_take hx))
    have d : (l.take k).length ≤ 40 := by rw [List.length_take]; omega
    rw [take_snoc (by omega), tot_app]
    show w64 (w64 (placeI (Rw l) kf k + l.getD k 0) + gapI (Rw l k) (Rw l (k + 1)) kf) = _
    have e : gapI (Rw l k) (Rw l (k + 1)) kf = kf := by
      show w64 (kf + maxI 0 (w64 (0 + 0))) = kf
      rw [show w64 (0 + 0) = 0 from by decide, maxI_zero, Int.add_zero, wid' (by omega) (by omega)]
    rw [ih, e, wid' (n := tot kf (l.take k) + l.getD k 0) (by omega) (by omega), wid' (by omega) (by omega)]
    simp only [tot]
    omega
theorem length_row {kf : Int} (h0 : 0 ≤ kf) (h1 : kf ≤ 100) {l : List Int} (hl : ∀ x ∈ l, 1 ≤ x ∧ x ≤ 2000) (hn : l.length ≤ 40) : lengthI l.length (Rw l) kf = if l.length = 0 then 0 else tot kf l - kf := by
  unfold lengthI
  split
  · rfl
  · rename_i hne
    have hk : l.length - 1 < l.length := by omega
    rw [place_row h0 h1 hl hn _ hk]
    obtain ⟨a, b⟩ := hl (l.getD (l.length - 1) 0) (by simp [List.getElem?_eq_getElem hk])
    have c := tot_le h0 h1 (l := l.take (l.length - 1)) (fun x hx => hl x (List.mem_of_mem_take hx))
    have d : (l.take (l.length - 1)).length ≤ 40 := by rw [List.length_take]; omega
    have e := take_snoc hk
    rw [show l.length - 1 + 1 = l.length by omega, List.take_length] at e
    have f : tot kf l = tot kf (l.take (l.length - 1)) + (l.getD (l.length - 1) 0 + kf) := by
      conv => lhs; rw [e]
      rw [tot_app]
      simp only [tot]
      omega
    rw [f]
    show w64 (w64 (tot kf (l.take (l.length - 1)) + l.getD (l.length - 1) 0) + maxI 0 0) = _
    rw [maxI_zero, Int.add_zero, wid' (n := _ + l.getD (l.length - 1) 0) (by omega) (by omega), wid' (by omega) (by omega)]
    omega
abbrev barM (p : MP) : BD := ⟨0, ⟨#[]⟩, ⟨#[]⟩, p.st, 0, fun _ => 0, fun _ => 0⟩
theorem barM_sound {p : MP} (H : MOk p) : soundB (barM p) = true := by
  have h1 := H.s1
  have h2 := H.s2
  have h3 : anyB (wrongD (barM p)) 0 = false := anyB_f (fun k hk => by omega)
  simp only [soundB, h3, withinI]
  simp
  omega
theorem off_row {p : MP} (H : MOk p) {n : Nat} {R : Nat → BP} (V : VR n R p.kf) : offR n R p.kf (barM p) = if lengthI n R p.kf ≤ p.st then twoT 0 0 else twoT 0 8 := by
  rw [offR, if_neg (by rw [V.err, barM_sound H]; simp), if_neg (by rw [V.err]; simp)]
  by_cases h : lengthI n R p.kf ≤ p.st
  · rw [if_pos h]
    obtain ⟨c, hc⟩ : ∃ c, ((barM p).len - lengthI n R p.kf + 1).toNat = c + 1 := ⟨(p.st - lengthI n R p.kf).toNat, by show (p.st - lengthI n R p.kf + 1).toNat = _; omega⟩
    rw [hc]
    simp only [srch]
    rw [fits_none rfl]
    rfl
  · rw [if_neg h, show ((barM p).len - lengthI n R p.kf + 1).toNat = 0 by show (p.st - lengthI n R p.kf + 1).toNat = _; omega]
    rfl
theorem fits_row {p : MP} (H : MOk p) {A : Nat → Int} (hA : ∀ i, i < p.m → 0 ≤ A i) (hn : (rl p A p.m).length ≤ 40) : need p A p.m ≤ p.st + p.kf ↔ lengthI (rl p A p.m).length (Rw (rl p A p.m)) p.kf ≤ p.st := by
  rw [length_row H.k0 H.k1 (rl_mem H A p.m (Nat.le_refl _)) hn, ← tot_rl p A p.m hA]
  have h1 := H.s1
  have h2 := H.k0
  split
  · rename_i h
    rw [List.eq_nil_of_length_eq_zero h]
    simp only [tot]
    omega
  · omega
end Go.Vm
namespace Go.Cv
open Go Go.RowKit Go.Vm

inductive Ce where
  | w (x : Value)
  | ptr (o p : Nat)
  | slc (o k p n : Nat) (full : Bool)
  | map (o : Nat)
  | fn (f : FuncId) (caps : List (Nat × Nat))
instance : Inhabited Ce := ⟨.w Go.undef⟩
inductive Dv where
  | one (c : Ce)
  | agg (cs : List Ce)
inductive Tv where
  | un
  | d (v : Dv)
  | tup (vs : List Dv)
instance : Inhabited Tv := ⟨.un⟩
inductive Ob where
  | none
  | dead
  | arr (e : TypeId) (k n : Nat) (exact : Bool) (cs : List Ce)
  | ro (cs : List Ce)
  | map (es : List (List Ce × Ce))
instance : Inhabited Ob := ⟨.none⟩
inductive All2 {α β : Type} (R : α → β → Prop) : List α → List β → Prop where
  | nil : All2 R [] []
  | cons {x : α} {y : β} {xs : List α} {ys : List β} (h : R x y) (t : All2 R xs ys) : All2 R (x :: xs) (y :: ys)
abbrev Pos := Nat × Nat × Nat
abbrev Rho := Nat → Option Pos

def Ob.live : Ob → Bool
  | .arr .. => true
  | .map .. => true
  | _ => false
def Ob.there : Ob → Bool
  | .none => false
  | .dead => false
  | _ => true

def PtrV (ρ : Rho) (x : Value) (q : Nat × Nat) : Prop := ∃ b off c, ρ q.1 = some (b, off, c) ∧ x = .pointer (some ⟨b, off + q.2, none⟩)
def CeOk (ρ : Rho) (x : Value) : Ce → Prop
  | .w y => x = y ∧ y.oneCell' = true
  | .ptr o p => PtrV ρ x (o, p)
  | .slc o k p n full => ∃ b off c a, ρ o = some (b, off, c) ∧ x = .slice (some a) n (if full then n else c - p) ∧ p + n ≤ c ∧ (p < c ∨ p = 0 → a = ⟨b, off + p * k, none⟩)
  | .map o => ∃ b off c, ρ o = some (b, off, c) ∧ x = .map (some b)
  | .fn f caps => ∃ xs : List Value, x = .func (.func f) #[] xs.toArray ∧ All2 (PtrV ρ) xs caps
abbrev CsOk (ρ : Rho) (xs : List Value) (cs : List Ce) : Prop := All2 (CeOk ρ) xs cs
def DvOk (ρ : Rho) (x : Value) : Dv → Prop
  | .one c => CeOk ρ x c
  | .agg cs => ∃ xs : List Value, x = .agg xs.toArray ∧ CsOk ρ xs cs
def TvOk (ρ : Rho) (x : Value) : Tv → Prop
  | .un => True
  | .d v => DvOk ρ x v
  | .tup vs => ∃ xs : List Value, x = .tuple xs.toArray ∧ All2 (DvOk ρ) xs vs

def EnOk (ρ : Rho) (x : MapEntry) (e : List Ce × Ce) : Prop := ∃ ks : List Value, x.key = .agg ks.toArray ∧ CsOk ρ ks e.1 ∧ CeOk ρ x.val e.2
def ObOk (ρ : Rho) (w : World) (o : Nat) : Ob → Prop
  | .none => ρ o = none
  | .dead => True
  | .arr e k n exact cs => ∃ b c arr, ρ o = some (b, 0, c) ∧ w.heap[b]? = some (.cells arr e (0, 0)) ∧ arr.size = c * k ∧ n ≤ c ∧ c ≤ maxLen ∧ (exact = true → n = c) ∧ cs.length = n * k ∧
      ∀ (j : Nat) (x : Ce), cs[j]? = some x → ∃ v, arr[j]? = some v ∧ CeOk ρ v x
  | .ro cs => ∃ b off c, ρ o = some (b, off, c) ∧ c ≤ maxLen ∧ ∀ (j : Nat) (x : Ce), cs[j]? = some x → ∃ v, w.cell? ⟨b, off + j, none⟩ = some v ∧ CeOk ρ v x
  | .map es => ∃ b off c ens clock, ρ o = some (b, off, c) ∧ w.heap[b]? = some (.map ens clock) ∧ All2 (EnOk ρ) ens.toList es

structure Env where
  P : Program
  N : Nat
  w0 : World
  X : Nat → Prop
  S : Nat → Prop
  hX : ∀ b, X b → b < w0.heap.size
  hS : ∀ b, S b → b < w0.heap.size
  ρ0 : Rho

structure Rel (E : Env) (ρ : Rho) (t : Nat → Tv) (m : Nat → Ob) (a : Act) (w : World) : Prop where
  bx : Bx E.w0.heap.size E.X E.w0 w
  own : ∀ o b off c, (m o).live = true → ρ o = some (b, off, c) → (E.X b ∨ E.w0.heap.size ≤ b) ∧ b < w.heap.size
  ros : ∀ o b off c, (m o).there = true → ρ o = some (b, off, c) → (E.X b ∨ E.S b ∨ E.w0.heap.size ≤ b) ∧ b < w.heap.size
  inj : ∀ o o' b off c off' c', (m o).live = true → (m o').there = true → ρ o = some (b, off, c) → ρ o' = some (b, off', c') → o = o'
  ext : ∀ o q, E.ρ0 o = some q → ρ o = some q
  ob : ∀ o, ObOk ρ w o (m o)
  defers : a.defers = []
  size : a.tmps.size = E.N
  slots : ∀ i, TvOk ρ (a.tmps.getD i Go.undef) (t i)

def Sub (ρ ρ' : Rho) : Prop := ∀ o q, ρ o = some q → ρ' o = some q
theorem Sub.refl (ρ : Rho) : Sub ρ ρ := fun _ _ h => h
theorem PtrV.sub {ρ ρ' : Rho} (h : Sub ρ ρ') {x : Value} {q : Nat × Nat} (hx : PtrV ρ x q) : PtrV ρ' x q := by
  obtain ⟨b, off, c, h1, h2⟩ := hx
  exact ⟨b, off, c, h _ _ h1, h2⟩
theorem all2_imp {α β : Type} {R R' : α → β → Prop} (h : ∀ x y, R x y → R' x y) {xs : List α} {ys : List β} (hx : All2 R xs ys) : All2 R' xs ys := by
  induction hx with
  | nil => exact .nil
  | cons h1 _ ih => exact .cons (h _ _ h1) ih
theorem all2_length {α β : Type} {R : α → β → Prop} {xs : List α} {ys : List β} (hx : All2 R xs ys) : xs.length = ys.length := by
  induction hx with
  | nil => rfl
  | cons _ _ ih => simp [ih]
theorem all2_get {α β : Type} {R : α → β → Prop} {xs : List α} {ys : List β} (hx : All2 R xs ys) (i : Nat) (y : β) (hy : ys[i]? = some y) : ∃ x, xs[i]? = some x ∧ R x y := by
  induction hx generalizing i with
  | nil => simp at hy
  | cons h1 _ ih =>
    cases i with
    | zero => simp at hy; subst hy; exact ⟨_, rfl, h1⟩
    | succ i => exact ih i (by simpa using hy)
theorem all2_drop {α β : Type} {R : α → β → Prop} {xs : List α} {ys : List β} (hx : All2 R xs ys) (n : Nat) : All2 R (xs.drop n) (ys.drop n) := by
  induction hx generalizing n with
  | nil => simp; exact .nil
  | cons h1 h2 ih =>
    cases n with
    | zero => exact .cons h1 h2
    | succ n => exact ih n
theorem all2_take {α β : Type} {R : α → β → Prop} {xs : List α} {ys : List β} (hx : All2 R xs ys) (n : Nat) : All2 R (xs.take n) (ys.take n) := by
  induction hx generalizing n with
  | nil => simp; exact .nil
  | cons h1 h2 ih =>
    cases n with
    | zero => exact .nil
    | succ n => exact .cons h1 (ih n)
theorem all2_append {α β : Type} {R : α → β → Prop} {xs : List α} {ys : List β} (hx : All2 R xs ys) {xs' : List α} {ys' : List β} (hx' : All2 R xs' ys') : All2 R (xs ++ xs') (ys ++ ys') := by
  induction hx with
  | nil => exact hx'
  | cons h1 _ ih => exact .cons h1 ih
theorem CeOk.sub {ρ ρ' : Rho} (h : Sub ρ ρ') {x : Value} {c : Ce} (hx : CeOk ρ x c) : CeOk ρ' x c := by
  cases c with
  | w y => exact hx
  | ptr o p => exact PtrV.sub h hx
  | slc o k p n full => obtain ⟨b, off, c, a, h1, r⟩ := hx; exact ⟨b, off, c, a, h _ _ h1, r⟩
  | map o => obtain ⟨b, off, c, h1, r⟩ := hx; exact ⟨b, off, c, h _ _ h1, r⟩
  | fn f caps => obtain ⟨xs, h1, r⟩ := hx; exact ⟨xs, h1, all2_imp (fun _ _ => PtrV.sub h) r⟩
theorem CsOk.sub {ρ ρ' : Rho} (h : Sub ρ ρ') {xs : List Value} {cs : List Ce} (hx : CsOk ρ xs cs) : CsOk ρ' xs cs := all2_imp (fun _ _ => CeOk.sub h) hx
theorem DvOk.sub {ρ ρ' : Rho} (h : Sub ρ ρ') {x : Value} {v : Dv} (hx : DvOk ρ x v) : DvOk ρ' x v := by
  cases v with
  | one c => exact CeOk.sub h hx
  | agg cs => obtain ⟨xs, h1, r⟩ := hx; exact ⟨xs, h1, r.sub h⟩
theorem TvOk.sub {ρ ρ' : Rho} (h : Sub ρ ρ') {x : Value} {v : Tv} (hx : TvOk ρ x v) : TvOk ρ' x v := by
  cases v with
  | un => trivial
  | d v => exact DvOk.sub h hx
  | tup vs => obtain ⟨xs, h1, r⟩ := hx; exact ⟨xs, h1, all2_imp (fun _ _ => DvOk.sub h) r⟩
theorem EnOk.sub {ρ ρ' : Rho} (h : Sub ρ ρ') {x : MapEntry} {e : List Ce × Ce} (hx : EnOk ρ x e) : EnOk ρ' x e := by
  obtain ⟨ks, h1, h3, h4⟩ := hx
  exact ⟨ks, h1, h3.sub h, h4.sub h⟩
theorem PtrV.oneCell {ρ : Rho} {x : Value} {q : Nat × Nat} (h : PtrV ρ x q) : x.oneCell' = true := by
  obtain ⟨b, off, c, _, rfl⟩ := h; rfl
theorem CeOk.oneCell {ρ : Rho} {x : Value} {c : Ce} (h : CeOk ρ x c) : x.oneCell' = true := by
  cases c with
  | w y => exact h.1 ▸ h.2
  | ptr o p => exact PtrV.oneCell h
  | slc o k p n full => obtain ⟨b, off, c, a, _, rfl, _⟩ := h; rfl
  | map o => obtain ⟨b, off, c, _, rfl⟩ := h; rfl
  | fn f caps => obtain ⟨xs, rfl, _⟩ := h; rfl

theorem ObOk.carry {ρ ρ' : Rho} (hs : Sub ρ ρ') {w w' : World} {o : Nat} {x : Ob} (hn : x = .none → ρ' o = none) (hb : ∀ b off c, x.there = true → ρ o = some (b, off, c) → w'.heap[b]? = w.heap[b]?) (h : ObOk ρ w o x) : ObOk ρ' w' o x := by
  cases x with
  | none => exact hn rfl
  | dead => trivial
  | arr e k n exact cs =>
    obtain ⟨b, c, arr, h1, h2, h3, h4, h5, h6, h7, h8⟩ := h
    exact ⟨b, c, arr, hs _ _ h1, (hb _ _ _ rfl h1).trans h2, h3, h4, h5, h6, h7, fun j x hx => let ⟨v, h9, h10⟩ := h8 j x hx; ⟨v, h9, h10.sub hs⟩⟩
  | ro cs =>
    obtain ⟨b, off, c, h1, hc, h8⟩ := h
    exact ⟨b, off, c, hs _ _ h1, hc, fun j x hx => let ⟨v, h9, h10⟩ := h8 j x hx; ⟨v, by unfold World.cell? at h9 ⊢; rw [hb _ _ _ rfl h1]; exact h9, h10.sub hs⟩⟩
  | map es =>
    obtain ⟨b, off, c, ens, clock, h1, h2, h3⟩ := h
    exact ⟨b, off, c, ens, clock, hs _ _ h1, (hb _ _ _ rfl h1).trans h2, all2_imp (fun _ _ => EnOk.sub hs) h3⟩

def updN {α : Type} (f : Nat → α) (k : Nat) (x : α) : Nat → α := fun i => bif Nat.beq i k then x else f i
theorem updN_same {α : Type} (f : Nat → α) (k : Nat) (x : α) : updN f k x k = x := by simp [updN]
theorem updN_ne {α : Type} (f : Nat → α) {k i : Nat} (x : α) (h : i ≠ k) : updN f k x i = f i := by
  have : Nat.beq i k = false := by cases hb : Nat.beq i k with
    | false => rfl
    | true => exact absurd (Nat.eq_of_beq_eq_true hb) h
  simp [updN, this]
def putT (t : Nat → Tv) (d : Option Nat) (x : Tv) : Nat → Tv := match d with
  | some k => updN t k x
  | none => t
def putM (m : Nat → Ob) : List (Nat × Ob) → Nat → Ob
  | [] => m
  | p :: r => putM (updN m p.1 p.2) r

theorem Rel.put {E : Env} {ρ : Rho} {t : Nat → Tv} {m : Nat → Ob} {a : Act} {w : World} (h : Rel E ρ t m a w) {d : Option Nat} (hd : ∀ k, d = some k → k < E.N) {v : Value} {x : Tv} (hv : TvOk ρ v x) : Rel E ρ (putT t d x) m (a.put d v) w := by
  cases d with
  | none => exact ⟨h.bx, h.own, h.ros, h.inj, h.ext, h.ob, h.defers, h.size, h.slots⟩
  | some k =>
    refine ⟨h.bx, h.own, h.ros, h.inj, h.ext, h.ob, h.defers, ?_, fun i => ?_⟩
    · simpa [Act.put] using h.size
    · have hs : k < a.tmps.size := by rw [h.size]; exact hd k rfl
      show TvOk ρ _ (updN t k x i)
      by_cases e : i = k
      · subst e
        rw [updN_same]
        have : (a.put (some i) v).tmps.getD i Go.undef = v := by
          simp [Act.put, Array.getD_eq_getD_getElem?, hs]
        rw [this]
        exact hv
      · rw [updN_ne _ _ e]
        have : (a.put (some k) v).tmps.getD i Go.undef = a.tmps.getD i Go.undef := by
          simp only [Act.put, Array.getD_eq_getD_getElem?]
          rw [Array.getElem?_setIfInBounds_ne (Ne.symm e)]
        rw [this]
        exact h.slots i

/-! ### one operation -/
def Agree (o : Oper) (t t' : Nat → Tv) : Prop := ∀ s, Operand.tmp s ∈ o.op.operands.toList → t' s = t s
def Same (rd : List Nat) (m m' : Nat → Ob) : Prop := ∀ b, b ∈ rd → m' b = m b
def StepOk (P : Program) (o : Oper) (t : Nat → Tv) (m : Nat → Ob) (x : Tv) (mo : List (Nat × Ob)) (rd : List Nat) : Prop :=
  ∀ (E : Env) (ρ : Rho) (t' : Nat → Tv) (m' : Nat → Ob) (a : Act) (w : World), E.P = P → Agree o t t' → Same rd m m' → (∀ k, o.dst = some k → k < E.N) →
    Rel E ρ t' m' a w → ∀ (K : Act → World → Prop) (Q : Exit → Act → World → Prop),
    (∀ ρ' a' w', Rel E ρ' (putT t' o.dst x) (putM m' mo) a' w' → K a' w') → o.wp P a w K Q

def cst : Value → Tv
  | .agg cs => .d (.agg (cs.toList.map .w))
  | .tuple _ => .un
  | v => .d (.one (.w v))
def cstOk : Value → Bool
  | .agg cs => cs.toList.all (·.oneCell')
  | .tuple _ => false
  | v => v.oneCell'
def opd (t : Nat → Tv) : Operand → Tv
  | .tmp s => t s
  | .const v => bif cstOk v then cst v else .un
  | .global _ => .un
  | .func f => .d (.one (.fn f []))
theorem cst_ok (ρ : Rho) (v : Value) (h : cstOk v = true) : TvOk ρ v (cst v) := by
  cases v <;> first
    | exact ⟨rfl, h⟩
    | (simp [cstOk] at h; done)
    | skip
  rename_i cs
  refine ⟨cs.toList, by simp, ?_⟩
  simp only [cstOk, List.all_eq_true] at h
  generalize cs.toList = l at h
  induction l with
  | nil => exact .nil
  | cons x l ih => exact .cons ⟨rfl, h x (by simp)⟩ (ih (fun y hy => h y (by simp [hy])))
theorem opd_agree {o : Oper} {t t' : Nat → Tv} (h : Agree o t t') {x : Operand} (hx : x ∈ o.op.operands.toList) : opd t' x = opd t x := by
  cases x with
  | tmp s => exact h s hx
  | _ => rfl
theorem opd_ok {E : Env} {ρ : Rho} {t : Nat → Tv} {m : Nat → Ob} {a : Act} {w : World} (h : Rel E ρ t m a w) (x : Operand) : TvOk ρ (a.eval x) (opd t x) := by
  cases x with
  | tmp s => exact h.slots s
  | const v =>
    show TvOk ρ v (bif cstOk v then cst v else .un)
    cases hc : cstOk v with
    | true => exact cst_ok ρ v hc
    | false => trivial
  | global g => trivial
  | func f => exact ⟨[], rfl, .nil⟩

theorem stepOk_pure {P : Program} {o : Oper} {t : Nat → Tv} {m : Nat → Ob} {x : Tv} {rd : List Nat}
    (h : ∀ E ρ t' m' a w, E.P = P → Agree o t t' → Same rd m m' → Rel E ρ t' m' a w → ∃ v, (execOp a.eval o).run P w = .ok (.value v) w ∧ TvOk ρ v x) : StepOk P o t m x [] rd := by
  intro E ρ t' m' a w hP ha hm hd hR K Q hK
  obtain ⟨v, h1, h2⟩ := h E ρ t' m' a w hP ha hm hR
  unfold Oper.wp
  rw [h1]
  exact hK ρ _ w (hR.put hd h2)
theorem stepOk_mem {P : Program} {o : Oper} {t : Nat → Tv} {m : Nat → Ob} {x : Tv} {mo : List (Nat × Ob)} {rd : List Nat}
    (h : ∀ E ρ t' m' a w, E.P = P → Agree o t t' → Same rd m m' → (∀ k, o.dst = some k → k < E.N) → Rel E ρ t' m' a w →
      ∃ n v w' ρ', (execOp a.eval o).run P w = .ok n w' ∧ (n = .value v ∨ (n = .skip ∧ v = Go.undef)) ∧ Rel E ρ' t' (putM m' mo) a w' ∧ TvOk ρ' v x) :
    StepOk P o t m x mo rd := by
  intro E ρ t' m' a w hP ha hm hd hR K Q hK
  obtain ⟨n, v, w', ρ', h1, h2, h3, h4⟩ := h E ρ t' m' a w hP ha hm hd hR
  unfold Oper.wp
  rw [h1]
  rcases h2 with rfl | ⟨rfl, rfl⟩
  · exact hK ρ' _ w' (h3.put hd h4)
  · exact hK ρ' _ w' (h3.put hd h4)

theorem Rel.fresh {E : Env} {ρ : Rho} {t : Nat → Tv} {m : Nat → Ob} {a : Act} {w w' : World} (h : Rel E ρ t m a w) {o : Nat} (hm : m o = .none) {x : Ob} {off c : Nat} (hb : Below w.heap.size w w') (hlt : w.heap.size < w'.heap.size)
    (hx : ObOk (updN ρ o (some (w.heap.size, off, c))) w' o x) : Sub ρ (updN ρ o (some (w.heap.size, off, c))) ∧ Rel E (updN ρ o (some (w.heap.size, off, c))) t (updN m o x) a w' := by
  have hn : ρ o = none := by have := h.ob o; rw [hm] at this; exact this
  have hs : Sub ρ (updN ρ o (some (w.heap.size, off, c))) := by
    intro o' q hq
    have : o' ≠ o := by rintro rfl; rw [hn] at hq; cases hq
    rw [updN_ne _ _ this]; exact hq
  have hw0 : E.w0.heap.size ≤ w.heap.size := h.bx.size
  refine ⟨hs, ?_, ?_, ?_, ?_, ?_, ?_, h.defers, h.size, fun i => (h.slots i).sub hs⟩
  · exact h.bx.trans (Bx.of hb hw0)
  · intro o' b off' c' hl hq
    by_cases e : o' = o
    · subst e
      rw [updN_same] at hq
      simp at hq
      obtain ⟨rfl, _, _⟩ := hq
      exact ⟨.inr hw0, hlt⟩
    · rw [updN_ne _ _ e] at hl hq
      obtain ⟨h1, h2⟩ := h.own o' b off' c' hl hq
      exact ⟨h1, by omega⟩
  · intro o' b off' c' hl hq
    by_cases e : o' = o
    · subst e
      rw [updN_same] at hq
      simp at hq
      obtain ⟨rfl, _, _⟩ := hq
      exact ⟨.inr (.inr hw0), hlt⟩
    · rw [updN_ne _ _ e] at hl hq
      obtain ⟨h1, h2⟩ := h.ros o' b off' c' hl hq
      exact ⟨h1, by omega⟩
  · intro o1 o2 b off1 c1 off2 c2 h1 h2 q1 q2
    by_cases e1 : o1 = o
    · by_cases e2 : o2 = o
      · rw [e1, e2]
      · rw [updN_ne _ _ e2] at h2 q2
        subst e1
        rw [updN_same] at q1
        simp at q1
        obtain ⟨rfl, _, _⟩ := q1
        have := (h.ros o2 _ _ _ h2 q2).2
        omega
    · by_cases e2 : o2 = o
      · rw [updN_ne _ _ e1] at h1 q1
        subst e2
        rw [updN_same] at q2
        simp at q2
        obtain ⟨rfl, _, _⟩ := q2
        have := (h.own o1 _ _ _ h1 q1).2
        omega
      · rw [updN_ne _ _ e1] at h1 q1
        rw [updN_ne _ _ e2] at h2 q2
        exact h.inj o1 o2 b off1 c1 off2 c2 h1 h2 q1 q2
  · exact fun o' q hq => hs _ _ (h.ext o' q hq)
  · intro o'
    by_cases e : o' = o
    · subst e; rw [updN_same]; exact hx
    · rw [updN_ne _ _ e]
      refine (h.ob o').carry hs (fun hq => ?_) (fun b off' c' ht hq => ?_)
      · rw [updN_ne _ _ e]
        have := h.ob o'
        rw [hq] at this
        exact this
      · exact hb.block b (h.ros o' b off' c' ht hq).2

theorem Rel.write {E : Env} {ρ : Rho} {t : Nat → Tv} {m : Nat → Ob} {a : Act} {w w' : World} (h : Rel E ρ t m a w) {o : Nat} {x : Ob} {b off c : Nat} (hm : (m o).live = true) (hq : ρ o = some (b, off, c))
    (hos : w'.os = w.os) (htape : w'.tape = w.tape) (hout : w'.output = w.output) (hsz : w'.heap.size = w.heap.size) (hblk : ∀ k, k ≠ b → w'.heap[k]? = w.heap[k]?)
    (hx : ObOk ρ w' o x) (hl : x.there = true) : Rel E ρ t (updN m o x) a w' := by
  obtain ⟨hXb, hbl⟩ := h.own o b off c hm hq
  refine ⟨?_, ?_, ?_, ?_, h.ext, ?_, h.defers, h.size, h.slots⟩
  · refine ⟨hos.trans h.bx.os, htape.trans h.bx.tape, hout.trans h.bx.output, by rw [hsz]; exact h.bx.size, fun k hk hx => ?_⟩
    have : k ≠ b := by
      rintro rfl
      rcases hXb with h1 | h1
      · exact hx h1
      · omega
    exact (hblk k this).trans (h.bx.block k hk hx)
  · intro o' b' off' c' hl' hq'
    rw [hsz]
    by_cases e : o' = o
    · subst e; exact h.own _ _ _ _ hm hq'
    · rw [updN_ne _ _ e] at hl'; exact h.own _ _ _ _ hl' hq'
  · intro o' b' off' c' hl' hq'
    rw [hsz]
    by_cases e : o' = o
    · subst e
      obtain ⟨h1, h2⟩ := h.own _ _ _ _ hm hq'
      exact ⟨h1.elim .inl (fun h => .inr (.inr h)), h2⟩
    · rw [updN_ne _ _ e] at hl'; exact h.ros _ _ _ _ hl' hq'
  · intro o1 o2 b' off1 c1 off2 c2 h1 h2 q1 q2
    by_cases e1 : o1 = o
    · by_cases e2 : o2 = o
      · rw [e1, e2]
      · rw [updN_ne _ _ e2] at h2
        subst e1
        exact h.inj _ _ _ _ _ _ _ hm h2 q1 q2
    · rw [updN_ne _ _ e1] at h1
      by_cases e2 : o2 = o
      · subst e2
        exact (h.inj _ _ _ _ _ _ _ hm (by revert h1; cases m o1 <;> simp [Ob.live, Ob.there]) q2 q1).symm
      · rw [updN_ne _ _ e2] at h2
        exact h.inj _ _ _ _ _ _ _ h1 h2 q1 q2
  · intro o'
    by_cases e : o' = o
    · subst e; rw [updN_same]; exact hx
    · rw [updN_ne _ _ e]
      refine (h.ob o').carry (Sub.refl _) (fun hq => ?_) (fun b' off' c' ht hq' => ?_)
      · have := h.ob o'; rw [hq] at this; exact this
      · refine hblk b' ?_
        rintro rfl
        exact e (h.inj _ _ _ _ _ _ _ hm ht hq hq').symm
end Go.Cv
namespace Go.Cv
open Go Go.RowKit Go.Vm

abbrev keyV (xs : List Int) : Value := .agg (xs.map fun n => Value.int .i64 n).toArray
structure MapTy (P : Program) (ty k e : TypeId) (n : Nat) (z : Value) : Prop where
  zero : ∀ w, (zeroValue e).run P w = .ok z w
  one : z.oneCell' = true
  map : P.underlying ty = some (.map k e)
  arr : ∃ len el, P.underlying k = some (.array len el)
  check : ∀ xs : List Int, xs.length = n → ∀ b w, (Instr.checkKey b 10000 k (keyV xs)).run P w = .ok () w
  eq : ∀ xs ys : List Int, xs.length = n → ys.length = n → ∀ w, (Op.equal k (keyV xs) (keyV ys)).run P w = .ok (decide (xs = ys)) w
structure Cfg where
  P : Program
  maps : TypeId → Option (TypeId × TypeId × Nat × Value)
  TT : Tab
  hT : TabOk P TT
  eqn : TypeId → Option Nat
  hE : ∀ ty n, eqn ty = some n → ∀ xs ys : List Int, xs.length = n → ys.length = n → EqFact P ty (xs.map i64) (ys.map i64) (decide (xs = ys))
  hM : ∀ ty k e n z, maps ty = some (k, e, n, z) → MapTy P ty k e n z

def PureOk (P : Program) (o : Oper) (g : Operand → Tv) (x : Tv) : Prop :=
  ∀ (ρ : Rho) (w : World) (ev : Operand → Value), (∀ y ∈ o.op.operands.toList, TvOk ρ (ev y) (g y)) → ∃ v, (execOp ev o).run P w = .ok (.value v) w ∧ TvOk ρ v x
theorem PureOk.step {P : Program} {o : Oper} {t : Nat → Tv} {m : Nat → Ob} {x : Tv} (h : PureOk P o (opd t) x) : StepOk P o t m x [] [] := by
  refine stepOk_pure fun E ρ t' m' a w hP ha _ hR => ?_
  exact h ρ w a.eval fun y hy => by rw [← opd_agree ha hy]; exact opd_ok hR y

abbrev wv (v : Value) : Tv := .d (.one (.w v))
abbrev wb (b : Bool) : Tv := .d (.one (.w (.bool b)))
abbrev wi (n : Int) : Tv := .d (.one (.w (.int .i64 n)))

theorem w_inv {ρ : Rho} {x v : Value} (h : TvOk ρ x (wv v)) : x = v := h.1
theorem ptr_inv {ρ : Rho} {x : Value} {o p : Nat} (h : TvOk ρ x (.d (.one (.ptr o p)))) : ∃ b off c, ρ o = some (b, off, c) ∧ x = .pointer (some ⟨b, off + p, none⟩) := h
theorem agg_inv {ρ : Rho} {x : Value} {cs : List Ce} (h : TvOk ρ x (.d (.agg cs))) : ∃ xs : List Value, x = .agg xs.toArray ∧ CsOk ρ xs cs := h
theorem slc_inv {ρ : Rho} {x : Value} {o k p n : Nat} {full : Bool} (h : TvOk ρ x (.d (.one (.slc o k p n full)))) :
    ∃ b off c a, ρ o = some (b, off, c) ∧ x = .slice (some a) n (if full then n else c - p) ∧ p + n ≤ c ∧ (p < c ∨ p = 0 → a = ⟨b, off + p * k, none⟩) := h

def packD (T : Ty) (cs : List Ce) : Option Dv :=
  bif Nat.beq cs.length T.size then (bif T.kind.isAgg then some (.agg cs) else match cs with
    | [c] => some (.one c)
    | _ => none) else none
theorem packD_ok {T : Ty} {cs : List Ce} {v : Dv} (h : packD T cs = some v) : cs.length = T.size ∧ (T.kind.isAgg = false → cs.length = 1) ∧ ∀ ρ xs, CsOk ρ xs cs → DvOk ρ (pack T.kind.isAgg xs) v := by
  unfold packD at h
  cases hl : Nat.beq cs.length T.size with
  | false => rw [hl] at h; cases h
  | true =>
    rw [hl] at h
    refine ⟨Nat.eq_of_beq_eq_true hl, ?_⟩
    cases hq : T.kind.isAgg with
    | true =>
      rw [hq] at h
      cases h
      exact ⟨(fun e => by cases e), fun ρ xs hx => ⟨xs, rfl, hx⟩⟩
    | false =>
      rw [hq] at h
      match cs, h with
      | [c], h =>
        cases h
        refine ⟨fun _ => rfl, fun ρ xs hx => ?_⟩
        cases hx with
        | cons h1 h2 => cases h2; exact h1

/-! ### arithmetic -/
def binV (op : BinOp) (u v : Value) : Option Value := match u, v with
  | .int k x, .int k' y => bif Nat.beq (kNum k) (kNum k') then (match op with
    | .add => some (.int k (k.wrap (x + y)))
    | .sub => some (.int k (k.wrap (x - y)))
    | .mul => some (.int k (k.wrap (x * y)))
    | .quo => bif y == 0 then none else some (.int k (k.wrap (x.tdiv y)))
    | .rem => bif y == 0 then none else some (.int k (x.tmod y))
    | .eql => some (.bool (x == y))
    | .neq => some (.bool (x != y))
    | .lss => some (.bool (decide (x < y)))
    | .leq => some (.bool (decide (x ≤ y)))
    | .gtr => some (.bool (decide (x > y)))
    | .geq => some (.bool (decide (x ≥ y)))
    | _ => none) else none
  | _, _ => none
theorem binV_run {P : Program} {op : BinOp} {u v r : Value} (h : binV op u v = some r) (ty : TypeId) (x y : Operand) (w : World) : ((do eqGuard op ty x y u v; binOp op ty u v : Sem Value)).run P w = .ok r w ∧ r.oneCell' = true := by
  unfold binV at h
  split at h
  · rename_i k a k' b
    cases hk : Nat.beq (kNum k) (kNum k') with
    | false => rw [hk] at h; cases h
    | true =>
      rw [hk, cond_true] at h
      obtain rfl := kNum_inj hk
      have hg : (eqGuard op ty x y (.int k a) (.int k b)).run P w = .ok () w := by
        cases op <;> simp [eqGuard]
      have hne : (b == 0) = false → b ≠ 0 := by
        intro e
        simpa using e
      cases op with
      | quo =>
        cases hb : (b == 0) with
        | true => simp only [hb, cond_true] at h; cases h
        | false =>
          simp only [hb, cond_false] at h
          cases h
          exact ⟨by simp [hg, binOp, Op.intDiv, hne hb], rfl⟩
      | rem =>
        cases hb : (b == 0) with
        | true => simp only [hb, cond_true] at h; cases h
        | false =>
          simp only [hb, cond_false] at h
          cases h
          exact ⟨by simp [hg, binOp, Op.intDiv, hne hb], rfl⟩
      | _ =>
        first
          | (cases h; exact ⟨by simp [hg, binOp, Op.intArith, Op.intCmp], rfl⟩)
          | cases h
  · cases h
theorem pure_bin {P : Program} {o : Oper} {g : Operand → Tv} {op : BinOp} {ty ty' : TypeId} {x y : Operand} (ho : o.op = .binOp op ty x y ty') {u v r : Value} (hx : g x = wv u) (hy : g y = wv v) (h : binV op u v = some r) : PureOk P o g (wv r) := by
  intro ρ w ev hev
  have e1 := hev x (by rw [ho]; simp [Op.operands])
  have e2 := hev y (by rw [ho]; simp [Op.operands])
  rw [hx] at e1; rw [hy] at e2
  obtain ⟨h1, h2⟩ := binV_run (P := P) h ty x y w
  refine ⟨r, ?_, ⟨rfl, h2⟩⟩
  simp only [execOp, ho, w_inv e1, w_inv e2]
  rw [Sem.run_bind, h1]
  rfl

def intsOf : List Ce → Option (List Int)
  | [] => some []
  | .w (.int .i64 n) :: r => match intsOf r with
    | some l => some (n :: l)
    | none => none
  | _ :: _ => none
theorem intsOf_ok : ∀ {cs : List Ce} {l : List Int}, intsOf cs = some l → cs = l.map fun n => .w (.int .i64 n)
  | [], l, h => by cases h; rfl
  | .w (.int .i64 n) :: r, l, h => by
    simp only [intsOf] at h
    cases hr : intsOf r with
    | none => rw [hr] at h; cases h
    | some l' => rw [hr] at h; cases h; rw [intsOf_ok hr]; rfl
theorem ints_rd {ρ : Rho} {S : Nat → Prop} {w : World} : ∀ {xs : List Value} {l : List Int}, CsOk ρ xs (l.map fun n => Ce.w (.int .i64 n)) → RdL S w xs (l.map i64)
  | _, [], h => by cases h; exact .nil
  | _, n :: l, h => by
    cases h with
    | cons h1 h2 =>
      obtain ⟨rfl, h3⟩ := h1
      exact .cons (.v h3) (ints_rd h2)
theorem pure_eqAgg (C : Cfg) {o : Oper} {g : Operand → Tv} {op : BinOp} {ty ty' : TypeId} {x y : Operand} (ho : o.op = .binOp op ty x y ty') {cs ds : List Ce} (hx : g x = .d (.agg cs)) (hy : g y = .d (.agg ds)) {n : Nat} (hn : C.eqn ty = some n) {l l' : List Int} (hl : intsOf cs = some l) (hl' : intsOf ds = some l')
    (h1 : l.length = n) (h2 : l'.length = n) : (op = .eql → PureOk C.P o g (wb (decide (l = l')))) ∧ (op = .neq → PureOk C.P o g (wb (!decide (l = l')))) := by
  obtain ⟨hgd, hrun⟩ := C.hE ty n hn l l' h1 h2
  have key : ∀ b', ((op = .eql ∧ b' = decide (l = l')) ∨ (op = .neq ∧ b' = !decide (l = l'))) → PureOk C.P o g (wb b') := by
    intro b' hb ρ w ev hev
    have e1 := hev x (by rw [ho]; simp [Op.operands])
    have e2 := hev y (by rw [ho]; simp [Op.operands])
    rw [hx, intsOf_ok hl] at e1; rw [hy, intsOf_ok hl'] at e2
    obtain ⟨us, e1, r1⟩ := agg_inv e1
    obtain ⟨vs, e2, r2⟩ := agg_inv e2
    have hr := hrun (fun _ => True) w us vs (ints_rd r1) (ints_rd r2)
    refine ⟨.bool b', ?_, ⟨rfl, rfl⟩⟩
    rcases hb with ⟨rfl, rfl⟩ | ⟨rfl, rfl⟩
    · simp [execOp, ho, e1, e2, eqGuard, hgd, binOp, hr]
    · simp [execOp, ho, e1, e2, eqGuard, hgd, binOp, hr]
  exact ⟨fun e => key _ (.inl ⟨e, rfl⟩), fun e => key _ (.inr ⟨e, rfl⟩)⟩
theorem pure_eqBool {P : Program} {o : Oper} {g : Operand → Tv} {op : BinOp} {ty ty' : TypeId} {x y : Operand} (ho : o.op = .binOp op ty x y ty') {p q : Bool} (hx : g x = wb p) (hy : g y = wb q) (hu : P.underlying ty = some .bool) :
    (op = .eql → PureOk P o g (wb (p == q))) ∧ (op = .neq → PureOk P o g (wb (!(p == q)))) := by
  have key : ∀ b', ((op = .eql ∧ b' = (p == q)) ∨ (op = .neq ∧ b' = !(p == q))) → PureOk P o g (wb b') := by
    intro b' hb ρ w ev hev
    have e1 := hev x (by rw [ho]; simp [Op.operands])
    have e2 := hev y (by rw [ho]; simp [Op.operands])
    rw [hx] at e1; rw [hy] at e2
    have e1 := w_inv e1; have e2 := w_inv e2
    have hr : (Op.equal ty (.bool p) (.bool q)).run P w = .ok (p == q) w := by
      unfold Op.equal Op.maxDepth
      exact run_equalIn_bool w 9999 ty p q hu
    refine ⟨.bool b', ?_, ⟨rfl, rfl⟩⟩
    rcases hb with ⟨rfl, rfl⟩ | ⟨rfl, rfl⟩
    · simp [execOp, ho, e1, e2, eqGuard, binOp, hr]
    · simp [execOp, ho, e1, e2, eqGuard, binOp, hr]
  exact ⟨fun e => key _ (.inl ⟨e, rfl⟩), fun e => key _ (.inr ⟨e, rfl⟩)⟩
def nilOf : Tv → Option Bool
  | .d (.one (.w (.slice none 0 0))) => some true
  | .d (.one (.slc ..)) => some false
  | _ => none
theorem pure_eqNil {P : Program} {TT : Tab} (hT : TabOk P TT) {o : Oper} {g : Operand → Tv} {ty ty' : TypeId} {T : Ty} (hty : TT ty = some T) {e : Nat} (hk : T.kind = .slc e) {op : BinOp} {x y : Operand} (ho : o.op = .binOp op ty x y ty') (hy : g y = wv (.slice none 0 0)) {b : Bool} (hx : nilOf (g x) = some b) :
    (op = .eql → PureOk P o g (wb b)) ∧ (op = .neq → PureOk P o g (wb (!b))) := by
  have hkk : P.underlying ty = some (.slice e) := by have := (hT ty T hty).kind; rw [hk] at this; exact this
  have key : ∀ b', ((op = .eql ∧ b' = b) ∨ (op = .neq ∧ b' = !b)) → PureOk P o g (wb b') := by
    intro b' hb ρ w ev hev
    have e1 := hev x (by rw [ho]; simp [Op.operands])
    have e2 := hev y (by rw [ho]; simp [Op.operands])
    rw [hy] at e2
    have e2 := w_inv e2
    have hs : ∃ ad n cap, ev x = .slice ad n cap ∧ ad.isNone = b := by
      unfold nilOf at hx
      split at hx
      · rename_i hq; rw [hq] at e1; cases hx; exact ⟨none, 0, 0, w_inv e1, rfl⟩
      · rename_i hq; rw [hq] at e1; cases hx; obtain ⟨_, _, _, a, _, h2, _⟩ := slc_inv e1; exact ⟨some a, _, _, h2, rfl⟩
      · cases hx
    obtain ⟨ad, n, cap, e1, hn⟩ := hs
    have hr : (Op.equal ty (.slice ad n cap) (.slice none 0 0)).run P w = .ok ad.isNone w := by
      unfold Op.equal Op.maxDepth
      exact run_equalIn_nil w 9999 hkk ad n cap
    rw [hn] at hr
    refine ⟨.bool b', ?_, ⟨rfl, rfl⟩⟩
    rcases hb with ⟨rfl, rfl⟩ | ⟨rfl, rfl⟩
    · simp [execOp, ho, e1, e2, eqGuard, binOp, hr]
    · simp [execOp, ho, e1, e2, eqGuard, binOp, hr]
  exact ⟨fun e => key _ (.inl ⟨e, rfl⟩), fun e => key _ (.inr ⟨e, rfl⟩)⟩

/-! ### moves, parts, addresses -/
theorem pure_move {P : Program} {o : Oper} {g : Operand → Tv} {x : Operand} (ho : o.op = .move x ∨ o.op = .assign x) : PureOk P o g (g x) := by
  intro ρ w ev hev
  have e1 := hev x (by rcases ho with ho | ho <;> rw [ho] <;> simp [Op.operands])
  refine ⟨ev x, ?_, e1⟩
  rcases ho with ho | ho <;> simp [execOp, ho]
theorem pure_pick {P : Program} {o : Oper} {g : Operand → Tv} {c x y : Operand} (ho : o.op = .pick c x y) {q : Bool} (hc : g c = wb q) : PureOk P o g (bif q then g x else g y) := by
  intro ρ w ev hev
  have e0 := hev c (by rw [ho]; simp [Op.operands])
  rw [hc] at e0
  have e0 := w_inv e0
  have e1 := hev x (by rw [ho]; simp [Op.operands])
  have e2 := hev y (by rw [ho]; simp [Op.operands])
  refine ⟨if q then ev x else ev y, by simp [execOp, ho, e0, asBool], ?_⟩
  cases q
  · exact e2
  · exact e1
theorem pure_extract {P : Program} {o : Oper} {g : Operand → Tv} {x : Operand} {i : Nat} (ho : o.op = .extract x i) {vs : List Dv} (hx : g x = .tup vs) {v : Dv} (hv : vs[i]? = some v) : PureOk P o g (.d v) := by
  intro ρ w ev hev
  have e1 := hev x (by rw [ho]; simp [Op.operands])
  rw [hx] at e1
  obtain ⟨us, e1, r1⟩ := e1
  obtain ⟨u, hu, hr⟩ := all2_get r1 i v hv
  exact ⟨u, by simp [execOp, ho, e1, Instr.extract, hu], hr⟩
theorem pure_nilCheck {P : Program} {o : Oper} {g : Operand → Tv} {x : Operand} (ho : o.op = .nilCheck x) : (∀ ob p, g x = .d (.one (.ptr ob p)) → PureOk P o g (g x)) ∧ (∀ f caps, g x = .d (.one (.fn f caps)) → PureOk P o g (g x)) := by
  refine ⟨fun ob p hx ρ w ev hev => ?_, fun f caps hx ρ w ev hev => ?_⟩
  · have e1 := hev x (by rw [ho]; simp [Op.operands])
    have e2 := e1
    rw [hx] at e1
    obtain ⟨b, off, c, _, e1⟩ := ptr_inv e1
    exact ⟨ev x, by simp [execOp, ho, e1], e2⟩
  · have e1 := hev x (by rw [ho]; simp [Op.operands])
    have e2 := e1
    rw [hx] at e1
    obtain ⟨xs, e1, _⟩ := e1
    exact ⟨ev x, by simp [execOp, ho, e1], e2⟩
theorem pure_not {P : Program} {o : Oper} {g : Operand → Tv} {ty : TypeId} {x : Operand} (ho : o.op = .unOp .not ty x) {b : Bool} (hx : g x = wb b) : PureOk P o g (wb (!b)) := by
  intro ρ w ev hev
  have e1 := hev x (by rw [ho]; simp [Op.operands])
  rw [hx] at e1
  exact ⟨_, by simp [execOp, ho, w_inv e1, Op.unary], ⟨rfl, rfl⟩⟩
theorem pure_neg {P : Program} {o : Oper} {g : Operand → Tv} {ty : TypeId} {x : Operand} (ho : o.op = .unOp .neg ty x) {k : IntKind} {n : Int} (hx : g x = wv (.int k n)) : PureOk P o g (wv (.int k (k.wrap (0 - n)))) := by
  intro ρ w ev hev
  have e1 := hev x (by rw [ho]; simp [Op.operands])
  rw [hx] at e1
  exact ⟨_, by simp [execOp, ho, w_inv e1, Op.unary, Op.intArith], ⟨rfl, rfl⟩⟩
theorem pure_convert {P : Program} {TT : Tab} (hT : TabOk P TT) {o : Oper} {g : Operand → Tv} {src dst : TypeId} {T S : Ty} (hty : TT dst = some T) (hsy : TT src = some S) {k k' : IntKind} (hk : T.kind = .int k) (hk' : S.kind = .int k') {x : Operand} (ho : o.op = .convert src dst x) {k'' : IntKind} {n : Int} (hx : g x = wv (.int k'' n)) :
    PureOk P o g (wv (.int k (k.wrap n))) := by
  intro ρ w ev hev
  have e1 := hev x (by rw [ho]; simp [Op.operands])
  rw [hx] at e1
  have hkk : P.underlying dst = some (.int k) := by have := (hT dst T hty).kind; rw [hk] at this; exact this
  have hss : P.underlying src = some (.int k') := by have := (hT src S hsy).kind; rw [hk'] at this; exact this
  exact ⟨_, by simp [execOp, ho, w_inv e1, convert, run_underlying hss, run_underlying hkk, Conv.intToInt], ⟨rfl, rfl⟩⟩
theorem pure_fieldAddr {P : Program} {TT : Tab} (hT : TabOk P TT) {o : Oper} {g : Operand → Tv} {ty : TypeId} {T : Ty} (hty : TT ty = some T) {fs : List (Nat × TypeId × Nat)} (hk : T.kind = .str fs) {f off ft size : Nat} (hf : fs[f]? = some (off, ft, size)) (hs : 0 < size) {x : Operand} (ho : o.op = .fieldAddr ty x f)
    {ob p : Nat} (hx : g x = .d (.one (.ptr ob p))) : PureOk P o g (.d (.one (.ptr ob (p + off)))) := by
  intro ρ w ev hev
  have e1 := hev x (by rw [ho]; simp [Op.operands])
  rw [hx] at e1
  obtain ⟨b, o0, c, hr, e1⟩ := ptr_inv e1
  refine ⟨.pointer (some ⟨b, o0 + p + off, none⟩), by simp [execOp, ho, e1, run_fieldAt (hT ty T hty) hk hf hs w b (o0 + p)], b, o0, c, hr, by rw [Nat.add_assoc]⟩
theorem pure_field {P : Program} {TT : Tab} (hT : TabOk P TT) {o : Oper} {g : Operand → Tv} {ty : TypeId} {T : Ty} (hty : TT ty = some T) {fs : List (Nat × TypeId × Nat)} (hk : T.kind = .str fs) {f off ft size : Nat} (hf : fs[f]? = some (off, ft, size)) {TF : Ty} (hft : TT ft = some TF) (hsz : TF.size = size) {x : Operand} (ho : o.op = .field ty x f)
    {cs : List Ce} (hx : g x = .d (.agg cs)) {v : Dv} (hv : packD TF ((cs.drop off).take size) = some v) : PureOk P o g (.d v) := by
  intro ρ w ev hev
  have e1 := hev x (by rw [ho]; simp [Op.operands])
  rw [hx] at e1
  obtain ⟨xs, e1, r1⟩ := agg_inv e1
  obtain ⟨h1, h2, h3⟩ := packD_ok hv
  have hkk := (hT ty T hty).kind
  rw [hk] at hkk
  obtain ⟨F, hu, hF, _⟩ := hkk
  have g1 : (F.toList.map (fun f => (f.offset, f.type, P.cellsOf f.type)))[f]? = some (off, ft, size) := by rw [hF]; exact hf
  rw [List.getElem?_map] at g1
  have hxl := all2_length r1
  cases hq : F.toList[f]? with
  | none => simp [hq] at g1
  | some fld =>
    simp [hq] at g1
    obtain ⟨g2, g3, g4⟩ := g1
    have hq' : F[f]? = some fld := by simpa using hq
    subst hsz
    rw [List.length_take, List.length_drop] at h1 h2
    have hle : off + TF.size ≤ xs.length ∨ TF.size = 0 := by omega
    rcases hle with hle | h0
    · have hp := run_part (P := P) (hT ft TF hft) w xs off hle (fun e => by have := h2 e; omega)
      refine ⟨_, ?_, h3 ρ _ (all2_take (all2_drop r1 off) TF.size)⟩
      simp [execOp, ho, e1, Instr.field, run_underlying hu, hq', asAgg, g2, g3, hp]
    · have hag : T.kind.isAgg = true := by rw [hk]; rfl
      have hta : TF.kind.isAgg = true := by
        cases hb : TF.kind.isAgg with
        | true => rfl
        | false => have := h2 hb; omega
      have hp : (part ft xs.toArray off).run P w = .ok (pack TF.kind.isAgg ((xs.drop off).take TF.size)) w := by
        simp [part, run_isAgg' (hT ft TF hft), hta, run_sizeOf' (hT ft TF hft), pack, h0]
      refine ⟨_, ?_, h3 ρ _ (all2_take (all2_drop r1 off) TF.size)⟩
      simp [execOp, ho, e1, Instr.field, run_underlying hu, hq', asAgg, g2, g3, hp]
theorem pure_indexSl {P : Program} {TT : Tab} (hT : TabOk P TT) {o : Oper} {g : Operand → Tv} {ty : TypeId} {T : Ty} (hty : TT ty = some T) {e : Nat} (hk : T.kind = .slc e) {TE : Ty} (hte : TT e = some TE) {x i : Operand} (ho : o.op = .indexAddr ty x i)
    {kk : IntKind} {q : Int} (hi : g i = wv (.int kk q)) {ob k p n : Nat} {full : Bool} (hx : g x = .d (.one (.slc ob k p n full))) (hk' : k = TE.size) (h0 : 0 ≤ q) (hn : q < n) : PureOk P o g (.d (.one (.ptr ob ((p + q.toNat) * k)))) := by
  intro ρ w ev hev
  have e1 := hev x (by rw [ho]; simp [Op.operands])
  have e2 := hev i (by rw [ho]; simp [Op.operands])
  rw [hx] at e1; rw [hi] at e2
  have e2 := w_inv e2
  obtain ⟨b, off, c, a, hr, e1, hpn, ha⟩ := slc_inv e1
  obtain rfl := ha (.inl (by omega))
  have hkk : P.underlying ty = some (.slice e) := by have := (hT ty T hty).kind; rw [hk] at this; exact this
  refine ⟨.pointer (some ⟨b, off + p * k + q.toNat * TE.size, none⟩), ?_, b, off, c, hr, ?_⟩
  · simp [execOp, ho, e1, e2, Instr.indexAt, asIntOf, run_underlying hkk, h0, hn, run_sizeOf' (hT e TE hte), addr_add]
  · rw [← hk', Nat.add_mul, Nat.add_assoc]
theorem pure_indexArr {P : Program} {TT : Tab} (hT : TabOk P TT) {o : Oper} {g : Operand → Tv} {ty : TypeId} {T : Ty} (hty : TT ty = some T) {len e : Nat} (hk : T.kind = .arr len e) {TE : Ty} (hte : TT e = some TE) {x i : Operand} (ho : o.op = .index ty x i)
    {cs : List Ce} (hx : g x = .d (.agg cs)) {kk : IntKind} {n : Int} (hi : g i = wv (.int kk n)) (hb : 0 ≤ n ∧ n < len ∧ n.toNat * TE.size + TE.size ≤ cs.length) {v : Dv} (hv : packD TE ((cs.drop (n.toNat * TE.size)).take TE.size) = some v) : PureOk P o g (.d v) := by
  intro ρ w ev hev
  have e1 := hev x (by rw [ho]; simp [Op.operands])
  have e2 := hev i (by rw [ho]; simp [Op.operands])
  rw [hx] at e1; rw [hi] at e2
  have e2 := w_inv e2
  obtain ⟨xs, e1, r1⟩ := agg_inv e1
  obtain ⟨h1, h2, h3⟩ := packD_ok hv
  have hxl := all2_length r1
  have hkk : P.underlying ty = some (.array len e) := by have := (hT ty T hty).kind; rw [hk] at this; exact this
  have hp := run_part (P := P) (hT e TE hte) w xs (n.toNat * TE.size) (by omega) (fun e => by have := h2 e; rw [h1] at this; exact this)
  refine ⟨_, ?_, h3 ρ _ (all2_take (all2_drop r1 _) TE.size)⟩
  simp [execOp, ho, e1, e2, Instr.index, run_underlying hkk, asAgg, asIntOf, hb.1, hb.2.1, run_sizeOf' (hT e TE hte), hp]
end Go.Cv
namespace Go.Cv
open Go Go.RowKit Go.Vm

def Tv.cells : Tv → Option (List Ce)
  | .d (.one c) => some [c]
  | .d (.agg cs) => some cs
  | _ => none
theorem cells_one' {x : Value} (h : x.oneCell' = true) : x.cells = #[x] := by
  cases x <;> first | rfl | (simp [Value.oneCell'] at h)
theorem cells_inv {ρ : Rho} {x : Value} {v : Tv} {l : List Ce} (h : TvOk ρ x v) (hl : v.cells = some l) : ∃ us : List Value, x.cells = us.toArray ∧ CsOk ρ us l := by
  match v, hl with
  | .d (.one c), hl =>
    cases hl
    have h : CeOk ρ x c := h
    exact ⟨[x], cells_one' h.oneCell, .cons h .nil⟩
  | .d (.agg cs), hl =>
    cases hl
    obtain ⟨xs, rfl, r⟩ := agg_inv h
    exact ⟨xs, rfl, r⟩
theorem CsOk.oneCell {ρ : Rho} {us : List Value} {l : List Ce} (h : CsOk ρ us l) : ∀ x ∈ us, x.oneCell' = true := by
  induction h with
  | nil => intro x hx; simp at hx
  | cons h1 _ ih =>
    intro x hx
    rcases List.mem_cons.1 hx with rfl | hx
    · exact h1.oneCell
    · exact ih x hx

theorem all2_set {α β : Type} {R : α → β → Prop} {xs : List α} {ys : List β} (h : All2 R xs ys) {x : α} {y : β} (hxy : R x y) (i : Nat) : All2 R (xs.set i x) (ys.set i y) := by
  induction h generalizing i with
  | nil => exact .nil
  | cons h1 h2 ih =>
    cases i with
    | zero => exact .cons hxy h2
    | succ i => exact .cons h1 (ih i)
theorem all2_setCells {α β : Type} {R : α → β → Prop} {us : List α} {ds : List β} (hu : All2 R us ds) {xs : List α} {ys : List β} (i : Nat) (h : All2 R xs ys) : All2 R (setCells xs i us) (setCells ys i ds) := by
  induction hu generalizing xs ys i with
  | nil => exact h
  | cons h1 _ ih => exact ih (i + 1) (all2_set h h1 i)

def fillE (place : Nat → Option (Nat × Nat)) (g : Operand → Tv) : List Ce → List (Nat × Operand) → Option (List Ce)
  | cs, [] => some cs
  | cs, (i, x) :: r => match place i, (g x).cells with
    | some (off, sz), some l => bif Nat.beq l.length sz && Nat.ble (off + sz) cs.length then fillE place g (setC cs off l) r else none
    | _, _ => none
theorem fillE_ok {ρ : Rho} {ev : Operand → Value} {g : Operand → Tv} (place : Nat → Option (Nat × Nat)) : ∀ (parts : List (Nat × Operand)) (cs cs' : List Ce) (xs : List Value), fillE place g cs parts = some cs' → (∀ p ∈ parts, TvOk ρ (ev p.2) (g p.2)) → CsOk ρ xs cs →
    ∃ ys : List Value, Instr.fill place xs.toArray (parts.map fun p => (p.1, ev p.2)) = some ys.toArray ∧ CsOk ρ ys cs' ∧ cs'.length = cs.length
  | [], cs, cs', xs, h, _, hx => by cases h; exact ⟨xs, by simp [Instr.fill], hx, rfl⟩
  | (i, x) :: r, cs, cs', xs, h, hev, hx => by
    simp only [fillE] at h
    cases hp : place i with
    | none => rw [hp] at h; cases h
    | some p =>
      obtain ⟨off, sz⟩ := p
      cases hc : (g x).cells with
      | none => rw [hp, hc] at h; cases h
      | some l =>
        rw [hp, hc] at h
        simp only at h
        cases hb : (Nat.beq l.length sz && Nat.ble (off + sz) cs.length) with
        | false => rw [hb] at h; cases h
        | true =>
          rw [hb, cond_true, setC_eq] at h
          simp only [Bool.and_eq_true] at hb
          have h1 := Nat.eq_of_beq_eq_true hb.1
          have h2 := Nat.le_of_ble_eq_true hb.2
          obtain ⟨us, hu1, hu2⟩ := cells_inv (hev (i, x) (by simp)) hc
          have hul := all2_length hu2
          have hxl := all2_length hx
          obtain ⟨ys, hy1, hy2, hy3⟩ := fillE_ok place r _ cs' (setCells xs off us) h (fun p hp => hev p (by simp [hp])) (all2_setCells hu2 off hx)
          refine ⟨ys, ?_, hy2, by rw [hy3, length_setCells]⟩
          have hsz2 : (ev x).cells.size = sz := by rw [hu1]; simp; omega
          have hfs := fold_setCells off us xs 0
          simp only [Nat.add_zero] at hfs
          simp only [List.map_cons, Instr.fill, hp, hsz2, ne_eq, not_true, decide_false, Bool.false_or, decide_eq_true_eq]
          rw [if_neg (by simp; omega), hu1]
          have hz : us.toArray.zipIdx.foldl (fun (cs : Array Value) (x : Value × Nat) => match x with | (c, j) => cs.setIfInBounds (off + j) c) xs.toArray = (setCells xs off us).toArray := by
            rw [← hfs]
            simp
          rw [hz]
          exact hy1

def svC : SV → Option Ce
  | .v x => some (.w x)
  | _ => none
def svL : List SV → Option (List Ce)
  | [] => some []
  | c :: r => match svC c, svL r with
    | some c, some l => some (c :: l)
    | _, _ => none
theorem svL_ok {S : Nat → Prop} {w : World} {ρ : Rho} : ∀ {cs : List SV} {l : List Ce} {xs : List Value}, svL cs = some l → RdL S w xs cs → CsOk ρ xs l
  | [], l, xs, h, hr => by cases h; cases hr; exact .nil
  | c :: r, l, xs, h, hr => by
    cases hr with
    | cons h1 h2 =>
      simp only [svL] at h
      cases hc : svC c with
      | none => rw [hc] at h; cases h
      | some c' =>
        cases hl : svL r with
        | none => rw [hc, hl] at h; cases h
        | some l' =>
          rw [hc, hl] at h
          cases h
          refine .cons ?_ (svL_ok hl h2)
          unfold svC at hc
          split at hc
          · cases hc
            exact Rd.inv_v h1
          · cases hc
def zeroE (T : Ty) : Option (List Ce) := svL T.zero
theorem zeroE_ok {P : Program} {t : TypeId} {T : Ty} (hT : TyOk P t T) {l : List Ce} (h : zeroE T = some l) (ρ : Rho) : ∃ i z, P.info? t = some i ∧ i.size = T.size ∧ i.bytes = T.bytes ∧ i.zero = some z ∧ z.cells.size = T.size ∧ CsOk ρ z.cells.toList l := by
  obtain ⟨i, z, h1, h2, h3, h4, h5, h6⟩ := zero_rd hT (fun _ => True) (default : World)
  exact ⟨i, z, h1, h2, h3, h4, h5, svL_ok h h6⟩

theorem pure_buildStr {P : Program} {TT : Tab} (hT : TabOk P TT) {o : Oper} {g : Operand → Tv} {ty : TypeId} {T : Ty} (hty : TT ty = some T) {fs : List (Nat × TypeId × Nat)} (hk : T.kind = .str fs) {parts : Array (Nat × Operand)} (ho : o.op = .build ty parts) {z cs : List Ce} (hz : zeroE T = some z)
    (h : fillE (fun i => (fs[i]?).map fun x => (x.1, x.2.2)) g z parts.toList = some cs) : PureOk P o g (.d (.agg cs)) := by
  intro ρ w ev hev
  have hkk := (hT ty T hty).kind
  rw [hk] at hkk
  obtain ⟨F, hu, hF, hM⟩ := hkk
  obtain ⟨i, ze, h1, h2, h3, h4, h5, hzr⟩ := zeroE_ok (hT ty T hty) hz ρ
  have e1 : (fun i : Nat => (fs[i]?).map fun x => (x.1, x.2.2)) = fun i : Nat => (fs.map fun x : Nat × TypeId × Nat => (x.1, x.2.2)).toArray[i]? := by
    funext i; simp only [List.getElem?_toArray, List.getElem?_map]
  rw [e1] at h
  obtain ⟨ys, hy1, hy2, _⟩ := fillE_ok _ parts.toList z cs ze.cells.toList h (fun p hp => hev p.2 (parts_mem (by rw [ho]; rfl) p hp)) hzr
  have hb : P.built ty (parts.map fun (i, x) => (i, ev x)).toList = some ys.toArray := by
    unfold Program.built
    simp only [h1, hu, h4, hM, Array.toList_map]
    exact hy1
  refine ⟨.agg ys.toArray, ?_, ys, rfl, hy2⟩
  have hr := run_build (P := P) w ty (parts.map fun (i, x) => (i, ev x)) ys.toArray hb
  simp [execOp, ho, hr]
theorem pure_buildArr {P : Program} {TT : Tab} (hT : TabOk P TT) {o : Oper} {g : Operand → Tv} {ty : TypeId} {T : Ty} (hty : TT ty = some T) {n e : Nat} (hk : T.kind = .arr n e) {TE : Ty} (hte : TT e = some TE) {parts : Array (Nat × Operand)} (ho : o.op = .build ty parts) {z cs : List Ce} (hz : zeroE T = some z)
    (h : fillE (fun i => some (i * TE.size, TE.size)) g z parts.toList = some cs) : PureOk P o g (.d (.agg cs)) := by
  intro ρ w ev hev
  have hkk := (hT ty T hty).kind
  rw [hk] at hkk
  obtain ⟨i, ze, h1, h2, h3, h4, h5, hzr⟩ := zeroE_ok (hT ty T hty) hz ρ
  obtain ⟨ie, zE, g1, g2, g3, g4, g5, _⟩ := zero_rd (hT e TE hte) (fun _ => True) w
  obtain ⟨ys, hy1, hy2, _⟩ := fillE_ok _ parts.toList z cs ze.cells.toList h (fun p hp => hev p.2 (parts_mem (by rw [ho]; rfl) p hp)) hzr
  have hb : P.built ty (parts.map fun (i, x) => (i, ev x)).toList = some ys.toArray := by
    unfold Program.built
    simp only [h1, hkk, h4, g1, g2, Array.toList_map]
    exact hy1
  refine ⟨.agg ys.toArray, ?_, ys, rfl, hy2⟩
  have hr := run_build (P := P) w ty (parts.map fun (i, x) => (i, ev x)) ys.toArray hb
  simp [execOp, ho, hr]

/-! ### loads -/
theorem read_list {ρ : Rho} {f : Nat → Option Value} : ∀ (cs : List Ce) (k : Nat), (∀ (j : Nat) (x : Ce), cs[j]? = some x → ∃ v, f (k + j) = some v ∧ CeOk ρ v x) → ∃ xs : List Value, CsOk ρ xs cs ∧ ∀ (j : Nat) (v : Value), xs[j]? = some v → f (k + j) = some v
  | [], k, _ => ⟨[], .nil, fun j v h => by simp at h⟩
  | c :: r, k, h => by
    obtain ⟨v, h1, h2⟩ := h 0 c rfl
    obtain ⟨xs, h3, h4⟩ := read_list r (k + 1) (fun j x hx => by
      have := h (j + 1) x (by simpa using hx)
      rwa [show k + (j + 1) = k + 1 + j by omega] at this)
    refine ⟨v :: xs, .cons h2 h3, fun j u hu => ?_⟩
    cases j with
    | zero => simp at hu; subst hu; exact h1
    | succ j =>
      rw [show k + (j + 1) = k + 1 + j by omega]
      exact h4 j u (by simpa using hu)
def Ob.row : Ob → Option (List Ce)
  | .arr _ _ _ _ cs => some cs
  | .ro cs => some cs
  | _ => Option.none
theorem row_ok {ρ : Rho} {w : World} {o : Nat} {x : Ob} {cs : List Ce} (h : ObOk ρ w o x) (hr : x.row = some cs) : ∃ b off c, ρ o = some (b, off, c) ∧ c ≤ maxLen ∧ ∀ (j : Nat) (y : Ce), cs[j]? = some y → ∃ v, w.cell? ⟨b, off + j, none⟩ = some v ∧ CeOk ρ v y := by
  match x, hr with
  | .arr e k n ex cs, hr =>
    cases hr
    obtain ⟨b, c, arr, h1, h2, h3, h4, h5, h6, h7, h8⟩ := h
    exact ⟨b, 0, c, h1, h5, fun j y hy => by
      obtain ⟨v, q1, q2⟩ := h8 j y hy
      exact ⟨v, by simp [World.cell?, h2, q1], q2⟩⟩
  | .ro cs, hr =>
    cases hr
    exact h
theorem drop_take_get {α : Type} {cs : List α} {p n j : Nat} {y : α} (h : ((cs.drop p).take n)[j]? = some y) : cs[p + j]? = some y := by
  rw [List.getElem?_take, List.getElem?_drop] at h
  split at h
  · exact h
  · cases h
theorem part_ok {ρ : Rho} {w : World} {o : Nat} {x : Ob} {cs : List Ce} (h : ObOk ρ w o x) (hr : x.row = some cs) (p n : Nat) : ∃ b off c, ρ o = some (b, off, c) ∧ ∃ xs : List Value, CsOk ρ xs ((cs.drop p).take n) ∧ ∀ (j : Nat) (v : Value), xs[j]? = some v → w.cell? ⟨b, off + p + j, none⟩ = some v := by
  obtain ⟨b, off, c, h1, _, h3⟩ := row_ok h hr
  obtain ⟨xs, h4, h5⟩ := read_list (ρ := ρ) (f := fun j => w.cell? ⟨b, off + j, none⟩) ((cs.drop p).take n) p (fun j y hy => h3 _ _ (drop_take_get hy))
  refine ⟨b, off, c, h1, xs, h4, fun j v hv => ?_⟩
  have := h5 j v hv
  rw [← Nat.add_assoc] at this
  exact this
theorem step_load (C : Cfg) {o : Oper} {t : Nat → Tv} {m : Nat → Ob} {ty : TypeId} {T : Ty} (hty : C.TT ty = some T) {x : Operand} (ho : o.op = .load ty x) {ob p : Nat} (hx : opd t x = .d (.one (.ptr ob p))) {cs : List Ce} (hr : (m ob).row = some cs) {v : Dv} (hv : packD T ((cs.drop p).take T.size) = some v) : StepOk C.P o t m (.d v) [] [ob] := by
  refine stepOk_pure fun E ρ t' m' a w hP ha hm hR => ?_
  have e1 := opd_ok hR x
  rw [opd_agree ha (by rw [ho]; simp [Op.operands]), hx] at e1
  obtain ⟨b, off, c, hρ, e1⟩ := ptr_inv e1
  obtain ⟨h1, h2, h3⟩ := packD_ok hv
  obtain ⟨b', off', c', hρ', xs, r1, r2⟩ := part_ok (hR.ob ob) (by rw [hm ob (by simp)]; exact hr) p T.size
  rw [hρ] at hρ'
  cases hρ'
  have hl := all2_length r1
  refine ⟨pack T.kind.isAgg xs, ?_, h3 ρ xs r1⟩
  have := run_loadVar' (P := C.P) (C.hT ty T hty) w b (off + p) xs (by rw [hl]; exact h1) (fun e => by rw [hl]; exact h2 e) r2
  simp [execOp, ho, e1, Instr.loadAt, Instr.sureAddr, this]
end Go.Cv
