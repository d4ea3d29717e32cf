/-
  Layer 26: the law BarClear.
-/
import Derived.Test.YtlgnghcflnkhcaaBarN
namespace Go.Vm
open Go Go.RowKit Go.Proofs

theorem srch_some {f : Nat → Bool} : ∀ {c o k : Nat}, srch f c o = some k → f k = true ∧ o ≤ k ∧ k < o + c ∧ ∀ j, o ≤ j → j < k → f j = false
  | 0, _, _, h => by simp [srch] at h
  | c + 1, o, k, h => by
    simp only [srch] at h
    cases hf : f o with
    | true =>
      rw [hf] at h
      simp only [cond_true, Option.some.injEq] at h
      subst h
      exact ⟨hf, Nat.le_refl _, by omega, fun j h1 h2 => by omega⟩
    | false =>
      rw [hf] at h
      obtain ⟨h1, h2, h3, h4⟩ := srch_some (c := c) (o := o + 1) h
      refine ⟨h1, by omega, by omega, fun j h5 h6 => ?_⟩
      by_cases e : j = o
      · subst e; exact hf
      · exact h4 j (by omega) h6
theorem srch_none {f : Nat → Bool} : ∀ {c o : Nat}, srch f c o = none → ∀ j, o ≤ j → j < o + c → f j = false
  | 0, _, _, _, _, _ => by omega
  | c + 1, o, h, j, h1, h2 => by
    simp only [srch] at h
    cases hf : f o with
    | true => rw [hf] at h; simp at h
    | false =>
      rw [hf] at h
      by_cases e : j = o
      · subst e; exact hf
      · exact srch_none (c := c) (o := o + 1) h j (by omega) (by omega)
theorem srch_is {f : Nat → Bool} {k : Nat} (hk : f k = true) : ∀ {c o : Nat}, o ≤ k → k < o + c → (∀ j, o ≤ j → j < k → f j = false) → srch f c o = some k
  | 0, _, _, _, _ => by omega
  | c + 1, o, h1, h2, h3 => by
    simp only [srch]
    by_cases e : o = k
    · subst e; rw [hk]; rfl
    · rw [h3 o (Nat.le_refl _) (by omega)]
      exact srch_is hk (c := c) (o := o + 1) (by omega) (by omega) (fun j h4 h5 => h3 j (by omega) h5)
theorem fits_none {n : Nat} {R : Nat → BP} {X : Nat → Int} {b : BD} (h : b.m = 0) (k : Nat) : fitsB n R X b k = true := by
  rw [fitsB, anyB_f]
  · rfl
  · intro i _
    exact anyB_f fun j hj => by omega
theorem fits_at {n : Nat} {R : Nat → BP} {X : Nat → Int} {b : BD} {k : Nat} (h : fitsB n R X b k = true) (i : Nat) (hi : i < n) (d : Nat) (hd : d < b.m) : clashB b (extLo (R i) (w64 (k + X i))) (extHi (R i) (w64 (k + X i))) d = false := by
  cases hc : clashB b (extLo (R i) (w64 (k + X i))) (extHi (R i) (w64 (k + X i))) d with
  | false => rfl
  | true =>
    rw [fitsB, anyB_t (b := fun i => anyB (clashB b (extLo (R i) (w64 (k + X i))) (extHi (R i) (w64 (k + X i)))) b.m) hi (anyB_t hd hc)] at h
    cases h
theorem CallW.offT {P : Program} {f : FuncId} {args : List DV} {K : TV → Prop} {o : Option Nat} (h : Det P f args (offT o)) (hn : o = none → K (twoT 0 8)) (hs : ∀ k : Nat, o = some k → K (twoT k 0)) : CallW P f args K := by
  cases o with
  | none => exact ⟨_, h, hn rfl⟩
  | some k => exact ⟨_, h, hs k rfl⟩

theorem lclear_det (n : Nat) (R : Nat → BP) (kerf : Int) (b : BD) (hn : n ≤ maxLen) (hm : b.m ≤ maxLen) : Det Try.prog 9 [.one (rowS n R), .one (i64 kerf), barD b] (tbool true) := by
  refine det_of_awp TTok mixed Try.func9 rfl rfl [] (Nat.le_of_ble_eq_true rfl) ?_
  refine CallW.mk' awake_det ?_
  repeat refine Split.f ?_
  refine Split.mk (fun h1 => ?_) (fun h1 => ?_)
  · repeat' first | refine Split.t ?_ | refine CallW.mk' awake_det ?_ | refine Fin.bool ?_
    rfl
  repeat refine Split.f ?_
  refine CallW.bool (small_det n R kerf hn) (fun sb hsb => ?_)
  repeat refine Split.f ?_
  refine Split.mk (fun h => ?_) (fun h => ?_)
  · repeat' first | refine Split.t ?_ | refine CallW.mk' awake_det ?_ | refine Fin.bool ?_
    rfl
  have hs : smallB n R kerf = true := by rw [← hsb]; simpa using h
  have V := VR.of hs
  have hn40 := V.n40
  have he : errI n R kerf = 0 := V.err
  repeat refine Split.f ?_
  refine CallW.bool (rsound_det b hm) (fun sb2 hsb2 => ?_)
  repeat refine Split.f ?_
  refine Split.mk (fun h2 => ?_) (fun h2 => ?_)
  · repeat' first | refine CallW.mk' awake_det ?_ | refine Fin.bool ?_
    rfl
  have hs2 : soundB b = true := by rw [← hsb2]; simpa using h2
  have B := SD.of hs2
  have hb2 := B.l2
  have eR : ∀ b, soundB b = true → offR n R kerf b = offT (srch (fitsB n R (placeI R kerf) b) (b.len - lengthI n R kerf + 1).toNat 0) := fun b hb => by
    rw [offR, if_neg (by rw [he, hb]; simp), if_neg (by rw [he]; simp)]
  have hL := length_b V
  refine CallW.offT ((eR b hs2) ▸ boffset_det n R kerf b hn hm) (fun hnone => ?_) (fun k hsome => ?_)
  · refine CallW.tup0 (length_det n R kerf hn) he (fun L hLe => ?_)
    rw [← hLe] at hL hnone
    refine CallW.mk' (places0_det hn he) ?_
    repeat' first | refine Split.t ?_ | refine Split.f ?_
    refine Split.mk (fun h3 => ?_) (fun h3 => ?_)
    · repeat' first | refine Split.t ?_ | refine Split.f ?_ | refine Fin.bool ?_
      first | rfl | exact h3
    · have h3' := of_decide_eq_false h3
      repeat' first | refine Split.t ?_ | refine Split.f ?_ | refine Fin.bool ?_
      refine decide_eq_true ?_
      rw [gt_iff_lt]
      refine Classical.byContradiction fun hc => ?_
      have := srch_none hnone 0 (Nat.le_refl _) (by omega)
      rw [fits_none (by omega)] at this
      cases this
  · obtain ⟨hf, _, hk, hbefore⟩ := srch_some hsome
    refine CallW.tup0 (length_det n R kerf hn) he (fun L hLe => ?_)
    rw [← hLe] at hL hk
    refine CallW.mk' (places0_det hn he) ?_
    repeat' first | refine Split.t ?_ | refine Split.f ?_
    refine Loop.by (α := Nat) (fun q => [(0, .d (.one (rowS n R))), (1, tint kerf), (5, .ptr 5 0), (7, tint k), (9, tint L), (11, .d (.one (intS n (placeI R kerf)))), (87, .d (.one (rowS n R))), (88, tint n), (89, tint q)]) (fun _ => [(5, .box (barL b))]) (fun q => q ≤ n) (fun q => n - q)
      (Adj.at 0 (Nat.zero_le _) (.cons (.box (LLe.of_eq rfl)) .nil) (.cons .same (.cons .same (.cons (.box rfl rfl) (.cons .same (.cons .same (.cons .same (.cons .same (.cons .same (.cons .same .nil)))))))))) (fun q hq => ?_)
    refine Split.mk (fun h3 => ?_) (fun h3 => ?_)
    · have hlt : q < n := by have := of_decide_eq_true h3; omega
      have hw64 : IntKind.i64.wrap ((q : Int) + 1) = ((q + 1 : Nat) : Int) := (w64_id ⟨by omega, by omega⟩).trans (by omega)
      refine Need.mk (by omega) ?_
      refine Need.mk (by omega) ?_
      have hp := place_b V q hlt
      have ew : w64 (placeI R kerf q + (k : Int)) = w64 (k + placeI R kerf q) := by rw [Int.add_comm]
      have ew2 : w64 ((k : Int) + placeI R kerf q) = k + placeI R kerf q := w64_id ⟨by omega, by omega⟩
      have hx := ext_plain (V.vp q hlt) (a := w64 (k + placeI R kerf q)) (by omega) (by omega)
      refine CallW.tup3 (extent3_det (R q) (w64 (placeI R kerf q + k))) (fun lo hh ee hlo hhi hee => ?_)
      rw [ew, if_pos hx.2.2] at hlo hhi
      rw [ew, hx.2.2] at hee
      subst hee
      refine Need.mk (by kernel_rfl) ?_
      refine Loop.by (α := Nat) (fun d => [(0, .d (.one (rowS n R))), (1, tint kerf), (5, .ptr 5 0), (7, tint k), (9, tint L), (11, .d (.one (intS n (placeI R kerf)))), (87, .d (.one (rowS n R))), (88, tint n), (89, tint q), (15, tint lo), (16, tint hh), (17, tint 0), (107, .d (.one (defS b.m b.D0 b.D1))), (108, tint b.m), (109, tint d)]) (fun _ => [(5, .box (barL b))]) (fun d => d ≤ b.m) (fun d => b.m - d)
        (Adj.at 0 (Nat.zero_le _) (.cons (.box (LLe.of_eq rfl)) .nil) (.cons .same (.cons .same (.cons (.box rfl rfl) (.cons .same (.cons .same (.cons .same (.cons .same (.cons .same (.cons .same (.cons .same (.cons .same (.cons .same (.cons .same (.cons .same (.cons .same .nil)))))))))))))))) (fun d hd => ?_)
      refine Split.mk (fun h3 => ?_) (fun h3 => ?_)
      · have hltd : d < b.m := by have := of_decide_eq_true h3; omega
        have hm6 := B.m6
        have hwd : IntKind.i64.wrap ((d : Int) + 1) = ((d + 1 : Nat) : Int) := (w64_id ⟨by omega, by omega⟩).trans (by omega)
        have hc := fits_at hf q hlt d hltd
        rw [← hlo, ← hhi] at hc
        refine Need.mk (by omega) ?_
        repeat' first | refine Need.mk (by decide) ?_ | refine Split.f ?_
        refine Split.mk (fun h4 => ?_) (fun h4 => ?_)
        · replace h4 : decide (lo < b.D1 d) = true := h4
          rw [clashB, h4, Bool.true_and] at hc
          repeat' first | refine Split.t ?_ | refine Split.f ?_ | refine Need.mk (by decide) ?_ | refine Split.isF hc ?_
          exact Adj.back (x := d) (d + 1) hltd (by omega) (.cons (.box (LLe.of_eq rfl)) .nil) (.cons .same (.cons .same (.cons (.box rfl rfl) (.cons .same (.cons .same (.cons .same (.cons .same (.cons .same (.cons .same (.cons .same (.cons .same (.cons .same (.cons .same (.cons .same (.cons (SlotLe.int hwd) .nil)))))))))))))))
        · repeat refine Split.f ?_
          exact Adj.back (x := d) (d + 1) hltd (by omega) (.cons (.box (LLe.of_eq rfl)) .nil) (.cons .same (.cons .same (.cons (.box rfl rfl) (.cons .same (.cons .same (.cons .same (.cons .same (.cons .same (.cons .same (.cons .same (.cons .same (.cons .same (.cons .same (.cons .same (.cons (SlotLe.int hwd) .nil)))))))))))))))
      · exact Adj.back (x := q) (q + 1) hlt (by omega) (.cons (.box (LLe.of_eq rfl)) .nil) (.cons .same (.cons .same (.cons (.box rfl rfl) (.cons .same (.cons .same (.cons .same (.cons .same (.cons .same (.cons (SlotLe.int hw64) .nil)))))))))
    · -- the longer bar
      have el : (if w64 (b.len + 100) < 2000 then w64 (b.len + 100) else 2000) = (if b.len + 100 < 2000 then b.len + 100 else 2000) := by rw [wid' (by have := B.l1; omega) (by omega)]
      have hl1 := B.l1
      have B2 : soundB { b with len := if w64 (b.len + 100) < 2000 then w64 (b.len + 100) else 2000 } = true := by
        rw [el]
        simp only [soundB, withinI, Bool.and_eq_true, decide_eq_true_eq, Bool.not_eq_true']
        refine ⟨⟨⟨?_, ?_⟩, by have := B.m6; omega⟩, anyB_f fun d hd => ?_⟩
        · split <;> omega
        · split <;> omega
        · have := B.ok d hd
          simp only [wrongD, Bool.or_eq_false_iff, decide_eq_false_iff_not]
          refine ⟨⟨by omega, by omega⟩, ?_⟩
          split <;> omega
      have hsome2 : srch (fitsB n R (placeI R kerf) { b with len := if w64 (b.len + 100) < 2000 then w64 (b.len + 100) else 2000 }) ((if w64 (b.len + 100) < 2000 then w64 (b.len + 100) else 2000) - lengthI n R kerf + 1).toNat 0 = some k := by
        refine srch_is (f := fitsB n R (placeI R kerf) b) hf (Nat.zero_le _) ?_ (fun j h4 h5 => hbefore j h4 h5)
        rw [el, ← hLe]
        split <;> omega
      refine CallW.mk' ((eR _ B2).trans (congrArg offT hsome2) ▸ boffset_det n R kerf { b with len := if w64 (b.len + 100) < 2000 then w64 (b.len + 100) else 2000 } hn hm) ?_
      have hw : IntKind.i64.wrap ((k : Int) + L) = k + L := w64_id ⟨by omega, by omega⟩
      have hwl : decide (IntKind.i64.wrap ((k : Int) + L) ≤ b.len) = true := decide_eq_true (by rw [hw]; omega)
      have hk0 : decide ((k : Int) ≥ 0) = true := decide_eq_true (by omega)
      repeat' first | refine Split.t ?_ | refine Split.isT hk0 ?_ | refine Split.isT hwl ?_ | fail
      refine Split.mk (fun h5 => ?_) (fun h5 => ?_)
      · repeat' first | refine Split.t ?_ | refine Split.isT (beq_self_eq_true _) ?_ | refine Fin.bool ?_
        exact beq_self_eq_true _
      · have h5' := of_decide_eq_false h5
        have hk0 : k = 0 := by
          refine Classical.byContradiction fun hne => ?_
          have := hbefore 0 (Nat.le_refl _) (by omega)
          rw [fits_none (by omega)] at this
          cases this
        subst hk0
        repeat' first | refine Split.f ?_ | refine Split.t ?_ | refine Split.isT (beq_self_eq_true _) ?_ | refine Fin.bool ?_
        exact beq_self_eq_true _
theorem lclear_all : ∀ dvs, TypL Try.prog Try.f9.params.toList dvs → Det Try.prog 9 dvs (tbool true) := by
  intro dvs h
  obtain ⟨v0, r0, rfl, h0, q0⟩ := TypL.inv_cons (t := 22) (ts := [3, 43]) h
  obtain ⟨v1, r1, rfl, h1, q1⟩ := TypL.inv_cons q0
  obtain ⟨v2, r2, rfl, h2, q2⟩ := TypL.inv_cons q1
  obtain rfl := TypL.inv_nil q2
  obtain ⟨n, R, hn, hl⟩ := row_of h0
  obtain ⟨kerf, rfl, _⟩ := TypD.i64 (by kernel_rfl) rfl h1
  obtain ⟨b, hm, hl2⟩ := bar_of h2
  exact Det.le (.cons hl (.cons (DLe.refl _) (.cons hl2 .nil))) (lclear_det n R kerf b hn hm)
end Go.Vm
