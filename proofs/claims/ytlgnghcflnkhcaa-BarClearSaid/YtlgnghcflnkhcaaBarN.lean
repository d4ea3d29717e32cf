/-
  Layer 26: contracts of offsets, and the law BarOffset.
-/
import Derived.Test.YtlgnghcflnkhcaaBarM
namespace Go.Vm
open Go Go.RowKit Go.Proofs

def offR (n : Nat) (R : Nat → BP) (kerf : Int) (b : BD) : TV :=
  if errI n R kerf = 1 ∨ soundB b = false then twoT 0 1 else if errI n R kerf ≠ 0 then twoT 0 (errI n R kerf) else
    offT (srch (fitsB n R (placeI R kerf) b) (b.len - lengthI n R kerf + 1).toNat 0)

theorem loop_c {k : Nat} {L len : Int} (h0 : 0 ≤ L) (h1 : L ≤ 110000) (hk : k ≤ 2001) : w64 ((k : Int) + L) ≤ len ↔ k < (len - L + 1).toNat := by
  rw [wid' (by omega) (by omega)]
  omega
theorem boffset_det (n : Nat) (R : Nat → BP) (kerf : Int) (b : BD) (hn : n ≤ maxLen) (hm : b.m ≤ maxLen) : Det Try.prog 27 [.one (rowS n R), .one (i64 kerf), barD b] (offR n R kerf b) := by
  refine det_of_awp TTok mixed Try.func27 rfl rfl [] (Nat.le_of_ble_eq_true rfl) ?_
  refine CallW.int (check_det n R kerf hn) (fun e he => ?_)
  refine Split.mk (fun h => ?_) (fun h => ?_)
  · have h1 : e = 1 := by simpa using h
    repeat refine Split.t ?_
    refine Fin.eq ?_
    rw [offR, if_pos (.inl (by rw [← he, h1]))]
  repeat refine Split.f ?_
  refine CallW.bool (sound_det b hm) (fun sb hsb => ?_)
  repeat refine Split.f ?_
  refine Split.mk (fun h2 => ?_) (fun h2 => ?_)
  · have h1 : sb = false := by simpa using h2
    refine Fin.eq ?_
    rw [offR, if_pos (.inr (by rw [← hsb, h1]))]
  have h1 : ¬ e = 1 := by simpa using h
  have hs : sb = true := by simpa using h2
  have hnot : ¬ (errI n R kerf = 1 ∨ soundB b = false) := by rw [← he, ← hsb, hs]; simp [h1]
  refine Split.mk (fun h3 => ?_) (fun h3 => ?_)
  · have : e ≠ 0 := by simpa using h3
    refine Fin.eq ?_
    rw [offR, if_neg hnot, if_pos (by rw [← he]; exact this), ← he]
  have h0 : e = 0 := by simpa using h3
  have V := VR.of_err (he.symm.trans h0)
  have B := SD.of (hsb.symm.trans hs)
  have hn40 := V.n40
  have hlen := B.l2
  have eR : offR n R kerf b = offT (srch (fitsB n R (placeI R kerf) b) (b.len - lengthI n R kerf + 1).toNat 0) := by
    rw [offR, if_neg hnot, if_neg (by rw [← he]; simp [h0])]
  rw [eR]
  have hL := length_b V
  refine CallW.mk' (places_det n R kerf (by omega)) ?_
  refine CallW.int (len_det n R kerf (by omega)) (fun L hLe => ?_)
  rw [← hLe] at hL ⊢
  refine Loop.by (α := Nat) (fun k => [(5, .ptr 5 0), (10, tint L), (11, .d (.one (.fn 55 3 fun j => match j with | 0 => .ad 1 (fun j => match j with | 0 => rowS n R | _ => .v Go.undef) | 1 => .ad 1 (fun j => match j with | 0 => intS n (placeI R kerf) | _ => .v Go.undef) | 2 => .ad 5 (fun j => match j with | 0 => i64 b.id | 1 => .v (.string b.gr) | 2 => .v (.string b.ht) | 3 => i64 b.len | 4 => defS b.m b.D0 b.D1 | _ => .v Go.undef) | _ => .v Go.undef))), (12, tint k)]) (fun _ => [(5, .ro (barL b))])
    (fun k => k ≤ (b.len - L + 1).toNat ∧ k ≤ 2001 ∧ srch (fitsB n R (placeI R kerf) b) ((b.len - L + 1).toNat - k) k = srch (fitsB n R (placeI R kerf) b) (b.len - L + 1).toNat 0) (fun k => 2001 - k)
    (Adj.at 0 ⟨Nat.zero_le _, Nat.zero_le _, rfl⟩ (.cons (.ro (LLe.of_eq rfl)) .nil) (.cons (.ro rfl rfl) (.cons .same (.cons (.data (DLe.of_eq ?_)) (.cons .same .nil))))) (fun k hi => ?_)
  · congr 2
    funext j
    rcases j with _ | _ | _ | j
    · show SV.ad _ _ = SV.ad _ _
      congr 1
      funext j
      rcases j with _ | j <;> rfl
    · show SV.ad _ _ = SV.ad _ _
      congr 1
      funext j
      rcases j with _ | j <;> rfl
    · show SV.ad _ _ = SV.ad _ _
      congr 1
      funext j
      rcases j with _ | _ | _ | _ | _ | j <;> rfl
    · rfl
  obtain ⟨hk, hk2, hi⟩ := hi
  refine Split.mk (fun h4 => ?_) (fun h4 => ?_)
  · have hlt : k < (b.len - L + 1).toNat := (loop_c hL.1 hL.2 hk2).1 (of_decide_eq_true h4)
    have hw64 : IntKind.i64.wrap ((k : Int) + 1) = ((k + 1 : Nat) : Int) := (w64_id ⟨by omega, by omega⟩).trans (by omega)
    obtain ⟨q, hq⟩ : ∃ q, (b.len - L + 1).toNat - k = q + 1 := ⟨(b.len - L + 1).toNat - k - 1, by omega⟩
    rw [hq] at hi
    simp only [srch] at hi
    refine CallW.bool (fits_det V B k (by omega) _ _ _ rfl rfl rfl) (fun c hc => ?_)
    rw [← hc] at hi
    refine Split.mk (fun h5 => ?_) (fun h5 => ?_)
    · rw [h5] at hi
      refine Fin.eq ?_
      rw [← hi]
      rfl
    · rw [h5] at hi
      refine Adj.back (x := k) (k + 1) ⟨by omega, by omega, ?_⟩ (by omega) (.cons (.ro (LLe.of_eq rfl)) .nil) (.cons (.ro rfl rfl) (.cons .same (.cons .same (.cons (SlotLe.int hw64) .nil))))
      rw [show (b.len - L + 1).toNat - (k + 1) = q by omega]
      exact hi
  · have hge : ¬ k < (b.len - L + 1).toNat := fun h => of_decide_eq_false h4 ((loop_c hL.1 hL.2 hk2).2 h)
    rw [show (b.len - L + 1).toNat - k = 0 by omega] at hi
    refine Fin.eq ?_
    rw [← hi]
    rfl
theorem roffset_det (n : Nat) (R : Nat → BP) (kerf : Int) (b : BD) (hn : n ≤ maxLen) (hm : b.m ≤ maxLen) : Det Try.prog 28 [.one (rowS n R), .one (i64 kerf), barD b] (offR n R kerf b) := by
  refine det_of_awp TTok mixed Try.func28 rfl rfl [] (Nat.le_of_ble_eq_true rfl) ?_
  refine CallW.int (checked_det n R kerf hn) (fun e he => ?_)
  refine Split.mk (fun h => ?_) (fun h => ?_)
  · have h1 : e = 1 := by simpa using h
    repeat refine Split.t ?_
    refine Fin.eq ?_
    rw [offR, if_pos (.inl (by rw [← he, h1]))]
  repeat refine Split.f ?_
  refine CallW.bool (rsound_det b hm) (fun sb hsb => ?_)
  repeat refine Split.f ?_
  refine Split.mk (fun h2 => ?_) (fun h2 => ?_)
  · have h1 : sb = false := by simpa using h2
    refine Fin.eq ?_
    rw [offR, if_pos (.inr (by rw [← hsb, h1]))]
  have h1 : ¬ e = 1 := by simpa using h
  have hs : sb = true := by simpa using h2
  have hnot : ¬ (errI n R kerf = 1 ∨ soundB b = false) := by rw [← he, ← hsb, hs]; simp [h1]
  refine Split.mk (fun h3 => ?_) (fun h3 => ?_)
  · have : e ≠ 0 := by simpa using h3
    refine Fin.eq ?_
    rw [offR, if_neg hnot, if_pos (by rw [← he]; exact this), ← he]
  have h0 : e = 0 := by simpa using h3
  have he0 := he.symm.trans h0
  have V := VR.of_err he0
  have B := SD.of (hsb.symm.trans hs)
  have hn40 := V.n40
  have hlen := B.l2
  have eR : offR n R kerf b = offT (srch (fitsB n R (placeI R kerf) b) (b.len - lengthI n R kerf + 1).toNat 0) := by
    rw [offR, if_neg hnot, if_neg (by rw [← he]; simp [h0])]
  rw [eR]
  have hL := length_b V
  refine CallW.mk' (rplaces0_det hn he0) ?_
  refine CallW.tup0 (rlength_det n R kerf hn) he0 (fun L hLe => ?_)
  rw [← hLe] at hL ⊢
  refine Loop.by (α := Nat) (fun k => [(0, .d (.one (rowS n R))), (5, .ptr 5 0), (9, .d (.one (intS n (placeI R kerf)))), (11, tint L), (13, tint k)]) (fun _ => [(5, .box (barL b))])
    (fun k => k ≤ (b.len - L + 1).toNat ∧ k ≤ 2001 ∧ srch (fitsB n R (placeI R kerf) b) ((b.len - L + 1).toNat - k) k = srch (fitsB n R (placeI R kerf) b) (b.len - L + 1).toNat 0) (fun k => 2001 - k)
    (Adj.at 0 ⟨Nat.zero_le _, Nat.zero_le _, rfl⟩ (.cons (.box (LLe.of_eq rfl)) .nil) (.cons .same (.cons (.box rfl rfl) (.cons .same (.cons .same (.cons .same .nil)))))) (fun k hi => ?_)
  obtain ⟨hk, hk2, hi⟩ := hi
  refine Split.mk (fun h4 => ?_) (fun h4 => ?_)
  · have hlt : k < (b.len - L + 1).toNat := (loop_c hL.1 hL.2 hk2).1 (of_decide_eq_true h4)
    have hw64 : IntKind.i64.wrap ((k : Int) + 1) = ((k + 1 : Nat) : Int) := (w64_id ⟨by omega, by omega⟩).trans (by omega)
    obtain ⟨q, hq⟩ : ∃ q, (b.len - L + 1).toNat - k = q + 1 := ⟨(b.len - L + 1).toNat - k - 1, by omega⟩
    rw [hq] at hi
    simp only [srch] at hi
    refine CallW.bool (avoids_det V B k (by omega)) (fun c hc => ?_)
    rw [← hc] at hi
    refine Split.mk (fun h5 => ?_) (fun h5 => ?_)
    · rw [h5] at hi
      refine Fin.eq ?_
      rw [← hi]
      rfl
    · rw [h5] at hi
      refine Adj.back (x := k) (k + 1) ⟨by omega, by omega, ?_⟩ (by omega) (.cons (.box (LLe.of_eq rfl)) .nil) (.cons .same (.cons (.box rfl rfl) (.cons .same (.cons .same (.cons (SlotLe.int hw64) .nil)))))
      rw [show (b.len - L + 1).toNat - (k + 1) = q by omega]
      exact hi
  · have hge : ¬ k < (b.len - L + 1).toNat := fun h => of_decide_eq_false h4 ((loop_c hL.1 hL.2 hk2).2 h)
    rw [show (b.len - L + 1).toNat - k = 0 by omega] at hi
    refine Fin.eq ?_
    rw [← hi]
    rfl

theorem offT_two (o : Option Nat) : ∃ x y, offT o = twoT x y := by
  cases o with
  | none => exact ⟨_, _, rfl⟩
  | some k => exact ⟨_, _, rfl⟩
theorem offR_two (n : Nat) (R : Nat → BP) (kerf : Int) (b : BD) : ∃ x y, offR n R kerf b = twoT x y := by
  unfold offR
  split
  · exact ⟨_, _, rfl⟩
  · split
    · exact ⟨_, _, rfl⟩
    · exact offT_two _
theorem loffset_det (n : Nat) (R : Nat → BP) (kerf : Int) (b : BD) (hn : n ≤ maxLen) (hm : b.m ≤ maxLen) : Det Try.prog 7 [.one (rowS n R), .one (i64 kerf), barD b] (tbool true) := by
  obtain ⟨x, y, exy⟩ := offR_two n R kerf b
  refine det_of_awp TTok mixed Try.func7 rfl rfl [] (Nat.le_of_ble_eq_true rfl) ?_
  refine CallW.mk' awake_det ?_
  repeat refine Split.f ?_
  refine Split.mk (fun h1 => ?_) (fun h1 => ?_)
  · repeat' first | refine Split.t ?_ | refine CallW.mk' awake_det ?_ | refine Fin.bool ?_
    rfl
  repeat refine Split.f ?_
  refine Split.mk (fun h2 => ?_) (fun h2 => ?_)
  · repeat' first | refine CallW.mk' awake_det ?_ | refine Fin.bool ?_
    rfl
  refine CallW.mk' (exy ▸ boffset_det n R kerf b hn hm) ?_
  refine CallW.mk' (exy ▸ roffset_det n R kerf b hn hm) ?_
  repeat' first | refine CallW.bool (sound_det b hm) (fun s1 h1 => ?_) | refine CallW.bool (rsound_det b hm) (fun s2 h2 => ?_) | refine Split.t ?_ | refine Need.mk (by kernel_rfl) ?_ | refine Split.isT (beq_self_eq_true _) ?_ | refine Fin.bool ?_
  subst_vars
  exact beq_self_eq_true _
theorem bar_of {v : DV} (h : TypD Try.prog 43 v) : ∃ b : BD, b.m ≤ maxLen ∧ DLe v (barD b) := by
  obtain ⟨cs, rfl, k⟩ := TypD.agg (by kernel_rfl) h
  have hl : cs.length = 5 := (Typ.inv_str rfl k).1
  match cs, hl, k with
  | [c0, c1, c2, c3, c4], _, k =>
    obtain ⟨id, e0, _⟩ := Typ.inv_i64 rfl (k.field rfl 0 0 1 3 rfl)
    obtain ⟨gr, e1, _⟩ := Typ.inv_string rfl (k.field rfl 1 1 1 9 rfl)
    obtain ⟨ht, e2, _⟩ := Typ.inv_string rfl (k.field rfl 2 2 1 9 rfl)
    obtain ⟨len, e3, _⟩ := Typ.inv_i64 rfl (k.field rfl 3 3 1 3 rfl)
    obtain ⟨n, get, e4, hn, hr⟩ := Typ.inv_slc (e := 57) rfl (k.field rfl 4 4 1 41 rfl)
    cases (show [c0] = _ from e0)
    cases (show [c1] = _ from e1)
    cases (show [c2] = _ from e2)
    cases (show [c3] = _ from e3)
    cases (show [c4] = _ from e4)
    have hp : ∀ i, ∃ p : Int × Int, i < n → get i 0 = i64 p.1 ∧ get i 1 = i64 p.2 := fun i => by
      by_cases hi : i < n
      · have h2 := (Typ.inv_arr (n := 2) (e := 3) rfl (hr i hi)).2
        obtain ⟨a, ea, _⟩ := Typ.inv_i64 rfl (h2 0 (by decide))
        obtain ⟨b, eb, _⟩ := Typ.inv_i64 rfl (h2 1 (by decide))
        have ea : [get i 0] = [i64 a] := ea
        have eb : [get i 1] = [i64 b] := eb
        simp only [List.cons.injEq, and_true] at ea eb
        exact ⟨(a, b), fun _ => ⟨ea, eb⟩⟩
      · exact ⟨(0, 0), fun h => absurd h hi⟩
    obtain ⟨D, hD⟩ := Classical.axiomOfChoice hp
    refine ⟨⟨id, gr, ht, len, n, fun i => (D i).1, fun i => (D i).2⟩, hn, DLe.agg (.cons (SLe.refl _) (.cons (SLe.refl _) (.cons (SLe.refl _) (.cons (SLe.refl _) (.cons (SLe.sl ?_) .nil)))))⟩
    intro i hi j hj
    replace hj : j < 2 := hj
    rcases j with _ | _ | j
    · exact SLe.of_eq (hD i hi).1
    · exact SLe.of_eq (hD i hi).2
    · omega
theorem loffset_all : ∀ dvs, TypL Try.prog Try.f7.params.toList dvs → Det Try.prog 7 dvs (tbool true) := by
  intro dvs h
  obtain ⟨v0, r0, rfl, h0, q0⟩ := TypL.inv_cons (t := 22) (ts := [3, 43]) h
  obtain ⟨v1, r1, rfl, h1, q1⟩ := TypL.inv_cons q0
  obtain ⟨v2, r2, rfl, h2, q2⟩ := TypL.inv_cons q1
  obtain rfl := TypL.inv_nil q2
  obtain ⟨n, R, hn, hl⟩ := row_of h0
  obtain ⟨kerf, rfl, _⟩ := TypD.i64 (by kernel_rfl) rfl h1
  obtain ⟨b, hm, hl2⟩ := bar_of h2
  exact Det.le (.cons hl (.cons (DLe.refl _) (.cons hl2 .nil))) (loffset_det n R kerf b hn hm)
end Go.Vm
