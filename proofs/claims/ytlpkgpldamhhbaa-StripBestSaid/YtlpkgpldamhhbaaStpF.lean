/-
  Layer 37: contracts of column, strip and sheet.
-/
import Derived.Test.YtlpkgpldamhhbaaStpE
namespace Go.Vm
set_option maxRecDepth 20000
set_option linter.unusedVariables false
set_option linter.unusedSimpArgs false
open Go Go.RowKit Go.Proofs
namespace St

def colT (ks : List Knd) (kind h : Int) (base : Nat) : List Nd := if (kget ks kind.toNat).h = h then [leafN kind] else cutT false (kget ks kind.toNat).h (fun _ => [leafN kind]) (fun _ => [leafN (-1)]) base
def stripT (ks : List Knd) (kerf : Int) : List Int → Int → Int → Nat → List Nd
  | [], _, _, _ => [leafN (-1)]
  | k :: r, w, h, base => if (kget ks k.toNat).w = w then colT ks k h base else cutT true (kget ks k.toNat).w (fun b => colT ks k h b) (fun b => stripT ks kerf r (w - (kget ks k.toNat).w - kerf) h b) base
def sheetT (ks : List Knd) (kerf : Int) : List (Int × List Int) → Int → Int → Nat → List Nd
  | [], _, _, _ => [leafN (-1)]
  | p :: r, w, h, base => if p.1 = h then stripT ks kerf p.2 w h base else cutT false p.1 (fun b => stripT ks kerf p.2 w p.1 b) (fun b => sheetT ks kerf r w (h - p.1 - kerf) b) base
structure KsOk (ks : List Knd) (kerf : Int) : Prop where
  ok : ∀ k ∈ ks, KOk k
  len : ks.length ≤ 1000
  k0 : 0 ≤ kerf
  k1 : kerf ≤ 50
theorem KsOk.at' {ks : List Knd} {kerf : Int} (p : KsOk ks kerf) {i : Nat} (hi : i < ks.length) : KOk (kget ks i) := p.ok _ (kget_mem hi)
section
variable (ks : List Knd) (kerf : Int)
theorem colA_detM (kind : Int) (L : List Nd) (hL : L.length + 1 ≤ 100000000) : DetM Try.prog 113 [.ptr (.n 2002) 0, .ptr (.n 2003) 0] (mkM ks kerf 1 L ++ [.obj [.ptr (.n 2000) 0], .box [i64 kind]]) (.tup []) (mkM ks kerf 3 (L ++ [leafN kind]) ++ [.obj [.ptr (.n 2000) 0], .box [i64 kind]]) .none := by
  refine detM_of_awp TTok mixed Try.func113 rfl rfl [100 + 2000000] (Nat.le_of_ble_eq_true rfl) (Nat.le_of_ble_eq_true rfl) (sigM_of rfl) ?_
  refine CallM.mk' [2000, 2001] (leaf_detM ks kerf L kind (by omega)) ⟨.cons (.obj (.cons (.hdl rfl rfl) (.cons (.s (SLe.refl _)) (.cons (.s (SLe.refl _)) .nil)))) (.cons (.bld (fun _ _ _ _ => SLe.refl _)) .nil), .cons (.ptr rfl) (.cons (.d (DLe.refl _)) .nil), rfl, rfl, fun h => absurd rfl h⟩ ?_
  refine EndM.mk ⟨.n 0, .none, .cons (.obj (.cons (.hdl rfl rfl rfl) (.cons (.s (SLe.refl _)) (.cons (.s (SLe.refl _)) .nil)))) (.cons (.bldN rfl (fun h => absurd h (by decide)) (fun i hi j hj => SLe.refl _)) (.cons (.obj (.cons (.ptr rfl) .nil)) (.cons (.box (LLe.refl _)) (.nil _)))), .inl rfl⟩
theorem column_detM (kind h : Int) (h0 : 0 ≤ kind) (h1 : kind < ks.length) (L : List Nd) (hL : L.length + (colT ks kind h L.length).length ≤ 100000000) : DetM Try.prog 101 [.ptr (.n 2000) 0, tint kind, tint h] (mkM ks kerf 1 L) (.tup []) (mkM ks kerf 3 (L ++ colT ks kind h L.length)) .none := by
  refine detM_of_awp TTok mixed Try.func101 rfl rfl [100 + 2000000, 81 + 2000000] (Nat.le_of_ble_eq_true rfl) (Nat.le_of_ble_eq_true rfl) (sigM_of rfl) ?_
  refine Need.mk (by omega) ?_
  refine Need.mk (by kernel_rfl) ?_
  refine Split.mk (fun g => ?_) (fun g => ?_)
  · have g' : (kget ks kind.toNat).h = h := by simpa using g
    have e : colT ks kind h L.length = [leafN kind] := by rw [colT, if_pos g']
    rw [e] at hL ⊢
    refine CallM.mk' [2000, 2001] (leaf_detM ks kerf L kind (by simp at hL; omega)) ⟨.cons (.obj (.cons (.hdl rfl rfl) (.cons (.s (SLe.refl _)) (.cons (.s (SLe.refl _)) .nil)))) (.cons (.bld (fun _ _ _ _ => SLe.refl _)) .nil), .cons (.ptr rfl) (.cons (.d (DLe.refl _)) .nil), rfl, rfl, fun h => absurd rfl h⟩ ?_
    refine EndM.mk ⟨.n 0, .none, .cons (.obj (.cons (.hdl rfl rfl rfl) (.cons (.s (SLe.refl _)) (.cons (.s (SLe.refl _)) .nil)))) (.cons (.bldN rfl (fun h => absurd h (by decide)) (fun i hi j hj => SLe.refl _)) (.nil _)), .inl rfl⟩
  · have g' : ¬ (kget ks kind.toNat).h = h := by simpa using g
    have e : colT ks kind h L.length = cutT false (kget ks kind.toNat).h (fun _ => [leafN kind]) (fun _ => [leafN (-1)]) L.length := by rw [colT, if_neg g']
    rw [e] at hL ⊢
    refine Need.mk (by omega) ?_
    refine CallM.mk' [2000, 2001, 3, 4] (cutCol_detM ks kerf kind false (kget ks kind.toNat).h (fun _ => [leafN kind]) (fun _ => [leafN (-1)]) (fun L' hL' => colA_detM ks kerf kind L' hL') (fun L' hL' => waste_detM ks kerf L' (by omega)) L hL)
      ⟨.cons (.obj (.cons (.hdl rfl rfl) (.cons (.s (SLe.refl _)) (.cons (.s (SLe.refl _)) .nil)))) (.cons (.bld (fun _ _ _ _ => SLe.refl _)) (.cons (.obj (.cons (.ptr rfl) .nil)) (.cons (.box (LLe.refl _)) .nil))), .cons (.ptr rfl) (.cons (.d (DLe.refl _)) (.cons (.d (DLe.refl _)) (.cons (.clo (.cons (.ptr rfl) (.cons (.ptr rfl) .nil))) (.cons (.clo (.cons (.ptr rfl) .nil)) .nil)))), rfl, rfl, fun h => absurd rfl h⟩ ?_
    refine Need.mk (by kernel_rfl) ?_
    refine EndM.mk ⟨.n 0, .none, .cons (.obj (.cons (.hdl rfl rfl rfl) (.cons (.s (SLe.refl _)) (.cons (.s (SLe.refl _)) .nil)))) (.cons (.bldN rfl (fun h => absurd h (by decide)) (fun i hi j hj => SLe.refl _)) (.nil _)), .inl rfl⟩
abbrev stR (cols : List Int) (w k h : Int) : List Mem := [.obj [.ptr (.n 2000) 0], .box [iS cols], .box [i64 w], .box [i64 k], .box [i64 h]]
theorem stripA_detM (cols : List Int) (w k h : Int) (h0 : 0 ≤ k) (h1 : k < ks.length) (L : List Nd) (hL : L.length + (colT ks k h L.length).length ≤ 100000000) :
    DetM Try.prog 102 [.ptr (.n 2002) 0, .ptr (.n 2005) 0, .ptr (.n 2006) 0] (mkM ks kerf 1 L ++ stR cols w k h) (.tup []) (mkM ks kerf 3 (L ++ colT ks k h L.length) ++ stR cols w k h) .none := by
  refine detM_of_awp TTok mixed Try.func102 rfl rfl [101 + 2000000] (Nat.le_of_ble_eq_true rfl) (Nat.le_of_ble_eq_true rfl) (sigM_of rfl) ?_
  refine CallM.mk' [2000, 2001] (column_detM ks kerf k h h0 h1 L hL) ⟨.cons (.obj (.cons (.hdl rfl rfl) (.cons (.s (SLe.refl _)) (.cons (.s (SLe.refl _)) .nil)))) (.cons (.bld (fun _ _ _ _ => SLe.refl _)) .nil), .cons (.ptr rfl) (.cons (.d (DLe.refl _)) (.cons (.d (DLe.refl _)) .nil)), rfl, rfl, fun h => absurd rfl h⟩ ?_
  refine EndM.mk ⟨.n 0, .none, .cons (.obj (.cons (.hdl rfl rfl rfl) (.cons (.s (SLe.refl _)) (.cons (.s (SLe.refl _)) .nil)))) (.cons (.bldN rfl (fun h => absurd h (by decide)) (fun i hi j hj => SLe.refl _)) (.cons (.obj (.cons (.ptr rfl) .nil)) (.cons (.box (LLe.refl _)) (.cons (.box (LLe.refl _)) (.cons (.box (LLe.refl _)) (.cons (.box (LLe.refl _)) (.nil _))))))), .inl rfl⟩
theorem tailS {α : Type} (f : α → List SV) (d x : α) (l : List α) (n m k : Nat) (hm : m = l.length) : DLe (.one (.sl m k fun i j => lG f d (x :: l) (1 + i) j)) (.one (.sl l.length k (lG f d l))) := by
  subst hm
  refine DLe.one (SLe.sl (fun i hi j hj => SLe.of_eq (lG_eq ?_ j)))
  rw [Nat.add_comm 1 i]
  simp [List.getD]
theorem stripB_detM (p : KsOk ks kerf) (k : Int) (cols : List Int) (w h : Int) (h0 : 0 ≤ k) (h1 : k < ks.length) (hw0 : -900000000 ≤ w) (hw1 : w ≤ 100000) (L : List Nd)
    (IH : DetM Try.prog 80 [.ptr (.n 2000) 0, .d (.one (iS cols)), tint (w - (kget ks k.toNat).w - kerf), tint h] (mkM ks kerf 1 L) (.tup []) (mkM ks kerf 3 (L ++ stripT ks kerf cols (w - (kget ks k.toNat).w - kerf) h L.length)) .none) :
    DetM Try.prog 103 [.ptr (.n 2002) 0, .ptr (.n 2003) 0, .ptr (.n 2004) 0, .ptr (.n 2005) 0, .ptr (.n 2006) 0] (mkM ks kerf 1 L ++ stR (k :: cols) w k h) (.tup []) (mkM ks kerf 3 (L ++ stripT ks kerf cols (w - (kget ks k.toNat).w - kerf) h L.length) ++ stR (k :: cols) w k h) .none := by
  have ko := p.at' (i := k.toNat) (by omega)
  have := ko.w0; have := ko.w1; have := p.k0; have := p.k1
  refine detM_of_awp TTok mixed Try.func103 rfl rfl [80 + 2000000] (Nat.le_of_ble_eq_true rfl) (Nat.le_of_ble_eq_true rfl) (sigM_of rfl) ?_
  refine Need.mk (by rw [List.length_cons]; omega) ?_
  refine Need.mk (by omega) ?_
  have e : IntKind.i64.wrap (IntKind.i64.wrap (w - (kget ks k.toNat).w) - kerf) = w - (kget ks k.toNat).w - kerf := by rw [hw (w - (kget ks k.toNat).w) (by omega) (by omega), hw _ (by omega) (by omega)]
  refine CallM.mk' [2000, 2001] IH ⟨.cons (.obj (.cons (.hdl rfl rfl) (.cons (.s (SLe.refl _)) (.cons (.s (SLe.refl _)) .nil)))) (.cons (.bld (fun _ _ _ _ => SLe.refl _)) .nil), .cons (.ptr rfl) (.cons (.d (tailS iL 0 k cols 0 _ 1 (by simp))) (.cons (.d (DLe.of_eq (congrArg (fun n => DV.one (i64 n)) e))) (.cons (.d (DLe.refl _)) .nil))), rfl, rfl, fun h => absurd rfl h⟩ ?_
  refine Need.mk (by kernel_rfl) ?_
  refine EndM.mk ⟨.n 0, .none, .cons (.obj (.cons (.hdl rfl rfl rfl) (.cons (.s (SLe.refl _)) (.cons (.s (SLe.refl _)) .nil)))) (.cons (.bldN rfl (fun h => absurd h (by decide)) (fun i hi j hj => SLe.refl _)) (.cons (.obj (.cons (.ptr rfl) .nil)) (.cons (.box (LLe.refl _)) (.cons (.box (LLe.refl _)) (.cons (.box (LLe.refl _)) (.cons (.box (LLe.refl _)) (.nil _))))))), .inl rfl⟩
theorem strip_detM (p : KsOk ks kerf) : ∀ (cols : List Int) (w h : Int) (_ : ∀ c ∈ cols, 0 ≤ c ∧ c < ks.length) (_ : -900000000 + 3000 * cols.length ≤ w) (_ : w ≤ 100000) (L : List Nd) (_ : L.length + (stripT ks kerf cols w h L.length).length ≤ 100000000),
    DetM Try.prog 80 [.ptr (.n 2000) 0, .d (.one (iS cols)), tint w, tint h] (mkM ks kerf 1 L) (.tup []) (mkM ks kerf 3 (L ++ stripT ks kerf cols w h L.length)) .none
  | [], w, h, hc, hw0, hw1, L, hL => by
    refine detM_of_awp TTok mixed Try.func80 rfl rfl [79 + 2000000, 81 + 2000000, 101 + 2000000] (Nat.le_of_ble_eq_true rfl) (Nat.le_of_ble_eq_true rfl) (sigM_of rfl) ?_
    refine Split.t ?_
    simp only [stripT, List.length_singleton] at hL
    refine CallM.mk' [2000, 2001] (waste_detM ks kerf L (by omega)) ⟨.cons (.obj (.cons (.hdl rfl rfl) (.cons (.s (SLe.refl _)) (.cons (.s (SLe.refl _)) .nil)))) (.cons (.bld (fun _ _ _ _ => SLe.refl _)) .nil), .cons (.ptr rfl) .nil, rfl, rfl, fun h => absurd rfl h⟩ ?_
    refine EndM.mk ⟨.n 0, .none, .cons (.obj (.cons (.hdl rfl rfl rfl) (.cons (.s (SLe.refl _)) (.cons (.s (SLe.refl _)) .nil)))) (.cons (.bldN rfl (fun h => absurd h (by decide)) (fun i hi j hj => SLe.refl _)) (.nil _)), .inl rfl⟩
  | k :: r, w, h, hc, hw0, hw1, L, hL => by
    obtain ⟨h0, h1⟩ := hc k (by simp)
    have ko := p.at' (i := k.toNat) (by omega)
    have := ko.w0; have := ko.w1; have := p.k0; have := p.k1
    rw [List.length_cons] at hw0
    refine detM_of_awp TTok mixed Try.func80 rfl rfl [79 + 2000000, 81 + 2000000, 101 + 2000000] (Nat.le_of_ble_eq_true rfl) (Nat.le_of_ble_eq_true rfl) (sigM_of rfl) ?_
    refine Split.isF (by simp; omega) ?_
    refine Need.mk (by rw [List.length_cons]; omega) ?_
    refine Need.mk (by show 0 ≤ k ∧ k < (ks.length : Int); omega) ?_
    refine Need.mk (by kernel_rfl) ?_
    show Split ((kget ks k.toNat).w == w) _
    refine Split.mk (fun g => ?_) (fun g => ?_)
    · have g' : (kget ks k.toNat).w = w := by simpa using g
      have e : stripT ks kerf (k :: r) w h L.length = colT ks k h L.length := by rw [stripT, if_pos g']
      rw [e] at hL ⊢
      refine CallM.mk' [2000, 2001] (column_detM ks kerf k h h0 h1 L hL) ⟨.cons (.obj (.cons (.hdl rfl rfl) (.cons (.s (SLe.refl _)) (.cons (.s (SLe.refl _)) .nil)))) (.cons (.bld (fun _ _ _ _ => SLe.refl _)) .nil), .cons (.ptr rfl) (.cons (.d (DLe.refl _)) (.cons (.d (DLe.refl _)) .nil)), rfl, rfl, fun h => absurd rfl h⟩ ?_
      refine EndM.mk ⟨.n 0, .none, .cons (.obj (.cons (.hdl rfl rfl rfl) (.cons (.s (SLe.refl _)) (.cons (.s (SLe.refl _)) .nil)))) (.cons (.bldN rfl (fun h => absurd h (by decide)) (fun i hi j hj => SLe.refl _)) (.nil _)), .inl rfl⟩
    · have g' : ¬ (kget ks k.toNat).w = w := by simpa using g
      have e : stripT ks kerf (k :: r) w h L.length = cutT true (kget ks k.toNat).w (fun b => colT ks k h b) (fun b => stripT ks kerf r (w - (kget ks k.toNat).w - kerf) h b) L.length := by rw [stripT, if_neg g']
      rw [e] at hL ⊢
      refine Need.mk (by show 0 ≤ k ∧ k < (ks.length : Int); omega) ?_
      refine CallM.mk' [2000, 2001, 4, 5, 6, 8, 7] (cutStrip_detM ks kerf (k :: r) w k h true (kget ks k.toNat).w (fun b => colT ks k h b) (fun b => stripT ks kerf r (w - (kget ks k.toNat).w - kerf) h b) (fun L' hL' => stripA_detM ks kerf (k :: r) w k h h0 h1 L' hL')
        (fun L' hL' => stripB_detM ks kerf p k r w h h0 h1 (by omega) hw1 L' (strip_detM p r _ h (fun c hcm => hc c (by simp [hcm])) (by omega) (by omega) L' hL')) L hL)
        ⟨.cons (.obj (.cons (.hdl rfl rfl) (.cons (.s (SLe.refl _)) (.cons (.s (SLe.refl _)) .nil)))) (.cons (.bld (fun _ _ _ _ => SLe.refl _)) (.cons (.obj (.cons (.ptr rfl) .nil)) (.cons (.box (LLe.refl _)) (.cons (.box (LLe.refl _)) (.cons (.box (LLe.refl _)) (.cons (.box (LLe.refl _)) .nil)))))), .cons (.ptr rfl) (.cons (.d (DLe.refl _)) (.cons (.d (DLe.refl _)) (.cons (.clo (.cons (.ptr rfl) (.cons (.ptr rfl) (.cons (.ptr rfl) .nil)))) (.cons (.clo (.cons (.ptr rfl) (.cons (.ptr rfl) (.cons (.ptr rfl) (.cons (.ptr rfl) (.cons (.ptr rfl) .nil)))))) .nil)))), rfl, rfl, fun h => absurd rfl h⟩ ?_
      refine Need.mk (by kernel_rfl) ?_
      refine EndM.mk ⟨.n 0, .none, .cons (.obj (.cons (.hdl rfl rfl rfl) (.cons (.s (SLe.refl _)) (.cons (.s (SLe.refl _)) .nil)))) (.cons (.bldN rfl (fun h => absurd h (by decide)) (fun i hi j hj => SLe.refl _)) (.nil _)), .inl rfl⟩
/-! ### sheet -/
abbrev hsP (ps : List (Int × List Int)) : List Int := ps.map Prod.fst
abbrev csP (ps : List (Int × List Int)) : List (List Int) := ps.map Prod.snd
abbrev shR (ps : List (Int × List Int)) (w h : Int) : List Mem := [.obj [.ptr (.n 2000) 0], .box [iS (hsP ps)], .box [ccS (csP ps)], .box [i64 w], .box [i64 h]]
structure ColsOk (ks : List Knd) (w : Int) (p : Int × List Int) : Prop where
  c : ∀ c ∈ p.2, 0 ≤ c ∧ c < ks.length
  l : -900000000 + 3000 * p.2.length ≤ w
  h0 : 0 ≤ p.1
  h1 : p.1 ≤ 2000
theorem sheetA_detM (p : KsOk ks kerf) (x : Int × List Int) (r : List (Int × List Int)) (w h : Int) (hx : ColsOk ks w x) (hw1 : w ≤ 100000) (L : List Nd) (hL : L.length + (stripT ks kerf x.2 w x.1 L.length).length ≤ 100000000) :
    DetM Try.prog 82 [.ptr (.n 2002) 0, .ptr (.n 2004) 0, .ptr (.n 2005) 0, .ptr (.n 2003) 0] (mkM ks kerf 1 L ++ shR (x :: r) w h) (.tup []) (mkM ks kerf 3 (L ++ stripT ks kerf x.2 w x.1 L.length) ++ shR (x :: r) w h) .none := by
  refine detM_of_awp TTok mixed Try.func82 rfl rfl [80 + 2000000] (Nat.le_of_ble_eq_true rfl) (Nat.le_of_ble_eq_true rfl) (sigM_of rfl) ?_
  refine Need.mk (by rw [List.length_map, List.length_cons]; omega) ?_
  refine Need.mk (by rw [List.length_map, List.length_cons]; omega) ?_
  refine CallM.mk' [2000, 2001] (strip_detM ks kerf p x.2 w x.1 hx.c hx.l hw1 L hL) ⟨.cons (.obj (.cons (.hdl rfl rfl) (.cons (.s (SLe.refl _)) (.cons (.s (SLe.refl _)) .nil)))) (.cons (.bld (fun _ _ _ _ => SLe.refl _)) .nil), .cons (.ptr rfl) (.cons (.d (DLe.refl _)) (.cons (.d (DLe.refl _)) (.cons (.d (DLe.refl _)) .nil))), rfl, rfl, fun h => absurd rfl h⟩ ?_
  refine Need.mk (by kernel_rfl) ?_
  refine EndM.mk ⟨.n 0, .none, .cons (.obj (.cons (.hdl rfl rfl rfl) (.cons (.s (SLe.refl _)) (.cons (.s (SLe.refl _)) .nil)))) (.cons (.bldN rfl (fun h => absurd h (by decide)) (fun i hi j hj => SLe.refl _)) (.cons (.obj (.cons (.ptr rfl) .nil)) (.cons (.box (LLe.refl _)) (.cons (.box (LLe.refl _)) (.cons (.box (LLe.refl _)) (.cons (.box (LLe.refl _)) (.nil _))))))), .inl rfl⟩
theorem sheetB_detM (p : KsOk ks kerf) (x : Int × List Int) (r : List (Int × List Int)) (w h : Int) (hx : ColsOk ks w x) (hh0 : -900000000 ≤ h) (hh1 : h ≤ 100000) (L : List Nd)
    (IH : DetM Try.prog 50 [.ptr (.n 2000) 0, .d (.one (iS (hsP r))), .d (.one (ccS (csP r))), tint w, tint (h - x.1 - kerf)] (mkM ks kerf 1 L) (.tup []) (mkM ks kerf 3 (L ++ sheetT ks kerf r w (h - x.1 - kerf) L.length)) .none) :
    DetM Try.prog 83 [.ptr (.n 2002) 0, .ptr (.n 2003) 0, .ptr (.n 2004) 0, .ptr (.n 2005) 0, .ptr (.n 2006) 0] (mkM ks kerf 1 L ++ shR (x :: r) w h) (.tup []) (mkM ks kerf 3 (L ++ sheetT ks kerf r w (h - x.1 - kerf) L.length) ++ shR (x :: r) w h) .none := by
  have := hx.h0; have := hx.h1; have := p.k0; have := p.k1
  refine detM_of_awp TTok mixed Try.func83 rfl rfl [50 + 2000000] (Nat.le_of_ble_eq_true rfl) (Nat.le_of_ble_eq_true rfl) (sigM_of rfl) ?_
  refine Need.mk (by rw [List.length_map, List.length_cons]; omega) ?_
  refine Need.mk (by rw [List.length_map, List.length_cons]; omega) ?_
  refine Need.mk (by rw [List.length_map, List.length_cons]; omega) ?_
  have e : IntKind.i64.wrap (IntKind.i64.wrap (h - x.1) - kerf) = h - x.1 - kerf := by rw [hw (h - x.1) (by omega) (by omega), hw _ (by omega) (by omega)]
  refine CallM.mk' [2000, 2001] IH ⟨.cons (.obj (.cons (.hdl rfl rfl) (.cons (.s (SLe.refl _)) (.cons (.s (SLe.refl _)) .nil)))) (.cons (.bld (fun _ _ _ _ => SLe.refl _)) .nil), .cons (.ptr rfl) (.cons (.d (tailS iL 0 x.1 (hsP r) 0 _ 1 (by simp))) (.cons (.d (tailS ccL [] x.2 (csP r) 0 _ 1 (by simp))) (.cons (.d (DLe.refl _)) (.cons (.d (DLe.of_eq (congrArg (fun n => DV.one (i64 n)) e))) .nil)))), rfl, rfl, fun h => absurd rfl h⟩ ?_
  refine Need.mk (by kernel_rfl) ?_
  refine EndM.mk ⟨.n 0, .none, .cons (.obj (.cons (.hdl rfl rfl rfl) (.cons (.s (SLe.refl _)) (.cons (.s (SLe.refl _)) .nil)))) (.cons (.bldN rfl (fun h => absurd h (by decide)) (fun i hi j hj => SLe.refl _)) (.cons (.obj (.cons (.ptr rfl) .nil)) (.cons (.box (LLe.refl _)) (.cons (.box (LLe.refl _)) (.cons (.box (LLe.refl _)) (.cons (.box (LLe.refl _)) (.nil _))))))), .inl rfl⟩
theorem sheet_detM (p : KsOk ks kerf) (w : Int) (hw1 : w ≤ 100000) : ∀ (ps : List (Int × List Int)) (h : Int) (_ : ∀ x ∈ ps, ColsOk ks w x) (_ : -900000000 + 3000 * ps.length ≤ h) (_ : h ≤ 100000) (L : List Nd) (_ : L.length + (sheetT ks kerf ps w h L.length).length ≤ 100000000),
    DetM Try.prog 50 [.ptr (.n 2000) 0, .d (.one (iS (hsP ps))), .d (.one (ccS (csP ps))), tint w, tint h] (mkM ks kerf 1 L) (.tup []) (mkM ks kerf 3 (L ++ sheetT ks kerf ps w h L.length)) .none
  | [], h, hc, hh0, hh1, L, hL => by
    refine detM_of_awp TTok mixed Try.func50 rfl rfl [79 + 2000000, 81 + 2000000, 80 + 2000000] (Nat.le_of_ble_eq_true rfl) (Nat.le_of_ble_eq_true rfl) (sigM_of rfl) ?_
    refine Split.t ?_
    simp only [sheetT, List.length_singleton] at hL
    refine CallM.mk' [2000, 2001] (waste_detM ks kerf L (by omega)) ⟨.cons (.obj (.cons (.hdl rfl rfl) (.cons (.s (SLe.refl _)) (.cons (.s (SLe.refl _)) .nil)))) (.cons (.bld (fun _ _ _ _ => SLe.refl _)) .nil), .cons (.ptr rfl) .nil, rfl, rfl, fun h => absurd rfl h⟩ ?_
    refine EndM.mk ⟨.n 0, .none, .cons (.obj (.cons (.hdl rfl rfl rfl) (.cons (.s (SLe.refl _)) (.cons (.s (SLe.refl _)) .nil)))) (.cons (.bldN rfl (fun h => absurd h (by decide)) (fun i hi j hj => SLe.refl _)) (.nil _)), .inl rfl⟩
  | x :: r, h, hc, hh0, hh1, L, hL => by
    have hx := hc x (by simp)
    have := hx.h0; have := hx.h1; have := p.k0; have := p.k1
    rw [List.length_cons] at hh0
    refine detM_of_awp TTok mixed Try.func50 rfl rfl [79 + 2000000, 81 + 2000000, 80 + 2000000] (Nat.le_of_ble_eq_true rfl) (Nat.le_of_ble_eq_true rfl) (sigM_of rfl) ?_
    refine Split.isF (by simp; omega) ?_
    refine Need.mk (by rw [List.length_map, List.length_cons]; omega) ?_
    refine Need.mk (by kernel_rfl) ?_
    show Split (x.1 == h) _
    refine Split.mk (fun g => ?_) (fun g => ?_)
    · have g' : x.1 = h := by simpa using g
      have e : sheetT ks kerf (x :: r) w h L.length = stripT ks kerf x.2 w h L.length := by rw [sheetT, if_pos g']
      rw [e] at hL ⊢
      refine Need.mk (by rw [List.length_map, List.length_cons]; omega) ?_
      refine CallM.mk' [2000, 2001] (strip_detM ks kerf p x.2 w h hx.c hx.l hw1 L hL) ⟨.cons (.obj (.cons (.hdl rfl rfl) (.cons (.s (SLe.refl _)) (.cons (.s (SLe.refl _)) .nil)))) (.cons (.bld (fun _ _ _ _ => SLe.refl _)) .nil), .cons (.ptr rfl) (.cons (.d (DLe.refl _)) (.cons (.d (DLe.refl _)) (.cons (.d (DLe.refl _)) .nil))), rfl, rfl, fun h => absurd rfl h⟩ ?_
      refine Need.mk (by kernel_rfl) ?_
      refine EndM.mk ⟨.n 0, .none, .cons (.obj (.cons (.hdl rfl rfl rfl) (.cons (.s (SLe.refl _)) (.cons (.s (SLe.refl _)) .nil)))) (.cons (.bldN rfl (fun h => absurd h (by decide)) (fun i hi j hj => SLe.refl _)) (.nil _)), .inl rfl⟩
    · have g' : ¬ x.1 = h := by simpa using g
      have e : sheetT ks kerf (x :: r) w h L.length = cutT false x.1 (fun b => stripT ks kerf x.2 w x.1 b) (fun b => sheetT ks kerf r w (h - x.1 - kerf) b) L.length := by rw [sheetT, if_neg g']
      rw [e] at hL ⊢
      refine Need.mk (by rw [List.length_map, List.length_cons]; omega) ?_
      refine CallM.mk' [2000, 2001, 5, 6, 7, 8, 9] (cutSheet_detM ks kerf (hsP (x :: r)) (csP (x :: r)) w h false x.1 (fun b => stripT ks kerf x.2 w x.1 b) (fun b => sheetT ks kerf r w (h - x.1 - kerf) b) (fun L' hL' => sheetA_detM ks kerf p x r w h hx hw1 L' hL')
        (fun L' hL' => sheetB_detM ks kerf p x r w h hx (by omega) hh1 L' (sheet_detM p w hw1 r _ (fun y hy => hc y (by simp [hy])) (by omega) (by omega) L' hL')) L hL)
        ⟨.cons (.obj (.cons (.hdl rfl rfl) (.cons (.s (SLe.refl _)) (.cons (.s (SLe.refl _)) .nil)))) (.cons (.bld (fun _ _ _ _ => SLe.refl _)) (.cons (.obj (.cons (.ptr rfl) .nil)) (.cons (.box (LLe.refl _)) (.cons (.box (LLe.refl _)) (.cons (.box (LLe.refl _)) (.cons (.box (LLe.refl _)) .nil)))))), .cons (.ptr rfl) (.cons (.d (DLe.refl _)) (.cons (.d (DLe.refl _)) (.cons (.clo (.cons (.ptr rfl) (.cons (.ptr rfl) (.cons (.ptr rfl) (.cons (.ptr rfl) .nil))))) (.cons (.clo (.cons (.ptr rfl) (.cons (.ptr rfl) (.cons (.ptr rfl) (.cons (.ptr rfl) (.cons (.ptr rfl) .nil)))))) .nil)))), rfl, rfl, fun h => absurd rfl h⟩ ?_
      refine Need.mk (by kernel_rfl) ?_
      refine EndM.mk ⟨.n 0, .none, .cons (.obj (.cons (.hdl rfl rfl rfl) (.cons (.s (SLe.refl _)) (.cons (.s (SLe.refl _)) .nil)))) (.cons (.bldN rfl (fun h => absurd h (by decide)) (fun i hi j hj => SLe.refl _)) (.nil _)), .inl rfl⟩
end
end St
end Go.Vm
