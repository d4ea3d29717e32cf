/-
  Layer 38: contracts of the reference's Boxes and Saw.
-/
import Derived.Test.YtfoblfchkgapoaaGuiN
namespace Go.Vm
set_option maxRecDepth 20000
set_option linter.unusedVariables false
set_option linter.unusedSimpArgs false
open Go Go.RowKit Go.Proofs
namespace St

structure Bx4 where
  a : Sg.V2
  b : Sg.V2
abbrev bx0 : Bx4 := ⟨v20, v20⟩
abbrev bxL (b : Bx4) : List SV := [i64 b.a.x, i64 b.a.y, i64 b.b.x, i64 b.b.y]
abbrev bxS (l : List Bx4) : SV := .sl l.length 4 (lG bxL bx0 l)
def bxP (r : Rc) : Bx4 := ⟨loP r, hiP r⟩
abbrev bxE (x : List Bx4 × Bool) : TV := .tup [.one (bxS x.1), .one (.v (.bool x.2))]
theorem CallW.bx {P : Program} {f : FuncId} {args : List DV} {K : TV → Prop} {a : List Bx4 × Bool} (h : Det P f args (bxE a)) (kk : ∀ x, x = a → K (bxE x)) : CallW P f args K := ⟨_, h, kk a rfl⟩
def okT (t : List Nd) (w h kerf : Int) : Bool := probB [] w h kerf && (joinB t && boxOkB t w h kerf)
def boxesR (t : List Nd) (w h kerf : Int) : List Bx4 × Bool := if okT t w h kerf = true then ((rT t w h kerf t.length).map bxP, true) else ([], false)
theorem boxOk_rect {t : List Nd} {w h kerf : Int} (h' : boxOkB t w h kerf = true) : rectB t w h kerf = true := by
  rw [rectB]
  refine allN_iff.2 (fun i hi => ?_)
  have := allN_iff.1 h' i hi
  rw [Bool.and_eq_true] at this
  exact this.2
theorem rBoxes_det (t : List Nd) (w h kerf : Int) (hl : t.length ≤ 100000) : Det Try.prog 68 [.one (ndS t), .one (i64 w), .one (i64 h), .one (i64 kerf)] (bxE (boxesR t w h kerf)) := by
  refine det_of_awp TTok mixed Try.func68 rfl rfl [] (Nat.le_of_ble_eq_true rfl) ?_
  have bad : okT t w h kerf = false → Fin (.tup [.one (.v (.slice none 0 0)), .one (.v (.bool false))]) (bxE (boxesR t w h kerf)) := fun e => by
    rw [boxesR, if_neg (by rw [e]; simp)]
    exact Fin.tup (.cons (DLe.one (SLe.nil _ _)) (.cons (DLe.refl _) .nil))
  refine CallW.bool ((rproblem_det [] w h kerf (by decide)).le (.cons (DLe.one (SLe.nil _ _)) (.cons (DLe.refl _) (.cons (DLe.refl _) (.cons (DLe.refl _) .nil))))) (fun b hb => ?_)
  refine Split.mk (fun c1 => ?_) (fun c1 => ?_)
  · repeat' first | refine Split.isT c1 ?_ | refine Split.t ?_ | refine Split.f ?_ | fail
    have : probB [] w h kerf = false := by rw [← hb]; simpa using c1
    exact bad (by rw [okT, this]; rfl)
  have hp : probB [] w h kerf = true := by rw [← hb]; simpa using c1
  have p := prob_iff.1 hp
  repeat' first | refine Split.isF c1 ?_ | refine Split.t ?_ | refine Split.f ?_ | fail
  refine CallW.bool (shaped_det t (by omega)) (fun b2 hb2 => ?_)
  repeat' first | refine Split.isF c1 ?_ | refine Split.t ?_ | refine Split.f ?_ | fail
  refine Split.mk (fun c2 => ?_) (fun c2 => ?_)
  · have : joinB t = false := by rw [← hb2]; simpa using c2
    exact bad (by rw [okT, this, Bool.false_and, Bool.and_false])
  have hj : joinB t = true := by rw [← hb2]; simpa using c2
  refine CallW.rect (rboxes_det t w h kerf (by omega) hj p.w0 p.w1 p.h0 p.h1 p.k0 p.k1) (fun x hx => ?_)
  have hR : boxesR t w h kerf = (x.1.map bxP, x.2) := by
    rw [hx, rboxR, boxesR, okT, hp, hj, Bool.true_and, Bool.true_and]
    split <;> rfl
  have hrect : x.2 = true → rectB t w h kerf = true ∧ x.1 = rT t w h kerf t.length := fun q => by
    rw [hx, rboxR] at q ⊢
    split at q
    · rename_i c
      rw [if_pos c]
      exact ⟨boxOk_rect c, rfl⟩
    · cases q
  have hlen : x.1.length ≤ 100000 := by
    rw [hx, rboxR]
    split
    · show (rT t w h kerf t.length).length ≤ _
      rw [rT_len]; exact hl
    · exact Nat.zero_le _
  have hin : ∀ j, InR w h (rcget x.1 j) := fun j => by
    have z : ∀ j, InR w h (rcget [] j) := fun j => ⟨Int.le_refl _, Int.le_refl _, Int.le_refl _, Int.le_refl _, by show 0 + 0 ≤ w; have := p.w0; omega, by show 0 + 0 ≤ h; have := p.h0; omega⟩
    cases hq : x.2 with
    | true =>
      obtain ⟨a, b⟩ := hrect hq
      rw [b]
      have w0 := p.w0; have h0 := p.h0
      exact rT_in (by omega) (by omega) p.k0 t.length (fun i hi => rect_at a hi) j
    | false =>
      have : x.1 = [] := by
        rw [hx, rboxR] at hq ⊢
        split at hq
        · cases hq
        · rename_i c; rw [if_neg c]
      rw [this]; exact z j
  have w1 := p.w1; have h1 := p.h1
  rw [hR]
  clear hR hrect hx bad
  obtain ⟨R, ok⟩ := x
  replace hlen : R.length ≤ 100000 := hlen
  replace hin : ∀ j, InR w h (rcget R j) := hin
  refine Loop.by (α := Nat) (fun k => [(10, .d (.one (rcS R))), (11, tbool ok), (12, .hdl 75 0), (13, tint k)]) (fun k => [(75, .bld 0 ((R.take k).map bxP).length 4 125 (lG bxL bx0 ((R.take k).map bxP)))]) (fun k => k ≤ R.length) (fun k => R.length - k)
    (Adj.nil 12 75 4 125 (lG bxL bx0 []) rfl rfl (Adj.at 0 (Nat.zero_le _) (.cons (.bld (fun _ h => absurd h (Nat.not_lt_zero _))) .nil) (.cons .same (.cons .same (.cons (.hdl rfl rfl) (.cons .same .nil)))))) (fun k hk => ?_)
  refine Split.mk (fun d1 => ?_) (fun d1 => ?_)
  · have hlt : k < R.length := by have := of_decide_eq_true d1; omega
    have et : (R.take (k + 1)).map bxP = (R.take k).map bxP ++ [bxP (rcget R k)] := by
      rw [take_snoc R rc0 k hlt, List.map_append]; rfl
    have hkl : ((R.take k).map bxP).length = k := by rw [List.length_map, List.length_take]; omega
    have inn := hin k
    have i0 := inn.x0; have i1 := inn.y0; have i2 := inn.w0; have i3 := inn.h0; have i4 := inn.x1; have i5 := inn.y1
    have e1 : IntKind.i64.wrap ((rcget R k).x + (rcget R k).w) = (rcget R k).x + (rcget R k).w := hw _ (by omega) (by omega)
    have e2 : IntKind.i64.wrap ((rcget R k).y + (rcget R k).h) = (rcget R k).y + (rcget R k).h := hw _ (by omega) (by omega)
    have ix : 0 ≤ (k : Int) ∧ (k : Int) < (R.length : Int) := by omega
    refine Need.mk ix ?_
    refine Need.mk ix ?_
    refine Need.mk ix ?_
    refine Need.mk ix ?_
    refine Need.mk ix ?_
    refine Need.mk ix ?_
    refine Need.mk (needApp (n := ((R.take k).map bxP).length + 1) (by omega) (by decide)) ?_
    refine Need.mk (by kernel_rfl) ?_
    refine Adj.back (x := k) (k + 1) (by omega) (by omega) (.cons (.bldN (by rw [et, List.length_append]; rfl) (fun i hi j hj => ?_)) .nil) (.cons .same (.cons .same (.cons (.hdl rfl rfl) (.cons (SlotLe.int (hS k (by omega))) .nil))))
    rw [et]
    exact lG_snoc bxL bx0 _ (bxP (rcget R k)) 4 _ i j [i64 (rcget R k).x, i64 (rcget R k).y, i64 (IntKind.i64.wrap ((rcget R k).x + (rcget R k).w)), i64 (IntKind.i64.wrap ((rcget R k).y + (rcget R k).h))] (by rw [e1, e2]; rfl) rfl hi hj
  have he : k = R.length := by have := of_decide_eq_false d1; omega
  subst he
  rw [List.take_length]
  exact Fin.tup (.cons (DLe.refl _) (.cons (DLe.refl _) .nil))
theorem rT_fin {t : List Nd} (J : Jn t) (w h kerf : Int) {k : Nat} (hk : k ≤ t.length) : rcget (rT t w h kerf t.length) k = rcget (rT t w h kerf k) k := by
  rw [rcget, rcget, rT_tab, rT_tab]
  exact tab_stay J k (Nat.le_refl _) hk
def rsawR (t : List Nd) (w h kerf : Int) : List Sg.Seg × Int := if okT t w h kerf = true then (sawL t w h kerf t.length, 0) else ([], 1)
theorem saw_eq (t : List Nd) (w h kerf : Int) : sawR t w h kerf = rsawR t w h kerf := by
  have e : validB (plK t t.length) [] w h kerf = okT t w h kerf := by
    have S := plK_sm t
    rw [validB, okT, S.join, S.rect]
    congr 1
    cases hj : joinB t with
    | false => rw [Bool.false_and, Bool.false_and]
    | true =>
      rw [Bool.true_and, Bool.true_and, Bool.eq_iff_iff, Bool.and_eq_true, rectB, kindB, boxOkB, allN_iff, allN_iff, allN_iff, S.len]
      have key : ∀ i, i < t.length → (posB (rcget (rT t w h kerf i) i) (ndget t i) = true ∧ kindOkB [] (rcget (rT (plK t t.length) w h kerf t.length) i) (ndget (plK t t.length) i) = true ↔ (wholeB (ndget t i) && posB (rcget (rT t w h kerf i) i) (ndget t i)) = true) := fun i hi => by
        have ok := join_nd hj hi
        have hp : ndget (plK t t.length) i = pl1 (ndget t i) := by rw [plK_at t i _ (Nat.le_refl _), if_pos hi]
        rw [hp, Bool.and_eq_true]
        generalize rcget (rT (plK t t.length) w h kerf t.length) i = r'
        generalize rcget (rT t w h kerf i) i = r
        cases hl : leafI (ndget t i) with
        | true =>
          have hl' := hl
          simp only [leafI, Bool.and_eq_true, decide_eq_true_eq] at hl'
          have e1 : pl1 (ndget t i) = ⟨(ndget t i).v, (ndget t i).a, (ndget t i).f, (ndget t i).s, -1⟩ := by rw [pl1, if_pos hl'.1]
          have e2 : kindOkB [] r' (pl1 (ndget t i)) = true := by
            have : leafI (pl1 (ndget t i)) = true := by rw [e1]; exact hl
            rw [kindOkB, if_pos this, e1]; rfl
          rw [e2, posB, if_pos hl, wholeB, if_pos hl]
          exact ⟨fun q => ⟨q.1, q.1⟩, fun q => ⟨q.2, rfl⟩⟩
        | false =>
          have hf : ¬ (ndget t i).f = -1 := by
            rw [ndOkB, hl, Bool.false_and, Bool.false_or, Bool.and_eq_true, inB_iff, inB_iff] at ok
            omega
          have e1 : pl1 (ndget t i) = ndget t i := by rw [pl1, if_neg hf]
          rw [e1, kindOkB, if_neg (by rw [hl]; simp), wholeB, if_neg (by rw [hl]; simp)]
          exact ⟨fun q => ⟨q.2, q.1⟩, fun q => ⟨q.2, q.1⟩⟩
      constructor
      · rintro ⟨a, b⟩ i hi
        exact (key i hi).1 ⟨a i hi, b i hi⟩
      · intro a
        exact ⟨fun i hi => ((key i hi).2 (a i hi)).1, fun i hi => ((key i hi).2 (a i hi)).2⟩
  rw [sawR, rsawR, e]
theorem rsaw_det (t : List Nd) (w h kerf : Int) (hl : t.length ≤ 100000) : Det Try.prog 34 [.one (ndS t), .one (i64 w), .one (i64 h), .one (i64 kerf)] (sgE (sawR t w h kerf)) := by
  rw [saw_eq]
  refine det_of_awp TTok mixed Try.func34 rfl rfl [] (Nat.le_of_ble_eq_true rfl) ?_
  refine CallW.bx (rBoxes_det t w h kerf hl) (fun x hx => ?_)
  refine Split.mk (fun c1 => ?_) (fun c1 => ?_)
  · have : okT t w h kerf = false := by
      cases hq : okT t w h kerf with
      | false => rfl
      | true => rw [boxesR, if_pos hq] at hx; rw [hx] at c1; cases c1
    rw [rsawR, if_neg (by rw [this]; simp)]
    exact Fin.tup (.cons (DLe.one (SLe.nil _ _)) (.cons (DLe.refl _) .nil))
  have hok : okT t w h kerf = true := by
    cases hq : okT t w h kerf with
    | true => rfl
    | false => rw [boxesR, if_neg (by rw [hq]; simp)] at hx; rw [hx] at c1; cases c1
  rw [boxesR, if_pos hok] at hx
  rw [rsawR, if_pos hok]
  rw [okT, Bool.and_eq_true, Bool.and_eq_true] at hok
  obtain ⟨hp, hj, hb⟩ := hok
  have p := prob_iff.1 hp
  have hr := boxOk_rect hb
  have J := joined_of hj
  have w0 := p.w0; have w1 := p.w1; have h0 := p.h0; have h1 := p.h1; have k0 := p.k0
  have inn := fun j => rT_in (t := t) (kerf := kerf) (show 0 ≤ w by omega) (show 0 ≤ h by omega) k0 t.length (fun i hi => rect_at hr hi) j
  have hBl : ((rT t w h kerf t.length).map bxP).length = t.length := by rw [List.length_map, rT_len]
  have hBg : ∀ k, ((rT t w h kerf t.length).map bxP).getD k bx0 = bxP (rcget (rT t w h kerf t.length) k) := fun k => map_get bxP (rT t w h kerf t.length) rc0 k
  have hfin := fun k hk => rT_fin J w h kerf (k := k) hk
  generalize (rT t w h kerf t.length).map bxP = B at *
  subst hx
  clear c1 hp hb p
  refine Loop.by (α := Nat) (fun k => [(0, .d (.one (ndS t))), (10, .d (.one (bxS B))), (12, .hdl 500 0), (13, tint k)]) (fun k => [(500, .bld 0 (sawL t w h kerf k).length 4 64 (lG Sg.sL sg0 (sawL t w h kerf k)))]) (fun k => k ≤ t.length) (fun k => t.length - k)
    (Adj.nil 12 500 4 64 (lG Sg.sL sg0 []) rfl rfl (Adj.at 0 (Nat.zero_le _) (.cons (.bld (fun _ h => absurd h (Nat.not_lt_zero _))) .nil) (.cons .same (.cons .same (.cons (.hdl rfl rfl) (.cons .same .nil)))))) (fun k hk => ?_)
  refine Split.mk (fun d1 => ?_) (fun d1 => ?_)
  · have hlt : k < t.length := by have := of_decide_eq_true d1; omega
    have hsl := sawL_len t w h kerf k
    have hsn : sawL t w h kerf (k + 1) = if (ndget t k).f = -1 then sawL t w h kerf k else sawL t w h kerf k ++ [cutS (rcget (rT t w h kerf k) k) (ndget t k)] := rfl
    have hpos := rect_at hr hlt
    have ok := join_nd hj hlt
    have hf := hfin k hk
    have hg := hBg k
    rw [hf] at hg
    have innk := inn k
    rw [hf] at innk
    generalize rcget (rT t w h kerf k) k = r at *
    have i0 := innk.x0; have i1 := innk.y0; have i2 := innk.w0; have i3 := innk.h0; have i4 := innk.x1; have i5 := innk.y1
    have ix : 0 ≤ (k : Int) ∧ (k : Int) < (t.length : Int) := by omega
    have ixB : 0 ≤ (k : Int) ∧ (k : Int) < (B.length : Int) := by omega
    refine Need.mk ix ?_
    show Split ((ndget t k).f == -1) _
    refine Split.mk (fun c2 => ?_) (fun c2 => ?_)
    · rw [if_pos (eq_of_beq c2)] at hsn
      exact Adj.back (x := k) (k + 1) (by omega) (by omega) (.cons (.bldN (by rw [hsn]) (fun i hi j hj => SLe.of_eq (by rw [hsn]))) .nil) (.cons .same (.cons .same (.cons (.hdl rfl rfl) (.cons (SlotLe.int (hS k (by omega))) .nil))))
    have c2' : ¬ (ndget t k).f = -1 := ne_of_beq_false c2
    have hleaf : leafI (ndget t k) = false := by rw [leafI, decide_eq_false c2', Bool.false_and]
    rw [if_neg c2'] at hsn
    rw [posB, if_neg (by rw [hleaf]; simp), inB_iff] at hpos
    refine Need.mk ixB ?_
    refine Need.mk ix ?_
    show Split (ndget t k).v _
    refine Split.mk (fun c3 => ?_) (fun c3 => ?_)
    · rw [if_pos c3] at hpos
      have e1 : IntKind.i64.wrap (r.x + (ndget t k).a) = r.x + (ndget t k).a := hw _ (by omega) (by omega)
      refine Need.mk ix ?_
      refine Need.mk ix ?_
      refine Need.mk (needApp (n := (sawL t w h kerf k).length + 1) (by omega) (by decide)) ?_
      refine Need.mk (by kernel_rfl) ?_
      refine Adj.back (x := k) (k + 1) (by omega) (by omega) (.cons (.bldN (by rw [hsn, List.length_append]; rfl) (fun i hi j hj => ?_)) .nil) (.cons .same (.cons .same (.cons (.hdl rfl rfl) (.cons (SlotLe.int (hS k (by omega))) .nil))))
      rw [hsn]
      refine lG_snoc Sg.sL sg0 _ (cutS r (ndget t k)) 4 _ i j [i64 (IntKind.i64.wrap ((B.getD k bx0).a.x + (ndget t k).a)), i64 (B.getD k bx0).a.y, i64 (IntKind.i64.wrap ((B.getD k bx0).a.x + (ndget t k).a)), i64 (B.getD k bx0).b.y] ?_ rfl hi hj
      rw [hg]
      show [i64 (IntKind.i64.wrap (r.x + (ndget t k).a)), i64 r.y, i64 (IntKind.i64.wrap (r.x + (ndget t k).a)), i64 (r.y + r.h)] = _
      rw [e1, cutS, if_pos c3]
    · rw [if_neg (by rw [c3]; simp)] at hpos
      have e1 : IntKind.i64.wrap (r.y + (ndget t k).a) = r.y + (ndget t k).a := hw _ (by omega) (by omega)
      refine Need.mk ix ?_
      refine Need.mk ix ?_
      refine Need.mk (needApp (n := (sawL t w h kerf k).length + 1) (by omega) (by decide)) ?_
      refine Need.mk (by kernel_rfl) ?_
      refine Adj.back (x := k) (k + 1) (by omega) (by omega) (.cons (.bldN (by rw [hsn, List.length_append]; rfl) (fun i hi j hj => ?_)) .nil) (.cons .same (.cons .same (.cons (.hdl rfl rfl) (.cons (SlotLe.int (hS k (by omega))) .nil))))
      rw [hsn]
      refine lG_snoc Sg.sL sg0 _ (cutS r (ndget t k)) 4 _ i j [i64 (B.getD k bx0).a.x, i64 (IntKind.i64.wrap ((B.getD k bx0).a.y + (ndget t k).a)), i64 (B.getD k bx0).b.x, i64 (IntKind.i64.wrap ((B.getD k bx0).a.y + (ndget t k).a))] ?_ rfl hi hj
      rw [hg]
      show [i64 r.x, i64 (IntKind.i64.wrap (r.y + (ndget t k).a)), i64 (r.x + r.w), i64 (IntKind.i64.wrap (r.y + (ndget t k).a))] = _
      rw [e1, cutS, if_neg (by rw [c3]; simp)]
  have he : k = t.length := by have := of_decide_eq_false d1; omega
  subst he
  exact Fin.tup (.cons (DLe.refl _) (.cons (DLe.refl _) .nil))
end St
end Go.Vm
