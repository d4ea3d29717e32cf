/-
  Layer 37: contracts of the reference's boxes, Places and Valid, and of Theirs.
-/
import Derived.Test.YtfoblfchkgapoaaStpP
namespace Go.Vm
set_option maxRecDepth 20000
set_option linter.unusedVariables false
set_option linter.unusedSimpArgs false
open Go Go.RowKit Go.Proofs
namespace St

def boxOkB (t : List Nd) (w h kerf : Int) : Bool := allN t.length fun i => wholeB (ndget t i) && posB (rcget (rT t w h kerf i) i) (ndget t i)
def rboxR (t : List Nd) (w h kerf : Int) : List Rc × Bool := if boxOkB t w h kerf = true then (rT t w h kerf t.length, true) else ([], false)
theorem rboxes_det (t : List Nd) (w h kerf : Int) (hl : t.length ≤ 100000000) (hj : joinB t = true) (w0 : 1 ≤ w) (w1 : w ≤ 2000) (h0 : 1 ≤ h) (h1 : h ≤ 2000) (k0 : 0 ≤ kerf) (k1 : kerf ≤ 50) :
    Det Try.prog 74 [.one (ndS t), .one (i64 w), .one (i64 h), .one (i64 kerf)] (rectE (rboxR t w h kerf)) := by
  refine det_of_awp TTok mixed Try.func74 rfl rfl [15, 17] (Nat.le_of_ble_eq_true rfl) ?_
  simp only [joinB, Bool.and_eq_true] at hj
  obtain ⟨jo, _, jl⟩ := hj
  rw [inB_iff] at jl
  replace jo := fun i hi => allN_iff.1 jo i hi
  refine Need.mk (needMake4 (by omega)) ?_
  refine Need.mk (by omega) ?_
  refine Loop.by (α := Nat) (fun k => [(0, .d (.one (ndS t))), (3, tint kerf), (10, .hdl 16 0), (11, tint k)]) (fun k => [(16, .bld 0 t.length 4 134 (lG rcL rc0 (rT t w h kerf k)))]) (fun k => k ≤ t.length ∧ ∀ i, i < k → wholeB (ndget t i) = true ∧ posB (rcget (rT t w h kerf i) i) (ndget t i) = true) (fun k => t.length - k)
    (Adj.at 0 ⟨Nat.zero_le _, fun _ h => absurd h (Nat.not_lt_zero _)⟩ (.cons (.bldN (by omega) (fun i hi j hj => ?_)) .nil) (.cons .same (.cons .same (.cons (.hdl rfl rfl) (.cons .same .nil))))) (fun k hk => ?_)
  · have hz : ∀ i j, j < 4 → i < t.length → [i64 0, i64 0, i64 0, i64 0].getD j (.v Go.undef) = lG rcL rc0 (List.replicate t.length rc0) i j := fun i j hj hi => by
      unfold lG
      have : (List.replicate t.length rc0).getD i rc0 = rc0 := by rw [List.getD, List.getElem?_replicate]; split <;> rfl
      rw [this]
    have hle := lG_set rcL rc0 (List.replicate t.length rc0) ⟨0, 0, w, h⟩ 0 i j 4 [i64 0, i64 0, i64 w, i64 h] rfl (by rw [List.length_replicate]; omega) hj
    rw [← hz i j hj (by omega)] at hle
    exact hle
  obtain ⟨hk, hx⟩ := hk
  have hbl := rT_len t w h kerf k
  have inn := rT_in (t := t) (kerf := kerf) (show 0 ≤ w by omega) (show 0 ≤ h by omega) k0 k (fun i hi => (hx i hi).2) k
  refine Split.mk (fun hc => ?_) (fun hc => ?_)
  · have hlt : k < t.length := by have := of_decide_eq_true hc; omega
    have ok := jo k hlt
    have bad : (wholeB (ndget t k) && posB (rcget (rT t w h kerf k) k) (ndget t k)) = false → rboxR t w h kerf = ([], false) := fun hb => by
      rw [rboxR, if_neg]
      intro hq
      rw [boxOkB] at hq
      have := allN_iff.1 hq k hlt
      rw [hb] at this; cases this
    have nxt : wholeB (ndget t k) = true → posB (rcget (rT t w h kerf k) k) (ndget t k) = true → ∀ i, i < k + 1 → wholeB (ndget t i) = true ∧ posB (rcget (rT t w h kerf i) i) (ndget t i) = true := fun hw' hp i hi => by
      rcases Nat.lt_succ_iff_lt_or_eq.1 hi with hi | rfl
      · exact hx i hi
      · exact ⟨hw', hp⟩
    have hrn : rT t w h kerf (k + 1) = if leafI (ndget t k) = true then rT t w h kerf k else ((rT t w h kerf k).set (ndget t k).f.toNat (cutA (rcget (rT t w h kerf k) k) (ndget t k))).set (ndget t k).s.toNat (cutB (rcget (rT t w h kerf k) k) (ndget t k) kerf) := rfl
    have fail2 : ([], false) = rboxR t w h kerf → Fin (.tup [.one (.v (.slice none 0 0)), .one (.v (.bool false))]) (rectE (rboxR t w h kerf)) := fun e => by
      rw [← e]
      exact Fin.tup (.cons (DLe.one (SLe.nil _ _)) (.cons (DLe.refl _) .nil))
    have i0 := inn.x0; have i1 := inn.y0; have i2 := inn.w0; have i3 := inn.h0; have i4 := inn.x1; have i5 := inn.y1
    refine Need.mk (by omega) ?_
    refine Need.mk (by omega) ?_
    refine Need.mk (by kernel_rfl) ?_
    refine CallW.bool (rwhole_det (ndget t k)) (fun b hb => ?_)
    refine Split.mk (fun c0 => ?_) (fun c0 => ?_)
    · have hwf : wholeB (ndget t k) = false := by rw [← hb]; simpa using c0
      exact fail2 (bad (by rw [hwf]; rfl)).symm
    have hwt : wholeB (ndget t k) = true := by rw [← hb]; simpa using c0
    refine CallW.bool (rleaf_det (ndget t k)) (fun b1 hb1 => ?_)
    refine Split.mk (fun c1 => ?_) (fun c1 => ?_)
    · have hleaf : leafI (ndget t k) = true := hb1.symm.trans c1
      have hpos : posB (rcget (rT t w h kerf k) k) (ndget t k) = true := by
        rw [posB, if_pos hleaf]
        rw [wholeB, if_pos hleaf] at hwt
        exact hwt
      rw [if_pos hleaf] at hrn
      exact Adj.back (x := k) (k + 1) ⟨by omega, nxt hwt hpos⟩ (by omega) (.cons (.bld (fun i hi j hj => SLe.of_eq (by rw [hrn]))) .nil) (.cons .same (.cons .same (.cons (.hdl rfl rfl) (.cons (SlotLe.int (hS k (by omega))) .nil))))
    have hnl : leafI (ndget t k) = false := hb1.symm.trans c1
    rw [if_neg (by rw [hnl]; simp)] at hrn
    rw [ndOkB, hnl, Bool.false_and, Bool.false_or, Bool.and_eq_true, inB_iff, inB_iff] at ok
    have hps : posB (rcget (rT t w h kerf k) k) (ndget t k) = inB (ndget t k).a 1 ((if (ndget t k).v = true then (rcget (rT t w h kerf k) k).w else (rcget (rT t w h kerf k) k).h) - 1) := by rw [posB, if_neg (by rw [hnl]; simp)]
    have bad2 : ¬ (1 ≤ (ndget t k).a ∧ (ndget t k).a ≤ (if (ndget t k).v = true then (rcget (rT t w h kerf k) k).w else (rcget (rT t w h kerf k) k).h) - 1) → rboxR t w h kerf = ([], false) := fun hq => bad (by
      cases hz : posB (rcget (rT t w h kerf k) k) (ndget t k) with
      | false => rw [Bool.and_false]
      | true => rw [hps, inB_iff] at hz; exact absurd hz hq)
    show Split (decide ((ndget t k).a < 1)) _
    refine Split.mk (fun c2 => ?_) (fun c2 => ?_)
    · repeat' first | refine Split.isT c2 ?_ | refine Split.t ?_ | refine Split.f ?_ | fail
      exact fail2 (bad2 (fun q => by have : (ndget t k).a < 1 := of_decide_eq_true c2; omega)).symm
    have c2' : ¬ (ndget t k).a < 1 := of_decide_eq_false c2
    repeat' first | refine Split.isF c2 ?_ | refine Split.t ?_ | refine Split.f ?_ | fail
    show Split (ndget t k).v _
    refine Split.mk (fun cv => ?_) (fun cv => ?_)
    · have cv' : (ndget t k).v = true := cv
      rw [cv'] at bad2
      simp only [if_true] at bad2
      repeat' first | refine Split.isF c2 ?_ | refine Split.isT cv ?_ | refine Split.t ?_ | refine Split.f ?_ | fail
      show Split (decide ((ndget t k).a ≥ (rcget (rT t w h kerf k) k).w)) _
      refine Split.mk (fun c3 => ?_) (fun c3 => ?_)
      · repeat' first | refine Split.isT c3 ?_ | refine Split.isF c2 ?_ | refine Split.isT cv ?_ | refine Split.t ?_ | refine Split.f ?_ | fail
        exact fail2 (bad2 (fun q => by have : (ndget t k).a ≥ (rcget (rT t w h kerf k) k).w := of_decide_eq_true c3; omega)).symm
      have c3' : ¬ (ndget t k).a ≥ (rcget (rT t w h kerf k) k).w := of_decide_eq_false c3
      have hpos : posB (rcget (rT t w h kerf k) k) (ndget t k) = true := by rw [hps, inB_iff, if_pos cv']; omega
      have cn : (!(ndget t k).v) = false := by rw [cv']; rfl
      repeat' first | refine Split.isF c3 ?_ | refine Split.isF c2 ?_ | refine Split.isF cn ?_ | refine Split.isT cv ?_ | refine Split.t ?_ | refine Split.f ?_ | fail
      refine Need.mk (⟨by omega, by omega⟩ : 0 ≤ (ndget t k).f ∧ (ndget t k).f < (t.length : Int)) ?_
      refine Cut.mk (Adj.keep [(0, .d (.one (ndS t))), (3, tint kerf), (10, .hdl 16 0), (11, tint k), (12, .ptr 12 0), (13, .ptr 13 0)] [(16, .bld 0 t.length 4 134 (lG rcL rc0 ((rT t w h kerf k).set (ndget t k).f.toNat (cutA (rcget (rT t w h kerf k) k) (ndget t k))))), (12, .box (ndL (ndget t k))), (13, .box (rcL (rcget (rT t w h kerf k) k)))]
        (.cons (.bld (fun i hi j hj => ?_)) (.cons (.box (LLe.of_eq rfl)) (.cons (.box (LLe.of_eq rfl)) .nil))) (.cons .same (.cons .same (.cons (.hdl rfl rfl) (.cons .same (.cons (.box rfl rfl) (.cons (.box rfl rfl) .nil)))))) ?_)
      · exact lG_set rcL rc0 (rT t w h kerf k) (cutA (rcget (rT t w h kerf k) k) (ndget t k)) (ndget t k).f.toNat i j 4 (rcL ⟨(rcget (rT t w h kerf k) k).x, (rcget (rT t w h kerf k) k).y, (ndget t k).a, (rcget (rT t w h kerf k) k).h⟩) (by rw [cutA, if_pos cv']) (by rw [hbl]; exact hi) hj
      refine Need.mk (⟨by omega, by omega⟩ : 0 ≤ (ndget t k).s ∧ (ndget t k).s < (t.length : Int)) ?_
      refine Adj.back (x := k) (k + 1) ⟨by omega, nxt hwt hpos⟩ (by omega) (.cons (.bld (fun i hi j hj => ?_)) .nil) (.cons .same (.cons .same (.cons (.hdl rfl rfl) (.cons (SlotLe.int (hS k (by omega))) .nil))))
      rw [hrn]
      have w1' : IntKind.i64.wrap ((ndget t k).a + kerf) = (ndget t k).a + kerf := hw _ (by omega) (by omega)
      have w2' : IntKind.i64.wrap (IntKind.i64.wrap ((rcget (rT t w h kerf k) k).w - (ndget t k).a) - kerf) = (rcget (rT t w h kerf k) k).w - (ndget t k).a - kerf := by rw [hw ((rcget (rT t w h kerf k) k).w - (ndget t k).a) (by omega) (by omega), hw _ (by omega) (by omega)]
      have w3' : IntKind.i64.wrap ((rcget (rT t w h kerf k) k).x + (if IntKind.i64.wrap ((ndget t k).a + kerf) < (rcget (rT t w h kerf k) k).w then IntKind.i64.wrap ((ndget t k).a + kerf) else (rcget (rT t w h kerf k) k).w)) = (rcget (rT t w h kerf k) k).x + minI (rcget (rT t w h kerf k) k).w ((ndget t k).a + kerf) := by
        rw [w1', minI]
        split <;> exact hw _ (by omega) (by omega)
      exact lG_set rcL rc0 ((rT t w h kerf k).set (ndget t k).f.toNat (cutA (rcget (rT t w h kerf k) k) (ndget t k))) (cutB (rcget (rT t w h kerf k) k) (ndget t k) kerf) (ndget t k).s.toNat i j 4
        [i64 (IntKind.i64.wrap ((rcget (rT t w h kerf k) k).x + (if IntKind.i64.wrap ((ndget t k).a + kerf) < (rcget (rT t w h kerf k) k).w then IntKind.i64.wrap ((ndget t k).a + kerf) else (rcget (rT t w h kerf k) k).w))), i64 (rcget (rT t w h kerf k) k).y, i64 (if IntKind.i64.wrap (IntKind.i64.wrap ((rcget (rT t w h kerf k) k).w - (ndget t k).a) - kerf) > 0 then IntKind.i64.wrap (IntKind.i64.wrap ((rcget (rT t w h kerf k) k).w - (ndget t k).a) - kerf) else 0), i64 (rcget (rT t w h kerf k) k).h]
        (by rw [w3', w2', cutB, if_pos cv']; rfl) (by rw [List.length_set, hbl]; exact hi) hj
    · have cv' : (ndget t k).v = false := cv
      have cvn : ¬ (ndget t k).v = true := by rw [cv']; simp
      rw [cv'] at bad2
      simp only [Bool.false_eq_true, if_false] at bad2
      have cn : (!(ndget t k).v) = true := by rw [cv']; rfl
      repeat' first | refine Split.isF c2 ?_ | refine Split.isF cv ?_ | refine Split.isT cn ?_ | refine Split.t ?_ | refine Split.f ?_ | fail
      show Split (decide ((ndget t k).a ≥ (rcget (rT t w h kerf k) k).h)) _
      refine Split.mk (fun c3 => ?_) (fun c3 => ?_)
      · repeat' first | refine Split.isT c3 ?_ | refine Split.isF c2 ?_ | refine Split.isF cv ?_ | refine Split.isT cn ?_ | refine Split.t ?_ | refine Split.f ?_ | fail
        exact fail2 (bad2 (fun q => by have : (ndget t k).a ≥ (rcget (rT t w h kerf k) k).h := of_decide_eq_true c3; omega)).symm
      have c3' : ¬ (ndget t k).a ≥ (rcget (rT t w h kerf k) k).h := of_decide_eq_false c3
      have hpos : posB (rcget (rT t w h kerf k) k) (ndget t k) = true := by rw [hps, inB_iff, if_neg cvn]; omega
      repeat' first | refine Split.isF c3 ?_ | refine Split.isF c2 ?_ | refine Split.isT cn ?_ | refine Split.isF cv ?_ | refine Split.t ?_ | refine Split.f ?_ | fail
      refine Need.mk (⟨by omega, by omega⟩ : 0 ≤ (ndget t k).f ∧ (ndget t k).f < (t.length : Int)) ?_
      refine Cut.mk (Adj.keep [(0, .d (.one (ndS t))), (3, tint kerf), (10, .hdl 16 0), (11, tint k), (12, .ptr 12 0), (13, .ptr 13 0)] [(16, .bld 0 t.length 4 134 (lG rcL rc0 ((rT t w h kerf k).set (ndget t k).f.toNat (cutA (rcget (rT t w h kerf k) k) (ndget t k))))), (12, .box (ndL (ndget t k))), (13, .box (rcL (rcget (rT t w h kerf k) k)))]
        (.cons (.bld (fun i hi j hj => ?_)) (.cons (.box (LLe.of_eq rfl)) (.cons (.box (LLe.of_eq rfl)) .nil))) (.cons .same (.cons .same (.cons (.hdl rfl rfl) (.cons .same (.cons (.box rfl rfl) (.cons (.box rfl rfl) .nil)))))) ?_)
      · exact lG_set rcL rc0 (rT t w h kerf k) (cutA (rcget (rT t w h kerf k) k) (ndget t k)) (ndget t k).f.toNat i j 4 (rcL ⟨(rcget (rT t w h kerf k) k).x, (rcget (rT t w h kerf k) k).y, (rcget (rT t w h kerf k) k).w, (ndget t k).a⟩) (by rw [cutA, if_neg cvn]) (by rw [hbl]; exact hi) hj
      refine Need.mk (⟨by omega, by omega⟩ : 0 ≤ (ndget t k).s ∧ (ndget t k).s < (t.length : Int)) ?_
      refine Adj.back (x := k) (k + 1) ⟨by omega, nxt hwt hpos⟩ (by omega) (.cons (.bld (fun i hi j hj => ?_)) .nil) (.cons .same (.cons .same (.cons (.hdl rfl rfl) (.cons (SlotLe.int (hS k (by omega))) .nil))))
      rw [hrn]
      have w1' : IntKind.i64.wrap ((ndget t k).a + kerf) = (ndget t k).a + kerf := hw _ (by omega) (by omega)
      have w2' : IntKind.i64.wrap (IntKind.i64.wrap ((rcget (rT t w h kerf k) k).h - (ndget t k).a) - kerf) = (rcget (rT t w h kerf k) k).h - (ndget t k).a - kerf := by rw [hw ((rcget (rT t w h kerf k) k).h - (ndget t k).a) (by omega) (by omega), hw _ (by omega) (by omega)]
      have w3' : IntKind.i64.wrap ((rcget (rT t w h kerf k) k).y + (if IntKind.i64.wrap ((ndget t k).a + kerf) < (rcget (rT t w h kerf k) k).h then IntKind.i64.wrap ((ndget t k).a + kerf) else (rcget (rT t w h kerf k) k).h)) = (rcget (rT t w h kerf k) k).y + minI (rcget (rT t w h kerf k) k).h ((ndget t k).a + kerf) := by
        rw [w1', minI]
        split <;> exact hw _ (by omega) (by omega)
      exact lG_set rcL rc0 ((rT t w h kerf k).set (ndget t k).f.toNat (cutA (rcget (rT t w h kerf k) k) (ndget t k))) (cutB (rcget (rT t w h kerf k) k) (ndget t k) kerf) (ndget t k).s.toNat i j 4
        [i64 (rcget (rT t w h kerf k) k).x, i64 (IntKind.i64.wrap ((rcget (rT t w h kerf k) k).y + (if IntKind.i64.wrap ((ndget t k).a + kerf) < (rcget (rT t w h kerf k) k).h then IntKind.i64.wrap ((ndget t k).a + kerf) else (rcget (rT t w h kerf k) k).h))), i64 (rcget (rT t w h kerf k) k).w, i64 (if IntKind.i64.wrap (IntKind.i64.wrap ((rcget (rT t w h kerf k) k).h - (ndget t k).a) - kerf) > 0 then IntKind.i64.wrap (IntKind.i64.wrap ((rcget (rT t w h kerf k) k).h - (ndget t k).a) - kerf) else 0)]
        (by rw [w3', w2', cutB, if_neg cvn]; rfl) (by rw [List.length_set, hbl]; exact hi) hj
  · have he : k = t.length := by have := of_decide_eq_false hc; omega
    subst he
    have : rboxR t w h kerf = (rT t w h kerf t.length, true) := by rw [rboxR, if_pos (by rw [boxOkB]; exact allN_iff.2 (fun i hi => by rw [(hx i hi).1, (hx i hi).2]; rfl))]
    rw [this]
    exact Fin.tup (.cons (DLe.one (SLe.slN hbl.symm (fun _ _ _ _ => SLe.refl _))) (.cons (DLe.refl _) .nil))
theorem theirs_det (l : List Nd) (hl : l.length ≤ 100000000) : Det Try.prog 20 [.one (ndS l)] (.d (.one (ndS l))) := by
  refine det_of_awp TTok mixed Try.func20 rfl rfl [] (Nat.le_of_ble_eq_true rfl) ?_
  refine Loop.by (α := Nat) (fun k => [(3, .hdl 15 0), (6, .d (.one (ndS l))), (7, tint l.length), (8, tint k)]) (fun k => [(15, .bld 0 k 5 97 (lG ndL nd0 l))]) (fun k => k ≤ l.length) (fun k => l.length - k)
    (Adj.nil 3 15 5 97 (lG ndL nd0 l) rfl rfl (Adj.at 0 (Nat.zero_le _) (.cons (.bld (fun _ h => absurd h (Nat.not_lt_zero _))) .nil) (.cons (.hdl rfl rfl) (.cons .same (.cons .same (.cons .same .nil)))))) (fun k hk => ?_)
  refine Split.mk (fun h => ?_) (fun h => ?_)
  · have hlt : k < l.length := by have := of_decide_eq_true h; omega
    refine Need.mk (by omega) ?_
    refine Need.mk (needApp (n := k + 1) (by omega) (by decide)) ?_
    refine Adj.back (x := k) (k + 1) (by omega) (by omega) (.cons (.bld (fun i hi j hj => lG_at ndL nd0 l k 5 i j _ rfl hi)) .nil) (.cons (.hdl rfl rfl) (.cons .same (.cons .same (.cons (SlotLe.int (hS k (by omega))) .nil))))
  · have he : k = l.length := by have := of_decide_eq_false h; omega
    refine Fin.one ?_
    exact SLe.slN he (fun _ _ _ _ => SLe.refl _)
theorem valid_ref {t : List Nd} {ks : List Knd} {w h kerf : Int} : validB t ks w h kerf = (probB ks w h kerf && (joinB t && (boxOkB t w h kerf && kindB t ks w h kerf))) := by
  unfold validB
  cases hp : probB ks w h kerf with
  | false => rfl
  | true =>
    cases hj : joinB t with
    | false => rfl
    | true =>
      rw [Bool.true_and, Bool.true_and, Bool.true_and, Bool.true_and]
      have key : kindB t ks w h kerf = true → rectB t w h kerf = boxOkB t w h kerf := fun hk => by
        unfold rectB boxOkB
        rw [Bool.eq_iff_iff, allN_iff, allN_iff]
        refine ⟨fun a i hi => ?_, fun a i hi => ?_⟩
        · have b := a i hi
          have c := allN_iff.1 hk i hi
          rw [b, Bool.and_true, wholeB]
          rw [kindOkB] at c
          split
          · rename_i hl
            rw [posB, if_pos hl] at b
            exact b
          · rename_i hl
            rw [if_neg hl] at c
            exact c
        · have := a i hi
          rw [Bool.and_eq_true] at this
          exact this.2
      cases hk : kindB t ks w h kerf with
      | false => rw [Bool.and_false, Bool.and_false]
      | true => rw [key hk]
theorem rplaces_det (t : List Nd) (ks : List Knd) (w h kerf : Int) (hl : t.length ≤ 100000000) (hk : ks.length ≤ 100000000) : Det Try.prog 41 [.one (ndS t), .one (kS ks), .one (i64 w), .one (i64 h), .one (i64 kerf)] (plE (placesR t ks w h kerf)) := by
  refine det_of_awp TTok mixed Try.func41 rfl rfl [] (Nat.le_of_ble_eq_true rfl) ?_
  have hvr := valid_ref (t := t) (ks := ks) (w := w) (h := h) (kerf := kerf)
  have fail2 : validB t ks w h kerf = false → Fin (.tup [.one (.v (.slice none 0 0)), .one (i64 1)]) (plE (placesR t ks w h kerf)) := fun e => by
    rw [placesR, if_neg (by rw [e]; simp)]
    exact Fin.tup (.cons (DLe.one (SLe.nil _ _)) (.cons (DLe.refl _) .nil))
  refine CallW.bool (rproblem_det ks w h kerf hk) (fun b hb => ?_)
  refine Split.mk (fun c1 => ?_) (fun c1 => ?_)
  · repeat' first | refine Split.isT c1 ?_ | refine Split.t ?_ | refine Split.f ?_ | fail
    have : probB ks w h kerf = false := by rw [← hb]; simpa using c1
    exact fail2 (by rw [hvr, this]; rfl)
  have hp : probB ks w h kerf = true := by rw [← hb]; simpa using c1
  have p := prob_iff.1 hp
  repeat' first | refine Split.isF c1 ?_ | refine Split.t ?_ | refine Split.f ?_ | fail
  refine CallW.bool (shaped_det t hl) (fun b2 hb2 => ?_)
  repeat' first | refine Split.isF c1 ?_ | refine Split.t ?_ | refine Split.f ?_ | fail
  refine Split.mk (fun c2 => ?_) (fun c2 => ?_)
  · have : joinB t = false := by rw [← hb2]; simpa using c2
    exact fail2 (by rw [hvr, this, Bool.false_and, Bool.and_false])
  have hj : joinB t = true := by rw [← hb2]; simpa using c2
  refine CallW.rect (rboxes_det t w h kerf hl hj p.w0 p.w1 p.h0 p.h1 p.k0 p.k1) (fun x hx => ?_)
  refine Split.mk (fun c3 => ?_) (fun c3 => ?_)
  · have : boxOkB t w h kerf = false := by
      cases hq : boxOkB t w h kerf with
      | false => rfl
      | true =>
        rw [rboxR, if_pos hq] at hx
        rw [hx] at c3; cases c3
    exact fail2 (by rw [hvr, this, Bool.false_and, Bool.and_false, Bool.and_false])
  have hr : boxOkB t w h kerf = true := by
    cases hq : boxOkB t w h kerf with
    | true => rfl
    | false =>
      rw [rboxR, if_neg (by rw [hq]; simp)] at hx
      rw [hx] at c3; cases c3
  have hx' : x = (rT t w h kerf t.length, true) := by rw [hx, rboxR, if_pos hr]
  have hv : validB t ks w h kerf = kindB t ks w h kerf := by rw [hvr, hp, hj, hr]; rfl
  have hxl := rT_len t w h kerf t.length
  have hR : kindB t ks w h kerf = true → placesR t ks w h kerf = (plT t (rT t w h kerf t.length) t.length, 0) := fun q => by rw [placesR, if_pos (by rw [hv]; exact q)]
  subst hx'
  clear hx
  have hkb : kindB t ks w h kerf = allN t.length fun i => kindOkB ks (rcget (rT t w h kerf t.length) i) (ndget t i) := rfl
  have hwh : ∀ i, i < t.length → wholeB (ndget t i) = true := fun i hi => by
    have := allN_iff.1 hr i hi
    rw [Bool.and_eq_true] at this
    exact this.1
  generalize rT t w h kerf t.length = R at *
  refine Loop.by (α := Nat) (fun k => [(0, .d (.one (ndS t))), (1, .d (.one (kS ks))), (12, .d (.one (rcS R))), (14, .hdl 107 0), (15, tint k)]) (fun k => [(107, .bld 0 (plT t R k).length 3 76 (lG plL pl0 (plT t R k)))]) (fun k => k ≤ t.length ∧ ∀ i, i < k → kindOkB ks (rcget R i) (ndget t i) = true) (fun k => t.length - k)
    (Adj.nil 14 107 3 76 (lG plL pl0 []) rfl rfl (Adj.at 0 ⟨Nat.zero_le _, fun _ h => absurd h (Nat.not_lt_zero _)⟩ (.cons (.bld (fun _ h => absurd h (Nat.not_lt_zero _))) .nil) (.cons .same (.cons .same (.cons .same (.cons (.hdl rfl rfl) (.cons .same .nil))))))) (fun k hk => ?_)
  obtain ⟨hk', hall⟩ := hk
  have hpl := plT_len t R k
  have hps := plT_succ t R k
  refine Split.mk (fun hc => ?_) (fun hc => ?_)
  · have hlt : k < t.length := by have := of_decide_eq_true hc; omega
    have hwk := hwh k hlt
    have bad : kindOkB ks (rcget R k) (ndget t k) = false → validB t ks w h kerf = false := fun hb => by
      rw [hv]
      cases hq : kindB t ks w h kerf with
      | false => rfl
      | true =>
        rw [hkb] at hq
        have := allN_iff.1 hq k hlt
        rw [hb] at this; cases this
    have nxt : kindOkB ks (rcget R k) (ndget t k) = true → ∀ i, i < k + 1 → kindOkB ks (rcget R i) (ndget t i) = true := fun hp i hi => by
      rcases Nat.lt_succ_iff_lt_or_eq.1 hi with hi | rfl
      · exact hall i hi
      · exact hp
    have skip : (ndget t k).k = -1 → kindOkB ks (rcget R k) (ndget t k) = true ∧ plT t R (k + 1) = plT t R k := fun q => ⟨by rw [kindOkB, decide_eq_true q]; split <;> rfl, hps.trans (if_neg (by omega))⟩
    refine Need.mk (by omega) ?_
    refine Need.mk (by omega) ?_
    refine CallW.bool (rleaf_det (ndget t k)) (fun b5 hb5 => ?_)
    refine Split.mk (fun d1 => ?_) (fun d1 => ?_)
    · have q1 : leafI (ndget t k) = false := by rw [← hb5]; simpa using d1
      rw [wholeB, if_neg (by rw [q1]; simp), decide_eq_true_eq] at hwk
      obtain ⟨s1, s2⟩ := skip hwk
      repeat' first | refine Split.isT d1 ?_ | refine Split.t ?_ | refine Split.f ?_ | fail
      exact Adj.back (x := k) (k + 1) ⟨by omega, nxt s1⟩ (by omega) (.cons (.bldN (by rw [s2]) (fun q hq j hj => SLe.of_eq (by rw [s2]))) .nil) (.cons .same (.cons .same (.cons .same (.cons (.hdl rfl rfl) (.cons (SlotLe.int (hS k (by omega))) .nil)))))
    have hleaf : leafI (ndget t k) = true := by rw [← hb5]; simpa using d1
    repeat' first | refine Split.isF d1 ?_ | refine Split.t ?_ | refine Split.f ?_ | fail
    show Split ((ndget t k).k == -1) _
    refine Split.mk (fun d2 => ?_) (fun d2 => ?_)
    · obtain ⟨s1, s2⟩ := skip (eq_of_beq d2)
      repeat' first | refine Split.isT d2 ?_ | refine Split.t ?_ | refine Split.f ?_ | fail
      exact Adj.back (x := k) (k + 1) ⟨by omega, nxt s1⟩ (by omega) (.cons (.bldN (by rw [s2]) (fun q hq j hj => SLe.of_eq (by rw [s2]))) .nil) (.cons .same (.cons .same (.cons .same (.cons (.hdl rfl rfl) (.cons (SlotLe.int (hS k (by omega))) .nil)))))
    have d2' : ¬ (ndget t k).k = -1 := ne_of_beq_false d2
    repeat' first | refine Split.isF d2 ?_ | refine Split.t ?_ | refine Split.f ?_ | fail
    have hko : kindOkB ks (rcget R k) (ndget t k) = (inB (ndget t k).k 0 (ks.length - 1) && (decide ((rcget R k).w = (kget ks (ndget t k).k.toNat).w) && decide ((rcget R k).h = (kget ks (ndget t k).k.toNat).h))) := by
      rw [kindOkB, if_pos hleaf, decide_eq_false d2', Bool.false_or]
    show Split (decide ((ndget t k).k < 0)) _
    refine Split.mk (fun d3 => ?_) (fun d3 => ?_)
    · repeat' first | refine Split.isT d3 ?_ | refine Split.t ?_ | refine Split.f ?_ | fail
      refine Need.mk (by kernel_rfl) ?_
      repeat' first | refine Split.isT d3 ?_ | refine Split.t ?_ | refine Split.f ?_ | fail
      refine fail2 (bad ?_)
      have : (ndget t k).k < 0 := of_decide_eq_true d3
      rw [hko]
      cases hq : inB (ndget t k).k 0 (ks.length - 1) with
      | false => rfl
      | true => rw [inB_iff] at hq; omega
    have d3' : ¬ (ndget t k).k < 0 := of_decide_eq_false d3
    repeat' first | refine Split.isF d3 ?_ | refine Split.t ?_ | refine Split.f ?_ | fail
    show Split (decide ((ndget t k).k ≥ (ks.length : Int))) _
    refine Split.mk (fun d4 => ?_) (fun d4 => ?_)
    · repeat' first | refine Split.isF d3 ?_ | refine Split.isT d4 ?_ | refine Split.t ?_ | refine Split.f ?_ | fail
      refine Need.mk (by kernel_rfl) ?_
      repeat' first | refine Split.isF d3 ?_ | refine Split.isT d4 ?_ | refine Split.t ?_ | refine Split.f ?_ | fail
      refine fail2 (bad ?_)
      have : (ndget t k).k ≥ (ks.length : Int) := of_decide_eq_true d4
      rw [hko]
      cases hq : inB (ndget t k).k 0 (ks.length - 1) with
      | false => rfl
      | true => rw [inB_iff] at hq; omega
    have d4' : ¬ (ndget t k).k ≥ (ks.length : Int) := of_decide_eq_false d4
    have z2 : inB (ndget t k).k 0 (ks.length - 1) = true := inB_iff.2 ⟨by omega, by omega⟩
    rw [z2, Bool.true_and] at hko
    repeat' first | refine Split.isF d3 ?_ | refine Split.isF d4 ?_ | refine Split.t ?_ | refine Split.f ?_ | fail
    refine Need.mk (⟨by omega, by omega⟩ : 0 ≤ (ndget t k).k ∧ (ndget t k).k < (ks.length : Int)) ?_
    repeat' first | refine Split.isF d3 ?_ | refine Split.isF d4 ?_ | refine Split.t ?_ | refine Split.f ?_ | fail
    refine Need.mk (by show 0 ≤ (k : Int) ∧ (k : Int) < (R.length : Int); omega) ?_
    repeat' first | refine Split.isF d3 ?_ | refine Split.isF d4 ?_ | refine Split.t ?_ | refine Split.f ?_ | fail
    show Split ((kget ks (ndget t k).k.toNat).w != (rcget R k).w) _
    refine Split.mk (fun d5 => ?_) (fun d5 => ?_)
    · repeat' first | refine Split.isT d5 ?_ | refine Split.isF d3 ?_ | refine Split.isF d4 ?_ | refine Split.t ?_ | refine Split.f ?_ | fail
      refine Need.mk (by kernel_rfl) ?_
      repeat' first | refine Split.isT d5 ?_ | refine Split.isF d3 ?_ | refine Split.isF d4 ?_ | refine Split.t ?_ | refine Split.f ?_ | fail
      refine fail2 (bad ?_)
      have : ¬ (kget ks (ndget t k).k.toNat).w = (rcget R k).w := by simpa using d5
      rw [hko, decide_eq_false (fun e => this e.symm)]; rfl
    have d5' : (kget ks (ndget t k).k.toNat).w = (rcget R k).w := by simpa using d5
    repeat' first | refine Split.isF d5 ?_ | refine Split.isF d3 ?_ | refine Split.isF d4 ?_ | refine Split.t ?_ | refine Split.f ?_ | fail
    refine Need.mk (⟨by omega, by omega⟩ : 0 ≤ (ndget t k).k ∧ (ndget t k).k < (ks.length : Int)) ?_
    repeat' first | refine Split.isF d5 ?_ | refine Split.isF d3 ?_ | refine Split.isF d4 ?_ | refine Split.t ?_ | refine Split.f ?_ | fail
    refine Need.mk (by show 0 ≤ (k : Int) ∧ (k : Int) < (R.length : Int); omega) ?_
    repeat' first | refine Split.isF d5 ?_ | refine Split.isF d3 ?_ | refine Split.isF d4 ?_ | refine Split.t ?_ | refine Split.f ?_ | fail
    refine Need.mk (by kernel_rfl) ?_
    repeat' first | refine Split.isF d5 ?_ | refine Split.isF d3 ?_ | refine Split.isF d4 ?_ | refine Split.t ?_ | refine Split.f ?_ | fail
    show Split ((kget ks (ndget t k).k.toNat).h != (rcget R k).h) _
    refine Split.mk (fun d6 => ?_) (fun d6 => ?_)
    · refine fail2 (bad ?_)
      have : ¬ (kget ks (ndget t k).k.toNat).h = (rcget R k).h := by simpa using d6
      rw [hko, decide_eq_false (show ¬ (rcget R k).h = (kget ks (ndget t k).k.toNat).h from fun e => this e.symm), Bool.and_false]
    have d6' : (kget ks (ndget t k).k.toNat).h = (rcget R k).h := by simpa using d6
    have e := hps.trans (if_pos (by omega))
    refine Need.mk (by show 0 ≤ (k : Int) ∧ (k : Int) < (R.length : Int); omega) ?_
    refine Need.mk (by show 0 ≤ (k : Int) ∧ (k : Int) < (R.length : Int); omega) ?_
    refine Need.mk (needApp (n := (plT t R k).length + 1) (by omega) (by decide)) ?_
    refine Need.mk (by kernel_rfl) ?_
    refine Adj.back (x := k) (k + 1) ⟨by omega, nxt (by rw [hko, decide_eq_true d5'.symm, decide_eq_true d6'.symm]; rfl)⟩ (by omega) (.cons (.bldN (by rw [e, List.length_append]; rfl) (fun q hq j hj => ?_)) .nil) (.cons .same (.cons .same (.cons .same (.cons (.hdl rfl rfl) (.cons (SlotLe.int (hS k (by omega))) .nil)))))
    rw [e]
    exact lG_snoc plL pl0 _ (plOf t R k) 3 _ q j [i64 (ndget t k).k, i64 (rcget R k).x, i64 (rcget R k).y] rfl rfl hq hj
  · have he : k = t.length := by have := of_decide_eq_false hc; omega
    subst he
    have := hR (by rw [hkb]; exact allN_iff.2 hall)
    rw [this]
    exact Fin.tup (.cons (DLe.one (SLe.slN rfl (fun _ _ _ _ => SLe.refl _))) (.cons (DLe.refl _) .nil))
theorem rvalid_det (t : List Nd) (ks : List Knd) (w h kerf : Int) (hl : t.length ≤ 100000000) (hk : ks.length ≤ 100000000) : Det Try.prog 21 [.one (ndS t), .one (kS ks), .one (i64 w), .one (i64 h), .one (i64 kerf)] (tbool (validB t ks w h kerf)) := by
  refine det_of_awp TTok mixed Try.func21 rfl rfl [] (Nat.le_of_ble_eq_true rfl) ?_
  refine CallW.pls (rplaces_det t ks w h kerf hl hk) (fun x hx => ?_)
  refine Fin.bool ?_
  show (x.2 == 0) = _
  rw [hx, placesR]
  cases hv : validB t ks w h kerf with
  | true => rfl
  | false => rfl
end St
end Go.Vm
