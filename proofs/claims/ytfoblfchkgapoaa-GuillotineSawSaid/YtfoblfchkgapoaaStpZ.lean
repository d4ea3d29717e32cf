/-
  Layer 37: the contract of the reference's Best; the law Best.
-/
import Derived.Test.YtfoblfchkgapoaaStpU
import Derived.Test.YtfoblfchkgapoaaStpY
namespace Go.Vm
set_option maxRecDepth 20000
set_option linter.unusedVariables false
set_option linter.unusedSimpArgs false
open Go Go.RowKit Go.Proofs
namespace St

def rbestR (ks : List Knd) (w h kerf : Int) : Int × Int := if probB ks w h kerf = false then (0, 1) else if manyB ks w h kerf = true then (0, 9) else (bestV ks w h kerf, 0)
abbrev twoI (x : Int × Int) : TV := .tup [.one (i64 x.1), .one (i64 x.2)]
theorem CallW.twoI {P : Program} {f : FuncId} {args : List DV} {K : TV → Prop} {a : Int × Int} (h : Det P f args (twoI a)) (kk : ∀ x, x = a → K (twoI x)) : CallW P f args K := ⟨_, h, kk a rfl⟩
theorem rbest_det (ks : List Knd) (w h kerf : Int) (hl : ks.length ≤ 100000000) : Det Try.prog 19 [.one (kS ks), .one (i64 w), .one (i64 h), .one (i64 kerf)] (twoI (rbestR ks w h kerf)) := by
  refine det_of_awp TTok mixed Try.func19 rfl rfl [16, 17] (Nat.le_of_ble_eq_true rfl) ?_
  refine CallW.bool (rproblem_det ks w h kerf hl) (fun b hb => ?_)
  refine Split.mk (fun h1 => ?_) (fun h1 => ?_)
  · have : probB ks w h kerf = false := by rw [← hb]; simpa using h1
    rw [rbestR, if_pos this]
    exact Fin.rfl'
  have hp : probB ks w h kerf = true := by rw [← hb]; simpa using h1
  have p := prob_iff.1 hp
  have hlen := p.len
  refine CallW.bool (rlimit_det ks w h kerf p) (fun b2 hb2 => ?_)
  refine Split.mk (fun h2 => ?_) (fun h2 => ?_)
  · rw [rbestR, if_neg (by rw [hp]; simp), if_pos (by rw [← hb2, h2])]
    exact Fin.rfl'
  have hR : rbestR ks w h kerf = (bestV ks w h kerf, 0) := by rw [rbestR, if_neg (by rw [hp]; simp), if_neg (by rw [← hb2, h2]; simp)]
  rw [hR]
  obtain ⟨cw1, cw2⟩ := p.capw
  obtain ⟨ch1, ch2⟩ := p.caph
  have k0 := p.k0; have k1 := p.k1; have w0 := p.w0; have w1 := p.w1; have h0 := p.h0; have hh1 := p.h1
  have ew : IntKind.i64.wrap (w + kerf) = ((capI (w + kerf) : Nat) : Int) := by rw [hw _ (by omega) (by omega), cw1]
  have eh : IntKind.i64.wrap (h + kerf) = ((capI (h + kerf) : Nat) : Int) := by rw [hw _ (by omega) (by omega), ch1]
  refine Loop.by (α := Nat) (fun n => [(0, .d (.one (kS ks))), (1, tint w), (2, tint h), (3, tint kerf), (10, .hdl 77 0), (11, .hdl 86 0), (12, tint n)])
    (fun n => [(77, bI ((rsF ks kerf w n).map Itm.s)), (86, bI ((rsF ks kerf w n).map Itm.v))]) (fun n => n ≤ ks.length) (fun n => ks.length - n)
    (Adj.nil 10 77 1 3 (lG iL 0 []) rfl rfl (Adj.nil 11 86 1 3 (lG iL 0 []) rfl rfl
      (Adj.at 0 (Nat.zero_le _) (.cons (.bld (fun _ h => absurd h (Nat.not_lt_zero _))) (.cons (.bld (fun _ h => absurd h (Nat.not_lt_zero _))) .nil))
        (.cons .same (.cons .same (.cons .same (.cons .same (.cons (.hdl rfl rfl) (.cons (.hdl rfl rfl) (.cons .same .nil)))))))))) (fun n hn => ?_)
  have hrl := rsF_len ks kerf w n
  refine Split.mk (fun hc => ?_) (fun hc => ?_)
  · have hlt : n < ks.length := by have := of_decide_eq_true hc; omega
    have er : rsF ks kerf w (n + 1) = rsF ks kerf w n ++ [⟨(kget ks n).h + kerf, valOf ks kerf w (kget ks n).h⟩] := rfl
    have kh0 := (p.at' hlt).h0
    have kh1 := (p.at' hlt).h1
    have ekh : IntKind.i64.wrap ((kget ks n).h + kerf) = (kget ks n).h + kerf := hw _ (by omega) (by omega)
    refine Loop.by (α := Nat) (fun i => [(0, .d (.one (kS ks))), (1, tint w), (2, tint h), (3, tint kerf), (10, .hdl 77 0), (11, .hdl 86 0), (12, tint n), (13, .hdl 59 0), (14, .hdl 67 0), (15, tint i)])
      (fun i => [(77, bI ((rsF ks kerf w n).map Itm.s)), (86, bI ((rsF ks kerf w n).map Itm.v)), (59, bI ((selF ks kerf (kget ks n).h i).map Itm.s)), (67, bI ((selF ks kerf (kget ks n).h i).map Itm.v))]) (fun i => i ≤ ks.length) (fun i => ks.length - i)
      (Adj.nil 13 59 1 3 (lG iL 0 []) rfl rfl (Adj.nil 14 67 1 3 (lG iL 0 []) rfl rfl
        (Adj.at 0 (Nat.zero_le _) (.cons (.bld (fun _ _ _ _ => SLe.refl _)) (.cons (.bld (fun _ _ _ _ => SLe.refl _)) (.cons (.bld (fun _ h => absurd h (Nat.not_lt_zero _))) (.cons (.bld (fun _ h => absurd h (Nat.not_lt_zero _))) .nil))))
          (.cons .same (.cons .same (.cons .same (.cons .same (.cons (.hdl rfl rfl) (.cons (.hdl rfl rfl) (.cons .same (.cons (.hdl rfl rfl) (.cons (.hdl rfl rfl) (.cons .same .nil))))))))))))) (fun i hi => ?_)
    have hsl : (selF ks kerf (kget ks n).h i).length ≤ i := by rw [sel_num]; exact num_len ks _ i
    refine Split.mk (fun hc => ?_) (fun hc => ?_)
    · have hil : i < ks.length := by have := of_decide_eq_true hc; omega
      have kw := (p.at' hil).w0
      have kw1 := (p.at' hil).w1
      have es : selF ks kerf (kget ks n).h (i + 1) = if (kget ks i).h ≤ (kget ks n).h then selF ks kerf (kget ks n).h i ++ [⟨(kget ks i).w + kerf, (kget ks i).v⟩] else selF ks kerf (kget ks n).h i := rfl
      refine Need.mk (by omega) ?_
      refine Need.mk (by omega) ?_
      refine Need.mk (by kernel_rfl) ?_
      show Split (decide ((kget ks i).h ≤ (kget ks n).h)) _
      refine Split.mk (fun c3 => ?_) (fun c3 => ?_)
      · have es' := es.trans (if_pos (of_decide_eq_true c3))
        have ekw : IntKind.i64.wrap ((kget ks i).w + kerf) = (kget ks i).w + kerf := hw _ (by omega) (by omega)
        refine Need.mk (by omega) ?_
        refine Need.mk (needApp (n := ((selF ks kerf (kget ks n).h i).map Itm.s).length + 1) (by rw [List.length_map]; omega) (by decide)) ?_
        refine Need.mk (by omega) ?_
        refine Need.mk (needApp (n := ((selF ks kerf (kget ks n).h i).map Itm.v).length + 1) (by rw [List.length_map]; omega) (by decide)) ?_
        refine Need.mk (by kernel_rfl) ?_
        refine Adj.back (x := i) (i + 1) (by omega) (by omega) (.cons (.bld (fun _ _ _ _ => SLe.refl _)) (.cons (.bld (fun _ _ _ _ => SLe.refl _)) (.cons (.bldN (by rw [es', List.map_append, List.length_append]; rfl) (fun q hq j hj => ?_)) (.cons (.bldN (by rw [es', List.map_append, List.length_append]; rfl) (fun q hq j hj => ?_)) .nil))))
          (.cons .same (.cons .same (.cons .same (.cons .same (.cons (.hdl rfl rfl) (.cons (.hdl rfl rfl) (.cons .same (.cons (.hdl rfl rfl) (.cons (.hdl rfl rfl) (.cons (SlotLe.int (hS i (by omega))) .nil))))))))))
        · rw [es', List.map_append]
          exact lG_snoc iL 0 _ ((kget ks i).w + kerf) 1 _ q j [i64 (IntKind.i64.wrap ((kget ks i).w + kerf))] (by rw [ekw]) rfl hq hj
        · rw [es', List.map_append]
          exact lG_snoc iL 0 _ (kget ks i).v 1 _ q j _ rfl rfl hq hj
      · have es' := es.trans (if_neg (of_decide_eq_false c3))
        exact Adj.back (x := i) (i + 1) (by omega) (by omega) (.cons (.bld (fun _ _ _ _ => SLe.refl _)) (.cons (.bld (fun _ _ _ _ => SLe.refl _)) (.cons (.bldN (by rw [es']) (fun q hq j hj => SLe.of_eq (by rw [es']))) (.cons (.bldN (by rw [es']) (fun q hq j hj => SLe.of_eq (by rw [es']))) .nil))))
          (.cons .same (.cons .same (.cons .same (.cons .same (.cons (.hdl rfl rfl) (.cons (.hdl rfl rfl) (.cons .same (.cons (.hdl rfl rfl) (.cons (.hdl rfl rfl) (.cons (SlotLe.int (hS i (by omega))) .nil))))))))))
    have he : i = ks.length := by have := of_decide_eq_false hc; omega
    subst he
    have H := sel_its (hh := (kget ks n).h) p.kok (Nat.le_refl _)
    have hf := fill_det _ _ (capI (w + kerf)) 1000000 (its_sz H) (by rw [List.length_map]; omega) (by omega) (by decide)
    rw [fill_eq H, ← val_eq] at hf
    have hsl' : ∀ f : Itm → Int, ((selF ks kerf (kget ks n).h ks.length).map f).length ≤ ks.length := fun f => by rw [List.length_map]; exact hsl
    have hrl' : ∀ f : Itm → Int, ((rsF ks kerf w n).map f).length = n := fun f => by rw [List.length_map]; exact hrl
    refine Cut.mk (Adj.freeze 13 59 0 _ 1 3 _ rfl rfl (Adj.freeze 14 67 0 _ 1 3 _ rfl rfl (Adj.id ?_)))
    refine Need.mk (by omega) ?_
    refine Need.mk (needApp (n := ((rsF ks kerf w n).map Itm.s).length + 1) (by rw [hrl']; omega) (by decide)) ?_
    refine CallW.mk' (hf.le (.cons (DLe.refl _) (.cons (DLe.refl _) (.cons (DLe.of_eq (by rw [ew])) .nil)))) ?_
    refine Need.mk (needApp (n := ((rsF ks kerf w n).map Itm.v).length + 1) (by rw [hrl']; omega) (by decide)) ?_
    refine Adj.back (x := n) (n + 1) (by omega) (by omega) (.cons (.bldN (by rw [er, List.map_append, List.length_append]; rfl) (fun q hq j hj => ?_)) (.cons (.bldN (by rw [er, List.map_append, List.length_append]; rfl) (fun q hq j hj => ?_)) .nil))
      (.cons .same (.cons .same (.cons .same (.cons .same (.cons (.hdl rfl rfl) (.cons (.hdl rfl rfl) (.cons (SlotLe.int (hS n (by omega))) .nil)))))))
    · rw [er, List.map_append]
      exact lG_snoc iL 0 _ ((kget ks n).h + kerf) 1 _ q j [i64 (IntKind.i64.wrap ((kget ks n).h + kerf))] (by rw [ekh]) rfl hq hj
    · rw [er, List.map_append]
      exact lG_snoc iL 0 _ (valOf ks kerf w (kget ks n).h) 1 _ q j _ rfl rfl hq hj
  have he : n = ks.length := by have := of_decide_eq_false hc; omega
  subst he
  have H := rs_its p ks.length (Nat.le_refl _)
  have hf := fill_det _ _ (capI (h + kerf)) 2050000000 (its_sz H) (by rw [List.length_map]; omega) (by omega) (by decide)
  rw [fill_eq H, rV_eq p] at hf
  refine Cut.mk (Adj.freeze 10 77 0 _ 1 3 _ rfl rfl (Adj.freeze 11 86 0 _ 1 3 _ rfl rfl (Adj.id ?_)))
  refine CallW.mk' (hf.le (.cons (DLe.refl _) (.cons (DLe.refl _) (.cons (DLe.of_eq (by rw [eh])) .nil)))) ?_
  exact Fin.rfl'
theorem lbest_det (z : Pz) (hl : z.ks.length ≤ maxLen) : Det Try.prog 3 [.agg (pzL z)] (tbool true) := by
  refine det_of_awp TTok mixed Try.func3 rfl rfl [] (Nat.le_of_ble_eq_true rfl) ?_
  refine CallW.mk' awake37_det ?_
  refine Split.f ?_
  refine CallW.bool (small_det z) (fun b1 hb1' => ?_)
  refine Split.mk (fun c1 => ?_) (fun c1 => ?_)
  · exact Fin.rfl'
  have hsm := small_iff.1 (by rw [← hb1']; simpa using c1 : smallB z = true)
  clear hb1' c1
  refine CallW.kds (kinds_det z.ks (by omega)) ?_
  have r2 := rbest_det z.ks z.w z.h z.kerf (by omega)
  have hrb : rbestR z.ks z.w z.h z.kerf = ((bestR z.ks z.w z.h z.kerf).1, (bestR z.ks z.w z.h z.kerf).2.2) := by
    unfold rbestR bestR
    split
    · rfl
    · split <;> rfl
  rw [hrb] at r2
  have hBl := bestR_len (ks := z.ks) (w := z.w) (h := z.h) (kerf := z.kerf)
  have hbad : ¬ (bestR z.ks z.w z.h z.kerf).2.2 = 0 → (bestR z.ks z.w z.h z.kerf).2.1 = [] := fun q => by
    unfold bestR at q ⊢
    split
    · rfl
    · rename_i hp
      rw [if_neg hp] at q
      split
      · rfl
      · rename_i hm
        rw [if_neg hm] at q
        exact absurd rfl q
  have hgood : (bestR z.ks z.w z.h z.kerf).2.2 = 0 → validB (bestR z.ks z.w z.h z.kerf).2.1 z.ks z.w z.h z.kerf = true ∧ valS (bestR z.ks z.w z.h z.kerf).2.1 z.ks (bestR z.ks z.w z.h z.kerf).2.1.length = (bestR z.ks z.w z.h z.kerf).1 ∧ stagesR (bestR z.ks z.w z.h z.kerf).2.1 ≤ 3 := fun q => by
    obtain ⟨p, hm, hv⟩ := bestR_ok q
    have e : (bestR z.ks z.w z.h z.kerf).2.1 = bestT z.ks z.w z.h z.kerf := by
      unfold bestR
      rw [if_neg (by rw [prob_iff.2 p]; simp), if_neg (by rw [hm]; simp)]
    rw [e, hv]
    exact bestT_valid p hsm.2.2.1 hm
  refine CallW.best (best_det z.ks z.w z.h z.kerf hl) (fun v hv => ?_)
  rw [← hv] at r2 hBl hbad hgood
  clear hv hrb
  obtain ⟨v1, B, e⟩ := v
  replace hBl : B.length ≤ 20000000 := hBl
  replace hbad : ¬ e = 0 → B = [] := hbad
  replace hgood : e = 0 → validB B z.ks z.w z.h z.kerf = true ∧ valS B z.ks B.length = v1 ∧ stagesR B ≤ 3 := hgood
  refine CallW.mk' r2 ?_
  have f1 : (e != e) = false := bne_self_eq_false _
  have f2 : (v1 != v1) = false := bne_self_eq_false _
  refine Split.isF f1 ?_
  repeat' first | refine Split.isF f2 ?_ | refine Split.isF f1 ?_ | refine Split.t ?_ | refine Split.f ?_ | fail
  show Split (e != 0) _
  refine Split.mk (fun c1 => ?_) (fun c1 => ?_)
  · have hB : B = [] := hbad (by simpa using c1)
    subst hB
    exact Fin.rfl'
  obtain ⟨g1, g2, g3⟩ := hgood (by simpa using c1)
  refine CallW.nds (theirs_det B (by omega)) ?_
  refine CallW.mk' ((rvalid_det B z.ks z.w z.h z.kerf (by omega) (by omega)).eq (by rw [g1])) ?_
  repeat' first | refine Split.t ?_ | refine Split.f ?_ | fail
  refine CallW.mk' ((rvalue_det B z.ks (by omega) (by omega)).eq (by rw [g2])) ?_
  have f3 : (v1 == v1) = true := by simp
  repeat' first | refine Split.isT f3 ?_ | refine Split.t ?_ | refine Split.f ?_ | fail
  refine CallW.int (rstages_det B (by omega)) (fun s hs => ?_)
  rw [← hs] at g3
  repeat' first | refine Split.isT f3 ?_ | refine Split.t ?_ | refine Split.f ?_ | fail
  refine Fin.bool ?_
  exact decide_eq_true g3
theorem lbest_all : ∀ dvs, TypL Try.prog Try.f3.params.toList dvs → Det Try.prog 3 dvs (tbool true) := by
  intro dvs h
  obtain ⟨v0, r0, rfl, h0, q0⟩ := TypL.inv_cons (t := 24) (ts := []) h
  obtain rfl := TypL.inv_nil q0
  obtain ⟨z, hz, _, _, _, hle⟩ := pzIn h0
  exact Det.le (.cons hle .nil) (lbest_det z hz)
end St
end Go.Vm
