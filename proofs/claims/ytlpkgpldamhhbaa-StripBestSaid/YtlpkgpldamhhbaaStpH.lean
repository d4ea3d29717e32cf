/-
  Layer 37: the contract of Best.
-/
import Derived.Test.YtlpkgpldamhhbaaStpG
namespace Go.Vm
set_option maxRecDepth 20000
set_option linter.unusedVariables false
set_option linter.unusedSimpArgs false
open Go Go.RowKit Go.Proofs
namespace St

theorem CallW.lst {P : Program} {f : FuncId} {args : List DV} {K : TV → Prop} {a : List Int} (h : Det P f args (.d (.one (iS a)))) (kk : ∀ x, x = a → K (.d (.one (iS x)))) : CallW P f args K := ⟨_, h, kk a rfl⟩
abbrev bI (l : List Int) : Mem := .bld 0 l.length 1 3 (lG iL 0 l)
abbrev bT (l : List Itm) : Mem := .bld 0 l.length 2 88 (lG itL it0 l)
abbrev bC (l : List (List Int)) : Mem := .bld 0 l.length 1 60 (lG ccL [] l)
theorem take_snoc {α : Type} (l : List α) (d : α) (j : Nat) (hj : j < l.length) : l.take (j + 1) = l.take j ++ [l.getD j d] := by
  rw [List.take_succ_eq_append_getElem hj]
  simp [List.getD, hj]
theorem getD_map {α β : Type} (f : α → β) (l : List α) (d : α) (d' : β) (i : Nat) (hi : i < l.length) : (l.map f).getD i d' = f (l.getD i d) := by simp [List.getD, hi]
theorem best_det (ks : List Knd) (w h kerf : Int) (hl : ks.length ≤ maxLen) : Det Try.prog 17 [.one (kS ks), .one (i64 w), .one (i64 h), .one (i64 kerf)] (bestE (bestR ks w h kerf)) := by
  refine det_of_awp TTok mixed Try.func17 rfl rfl [21, 28, 30, 39, 50 + 2000000] (Nat.le_of_ble_eq_true rfl) ?_
  refine CallW.bool (problem_det ks w h kerf hl) (fun b hb => ?_)
  refine Split.mk (fun h1 => ?_) (fun h1 => ?_)
  · have : probB ks w h kerf = false := by rw [← hb]; simpa using h1
    rw [bestR, if_pos this]
    exact Fin.tup (.cons (DLe.refl _) (.cons (DLe.one (SLe.nil _ _)) (.cons (DLe.refl _) .nil)))
  have hp : probB ks w h kerf = true := by rw [← hb]; simpa using h1
  have p := prob_iff.1 hp
  have hlen := p.len
  refine CallW.bool (many_det ks w h kerf p) (fun b2 hb2 => ?_)
  refine Split.mk (fun h2 => ?_) (fun h2 => ?_)
  · rw [bestR, if_neg (by rw [hp]; simp), if_pos (by rw [← hb2, h2])]
    exact Fin.tup (.cons (DLe.refl _) (.cons (DLe.one (SLe.nil _ _)) (.cons (DLe.refl _) .nil)))
  have hR : bestR ks w h kerf = (bestV ks w h kerf, bestT ks w h kerf, 0) := by rw [bestR, if_neg (by rw [hp]; simp), if_neg (by rw [← hb2, h2]; simp)]
  rw [hR]
  obtain ⟨cw1, cw2⟩ := p.capw
  obtain ⟨ch1, ch2⟩ := p.caph
  have k0 := p.k0; have k1 := p.k1; have w0 := p.w0; have w1 := p.w1; have h0 := p.h0; have hh1 := p.h1
  have ew : IntKind.i64.wrap (w + kerf) = ((capI (w + kerf) : Nat) : Int) := by rw [hw _ (by omega) (by omega), cw1]
  have eh : IntKind.i64.wrap (h + kerf) = ((capI (h + kerf) : Nat) : Int) := by rw [hw _ (by omega) (by omega), ch1]
  refine Loop.by (α := Nat) (fun n => [(0, .d (.one (kS ks))), (1, tint w), (2, tint h), (3, tint kerf), (11, .hdl 126 0), (12, .hdl 131 0), (13, .hdl 135 0), (43, .d (.one (kS ks))), (44, tint ks.length), (45, tint n)])
    (fun n => [(126, bT ((stpF ks kerf w h n).map (itmS kerf))), (131, bI ((stpF ks kerf w h n).map Stp.h)), (135, bC ((stpF ks kerf w h n).map Stp.c))]) (fun n => n ≤ ks.length) (fun n => ks.length - n)
    (Adj.nil 11 126 2 88 (lG itL it0 []) rfl rfl (Adj.nil 12 131 1 3 (lG iL 0 []) rfl rfl (Adj.nil 13 135 1 60 (lG ccL [] []) rfl rfl
      (Adj.at 0 (Nat.zero_le _) (.cons (.bld (fun _ h => absurd h (Nat.not_lt_zero _))) (.cons (.bld (fun _ h => absurd h (Nat.not_lt_zero _))) (.cons (.bld (fun _ h => absurd h (Nat.not_lt_zero _))) .nil)))
        (.cons .same (.cons .same (.cons .same (.cons .same (.cons (.hdl rfl rfl) (.cons (.hdl rfl rfl) (.cons (.hdl rfl rfl) (.cons .same (.cons .same (.cons .same .nil)))))))))))))) (fun n hn => ?_)
  refine Split.mk (fun hc => ?_) (fun hc => ?_)
  · have hlt : n < ks.length := by have := of_decide_eq_true hc; omega
    have hsl := stp_len ks kerf w h n
    have hS1 : stpF ks kerf w h (n + 1) = if (kget ks n).h > h ∨ (kget ks n).h ∈ (stpF ks kerf w h n).map Stp.h then stpF ks kerf w h n else stpF ks kerf w h n ++ [⟨(kget ks n).h, valOf ks kerf w (kget ks n).h, colsOf ks kerf w (kget ks n).h⟩] := rfl
    refine Need.mk (by omega) ?_
    show Split (decide ((kget ks n).h > h)) _
    refine Split.mk (fun c1 => ?_) (fun c1 => ?_)
    · repeat' first | refine Split.isT c1 ?_ | refine Split.t ?_ | refine Split.f ?_ | fail
      have e := hS1.trans (if_pos (.inl (of_decide_eq_true c1)))
      refine Adj.back (x := n) (n + 1) (by omega) (by omega) (.cons (.bldN (by rw [e]) (fun _ _ _ _ => SLe.of_eq (by rw [e]))) (.cons (.bldN (by rw [e]) (fun _ _ _ _ => SLe.of_eq (by rw [e]))) (.cons (.bldN (by rw [e]) (fun _ _ _ _ => SLe.of_eq (by rw [e]))) .nil)))
        (.cons .same (.cons .same (.cons .same (.cons .same (.cons (.hdl rfl rfl) (.cons (.hdl rfl rfl) (.cons (.hdl rfl rfl) (.cons .same (.cons .same (.cons (SlotLe.int (hS n (by omega))) .nil))))))))))
    have c1' : ¬ (kget ks n).h > h := of_decide_eq_false c1
    repeat' first | refine Split.isF c1 ?_ | refine Split.t ?_ | refine Split.f ?_ | fail
    refine CallW.bool (containsI_det ((stpF ks kerf w h n).map Stp.h) (kget ks n).h (by rw [List.length_map]; omega)) (fun b3 hb3 => ?_)
    repeat' first | refine Split.isF c1 ?_ | refine Split.t ?_ | refine Split.f ?_ | fail
    refine Split.mk (fun c2 => ?_) (fun c2 => ?_)
    · have e := hS1.trans (if_pos (.inr (of_decide_eq_true (by rw [← hb3, c2]))))
      refine Adj.back (x := n) (n + 1) (by omega) (by omega) (.cons (.bldN (by rw [e]) (fun _ _ _ _ => SLe.of_eq (by rw [e]))) (.cons (.bldN (by rw [e]) (fun _ _ _ _ => SLe.of_eq (by rw [e]))) (.cons (.bldN (by rw [e]) (fun _ _ _ _ => SLe.of_eq (by rw [e]))) .nil)))
        (.cons .same (.cons .same (.cons .same (.cons .same (.cons (.hdl rfl rfl) (.cons (.hdl rfl rfl) (.cons (.hdl rfl rfl) (.cons .same (.cons .same (.cons (SlotLe.int (hS n (by omega))) .nil))))))))))
    have c2' : ¬ (kget ks n).h ∈ (stpF ks kerf w h n).map Stp.h := of_decide_eq_false (by rw [← hb3, c2])
    have e := hS1.trans (if_neg (fun q => q.elim c1' c2'))
    clear hS1
    generalize hSn : stpF ks kerf w h n = Sn at *
    have hslm : ∀ {β : Type} (f : Stp → β), (Sn.map f).length ≤ n := fun f => by rw [List.length_map]; exact hsl
    refine Loop.by (α := Nat) (fun i => [(0, .d (.one (kS ks))), (1, tint w), (2, tint h), (3, tint kerf), (11, .hdl 126 0), (12, .hdl 131 0), (13, .hdl 135 0), (43, .d (.one (kS ks))), (44, tint ks.length), (45, tint n), (15, .ptr 15 0), (16, .hdl 80 0), (17, .hdl 84 0), (59, .d (.one (kS ks))), (60, tint ks.length), (61, tint i)])
      (fun i => [(126, bT (Sn.map (itmS kerf))), (131, bI (Sn.map Stp.h)), (135, bC (Sn.map Stp.c)), (15, .box (kL (kget ks n))), (80, bT (selF ks kerf (kget ks n).h i)), (84, bI (numF ks (kget ks n).h i))]) (fun i => i ≤ ks.length) (fun i => ks.length - i)
      (Adj.nil 16 80 2 88 (lG itL it0 []) rfl rfl (Adj.nil 17 84 1 3 (lG iL 0 []) rfl rfl
        (Adj.at 0 (Nat.zero_le _) (.cons (.bld (fun _ _ _ _ => SLe.refl _)) (.cons (.bld (fun _ _ _ _ => SLe.refl _)) (.cons (.bld (fun _ _ _ _ => SLe.refl _)) (.cons (.box (LLe.refl _)) (.cons (.bld (fun _ h => absurd h (Nat.not_lt_zero _))) (.cons (.bld (fun _ h => absurd h (Nat.not_lt_zero _))) .nil))))))
          (.cons .same (.cons .same (.cons .same (.cons .same (.cons (.hdl rfl rfl) (.cons (.hdl rfl rfl) (.cons (.hdl rfl rfl) (.cons .same (.cons .same (.cons .same (.cons (.box rfl rfl) (.cons (.hdl rfl rfl) (.cons (.hdl rfl rfl) (.cons .same (.cons .same (.cons .same .nil))))))))))))))))))) (fun i hi => ?_)
    have hnl := num_len ks (kget ks n).h i
    have hsn := sel_num ks kerf (kget ks n).h i
    refine Split.mk (fun hc => ?_) (fun hc => ?_)
    · have hil : i < ks.length := by have := of_decide_eq_true hc; omega
      have kw := (p.at' hil).w0
      have kw1 := (p.at' hil).w1
      have es : selF ks kerf (kget ks n).h (i + 1) = if (kget ks i).h ≤ (kget ks n).h then selF ks kerf (kget ks n).h i ++ [⟨(kget ks i).w + kerf, (kget ks i).v⟩] else selF ks kerf (kget ks n).h i := rfl
      have en : numF ks (kget ks n).h (i + 1) = if (kget ks i).h ≤ (kget ks n).h then numF ks (kget ks n).h i ++ [(i : Int)] else numF ks (kget ks n).h i := rfl
      refine Need.mk (by omega) ?_
      show Split (decide ((kget ks i).h ≤ (kget ks n).h)) _
      refine Split.mk (fun c3 => ?_) (fun c3 => ?_)
      · have es' := es.trans (if_pos (of_decide_eq_true c3))
        have en' := en.trans (if_pos (of_decide_eq_true c3))
        refine Need.mk (needApp (n := (selF ks kerf (kget ks n).h i).length + 1) (by omega) (by decide)) ?_
        refine Need.mk (needApp (n := (numF ks (kget ks n).h i).length + 1) (by omega) (by decide)) ?_
        have ekw : IntKind.i64.wrap ((kget ks i).w + kerf) = (kget ks i).w + kerf := hw _ (by omega) (by omega)
        refine Adj.back (x := i) (i + 1) (by omega) (by omega) (.cons (.bld (fun _ _ _ _ => SLe.refl _)) (.cons (.bld (fun _ _ _ _ => SLe.refl _)) (.cons (.bld (fun _ _ _ _ => SLe.refl _)) (.cons (.box (LLe.refl _)) (.cons (.bldN (by rw [es', List.length_append]; rfl) (fun q hq j hj => ?_)) (.cons (.bldN (by rw [en', List.length_append]; rfl) (fun q hq j hj => ?_)) .nil))))))
          (.cons .same (.cons .same (.cons .same (.cons .same (.cons (.hdl rfl rfl) (.cons (.hdl rfl rfl) (.cons (.hdl rfl rfl) (.cons .same (.cons .same (.cons .same (.cons (.box rfl rfl) (.cons (.hdl rfl rfl) (.cons (.hdl rfl rfl) (.cons .same (.cons .same (.cons (SlotLe.int (hS i (by omega))) .nil))))))))))))))))
        · rw [es']
          exact lG_snoc itL it0 _ ⟨(kget ks i).w + kerf, (kget ks i).v⟩ 2 _ q j [i64 (IntKind.i64.wrap ((kget ks i).w + kerf)), i64 (kget ks i).v] (by rw [ekw]) rfl hq hj
        · rw [en']
          exact lG_snoc iL 0 _ (i : Int) 1 _ q j _ rfl rfl hq hj
      · have es' := es.trans (if_neg (of_decide_eq_false c3))
        have en' := en.trans (if_neg (of_decide_eq_false c3))
        refine Adj.back (x := i) (i + 1) (by omega) (by omega) (.cons (.bld (fun _ _ _ _ => SLe.refl _)) (.cons (.bld (fun _ _ _ _ => SLe.refl _)) (.cons (.bld (fun _ _ _ _ => SLe.refl _)) (.cons (.box (LLe.refl _)) (.cons (.bldN (by rw [es']) (fun q hq j hj => SLe.of_eq (by rw [es']))) (.cons (.bldN (by rw [en']) (fun q hq j hj => SLe.of_eq (by rw [en']))) .nil))))))
          (.cons .same (.cons .same (.cons .same (.cons .same (.cons (.hdl rfl rfl) (.cons (.hdl rfl rfl) (.cons (.hdl rfl rfl) (.cons .same (.cons .same (.cons .same (.cons (.box rfl rfl) (.cons (.hdl rfl rfl) (.cons (.hdl rfl rfl) (.cons .same (.cons .same (.cons (SlotLe.int (hS i (by omega))) .nil))))))))))))))))
    have he : i = ks.length := by have := of_decide_eq_false hc; omega
    subst he
    have its := sel_its (hh := (kget ks n).h) p.kok (Nat.le_refl _)
    have hkn := knap_det _ (capI (w + kerf)) 1000000 its (by omega) (by omega) (by decide)
    have htk := taken_det _ (capI (w + kerf)) 1000000 its (by omega) (by omega)
    have tlen := tk_len its (capI (w + kerf))
    have hval : valOf ks kerf w (kget ks n).h = (kV (selF ks kerf (kget ks n).h ks.length) (capI (w + kerf) + 1)).getD (capI (w + kerf)) 0 := rfl
    have hcols : colsOf ks kerf w (kget ks n).h = (tkL (selF ks kerf (kget ks n).h ks.length) (capI (w + kerf))).map fun i => iget (numF ks (kget ks n).h ks.length) i.toNat := rfl
    have hVl := kV_len (selF ks kerf (kget ks n).h ks.length) (capI (w + kerf) + 1)
    refine Cut.mk (Adj.freeze 16 80 0 _ 2 88 _ rfl rfl (Adj.id ?_))
    refine CallW.twoS (hkn.le (.cons (DLe.refl _) (.cons (DLe.of_eq (by rw [ew])) .nil))) (fun V T hV hT => ?_)
    rw [← hT] at htk
    rw [← hV] at hval hVl
    refine CallW.lst (htk.le (.cons (DLe.refl _) (.cons (DLe.refl _) (.cons (DLe.of_eq (by rw [ew])) .nil)))) (fun tk hk => ?_)
    rw [← hk] at hcols tlen
    obtain ⟨tl1, tl2⟩ := tlen
    clear hkn htk its hk hT hV
    generalize numF ks (kget ks n).h ks.length = nm at *
    generalize selF ks kerf (kget ks n).h ks.length = its at *
    refine Loop.by (α := Nat) (fun j => [(0, .d (.one (kS ks))), (1, tint w), (2, tint h), (3, tint kerf), (11, .hdl 126 0), (12, .hdl 131 0), (13, .hdl 135 0), (43, .d (.one (kS ks))), (44, tint ks.length), (45, tint n), (15, .ptr 15 0), (17, .hdl 84 0), (20, .d (.one (iS V))), (99, .d (.one (iS tk))), (100, tint tk.length), (101, tint j), (22, .hdl 111 0)])
      (fun j => [(126, bT (Sn.map (itmS kerf))), (131, bI (Sn.map Stp.h)), (135, bC (Sn.map Stp.c)), (15, .box (kL (kget ks n))), (84, bI nm), (111, bI ((tk.take j).map fun i => iget nm i.toNat))]) (fun j => j ≤ tk.length) (fun j => tk.length - j)
      (Adj.nil 22 111 1 3 (lG iL 0 []) rfl rfl
        (Adj.at 0 (Nat.zero_le _) (.cons (.bld (fun _ _ _ _ => SLe.refl _)) (.cons (.bld (fun _ _ _ _ => SLe.refl _)) (.cons (.bld (fun _ _ _ _ => SLe.refl _)) (.cons (.box (LLe.refl _)) (.cons (.bld (fun _ _ _ _ => SLe.refl _)) (.cons (.bld (fun _ h => absurd h (Nat.not_lt_zero _))) .nil))))))
          (.cons .same (.cons .same (.cons .same (.cons .same (.cons (.hdl rfl rfl) (.cons (.hdl rfl rfl) (.cons (.hdl rfl rfl) (.cons .same (.cons .same (.cons .same (.cons (.box rfl rfl) (.cons (.hdl rfl rfl) (.cons .same (.cons .same (.cons .same (.cons .same (.cons (.hdl rfl rfl) .nil))))))))))))))))))) (fun j hj => ?_)
    refine Split.mk (fun hc => ?_) (fun hc => ?_)
    · have hjl : j < tk.length := by have := of_decide_eq_true hc; omega
      have hmem : iget tk j ∈ tk := by
        unfold iget
        rw [List.getD, List.getElem?_eq_getElem hjl]
        exact List.getElem_mem hjl
      obtain ⟨m0, m1⟩ := tl2 _ hmem
      have et : (tk.take (j + 1)).map (fun i => iget nm i.toNat) = (tk.take j).map (fun i => iget nm i.toNat) ++ [iget nm (iget tk j).toNat] := by
        rw [take_snoc tk 0 j hjl, List.map_append]; rfl
      have hlj : ((tk.take j).map (fun i => iget nm i.toNat)).length = j := by rw [List.length_map, List.length_take]; omega
      refine Need.mk (by omega) ?_
      refine Need.mk (by show 0 ≤ iget tk j ∧ iget tk j < (nm.length : Int); omega) ?_
      refine Need.mk (needApp (n := ((tk.take j).map (fun i => iget nm i.toNat)).length + 1) (by omega) (by decide)) ?_
      refine Adj.back (x := j) (j + 1) (by omega) (by omega) (.cons (.bld (fun _ _ _ _ => SLe.refl _)) (.cons (.bld (fun _ _ _ _ => SLe.refl _)) (.cons (.bld (fun _ _ _ _ => SLe.refl _)) (.cons (.box (LLe.refl _)) (.cons (.bld (fun _ _ _ _ => SLe.refl _)) (.cons (.bldN (by rw [et, List.length_append]; rfl) (fun q hq r hr => ?_)) .nil))))))
          (.cons .same (.cons .same (.cons .same (.cons .same (.cons (.hdl rfl rfl) (.cons (.hdl rfl rfl) (.cons (.hdl rfl rfl) (.cons .same (.cons .same (.cons .same (.cons (.box rfl rfl) (.cons (.hdl rfl rfl) (.cons .same (.cons .same (.cons .same (.cons (SlotLe.int (hS j (by omega))) (.cons (.hdl rfl rfl) .nil)))))))))))))))))
      rw [et]
      exact lG_snoc iL 0 _ (iget nm (iget tk j).toNat) 1 _ q r _ rfl rfl hq hr
    have he : j = tk.length := by have := of_decide_eq_false hc; omega
    subst he
    have etk : ((tk.take tk.length).map fun i => iget nm i.toNat) = colsOf ks kerf w (kget ks n).h := by rw [List.take_length, hcols]
    rw [etk]
    refine Cut.mk (Adj.freeze 22 111 0 _ 1 3 _ rfl rfl (Adj.id ?_))
    have := hslm (itmS kerf)
    have := hslm Stp.h
    have := hslm Stp.c
    refine Need.mk (by rw [ew, hVl]; omega) ?_
    refine Need.mk (needApp (n := (Sn.map (itmS kerf)).length + 1) (by omega) (by decide)) ?_
    refine Need.mk (needApp (n := (Sn.map Stp.h).length + 1) (by omega) (by decide)) ?_
    refine Need.mk (needApp (n := (Sn.map Stp.c).length + 1) (by omega) (by decide)) ?_
    refine Need.mk (by kernel_rfl) ?_
    have kh0 := (p.at' hlt).h0
    have kh1 := (p.at' hlt).h1
    have ekh : IntKind.i64.wrap ((kget ks n).h + kerf) = (kget ks n).h + kerf := hw _ (by omega) (by omega)
    refine Adj.back (x := n) (n + 1) (by omega) (by omega) (.cons (.bldN (by rw [e, List.map_append, List.length_append]; rfl) (fun q hq r hr => ?_)) (.cons (.bldN (by rw [e, List.map_append, List.length_append]; rfl) (fun q hq r hr => ?_)) (.cons (.bldN (by rw [e, List.map_append, List.length_append]; rfl) (fun q hq r hr => ?_)) .nil)))
        (.cons .same (.cons .same (.cons .same (.cons .same (.cons (.hdl rfl rfl) (.cons (.hdl rfl rfl) (.cons (.hdl rfl rfl) (.cons .same (.cons .same (.cons (SlotLe.int (hS n (by omega))) .nil))))))))))
    · rw [e, List.map_append]
      exact lG_snoc itL it0 _ ⟨(kget ks n).h + kerf, valOf ks kerf w (kget ks n).h⟩ 2 _ q r [i64 (IntKind.i64.wrap ((kget ks n).h + kerf)), i64 (iget V (IntKind.i64.wrap (w + kerf)).toNat)] (by rw [ekh, ew, Int.toNat_natCast, hval]) rfl hq hr
    · rw [e, List.map_append]
      exact lG_snoc iL 0 _ (kget ks n).h 1 _ q r _ rfl rfl hq hr
    · rw [e, List.map_append]
      exact lG_snoc ccL [] _ (colsOf ks kerf w (kget ks n).h) 1 _ q r _ rfl rfl hq hr
  have he : n = ks.length := by have := of_decide_eq_false hc; omega
  subst he
  have hsl := stp_len ks kerf w h ks.length
  have its := sts_its p ks.length (Nat.le_refl _)
  have hil : ((stpF ks kerf w h ks.length).map (itmS kerf)).length ≤ ks.length := by rw [List.length_map]; exact hsl
  have hkn := knap_det _ (capI (h + kerf)) 2050000000 its (by omega) (by omega) (by decide)
  have htk := taken_det _ (capI (h + kerf)) 2050000000 its (by omega) (by omega)
  have tlen := tk_len its (capI (h + kerf))
  have hval : bestV ks w h kerf = (kV ((stpF ks kerf w h ks.length).map (itmS kerf)) (capI (h + kerf) + 1)).getD (capI (h + kerf)) 0 := rfl
  have hps : psF ks kerf w h = (tkL ((stpF ks kerf w h ks.length).map (itmS kerf)) (capI (h + kerf))).map fun i => (((stpF ks kerf w h ks.length).getD i.toNat st0).h, ((stpF ks kerf w h ks.length).getD i.toNat st0).c) := rfl
  have hVl := kV_len ((stpF ks kerf w h ks.length).map (itmS kerf)) (capI (h + kerf) + 1)
  refine Cut.mk (Adj.freeze 11 126 0 _ 2 88 _ rfl rfl (Adj.id ?_))
  refine CallW.twoS (hkn.le (.cons (DLe.refl _) (.cons (DLe.of_eq (by rw [eh])) .nil))) (fun V T hV hT => ?_)
  rw [← hT] at htk
  rw [← hV] at hval hVl
  refine CallW.lst (htk.le (.cons (DLe.refl _) (.cons (DLe.refl _) (.cons (DLe.of_eq (by rw [eh])) .nil)))) (fun tk hk => ?_)
  rw [← hk] at hps tlen
  obtain ⟨tl1, tl2⟩ := tlen
  rw [List.length_map] at tl2
  clear hkn htk its hk hT hV
  have hpc := ps_cols p
  have hpl := (ps_ok p).1
  have hbl := bestT_len p
  have hbT : bestT ks w h kerf = sheetT ks kerf (psF ks kerf w h) w h 0 := rfl
  generalize stpF ks kerf w h ks.length = Sn at *
  generalize hpsn : psF ks kerf w h = ps at *
  have hpt : ∀ j, j < tk.length → hsP (ps.take (j + 1)) = hsP (ps.take j) ++ [(Sn.getD (iget tk j).toNat st0).h] ∧ csP (ps.take (j + 1)) = csP (ps.take j) ++ [(Sn.getD (iget tk j).toNat st0).c] := fun j hj => by
    have hjp : j < ps.length := by rw [hps, List.length_map]; exact hj
    have eg : ps.getD j (0, []) = ((Sn.getD (iget tk j).toNat st0).h, (Sn.getD (iget tk j).toNat st0).c) := by
      rw [hps, getD_map (fun i : Int => ((Sn.getD i.toNat st0).h, (Sn.getD i.toNat st0).c)) tk 0 (0, []) j hj]
    rw [take_snoc ps (0, []) j hjp, eg]
    simp [hsP, csP]
  have hpsl : ps.length = tk.length := by rw [hps, List.length_map]
  refine Loop.by (α := Nat) (fun j => [(1, tint w), (2, tint h), (3, tint kerf), (12, .hdl 131 0), (13, .hdl 135 0), (25, .d (.one (iS V))), (27, .ptr 148 0), (28, .hdl 166 0), (29, .hdl 173 0), (154, .d (.one (iS tk))), (155, tint tk.length), (156, tint j)])
    (fun j => [(131, bI (Sn.map Stp.h)), (135, bC (Sn.map Stp.c)), (148, .box [.v (.slice none 0 0), kS ks, i64 kerf]), (166, bI (hsP (ps.take j))), (173, bC (csP (ps.take j)))]) (fun j => j ≤ tk.length) (fun j => tk.length - j)
    (Adj.nil 28 166 1 3 (lG iL 0 []) rfl rfl (Adj.nil 29 173 1 60 (lG ccL [] []) rfl rfl
      (Adj.at 0 (Nat.zero_le _) (.cons (.bld (fun _ _ _ _ => SLe.refl _)) (.cons (.bld (fun _ _ _ _ => SLe.refl _)) (.cons (.box (LLe.of_eq rfl)) (.cons (.bld (fun _ h => absurd h (Nat.not_lt_zero _))) (.cons (.bld (fun _ h => absurd h (Nat.not_lt_zero _))) .nil)))))
        (.cons .same (.cons .same (.cons .same (.cons (.hdl rfl rfl) (.cons (.hdl rfl rfl) (.cons .same (.cons (.box rfl rfl) (.cons (.hdl rfl rfl) (.cons (.hdl rfl rfl) (.cons .same (.cons .same (.cons .same .nil)))))))))))))))  (fun j hj => ?_)
  refine Split.mk (fun hc => ?_) (fun hc => ?_)
  · have hjl : j < tk.length := by have := of_decide_eq_true hc; omega
    have hmem : iget tk j ∈ tk := by
      unfold iget
      rw [List.getD, List.getElem?_eq_getElem hjl]
      exact List.getElem_mem hjl
    obtain ⟨m0, m1⟩ := tl2 _ hmem
    obtain ⟨e1, e2⟩ := hpt j hjl
    have l1 : (hsP (ps.take j)).length = j := by rw [List.length_map, List.length_take]; omega
    have l2 : (csP (ps.take j)).length = j := by rw [List.length_map, List.length_take]; omega
    have g1 : iget (Sn.map Stp.h) (iget tk j).toNat = (Sn.getD (iget tk j).toNat st0).h := getD_map Stp.h Sn st0 0 _ (by omega)
    have g2 : (Sn.map Stp.c).getD (iget tk j).toNat [] = (Sn.getD (iget tk j).toNat st0).c := getD_map Stp.c Sn st0 [] _ (by omega)
    refine Need.mk (by omega) ?_
    refine Need.mk (by show 0 ≤ iget tk j ∧ iget tk j < ((Sn.map Stp.h).length : Int); rw [List.length_map]; omega) ?_
    refine Need.mk (needApp (n := (hsP (ps.take j)).length + 1) (by omega) (by decide)) ?_
    refine Need.mk (by show 0 ≤ iget tk j ∧ iget tk j < ((Sn.map Stp.c).length : Int); rw [List.length_map]; omega) ?_
    refine Need.mk (needApp (n := (csP (ps.take j)).length + 1) (by omega) (by decide)) ?_
    refine Need.mk (by kernel_rfl) ?_
    refine Adj.back (x := j) (j + 1) (by omega) (by omega) (.cons (.bld (fun _ _ _ _ => SLe.refl _)) (.cons (.bld (fun _ _ _ _ => SLe.refl _)) (.cons (.box (LLe.of_eq rfl)) (.cons (.bldN (by rw [e1, List.length_append]; rfl) (fun q hq r hr => ?_)) (.cons (.bldN (by rw [e2, List.length_append]; rfl) (fun q hq r hr => ?_)) .nil)))))
        (.cons .same (.cons .same (.cons .same (.cons (.hdl rfl rfl) (.cons (.hdl rfl rfl) (.cons .same (.cons (.box rfl rfl) (.cons (.hdl rfl rfl) (.cons (.hdl rfl rfl) (.cons .same (.cons .same (.cons (SlotLe.int (hS j (by omega))) .nil))))))))))))
    · rw [e1]
      exact lG_snoc iL 0 _ (Sn.getD (iget tk j).toNat st0).h 1 _ q r [i64 (iget (Sn.map Stp.h) (iget tk j).toNat)] (by rw [g1]) rfl hq hr
    · rw [e2]
      exact lG_snoc ccL [] _ (Sn.getD (iget tk j).toNat st0).c 1 _ q r [iS ((Sn.map Stp.c).getD (iget tk j).toNat [])] (by rw [g2]) rfl hq hr
  have he : j = tk.length := by have := of_decide_eq_false hc; omega
  subst he
  rw [List.take_of_length_le (by omega)]
  refine Cut.mk (Adj.freeze 28 166 0 _ 1 3 _ rfl rfl (Adj.freeze 29 173 0 _ 1 60 _ rfl rfl (Adj.nilCell 148 0 500 5 98 (lG ndL nd0 []) _ _ rfl rfl rfl rfl (Adj.id ?_))))
  refine CallM.mk' [148, 500] (sheet_detM ks kerf p.kok w (by omega) ps h hpc (by omega) (by omega) [] (by rw [List.length_nil, ← hbT]; omega)) ⟨.cons (.obj (.cons (.hdl rfl rfl) (.cons (.s (SLe.refl _)) (.cons (.s (SLe.refl _)) .nil)))) (.cons (.bld (fun _ h => absurd h (Nat.not_lt_zero _))) .nil), .cons (.ptr rfl) (.cons (.d (DLe.refl _)) (.cons (.d (DLe.refl _)) (.cons (.d (DLe.refl _)) (.cons (.d (DLe.refl _)) .nil)))), rfl, rfl, fun h => absurd rfl h⟩ ?_
  refine Need.mk (by rw [eh, hVl]; omega) ?_
  refine Need.mk (by kernel_rfl) ?_
  refine Fin.tup (.cons (DLe.of_eq (by rw [eh, Int.toNat_natCast, hval])) (.cons (DLe.one (SLe.of_eq ?_)) (.cons (DLe.refl _) .nil)))
  rw [hbT]
  rfl
end St
end Go.Vm
