/-
  Layer 47: Order of the program.
-/
import Derived.Test.YtamlpihmfedkkaaSeqJ
namespace Go.Vm
set_option maxRecDepth 20000
set_option linter.unusedVariables false
set_option linter.unusedSimpArgs false
open Go Go.RowKit Go.Proofs
namespace Sg

theorem iG_app (D : List Int) (n : Nat) (x : Int) (i j : Nat) (hn : D.length = n) (hi : i < n + 1) (hj : j < 1) : SLe (bif Nat.blt i n then iG D i j else [i64 x].getD ((i - n) * 1 + j) (.v Go.undef)) (iG (D ++ [x]) i j) := by
  subst hn
  refine SLe.bif (fun h => SLe.of_eq ?_) (fun h => ?_)
  · show i64 (D.getD i 0) = i64 ((D ++ [x]).getD i 0)
    have h' : i < D.length := by simpa using h
    simp [List.getD, List.getElem?_append_left h']
  · have e : i = D.length := by omega
    obtain rfl : j = 0 := by omega
    subst e
    rw [Nat.sub_self]
    refine SLe.of_eq ?_
    show i64 x = i64 ((D ++ [x]).getD D.length 0)
    simp [List.getD]
theorem headO_app {l : List Ct} {o : List Int} {x : Int} {v : V2} {n : Nat} (hn : o.length = n) : headO l (o ++ [x]) v (n + 1) = enO l x := by
  subst hn
  rw [headO, iGet_last]
theorem order_det (l : List Ct) (v : V2) (h : Int) (hl : l.length ≤ 10000) (hf : FewC l) : Det Try.prog 21 [.one (ctS l), vD v, .one (i64 h)] (ordV (ordT l h v).1 (ordT l h v).2) := by
  refine det_of_awp TTok mixed Try.func21 rfl rfl [18] (Nat.le_of_ble_eq_true rfl) ?_
  refine CallW.int (check_det l hl hf) (fun e he => ?_)
  refine Split.mk (fun h1 => ?_) (fun h1 => ?_)
  · have hne : chkI l ≠ 0 := by rw [← he]; simpa using h1
    rw [ordT, if_pos hne]
    exact Fin.tup (.cons (DLe.one (SLe.nil _ _)) (.cons (DLe.of_eq (by rw [he])) .nil))
  have h0 : chkI l = 0 := by rw [← he]; simpa using h1
  have hl2 := chk_len h0
  rw [ordT, if_neg (by simp [h0])]
  refine CallW.bool (vwithin_det v 8000) (fun b hb => ?_)
  rw [← hb]
  refine Split.mk (fun h2 => ?_) (fun h2 => ?_)
  · repeat' first | refine Split.t ?_ | refine Split.f ?_ | refine Split.isT h2 ?_ | fail
    have h2' : b = false := by simpa using h2
    subst h2'
    exact Fin.tup (.cons (DLe.one (SLe.nil _ _)) (.cons (DLe.refl _) .nil))
  have h2' : b = true := by simpa using h2
  repeat' first | refine Split.t ?_ | refine Split.f ?_ | refine Split.isF h2 ?_ | fail
  refine Split.mk (fun h3 => ?_) (fun h3 => ?_)
  · repeat' first | refine Split.t ?_ | refine Split.f ?_ | refine Split.isF h2 ?_ | refine Split.isT h3 ?_ | fail
    have h3' : h < 0 := of_decide_eq_true h3
    rw [if_pos (by rw [decide_eq_false (show ¬ 0 ≤ h by omega)]; simp)]
    exact Fin.tup (.cons (DLe.one (SLe.nil _ _)) (.cons (DLe.refl _) .nil))
  have h3' : 0 ≤ h := by have : ¬ h < 0 := of_decide_eq_false h3; omega
  repeat' first | refine Split.t ?_ | refine Split.f ?_ | refine Split.isF h2 ?_ | refine Split.isF h3 ?_ | fail
  refine Split.mk (fun h4 => ?_) (fun h4 => ?_)
  · have h4' : h > 8000 := of_decide_eq_true h4
    rw [if_pos (by rw [decide_eq_false (show ¬ h ≤ 8000 by omega)]; simp)]
    exact Fin.tup (.cons (DLe.one (SLe.nil _ _)) (.cons (DLe.refl _) .nil))
  have h4' : h ≤ 8000 := by have : ¬ h > 8000 := of_decide_eq_false h4; omega
  rw [if_neg (by rw [h2', decide_eq_true h3', decide_eq_true h4']; simp)]
  refine CallW.mk' (depends_det l hl2 hf) ?_
  refine Need.mk ⟨by omega, by omega, (show (1 : Int) * l.length ≤ 281474976710656 by omega), by omega⟩ ?_
  refine Loop.by (α := Nat) (fun k => [(0, .d (.one (ctS l))), (2, tint h), (9, .d (.one (illS (depL l)))), (10, .ptr 10 0), (11, .hdl 123 0), (12, .ptr 12 0)]) (fun k => [(10, .obj [.hdl 38 0]), (38, .bld 0 l.length 1 4 (dnG (ordO l h v k))), (123, .bld 0 k 1 3 (iG (ordO l h v k))), (12, .box (vL (headO l (ordO l h v k) v k)))]) (fun k => k ≤ l.length) (fun k => l.length - k)
    (Adj.nil 11 123 1 3 (iG (ordO l h v 0)) rfl rfl (Adj.at 0 (Nat.zero_le _) (.cons (.obj (.cons (.hdl (by intro q; cases q) rfl rfl) .nil)) (.cons (.bldN (by simp) (fun p hp j hj => ?_)) (.cons (.bld (fun _ h => absurd h (Nat.not_lt_zero _))) (.cons (.box (LLe.of_eq rfl)) .nil)))) (.cons .same (.cons .same (.cons .same (.cons (.ptr (by intro q; cases q)) (.cons (.hdl rfl rfl) (.cons (.box rfl rfl) .nil)))))))) (fun n hn => ?_)
  · obtain rfl : j = 0 := by have : j < 1 := hj; omega
    exact SLe.of_eq rfl
  have hol := ordO_len l h v n
  have ho : ∃ o, o = ordO l h v n := ⟨_, rfl⟩
  obtain ⟨o, ho⟩ := ho
  have hh : ∃ hd, hd = headO l o v n := ⟨_, rfl⟩
  obtain ⟨hd, hh⟩ := hh
  rw [← ho] at hol ⊢
  rw [← hh]
  refine Split.mk (fun h5 => ?_) (fun h5 => ?_)
  · have hlt : n < l.length := by have := of_decide_eq_true h5; omega
    refine Loop.by (α := Nat) (fun k => [(0, .d (.one (ctS l))), (2, tint h), (9, .d (.one (illS (depL l)))), (10, .ptr 10 0), (11, .hdl 123 0), (12, .ptr 12 0), (13, tint (bestO l h o hd k)), (14, tbool (coolO l h o k)), (45, .d (.one (ctS l))), (46, tint l.length), (47, tint k)]) (fun k => [(10, .obj [.hdl 38 0]), (38, .bld 0 l.length 1 4 (dnG o)), (123, .bld 0 n 1 3 (iG o)), (12, .box (vL hd))]) (fun k => k ≤ l.length) (fun k => l.length - k)
      (Adj.at 0 (Nat.zero_le _) (.cons (.obj (.cons (.hdl (by intro q; cases q) rfl rfl) .nil)) (.cons (.bld (fun _ _ _ _ => SLe.refl _)) (.cons (.bld (fun _ _ _ _ => SLe.refl _)) (.cons (.box (LLe.of_eq rfl)) .nil)))) (.cons .same (.cons .same (.cons .same (.cons (.ptr (by intro q; cases q)) (.cons (.hdl rfl rfl) (.cons (.box rfl rfl) (.cons .same (.cons .same (.cons .same (.cons .same (.cons .same .nil)))))))))))) (fun k hk => ?_)
    refine Split.mk (fun h6 => ?_) (fun h6 => ?_)
    · have hkl : k < l.length := by have := of_decide_eq_true h6; omega
      refine Need.mk (by omega) ?_
      refine Need.mk (by omega) ?_
      have hb1 : ∃ bs, bs = bestO l h o hd k := ⟨_, rfl⟩
      obtain ⟨bs, hbs⟩ := hb1
      have hb2 : ∃ cl, cl = coolO l h o k := ⟨_, rfl⟩
      obtain ⟨cl, hcl⟩ := hb2
      rw [← hbs, ← hcl]
      refine Split.mk (fun h7 => ?_) (fun h7 => ?_)
      · repeat' first | refine Split.isT h7 ?_ | refine Split.t ?_ | refine Split.f ?_ | fail
        have hr : readyB l o k = false := by
          have : (k : Int) ∈ o := of_decide_eq_true h7
          rw [readyB, decide_eq_true this]; rfl
        have hs := bestO_skip (h := h) (head := hd) hr
        refine Adj.back (x := k) (k + 1) (by omega) (by omega) (.cons (.obj (.cons (.hdl (by intro q; cases q) rfl rfl) .nil)) (.cons (.bld (fun _ _ _ _ => SLe.refl _)) (.cons (.bld (fun _ _ _ _ => SLe.refl _)) (.cons (.box (LLe.of_eq rfl)) .nil)))) (.cons .same (.cons .same (.cons .same (.cons (.ptr (by intro q; cases q)) (.cons (.hdl rfl rfl) (.cons (.box rfl rfl) (.cons (SlotLe.int ?_) (.cons (SlotLe.bool ?_) (.cons .same (.cons .same (.cons (SlotLe.int ?_) .nil)))))))))))
        · rw [hs.1, hbs]
        · rw [hs.2, hcl]
        · rw [hw _ (by omega) (by omega)]; omega
      have h7' : ¬ (k : Int) ∈ o := of_decide_eq_false h7
      repeat' first | refine Split.isF h7 ?_ | refine Split.t ?_ | refine Split.f ?_ | fail
      refine Need.mk ⟨by omega, by rw [show (depL l).length = l.length by simp [depL]]; omega⟩ ?_
      repeat' first | refine Split.isF h7 ?_ | refine Split.t ?_ | refine Split.f ?_ | fail
      refine ⟨⟨_, _, dep_lend l.length o 10 38 _ rfl rfl _, ?_⟩⟩
      have hdet := cfI_det (depK l k l.length) 72 (dnC l.length o) (fun x => !decide (x ∈ o)) (by have := depK_len l k l.length; omega) (fun q hq => by
        have := depK_lt l k l.length _ (iGet_mem hq)
        exact plam_det l.length o _ this.1 this.2)
      rw [dep_cf] at hdet
      refine CallW.le hdet (.cons (DLe.of_eq (congrArg DV.one (congrArg ilS (depL_at l hkl)))) (.cons (DLe.refl _) .nil)) ?_
      have hn : ∃ b, b = depIn l k o := ⟨_, rfl⟩
      obtain ⟨d, hbq⟩ := hn
      rw [← hbq]
      repeat' first | refine Split.isF h7 ?_ | refine Split.f ?_ | fail
      refine Split.mk (fun h8 => ?_) (fun h8 => ?_)
      · have hr : readyB l o k = false := by
          have : d = false := by simpa using h8
          rw [readyB, ← hbq, this, Bool.and_false]
        have hs := bestO_skip (h := h) (head := hd) hr
        refine Adj.back (x := k) (k + 1) (by omega) (by omega) (.cons (.obj (.cons (.hdl (by intro q; cases q) rfl rfl) .nil)) (.cons (.bld (fun _ _ _ _ => SLe.refl _)) (.cons (.bld (fun _ _ _ _ => SLe.refl _)) (.cons (.box (LLe.of_eq rfl)) .nil)))) (.cons .same (.cons .same (.cons .same (.cons (.ptr (by intro q; cases q)) (.cons (.hdl rfl rfl) (.cons (.box rfl rfl) (.cons (SlotLe.int ?_) (.cons (SlotLe.bool ?_) (.cons .same (.cons .same (.cons (SlotLe.int ?_) .nil)))))))))))
        · rw [hs.1, hbs]
        · rw [hs.2, hcl]
        · rw [hw _ (by omega) (by omega)]; omega
      have hr : readyB l o k = true := by
        have : d = true := by simpa using h8
        rw [readyB, ← hbq, this, decide_eq_false h7']; rfl
      refine Split.mk (fun h9 => ?pa) (fun h9 => ?pb)
      case' pa =>
        have hnw : nowB l h o k = true := by
          have : n = 0 := by
            have : ((n : Int) == 0) = true := h9
            have : (n : Int) = 0 := by simpa using this
            omega
          rw [nowB, decide_eq_true (show o.length = 0 by omega)]; rfl
        have hnw' : ∃ nw, nw = nowB l h o k := ⟨_, rfl⟩
        obtain ⟨nw, hw1⟩ := hnw'
        repeat' first | refine Split.isT h9 ?_ | refine Split.t ?_ | refine Split.f ?_ | fail
        refine Need.mk (by kernel_rfl) ?_
        refine Cut.mk (Adj.keep [(0, .d (.one (ctS l))), (2, tint h), (9, .d (.one (illS (depL l)))), (10, .ptr 10 0), (11, .hdl 123 0), (12, .ptr 12 0), (13, tint bs), (14, tbool cl), (45, .d (.one (ctS l))), (46, tint l.length), (47, tint k), (15, tint k), (16, .ptr 16 0), (17, tbool nw)] [(10, .obj [.hdl 38 0]), (38, .bld 0 l.length 1 4 (dnG o)), (123, .bld 0 n 1 3 (iG o)), (12, .box (vL hd)), (16, .box (ctL (ctGet l k)))] (.cons (.obj (.cons (.hdl (by intro q; cases q) rfl rfl) .nil)) (.cons (.bld (fun _ _ _ _ => SLe.refl _)) (.cons (.bld (fun _ _ _ _ => SLe.refl _)) (.cons (.box (LLe.of_eq rfl)) (.cons (.box (LLe.of_eq rfl)) .nil))))) (.cons .same (.cons .same (.cons .same (.cons (.ptr (by intro q; cases q)) (.cons (.hdl rfl rfl) (.cons (.box rfl rfl) (.cons .same (.cons .same (.cons .same (.cons .same (.cons .same (.cons .same (.cons (.box rfl rfl) (.cons (SlotLe.bool ?pc) .nil)))))))))))))) ?_)
        case pc => exact hnw.symm.trans hw1.symm
      case' pb =>
        have h9' : n ≠ 0 := by
          have h9'' : ((n : Int) == 0) = false := h9
          intro q; subst q; simp at h9''
        repeat' first | refine Split.isF h9 ?_ | refine Split.t ?_ | refine Split.f ?_ | fail
        have e1 : IntKind.i64.wrap ((n : Int) - 1) = ((n - 1 : Nat) : Int) := by rw [wid (by omega) (by omega)]; omega
        have e2 : iGet o (IntKind.i64.wrap ((n : Int) - 1)).toNat = iGet o (o.length - 1) := by rw [e1, hol]; rfl
        have hrg : 0 ≤ iGet o (o.length - 1) ∧ iGet o (o.length - 1) < l.length := by
          rw [hol, ho]
          exact ordO_range l h v hn (by omega)
        refine Need.mk (by rw [e1]; omega) ?_
        repeat' first | refine Split.isF h9 ?_ | refine Split.t ?_ | refine Split.f ?_ | fail
        refine Need.mk (by rw [e2]; exact hrg) ?_
        repeat' first | refine Split.isF h9 ?_ | refine Split.t ?_ | refine Split.f ?_ | fail
        refine CallW.bool (hot_det (ctGet l (iGet o (IntKind.i64.wrap ((n : Int) - 1)).toNat).toNat) (ctGet l k) h) (fun ht hht => ?_)
        rw [e2] at hht
        repeat' first | refine Split.isF h9 ?_ | refine Split.t ?_ | refine Split.f ?_ | fail
        refine Need.mk (by kernel_rfl) ?_
        have hnw' : ∃ nw, nw = nowB l h o k := ⟨_, rfl⟩
        obtain ⟨nw, hw1⟩ := hnw'
        refine Cut.mk (Adj.keep [(0, .d (.one (ctS l))), (2, tint h), (9, .d (.one (illS (depL l)))), (10, .ptr 10 0), (11, .hdl 123 0), (12, .ptr 12 0), (13, tint bs), (14, tbool cl), (45, .d (.one (ctS l))), (46, tint l.length), (47, tint k), (15, tint k), (16, .ptr 16 0), (17, tbool nw)] [(10, .obj [.hdl 38 0]), (38, .bld 0 l.length 1 4 (dnG o)), (123, .bld 0 n 1 3 (iG o)), (12, .box (vL hd)), (16, .box (ctL (ctGet l k)))] (.cons (.obj (.cons (.hdl (by intro q; cases q) rfl rfl) .nil)) (.cons (.bld (fun _ _ _ _ => SLe.refl _)) (.cons (.bld (fun _ _ _ _ => SLe.refl _)) (.cons (.box (LLe.of_eq rfl)) (.cons (.box (LLe.of_eq rfl)) .nil))))) (.cons .same (.cons .same (.cons .same (.cons (.ptr (by intro q; cases q)) (.cons (.hdl rfl rfl) (.cons (.box rfl rfl) (.cons .same (.cons .same (.cons .same (.cons .same (.cons .same (.cons .same (.cons (.box rfl rfl) (.cons (SlotLe.bool ?pd) .nil)))))))))))))) ?_)
        case pd =>
          rw [hw1, nowB, decide_eq_false (show ¬ o.length = 0 by omega), hht]; rfl
      all_goals
        have hneg : bs < 0 ↔ readyK l o k = [] := by rw [hbs]; exact bestO_neg
        have hcr : cl = true → ¬ bs < 0 := fun q w => coolO_ready (by rw [← hcl, q]) (hneg.1 w)
        clear hdet
        cases nw with
        | true =>
          cases cl with
          | true =>
            refine Split.mk (fun ha => ?_) (fun ha => ?_)
            · repeat' first | refine Split.isT ha ?_ | refine Split.t ?_ | refine Split.f ?_ | fail
              have hnb : ¬ bs < 0 := by have : bs ≥ 0 := of_decide_eq_true ha; omega
              have hrb : 0 ≤ bs ∧ bs < k := by rw [hbs]; exact bestO_range (by rw [← hbs]; exact hnb)
              refine Split.isF (decide_eq_false hnb) ?_
              repeat' first | refine Split.t ?_ | refine Split.f ?_ | fail
              refine CallW.int (dist_det (ctGet l k).st hd) (fun d1 hd1 => ?_)
              refine Need.mk ⟨by omega, by omega⟩ ?_
              refine CallW.int (dist_det (stO l bs) hd) (fun d2 hd2 => ?_)
              refine Need.mk (by kernel_rfl) ?_
              have hs := bestO_near (l := l) (h := h) (o := o) (head := hd) (k := k) hr (by rw [← hbs]; exact hnb) (by rw [← hw1, ← hcl])
              rw [← hbs] at hs
              refine Split.mk (fun hx => ?_) (fun hx => ?_)
              · have hlt2 : disO l hd k < disO l hd bs := by
                  show distV (ctGet l (k : Int).toNat).st hd < distV (stO l bs) hd
                  rw [← hd2, show distV (ctGet l (k : Int).toNat).st hd = d1 from hd1.symm]; exact of_decide_eq_true hx
                refine Adj.back (x := k) (k + 1) (by omega) (by omega) (.cons (.obj (.cons (.hdl (by intro q; cases q) rfl rfl) .nil)) (.cons (.bld (fun _ _ _ _ => SLe.refl _)) (.cons (.bld (fun _ _ _ _ => SLe.refl _)) (.cons (.box (LLe.of_eq rfl)) .nil)))) (.cons .same (.cons .same (.cons .same (.cons (.ptr (by intro q; cases q)) (.cons (.hdl rfl rfl) (.cons (.box rfl rfl) (.cons (SlotLe.int ?_) (.cons (SlotLe.bool ?_) (.cons .same (.cons .same (.cons (SlotLe.int ?_) .nil)))))))))))
                · rw [hs.1, if_pos hlt2]
                · rw [hs.2, ← hw1]
                · rw [hw _ (by omega) (by omega)]; omega
              · have hlt2 : ¬ disO l hd k < disO l hd bs := by
                  show ¬ distV (ctGet l (k : Int).toNat).st hd < distV (stO l bs) hd
                  rw [← hd2, show distV (ctGet l (k : Int).toNat).st hd = d1 from hd1.symm]; exact of_decide_eq_false hx
                refine Adj.back (x := k) (k + 1) (by omega) (by omega) (.cons (.obj (.cons (.hdl (by intro q; cases q) rfl rfl) .nil)) (.cons (.bld (fun _ _ _ _ => SLe.refl _)) (.cons (.bld (fun _ _ _ _ => SLe.refl _)) (.cons (.box (LLe.of_eq rfl)) .nil)))) (.cons .same (.cons .same (.cons .same (.cons (.ptr (by intro q; cases q)) (.cons (.hdl rfl rfl) (.cons (.box rfl rfl) (.cons (SlotLe.int ?_) (.cons (SlotLe.bool ?_) (.cons .same (.cons .same (.cons (SlotLe.int ?_) .nil)))))))))))
                · rw [hs.1, if_neg hlt2]
                · rw [hs.2, ← hw1]
                · rw [hw _ (by omega) (by omega)]; omega
            · exact absurd (by have : ¬ bs ≥ 0 := of_decide_eq_false ha; omega) (hcr rfl)
          | false =>
            refine Split.mk (fun ha => ?_) (fun ha => ?_)
            · repeat' first | refine Split.isT ha ?_ | refine Split.t ?_ | refine Split.f ?_ | fail
              have hnb : ¬ bs < 0 := by have : bs ≥ 0 := of_decide_eq_true ha; omega
              refine Split.isF (decide_eq_false hnb) ?_
              repeat' first | refine Split.t ?_ | refine Split.f ?_ | fail
              have hs := bestO_take (l := l) (h := h) (o := o) (head := hd) (k := k) hr (.inr ⟨hw1.symm, hcl.symm⟩)
              refine Adj.back (x := k) (k + 1) (by omega) (by omega) (.cons (.obj (.cons (.hdl (by intro q; cases q) rfl rfl) .nil)) (.cons (.bld (fun _ _ _ _ => SLe.refl _)) (.cons (.bld (fun _ _ _ _ => SLe.refl _)) (.cons (.box (LLe.of_eq rfl)) .nil)))) (.cons .same (.cons .same (.cons .same (.cons (.ptr (by intro q; cases q)) (.cons (.hdl rfl rfl) (.cons (.box rfl rfl) (.cons (SlotLe.int ?_) (.cons (SlotLe.bool ?_) (.cons .same (.cons .same (.cons (SlotLe.int ?_) .nil)))))))))))
              · rw [hs.1]
              · rw [hs.2, ← hw1]
              · rw [hw _ (by omega) (by omega)]; omega
            · repeat' first | refine Split.isF ha ?_ | refine Split.t ?_ | refine Split.f ?_ | fail
              have hnb : bs < 0 := by have : ¬ bs ≥ 0 := of_decide_eq_false ha; omega
              refine Split.isT (decide_eq_true hnb) ?_
              refine Split.isT (decide_eq_true hnb) ?_
              have hs := bestO_take (l := l) (h := h) (o := o) (head := hd) (k := k) hr (.inl (by rw [← hbs]; exact hnb))
              refine Adj.back (x := k) (k + 1) (by omega) (by omega) (.cons (.obj (.cons (.hdl (by intro q; cases q) rfl rfl) .nil)) (.cons (.bld (fun _ _ _ _ => SLe.refl _)) (.cons (.bld (fun _ _ _ _ => SLe.refl _)) (.cons (.box (LLe.of_eq rfl)) .nil)))) (.cons .same (.cons .same (.cons .same (.cons (.ptr (by intro q; cases q)) (.cons (.hdl rfl rfl) (.cons (.box rfl rfl) (.cons (SlotLe.int ?_) (.cons (SlotLe.bool ?_) (.cons .same (.cons .same (.cons (SlotLe.int ?_) .nil)))))))))))
              · rw [hs.1]
              · rw [hs.2, ← hw1]
              · rw [hw _ (by omega) (by omega)]; omega
        | false =>
          cases cl with
          | true =>
            refine Split.mk (fun ha => ?_) (fun ha => ?_)
            · repeat' first | refine Split.isT ha ?_ | refine Split.t ?_ | refine Split.f ?_ | fail
              have hs := bestO_pass (l := l) (h := h) (o := o) (head := hd) (k := k) hr hcl.symm hw1.symm
              refine Adj.back (x := k) (k + 1) (by omega) (by omega) (.cons (.obj (.cons (.hdl (by intro q; cases q) rfl rfl) .nil)) (.cons (.bld (fun _ _ _ _ => SLe.refl _)) (.cons (.bld (fun _ _ _ _ => SLe.refl _)) (.cons (.box (LLe.of_eq rfl)) .nil)))) (.cons .same (.cons .same (.cons .same (.cons (.ptr (by intro q; cases q)) (.cons (.hdl rfl rfl) (.cons (.box rfl rfl) (.cons (SlotLe.int ?_) (.cons (SlotLe.bool ?_) (.cons .same (.cons .same (.cons (SlotLe.int ?_) .nil)))))))))))
              · rw [hs.1, hbs]
              · rw [hs.2, hcl]
              · rw [hw _ (by omega) (by omega)]; omega
            · exact absurd (by have : ¬ bs ≥ 0 := of_decide_eq_false ha; omega) (hcr rfl)
          | false =>
            refine Split.mk (fun ha => ?_) (fun ha => ?_)
            · repeat' first | refine Split.isT ha ?_ | refine Split.t ?_ | refine Split.f ?_ | fail
              have hnb : ¬ bs < 0 := by have : bs ≥ 0 := of_decide_eq_true ha; omega
              have hrb : 0 ≤ bs ∧ bs < k := by rw [hbs]; exact bestO_range (by rw [← hbs]; exact hnb)
              refine Split.isF (decide_eq_false hnb) ?_
              repeat' first | refine Split.t ?_ | refine Split.f ?_ | fail
              refine CallW.int (dist_det (ctGet l k).st hd) (fun d1 hd1 => ?_)
              refine Need.mk ⟨by omega, by omega⟩ ?_
              refine CallW.int (dist_det (stO l bs) hd) (fun d2 hd2 => ?_)
              refine Need.mk (by kernel_rfl) ?_
              have hs := bestO_near (l := l) (h := h) (o := o) (head := hd) (k := k) hr (by rw [← hbs]; exact hnb) (by rw [← hw1, ← hcl])
              rw [← hbs] at hs
              refine Split.mk (fun hx => ?_) (fun hx => ?_)
              · have hlt2 : disO l hd k < disO l hd bs := by
                  show distV (ctGet l (k : Int).toNat).st hd < distV (stO l bs) hd
                  rw [← hd2, show distV (ctGet l (k : Int).toNat).st hd = d1 from hd1.symm]; exact of_decide_eq_true hx
                refine Adj.back (x := k) (k + 1) (by omega) (by omega) (.cons (.obj (.cons (.hdl (by intro q; cases q) rfl rfl) .nil)) (.cons (.bld (fun _ _ _ _ => SLe.refl _)) (.cons (.bld (fun _ _ _ _ => SLe.refl _)) (.cons (.box (LLe.of_eq rfl)) .nil)))) (.cons .same (.cons .same (.cons .same (.cons (.ptr (by intro q; cases q)) (.cons (.hdl rfl rfl) (.cons (.box rfl rfl) (.cons (SlotLe.int ?_) (.cons (SlotLe.bool ?_) (.cons .same (.cons .same (.cons (SlotLe.int ?_) .nil)))))))))))
                · rw [hs.1, if_pos hlt2]
                · rw [hs.2, ← hw1]
                · rw [hw _ (by omega) (by omega)]; omega
              · have hlt2 : ¬ disO l hd k < disO l hd bs := by
                  show ¬ distV (ctGet l (k : Int).toNat).st hd < distV (stO l bs) hd
                  rw [← hd2, show distV (ctGet l (k : Int).toNat).st hd = d1 from hd1.symm]; exact of_decide_eq_false hx
                refine Adj.back (x := k) (k + 1) (by omega) (by omega) (.cons (.obj (.cons (.hdl (by intro q; cases q) rfl rfl) .nil)) (.cons (.bld (fun _ _ _ _ => SLe.refl _)) (.cons (.bld (fun _ _ _ _ => SLe.refl _)) (.cons (.box (LLe.of_eq rfl)) .nil)))) (.cons .same (.cons .same (.cons .same (.cons (.ptr (by intro q; cases q)) (.cons (.hdl rfl rfl) (.cons (.box rfl rfl) (.cons (SlotLe.int ?_) (.cons (SlotLe.bool ?_) (.cons .same (.cons .same (.cons (SlotLe.int ?_) .nil)))))))))))
                · rw [hs.1, if_neg hlt2]
                · rw [hs.2, ← hw1]
                · rw [hw _ (by omega) (by omega)]; omega
            · repeat' first | refine Split.isF ha ?_ | refine Split.t ?_ | refine Split.f ?_ | fail
              have hnb : bs < 0 := by have : ¬ bs ≥ 0 := of_decide_eq_false ha; omega
              refine Split.isT (decide_eq_true hnb) ?_
              refine Split.isT (decide_eq_true hnb) ?_
              have hs := bestO_take (l := l) (h := h) (o := o) (head := hd) (k := k) hr (.inl (by rw [← hbs]; exact hnb))
              refine Adj.back (x := k) (k + 1) (by omega) (by omega) (.cons (.obj (.cons (.hdl (by intro q; cases q) rfl rfl) .nil)) (.cons (.bld (fun _ _ _ _ => SLe.refl _)) (.cons (.bld (fun _ _ _ _ => SLe.refl _)) (.cons (.box (LLe.of_eq rfl)) .nil)))) (.cons .same (.cons .same (.cons .same (.cons (.ptr (by intro q; cases q)) (.cons (.hdl rfl rfl) (.cons (.box rfl rfl) (.cons (SlotLe.int ?_) (.cons (SlotLe.bool ?_) (.cons .same (.cons .same (.cons (SlotLe.int ?_) .nil)))))))))))
              · rw [hs.1]
              · rw [hs.2, ← hw1]
              · rw [hw _ (by omega) (by omega)]; omega
    · have he : k = l.length := by have := of_decide_eq_false h6; omega
      subst he
      have hch := bestO_all l h o hd (by omega)
      have hcr := cho_range l h o hd (by omega)
      rw [hch]
      have hxx : ∃ x, x = choO l h o hd := ⟨_, rfl⟩
      obtain ⟨x, hx⟩ := hxx
      rw [← hx] at hcr ⊢
      obtain ⟨x0, x1, x2⟩ := hcr
      refine Split.isF (decide_eq_false (show ¬ x < 0 by omega)) ?_
      refine Need.mk ⟨x0, x1⟩ ?_
      refine Need.mk (needApp (by omega) (by decide)) ?_
      refine Need.mk ⟨x0, x1⟩ ?_
      refine Need.mk ⟨x0, x1⟩ ?_
      refine Need.mk (ok_at h0 x0 x1) ?_
      refine Need.mk (by kernel_rfl) ?_
      have eo : ordO l h v (n + 1) = o ++ [x] := by rw [ordO, ← ho, ← hh, ← hx]
      refine Adj.back (x := n) (n + 1) (by omega) (by omega) (.cons (.obj (.cons (.hdl (by intro q; cases q) rfl rfl) .nil)) (.cons (.bldN rfl (fun p hp j hj => ?_)) (.cons (.bldN rfl (fun p hp j hj => ?_)) (.cons (.box ?_) .nil)))) (.cons .same (.cons .same (.cons .same (.cons (.ptr (by intro q; cases q)) (.cons (.hdl rfl rfl) (.cons (.box rfl rfl) .nil))))))
      · obtain rfl : j = 0 := by have : j < 1 := hj; omega
        rw [eo]
        exact dnG_put (beq_idx x0)
      · obtain rfl : j = 0 := by have : j < 1 := hj; omega
        rw [eo]
        exact iG_app o n x p 0 hol hp hj
      · rw [eo, headO_app hol]
        exact LLe.of_eq rfl
  · have he : n = l.length := by have := of_decide_eq_false h5; omega
    subst he
    subst ho
    exact Fin.tup (.cons (DLe.one (SLe.slN hol.symm (fun _ _ _ _ => SLe.refl _))) (.cons (DLe.refl _) .nil))
end Sg
end Go.Vm
