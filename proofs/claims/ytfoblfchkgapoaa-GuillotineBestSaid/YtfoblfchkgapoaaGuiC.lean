/-
  Layer 38: contracts of cut (printed by gen_guic.py).
-/
import Derived.Test.YtfoblfchkgapoaaGuiB
namespace Go.Vm
set_option maxRecDepth 20000
set_option linter.unusedVariables false
set_option linter.unusedSimpArgs false
open Go Go.RowKit Go.Proofs
namespace St

theorem SLe.ite {b : Bool} {x y y' z : SV} (h : SLe (bif b then x else y') z) (hy : SLe y y') : SLe (bif b then x else y) z := by
  cases b
  · exact SLe.trans hy h
  · exact h
variable (ks : List Knd) (kerf : Int) (rows : List (List Pn))

theorem gcutMakeV_detM (w h : Int) (p : Pn) (v : Bool) (at' : Int) (A B : Nat → List Nd)
    (H1 : ∀ L : List Nd, L.length + (A L.length).length ≤ 100000000 → DetM Try.prog 89 [.ptr (.n 2002) 0, .ptr (.n 2005) 0, .ptr (.n 2004) 0] (mkS ks kerf rows 1 L ++ [.obj [.ptr (.n 2000) 0], .box [i64 w], .box [i64 h], .box (pnL p)]) (.tup []) (mkS ks kerf rows 3 (L ++ A L.length) ++ [.obj [.ptr (.n 2000) 0], .box [i64 w], .box [i64 h], .box (pnL p)]) .none)
    (H2 : ∀ L : List Nd, L.length + (B L.length).length ≤ 100000000 → DetM Try.prog 90 [.ptr (.n 2002) 0, .ptr (.n 2003) 0, .ptr (.n 2005) 0, .ptr (.n 2004) 0] (mkS ks kerf rows 1 L ++ [.obj [.ptr (.n 2000) 0], .box [i64 w], .box [i64 h], .box (pnL p)]) (.tup []) (mkS ks kerf rows 3 (L ++ B L.length) ++ [.obj [.ptr (.n 2000) 0], .box [i64 w], .box [i64 h], .box (pnL p)]) .none)
    (L : List Nd) (hL : L.length + (cutT v at' A B L.length).length ≤ 100000000) :
    DetM Try.prog 88 [.ptr (.n 2000) 0, tbool v, tint at', .clo 89 [.ptr (.n 2002) 0, .ptr (.n 2005) 0, .ptr (.n 2004) 0], .clo 90 [.ptr (.n 2002) 0, .ptr (.n 2003) 0, .ptr (.n 2005) 0, .ptr (.n 2004) 0]] (mkS ks kerf rows 1 L ++ [.obj [.ptr (.n 2000) 0], .box [i64 w], .box [i64 h], .box (pnL p)]) (.tup []) (mkS ks kerf rows 3 (L ++ cutT v at' A B L.length) ++ [.obj [.ptr (.n 2000) 0], .box [i64 w], .box [i64 h], .box (pnL p)]) .none := by
  refine detM_of_awp TTok mixed Try.func88 rfl rfl [14 + 3000000, 20 + 3000000, 27 + 4000000, 31 + 3000000, 36 + 3000000, 45 + 3000000, 50 + 3000000, 5, 89 + 2000000, 90 + 2000000] (Nat.le_of_ble_eq_true rfl) (Nat.le_of_ble_eq_true rfl) (sigM_of rfl) ?_
  have hcl : (cutT v at' A B L.length).length = 1 + ((A (L.length + 1)).length + (B (L.length + 1 + (A (L.length + 1)).length)).length) := by rw [cutT, List.length_cons, List.length_append]; omega
  refine ⟨⟨_, slL_t _ _ _ _, rfl, rfl, ?_⟩⟩
  refine ⟨⟨_, slL_t _ _ _ _, rfl, rfl, ?_⟩⟩
  refine Need.mk (needApp (n := L.length + 1) (by omega) (by decide)) ?_
  refine ⟨⟨_, slL_set _ _ _ _ _, by rw [slL_len]; exact Nat.le_of_ble_eq_true rfl, ?_⟩⟩
  refine ⟨⟨_, slL_t _ _ _ _, rfl, rfl, ?_⟩⟩
  refine ⟨⟨_, slL_t _ _ _ _, rfl, rfl, ?_⟩⟩
  refine Need.mk (by omega) ?_
  refine Need.mk (by kernel_rfl) ?_
  have e1 : (L ++ [⟨v, at', 0, 0, -1⟩] : List Nd).length = L.length + 1 := by simp
  have H1' := H1 (L ++ [⟨v, at', (L.length + 1 : Nat), 0, -1⟩]) (by simp only [List.length_append, List.length_singleton]; omega)
  simp only [List.length_append, List.length_singleton, List.append_assoc, List.singleton_append] at H1'
  refine CallM.mk' [2000, 2001, 2002, 2003, 2004, 2005] H1' ⟨.cons (.obj (slL_fit _ _ _ (.hdl rfl rfl))) (.cons (mfitN' (by simp only [List.length_append, List.length_singleton]) (fun i hi j hj => ?_)) (.cons (.obj (.cons (.ptr rfl) .nil)) (.cons (.box (LLe.refl _)) (.cons (.box (LLe.refl _)) (.cons (.box (LLe.refl _)) .nil))))), .cons (.ptr rfl) (.cons (.ptr rfl) (.cons (.ptr rfl) .nil)), rfl, rfl, fun h => absurd rfl h⟩ ?_
  · have hle := lG_cell ndL nd0 (L ++ [⟨v, at', 0, 0, -1⟩]) ⟨v, at', (L.length + 1 : Nat), 0, -1⟩ L.length i j 2 5 (i64 ((L.length + 1 : Nat) : Int)) (by rw [e1]; exact hi) hj rfl (fun j hj hne => by
      rw [get_mid]
      match j, hj, hne with
      | 0, _, _ => rfl
      | 1, _, _ => rfl
      | 3, _, _ => rfl
      | 4, _, _ => rfl)
    rw [set_mid] at hle
    exact SLe.ite hle (lG_snoc ndL nd0 L ⟨v, at', 0, 0, -1⟩ 5 L.length i j _ rfl rfl hi hj)
  generalize hA : A (L.length + 1) = a at *
  have e2 : (L ++ ⟨v, at', (L.length + 1 : Nat), 0, -1⟩ :: a : List Nd).length = L.length + 1 + a.length := by simp only [List.length_append, List.length_cons]; omega
  refine Cut.mk (Adj.keep [(0, .ptr 2000 0), (4, .clo 90 [.ptr 2002 0, .ptr 2003 0, .ptr 2005 0, .ptr 2004 0]), (10, tint L.length)] [(2000, .obj (slL ks kerf rows (.hdl 2001 0))), (2001, .bld 0 (L.length + 1 + a.length) 5 96 (lG ndL nd0 (L ++ ⟨v, at', (L.length + 1 : Nat), 0, -1⟩ :: a))), (2002, .obj [.ptr 2000 0]), (2003, .box [i64 w]), (2004, .box [i64 h]), (2005, .box (pnL p))]
    (.cons (.obj (slL_le ks kerf rows (.hdl (by intro q; cases q) rfl rfl))) (.cons (.bldN e2 (fun _ _ _ _ => SLe.refl _)) (.cons (.obj (.cons (.ptr (by intro q; cases q)) .nil)) (.cons (.box (LLe.refl _)) (.cons (.box (LLe.refl _)) (.cons (.box (LLe.refl _)) .nil)))))) (.cons (.ptr (by intro q; cases q)) (.cons (.clo (.cons (.ptr (by intro q; cases q)) (.cons (.ptr (by intro q; cases q)) (.cons (.ptr (by intro q; cases q)) (.cons (.ptr (by intro q; cases q)) .nil))))) (.cons .same .nil))) ?_)
  refine ⟨⟨_, slL_t _ _ _ _, rfl, rfl, ?_⟩⟩
  refine ⟨⟨_, slL_t _ _ _ _, rfl, rfl, ?_⟩⟩
  refine Need.mk (by omega) ?_
  refine Need.mk (by kernel_rfl) ?_
  have H2' := H2 (L ++ ⟨v, at', (L.length + 1 : Nat), (L.length + 1 + a.length : Nat), -1⟩ :: a) (by rw [show (L ++ ⟨v, at', (L.length + 1 : Nat), (L.length + 1 + a.length : Nat), -1⟩ :: a : List Nd).length = L.length + 1 + a.length by simp only [List.length_append, List.length_cons]; omega]; omega)
  rw [show (L ++ ⟨v, at', (L.length + 1 : Nat), (L.length + 1 + a.length : Nat), -1⟩ :: a : List Nd).length = L.length + 1 + a.length by simp only [List.length_append, List.length_cons]; omega] at H2'
  refine CallM.mk' [2000, 2001, 2002, 2003, 2004, 2005] H2' ⟨.cons (.obj (slL_fit _ _ _ (.hdl rfl rfl))) (.cons (mfitN' (by simp only [List.length_append, List.length_cons]; omega) (fun i hi j hj => ?_)) (.cons (.obj (.cons (.ptr rfl) .nil)) (.cons (.box (LLe.refl _)) (.cons (.box (LLe.refl _)) (.cons (.box (LLe.refl _)) .nil))))), .cons (.ptr rfl) (.cons (.ptr rfl) (.cons (.ptr rfl) (.cons (.ptr rfl) .nil))), rfl, rfl, fun h => absurd rfl h⟩ ?_
  · have hle := lG_cell ndL nd0 (L ++ ⟨v, at', (L.length + 1 : Nat), 0, -1⟩ :: a) ⟨v, at', (L.length + 1 : Nat), (L.length + 1 + a.length : Nat), -1⟩ L.length i j 3 5 (i64 ((L.length + 1 + a.length : Nat) : Int)) (by rw [e2]; exact hi) hj rfl (fun j hj hne => by
      rw [get_mid]
      match j, hj, hne with
      | 0, _, _ => rfl
      | 1, _, _ => rfl
      | 2, _, _ => rfl
      | 4, _, _ => rfl)
    rw [set_mid] at hle
    exact hle
  have eC : L ++ ⟨v, at', (L.length + 1 : Nat), (L.length + 1 + a.length : Nat), -1⟩ :: a ++ B (L.length + 1 + a.length) = L ++ cutT v at' A B L.length := by rw [cutT, hA, List.append_assoc]; rfl
  rw [eC]
  exact EndM.mk ⟨.n 0, .none, .cons (.obj (slL_end ks kerf rows (.hdl rfl rfl rfl))) (.cons (.bldN rfl (fun h => absurd h (by decide)) (fun i hi j hj => SLe.refl _)) (.cons (.obj (.cons (.ptr rfl) .nil)) (.cons (.box (LLe.refl _)) (.cons (.box (LLe.refl _)) (.cons (.box (LLe.refl _)) (.nil _)))))), .inl rfl⟩

theorem gcutMakeH_detM (w h : Int) (p : Pn) (v : Bool) (at' : Int) (A B : Nat → List Nd)
    (H1 : ∀ L : List Nd, L.length + (A L.length).length ≤ 100000000 → DetM Try.prog 91 [.ptr (.n 2002) 0, .ptr (.n 2003) 0, .ptr (.n 2005) 0] (mkS ks kerf rows 1 L ++ [.obj [.ptr (.n 2000) 0], .box [i64 w], .box [i64 h], .box (pnL p)]) (.tup []) (mkS ks kerf rows 3 (L ++ A L.length) ++ [.obj [.ptr (.n 2000) 0], .box [i64 w], .box [i64 h], .box (pnL p)]) .none)
    (H2 : ∀ L : List Nd, L.length + (B L.length).length ≤ 100000000 → DetM Try.prog 92 [.ptr (.n 2002) 0, .ptr (.n 2003) 0, .ptr (.n 2004) 0, .ptr (.n 2005) 0] (mkS ks kerf rows 1 L ++ [.obj [.ptr (.n 2000) 0], .box [i64 w], .box [i64 h], .box (pnL p)]) (.tup []) (mkS ks kerf rows 3 (L ++ B L.length) ++ [.obj [.ptr (.n 2000) 0], .box [i64 w], .box [i64 h], .box (pnL p)]) .none)
    (L : List Nd) (hL : L.length + (cutT v at' A B L.length).length ≤ 100000000) :
    DetM Try.prog 88 [.ptr (.n 2000) 0, tbool v, tint at', .clo 91 [.ptr (.n 2002) 0, .ptr (.n 2003) 0, .ptr (.n 2005) 0], .clo 92 [.ptr (.n 2002) 0, .ptr (.n 2003) 0, .ptr (.n 2004) 0, .ptr (.n 2005) 0]] (mkS ks kerf rows 1 L ++ [.obj [.ptr (.n 2000) 0], .box [i64 w], .box [i64 h], .box (pnL p)]) (.tup []) (mkS ks kerf rows 3 (L ++ cutT v at' A B L.length) ++ [.obj [.ptr (.n 2000) 0], .box [i64 w], .box [i64 h], .box (pnL p)]) .none := by
  refine detM_of_awp TTok mixed Try.func88 rfl rfl [14 + 3000000, 20 + 3000000, 27 + 4000000, 31 + 3000000, 36 + 3000000, 45 + 3000000, 50 + 3000000, 5, 91 + 2000000, 92 + 2000000] (Nat.le_of_ble_eq_true rfl) (Nat.le_of_ble_eq_true rfl) (sigM_of rfl) ?_
  have hcl : (cutT v at' A B L.length).length = 1 + ((A (L.length + 1)).length + (B (L.length + 1 + (A (L.length + 1)).length)).length) := by rw [cutT, List.length_cons, List.length_append]; omega
  refine ⟨⟨_, slL_t _ _ _ _, rfl, rfl, ?_⟩⟩
  refine ⟨⟨_, slL_t _ _ _ _, rfl, rfl, ?_⟩⟩
  refine Need.mk (needApp (n := L.length + 1) (by omega) (by decide)) ?_
  refine ⟨⟨_, slL_set _ _ _ _ _, by rw [slL_len]; exact Nat.le_of_ble_eq_true rfl, ?_⟩⟩
  refine ⟨⟨_, slL_t _ _ _ _, rfl, rfl, ?_⟩⟩
  refine ⟨⟨_, slL_t _ _ _ _, rfl, rfl, ?_⟩⟩
  refine Need.mk (by omega) ?_
  refine Need.mk (by kernel_rfl) ?_
  have e1 : (L ++ [⟨v, at', 0, 0, -1⟩] : List Nd).length = L.length + 1 := by simp
  have H1' := H1 (L ++ [⟨v, at', (L.length + 1 : Nat), 0, -1⟩]) (by simp only [List.length_append, List.length_singleton]; omega)
  simp only [List.length_append, List.length_singleton, List.append_assoc, List.singleton_append] at H1'
  refine CallM.mk' [2000, 2001, 2002, 2003, 2004, 2005] H1' ⟨.cons (.obj (slL_fit _ _ _ (.hdl rfl rfl))) (.cons (mfitN' (by simp only [List.length_append, List.length_singleton]) (fun i hi j hj => ?_)) (.cons (.obj (.cons (.ptr rfl) .nil)) (.cons (.box (LLe.refl _)) (.cons (.box (LLe.refl _)) (.cons (.box (LLe.refl _)) .nil))))), .cons (.ptr rfl) (.cons (.ptr rfl) (.cons (.ptr rfl) .nil)), rfl, rfl, fun h => absurd rfl h⟩ ?_
  · have hle := lG_cell ndL nd0 (L ++ [⟨v, at', 0, 0, -1⟩]) ⟨v, at', (L.length + 1 : Nat), 0, -1⟩ L.length i j 2 5 (i64 ((L.length + 1 : Nat) : Int)) (by rw [e1]; exact hi) hj rfl (fun j hj hne => by
      rw [get_mid]
      match j, hj, hne with
      | 0, _, _ => rfl
      | 1, _, _ => rfl
      | 3, _, _ => rfl
      | 4, _, _ => rfl)
    rw [set_mid] at hle
    exact SLe.ite hle (lG_snoc ndL nd0 L ⟨v, at', 0, 0, -1⟩ 5 L.length i j _ rfl rfl hi hj)
  generalize hA : A (L.length + 1) = a at *
  have e2 : (L ++ ⟨v, at', (L.length + 1 : Nat), 0, -1⟩ :: a : List Nd).length = L.length + 1 + a.length := by simp only [List.length_append, List.length_cons]; omega
  refine Cut.mk (Adj.keep [(0, .ptr 2000 0), (4, .clo 92 [.ptr 2002 0, .ptr 2003 0, .ptr 2004 0, .ptr 2005 0]), (10, tint L.length)] [(2000, .obj (slL ks kerf rows (.hdl 2001 0))), (2001, .bld 0 (L.length + 1 + a.length) 5 96 (lG ndL nd0 (L ++ ⟨v, at', (L.length + 1 : Nat), 0, -1⟩ :: a))), (2002, .obj [.ptr 2000 0]), (2003, .box [i64 w]), (2004, .box [i64 h]), (2005, .box (pnL p))]
    (.cons (.obj (slL_le ks kerf rows (.hdl (by intro q; cases q) rfl rfl))) (.cons (.bldN e2 (fun _ _ _ _ => SLe.refl _)) (.cons (.obj (.cons (.ptr (by intro q; cases q)) .nil)) (.cons (.box (LLe.refl _)) (.cons (.box (LLe.refl _)) (.cons (.box (LLe.refl _)) .nil)))))) (.cons (.ptr (by intro q; cases q)) (.cons (.clo (.cons (.ptr (by intro q; cases q)) (.cons (.ptr (by intro q; cases q)) (.cons (.ptr (by intro q; cases q)) (.cons (.ptr (by intro q; cases q)) .nil))))) (.cons .same .nil))) ?_)
  refine ⟨⟨_, slL_t _ _ _ _, rfl, rfl, ?_⟩⟩
  refine ⟨⟨_, slL_t _ _ _ _, rfl, rfl, ?_⟩⟩
  refine Need.mk (by omega) ?_
  refine Need.mk (by kernel_rfl) ?_
  have H2' := H2 (L ++ ⟨v, at', (L.length + 1 : Nat), (L.length + 1 + a.length : Nat), -1⟩ :: a) (by rw [show (L ++ ⟨v, at', (L.length + 1 : Nat), (L.length + 1 + a.length : Nat), -1⟩ :: a : List Nd).length = L.length + 1 + a.length by simp only [List.length_append, List.length_cons]; omega]; omega)
  rw [show (L ++ ⟨v, at', (L.length + 1 : Nat), (L.length + 1 + a.length : Nat), -1⟩ :: a : List Nd).length = L.length + 1 + a.length by simp only [List.length_append, List.length_cons]; omega] at H2'
  refine CallM.mk' [2000, 2001, 2002, 2003, 2004, 2005] H2' ⟨.cons (.obj (slL_fit _ _ _ (.hdl rfl rfl))) (.cons (mfitN' (by simp only [List.length_append, List.length_cons]; omega) (fun i hi j hj => ?_)) (.cons (.obj (.cons (.ptr rfl) .nil)) (.cons (.box (LLe.refl _)) (.cons (.box (LLe.refl _)) (.cons (.box (LLe.refl _)) .nil))))), .cons (.ptr rfl) (.cons (.ptr rfl) (.cons (.ptr rfl) (.cons (.ptr rfl) .nil))), rfl, rfl, fun h => absurd rfl h⟩ ?_
  · have hle := lG_cell ndL nd0 (L ++ ⟨v, at', (L.length + 1 : Nat), 0, -1⟩ :: a) ⟨v, at', (L.length + 1 : Nat), (L.length + 1 + a.length : Nat), -1⟩ L.length i j 3 5 (i64 ((L.length + 1 + a.length : Nat) : Int)) (by rw [e2]; exact hi) hj rfl (fun j hj hne => by
      rw [get_mid]
      match j, hj, hne with
      | 0, _, _ => rfl
      | 1, _, _ => rfl
      | 2, _, _ => rfl
      | 4, _, _ => rfl)
    rw [set_mid] at hle
    exact hle
  have eC : L ++ ⟨v, at', (L.length + 1 : Nat), (L.length + 1 + a.length : Nat), -1⟩ :: a ++ B (L.length + 1 + a.length) = L ++ cutT v at' A B L.length := by rw [cutT, hA, List.append_assoc]; rfl
  rw [eC]
  exact EndM.mk ⟨.n 0, .none, .cons (.obj (slL_end ks kerf rows (.hdl rfl rfl rfl))) (.cons (.bldN rfl (fun h => absurd h (by decide)) (fun i hi j hj => SLe.refl _)) (.cons (.obj (.cons (.ptr rfl) .nil)) (.cons (.box (LLe.refl _)) (.cons (.box (LLe.refl _)) (.cons (.box (LLe.refl _)) (.nil _)))))), .inl rfl⟩

theorem gcutPieceV_detM (kind h : Int) (k : Knd) (v : Bool) (at' : Int) (A B : Nat → List Nd)
    (H1 : ∀ L : List Nd, L.length + (A L.length).length ≤ 100000000 → DetM Try.prog 105 [.ptr (.n 2002) 0, .ptr (.n 2003) 0, .ptr (.n 2005) 0, .ptr (.n 2004) 0] (mkS ks kerf rows 1 L ++ [.obj [.ptr (.n 2000) 0], .box [i64 kind], .box [i64 h], .box (kL k)]) (.tup []) (mkS ks kerf rows 3 (L ++ A L.length) ++ [.obj [.ptr (.n 2000) 0], .box [i64 kind], .box [i64 h], .box (kL k)]) .none)
    (H2 : ∀ L : List Nd, L.length + (B L.length).length ≤ 100000000 → DetM Try.prog 106 [.ptr (.n 2002) 0] (mkS ks kerf rows 1 L ++ [.obj [.ptr (.n 2000) 0], .box [i64 kind], .box [i64 h], .box (kL k)]) (.tup []) (mkS ks kerf rows 3 (L ++ B L.length) ++ [.obj [.ptr (.n 2000) 0], .box [i64 kind], .box [i64 h], .box (kL k)]) .none)
    (L : List Nd) (hL : L.length + (cutT v at' A B L.length).length ≤ 100000000) :
    DetM Try.prog 88 [.ptr (.n 2000) 0, tbool v, tint at', .clo 105 [.ptr (.n 2002) 0, .ptr (.n 2003) 0, .ptr (.n 2005) 0, .ptr (.n 2004) 0], .clo 106 [.ptr (.n 2002) 0]] (mkS ks kerf rows 1 L ++ [.obj [.ptr (.n 2000) 0], .box [i64 kind], .box [i64 h], .box (kL k)]) (.tup []) (mkS ks kerf rows 3 (L ++ cutT v at' A B L.length) ++ [.obj [.ptr (.n 2000) 0], .box [i64 kind], .box [i64 h], .box (kL k)]) .none := by
  refine detM_of_awp TTok mixed Try.func88 rfl rfl [14 + 3000000, 20 + 3000000, 27 + 4000000, 31 + 3000000, 36 + 3000000, 45 + 3000000, 50 + 3000000, 5, 105 + 2000000, 106 + 2000000] (Nat.le_of_ble_eq_true rfl) (Nat.le_of_ble_eq_true rfl) (sigM_of rfl) ?_
  have hcl : (cutT v at' A B L.length).length = 1 + ((A (L.length + 1)).length + (B (L.length + 1 + (A (L.length + 1)).length)).length) := by rw [cutT, List.length_cons, List.length_append]; omega
  refine ⟨⟨_, slL_t _ _ _ _, rfl, rfl, ?_⟩⟩
  refine ⟨⟨_, slL_t _ _ _ _, rfl, rfl, ?_⟩⟩
  refine Need.mk (needApp (n := L.length + 1) (by omega) (by decide)) ?_
  refine ⟨⟨_, slL_set _ _ _ _ _, by rw [slL_len]; exact Nat.le_of_ble_eq_true rfl, ?_⟩⟩
  refine ⟨⟨_, slL_t _ _ _ _, rfl, rfl, ?_⟩⟩
  refine ⟨⟨_, slL_t _ _ _ _, rfl, rfl, ?_⟩⟩
  refine Need.mk (by omega) ?_
  refine Need.mk (by kernel_rfl) ?_
  have e1 : (L ++ [⟨v, at', 0, 0, -1⟩] : List Nd).length = L.length + 1 := by simp
  have H1' := H1 (L ++ [⟨v, at', (L.length + 1 : Nat), 0, -1⟩]) (by simp only [List.length_append, List.length_singleton]; omega)
  simp only [List.length_append, List.length_singleton, List.append_assoc, List.singleton_append] at H1'
  refine CallM.mk' [2000, 2001, 2002, 2003, 2004, 2005] H1' ⟨.cons (.obj (slL_fit _ _ _ (.hdl rfl rfl))) (.cons (mfitN' (by simp only [List.length_append, List.length_singleton]) (fun i hi j hj => ?_)) (.cons (.obj (.cons (.ptr rfl) .nil)) (.cons (.box (LLe.refl _)) (.cons (.box (LLe.refl _)) (.cons (.box (LLe.refl _)) .nil))))), .cons (.ptr rfl) (.cons (.ptr rfl) (.cons (.ptr rfl) (.cons (.ptr rfl) .nil))), rfl, rfl, fun h => absurd rfl h⟩ ?_
  · have hle := lG_cell ndL nd0 (L ++ [⟨v, at', 0, 0, -1⟩]) ⟨v, at', (L.length + 1 : Nat), 0, -1⟩ L.length i j 2 5 (i64 ((L.length + 1 : Nat) : Int)) (by rw [e1]; exact hi) hj rfl (fun j hj hne => by
      rw [get_mid]
      match j, hj, hne with
      | 0, _, _ => rfl
      | 1, _, _ => rfl
      | 3, _, _ => rfl
      | 4, _, _ => rfl)
    rw [set_mid] at hle
    exact SLe.ite hle (lG_snoc ndL nd0 L ⟨v, at', 0, 0, -1⟩ 5 L.length i j _ rfl rfl hi hj)
  generalize hA : A (L.length + 1) = a at *
  have e2 : (L ++ ⟨v, at', (L.length + 1 : Nat), 0, -1⟩ :: a : List Nd).length = L.length + 1 + a.length := by simp only [List.length_append, List.length_cons]; omega
  refine Cut.mk (Adj.keep [(0, .ptr 2000 0), (4, .clo 106 [.ptr 2002 0]), (10, tint L.length)] [(2000, .obj (slL ks kerf rows (.hdl 2001 0))), (2001, .bld 0 (L.length + 1 + a.length) 5 96 (lG ndL nd0 (L ++ ⟨v, at', (L.length + 1 : Nat), 0, -1⟩ :: a))), (2002, .obj [.ptr 2000 0]), (2003, .box [i64 kind]), (2004, .box [i64 h]), (2005, .box (kL k))]
    (.cons (.obj (slL_le ks kerf rows (.hdl (by intro q; cases q) rfl rfl))) (.cons (.bldN e2 (fun _ _ _ _ => SLe.refl _)) (.cons (.obj (.cons (.ptr (by intro q; cases q)) .nil)) (.cons (.box (LLe.refl _)) (.cons (.box (LLe.refl _)) (.cons (.box (LLe.refl _)) .nil)))))) (.cons (.ptr (by intro q; cases q)) (.cons (.clo (.cons (.ptr (by intro q; cases q)) .nil)) (.cons .same .nil))) ?_)
  refine ⟨⟨_, slL_t _ _ _ _, rfl, rfl, ?_⟩⟩
  refine ⟨⟨_, slL_t _ _ _ _, rfl, rfl, ?_⟩⟩
  refine Need.mk (by omega) ?_
  refine Need.mk (by kernel_rfl) ?_
  have H2' := H2 (L ++ ⟨v, at', (L.length + 1 : Nat), (L.length + 1 + a.length : Nat), -1⟩ :: a) (by rw [show (L ++ ⟨v, at', (L.length + 1 : Nat), (L.length + 1 + a.length : Nat), -1⟩ :: a : List Nd).length = L.length + 1 + a.length by simp only [List.length_append, List.length_cons]; omega]; omega)
  rw [show (L ++ ⟨v, at', (L.length + 1 : Nat), (L.length + 1 + a.length : Nat), -1⟩ :: a : List Nd).length = L.length + 1 + a.length by simp only [List.length_append, List.length_cons]; omega] at H2'
  refine CallM.mk' [2000, 2001, 2002, 2003, 2004, 2005] H2' ⟨.cons (.obj (slL_fit _ _ _ (.hdl rfl rfl))) (.cons (mfitN' (by simp only [List.length_append, List.length_cons]; omega) (fun i hi j hj => ?_)) (.cons (.obj (.cons (.ptr rfl) .nil)) (.cons (.box (LLe.refl _)) (.cons (.box (LLe.refl _)) (.cons (.box (LLe.refl _)) .nil))))), .cons (.ptr rfl) .nil, rfl, rfl, fun h => absurd rfl h⟩ ?_
  · have hle := lG_cell ndL nd0 (L ++ ⟨v, at', (L.length + 1 : Nat), 0, -1⟩ :: a) ⟨v, at', (L.length + 1 : Nat), (L.length + 1 + a.length : Nat), -1⟩ L.length i j 3 5 (i64 ((L.length + 1 + a.length : Nat) : Int)) (by rw [e2]; exact hi) hj rfl (fun j hj hne => by
      rw [get_mid]
      match j, hj, hne with
      | 0, _, _ => rfl
      | 1, _, _ => rfl
      | 2, _, _ => rfl
      | 4, _, _ => rfl)
    rw [set_mid] at hle
    exact hle
  have eC : L ++ ⟨v, at', (L.length + 1 : Nat), (L.length + 1 + a.length : Nat), -1⟩ :: a ++ B (L.length + 1 + a.length) = L ++ cutT v at' A B L.length := by rw [cutT, hA, List.append_assoc]; rfl
  rw [eC]
  exact EndM.mk ⟨.n 0, .none, .cons (.obj (slL_end ks kerf rows (.hdl rfl rfl rfl))) (.cons (.bldN rfl (fun h => absurd h (by decide)) (fun i hi j hj => SLe.refl _)) (.cons (.obj (.cons (.ptr rfl) .nil)) (.cons (.box (LLe.refl _)) (.cons (.box (LLe.refl _)) (.cons (.box (LLe.refl _)) (.nil _)))))), .inl rfl⟩

theorem gcutPieceH_detM (kind : Int) (v : Bool) (at' : Int) (A B : Nat → List Nd)
    (H1 : ∀ L : List Nd, L.length + (A L.length).length ≤ 100000000 → DetM Try.prog 107 [.ptr (.n 2002) 0, .ptr (.n 2003) 0] (mkS ks kerf rows 1 L ++ [.obj [.ptr (.n 2000) 0], .box [i64 kind]]) (.tup []) (mkS ks kerf rows 3 (L ++ A L.length) ++ [.obj [.ptr (.n 2000) 0], .box [i64 kind]]) .none)
    (H2 : ∀ L : List Nd, L.length + (B L.length).length ≤ 100000000 → DetM Try.prog 108 [.ptr (.n 2002) 0] (mkS ks kerf rows 1 L ++ [.obj [.ptr (.n 2000) 0], .box [i64 kind]]) (.tup []) (mkS ks kerf rows 3 (L ++ B L.length) ++ [.obj [.ptr (.n 2000) 0], .box [i64 kind]]) .none)
    (L : List Nd) (hL : L.length + (cutT v at' A B L.length).length ≤ 100000000) :
    DetM Try.prog 88 [.ptr (.n 2000) 0, tbool v, tint at', .clo 107 [.ptr (.n 2002) 0, .ptr (.n 2003) 0], .clo 108 [.ptr (.n 2002) 0]] (mkS ks kerf rows 1 L ++ [.obj [.ptr (.n 2000) 0], .box [i64 kind]]) (.tup []) (mkS ks kerf rows 3 (L ++ cutT v at' A B L.length) ++ [.obj [.ptr (.n 2000) 0], .box [i64 kind]]) .none := by
  refine detM_of_awp TTok mixed Try.func88 rfl rfl [14 + 3000000, 20 + 3000000, 27 + 4000000, 31 + 3000000, 36 + 3000000, 45 + 3000000, 50 + 3000000, 5, 107 + 2000000, 108 + 2000000] (Nat.le_of_ble_eq_true rfl) (Nat.le_of_ble_eq_true rfl) (sigM_of rfl) ?_
  have hcl : (cutT v at' A B L.length).length = 1 + ((A (L.length + 1)).length + (B (L.length + 1 + (A (L.length + 1)).length)).length) := by rw [cutT, List.length_cons, List.length_append]; omega
  refine ⟨⟨_, slL_t _ _ _ _, rfl, rfl, ?_⟩⟩
  refine ⟨⟨_, slL_t _ _ _ _, rfl, rfl, ?_⟩⟩
  refine Need.mk (needApp (n := L.length + 1) (by omega) (by decide)) ?_
  refine ⟨⟨_, slL_set _ _ _ _ _, by rw [slL_len]; exact Nat.le_of_ble_eq_true rfl, ?_⟩⟩
  refine ⟨⟨_, slL_t _ _ _ _, rfl, rfl, ?_⟩⟩
  refine ⟨⟨_, slL_t _ _ _ _, rfl, rfl, ?_⟩⟩
  refine Need.mk (by omega) ?_
  refine Need.mk (by kernel_rfl) ?_
  have e1 : (L ++ [⟨v, at', 0, 0, -1⟩] : List Nd).length = L.length + 1 := by simp
  have H1' := H1 (L ++ [⟨v, at', (L.length + 1 : Nat), 0, -1⟩]) (by simp only [List.length_append, List.length_singleton]; omega)
  simp only [List.length_append, List.length_singleton, List.append_assoc, List.singleton_append] at H1'
  refine CallM.mk' [2000, 2001, 2002, 2003] H1' ⟨.cons (.obj (slL_fit _ _ _ (.hdl rfl rfl))) (.cons (mfitN' (by simp only [List.length_append, List.length_singleton]) (fun i hi j hj => ?_)) (.cons (.obj (.cons (.ptr rfl) .nil)) (.cons (.box (LLe.refl _)) .nil))), .cons (.ptr rfl) (.cons (.ptr rfl) .nil), rfl, rfl, fun h => absurd rfl h⟩ ?_
  · have hle := lG_cell ndL nd0 (L ++ [⟨v, at', 0, 0, -1⟩]) ⟨v, at', (L.length + 1 : Nat), 0, -1⟩ L.length i j 2 5 (i64 ((L.length + 1 : Nat) : Int)) (by rw [e1]; exact hi) hj rfl (fun j hj hne => by
      rw [get_mid]
      match j, hj, hne with
      | 0, _, _ => rfl
      | 1, _, _ => rfl
      | 3, _, _ => rfl
      | 4, _, _ => rfl)
    rw [set_mid] at hle
    exact SLe.ite hle (lG_snoc ndL nd0 L ⟨v, at', 0, 0, -1⟩ 5 L.length i j _ rfl rfl hi hj)
  generalize hA : A (L.length + 1) = a at *
  have e2 : (L ++ ⟨v, at', (L.length + 1 : Nat), 0, -1⟩ :: a : List Nd).length = L.length + 1 + a.length := by simp only [List.length_append, List.length_cons]; omega
  refine Cut.mk (Adj.keep [(0, .ptr 2000 0), (4, .clo 108 [.ptr 2002 0]), (10, tint L.length)] [(2000, .obj (slL ks kerf rows (.hdl 2001 0))), (2001, .bld 0 (L.length + 1 + a.length) 5 96 (lG ndL nd0 (L ++ ⟨v, at', (L.length + 1 : Nat), 0, -1⟩ :: a))), (2002, .obj [.ptr 2000 0]), (2003, .box [i64 kind])]
    (.cons (.obj (slL_le ks kerf rows (.hdl (by intro q; cases q) rfl rfl))) (.cons (.bldN e2 (fun _ _ _ _ => SLe.refl _)) (.cons (.obj (.cons (.ptr (by intro q; cases q)) .nil)) (.cons (.box (LLe.refl _)) .nil)))) (.cons (.ptr (by intro q; cases q)) (.cons (.clo (.cons (.ptr (by intro q; cases q)) .nil)) (.cons .same .nil))) ?_)
  refine ⟨⟨_, slL_t _ _ _ _, rfl, rfl, ?_⟩⟩
  refine ⟨⟨_, slL_t _ _ _ _, rfl, rfl, ?_⟩⟩
  refine Need.mk (by omega) ?_
  refine Need.mk (by kernel_rfl) ?_
  have H2' := H2 (L ++ ⟨v, at', (L.length + 1 : Nat), (L.length + 1 + a.length : Nat), -1⟩ :: a) (by rw [show (L ++ ⟨v, at', (L.length + 1 : Nat), (L.length + 1 + a.length : Nat), -1⟩ :: a : List Nd).length = L.length + 1 + a.length by simp only [List.length_append, List.length_cons]; omega]; omega)
  rw [show (L ++ ⟨v, at', (L.length + 1 : Nat), (L.length + 1 + a.length : Nat), -1⟩ :: a : List Nd).length = L.length + 1 + a.length by simp only [List.length_append, List.length_cons]; omega] at H2'
  refine CallM.mk' [2000, 2001, 2002, 2003] H2' ⟨.cons (.obj (slL_fit _ _ _ (.hdl rfl rfl))) (.cons (mfitN' (by simp only [List.length_append, List.length_cons]; omega) (fun i hi j hj => ?_)) (.cons (.obj (.cons (.ptr rfl) .nil)) (.cons (.box (LLe.refl _)) .nil))), .cons (.ptr rfl) .nil, rfl, rfl, fun h => absurd rfl h⟩ ?_
  · have hle := lG_cell ndL nd0 (L ++ ⟨v, at', (L.length + 1 : Nat), 0, -1⟩ :: a) ⟨v, at', (L.length + 1 : Nat), (L.length + 1 + a.length : Nat), -1⟩ L.length i j 3 5 (i64 ((L.length + 1 + a.length : Nat) : Int)) (by rw [e2]; exact hi) hj rfl (fun j hj hne => by
      rw [get_mid]
      match j, hj, hne with
      | 0, _, _ => rfl
      | 1, _, _ => rfl
      | 2, _, _ => rfl
      | 4, _, _ => rfl)
    rw [set_mid] at hle
    exact hle
  have eC : L ++ ⟨v, at', (L.length + 1 : Nat), (L.length + 1 + a.length : Nat), -1⟩ :: a ++ B (L.length + 1 + a.length) = L ++ cutT v at' A B L.length := by rw [cutT, hA, List.append_assoc]; rfl
  rw [eC]
  exact EndM.mk ⟨.n 0, .none, .cons (.obj (slL_end ks kerf rows (.hdl rfl rfl rfl))) (.cons (.bldN rfl (fun h => absurd h (by decide)) (fun i hi j hj => SLe.refl _)) (.cons (.obj (.cons (.ptr rfl) .nil)) (.cons (.box (LLe.refl _)) (.nil _)))), .inl rfl⟩
end St
end Go.Vm
