/-
  Layer 37: contracts of the functions that build a tree.
  Layer 37: contracts of column, strip and sheet.
-/
import Derived.Test.YtfoblfchkgapoaaStpD
namespace Go.Vm
set_option maxRecDepth 20000
set_option linter.unusedVariables false
set_option linter.unusedSimpArgs false
open Go Go.RowKit Go.Proofs
namespace St

structure Nd where
  v : Bool
  a : Int
  f : Int
  s : Int
  k : Int
  deriving DecidableEq
abbrev ndL (n : Nd) : List SV := [.v (.bool n.v), i64 n.a, i64 n.f, i64 n.s, i64 n.k]
abbrev nd0 : Nd := ⟨false, 0, 0, 0, 0⟩
abbrev ndS (l : List Nd) : SV := .sl l.length 5 (lG ndL nd0 l)
abbrev ndget (l : List Nd) (i : Nat) : Nd := l.getD i nd0
abbrev leafN (k : Int) : Nd := ⟨false, 0, -1, -1, k⟩
def cutT (v : Bool) (at' : Int) (A B : Nat → List Nd) (base : Nat) : List Nd :=
  ⟨v, at', (base + 1 : Nat), (base + 1 + (A (base + 1)).length : Nat), -1⟩ :: (A (base + 1) ++ B (base + 1 + (A (base + 1)).length))
abbrev ccL (c : List Int) : List SV := [iS c]
abbrev ccS (l : List (List Int)) : SV := .sl l.length 1 (lG ccL [] l)
abbrev mkM (ks : List Knd) (kerf : Int) (g : Nat) (L : List Nd) : List Mem := [.obj [.hdl (.n 2001) g, .s (kS ks), .s (i64 kerf)], .bld g L.length 5 96 (lG ndL nd0 L)]
theorem set_mid (L : List Nd) (n n' : Nd) (A : List Nd) : (L ++ n :: A).set L.length n' = L ++ n' :: A := by simp
theorem get_mid (L : List Nd) (n : Nd) (A : List Nd) : (L ++ n :: A).getD L.length nd0 = n := by rw [getD_app_r _ _ _ _ (Nat.le_refl _), Nat.sub_self]; rfl
theorem mfitN' {m : Id → Mem} {os : List Id} {d : Id} {g n n' k : Nat} {e : TypeId} {get get' : Nat → Nat → SV} (hn : n = n') (h : ∀ i, i < n → ∀ j, j < k → SLe (get i j) (get' i j)) : MFit m os d (.bld g n k e get) (.bld 1 n' k e get') := by
  subst hn; exact .bld h
variable (ks : List Knd) (kerf : Int)
theorem add_detM (L : List Nd) (n : Nd) (hL : L.length ≤ 100000000) : DetM Try.prog 104 [.ptr (.n 2000) 0, .d (.agg (ndL n))] (mkM ks kerf 1 L) (tint L.length) (mkM ks kerf 3 (L ++ [n])) .none := by
  refine detM_of_awp TTok mixed Try.func104 rfl rfl [] (Nat.le_of_ble_eq_true rfl) (Nat.le_of_ble_eq_true rfl) (sigM_of rfl) ?_
  refine Need.mk (needApp (n := L.length + 1) (by omega) (by decide)) ?_
  refine Need.mk (by kernel_rfl) ?_
  have e : IntKind.i64.wrap (((L.length + 1 : Nat) : Int) - 1) = L.length := by rw [hw _ (by omega) (by omega)]; omega
  refine EndM.mk ⟨.n 0, .one (.d (DLe.of_eq (by rw [e]))), .cons (.obj (.cons (.hdl rfl rfl rfl) (.cons (.s (SLe.refl _)) (.cons (.s (SLe.refl _)) .nil)))) (.cons (.bldN (by simp only [List.length_append, List.length_singleton]) (fun h => absurd h (by decide)) (fun i hi j hj => lG_snoc ndL nd0 L n 5 L.length i j _ rfl rfl hi hj)) (.nil _)), .inl rfl⟩
theorem leaf_detM (L : List Nd) (k : Int) (hL : L.length ≤ 100000000) : DetM Try.prog 100 [.ptr (.n 2000) 0, tint k] (mkM ks kerf 1 L) (tint L.length) (mkM ks kerf 3 (L ++ [leafN k])) .none := by
  refine detM_of_awp TTok mixed Try.func100 rfl rfl [104 + 2000000] (Nat.le_of_ble_eq_true rfl) (Nat.le_of_ble_eq_true rfl) (sigM_of rfl) ?_
  refine CallM.mk' [2000, 2001] (add_detM ks kerf L (leafN k) hL) ⟨.cons (.obj (.cons (.hdl rfl rfl) (.cons (.s (SLe.refl _)) (.cons (.s (SLe.refl _)) .nil)))) (.cons (.bld (fun _ _ _ _ => SLe.refl _)) .nil), .cons (.ptr rfl) (.cons (.d (DLe.refl _)) .nil), rfl, rfl, fun h => absurd rfl h⟩ ?_
  refine EndM.mk ⟨.n 0, .one (.d (DLe.refl _)), .cons (.obj (.cons (.hdl rfl rfl rfl) (.cons (.s (SLe.refl _)) (.cons (.s (SLe.refl _)) .nil)))) (.cons (.bldN rfl (fun h => absurd h (by decide)) (fun i hi j hj => SLe.refl _)) (.nil _)), .inl rfl⟩
theorem waste_detM (L : List Nd) (hL : L.length ≤ 100000000) : DetM Try.prog 79 [.ptr (.n 2000) 0] (mkM ks kerf 1 L) (.tup []) (mkM ks kerf 3 (L ++ [leafN (-1)])) .none := by
  refine detM_of_awp TTok mixed Try.func79 rfl rfl [100 + 2000000] (Nat.le_of_ble_eq_true rfl) (Nat.le_of_ble_eq_true rfl) (sigM_of rfl) ?_
  refine CallM.mk' [2000, 2001] (leaf_detM ks kerf L (-1) hL) ⟨.cons (.obj (.cons (.hdl rfl rfl) (.cons (.s (SLe.refl _)) (.cons (.s (SLe.refl _)) .nil)))) (.cons (.bld (fun _ _ _ _ => SLe.refl _)) .nil), .cons (.ptr rfl) (.cons (.d (DLe.refl _)) .nil), rfl, rfl, fun h => absurd rfl h⟩ ?_
  refine EndM.mk ⟨.n 0, .none, .cons (.obj (.cons (.hdl rfl rfl rfl) (.cons (.s (SLe.refl _)) (.cons (.s (SLe.refl _)) .nil)))) (.cons (.bldN rfl (fun h => absurd h (by decide)) (fun i hi j hj => SLe.refl _)) (.nil _)), .inl rfl⟩

/-- cut, as it is called by Col. -/
theorem cutCol_detM (kind : Int) (v : Bool) (at' : Int) (A B : Nat → List Nd)
    (H1 : ∀ L : List Nd, L.length + (A L.length).length ≤ 100000000 → DetM Try.prog 113 [.ptr (.n 2002) 0, .ptr (.n 2003) 0] (mkM ks kerf 1 L ++ [.obj [.ptr (.n 2000) 0], .box [i64 kind]]) (.tup []) (mkM ks kerf 3 (L ++ A L.length) ++ [.obj [.ptr (.n 2000) 0], .box [i64 kind]]) .none)
    (H2 : ∀ L : List Nd, L.length + (B L.length).length ≤ 100000000 → DetM Try.prog 79 [.ptr (.n 2000) 0] (mkM ks kerf 1 L) (.tup []) (mkM ks kerf 3 (L ++ B L.length)) .none)
    (L : List Nd) (hL : L.length + (cutT v at' A B L.length).length ≤ 100000000) :
    DetM Try.prog 81 [.ptr (.n 2000) 0, tbool v, tint at', .clo 113 [.ptr (.n 2002) 0, .ptr (.n 2003) 0], .clo (79 + 10000000) [.ptr (.n 2000) 0]] (mkM ks kerf 1 L ++ [.obj [.ptr (.n 2000) 0], .box [i64 kind]]) (.tup []) (mkM ks kerf 3 (L ++ cutT v at' A B L.length) ++ [.obj [.ptr (.n 2000) 0], .box [i64 kind]]) .none := by
  refine detM_of_awp TTok mixed Try.func81 rfl rfl [104 + 2000000, 113 + 2000000] (Nat.le_of_ble_eq_true rfl) (Nat.le_of_ble_eq_true rfl) (sigM_of rfl) ?_
  have hcl : (cutT v at' A B L.length).length = 1 + ((A (L.length + 1)).length + (B (L.length + 1 + (A (L.length + 1)).length)).length) := by rw [cutT, List.length_cons, List.length_append]; omega
  refine CallM.mk' [2000, 2001] (add_detM ks kerf L ⟨v, at', 0, 0, -1⟩ (by omega)) ⟨.cons (.obj (.cons (.hdl rfl rfl) (.cons (.s (SLe.refl _)) (.cons (.s (SLe.refl _)) .nil)))) (.cons (.bld (fun _ _ _ _ => SLe.refl _)) (.nil)), .cons (.ptr rfl) (.cons (.d (DLe.refl _)) .nil), rfl, rfl, fun h => absurd rfl h⟩ ?_
  refine Need.mk (by rw [List.length_append, List.length_singleton]; omega) ?_
  refine Need.mk (by kernel_rfl) ?_
  have e1 : (L ++ [⟨v, at', 0, 0, -1⟩] : List Nd).length = L.length + 1 := by simp
  have H1' := H1 (L ++ [⟨v, at', (L.length + 1 : Nat), 0, -1⟩]) (by simp only [List.length_append, List.length_singleton]; omega)
  simp only [List.length_append, List.length_singleton, List.append_assoc, List.singleton_append] at H1'
  refine CallM.mk' [2000, 2001, 2002, 2003] H1' ⟨.cons (.obj (.cons (.hdl rfl rfl) (.cons (.s (SLe.refl _)) (.cons (.s (SLe.refl _)) .nil)))) (.cons (mfitN' (by simp only [List.length_append, List.length_singleton]) (fun i hi j hj => ?_)) (.cons (.obj (.cons (.ptr rfl) .nil)) (.cons (.box (LLe.refl _)) (.nil)))), .cons (.ptr rfl) (.cons (.ptr rfl) (.nil)), rfl, rfl, fun h => absurd rfl h⟩ ?_
  · have hle := lG_cell ndL nd0 (L ++ [⟨v, at', 0, 0, -1⟩]) ⟨v, at', (L.length + 1 : Nat), 0, -1⟩ L.length i j 2 5 (i64 (L ++ [⟨v, at', 0, 0, -1⟩] : List Nd).length) (by rw [e1] at hi; rw [e1]; exact hi) hj (by rw [e1]; rfl) (fun j hj hne => by
      rw [get_mid]
      match j, hj, hne with
      | 0, _, _ => rfl
      | 1, _, _ => rfl
      | 3, _, _ => rfl
      | 4, _, _ => rfl)
    rw [set_mid] at hle
    exact hle
  generalize hA : A (L.length + 1) = a at *
  refine Need.mk (by simp only [List.length_append, List.length_cons]; omega) ?_
  refine Need.mk (by kernel_rfl) ?_
  have e2 : (L ++ ⟨v, at', (L.length + 1 : Nat), 0, -1⟩ :: a : List Nd).length = L.length + 1 + a.length := by simp only [List.length_append, List.length_cons]; omega
  have H2' := H2 (L ++ ⟨v, at', (L.length + 1 : Nat), (L.length + 1 + a.length : Nat), -1⟩ :: a) (by rw [show (L ++ ⟨v, at', (L.length + 1 : Nat), (L.length + 1 + a.length : Nat), -1⟩ :: a : List Nd).length = L.length + 1 + a.length by simp only [List.length_append, List.length_cons]; omega]; omega)
  rw [show (L ++ ⟨v, at', (L.length + 1 : Nat), (L.length + 1 + a.length : Nat), -1⟩ :: a : List Nd).length = L.length + 1 + a.length by simp only [List.length_append, List.length_cons]; omega] at H2'
  refine ⟨79, rfl, CallM.mk' [2000, 2001] H2' ⟨.cons (.obj (.cons (.hdl rfl rfl) (.cons (.s (SLe.refl _)) (.cons (.s (SLe.refl _)) .nil)))) (.cons (mfitN' (by simp only [List.length_append, List.length_cons]) (fun i hi j hj => ?_)) (.nil)), .cons (.ptr rfl) (.nil), rfl, rfl, fun h => absurd rfl h⟩ ?_⟩
  · have hle := lG_cell ndL nd0 (L ++ ⟨v, at', (L.length + 1 : Nat), 0, -1⟩ :: a) ⟨v, at', (L.length + 1 : Nat), (L.length + 1 + a.length : Nat), -1⟩ L.length i j 3 5 (i64 (L ++ ⟨v, at', (L.length + 1 : Nat), 0, -1⟩ :: a : List Nd).length) hi hj (by rw [e2]; rfl) (fun j hj hne => by
      rw [get_mid]
      match j, hj, hne with
      | 0, _, _ => rfl
      | 1, _, _ => rfl
      | 2, _, _ => rfl
      | 4, _, _ => rfl)
    rw [set_mid] at hle
    exact hle
  have eC : L ++ ⟨v, at', (L.length + 1 : Nat), (L.length + 1 + a.length : Nat), -1⟩ :: a ++ B (L.length + 1 + a.length) = L ++ cutT v at' A B L.length := by rw [cutT, hA, List.append_assoc]; rfl
  rw [eC]
  refine EndM.mk ⟨.n 0, .none, .cons (.obj (.cons (.hdl rfl rfl rfl) (.cons (.s (SLe.refl _)) (.cons (.s (SLe.refl _)) .nil)))) (.cons (.bldN rfl (fun h => absurd h (by decide)) (fun i hi j hj => SLe.refl _)) (.cons (.obj (.cons (.ptr rfl) .nil)) (.cons (.box (LLe.refl _)) (.nil _)))), .inl rfl⟩

/-- cut, as it is called by Strip. -/
theorem cutStrip_detM (cols : List Int) (w k h : Int) (v : Bool) (at' : Int) (A B : Nat → List Nd)
    (H1 : ∀ L : List Nd, L.length + (A L.length).length ≤ 100000000 → DetM Try.prog 102 [.ptr (.n 2002) 0, .ptr (.n 2005) 0, .ptr (.n 2006) 0] (mkM ks kerf 1 L ++ [.obj [.ptr (.n 2000) 0], .box [iS cols], .box [i64 w], .box [i64 k], .box [i64 h]]) (.tup []) (mkM ks kerf 3 (L ++ A L.length) ++ [.obj [.ptr (.n 2000) 0], .box [iS cols], .box [i64 w], .box [i64 k], .box [i64 h]]) .none)
    (H2 : ∀ L : List Nd, L.length + (B L.length).length ≤ 100000000 → DetM Try.prog 103 [.ptr (.n 2002) 0, .ptr (.n 2003) 0, .ptr (.n 2004) 0, .ptr (.n 2005) 0, .ptr (.n 2006) 0] (mkM ks kerf 1 L ++ [.obj [.ptr (.n 2000) 0], .box [iS cols], .box [i64 w], .box [i64 k], .box [i64 h]]) (.tup []) (mkM ks kerf 3 (L ++ B L.length) ++ [.obj [.ptr (.n 2000) 0], .box [iS cols], .box [i64 w], .box [i64 k], .box [i64 h]]) .none)
    (L : List Nd) (hL : L.length + (cutT v at' A B L.length).length ≤ 100000000) :
    DetM Try.prog 81 [.ptr (.n 2000) 0, tbool v, tint at', .clo 102 [.ptr (.n 2002) 0, .ptr (.n 2005) 0, .ptr (.n 2006) 0], .clo 103 [.ptr (.n 2002) 0, .ptr (.n 2003) 0, .ptr (.n 2004) 0, .ptr (.n 2005) 0, .ptr (.n 2006) 0]] (mkM ks kerf 1 L ++ [.obj [.ptr (.n 2000) 0], .box [iS cols], .box [i64 w], .box [i64 k], .box [i64 h]]) (.tup []) (mkM ks kerf 3 (L ++ cutT v at' A B L.length) ++ [.obj [.ptr (.n 2000) 0], .box [iS cols], .box [i64 w], .box [i64 k], .box [i64 h]]) .none := by
  refine detM_of_awp TTok mixed Try.func81 rfl rfl [104 + 2000000, 102 + 2000000, 103 + 2000000] (Nat.le_of_ble_eq_true rfl) (Nat.le_of_ble_eq_true rfl) (sigM_of rfl) ?_
  have hcl : (cutT v at' A B L.length).length = 1 + ((A (L.length + 1)).length + (B (L.length + 1 + (A (L.length + 1)).length)).length) := by rw [cutT, List.length_cons, List.length_append]; omega
  refine CallM.mk' [2000, 2001] (add_detM ks kerf L ⟨v, at', 0, 0, -1⟩ (by omega)) ⟨.cons (.obj (.cons (.hdl rfl rfl) (.cons (.s (SLe.refl _)) (.cons (.s (SLe.refl _)) .nil)))) (.cons (.bld (fun _ _ _ _ => SLe.refl _)) (.nil)), .cons (.ptr rfl) (.cons (.d (DLe.refl _)) .nil), rfl, rfl, fun h => absurd rfl h⟩ ?_
  refine Need.mk (by rw [List.length_append, List.length_singleton]; omega) ?_
  refine Need.mk (by kernel_rfl) ?_
  have e1 : (L ++ [⟨v, at', 0, 0, -1⟩] : List Nd).length = L.length + 1 := by simp
  have H1' := H1 (L ++ [⟨v, at', (L.length + 1 : Nat), 0, -1⟩]) (by simp only [List.length_append, List.length_singleton]; omega)
  simp only [List.length_append, List.length_singleton, List.append_assoc, List.singleton_append] at H1'
  refine CallM.mk' [2000, 2001, 2002, 2003, 2004, 2005, 2006] H1' ⟨.cons (.obj (.cons (.hdl rfl rfl) (.cons (.s (SLe.refl _)) (.cons (.s (SLe.refl _)) .nil)))) (.cons (mfitN' (by simp only [List.length_append, List.length_singleton]) (fun i hi j hj => ?_)) (.cons (.obj (.cons (.ptr rfl) .nil)) (.cons (.box (LLe.refl _)) (.cons (.box (LLe.refl _)) (.cons (.box (LLe.refl _)) (.cons (.box (LLe.refl _)) (.nil))))))), .cons (.ptr rfl) (.cons (.ptr rfl) (.cons (.ptr rfl) (.nil))), rfl, rfl, fun h => absurd rfl h⟩ ?_
  · have hle := lG_cell ndL nd0 (L ++ [⟨v, at', 0, 0, -1⟩]) ⟨v, at', (L.length + 1 : Nat), 0, -1⟩ L.length i j 2 5 (i64 (L ++ [⟨v, at', 0, 0, -1⟩] : List Nd).length) (by rw [e1] at hi; rw [e1]; exact hi) hj (by rw [e1]; rfl) (fun j hj hne => by
      rw [get_mid]
      match j, hj, hne with
      | 0, _, _ => rfl
      | 1, _, _ => rfl
      | 3, _, _ => rfl
      | 4, _, _ => rfl)
    rw [set_mid] at hle
    exact hle
  generalize hA : A (L.length + 1) = a at *
  refine Need.mk (by simp only [List.length_append, List.length_cons]; omega) ?_
  refine Need.mk (by kernel_rfl) ?_
  have e2 : (L ++ ⟨v, at', (L.length + 1 : Nat), 0, -1⟩ :: a : List Nd).length = L.length + 1 + a.length := by simp only [List.length_append, List.length_cons]; omega
  have H2' := H2 (L ++ ⟨v, at', (L.length + 1 : Nat), (L.length + 1 + a.length : Nat), -1⟩ :: a) (by rw [show (L ++ ⟨v, at', (L.length + 1 : Nat), (L.length + 1 + a.length : Nat), -1⟩ :: a : List Nd).length = L.length + 1 + a.length by simp only [List.length_append, List.length_cons]; omega]; omega)
  rw [show (L ++ ⟨v, at', (L.length + 1 : Nat), (L.length + 1 + a.length : Nat), -1⟩ :: a : List Nd).length = L.length + 1 + a.length by simp only [List.length_append, List.length_cons]; omega] at H2'
  refine CallM.mk' [2000, 2001, 2002, 2003, 2004, 2005, 2006] H2' ⟨.cons (.obj (.cons (.hdl rfl rfl) (.cons (.s (SLe.refl _)) (.cons (.s (SLe.refl _)) .nil)))) (.cons (mfitN' (by simp only [List.length_append, List.length_cons]) (fun i hi j hj => ?_)) (.cons (.obj (.cons (.ptr rfl) .nil)) (.cons (.box (LLe.refl _)) (.cons (.box (LLe.refl _)) (.cons (.box (LLe.refl _)) (.cons (.box (LLe.refl _)) (.nil))))))), .cons (.ptr rfl) (.cons (.ptr rfl) (.cons (.ptr rfl) (.cons (.ptr rfl) (.cons (.ptr rfl) (.nil))))), rfl, rfl, fun h => absurd rfl h⟩ ?_
  · have hle := lG_cell ndL nd0 (L ++ ⟨v, at', (L.length + 1 : Nat), 0, -1⟩ :: a) ⟨v, at', (L.length + 1 : Nat), (L.length + 1 + a.length : Nat), -1⟩ L.length i j 3 5 (i64 (L ++ ⟨v, at', (L.length + 1 : Nat), 0, -1⟩ :: a : List Nd).length) hi hj (by rw [e2]; rfl) (fun j hj hne => by
      rw [get_mid]
      match j, hj, hne with
      | 0, _, _ => rfl
      | 1, _, _ => rfl
      | 2, _, _ => rfl
      | 4, _, _ => rfl)
    rw [set_mid] at hle
    exact hle
  have eC : L ++ ⟨v, at', (L.length + 1 : Nat), (L.length + 1 + a.length : Nat), -1⟩ :: a ++ B (L.length + 1 + a.length) = L ++ cutT v at' A B L.length := by rw [cutT, hA, List.append_assoc]; rfl
  rw [eC]
  refine EndM.mk ⟨.n 0, .none, .cons (.obj (.cons (.hdl rfl rfl rfl) (.cons (.s (SLe.refl _)) (.cons (.s (SLe.refl _)) .nil)))) (.cons (.bldN rfl (fun h => absurd h (by decide)) (fun i hi j hj => SLe.refl _)) (.cons (.obj (.cons (.ptr rfl) .nil)) (.cons (.box (LLe.refl _)) (.cons (.box (LLe.refl _)) (.cons (.box (LLe.refl _)) (.cons (.box (LLe.refl _)) (.nil _))))))), .inl rfl⟩

/-- cut, as it is called by Sheet. -/
theorem cutSheet_detM (hs : List Int) (css : List (List Int)) (w h : Int) (v : Bool) (at' : Int) (A B : Nat → List Nd)
    (H1 : ∀ L : List Nd, L.length + (A L.length).length ≤ 100000000 → DetM Try.prog 82 [.ptr (.n 2002) 0, .ptr (.n 2004) 0, .ptr (.n 2005) 0, .ptr (.n 2003) 0] (mkM ks kerf 1 L ++ [.obj [.ptr (.n 2000) 0], .box [iS hs], .box [ccS css], .box [i64 w], .box [i64 h]]) (.tup []) (mkM ks kerf 3 (L ++ A L.length) ++ [.obj [.ptr (.n 2000) 0], .box [iS hs], .box [ccS css], .box [i64 w], .box [i64 h]]) .none)
    (H2 : ∀ L : List Nd, L.length + (B L.length).length ≤ 100000000 → DetM Try.prog 83 [.ptr (.n 2002) 0, .ptr (.n 2003) 0, .ptr (.n 2004) 0, .ptr (.n 2005) 0, .ptr (.n 2006) 0] (mkM ks kerf 1 L ++ [.obj [.ptr (.n 2000) 0], .box [iS hs], .box [ccS css], .box [i64 w], .box [i64 h]]) (.tup []) (mkM ks kerf 3 (L ++ B L.length) ++ [.obj [.ptr (.n 2000) 0], .box [iS hs], .box [ccS css], .box [i64 w], .box [i64 h]]) .none)
    (L : List Nd) (hL : L.length + (cutT v at' A B L.length).length ≤ 100000000) :
    DetM Try.prog 81 [.ptr (.n 2000) 0, tbool v, tint at', .clo 82 [.ptr (.n 2002) 0, .ptr (.n 2004) 0, .ptr (.n 2005) 0, .ptr (.n 2003) 0], .clo 83 [.ptr (.n 2002) 0, .ptr (.n 2003) 0, .ptr (.n 2004) 0, .ptr (.n 2005) 0, .ptr (.n 2006) 0]] (mkM ks kerf 1 L ++ [.obj [.ptr (.n 2000) 0], .box [iS hs], .box [ccS css], .box [i64 w], .box [i64 h]]) (.tup []) (mkM ks kerf 3 (L ++ cutT v at' A B L.length) ++ [.obj [.ptr (.n 2000) 0], .box [iS hs], .box [ccS css], .box [i64 w], .box [i64 h]]) .none := by
  refine detM_of_awp TTok mixed Try.func81 rfl rfl [104 + 2000000, 82 + 2000000, 83 + 2000000] (Nat.le_of_ble_eq_true rfl) (Nat.le_of_ble_eq_true rfl) (sigM_of rfl) ?_
  have hcl : (cutT v at' A B L.length).length = 1 + ((A (L.length + 1)).length + (B (L.length + 1 + (A (L.length + 1)).length)).length) := by rw [cutT, List.length_cons, List.length_append]; omega
  refine CallM.mk' [2000, 2001] (add_detM ks kerf L ⟨v, at', 0, 0, -1⟩ (by omega)) ⟨.cons (.obj (.cons (.hdl rfl rfl) (.cons (.s (SLe.refl _)) (.cons (.s (SLe.refl _)) .nil)))) (.cons (.bld (fun _ _ _ _ => SLe.refl _)) (.nil)), .cons (.ptr rfl) (.cons (.d (DLe.refl _)) .nil), rfl, rfl, fun h => absurd rfl h⟩ ?_
  refine Need.mk (by rw [List.length_append, List.length_singleton]; omega) ?_
  refine Need.mk (by kernel_rfl) ?_
  have e1 : (L ++ [⟨v, at', 0, 0, -1⟩] : List Nd).length = L.length + 1 := by simp
  have H1' := H1 (L ++ [⟨v, at', (L.length + 1 : Nat), 0, -1⟩]) (by simp only [List.length_append, List.length_singleton]; omega)
  simp only [List.length_append, List.length_singleton, List.append_assoc, List.singleton_append] at H1'
  refine CallM.mk' [2000, 2001, 2002, 2003, 2004, 2005, 2006] H1' ⟨.cons (.obj (.cons (.hdl rfl rfl) (.cons (.s (SLe.refl _)) (.cons (.s (SLe.refl _)) .nil)))) (.cons (mfitN' (by simp only [List.length_append, List.length_singleton]) (fun i hi j hj => ?_)) (.cons (.obj (.cons (.ptr rfl) .nil)) (.cons (.box (LLe.refl _)) (.cons (.box (LLe.refl _)) (.cons (.box (LLe.refl _)) (.cons (.box (LLe.refl _)) (.nil))))))), .cons (.ptr rfl) (.cons (.ptr rfl) (.cons (.ptr rfl) (.cons (.ptr rfl) (.nil)))), rfl, rfl, fun h => absurd rfl h⟩ ?_
  · have hle := lG_cell ndL nd0 (L ++ [⟨v, at', 0, 0, -1⟩]) ⟨v, at', (L.length + 1 : Nat), 0, -1⟩ L.length i j 2 5 (i64 (L ++ [⟨v, at', 0, 0, -1⟩] : List Nd).length) (by rw [e1] at hi; rw [e1]; exact hi) hj (by rw [e1]; rfl) (fun j hj hne => by
      rw [get_mid]
      match j, hj, hne with
      | 0, _, _ => rfl
      | 1, _, _ => rfl
      | 3, _, _ => rfl
      | 4, _, _ => rfl)
    rw [set_mid] at hle
    exact hle
  generalize hA : A (L.length + 1) = a at *
  refine Need.mk (by simp only [List.length_append, List.length_cons]; omega) ?_
  refine Need.mk (by kernel_rfl) ?_
  have e2 : (L ++ ⟨v, at', (L.length + 1 : Nat), 0, -1⟩ :: a : List Nd).length = L.length + 1 + a.length := by simp only [List.length_append, List.length_cons]; omega
  have H2' := H2 (L ++ ⟨v, at', (L.length + 1 : Nat), (L.length + 1 + a.length : Nat), -1⟩ :: a) (by rw [show (L ++ ⟨v, at', (L.length + 1 : Nat), (L.length + 1 + a.length : Nat), -1⟩ :: a : List Nd).length = L.length + 1 + a.length by simp only [List.length_append, List.length_cons]; omega]; omega)
  rw [show (L ++ ⟨v, at', (L.length + 1 : Nat), (L.length + 1 + a.length : Nat), -1⟩ :: a : List Nd).length = L.length + 1 + a.length by simp only [List.length_append, List.length_cons]; omega] at H2'
  refine CallM.mk' [2000, 2001, 2002, 2003, 2004, 2005, 2006] H2' ⟨.cons (.obj (.cons (.hdl rfl rfl) (.cons (.s (SLe.refl _)) (.cons (.s (SLe.refl _)) .nil)))) (.cons (mfitN' (by simp only [List.length_append, List.length_cons]) (fun i hi j hj => ?_)) (.cons (.obj (.cons (.ptr rfl) .nil)) (.cons (.box (LLe.refl _)) (.cons (.box (LLe.refl _)) (.cons (.box (LLe.refl _)) (.cons (.box (LLe.refl _)) (.nil))))))), .cons (.ptr rfl) (.cons (.ptr rfl) (.cons (.ptr rfl) (.cons (.ptr rfl) (.cons (.ptr rfl) (.nil))))), rfl, rfl, fun h => absurd rfl h⟩ ?_
  · have hle := lG_cell ndL nd0 (L ++ ⟨v, at', (L.length + 1 : Nat), 0, -1⟩ :: a) ⟨v, at', (L.length + 1 : Nat), (L.length + 1 + a.length : Nat), -1⟩ L.length i j 3 5 (i64 (L ++ ⟨v, at', (L.length + 1 : Nat), 0, -1⟩ :: a : List Nd).length) hi hj (by rw [e2]; rfl) (fun j hj hne => by
      rw [get_mid]
      match j, hj, hne with
      | 0, _, _ => rfl
      | 1, _, _ => rfl
      | 2, _, _ => rfl
      | 4, _, _ => rfl)
    rw [set_mid] at hle
    exact hle
  have eC : L ++ ⟨v, at', (L.length + 1 : Nat), (L.length + 1 + a.length : Nat), -1⟩ :: a ++ B (L.length + 1 + a.length) = L ++ cutT v at' A B L.length := by rw [cutT, hA, List.append_assoc]; rfl
  rw [eC]
  refine EndM.mk ⟨.n 0, .none, .cons (.obj (.cons (.hdl rfl rfl rfl) (.cons (.s (SLe.refl _)) (.cons (.s (SLe.refl _)) .nil)))) (.cons (.bldN rfl (fun h => absurd h (by decide)) (fun i hi j hj => SLe.refl _)) (.cons (.obj (.cons (.ptr rfl) .nil)) (.cons (.box (LLe.refl _)) (.cons (.box (LLe.refl _)) (.cons (.box (LLe.refl _)) (.cons (.box (LLe.refl _)) (.nil _))))))), .inl rfl⟩
end St
end Go.Vm
namespace Go.Vm
set_option maxRecDepth 20000
set_option linter.unusedVariables false
set_option linter.unusedSimpArgs false
open Go Go.RowKit Go.Proofs
namespace St

def colT (ks : List Knd) (kind h : Int) (base : Nat) : List Nd := if (kget ks kind.toNat).h = h then [leafN kind] else cutT false (kget ks kind.toNat).h (fun _ => [leafN kind]) (fun _ => [leafN (-1)]) base
def stripT (ks : List Knd) (kerf : Int) : List Int → Int → Int → Nat → List Nd
  | [], _, _, _ => [leafN (-1)]
  | k :: r, w, h, base => if (kget ks k.toNat).w = w then colT ks k h base else cutT true (kget ks k.toNat).w (fun b => colT ks k h b) (fun b => stripT ks kerf r (w - (kget ks k.toNat).w - kerf) h b) base
def sheetT (ks : List Knd) (kerf : Int) : List (Int × List Int) → Int → Int → Nat → List Nd
  | [], _, _, _ => [leafN (-1)]
  | p :: r, w, h, base => if p.1 = h then stripT ks kerf p.2 w h base else cutT false p.1 (fun b => stripT ks kerf p.2 w p.1 b) (fun b => sheetT ks kerf r w (h - p.1 - kerf) b) base
structure KsOk (ks : List Knd) (kerf : Int) : Prop where
  ok : ∀ k ∈ ks, KOk k
  len : ks.length ≤ 1000
  k0 : 0 ≤ kerf
  k1 : kerf ≤ 50
theorem KsOk.at' {ks : List Knd} {kerf : Int} (p : KsOk ks kerf) {i : Nat} (hi : i < ks.length) : KOk (kget ks i) := p.ok _ (kget_mem hi)
section
variable (ks : List Knd) (kerf : Int)
theorem colA_detM (kind : Int) (L : List Nd) (hL : L.length + 1 ≤ 100000000) : DetM Try.prog 113 [.ptr (.n 2002) 0, .ptr (.n 2003) 0] (mkM ks kerf 1 L ++ [.obj [.ptr (.n 2000) 0], .box [i64 kind]]) (.tup []) (mkM ks kerf 3 (L ++ [leafN kind]) ++ [.obj [.ptr (.n 2000) 0], .box [i64 kind]]) .none := by
  refine detM_of_awp TTok mixed Try.func113 rfl rfl [100 + 2000000] (Nat.le_of_ble_eq_true rfl) (Nat.le_of_ble_eq_true rfl) (sigM_of rfl) ?_
  refine CallM.mk' [2000, 2001] (leaf_detM ks kerf L kind (by omega)) ⟨.cons (.obj (.cons (.hdl rfl rfl) (.cons (.s (SLe.refl _)) (.cons (.s (SLe.refl _)) .nil)))) (.cons (.bld (fun _ _ _ _ => SLe.refl _)) .nil), .cons (.ptr rfl) (.cons (.d (DLe.refl _)) .nil), rfl, rfl, fun h => absurd rfl h⟩ ?_
  refine EndM.mk ⟨.n 0, .none, .cons (.obj (.cons (.hdl rfl rfl rfl) (.cons (.s (SLe.refl _)) (.cons (.s (SLe.refl _)) .nil)))) (.cons (.bldN rfl (fun h => absurd h (by decide)) (fun i hi j hj => SLe.refl _)) (.cons (.obj (.cons (.ptr rfl) .nil)) (.cons (.box (LLe.refl _)) (.nil _)))), .inl rfl⟩
theorem column_detM (kind h : Int) (h0 : 0 ≤ kind) (h1 : kind < ks.length) (L : List Nd) (hL : L.length + (colT ks kind h L.length).length ≤ 100000000) : DetM Try.prog 101 [.ptr (.n 2000) 0, tint kind, tint h] (mkM ks kerf 1 L) (.tup []) (mkM ks kerf 3 (L ++ colT ks kind h L.length)) .none := by
  refine detM_of_awp TTok mixed Try.func101 rfl rfl [100 + 2000000, 81 + 2000000] (Nat.le_of_ble_eq_true rfl) (Nat.le_of_ble_eq_true rfl) (sigM_of rfl) ?_
  refine Need.mk (by omega) ?_
  refine Need.mk (by kernel_rfl) ?_
  refine Split.mk (fun g => ?_) (fun g => ?_)
  · have g' : (kget ks kind.toNat).h = h := by simpa using g
    have e : colT ks kind h L.length = [leafN kind] := by rw [colT, if_pos g']
    rw [e] at hL ⊢
    refine CallM.mk' [2000, 2001] (leaf_detM ks kerf L kind (by simp at hL; omega)) ⟨.cons (.obj (.cons (.hdl rfl rfl) (.cons (.s (SLe.refl _)) (.cons (.s (SLe.refl _)) .nil)))) (.cons (.bld (fun _ _ _ _ => SLe.refl _)) .nil), .cons (.ptr rfl) (.cons (.d (DLe.refl _)) .nil), rfl, rfl, fun h => absurd rfl h⟩ ?_
    refine EndM.mk ⟨.n 0, .none, .cons (.obj (.cons (.hdl rfl rfl rfl) (.cons (.s (SLe.refl _)) (.cons (.s (SLe.refl _)) .nil)))) (.cons (.bldN rfl (fun h => absurd h (by decide)) (fun i hi j hj => SLe.refl _)) (.nil _)), .inl rfl⟩
  · have g' : ¬ (kget ks kind.toNat).h = h := by simpa using g
    have e : colT ks kind h L.length = cutT false (kget ks kind.toNat).h (fun _ => [leafN kind]) (fun _ => [leafN (-1)]) L.length := by rw [colT, if_neg g']
    rw [e] at hL ⊢
    refine Need.mk (by omega) ?_
    refine CallM.mk' [2000, 2001, 3, 4] (cutCol_detM ks kerf kind false (kget ks kind.toNat).h (fun _ => [leafN kind]) (fun _ => [leafN (-1)]) (fun L' hL' => colA_detM ks kerf kind L' hL') (fun L' hL' => waste_detM ks kerf L' (by omega)) L hL)
      ⟨.cons (.obj (.cons (.hdl rfl rfl) (.cons (.s (SLe.refl _)) (.cons (.s (SLe.refl _)) .nil)))) (.cons (.bld (fun _ _ _ _ => SLe.refl _)) (.cons (.obj (.cons (.ptr rfl) .nil)) (.cons (.box (LLe.refl _)) .nil))), .cons (.ptr rfl) (.cons (.d (DLe.refl _)) (.cons (.d (DLe.refl _)) (.cons (.clo (.cons (.ptr rfl) (.cons (.ptr rfl) .nil))) (.cons (.clo (.cons (.ptr rfl) .nil)) .nil)))), rfl, rfl, fun h => absurd rfl h⟩ ?_
    refine Need.mk (by kernel_rfl) ?_
    refine EndM.mk ⟨.n 0, .none, .cons (.obj (.cons (.hdl rfl rfl rfl) (.cons (.s (SLe.refl _)) (.cons (.s (SLe.refl _)) .nil)))) (.cons (.bldN rfl (fun h => absurd h (by decide)) (fun i hi j hj => SLe.refl _)) (.nil _)), .inl rfl⟩
abbrev stR (cols : List Int) (w k h : Int) : List Mem := [.obj [.ptr (.n 2000) 0], .box [iS cols], .box [i64 w], .box [i64 k], .box [i64 h]]
theorem stripA_detM (cols : List Int) (w k h : Int) (h0 : 0 ≤ k) (h1 : k < ks.length) (L : List Nd) (hL : L.length + (colT ks k h L.length).length ≤ 100000000) :
    DetM Try.prog 102 [.ptr (.n 2002) 0, .ptr (.n 2005) 0, .ptr (.n 2006) 0] (mkM ks kerf 1 L ++ stR cols w k h) (.tup []) (mkM ks kerf 3 (L ++ colT ks k h L.length) ++ stR cols w k h) .none := by
  refine detM_of_awp TTok mixed Try.func102 rfl rfl [101 + 2000000] (Nat.le_of_ble_eq_true rfl) (Nat.le_of_ble_eq_true rfl) (sigM_of rfl) ?_
  refine CallM.mk' [2000, 2001] (column_detM ks kerf k h h0 h1 L hL) ⟨.cons (.obj (.cons (.hdl rfl rfl) (.cons (.s (SLe.refl _)) (.cons (.s (SLe.refl _)) .nil)))) (.cons (.bld (fun _ _ _ _ => SLe.refl _)) .nil), .cons (.ptr rfl) (.cons (.d (DLe.refl _)) (.cons (.d (DLe.refl _)) .nil)), rfl, rfl, fun h => absurd rfl h⟩ ?_
  refine EndM.mk ⟨.n 0, .none, .cons (.obj (.cons (.hdl rfl rfl rfl) (.cons (.s (SLe.refl _)) (.cons (.s (SLe.refl _)) .nil)))) (.cons (.bldN rfl (fun h => absurd h (by decide)) (fun i hi j hj => SLe.refl _)) (.cons (.obj (.cons (.ptr rfl) .nil)) (.cons (.box (LLe.refl _)) (.cons (.box (LLe.refl _)) (.cons (.box (LLe.refl _)) (.cons (.box (LLe.refl _)) (.nil _))))))), .inl rfl⟩
theorem tailS {α : Type} (f : α → List SV) (d x : α) (l : List α) (n m k : Nat) (hm : m = l.length) : DLe (.one (.sl m k fun i j => lG f d (x :: l) (1 + i) j)) (.one (.sl l.length k (lG f d l))) := by
  subst hm
  refine DLe.one (SLe.sl (fun i hi j hj => SLe.of_eq (lG_eq ?_ j)))
  rw [Nat.add_comm 1 i]
  simp [List.getD]
theorem stripB_detM (p : KsOk ks kerf) (k : Int) (cols : List Int) (w h : Int) (h0 : 0 ≤ k) (h1 : k < ks.length) (hw0 : -900000000 ≤ w) (hw1 : w ≤ 100000) (L : List Nd)
    (IH : DetM Try.prog 80 [.ptr (.n 2000) 0, .d (.one (iS cols)), tint (w - (kget ks k.toNat).w - kerf), tint h] (mkM ks kerf 1 L) (.tup []) (mkM ks kerf 3 (L ++ stripT ks kerf cols (w - (kget ks k.toNat).w - kerf) h L.length)) .none) :
    DetM Try.prog 103 [.ptr (.n 2002) 0, .ptr (.n 2003) 0, .ptr (.n 2004) 0, .ptr (.n 2005) 0, .ptr (.n 2006) 0] (mkM ks kerf 1 L ++ stR (k :: cols) w k h) (.tup []) (mkM ks kerf 3 (L ++ stripT ks kerf cols (w - (kget ks k.toNat).w - kerf) h L.length) ++ stR (k :: cols) w k h) .none := by
  have ko := p.at' (i := k.toNat) (by omega)
  have := ko.w0; have := ko.w1; have := p.k0; have := p.k1
  refine detM_of_awp TTok mixed Try.func103 rfl rfl [80 + 2000000] (Nat.le_of_ble_eq_true rfl) (Nat.le_of_ble_eq_true rfl) (sigM_of rfl) ?_
  refine Need.mk (by rw [List.length_cons]; omega) ?_
  refine Need.mk (by omega) ?_
  have e : IntKind.i64.wrap (IntKind.i64.wrap (w - (kget ks k.toNat).w) - kerf) = w - (kget ks k.toNat).w - kerf := by rw [hw (w - (kget ks k.toNat).w) (by omega) (by omega), hw _ (by omega) (by omega)]
  refine CallM.mk' [2000, 2001] IH ⟨.cons (.obj (.cons (.hdl rfl rfl) (.cons (.s (SLe.refl _)) (.cons (.s (SLe.refl _)) .nil)))) (.cons (.bld (fun _ _ _ _ => SLe.refl _)) .nil), .cons (.ptr rfl) (.cons (.d (tailS iL 0 k cols 0 _ 1 (by simp))) (.cons (.d (DLe.of_eq (congrArg (fun n => DV.one (i64 n)) e))) (.cons (.d (DLe.refl _)) .nil))), rfl, rfl, fun h => absurd rfl h⟩ ?_
  refine Need.mk (by kernel_rfl) ?_
  refine EndM.mk ⟨.n 0, .none, .cons (.obj (.cons (.hdl rfl rfl rfl) (.cons (.s (SLe.refl _)) (.cons (.s (SLe.refl _)) .nil)))) (.cons (.bldN rfl (fun h => absurd h (by decide)) (fun i hi j hj => SLe.refl _)) (.cons (.obj (.cons (.ptr rfl) .nil)) (.cons (.box (LLe.refl _)) (.cons (.box (LLe.refl _)) (.cons (.box (LLe.refl _)) (.cons (.box (LLe.refl _)) (.nil _))))))), .inl rfl⟩
theorem strip_detM (p : KsOk ks kerf) : ∀ (cols : List Int) (w h : Int) (_ : ∀ c ∈ cols, 0 ≤ c ∧ c < ks.length) (_ : -900000000 + 3000 * cols.length ≤ w) (_ : w ≤ 100000) (L : List Nd) (_ : L.length + (stripT ks kerf cols w h L.length).length ≤ 100000000),
    DetM Try.prog 80 [.ptr (.n 2000) 0, .d (.one (iS cols)), tint w, tint h] (mkM ks kerf 1 L) (.tup []) (mkM ks kerf 3 (L ++ stripT ks kerf cols w h L.length)) .none
  | [], w, h, hc, hw0, hw1, L, hL => by
    refine detM_of_awp TTok mixed Try.func80 rfl rfl [79 + 2000000, 81 + 2000000, 101 + 2000000] (Nat.le_of_ble_eq_true rfl) (Nat.le_of_ble_eq_true rfl) (sigM_of rfl) ?_
    refine Split.t ?_
    simp only [stripT, List.length_singleton] at hL
    refine CallM.mk' [2000, 2001] (waste_detM ks kerf L (by omega)) ⟨.cons (.obj (.cons (.hdl rfl rfl) (.cons (.s (SLe.refl _)) (.cons (.s (SLe.refl _)) .nil)))) (.cons (.bld (fun _ _ _ _ => SLe.refl _)) .nil), .cons (.ptr rfl) .nil, rfl, rfl, fun h => absurd rfl h⟩ ?_
    refine EndM.mk ⟨.n 0, .none, .cons (.obj (.cons (.hdl rfl rfl rfl) (.cons (.s (SLe.refl _)) (.cons (.s (SLe.refl _)) .nil)))) (.cons (.bldN rfl (fun h => absurd h (by decide)) (fun i hi j hj => SLe.refl _)) (.nil _)), .inl rfl⟩
  | k :: r, w, h, hc, hw0, hw1, L, hL => by
    obtain ⟨h0, h1⟩ := hc k (by simp)
    have ko := p.at' (i := k.toNat) (by omega)
    have := ko.w0; have := ko.w1; have := p.k0; have := p.k1
    rw [List.length_cons] at hw0
    refine detM_of_awp TTok mixed Try.func80 rfl rfl [79 + 2000000, 81 + 2000000, 101 + 2000000] (Nat.le_of_ble_eq_true rfl) (Nat.le_of_ble_eq_true rfl) (sigM_of rfl) ?_
    refine Split.isF (by simp; omega) ?_
    refine Need.mk (by rw [List.length_cons]; omega) ?_
    refine Need.mk (by show 0 ≤ k ∧ k < (ks.length : Int); omega) ?_
    refine Need.mk (by kernel_rfl) ?_
    show Split ((kget ks k.toNat).w == w) _
    refine Split.mk (fun g => ?_) (fun g => ?_)
    · have g' : (kget ks k.toNat).w = w := by simpa using g
      have e : stripT ks kerf (k :: r) w h L.length = colT ks k h L.length := by rw [stripT, if_pos g']
      rw [e] at hL ⊢
      refine CallM.mk' [2000, 2001] (column_detM ks kerf k h h0 h1 L hL) ⟨.cons (.obj (.cons (.hdl rfl rfl) (.cons (.s (SLe.refl _)) (.cons (.s (SLe.refl _)) .nil)))) (.cons (.bld (fun _ _ _ _ => SLe.refl _)) .nil), .cons (.ptr rfl) (.cons (.d (DLe.refl _)) (.cons (.d (DLe.refl _)) .nil)), rfl, rfl, fun h => absurd rfl h⟩ ?_
      refine EndM.mk ⟨.n 0, .none, .cons (.obj (.cons (.hdl rfl rfl rfl) (.cons (.s (SLe.refl _)) (.cons (.s (SLe.refl _)) .nil)))) (.cons (.bldN rfl (fun h => absurd h (by decide)) (fun i hi j hj => SLe.refl _)) (.nil _)), .inl rfl⟩
    · have g' : ¬ (kget ks k.toNat).w = w := by simpa using g
      have e : stripT ks kerf (k :: r) w h L.length = cutT true (kget ks k.toNat).w (fun b => colT ks k h b) (fun b => stripT ks kerf r (w - (kget ks k.toNat).w - kerf) h b) L.length := by rw [stripT, if_neg g']
      rw [e] at hL ⊢
      refine Need.mk (by show 0 ≤ k ∧ k < (ks.length : Int); omega) ?_
      refine CallM.mk' [2000, 2001, 4, 5, 6, 8, 7] (cutStrip_detM ks kerf (k :: r) w k h true (kget ks k.toNat).w (fun b => colT ks k h b) (fun b => stripT ks kerf r (w - (kget ks k.toNat).w - kerf) h b) (fun L' hL' => stripA_detM ks kerf (k :: r) w k h h0 h1 L' hL')
        (fun L' hL' => stripB_detM ks kerf p k r w h h0 h1 (by omega) hw1 L' (strip_detM p r _ h (fun c hcm => hc c (by simp [hcm])) (by omega) (by omega) L' hL')) L hL)
        ⟨.cons (.obj (.cons (.hdl rfl rfl) (.cons (.s (SLe.refl _)) (.cons (.s (SLe.refl _)) .nil)))) (.cons (.bld (fun _ _ _ _ => SLe.refl _)) (.cons (.obj (.cons (.ptr rfl) .nil)) (.cons (.box (LLe.refl _)) (.cons (.box (LLe.refl _)) (.cons (.box (LLe.refl _)) (.cons (.box (LLe.refl _)) .nil)))))), .cons (.ptr rfl) (.cons (.d (DLe.refl _)) (.cons (.d (DLe.refl _)) (.cons (.clo (.cons (.ptr rfl) (.cons (.ptr rfl) (.cons (.ptr rfl) .nil)))) (.cons (.clo (.cons (.ptr rfl) (.cons (.ptr rfl) (.cons (.ptr rfl) (.cons (.ptr rfl) (.cons (.ptr rfl) .nil)))))) .nil)))), rfl, rfl, fun h => absurd rfl h⟩ ?_
      refine Need.mk (by kernel_rfl) ?_
      refine EndM.mk ⟨.n 0, .none, .cons (.obj (.cons (.hdl rfl rfl rfl) (.cons (.s (SLe.refl _)) (.cons (.s (SLe.refl _)) .nil)))) (.cons (.bldN rfl (fun h => absurd h (by decide)) (fun i hi j hj => SLe.refl _)) (.nil _)), .inl rfl⟩
/-! ### sheet -/
abbrev hsP (ps : List (Int × List Int)) : List Int := ps.map Prod.fst
abbrev csP (ps : List (Int × List Int)) : List (List Int) := ps.map Prod.snd
abbrev shR (ps : List (Int × List Int)) (w h : Int) : List Mem := [.obj [.ptr (.n 2000) 0], .box [iS (hsP ps)], .box [ccS (csP ps)], .box [i64 w], .box [i64 h]]
structure ColsOk (ks : List Knd) (w : Int) (p : Int × List Int) : Prop where
  c : ∀ c ∈ p.2, 0 ≤ c ∧ c < ks.length
  l : -900000000 + 3000 * p.2.length ≤ w
  h0 : 0 ≤ p.1
  h1 : p.1 ≤ 2000
theorem sheetA_detM (p : KsOk ks kerf) (x : Int × List Int) (r : List (Int × List Int)) (w h : Int) (hx : ColsOk ks w x) (hw1 : w ≤ 100000) (L : List Nd) (hL : L.length + (stripT ks kerf x.2 w x.1 L.length).length ≤ 100000000) :
    DetM Try.prog 82 [.ptr (.n 2002) 0, .ptr (.n 2004) 0, .ptr (.n 2005) 0, .ptr (.n 2003) 0] (mkM ks kerf 1 L ++ shR (x :: r) w h) (.tup []) (mkM ks kerf 3 (L ++ stripT ks kerf x.2 w x.1 L.length) ++ shR (x :: r) w h) .none := by
  refine detM_of_awp TTok mixed Try.func82 rfl rfl [80 + 2000000] (Nat.le_of_ble_eq_true rfl) (Nat.le_of_ble_eq_true rfl) (sigM_of rfl) ?_
  refine Need.mk (by rw [List.length_map, List.length_cons]; omega) ?_
  refine Need.mk (by rw [List.length_map, List.length_cons]; omega) ?_
  refine CallM.mk' [2000, 2001] (strip_detM ks kerf p x.2 w x.1 hx.c hx.l hw1 L hL) ⟨.cons (.obj (.cons (.hdl rfl rfl) (.cons (.s (SLe.refl _)) (.cons (.s (SLe.refl _)) .nil)))) (.cons (.bld (fun _ _ _ _ => SLe.refl _)) .nil), .cons (.ptr rfl) (.cons (.d (DLe.refl _)) (.cons (.d (DLe.refl _)) (.cons (.d (DLe.refl _)) .nil))), rfl, rfl, fun h => absurd rfl h⟩ ?_
  refine Need.mk (by kernel_rfl) ?_
  refine EndM.mk ⟨.n 0, .none, .cons (.obj (.cons (.hdl rfl rfl rfl) (.cons (.s (SLe.refl _)) (.cons (.s (SLe.refl _)) .nil)))) (.cons (.bldN rfl (fun h => absurd h (by decide)) (fun i hi j hj => SLe.refl _)) (.cons (.obj (.cons (.ptr rfl) .nil)) (.cons (.box (LLe.refl _)) (.cons (.box (LLe.refl _)) (.cons (.box (LLe.refl _)) (.cons (.box (LLe.refl _)) (.nil _))))))), .inl rfl⟩
theorem sheetB_detM (p : KsOk ks kerf) (x : Int × List Int) (r : List (Int × List Int)) (w h : Int) (hx : ColsOk ks w x) (hh0 : -900000000 ≤ h) (hh1 : h ≤ 100000) (L : List Nd)
    (IH : DetM Try.prog 50 [.ptr (.n 2000) 0, .d (.one (iS (hsP r))), .d (.one (ccS (csP r))), tint w, tint (h - x.1 - kerf)] (mkM ks kerf 1 L) (.tup []) (mkM ks kerf 3 (L ++ sheetT ks kerf r w (h - x.1 - kerf) L.length)) .none) :
    DetM Try.prog 83 [.ptr (.n 2002) 0, .ptr (.n 2003) 0, .ptr (.n 2004) 0, .ptr (.n 2005) 0, .ptr (.n 2006) 0] (mkM ks kerf 1 L ++ shR (x :: r) w h) (.tup []) (mkM ks kerf 3 (L ++ sheetT ks kerf r w (h - x.1 - kerf) L.length) ++ shR (x :: r) w h) .none := by
  have := hx.h0; have := hx.h1; have := p.k0; have := p.k1
  refine detM_of_awp TTok mixed Try.func83 rfl rfl [50 + 2000000] (Nat.le_of_ble_eq_true rfl) (Nat.le_of_ble_eq_true rfl) (sigM_of rfl) ?_
  refine Need.mk (by rw [List.length_map, List.length_cons]; omega) ?_
  refine Need.mk (by rw [List.length_map, List.length_cons]; omega) ?_
  refine Need.mk (by rw [List.length_map, List.length_cons]; omega) ?_
  have e : IntKind.i64.wrap (IntKind.i64.wrap (h - x.1) - kerf) = h - x.1 - kerf := by rw [hw (h - x.1) (by omega) (by omega), hw _ (by omega) (by omega)]
  refine CallM.mk' [2000, 2001] IH ⟨.cons (.obj (.cons (.hdl rfl rfl) (.cons (.s (SLe.refl _)) (.cons (.s (SLe.refl _)) .nil)))) (.cons (.bld (fun _ _ _ _ => SLe.refl _)) .nil), .cons (.ptr rfl) (.cons (.d (tailS iL 0 x.1 (hsP r) 0 _ 1 (by simp))) (.cons (.d (tailS ccL [] x.2 (csP r) 0 _ 1 (by simp))) (.cons (.d (DLe.refl _)) (.cons (.d (DLe.of_eq (congrArg (fun n => DV.one (i64 n)) e))) .nil)))), rfl, rfl, fun h => absurd rfl h⟩ ?_
  refine Need.mk (by kernel_rfl) ?_
  refine EndM.mk ⟨.n 0, .none, .cons (.obj (.cons (.hdl rfl rfl rfl) (.cons (.s (SLe.refl _)) (.cons (.s (SLe.refl _)) .nil)))) (.cons (.bldN rfl (fun h => absurd h (by decide)) (fun i hi j hj => SLe.refl _)) (.cons (.obj (.cons (.ptr rfl) .nil)) (.cons (.box (LLe.refl _)) (.cons (.box (LLe.refl _)) (.cons (.box (LLe.refl _)) (.cons (.box (LLe.refl _)) (.nil _))))))), .inl rfl⟩
theorem sheet_detM (p : KsOk ks kerf) (w : Int) (hw1 : w ≤ 100000) : ∀ (ps : List (Int × List Int)) (h : Int) (_ : ∀ x ∈ ps, ColsOk ks w x) (_ : -900000000 + 3000 * ps.length ≤ h) (_ : h ≤ 100000) (L : List Nd) (_ : L.length + (sheetT ks kerf ps w h L.length).length ≤ 100000000),
    DetM Try.prog 50 [.ptr (.n 2000) 0, .d (.one (iS (hsP ps))), .d (.one (ccS (csP ps))), tint w, tint h] (mkM ks kerf 1 L) (.tup []) (mkM ks kerf 3 (L ++ sheetT ks kerf ps w h L.length)) .none
  | [], h, hc, hh0, hh1, L, hL => by
    refine detM_of_awp TTok mixed Try.func50 rfl rfl [79 + 2000000, 81 + 2000000, 80 + 2000000] (Nat.le_of_ble_eq_true rfl) (Nat.le_of_ble_eq_true rfl) (sigM_of rfl) ?_
    refine Split.t ?_
    simp only [sheetT, List.length_singleton] at hL
    refine CallM.mk' [2000, 2001] (waste_detM ks kerf L (by omega)) ⟨.cons (.obj (.cons (.hdl rfl rfl) (.cons (.s (SLe.refl _)) (.cons (.s (SLe.refl _)) .nil)))) (.cons (.bld (fun _ _ _ _ => SLe.refl _)) .nil), .cons (.ptr rfl) .nil, rfl, rfl, fun h => absurd rfl h⟩ ?_
    refine EndM.mk ⟨.n 0, .none, .cons (.obj (.cons (.hdl rfl rfl rfl) (.cons (.s (SLe.refl _)) (.cons (.s (SLe.refl _)) .nil)))) (.cons (.bldN rfl (fun h => absurd h (by decide)) (fun i hi j hj => SLe.refl _)) (.nil _)), .inl rfl⟩
  | x :: r, h, hc, hh0, hh1, L, hL => by
    have hx := hc x (by simp)
    have := hx.h0; have := hx.h1; have := p.k0; have := p.k1
    rw [List.length_cons] at hh0
    refine detM_of_awp TTok mixed Try.func50 rfl rfl [79 + 2000000, 81 + 2000000, 80 + 2000000] (Nat.le_of_ble_eq_true rfl) (Nat.le_of_ble_eq_true rfl) (sigM_of rfl) ?_
    refine Split.isF (by simp; omega) ?_
    refine Need.mk (by rw [List.length_map, List.length_cons]; omega) ?_
    refine Need.mk (by kernel_rfl) ?_
    show Split (x.1 == h) _
    refine Split.mk (fun g => ?_) (fun g => ?_)
    · have g' : x.1 = h := by simpa using g
      have e : sheetT ks kerf (x :: r) w h L.length = stripT ks kerf x.2 w h L.length := by rw [sheetT, if_pos g']
      rw [e] at hL ⊢
      refine Need.mk (by rw [List.length_map, List.length_cons]; omega) ?_
      refine CallM.mk' [2000, 2001] (strip_detM ks kerf p x.2 w h hx.c hx.l hw1 L hL) ⟨.cons (.obj (.cons (.hdl rfl rfl) (.cons (.s (SLe.refl _)) (.cons (.s (SLe.refl _)) .nil)))) (.cons (.bld (fun _ _ _ _ => SLe.refl _)) .nil), .cons (.ptr rfl) (.cons (.d (DLe.refl _)) (.cons (.d (DLe.refl _)) (.cons (.d (DLe.refl _)) .nil))), rfl, rfl, fun h => absurd rfl h⟩ ?_
      refine Need.mk (by kernel_rfl) ?_
      refine EndM.mk ⟨.n 0, .none, .cons (.obj (.cons (.hdl rfl rfl rfl) (.cons (.s (SLe.refl _)) (.cons (.s (SLe.refl _)) .nil)))) (.cons (.bldN rfl (fun h => absurd h (by decide)) (fun i hi j hj => SLe.refl _)) (.nil _)), .inl rfl⟩
    · have g' : ¬ x.1 = h := by simpa using g
      have e : sheetT ks kerf (x :: r) w h L.length = cutT false x.1 (fun b => stripT ks kerf x.2 w x.1 b) (fun b => sheetT ks kerf r w (h - x.1 - kerf) b) L.length := by rw [sheetT, if_neg g']
      rw [e] at hL ⊢
      refine Need.mk (by rw [List.length_map, List.length_cons]; omega) ?_
      refine CallM.mk' [2000, 2001, 5, 6, 7, 8, 9] (cutSheet_detM ks kerf (hsP (x :: r)) (csP (x :: r)) w h false x.1 (fun b => stripT ks kerf x.2 w x.1 b) (fun b => sheetT ks kerf r w (h - x.1 - kerf) b) (fun L' hL' => sheetA_detM ks kerf p x r w h hx hw1 L' hL')
        (fun L' hL' => sheetB_detM ks kerf p x r w h hx (by omega) hh1 L' (sheet_detM p w hw1 r _ (fun y hy => hc y (by simp [hy])) (by omega) (by omega) L' hL')) L hL)
        ⟨.cons (.obj (.cons (.hdl rfl rfl) (.cons (.s (SLe.refl _)) (.cons (.s (SLe.refl _)) .nil)))) (.cons (.bld (fun _ _ _ _ => SLe.refl _)) (.cons (.obj (.cons (.ptr rfl) .nil)) (.cons (.box (LLe.refl _)) (.cons (.box (LLe.refl _)) (.cons (.box (LLe.refl _)) (.cons (.box (LLe.refl _)) .nil)))))), .cons (.ptr rfl) (.cons (.d (DLe.refl _)) (.cons (.d (DLe.refl _)) (.cons (.clo (.cons (.ptr rfl) (.cons (.ptr rfl) (.cons (.ptr rfl) (.cons (.ptr rfl) .nil))))) (.cons (.clo (.cons (.ptr rfl) (.cons (.ptr rfl) (.cons (.ptr rfl) (.cons (.ptr rfl) (.cons (.ptr rfl) .nil)))))) .nil)))), rfl, rfl, fun h => absurd rfl h⟩ ?_
      refine Need.mk (by kernel_rfl) ?_
      refine EndM.mk ⟨.n 0, .none, .cons (.obj (.cons (.hdl rfl rfl rfl) (.cons (.s (SLe.refl _)) (.cons (.s (SLe.refl _)) .nil)))) (.cons (.bldN rfl (fun h => absurd h (by decide)) (fun i hi j hj => SLe.refl _)) (.nil _)), .inl rfl⟩
end
end St
end Go.Vm
